/-
  HeapWhole: the walk.
-/
import Derived.Test.YtgakkkifohkikaaWholeR
import Derived.Deep.Cut
import Derived.Deep.CutRange
namespace Go.Proofs.Ytgakkkifohkikaa
open Go.RowKit

set_option maxRecDepth 100000 in
set_option maxHeartbeats 40000000 in
theorem whole_walk (a0 : Int) (a1 : Option Addr) (len1 cap1 : Nat) (z1 : List Int) (W : World) (w0 : (Lit.int .u16 a0).wf = true) (w1 : IsRow .u16 W a1 len1 cap1 z1) :
    Calls Try.prog 5 #[.int .u16 a0, .slice a1 len1 cap1] W fun e w' => e = .returned (.bool true) ∧ Fr [] W w' := by
  obtain ⟨b0, b1⟩ := bounds_u16 w0
  have HR := hid w1
  clear w0 w1
  go_enter Try.func5, Try.ntmps5
  go_wp2_with fail
  refine (known_any W).mono ?_
  rintro e wA ⟨rfl, f0⟩
  have F0 := hid f0
  clear f0
  by_cases hbig : 80 < len1
  · have hb2 : (80 : Int) < len1 := by omega
    have hb3 : decide (80 < len1) = true := by simpa using hbig
    go_wp2_with fail
    go_ret
    exact ⟨rfl, F0.out⟩
  have hb2 : ¬ (80 : Int) < len1 := by omega
  have hb3 : decide (80 < len1) = false := by simpa using hbig
  have hlen : (len1 : Int) ≤ 80 := by omega
  clear hbig
  obtain ⟨n, hn, hn3⟩ : ∃ n : Nat, a0 % 300 = (n : Int) ∧ n < 300 := ⟨(a0 % 300).toNat, by omega, by omega⟩
  have hsz : sizeN (n : Int) = n := by unfold sizeN; omega
  have HSZ := hid hsz
  have hnb : (n : Int) ≤ 300 := by omega
  clear hsz
  go_wp2_with fail
  refine (Own.new W wA F0.out _).mono ?_
  rintro e wB ⟨hb, rfl, h1⟩
  rw [HSZ.out] at h1
  have H1 : Hid (WR W wB (.pointer (some ⟨hb, 0, none⟩)) n (.slice none 0 0) [] []) := hid ⟨OwnL.start h1, by simp, by simp⟩
  clear h1
  obtain ⟨i0, hi0, hz0, hzs, hzb⟩ := info_parts info_Int
  have HI := hid hi0
  have HZ0 := hid hz0
  have HZS := hid hzs
  have HZB := hid hzb
  clear hi0 hz0 hzs hzb
  go_wp2_with fail
  go_loopw [7, 8] (fun v i wr => ∃ (ii : Nat) (l : List Int) (L : List Ob), i = .int .i64 ii ∧ ii ≤ len1 ∧ Hid (WR W wr (.pointer (some ⟨hb, 0, none⟩)) n v l L)) (fun _ i _ => len1 - (intOf i).toNat)
  case atStart => exact ⟨0, [], [], rfl, by omega, H1⟩
  case round =>
    obtain ⟨ii, l, L, rfl, hii, hr⟩ := hrel
    by_cases hi : ii < len1
    · have hi2 : (ii : Int) < len1 := by omega
      obtain ⟨b1, o1, rfl, hc0, hwf⟩ := HR.out.cell ii hi
      have hc1 := hr.out.own.own.fr.cell hc0 (by simp)
      obtain ⟨y0, y1⟩ := bounds_u16 hwf
      obtain ⟨y, hy⟩ : ∃ y, y = z1.getD ii 0 := ⟨_, rfl⟩
      rw [← hy] at hc1 y0 y1
      obtain ⟨q, hq⟩ : ∃ q : Nat, y.tdiv 4 = (q : Int) := ⟨(y / 4).toNat, by rw [Int.tdiv_eq_ediv_of_nonneg y0]; omega⟩
      have hq2 : q ≤ 65535 := by rw [Int.tdiv_eq_ediv_of_nonneg y0] at hq; omega
      have hwq : IntKind.u16.wrap (q : Int) = q := by rw [IntKind.wrap_u16]; omega
      obtain ⟨s, hs, hs20⟩ : ∃ s : Nat, (q : Int).tmod 20 = (s : Int) ∧ s < 20 := ⟨q % 20, by rw [Int.tmod_eq_emod_of_nonneg (by omega)]; omega, by omega⟩
      have hs' : (q : Int) % 20 = (s : Int) := by rw [← hs, Int.tmod_eq_emod_of_nonneg (by omega)]
      have hsb : (s : Int) ≤ 20 := by omega
      have hiib : (ii : Int) ≤ 80 := by omega
      obtain ⟨av, cv, hv, hcv, hcv2⟩ := hr.out.own.sl.form
      subst hv
      obtain ⟨ln, hln⟩ : ∃ n, n = l.length := ⟨_, rfl⟩
      have hLn := Rise.length hr.out.own.own.own.rise
      have hlL := hr.out.m.length hr.out.own.own.own.rise
      rw [← hln] at hcv hr ⊢
      have hlnb : (ln : Int) ≤ 300 := by omega
      have HLN := hid hln
      unfold maxLen at hcv2
      clear hln hLn hlL hwf hc0 hy
      obtain ⟨cb, hcbe⟩ : ∃ cb : Bool, cb = decide (y % 4 < 3 ∨ ln = 0) := ⟨_, rfl⟩
      have HCB := hid hcbe
      clear hcbe
      go_upto_region 12 with (fail)
      go_cut [55] from 45 to 55 (fun c wx => c = .bool cb ∧ wx = wr)
      case first =>
        by_cases hA : y % 4 < 3
        · have hA2 : decide (y % 4 < 3) = true := by simpa using hA
          have hA3 : decide (y % 4 < 3 ∨ ln = 0) = true := by rw [decide_eq_true_eq]; exact .inl hA
          have HA3 := hid hA3
          clear hA hA3
          go_wp2_with fail
          go_meet
          case rel => exact ⟨by rw [HCB.out, HA3.out], rfl⟩
        · have hA2 : decide (y % 4 < 3) = false := by simpa using hA
          by_cases hB : ln = 0
          · have hB2 : ((ln : Int) == 0) = true := by
              have : (ln : Int) = 0 := by omega
              simpa using this
            have hA3 : decide (y % 4 < 3 ∨ ln = 0) = true := by rw [decide_eq_true_eq]; exact .inr hB
            have HA3 := hid hA3
            clear hA hA3 hB
            go_wp2_with fail
            go_meet
            case rel => exact ⟨by rw [HCB.out, HA3.out], rfl⟩
          · have hB2 : ((ln : Int) == 0) = false := by
              have : ¬ (ln : Int) = 0 := by omega
              simpa using this
            have hA3 : decide (y % 4 < 3 ∨ ln = 0) = false := by rw [decide_eq_false_iff_not]; omega
            have HA3 := hid hA3
            clear hA hA3 hB
            go_wp2_with fail
            go_meet
            case rel => exact ⟨by rw [HCB.out, HA3.out], rfl⟩
      case rest =>
        obtain ⟨rfl, rfl⟩ := hcut
        go_upto_if 55 with (fail)
        go_cut [7, 9, 10, 11, 12, 13, 14] from 32 to 240 (fun v7 v9 v10 v11 v12 v13 v14 wx => Hid (WRx W hb n v7 wx))
        case first =>
          cases cb with
          | true =>
            cases har : arAlloc n L 1 s with
            | none =>
              have E := hid (hr.out.own.own.alloc_no 1 s (by omega) har)
              have HPL := hid (place_none.1 (arAlloc_none har))
              clear har
              go_wp2_with fail
              refine E.out.mono ?_
              rintro e w2 ⟨rfl, hB⟩
              have H2 := hid (hr.out.own.next hB)
              clear hB
              go_wp2_with fail
              refine H2.out.own.own.free.mono ?_
              rintro e w3 ⟨⟨v3, rfl, hf3, f3, _⟩, _⟩
              have H3 := hid (H2.out.keep f3)
              obtain ⟨G, hG⟩ : ∃ G, G = gaps n 1 L := ⟨_, rfl⟩
              rw [← hG] at hf3 HPL
              have hgl := H2.out.own.own.glen
              rw [← hG] at hgl
              have hgb : ∀ g ∈ G, g.1 + g.2 ≤ n + 1 := fun g hg => (gaps_lb H2.out.own.own.rise g (by rw [← hG]; exact hg)).2.2
              obtain ⟨a3, c3, rfl, hca, hcb⟩ := hf3.form
              obtain ⟨gl, hgle⟩ : ∃ g, g = G.length := ⟨_, rfl⟩
              rw [← hgle] at hf3 hca hgl ⊢
              have HF3 := hid hf3
              have HGL := hid hgle
              have HGB := hid hgb
              have hglb : (gl : Int) ≤ 3000 := by omega
              unfold maxLen at hcb
              clear hf3 f3 hG hgle hgb hgl
              go_wp2_with fail
              go_loop [13] (fun k => ∃ kk : Nat, k = .int .i64 kk ∧ kk ≤ gl) (fun k => gl - (intOf k).toNat)
              case atStart => exact ⟨0, rfl, by omega⟩
              case round =>
                obtain ⟨kk, rfl, hk⟩ := hrel
                by_cases hkl : kk < gl
                · have hkl2 : (kk : Int) < gl := by omega
                  obtain ⟨⟨gx, gs⟩, hg⟩ : ∃ g, G[kk]? = some g := ⟨_, List.getElem?_eq_getElem (by rw [← HGL.out]; exact hkl)⟩
                  obtain ⟨bq, cq, e, k1, _⟩ := HF3.out.cell (kk * 2 + 1) (by omega)
                  cases e
                  rw [(blkL_get _ _ _ hg).2] at k1
                  have hgs := HPL.out _ (List.mem_of_getElem? hg)
                  have hgs2 := HGB.out _ (List.mem_of_getElem? hg)
                  simp only [vi] at k1 hgs hgs2
                  have hge : ¬ ((s : Int) + 2 ≤ gs) := by omega
                  have hge2 : decide ((s : Int) + 2 ≤ gs) = false := by simpa using hge
                  have hgsb : (gs : Int) ≤ 3000 := by omega
                  clear hg hgs hgs2
                  go_wp2_with fail
                  go_round
                  case rel => exact ⟨kk + 1, by go_num, by omega⟩
                  case measure => simp [intOf]; omega
                · obtain rfl : kk = gl := by omega
                  have hkl2 : ¬ (kk : Int) < kk := by omega
                  have hkl3 : decide (kk < kk) = false := by simp
                  clear hkl
                  go_wp2_with fail
                  go_meet
                  case rel => exact hid ⟨l, L, H3.out, hr.out.m⟩
            | some xl =>
              obtain ⟨x, L'⟩ := xl
              have E := hid (hr.out.own.own.alloc 1 s (by omega) har)
              have hM2 := hr.out.m.add hr.out.own.own.own.rise har
              have hxb : (x : Int) ≤ 3000 := by
                obtain ⟨hp, _⟩ := arAlloc_some har
                obtain ⟨G1, m, G2, hG, hm, _⟩ := place_some hp
                have := gaps_lb hr.out.own.own.own.rise (x, m) (by rw [hG]; simp)
                simp only [] at this
                omega
              have HM2 := hid hM2
              clear har hM2
              go_wp2_with fail
              refine E.out.mono ?_
              rintro e w2 ⟨rfl, hB⟩
              have H2 := hid (hr.out.own.next hB)
              clear hB
              go_wp2_with fail
              refine H2.out.own.own.free.mono ?_
              rintro e w3 ⟨⟨v3, rfl, hf3, f3, _⟩, _⟩
              have H3 := hid (H2.out.keep f3)
              have hgl := H2.out.own.own.glen
              obtain ⟨gl, hgle⟩ : ∃ g, g = (gaps n 1 L').length := ⟨_, rfl⟩
              rw [← hgle] at hf3 hgl
              obtain ⟨a3, c3, rfl, hca, hcb⟩ := hf3.form
              have hglb : (gl : Int) ≤ 3000 := by omega
              unfold maxLen at hcb
              clear hf3 f3 hgle hgl
              go_wp2_with fail
              go_loop [13] (fun k => k = .int .i64 0) (fun _ => 0)
              case atStart => exact rfl
              case round =>
                subst hrel
                have hsl : RV (w3.alloc (.cells #[.int .i64 x] 3)) 3 1 (.slice av ln cv) ln (l.map vi) := by
                  have := (H3.out.sl.keep0 ((Fr.refl [] w3).alloc (.cells #[.int .i64 x] 3)))
                  rw [← HLN.out] at this
                  exact this
                have HSL := hid hsl
                clear hsl
                by_cases hg0 : 0 < gl
                · have hg1 : (0 : Int) < gl := by omega
                  have hg2 : decide (0 < gl) = true := by simpa using hg0
                  go_wp2_with (at_builtin; refine wp_append_rv rfl (.tmp 84) (.tmp 86) 31 rfl 3 i0 (.int .i64 0) 1 8 Try.underlying31 HI.out HZ0.out HZS.out HZB.out rfl (by decide) (.slice av ln cv) ln _ rfl HSL.out ⟨w3.heap.size, 0, none⟩ 1 1 [vi x] rfl rfl (cell_one_new w3 _ _) (fun u hu => by rw [List.mem_singleton.1 hu]; rfl) (by unfold maxLen; omega) (by omega) ?_; intro a' c' w4 r4 f4 n4; have R4 := hid r4; have F4 := hid f4; have N4 := hid n4; clear r4 f4 n4)
                  go_meet
                  case rel =>
                    refine hid ⟨l ++ [(x : Int)], L', OwnL.grown (l := l) H3.out (((Fr.refl _ _).alloc _).tr F4.out) ?_ (fun b hb => ?_), HM2.out⟩
                    · have := R4.out
                      unfold RI
                      rw [List.map_append, List.length_append, ← HLN.out]
                      exact this
                    · rcases N4.out b hb with h | h
                      · exact .inl h
                      · right; rw [World.size_alloc] at h; omega
                · obtain rfl : gl = 0 := by omega
                  go_wp2_with (at_builtin; refine wp_append_rv rfl (.tmp 84) (.tmp 86) 31 rfl 3 i0 (.int .i64 0) 1 8 Try.underlying31 HI.out HZ0.out HZS.out HZB.out rfl (by decide) (.slice av ln cv) ln _ rfl HSL.out ⟨w3.heap.size, 0, none⟩ 1 1 [vi x] rfl rfl (cell_one_new w3 _ _) (fun u hu => by rw [List.mem_singleton.1 hu]; rfl) (by unfold maxLen; omega) (by omega) ?_; intro a' c' w4 r4 f4 n4; have R4 := hid r4; have F4 := hid f4; have N4 := hid n4; clear r4 f4 n4)
                  go_meet
                  case rel =>
                    refine hid ⟨l ++ [(x : Int)], L', OwnL.grown (l := l) H3.out (((Fr.refl _ _).alloc _).tr F4.out) ?_ (fun b hb => ?_), HM2.out⟩
                    · have := R4.out
                      unfold RI
                      rw [List.map_append, List.length_append, ← HLN.out]
                      exact this
                    · rcases N4.out b hb with h | h
                      · exact .inl h
                      · right; rw [World.size_alloc] at h; omega
          | false =>
            have hlnz : 0 < ln := by
              have := (decide_eq_false_iff_not.1 (HCB.out.symm))
              omega
            have hz2 : (0 : Int) < ln := by omega
            have hz4 : ¬ ((ln : Int) = 0) := by omega
            have hz5 : ((ln : Int) == 0) = false := by simpa using hz4
            obtain ⟨kk, hkm⟩ : ∃ kk : Nat, (q : Int) % (ln : Int) = (kk : Int) := ⟨q % ln, by omega⟩
            have hkk : kk < ln := by have := Int.emod_lt_of_pos (q : Int) hz2; omega
            have hkm2 : Int.tmod (q : Int) (ln : Int) = (kk : Int) := by rw [Int.tmod_eq_emod_of_nonneg (by omega)]; exact hkm
            have hkk2 : (kk : Int) < ln := by omega
            have hD := hr.out.m.drop (k := kk) (by rw [← HLN.out]; exact hkk)
            obtain ⟨bl0, cl0, hvl0, hck⟩ := hr.out.own.sl.cell kk (by rw [← HLN.out]; exact hkk)
            rw [← HLN.out] at hvl0
            cases hvl0
            have hxm : has L (l.getD kk 0) = true := hr.out.m.has (by
              have hk' : kk < l.length := by rw [← HLN.out]; exact hkk
              rw [List.getD, List.getElem?_eq_getElem hk']; exact List.getElem_mem hk')
            have hgone := relE_gone L _ hxm
            obtain ⟨x0, hx0⟩ : ∃ x, x = l.getD kk 0 := ⟨_, rfl⟩
            rw [← hx0] at hD hck hgone
            have E := hid (hr.out.own.own.release x0)
            rw [hD.1] at E
            have HM2 := hid hD.2
            have HGN := hid hgone
            clear hD hx0 hxm hgone
            go_wp2_with fail
            refine E.out.mono ?_
            rintro e w1 ⟨rfl, hB⟩
            have H1' := hid (hr.out.own.next hB)
            have hck1 : w1.cell? ⟨bl0, kk, none⟩ = some (.int .i64 x0) := by
              obtain ⟨S, f, hS⟩ := hB.2
              exact f.cell hck (hS bl0 (by simp [fpv, Value.ownBlock]))
            have E2 := hid (H1'.out.own.release x0)
            rw [HGN.out.1, HGN.out.2] at E2
            clear hB
            go_wp2_with fail
            refine E2.out.mono ?_
            rintro e w2 ⟨rfl, hB⟩
            have H2 := hid (H1'.out.next hB)
            clear hB hck hck1 hkm hkm2
            have hcells : ∀ (w' : World), Fr [] w2 w' → ∀ j u, (l.map vi)[j]? = some u → w'.cell? ⟨bl0, j, none⟩ = some u := fun w' f j u hj => by
              have hjl : j < l.length := by have := (List.getElem?_eq_some_iff.1 hj).1; simpa using this
              obtain ⟨b', c', e, h1⟩ := H2.out.sl.cell j hjl
              rw [← HLN.out] at e
              cases e
              refine f.cell (h1.trans ?_) (by simp)
              rw [← hj]
              simp [List.getD, hjl]
              rfl
            have HC := hid hcells
            clear hcells
            have hkcv : kk ≤ cv := by omega
            have hk1 : (0 : Int) ≤ (kk : Int) + 1 := by omega
            have hk2 : (kk : Int) + 1 ≤ ln := by omega
            have hk3 : ((kk : Int) + 1).toNat = kk + 1 := by omega
            have hkw : IntKind.i64.wrap ((kk : Int) + 1) = (kk : Int) + 1 := by rw [IntKind.wrap_i64]; omega
            have hll : (l.take kk ++ l.drop (kk + 1)).length = kk + (ln - (kk + 1)) := by rw [List.length_append, List.length_take, List.length_drop, ← HLN.out]; omega
            have HLL := hid hll
            have HHL := hid hlnz
            clear hll hlnz
            by_cases hcap : cv = kk + 1
            · have hlk : ln = kk + 1 := by omega
              subst hcap
              subst hlk
              have hsub0 : kk + 1 - (kk + 1) = 0 := by omega
              have hkc2 : (kk : Int) ≤ (kk : Int) + 1 := by omega
              go_wp2_with fail
              go_region_law (first | (refine step_append_rv rfl (.const (.slice none 0 0)) (.tmp 115) 31 rfl 3 i0 (.int .i64 0) 1 8 Try.underlying31 HI.out HZ0.out HZS.out HZB.out rfl (by decide) (.slice none 0 0) 0 [] rfl (RV.nil _ _ _) ⟨bl0, 0, none⟩ kk (kk + 1) ((l.map vi).take kk) (by simp [Act.eval, Act.put]) (by rw [List.length_take, List.length_map, ← HLN.out]; omega) (fun j u hj => by rw [Addr.add_lit, Nat.zero_add]; exact HC.out _ ((Fr.refl [] w2).drew) j u (by rw [List.getElem?_take] at hj; split at hj; exact hj; cases hj)) (fun u hu => by obtain ⟨q, _, rfl⟩ := List.mem_map.1 (List.mem_of_mem_take hu); rfl) (by unfold maxLen; omega) (by omega) ?_; intro a3 c3 w3 r3 f3 n3; simp only [Nat.zero_add, List.nil_append] at r3 n3 ⊢; have R3 := hid r3; have N3 := hid n3; have H3 : Hid (Fr [] w2 w3) := hid (by simp only [fpv, Value.ownBlock, Option.toList] at f3; exact ((Fr.refl [] w2).drew).tr f3); clear r3 f3 n3) | (refine step_append_rv rfl (.tmp 116) (.tmp 120) 31 rfl 3 i0 (.int .i64 0) 1 8 Try.underlying31 HI.out HZ0.out HZS.out HZB.out rfl (by decide) (.slice a3 kk c3) kk ((l.map vi).take kk) (by simp [Act.eval, Act.put]) R3.out ⟨bl0, 0, none⟩ 0 0 [] (by simp [Act.eval, Act.put]) (by simp) (by simp) (by simp) (by unfold maxLen; omega) (by omega) ?_; intro a4 c4 w4 r4 f4 n4; have R4 := hid r4; have F4 := hid f4; have N4 := hid n4; clear r4 f4 n4))
              all_goals
                have hnew : Hid (OwnL W w4 (.pointer (some ⟨hb, 0, none⟩)) n (relL L x0) (.slice a4 (kk + 0) c4) (l.take kk ++ l.drop (kk + 1))) := hid (by
                  have hf3 := H3.out
                  have hd : l.drop (kk + 1) = [] := List.drop_eq_nil_of_le (by rw [← HLN.out]; omega)
                  have hr : RI w4 (.slice a4 (kk + 0) c4) (l.take kk ++ l.drop (kk + 1)) := by
                    unfold RI
                    rw [HLL.out]
                    have := R4.out
                    rw [hd, List.append_nil, List.map_take]
                    simp only [Nat.add_zero, List.append_nil, Nat.sub_self] at this ⊢
                    exact this
                  have hn3 : ∀ b ∈ fpv (.slice a3 kk c3), w2.heap.size ≤ b := fun b hb => by
                    rcases N3.out b hb with h | h
                    · simp [fpv, Value.ownBlock] at h
                    · exact h
                  refine H2.out.other ((hf3.sub (by simp)).trans F4.out (fun b hb => .inr (hn3 b hb))) hr (fun b hb => ?_)
                  rcases N4.out b hb with h | h
                  · exact hn3 b h
                  · exact Nat.le_trans hf3.size h)
                go_wp2_with fail
                go_meet
                case rel => exact hid ⟨_, _, hnew.out, HM2.out⟩
            · have hcap2 : ¬ (cv = kk + 1) := hcap
              go_wp2_with fail
              go_region_law (first | (refine step_append_rv rfl (.const (.slice none 0 0)) (.tmp 115) 31 rfl 3 i0 (.int .i64 0) 1 8 Try.underlying31 HI.out HZ0.out HZS.out HZB.out rfl (by decide) (.slice none 0 0) 0 [] rfl (RV.nil _ _ _) ⟨bl0, 0, none⟩ kk cv ((l.map vi).take kk) (by simp [Act.eval, Act.put]) (by rw [List.length_take, List.length_map, ← HLN.out]; omega) (fun j u hj => by rw [Addr.add_lit, Nat.zero_add]; exact HC.out _ ((Fr.refl [] w2).drew) j u (by rw [List.getElem?_take] at hj; split at hj; exact hj; cases hj)) (fun u hu => by obtain ⟨q, _, rfl⟩ := List.mem_map.1 (List.mem_of_mem_take hu); rfl) (by unfold maxLen; omega) (by omega) ?_; intro a3 c3 w3 r3 f3 n3; simp only [Nat.zero_add, List.nil_append] at r3 n3 ⊢; have R3 := hid r3; have N3 := hid n3; have H3 : Hid (Fr [] w2 w3) := hid (by simp only [fpv, Value.ownBlock, Option.toList] at f3; exact ((Fr.refl [] w2).drew).tr f3); clear r3 f3 n3) | (refine step_append_rv rfl (.tmp 116) (.tmp 120) 31 rfl 3 i0 (.int .i64 0) 1 8 Try.underlying31 HI.out HZ0.out HZS.out HZB.out rfl (by decide) (.slice a3 kk c3) kk ((l.map vi).take kk) (by simp [Act.eval, Act.put]) R3.out ⟨bl0, kk + 1, none⟩ (ln - (kk + 1)) (cv - (kk + 1)) ((l.map vi).drop (kk + 1)) (by simp [Act.eval, Act.put]) (by rw [List.length_drop, List.length_map, ← HLN.out]; omega) (fun j u hj => by rw [Addr.add_lit]; rw [List.getElem?_drop] at hj; exact HC.out _ H3.out _ u hj) (fun u hu => by obtain ⟨q, _, rfl⟩ := List.mem_map.1 (List.mem_of_mem_drop hu); rfl) (by unfold maxLen; omega) (by omega) ?_; intro a4 c4 w4 r4 f4 n4; have R4 := hid r4; have F4 := hid f4; have N4 := hid n4; clear r4 f4 n4))
              all_goals
                have hnew : Hid (OwnL W w4 (.pointer (some ⟨hb, 0, none⟩)) n (relL L x0) (.slice a4 (kk + (ln - (kk + 1))) c4) (l.take kk ++ l.drop (kk + 1))) := hid (by
                  have hf3 := H3.out
                  have hr : RI w4 (.slice a4 (kk + (ln - (kk + 1))) c4) (l.take kk ++ l.drop (kk + 1)) := by
                    unfold RI
                    rw [HLL.out, List.map_append, List.map_take, List.map_drop]
                    exact R4.out
                  have hn3 : ∀ b ∈ fpv (.slice a3 kk c3), w2.heap.size ≤ b := fun b hb => by
                    rcases N3.out b hb with h | h
                    · simp [fpv, Value.ownBlock] at h
                    · exact h
                  refine H2.out.other ((hf3.sub (by simp)).trans F4.out (fun b hb => .inr (hn3 b hb))) hr (fun b hb => ?_)
                  rcases N4.out b hb with h | h
                  · exact hn3 b h
                  · exact Nat.le_trans hf3.size h)
                go_wp2_with fail
                go_meet
                case rel => exact hid ⟨_, _, hnew.out, HM2.out⟩
        case rest =>
          apply_assumption
          refine wp_onceR _ (whole_rest hcut hnb) ?_
          rintro a' w' ⟨hl, hw⟩
          obtain ⟨f, rfl⟩ := hl.lit
          clear hl hcut
          go_wp2_with fail
          go_roundw
          case rel =>
            obtain ⟨l', L', hwr⟩ := hw.out
            exact ⟨ii + 1, l', L', by go_num, by omega, hid hwr⟩
          case measure => simp [intOf]; omega
    · obtain rfl : ii = len1 := by omega
      have hi2 : ¬ (ii : Int) < ii := by omega
      clear hi
      go_wp2_with fail
      go_ret
      exact ⟨rfl, hr.out.own.own.fr⟩

end Go.Proofs.Ytgakkkifohkikaa
