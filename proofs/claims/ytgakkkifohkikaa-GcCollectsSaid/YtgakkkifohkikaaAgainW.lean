/-
  HeapAgain: the plain law; the walk.
-/
import Derived.Test.YtgakkkifohkikaaOwnF
import Derived.Test.YtgakkkifohkikaaBlocks
namespace Go.Proofs.Ytgakkkifohkikaa
open Go.RowKit

/-- l are the addresses of the objects L, in whatever order -/
def Match (l : List Int) (L : List Ob) : Prop := l.Nodup ∧ ∀ x, x ∈ l ↔ ∃ o ∈ L, (o.at' : Int) = x
theorem Match.of_rise {n a : Nat} {L : List Ob} (h : Rise n a L) : Match (L.map (fun o => (o.at' : Int))) L :=
  ⟨(Rise.sorted h).imp (fun h => by omega), fun x => by simp⟩
theorem Match.nil {L : List Ob} (h : Match [] L) : L = [] := by
  cases L with
  | nil => rfl
  | cons o r => exact absurd ((h.2 o.at').2 ⟨o, by simp, rfl⟩) (by simp)
theorem Match.has {l : List Int} {L : List Ob} (h : Match l L) {x : Int} (hx : x ∈ l) : has L x = true := by
  cases hf : arFind L x with
  | some o => exact has_some hf
  | none =>
    obtain ⟨o, ho, he⟩ := (h.2 x).1 hx
    exact absurd he (arFind_none.1 hf o ho)
theorem Match.drop {l : List Int} {L : List Ob} (h : Match l L) {k : Nat} (hk : k < l.length) : relE L (l.getD k 0) = 0 ∧ Match (l.take k ++ l.drop (k + 1)) (relL L (l.getD k 0)) := by
  have hx : l.getD k 0 = l[k] := by rw [List.getD, List.getElem?_eq_getElem hk]; rfl
  have hm : l.getD k 0 ∈ l := by rw [hx]; exact List.getElem_mem hk
  have hh := h.has hm
  have e1 : relE L (l.getD k 0) = 0 := by unfold relE; rw [hh]; rfl
  have e2 : relL L (l.getD k 0) = arDrop L (l.getD k 0) := by unfold relL; rw [hh]; rfl
  refine ⟨e1, ?_⟩
  rw [e2]
  obtain ⟨x, hxe⟩ : ∃ x, x = l.getD k 0 := ⟨_, rfl⟩
  have hl : l = l.take k ++ x :: l.drop (k + 1) := by rw [hxe, hx, ← List.drop_eq_getElem_cons hk, List.take_append_drop]
  rw [← hxe]
  obtain ⟨l1, hl1⟩ : ∃ l1, l1 = l.take k := ⟨_, rfl⟩
  obtain ⟨l2, hl2⟩ : ∃ l2, l2 = l.drop (k + 1) := ⟨_, rfl⟩
  rw [← hl1, ← hl2] at hl ⊢
  have hn := h.1
  have hall := h.2
  rw [hl] at hn hall
  clear hl hl1 hl2 hm hh e1 e2 hxe hx hk h
  have n1 := List.nodup_append.1 hn
  have n2 := List.nodup_cons.1 n1.2.1
  refine ⟨List.nodup_append.2 ⟨n1.1, n2.2, fun a ha b hb => n1.2.2 a ha b (by simp [hb])⟩, fun y => ?_⟩
  have hy := hall y
  simp only [List.mem_append, List.mem_cons] at hy ⊢
  have hmem : (∃ o ∈ arDrop L x, (o.at' : Int) = y) ↔ (∃ o ∈ L, (o.at' : Int) = y) ∧ y ≠ x := by
    constructor
    · rintro ⟨o, ho, rfl⟩
      unfold arDrop at ho
      obtain ⟨h1, h2⟩ := List.mem_filter.1 ho
      exact ⟨⟨o, h1, rfl⟩, by simpa using h2⟩
    · rintro ⟨⟨o, ho, rfl⟩, hne⟩
      exact ⟨o, List.mem_filter.2 ⟨ho, by simpa using hne⟩, rfl⟩
  rw [hmem, ← hy]
  constructor
  · rintro (h | h)
    · exact ⟨.inl h, fun e => n1.2.2 y h x (by simp) e⟩
    · exact ⟨.inr (.inr h), fun e => n2.1 (e ▸ h)⟩
  · rintro ⟨h | h | h, hne⟩
    · exact .inl h
    · exact absurd h hne
    · exact .inr h

def againA : Nat → Nat × List Ob
  | 0 => (0, [])
  | i + 1 => (arAlloc 200 (againA i).2 1 (i % 5)).getD (0, [])
theorem again_alloc : ∀ i, i < 30 → arAlloc 200 (againA i).2 1 (i % 5) = some ((againA (i + 1)).1, (againA (i + 1)).2) := by decide +kernel
theorem again_ats : ∀ i, i < 31 → (againA i).2.map (fun o => (o.at' : Int)) = (List.range i).map (fun j => ((againA (j + 1)).1 : Int)) := by decide +kernel

def slLen (v : Value) : Nat := match v with | .slice _ n _ => n | _ => 0

set_option maxRecDepth 20000 in
set_option maxHeartbeats 2000000 in
theorem again_walk (a0 : Int) (a1 : Option Addr) (len1 cap1 : Nat) (z1 : List Int) (W : World) (w0 : (Lit.int .u8 a0).wf = true) (w1 : IsRow .u8 W a1 len1 cap1 z1) :
    Calls Try.prog 4 #[.int .u8 a0, .slice a1 len1 cap1] W fun e w' => e = .returned (.bool true) ∧ Fr [] W w' := by
  obtain ⟨b0, b1⟩ := u8_bounds w0
  have HR := hid w1
  clear w0 w1
  go_enter Try.func4, Try.ntmps4
  go_wp2_with fail
  refine (known_any W).mono ?_
  rintro e wA ⟨rfl, f0⟩
  have F0 := hid f0
  clear f0
  by_cases hbig : 40 < len1
  · have hb2 : (40 : Int) < len1 := by omega
    have hb3 : decide (40 < len1) = true := by simpa using hbig
    go_wp2_with fail
    go_ret
    exact ⟨rfl, F0.out⟩
  have hb2 : ¬ (40 : Int) < len1 := by omega
  have hb3 : decide (40 < len1) = false := by simpa using hbig
  have hlen : (len1 : Int) ≤ 40 := by omega
  clear hbig
  go_wp2_with fail
  refine (Own.new W wA F0.out 200).mono ?_
  rintro e wB ⟨hb, rfl, h1⟩
  have H1 := hid (OwnL.start (show Own W wB (.pointer (some ⟨hb, 0, none⟩)) 200 (againA 0).2 from h1))
  clear h1
  obtain ⟨n, hn, hn30⟩ : ∃ n : Nat, a0 % 30 = (n : Int) ∧ n < 30 := ⟨(a0 % 30).toNat, by omega, by omega⟩
  obtain ⟨i0, hi0, hz0, hzs, hzb⟩ := info_parts info_Int
  have HI := hid hi0
  have HZ0 := hid hz0
  have HZS := hid hzs
  have HZB := hid hzb
  clear hi0 hz0 hzs hzb
  go_wp2_with fail
  go_loopw [6, 7] (fun v i wr => ∃ j : Nat, i = .int .i64 j ∧ j ≤ n ∧ Hid (OwnL W wr (.pointer (some ⟨hb, 0, none⟩)) 200 (againA j).2 v ((List.range j).map (fun j => ((againA (j + 1)).1 : Int))))) (fun _ i _ => n - (intOf i).toNat)
  case atStart => exact ⟨0, rfl, by omega, H1⟩
  case round =>
    obtain ⟨j, rfl, hj, hown⟩ := hrel
    by_cases hlt : j < n
    · obtain ⟨s, hs, hs5⟩ : ∃ s : Nat, (j : Int) % 5 = (s : Int) ∧ s = j % 5 := ⟨j % 5, by omega, rfl⟩
      have E := hid (hown.out.own.alloc 1 s (by omega) (by rw [hs5]; exact again_alloc j (by omega)))
      have HO := hid hown.out
      have hlt2 : (j : Int) < n := by omega
      have hjb : (j : Int) ≤ 30 := by omega
      obtain ⟨av, cv, hv, hcv, hcv2⟩ := hown.out.sl.form
      subst hv
      simp only [List.length_map, List.length_range] at hcv E HO ⊢
      clear hown hs5
      go_wp2_with fail
      refine E.out.mono ?_
      rintro e w2 ⟨rfl, hB⟩
      have H2 := hid (HO.out.next hB)
      clear hB
      obtain ⟨x, hx⟩ : ∃ x : Nat, x = (againA (j + 1)).1 := ⟨_, rfl⟩
      rw [← hx]
      have HX := hid hx
      clear hx
      have hsl : RV (w2.alloc (.cells #[.int .i64 x] 3)) 3 1 (.slice av j cv) j (((List.range j).map (fun j => ((againA (j + 1)).1 : Int))).map vi) := by
        have := (H2.out.sl.keep0 ((Fr.refl [] w2).alloc (.cells #[.int .i64 x] 3)))
        simp only [List.length_map, List.length_range] at this
        exact this
      have HSL := hid hsl
      clear hsl
      go_wp2_with (at_builtin; refine wp_append_rv rfl (.tmp 34) (.tmp 36) 31 rfl 3 i0 (.int .i64 0) 1 8 Try.underlying31 HI.out HZ0.out HZS.out HZB.out rfl (by decide) (.slice av j cv) j _ rfl HSL.out ⟨w2.heap.size, 0, none⟩ 1 1 [vi x] rfl rfl (cell_one_new w2 _ _) (fun u hu => by rw [List.mem_singleton.1 hu]; rfl) (by unfold maxLen; omega) (by omega) ?_; intro a' c' w3 r3 f3 n3; have R3 := hid r3; have F3 := hid f3; have N3 := hid n3; clear r3 f3 n3)
      have hnew : Hid (OwnL W w3 (.pointer (some ⟨hb, 0, none⟩)) 200 (againA (j + 1)).2 (.slice a' (j + 1) c') ((List.range (j + 1)).map (fun j => ((againA (j + 1)).1 : Int)))) := hid (by
        refine OwnL.grown (l := (List.range j).map (fun j => ((againA (j + 1)).1 : Int))) H2.out (((Fr.refl _ _).alloc _).tr F3.out) ?_ (fun b hb => ?_)
        · have := R3.out
          unfold RI
          rw [List.range_succ, List.map_append, List.map_append, List.length_append, List.length_map, List.length_range]
          simp only [List.map_cons, List.map_nil, List.length_cons, List.length_nil, Nat.zero_add]
          rw [← HX.out]
          exact this
        · rcases N3.out b hb with h | h
          · exact .inl h
          · right; rw [World.size_alloc] at h; omega)
      go_roundw
      case rel => exact ⟨j + 1, by go_num, by omega, hnew⟩
      case measure => simp [intOf]; omega
    · obtain rfl : j = n := by omega
      have hlt2 : ¬ (j : Int) < j := by omega
      have hM : Match ((List.range j).map (fun j => ((againA (j + 1)).1 : Int))) (againA j).2 := by
        rw [← again_ats j (by omega)]
        exact Match.of_rise hown.out.own.own.rise
      obtain ⟨l0, hl0⟩ : ∃ l, l = (List.range j).map (fun j => ((againA (j + 1)).1 : Int)) := ⟨_, rfl⟩
      have hl40 : l0.length ≤ 40 := by rw [hl0]; simp; omega
      rw [← hl0] at hM hown
      obtain ⟨L0, hL0⟩ : ∃ l, l = (againA j).2 := ⟨_, rfl⟩
      rw [← hL0] at hM hown
      have HM := hid hM
      have HL40 := hid hl40
      clear hM hl0 hL0 hl40 hlt
      go_wp2_with fail
      clear hlt2
      go_loopw [6, 10, 11] (fun v i _ wr => ∃ (ii : Nat) (l : List Int) (L : List Ob), i = .int .i64 ii ∧ Hid (OwnL W wr (.pointer (some ⟨hb, 0, none⟩)) 200 L v l ∧ Match l L ∧ l.length + ii ≤ 40)) (fun v _ _ _ => slLen v)
      case atStart => exact ⟨0, l0, L0, rfl, hid ⟨hown.out, HM.out, HL40.out⟩⟩
      case round =>
        obtain ⟨ii, l, L, rfl, hr⟩ := hrel
        have HO := hid hr.out.1
        have HM2 := hid hr.out.2.1
        have HB40 := hid hr.out.2.2
        clear hr
        obtain ⟨av, cv, hv, hcv, hcv2⟩ := HO.out.sl.form
        subst hv
        obtain ⟨ln, hln⟩ : ∃ n, n = l.length := ⟨_, rfl⟩
        rw [← hln] at hcv HO ⊢
        have hii : (ii : Int) ≤ 40 := by have := HB40.out; omega
        have hlnb : (ln : Int) ≤ 40 := by have := HB40.out; omega
        have HLN := hid hln
        unfold maxLen at hcv2
        clear hln
        by_cases hz : ln = 0
        · subst hz
          have hl0 : l = [] := List.length_eq_zero_iff.1 HLN.out.symm
          subst hl0
          have hL0 := HM2.out.nil
          subst hL0
          have E := hid HO.out.own.own.free
          go_wp2_with fail
          refine E.out.mono ?_
          rintro e w2 ⟨⟨v2, rfl, hr, _, _⟩, hB⟩
          rw [show gaps 200 1 [] = [(1, 200)] from by decide] at hr
          have H2 := hid hB
          have HV := hid hr
          clear hr hB
          have hblk : ∀ (w' : World) (g : Nat), Fr [] w2 w' → w'.heap[g]? = some (.cells #[.int .i64 1, .int .i64 200] 36 (0, 0)) → Calls Try.prog 16 #[v2, .slice (some ⟨g, 0, none⟩) 1 1] w' (BlkPost w' true) := fun w' g f hg => by
            have := blocks_any (HV.out.keep0 f) (vb := .slice (some ⟨g, 0, none⟩) 1 1) (H := [(1, 200)]) (RV.mk hg (by decide) (by unfold maxLen; decide) rfl rfl)
            exact this
          have HBK := hid hblk
          clear hblk
          obtain ⟨a2, c2, rfl, _, _⟩ := HV.out.form
          go_wp2_with fail
          refine (HBK.out _ _ ((Fr.refl _ _).alloc _) (heap_alloc_new _ _)).mono ?_
          rintro e w3 ⟨rfl, f3⟩
          have H3 := hid ((H2.out.keep ((Fr.refl _ _).alloc _)).keep f3)
          clear f3
          go_wp2_with fail
          refine H3.out.all.mono ?_
          rintro e w4 ⟨⟨v4, rfl, hr, _, _⟩, hB⟩
          obtain ⟨a4, c4, rfl, _, _⟩ := hr.form
          have H4 := hid hB
          clear hr hB
          go_wp2_with fail
          go_ret
          exact ⟨rfl, H4.out.fr⟩
        · have hz2 : (0 : Int) < ln := by omega
          have hz3 : decide (0 < ln) = true := by rw [decide_eq_true_eq]; omega
          have hz4 : ¬ ((ln : Int) = 0) := by omega
          have hz5 : ((ln : Int) == 0) = false := by simpa using hz4
          by_cases hi : ii < len1
          · have hi2 : (ii : Int) < len1 := by omega
            obtain ⟨b1, o1, rfl, hc0, hwf⟩ := HR.out.cell ii hi
            have hc1 := HO.out.own.fr.cell hc0 (by simp)
            obtain ⟨y0, y1⟩ := u8_bounds hwf
            obtain ⟨y, hy⟩ : ∃ y, y = z1.getD ii 0 := ⟨_, rfl⟩
            rw [← hy] at hc1 y0 y1
            obtain ⟨kk, hkm⟩ : ∃ kk : Nat, y % (ln : Int) = (kk : Int) := ⟨(y % (ln : Int)).toNat, by rw [Int.toNat_of_nonneg (Int.emod_nonneg _ hz4)]⟩
            have hkk : kk < ln := by have := Int.emod_lt_of_pos y hz2; omega
            have hkm2 : Int.tmod y (ln : Int) = (kk : Int) := by rw [Int.tmod_eq_emod_of_nonneg y0]; exact hkm
            have hkk2 : (kk : Int) < ln := by omega
            have hD := HM2.out.drop (k := kk) (by rw [← HLN.out]; exact hkk)
            obtain ⟨bl0, cl0, hvl0, hck⟩ := HO.out.sl.cell kk (by rw [← HLN.out]; exact hkk)
            rw [← HLN.out] at hvl0
            cases hvl0
            have E := hid (HO.out.own.release (l.getD kk 0))
            rw [hD.1] at E
            replace HM2 := hid hD.2
            clear hwf hc0 hy hD hz
            go_wp2_with fail
            refine E.out.mono ?_
            rintro e w2 ⟨rfl, hB⟩
            have H2 := hid (HO.out.next hB)
            clear hB hck hc1 hkm hkm2
            have hcells : ∀ (w' : World), Fr [] w2 w' → ∀ j u, (l.map vi)[j]? = some u → w'.cell? ⟨bl0, j, none⟩ = some u := fun w' f j u hj => by
              have hjl : j < l.length := by have := (List.getElem?_eq_some_iff.1 hj).1; simpa using this
              obtain ⟨b', c', e, h1⟩ := H2.out.sl.cell j hjl
              rw [← HLN.out] at e
              cases e
              refine f.cell (h1.trans ?_) (by simp)
              rw [← hj]
              simp [List.getD, hjl]
              rfl
            have HC := hid hcells
            have HK := hid hkk
            clear hcells
            have hkcv : kk ≤ cv := by omega
            have hk1 : (0 : Int) ≤ (kk : Int) + 1 := by omega
            have hk2 : (kk : Int) + 1 ≤ ln := by omega
            have hk3 : ((kk : Int) + 1).toNat = kk + 1 := by omega
            have hkw : IntKind.i64.wrap ((kk : Int) + 1) = (kk : Int) + 1 := by rw [IntKind.wrap_i64]; omega
            by_cases hcap : cv = kk + 1
            · have hlk : ln = kk + 1 := by omega
              subst hcap
              subst hlk
              have hsub0 : kk + 1 - (kk + 1) = 0 := by omega
              have hkc2 : (kk : Int) ≤ (kk : Int) + 1 := by omega
              go_wp2_with fail
              go_region_law (first | (refine step_append_rv rfl (.const (.slice none 0 0)) (.tmp 64) 31 rfl 3 i0 (.int .i64 0) 1 8 Try.underlying31 HI.out HZ0.out HZS.out HZB.out rfl (by decide) (.slice none 0 0) 0 [] rfl (RV.nil _ _ _) ⟨bl0, 0, none⟩ kk (kk + 1) ((l.map vi).take kk) (by simp [Act.eval, Act.put]) (by rw [List.length_take, List.length_map, ← HLN.out]; omega) (fun j u hj => by rw [Addr.add_lit, Nat.zero_add]; exact HC.out _ ((Fr.refl [] w2).drew) j u (by rw [List.getElem?_take] at hj; split at hj; exact hj; cases hj)) (fun u hu => by obtain ⟨q, _, rfl⟩ := List.mem_map.1 (List.mem_of_mem_take hu); rfl) (by unfold maxLen; omega) (by omega) ?_; intro a3 c3 w3 r3 f3 n3; simp only [Nat.zero_add, List.nil_append] at r3 n3 ⊢; have R3 := hid r3; have F3 := hid f3; have N3 := hid n3; clear r3 f3 n3) | (refine step_append_rv rfl (.tmp 65) (.tmp 69) 31 rfl 3 i0 (.int .i64 0) 1 8 Try.underlying31 HI.out HZ0.out HZS.out HZB.out rfl (by decide) (.slice a3 kk c3) kk ((l.map vi).take kk) (by simp [Act.eval]) R3.out ⟨bl0, 0, none⟩ 0 0 [] (by simp [Act.eval]) (by simp) (by simp) (by simp) (by unfold maxLen; omega) (by omega) ?_; intro a4 c4 w4 r4 f4 n4; have R4 := hid r4; have F4 := hid f4; have N4 := hid n4; clear r4 f4 n4))
              all_goals
                have hll : (l.take kk ++ l.drop (kk + 1)).length = kk := by rw [List.length_append, List.length_take, List.length_drop, ← HLN.out]; omega
                have hnew : Hid (OwnL W w4 (.pointer (some ⟨hb, 0, none⟩)) 200 (relL L (l.getD kk 0)) (.slice a4 (kk + 0) c4) (l.take kk ++ l.drop (kk + 1))) := hid (by
                  have hf3 : Fr [] w2 w3 := by have := F3.out; simp only [fpv, Value.ownBlock, Option.toList] at this; exact ((Fr.refl [] w2).drew).tr this
                  have hd : l.drop (kk + 1) = [] := List.drop_eq_nil_of_le (by rw [← HLN.out]; omega)
                  have hr : RI w4 (.slice a4 (kk + 0) c4) (l.take kk ++ l.drop (kk + 1)) := by
                    unfold RI
                    rw [hll]
                    have := R4.out
                    rw [hd, List.append_nil, List.map_take]
                    simp only [Nat.add_zero, List.append_nil] at this ⊢
                    exact this
                  have hn3 : ∀ b ∈ fpv (.slice a3 kk c3), w2.heap.size ≤ b := fun b hb => by
                    rcases N3.out b hb with h | h
                    · simp [fpv, Value.ownBlock] at h
                    · exact h
                  refine H2.out.other ((hf3.sub (by simp)).trans F4.out (fun b hb => .inr (hn3 b hb))) hr (fun b hb => ?_)
                  rcases N4.out b hb with h | h
                  · exact hn3 b h
                  · exact Nat.le_trans hf3.size h)
                go_wp2_with fail
                go_roundw
                case rel => exact ⟨ii + 1, _, _, by go_num, hid ⟨hnew.out, HM2.out, by rw [hll]; have := HB40.out; rw [← HLN.out] at this; omega⟩⟩
                case measure => simp [slLen]
            · have hcap2 : ¬ (cv = kk + 1) := hcap
              go_wp2_with fail
              go_region_law (first | (refine step_append_rv rfl (.const (.slice none 0 0)) (.tmp 64) 31 rfl 3 i0 (.int .i64 0) 1 8 Try.underlying31 HI.out HZ0.out HZS.out HZB.out rfl (by decide) (.slice none 0 0) 0 [] rfl (RV.nil _ _ _) ⟨bl0, 0, none⟩ kk cv ((l.map vi).take kk) (by simp [Act.eval, Act.put]) (by rw [List.length_take, List.length_map, ← HLN.out]; omega) (fun j u hj => by rw [Addr.add_lit, Nat.zero_add]; exact HC.out _ ((Fr.refl [] w2).drew) j u (by rw [List.getElem?_take] at hj; split at hj; exact hj; cases hj)) (fun u hu => by obtain ⟨q, _, rfl⟩ := List.mem_map.1 (List.mem_of_mem_take hu); rfl) (by unfold maxLen; omega) (by omega) ?_; intro a3 c3 w3 r3 f3 n3; simp only [Nat.zero_add, List.nil_append] at r3 n3 ⊢; have R3 := hid r3; have F3 := hid f3; have N3 := hid n3; have H3 : Hid (Fr [] w2 w3) := hid (by have := F3.out; simp only [fpv, Value.ownBlock, Option.toList] at this; exact ((Fr.refl [] w2).drew).tr this); clear r3 f3 n3) | (refine step_append_rv rfl (.tmp 65) (.tmp 69) 31 rfl 3 i0 (.int .i64 0) 1 8 Try.underlying31 HI.out HZ0.out HZS.out HZB.out rfl (by decide) (.slice a3 kk c3) kk ((l.map vi).take kk) (by simp [Act.eval]) R3.out ⟨bl0, kk + 1, none⟩ (ln - (kk + 1)) (cv - (kk + 1)) ((l.map vi).drop (kk + 1)) (by simp [Act.eval]) (by rw [List.length_drop, List.length_map, ← HLN.out]; omega) (fun j u hj => by rw [Addr.add_lit]; rw [List.getElem?_drop] at hj; exact HC.out _ H3.out _ u hj) (fun u hu => by obtain ⟨q, _, rfl⟩ := List.mem_map.1 (List.mem_of_mem_drop hu); rfl) (by unfold maxLen; omega) (by omega) ?_; intro a4 c4 w4 r4 f4 n4; have R4 := hid r4; have F4 := hid f4; have N4 := hid n4; clear r4 f4 n4))
              all_goals
                have hll : (l.take kk ++ l.drop (kk + 1)).length = kk + (ln - (kk + 1)) := by rw [List.length_append, List.length_take, List.length_drop, ← HLN.out]; omega
                have hnew : Hid (OwnL W w4 (.pointer (some ⟨hb, 0, none⟩)) 200 (relL L (l.getD kk 0)) (.slice a4 (kk + (ln - (kk + 1))) c4) (l.take kk ++ l.drop (kk + 1))) := hid (by
                  have hf3 := H3.out
                  have hr : RI w4 (.slice a4 (kk + (ln - (kk + 1))) c4) (l.take kk ++ l.drop (kk + 1)) := by
                    unfold RI
                    rw [hll, List.map_append, List.map_take, List.map_drop]
                    exact R4.out
                  have hn3 : ∀ b ∈ fpv (.slice a3 kk c3), w2.heap.size ≤ b := fun b hb => by
                    rcases N3.out b hb with h | h
                    · simp [fpv, Value.ownBlock] at h
                    · exact h
                  refine H2.out.other ((hf3.sub (by simp)).trans F4.out (fun b hb => .inr (hn3 b hb))) hr (fun b hb => ?_)
                  rcases N4.out b hb with h | h
                  · exact hn3 b h
                  · exact Nat.le_trans hf3.size h)
                go_wp2_with fail
                go_roundw
                case rel => exact ⟨ii + 1, _, _, by go_num, hid ⟨hnew.out, HM2.out, by rw [hll]; have := HB40.out; rw [← HLN.out] at this; omega⟩⟩
                case measure => simp [slLen]; omega
          · have hi2 : ¬ (ii : Int) < len1 := by omega
            have hi3 : decide (ii < len1) = false := by simpa using hi
            have h0l : 0 < l.length := by rw [← HLN.out]; omega
            have hD := HM2.out.drop (k := 0) h0l
            obtain ⟨bl0, cl0, hvl0, hck⟩ := HO.out.sl.cell 0 h0l
            rw [← HLN.out] at hvl0
            cases hvl0
            obtain ⟨x0, hx0⟩ : ∃ x, x = l.getD 0 0 := ⟨_, rfl⟩
            rw [← hx0] at hD hck
            have E := hid (HO.out.own.release x0)
            rw [hD.1] at E
            replace HM2 := hid hD.2
            have HX0 := hid hx0
            clear hx0 hD h0l
            go_wp2_with fail
            refine E.out.mono ?_
            rintro e w2 ⟨rfl, hB⟩
            have H2 := hid (HO.out.next hB)
            clear hB hck
            have hcells : ∀ (w' : World), Fr [] w2 w' → ∀ j u, (l.map vi)[j]? = some u → w'.cell? ⟨bl0, j, none⟩ = some u := fun w' f j u hj => by
              have hjl : j < l.length := by have := (List.getElem?_eq_some_iff.1 hj).1; simpa using this
              obtain ⟨b', c', e, h1⟩ := H2.out.sl.cell j hjl
              rw [← HLN.out] at e
              cases e
              refine f.cell (h1.trans ?_) (by simp)
              rw [← hj]
              simp [List.getD, hjl]
              rfl
            have HC := hid hcells
            have hll : (l.take 0 ++ l.drop (0 + 1)).length = ln - 1 := by rw [List.length_append, List.length_take, List.length_drop, ← HLN.out]; omega
            have HLL := hid hll
            have hk2 : (1 : Int) ≤ ln := by omega
            have hw11 : IntKind.i64.wrap 1 = 1 := by decide
            clear hcells hll
            by_cases hcap : cv = 1
            · have hlk : ln = 1 := by omega
              subst hcap
              subst hlk
              go_wp2_with fail
              go_region_law (first | (refine step_append_rv rfl (.const (.slice none 0 0)) (.tmp 64) 31 rfl 3 i0 (.int .i64 0) 1 8 Try.underlying31 HI.out HZ0.out HZS.out HZB.out rfl (by decide) (.slice none 0 0) 0 [] rfl (RV.nil _ _ _) ⟨bl0, 0, none⟩ 0 1 [] (by simp [Act.eval, Act.put]) (by simp) (by simp) (by simp) (by unfold maxLen; omega) (by omega) ?_; intro a3 c3 w3 r3 f3 n3; simp only [Nat.add_zero, List.append_nil] at r3 n3 ⊢; have R3 := hid r3; have N3 := hid n3; have H3 : Hid (Fr [] w2 w3) := hid (by simp only [fpv, Value.ownBlock, Option.toList] at f3; exact ((Fr.refl [] w2).drew).tr f3); clear r3 f3 n3) | (refine step_append_rv rfl (.tmp 65) (.tmp 69) 31 rfl 3 i0 (.int .i64 0) 1 8 Try.underlying31 HI.out HZ0.out HZS.out HZB.out rfl (by decide) (.slice a3 0 c3) 0 [] (by simp [Act.eval]) R3.out ⟨bl0, 0, none⟩ 0 0 [] (by simp [Act.eval]) (by simp) (by simp) (by simp) (by unfold maxLen; omega) (by omega) ?_; intro a4 c4 w4 r4 f4 n4; have R4 := hid r4; have F4 := hid f4; have N4 := hid n4; clear r4 f4 n4))
              all_goals
                have hnew : Hid (OwnL W w4 (.pointer (some ⟨hb, 0, none⟩)) 200 (relL L x0) (.slice a4 (0 + 0) c4) (l.take 0 ++ l.drop (0 + 1))) := hid (by
                  have hf3 := H3.out
                  have hd : l.take 0 ++ l.drop (0 + 1) = [] := List.length_eq_zero_iff.1 HLL.out
                  have hr : RI w4 (.slice a4 (0 + 0) c4) (l.take 0 ++ l.drop (0 + 1)) := by
                    rw [hd]
                    exact R4.out
                  have hn3 : ∀ b ∈ fpv (.slice a3 0 c3), w2.heap.size ≤ b := fun b hb => by
                    rcases N3.out b hb with h | h
                    · simp [fpv, Value.ownBlock] at h
                    · exact h
                  refine H2.out.other ((hf3.sub (by simp)).trans F4.out (fun b hb => .inr (hn3 b hb))) hr (fun b hb => ?_)
                  rcases N4.out b hb with h | h
                  · exact hn3 b h
                  · exact Nat.le_trans hf3.size h)
                go_wp2_with fail
                go_roundw
                case rel => exact ⟨ii + 1, _, _, by go_num, hid ⟨hnew.out, HM2.out, by rw [HLL.out]; have := HB40.out; rw [← HLN.out] at this; omega⟩⟩
                case measure => simp [slLen]
            · have hcap2 : ¬ (cv = 1) := hcap
              go_wp2_with fail
              go_region_law (first | (refine step_append_rv rfl (.const (.slice none 0 0)) (.tmp 64) 31 rfl 3 i0 (.int .i64 0) 1 8 Try.underlying31 HI.out HZ0.out HZS.out HZB.out rfl (by decide) (.slice none 0 0) 0 [] rfl (RV.nil _ _ _) ⟨bl0, 0, none⟩ 0 cv [] (by simp [Act.eval, Act.put]) (by simp) (by simp) (by simp) (by unfold maxLen; omega) (by omega) ?_; intro a3 c3 w3 r3 f3 n3; simp only [Nat.add_zero, List.append_nil] at r3 n3 ⊢; have R3 := hid r3; have N3 := hid n3; have H3 : Hid (Fr [] w2 w3) := hid (by simp only [fpv, Value.ownBlock, Option.toList] at f3; exact ((Fr.refl [] w2).drew).tr f3); clear r3 f3 n3) | (refine step_append_rv rfl (.tmp 65) (.tmp 69) 31 rfl 3 i0 (.int .i64 0) 1 8 Try.underlying31 HI.out HZ0.out HZS.out HZB.out rfl (by decide) (.slice a3 0 c3) 0 [] (by simp [Act.eval]) R3.out ⟨bl0, 1, none⟩ (ln - 1) (cv - 1) ((l.map vi).drop 1) (by simp [Act.eval]) (by rw [List.length_drop, List.length_map, ← HLN.out]; omega) (fun j u hj => by rw [Addr.add_lit]; rw [List.getElem?_drop] at hj; exact HC.out _ H3.out _ u hj) (fun u hu => by obtain ⟨q, _, rfl⟩ := List.mem_map.1 (List.mem_of_mem_drop hu); rfl) (by unfold maxLen; omega) (by omega) ?_; intro a4 c4 w4 r4 f4 n4; have R4 := hid r4; have F4 := hid f4; have N4 := hid n4; clear r4 f4 n4))
              all_goals
                have hnew : Hid (OwnL W w4 (.pointer (some ⟨hb, 0, none⟩)) 200 (relL L x0) (.slice a4 (0 + (ln - 1)) c4) (l.take 0 ++ l.drop (0 + 1))) := hid (by
                  have hf3 := H3.out
                  have hr : RI w4 (.slice a4 (0 + (ln - 1)) c4) (l.take 0 ++ l.drop (0 + 1)) := by
                    unfold RI
                    rw [HLL.out]
                    have := R4.out
                    simp only [Nat.zero_add, List.nil_append, List.take_zero, List.map_drop] at this ⊢
                    exact this
                  have hn3 : ∀ b ∈ fpv (.slice a3 0 c3), w2.heap.size ≤ b := fun b hb => by
                    rcases N3.out b hb with h | h
                    · simp [fpv, Value.ownBlock] at h
                    · exact h
                  refine H2.out.other ((hf3.sub (by simp)).trans F4.out (fun b hb => .inr (hn3 b hb))) hr (fun b hb => ?_)
                  rcases N4.out b hb with h | h
                  · exact hn3 b h
                  · exact Nat.le_trans hf3.size h)
                simp only [Nat.zero_add] at hnew
                go_wp2_with fail
                go_roundw
                case rel => exact ⟨ii + 1, _, _, by go_num, hid ⟨hnew.out, HM2.out, by have h1 := HLL.out; have h2 := HB40.out; rw [← HLN.out] at h2; simp only [Nat.zero_add] at h1 ⊢; omega⟩⟩
                case measure => simp [slLen]; omega

end Go.Proofs.Ytgakkkifohkikaa
