/-
  GcTwice: the walk.
-/
import Derived.Test.YtgakkkifohkikaaTwiceA
import Derived.Test.YtgakkkifohkikaaMany
import Derived.Test.YtgakkkifohkikaaMarkA
import Derived.Deep.Cut
import Derived.Deep.CutRange
import Derived.BigQuiet
namespace Go.Proofs.Ytgakkkifohkikaa
open Go.RowKit

def PtrV (b : Nat) : Value := .pointer (some ⟨b, 0, none⟩)
/-- behind the roots -/
structure TwA (W w : World) (p : Value) (L : List Ob) (l at' : List Int) (vl va : Value) (j : Nat) : Prop where
  mn : Many W w p 600 L [(vl, l), (va, at')]
  le : at'.length ≤ j
  sub : ∀ a ∈ at', a ∈ l

theorem sort_eq {l m : List Int} (hn : l.Nodup) (hs : m.Pairwise (· < ·)) (hm : ∀ a, a ∈ l ↔ a ∈ m) : sortI l = m := by
  have hp : l.Perm m := (List.perm_ext_iff_of_nodup hn (hs.imp fun {a b} h => by omega)).2 hm
  have e1 : sortI l = m.mergeSort (fun x y => decide (x ≤ y)) := mergeSort_of_perm_i hp
  rw [e1]
  exact List.mergeSort_of_pairwise (hs.imp fun {a b} h => by simpa using Int.le_of_lt h)
theorem Rise.ats {n a : Nat} {L : List Ob} (h : Rise n a L) : (ats L).Pairwise (· < ·) := Rise.sorted h
theorem kept_ats (met : List Int) (L : List Ob) : ats (kept met L) = (ats L).filter (fun x => met.contains x) := by
  unfold ats kept
  rw [List.filter_map]
  rfl
theorem has_ats {L : List Ob} {a : Int} : has L a = true ↔ a ∈ ats L := has_mem
theorem twice_kept {L : List Ob} {l at' real ex met : List Int} (hl : l = ats L) (hreal : real = l.filter (fun x => at'.contains x)) (hex : ∀ x ∈ ex, x ∉ l) (hm : ∀ a, a ∈ met ↔ Reach L (at' ++ ex) noneR a) :
    ats (kept met L) = real ∧ unmet met L L.length + real.length = l.length := by
  have e : ats (kept met L) = real := by
    rw [kept_ats, hreal, hl]
    refine List.filter_congr (fun x hx => ?_)
    rw [Bool.eq_iff_iff, List.contains_iff_mem, List.contains_iff_mem, hm, none_reach, List.mem_append]
    constructor
    · rintro ⟨h1 | h1, _⟩
      · exact h1
      · exact absurd (hl ▸ hx) (hex x h1)
    · intro h1
      exact ⟨.inl h1, has_ats.2 hx⟩
  refine ⟨e, ?_⟩
  have h1 := unmet_kept met L
  have h2 : (kept met L).length = real.length := by rw [← e]; unfold ats; rw [List.length_map]
  have h3 : l.length = L.length := by rw [hl]; unfold ats; rw [List.length_map]
  omega
theorem twice_again {L : List Ob} {roots met met1 : List Int} (hm : ∀ a, a ∈ met ↔ Reach L roots noneR a) (hm1 : ∀ a, a ∈ met1 ↔ Reach (kept met L) roots noneR a) : kept met1 (kept met L) = kept met L ∧ unmet met1 (kept met L) (kept met L).length = 0 ∧ ∀ a, a ∈ met1 ↔ a ∈ ats (kept met L) := by
  have key : ∀ a, a ∈ met1 ↔ a ∈ ats (kept met L) := fun a => by
    rw [hm1, none_reach, has_ats]
    refine ⟨fun h => h.2, fun h => ⟨?_, h⟩⟩
    rw [kept_ats, List.mem_filter, List.contains_iff_mem, hm, none_reach] at h
    exact h.2.1
  have e : kept met1 (kept met L) = kept met L := by
    unfold kept
    refine List.filter_eq_self.2 (fun o ho => ?_)
    rw [List.contains_iff_mem, key]
    exact List.mem_map.2 ⟨o, ho, rfl⟩
  refine ⟨e, ?_, key⟩
  have := unmet_kept met1 (kept met L)
  rw [e] at this
  omega

set_option maxRecDepth 20000 in
set_option maxHeartbeats 4000000 in
theorem twice_walk (a0 : Option Addr) (len0 cap0 : Nat) (z0 : List Int) (a1 : Option Addr) (len1 cap1 : Nat) (z1 : List Int) (a2 : Option Addr) (len2 cap2 : Nat) (z2 : List Int) (W : World) (w0 : IsRow .u8 W a0 len0 cap0 z0) (w1 : IsRow .u8 W a1 len1 cap1 z1) (w2 : IsRow .i64 W a2 len2 cap2 z2) :
    Calls Try.prog 10 #[.slice a0 len0 cap0, .slice a1 len1 cap1, .slice a2 len2 cap2] W fun e w' => e = .returned (.bool true) ∧ Fr [] W w' := by
  have H0 := hid w0
  have H1 := hid w1
  have H2 := hid w2
  clear w0 w1 w2
  go_enter Try.func10, Try.ntmps10
  go_wp2_with fail
  refine (known12_any W).mono ?_
  rintro e wA ⟨rfl, fA⟩
  have FA := hid fA
  clear fA
  by_cases g1 : (30 : Int) < len0
  · go_wp2_with fail
    go_ret
    exact ⟨rfl, FA.out⟩
  by_cases g2 : (20 : Int) < len1
  · have g1' : decide ((30 : Int) < len0) = false := by simpa using g1
    clear g1
    go_wp2_with fail
    go_ret
    exact ⟨rfl, FA.out⟩
  by_cases g3 : (20 : Int) < len2
  · have g1' : decide ((30 : Int) < len0) = false := by simpa using g1
    have g2' : decide ((20 : Int) < len1) = false := by simpa using g2
    clear g1 g2
    go_wp2_with fail
    go_ret
    exact ⟨rfl, FA.out⟩
  have HM := hid (made_any (w := wA) FA.out H0.out (.inl ⟨rfl, rfl, rfl, rfl⟩ : IsRow .u8 W none 0 0 []) (by omega) (by omega))
  have g1' : decide ((30 : Int) < len0) = false := by simpa using g1
  have g2' : decide ((20 : Int) < len1) = false := by simpa using g2
  have g3' : decide ((20 : Int) < len2) = false := by simpa using g3
  have B1 := hid (show len0 ≤ 30 by omega)
  have B2 := hid (show len1 ≤ 20 by omega)
  have B3 := hid (show len2 ≤ 20 by omega)
  clear g1 g2 g3
  go_wp2_with fail
  refine HM.out.mono ?_
  rintro e wB ⟨hb, rb, vl, l, L, rfl, hB, hl, hla⟩
  replace hla := hla rfl
  have HLA := hid hla
  have HLL := hid hl
  have HA : Hid (TwA W wB (.pointer (some ⟨hb, 0, none⟩)) L l [] vl (.slice none 0 0) 0) := hid (by
    obtain ⟨FQ, hB⟩ := hB
    exact ⟨(Both.many hB.own hB.sl (fun b hb => hB.nw b (List.mem_append_right _ hb))).nil (vs1 := [(vl, l)]) (vs2 := []), Nat.le_refl _, by simp⟩)
  obtain ⟨al, cl, rfl, _, _⟩ := hB.sl.form
  rw [hl] at HA ⊢
  clear hB hla hl
  go_wp2_with fail
  go_loopw [11, 13] (fun v i wr => ∃ (j : Nat) (at' : List Int), i = .int .i64 j ∧ j ≤ len1 ∧ Hid (TwA W wr (.pointer (some ⟨hb, 0, none⟩)) L l at' (.slice al len0 cl) v j)) (fun _ i _ => len1 - (intOf i).toNat)
  case atStart => exact ⟨0, [], rfl, by omega, HA⟩
  case round =>
    obtain ⟨j, at', rfl, hj, hr⟩ := hrel
    have HR := hid hr.out
    clear hr
    have hb1 := B1.out
    have hb2 := B2.out
    obtain ⟨cb, hcbe⟩ : ∃ cb : Bool, cb = decide (j < len1 ∧ 0 < len0) := ⟨_, rfl⟩
    have HCB := hid hcbe
    clear hcbe
    go_upto_region 11 with (fail)
    go_cut [50] from 42 to 50 (fun c wx => c = .bool cb ∧ wx = wr)
    case first =>
      by_cases hA : j < len1
      · have hA2 : (j : Int) < len1 := by omega
        by_cases hB : 0 < len0
        · have hB2 : (0 : Int) < len0 := by omega
          have hB3 : 0 < len0 := hB
          have HA3 := hid (show decide (j < len1 ∧ 0 < len0) = true from decide_eq_true ⟨hA, hB⟩)
          go_wp2_with fail
          go_meet
          case rel => exact ⟨by rw [HCB.out, HA3.out], rfl⟩
        · have hB2 : decide (0 < len0) = false := by simpa using hB
          have HA3 := hid (show decide (j < len1 ∧ 0 < len0) = false from decide_eq_false (fun h => hB h.2))
          clear hB
          go_wp2_with fail
          go_meet
          case rel => exact ⟨by rw [HCB.out, HA3.out], rfl⟩
      · have hA2 : decide (j < len1) = false := by simpa using hA
        have HA3 := hid (show decide (j < len1 ∧ 0 < len0) = false from decide_eq_false (fun h => hA h.1))
        clear hA
        go_wp2_with fail
        go_meet
        case rel => exact ⟨by rw [HCB.out, HA3.out], rfl⟩
    case rest =>
    obtain ⟨rfl, rfl⟩ := hcut
    cases cb with
    | true =>
      obtain ⟨hlt, h0⟩ := of_decide_eq_true HCB.out.symm
      have hlt2 : (j : Int) < len1 := by omega
      have h02 : (0 : Int) < len0 := by omega
      have h03 : ¬ len0 = 0 := by omega
      have hjb : (j : Int) ≤ 20 := by omega
      have hlb : (len0 : Int) ≤ 30 := by omega
      obtain ⟨bg, og, rfl, hcell, hwf⟩ := (H1.out.keep HR.out.mn.fr).cell j hlt
      obtain ⟨z0', z255⟩ := u8_bounds hwf
      generalize z1.getD j 0 = z at hcell z0' z255
      obtain ⟨x, hx⟩ : ∃ x : Nat, z % (len0 : Int) = (x : Int) := ⟨(z % (len0 : Int)).toNat, by rw [Int.toNat_of_nonneg (Int.emod_nonneg _ (by omega))]⟩
      have hxk : x < len0 := by have := Int.emod_lt_of_pos z (show (0 : Int) < len0 by omega); omega
      have hx' : Int.tmod z (len0 : Int) = (x : Int) := by rw [Int.tmod_eq_emod_of_nonneg z0']; exact hx
      have hxb : (x : Int) < len0 := by omega
      have hxl : x < l.length := by rw [HLL.out]; exact hxk
      obtain ⟨bl, c', e, hcl⟩ := (HR.out.mn.sl (.slice al len0 cl, l) (by simp)).cell x hxl
      simp only at e
      injection e with e1 e2 e3
      clear e2 e3
      subst e1
      have hym : l.getD x 0 ∈ l := by
        have : l[x]? = some (l.getD x 0) := by rw [List.getD, List.getElem?_eq_getElem hxl]; rfl
        exact List.mem_of_getElem? this
      generalize l.getD x 0 = y at hcl hym
      have HY := hid hym
      obtain ⟨av, cv, hve, _, _⟩ := (HR.out.mn.sl (u11, at') (by simp)).form
      simp only at hve
      obtain ⟨n, hn⟩ : ∃ n, n = at'.length := ⟨_, rfl⟩
      have HN := hid hn
      rw [← hn] at hve
      subst hve
      have hnb := HR.out.le
      rw [← hn] at hnb
      have S := hid (fun t => show RI (wc.alloc t) (.slice av n cv) at' from RV.keep0 (HR.out.mn.sl (.slice av n cv, at') (by simp)) ((Fr.refl _ _).alloc _))
      clear hwf hx hxk hxl hym hn
      go_wp2_with (at_builtin; refine wp_append_ri rfl (.tmp 53) (.tmp 65) rfl (.slice av n cv) (.slice (some ⟨wc.heap.size, 0, none⟩) 1 1) at' [y] rfl (S.out _) rfl (RI.made (w := wc) [y] (by simp)) (by rw [← HN.out]; simp; omega) ?_; intro a5 c5 w5 r5 f5 n5; rw [← HN.out] at r5 n5 ⊢; have R5 := hid r5; have F5 := hid f5; have N5 := hid n5; clear r5 f5 n5)
      have HN5 : Hid (TwA W w5 (.pointer (some ⟨hb, 0, none⟩)) L l (at' ++ [y]) (.slice (some ⟨bl, 0, none⟩) len0 cl) (.slice a5 (n + [y].length) c5) (j + 1)) := hid (by
        refine ⟨Many.grow (vs1 := [(.slice (some ⟨bl, 0, none⟩) len0 cl, l)]) (vs2 := []) HR.out.mn (((Fr.refl _ _).alloc _).tr F5.out) R5.out (fun b hb => ?_), ?_, fun a ha => ?_⟩
        · rcases N5.out b hb with h | h
          · exact .inl h
          · rw [World.size_alloc] at h; exact .inr (by omega)
        · rw [List.length_append, ← HN.out]; simp; omega
        · rcases List.mem_append.1 ha with h | h
          · exact HR.out.sub a h
          · rw [List.mem_singleton.1 h]; exact HY.out)
      go_roundw
      case rel => exact ⟨j + 1, at' ++ [y], by go_num, by omega, HN5⟩
      case measure => simp [intOf]; omega
    | false =>
      clear HCB
      obtain ⟨av, cv, hve, _, _⟩ := (HR.out.mn.sl (u11, at') (by simp)).form
      simp only at hve
      obtain ⟨n, hn⟩ : ∃ n, n = at'.length := ⟨_, rfl⟩
      have HN := hid hn
      rw [← hn] at hve
      subst hve
      have hnb : n ≤ 20 := by have := HR.out.le; rw [← hn] at this; omega
      have HB0 : Hid (Many W wc (.pointer (some ⟨hb, 0, none⟩)) 600 L [(.slice al len0 cl, l), (.slice av n cv, at'), (.slice none 0 0, [])]) := hid (HR.out.mn.nil (vs1 := [(.slice al len0 cl, l), (.slice av n cv, at')]) (vs2 := []))
      clear hn
      go_wp2_with fail
      go_loopw [12, 14] (fun v i wr => ∃ (m : Nat) (real : List Int), i = .int .i64 m ∧ m ≤ len0 ∧ real.length ≤ m ∧ Hid (real = (l.take m).filter (fun x => at'.contains x) ∧ Many W wr (.pointer (some ⟨hb, 0, none⟩)) 600 L [(.slice al len0 cl, l), (.slice av n cv, at'), (v, real)])) (fun _ i _ => len0 - (intOf i).toNat)
      case atStart => exact ⟨0, [], rfl, by omega, by simp, hid ⟨rfl, HB0.out⟩⟩
      case round =>
        obtain ⟨m, real, rfl, hm, hrl, hr⟩ := hrel
        have HR2 := hid hr.out
        clear hr
        by_cases hlt : m < len0
        · have hlt2 : (m : Int) < len0 := by omega
          have hml : m < l.length := by rw [HLL.out]; exact hlt
          have HLC : Hid (∀ w', RI w' (.slice al len0 cl) l → ∃ bl, al = some ⟨bl, 0, none⟩ ∧ w'.cell? ⟨bl, m, none⟩ = some (.int .i64 (l.getD m 0))) := hid (fun w' h => by
            obtain ⟨b, c, e, h1⟩ := RI.cell h m hml
            injection e with e1 _ _
            exact ⟨b, e1, h1⟩)
          obtain ⟨bl, hal, hcl⟩ := HLC.out wr (HR2.out.2.sl (.slice al len0 cl, l) (by simp))
          subst hal
          have HLD : Hid (∀ w', Fr [] wr w' → w'.cell? ⟨bl, m, none⟩ = some (.int .i64 (l.getD m 0))) := hid (fun w' f => f.cell hcl (by simp))
          have hget : l[m]? = some (l.getD m 0) := by rw [List.getD, List.getElem?_eq_getElem hml]; rfl
          have HGET := hid hget
          generalize l.getD m 0 = y at hcl HLD HGET
          obtain ⟨ar, cr, hvr, _, _⟩ := (HR2.out.2.sl (u12, real) (by simp)).form
          simp only at hvr
          obtain ⟨nr, hnr⟩ : ∃ n, n = real.length := ⟨_, rfl⟩
          have HNR := hid hnr
          rw [← hnr] at hvr hrl
          subst hvr
          have hlb := B1.out
          clear hget hml hlt hnr
          go_wp2_with fail
          obtain ⟨wo, hwo⟩ : ∃ w, w = wr := ⟨_, rfl⟩
          subst hwo
          go_loopw [15, 16] (fun c i w' => ∃ k : Nat, i = .int .i64 k ∧ k ≤ n ∧ c = .bool ((at'.take k).contains y) ∧ Hid (Fr [] wo w')) (fun _ i _ => n - (intOf i).toNat)
          case atStart => exact ⟨0, rfl, by omega, rfl, hid (Fr.refl _ _)⟩
          case round =>
            obtain ⟨k, rfl, hk, rfl, hr⟩ := hrel
            have HF := hid hr.out
            clear hr
            by_cases hkn : k < n
            · have hkn2 : (k : Int) < n := by omega
              have hka : k < at'.length := by rw [← HN.out]; exact hkn
              obtain ⟨ba, ca, e, hca⟩ := RI.cell (RV.keep0 (HR2.out.2.sl (.slice av n cv, at') (by simp)) HF.out) k hka
              simp only at e
              injection e with e1 e2 e3
              subst e1
              clear e2 e3
              have hcl2 := HLD.out wr HF.out
              have htk : (at'.take (k + 1)).contains y = ((at'.take k).contains y || (at'.getD k 0 == y)) := by
                have h1 : at'[k]? = some (at'.getD k 0) := by rw [List.getD, List.getElem?_eq_getElem hka]; rfl
                rw [List.take_add_one, h1, List.contains_eq_any_beq, List.contains_eq_any_beq, List.any_append]
                simp only [Option.toList, List.any_cons, List.any_nil, Bool.or_false]
                congr 1
                rw [Bool.eq_iff_iff, beq_iff_eq, beq_iff_eq]; exact eq_comm
              have HTK := hid htk
              generalize at'.getD k 0 = x at hca HTK
              obtain ⟨c, hc⟩ : ∃ c, c = (at'.take k).contains y := ⟨_, rfl⟩
              rw [← hc] at HTK ⊢
              clear htk hka hc
              cases c with
              | true =>
                go_wp2_with fail
                go_quiet (fail)
                go_wp2_with fail
                go_roundw
                case rel => exact ⟨k + 1, by go_num, by omega, by rw [HTK.out]; rfl, hid (HF.out.drewN _)⟩
                case measure => simp [intOf]; omega
              | false =>
                by_cases hxy : x = y
                · have hb1 : (x == y) = true := by simpa using hxy
                  have HXY := hid hb1
                  clear hxy
                  go_wp2_with fail
                  go_quiet (fail)
                  go_wp2_with fail
                  go_roundw
                  case rel => exact ⟨k + 1, by go_num, by omega, by rw [HTK.out, HXY.out]; rfl, hid (HF.out.drewN _)⟩
                  case measure => simp [intOf]; omega
                · have hb1 : (x == y) = false := by simpa using hxy
                  have HXY := hid hb1
                  clear hxy
                  go_wp2_with fail
                  go_quiet (fail)
                  go_wp2_with fail
                  go_roundw
                  case rel => exact ⟨k + 1, by go_num, by omega, by rw [HTK.out, HXY.out]; rfl, hid (HF.out.drewN _)⟩
                  case measure => simp [intOf]; omega
            · obtain rfl : k = n := by omega
              have hkn2 : ¬ (k : Int) < k := by omega
              have hfl : (l.take (m + 1)).filter (fun x => at'.contains x) = real ++ (if at'.contains y then [y] else []) := by
                rw [List.take_add_one, HGET.out, List.filter_append, ← HR2.out.1]
                simp only [Option.toList, List.filter_cons, List.filter_nil]
              have HFL := hid hfl
              obtain ⟨c, hc⟩ : ∃ c, c = at'.contains y := ⟨_, rfl⟩
              have hta : (at'.take k).contains y = c := by rw [HN.out, List.take_length, hc]
              rw [hta]
              rw [← hc] at HFL
              have HM2 := hid (HR2.out.2.keep HF.out)
              have S := hid (fun t => show RI (wr.alloc t) (.slice ar nr cr) real from RV.keep0 (HM2.out.sl (.slice ar nr cr, real) (by simp)) ((Fr.refl _ _).alloc _))
              have hcl2 := HLD.out wr HF.out
              clear hkn hfl hc hta
              cases c with
              | false =>
                go_wp2_with fail
                go_roundw
                case rel => exact ⟨m + 1, real, by go_num, by omega, by rw [← HNR.out]; omega, hid ⟨by rw [HFL.out]; simp, HM2.out⟩⟩
                case measure => simp [intOf]; omega
              | true =>
                go_wp2_with (at_builtin; refine wp_append_ri rfl (.tmp 92) (.tmp 97) rfl (.slice ar nr cr) (.slice (some ⟨wr.heap.size, 0, none⟩) 1 1) real [y] rfl (S.out _) rfl (RI.made (w := wr) [y] (by simp)) (by rw [← HNR.out]; simp; omega) ?_; intro a5 c5 w5 r5 f5 n5; rw [← HNR.out] at r5 n5 ⊢; have R5 := hid r5; have F5 := hid f5; have N5 := hid n5; clear r5 f5 n5)
                have HN5 : Hid (Many W w5 (.pointer (some ⟨hb, 0, none⟩)) 600 L [(.slice (some ⟨bl, 0, none⟩) len0 cl, l), (.slice av k cv, at'), (.slice a5 (nr + [y].length) c5, real ++ [y])]) := hid (by
                  refine Many.grow (vs1 := [(.slice (some ⟨bl, 0, none⟩) len0 cl, l), (.slice av k cv, at')]) (vs2 := []) HM2.out (((Fr.refl _ _).alloc _).tr F5.out) R5.out (fun b hb => ?_)
                  rcases N5.out b hb with h | h
                  · exact .inl h
                  · rw [World.size_alloc] at h; exact .inr (by omega))
                go_roundw
                case rel => exact ⟨m + 1, real ++ [y], by go_num, by omega, by rw [List.length_append, ← HNR.out]; simp; omega, hid ⟨by rw [HFL.out]; simp, HN5.out⟩⟩
                case measure => simp [intOf]; omega
        · obtain rfl : m = len0 := by omega
          have hlt2 : ¬ (m : Int) < m := by omega
          have HRE := hid (show real = l.filter (fun x => at'.contains x) by rw [HR2.out.1, ← HLL.out, List.take_length])
          have HM3 := hid HR2.out.2
          have HSUB := hid HR.out.sub
          obtain ⟨ar, cr, hvr, _, _⟩ := (HM3.out.sl (u12, real) (by simp)).form
          simp only at hvr
          obtain ⟨nr, hnr⟩ : ∃ n, n = real.length := ⟨_, rfl⟩
          have HNR := hid hnr
          rw [← hnr] at hvr hrl
          subst hvr
          have hb3 := B3.out
          clear hlt hnr
          go_wp2_with fail
          go_loopw [11, 17] (fun v i wr => ∃ (k : Nat) (ex : List Int), i = .int .i64 k ∧ k ≤ len2 ∧ ex.length ≤ k ∧ Hid ((∀ x ∈ ex, x ∉ l) ∧ Many W wr (.pointer (some ⟨hb, 0, none⟩)) 600 L [(.slice al m cl, l), (v, at' ++ ex), (.slice ar nr cr, real)])) (fun _ i _ => len2 - (intOf i).toNat)
          case atStart => exact ⟨0, [], rfl, by omega, by simp, hid ⟨by simp, by rw [List.append_nil]; exact HM3.out⟩⟩
          case round =>
            obtain ⟨k, ex, rfl, hk, hexl, hr⟩ := hrel
            have HR4 := hid hr.out
            clear hr
            obtain ⟨av2, cv2, hva, _, _⟩ := (HR4.out.2.sl (u11, at' ++ ex) (by simp)).form
            simp only at hva
            obtain ⟨na, hna⟩ : ∃ n, n = (at' ++ ex).length := ⟨_, rfl⟩
            have HNA := hid hna
            have hnab : na ≤ 40 := by rw [hna, List.length_append, ← HN.out]; omega
            rw [← hna] at hva
            subst hva
            clear hna
            by_cases hlt : k < len2
            · have hlt3 : (k : Int) < len2 := by omega
              have HJ : Hid (∀ w', Fr [] W w' → ∃ b off, a2 = some ⟨b, off, none⟩ ∧ w'.cell? ⟨b, off + k, none⟩ = some (.int .i64 (z2.getD k 0))) := hid (fun w' f => by
                obtain ⟨b, off, e, hc, _⟩ := (H2.out.keep f).cell k hlt
                exact ⟨b, off, e, hc⟩)
              obtain ⟨bj, oj, hae, hcj⟩ := HJ.out wr HR4.out.2.fr
              subst hae
              have HJ2 : Hid (∀ w', Fr [] wr w' → w'.cell? ⟨bj, oj + k, none⟩ = some (.int .i64 (z2.getD k 0))) := hid (fun w' f => f.cell hcj (by simp))
              generalize z2.getD k 0 = z at hcj HJ2
              have E := hid (isObject_any (HR4.out.2.sl (.slice al m cl, l) (by simp)) z)
              obtain ⟨c, hc⟩ : ∃ c, c = l.contains z := ⟨_, rfl⟩
              rw [← hc] at E
              have HC := hid hc
              clear hc
              cases c with
              | true =>
                go_wp2_with fail
                refine E.out.mono ?_
                rintro e w5 ⟨rfl, f5⟩
                have F5 := hid f5
                clear f5
                go_wp2_with fail
                go_roundw
                case rel => exact ⟨k + 1, ex, by go_num, by omega, by omega, hid ⟨HR4.out.1, HR4.out.2.keep F5.out⟩⟩
                case measure => simp [intOf]; omega
              | false =>
                go_wp2_with fail
                refine E.out.mono ?_
                rintro e w5 ⟨rfl, f5⟩
                have HM5 := hid (HR4.out.2.keep f5)
                have hcj5 := HJ2.out w5 f5
                have S := hid (fun t => show RI (w5.alloc t) (.slice av2 na cv2) (at' ++ ex) from RV.keep0 (HM5.out.sl (.slice av2 na cv2, at' ++ ex) (by simp)) ((Fr.refl _ _).alloc _))
                clear f5
                go_wp2_with (at_builtin; refine wp_append_ri rfl (.tmp 112) (.tmp 117) rfl (.slice av2 na cv2) (.slice (some ⟨w5.heap.size, 0, none⟩) 1 1) (at' ++ ex) [z] rfl (S.out _) rfl (RI.made (w := w5) [z] (by simp)) (by rw [← HNA.out]; simp; omega) ?_; intro a6 c6 w6 r6 f6 n6; rw [← HNA.out] at r6 n6 ⊢; have R6 := hid r6; have F6 := hid f6; have N6 := hid n6; clear r6 f6 n6)
                have HEX2 : Hid (∀ x ∈ ex ++ [z], x ∉ l) := hid (fun x hx => by
                  rcases List.mem_append.1 hx with h | h
                  · exact HR4.out.1 x h
                  · rw [List.mem_singleton.1 h]
                    intro hm
                    rw [← List.contains_iff_mem, ← HC.out] at hm
                    cases hm)
                have HN6 : Hid (Many W w6 (.pointer (some ⟨hb, 0, none⟩)) 600 L [(.slice al m cl, l), (.slice a6 (na + [z].length) c6, at' ++ (ex ++ [z])), (.slice ar nr cr, real)]) := hid (by
                  rw [← List.append_assoc]
                  refine Many.grow (vs1 := [(.slice al m cl, l)]) (vs2 := [(.slice ar nr cr, real)]) HM5.out (((Fr.refl _ _).alloc _).tr F6.out) R6.out (fun b hb => ?_)
                  rcases N6.out b hb with h | h
                  · exact .inl h
                  · rw [World.size_alloc] at h; exact .inr (by omega))
                go_roundw
                case rel => exact ⟨k + 1, ex ++ [z], by go_num, by omega, by rw [List.length_append]; simp; omega, hid ⟨HEX2.out, HN6.out⟩⟩
                case measure => simp [intOf]; omega
            · obtain rfl : k = len2 := by omega
              have hlt3 : ¬ (k : Int) < k := by omega
              have HEX := hid HR4.out.1
              have HM4 := hid HR4.out.2
              have hmb : (m : Int) ≤ 30 := by omega
              have hnrb : (nr : Int) ≤ m := by omega
              clear hlt
              obtain ⟨vs, hvs⟩ : ∃ vs : List (Value × List Int), vs = [(.slice al m cl, l), (.slice av2 na cv2, at' ++ ex), (.slice ar nr cr, real)] := ⟨_, rfl⟩
              have hva : (.slice av2 na cv2, at' ++ ex) ∈ vs := by rw [hvs]; simp
              have hvr : (.slice ar nr cr, real) ∈ vs := by rw [hvs]; simp
              rw [← hvs] at HM4
              have HV := hid (And.intro hva hvr)
              have hnal : (at' ++ ex).length ≤ 1000 := by rw [← HNA.out]; omega
              have HNAL := hid hnal
              clear hvs hva hvr hnal
              go_wp2_with fail
              refine (collect_any (C := NoC) (R := noneR) (O := []) (A := fpM vs) (s := []) (roots := at' ++ ex) HM4.out.own (none_clo L) (HM4.out.sl _ HV.out.1) rfl (by simp) (by simp) (fun a _ => by simp [noneR]) HNAL.out (by simp)).mono ?_
              rintro e w5 ⟨met, O', rfl, h5, kp, nd, hm, hC, _, _, _⟩
              unfold NoC at hC
              subst hC
              have HM5 := hid (HM4.out.next h5 kp)
              obtain ⟨e1, e2⟩ := twice_kept HLA.out HRE.out HEX.out hm
              have HMET := hid hm
              rw [← HNR.out, HLL.out] at e2
              obtain ⟨u, hu⟩ : ∃ u, u = unmet met L L.length := ⟨_, rfl⟩
              rw [← hu] at e2 ⊢
              have hun : (m : Int) - nr = u := by omega
              have hub : (u : Int) ≤ 30 := by omega
              have HATS := hid e1
              clear h5 kp nd hm e1 e2 hu
              go_wp2_with fail
              refine (collect_any (C := NoC) (R := noneR) (O := []) (A := fpM vs) (s := []) (roots := at' ++ ex) HM5.out.own (none_clo _) (HM5.out.sl _ HV.out.1) rfl (by simp) (by simp) (fun a _ => by simp [noneR]) HNAL.out (by simp)).mono ?_
              rintro e w6 ⟨met1, O', rfl, h6, kp, nd, hm, hC, _, _, _⟩
              unfold NoC at hC
              subst hC
              obtain ⟨e1, e2, _⟩ := twice_again HMET.out hm
              rw [e1] at h6
              rw [e2]
              have HM6 := hid (HM5.out.next h6 kp)
              clear h6 kp nd hm e1 e2
              go_wp2_with fail
              refine HM6.out.own.own.all.mono ?_
              rintro e w7 ⟨⟨v7, rfl, hv7, f7, _⟩, _⟩
              have V7 := all_ri hv7
              rw [HATS.out] at V7
              have HM7 := hid (HM6.out.keep f7)
              have E7 := hid (ints_any V7 (HM7.out.sl _ HV.out.2))
              clear hv7 f7 V7
              rw [decide_eq_true rfl] at E7
              go_wp2_with fail
              refine E7.out.mono ?_
              rintro e w8 ⟨rfl, f8⟩
              have HM8 := hid (HM7.out.keep f8)
              clear f8
              have HMK : Hid (Calls Try.prog 37 #[.pointer (some ⟨hb, 0, none⟩), .slice av2 na cv2, .func (.func 34) #[] #[]] w8 fun e w' => ∃ v, e = .returned v ∧ RI w' v real ∧ Fr [] w8 w') := hid (by
                obtain ⟨F, k1, _, _⟩ := HM8.out.own.ex
                refine (mark_any (C := NoC) (R := noneR) (s := []) (O := []) k1 (none_clo _) (HM8.out.sl _ HV.out.1) rfl (by simp) (fun a _ => by simp [noneR]) HNAL.out (by simp)).mono ?_
                rintro e w9 ⟨v9, met2, O', rfl, hv, nd, hm, _, f9, _, _⟩
                have e3 := (twice_again HMET.out hm).2.2
                rw [sort_eq nd (Rise.ats k1.rise) e3, HATS.out] at hv
                exact ⟨v9, rfl, hv, f9⟩)
              go_wp2_with fail
              refine HMK.out.mono ?_
              rintro e w9 ⟨v9, rfl, hv9, f9⟩
              have HM9 := hid (HM8.out.keep f9)
              have E9 := hid (ints_any hv9 (HM9.out.sl _ HV.out.2))
              clear hv9 f9
              rw [decide_eq_true rfl] at E9
              go_wp2_with fail
              refine E9.out.mono ?_
              rintro e w10 ⟨rfl, f10⟩
              have HF := hid (HM9.out.fr.tr f10)
              clear f10
              go_wp2_with fail
              go_ret
              exact ⟨rfl, HF.out⟩

end Go.Proofs.Ytgakkkifohkikaa
