/-
  MonitorCounts: the walk.
-/
import Derived.Test.YthdmgjkipiaccaaApartW
namespace Go.Proofs.Ythdmgjkipiaccaa
open Go.RowKit

set_option maxRecDepth 20000 in
set_option maxHeartbeats 2000000 in
theorem counts_walk (a0 a1 a2 : Int) (W : World) (w0 : (Lit.int .u8 a0).wf = true) (w1 : (Lit.int .u8 a1).wf = true) (w2 : (Lit.int .u8 a2).wf = true) :
    Calls Try.prog 6 #[.int .u8 a0, .int .u8 a1, .int .u8 a2] W fun e w' => e = .returned (.bool true) ∧ Fr [] W w' := by
  obtain ⟨b0, b1⟩ := u8_bounds w0
  obtain ⟨b2, b3⟩ := u8_bounds w1
  obtain ⟨b4, b5⟩ := u8_bounds w2
  clear w0 w1 w2
  go_enter Try.func6, Try.ntmps6
  go_wp2_with fail
  refine (known_any W).mono ?_
  rintro e wA ⟨rfl, f0⟩
  go_wp2_with fail
  refine (Own.new W wA f0).mono ?_
  rintro e wB ⟨tb, rfl, h1⟩
  have H1 := hid h1
  clear h1 f0
  go_wp2_with fail
  obtain ⟨kn, hk, hk1, hk8⟩ : ∃ kn : Nat, a0 % 10 + 1 = (kn : Int) ∧ 1 ≤ kn ∧ kn ≤ 10 := ⟨(a0 % 10 + 1).toNat, by omega, by omega, by omega⟩
  rw [hk]
  generalize hkv : (kn : Int) = kv
  obtain ⟨a, ha⟩ : ∃ a, a = a1 + 1 := ⟨_, rfl⟩
  obtain ⟨b, hb⟩ : ∃ b, b = a2 + 1 := ⟨_, rfl⟩
  have ha1 : 1 ≤ a ∧ a ≤ 256 := by omega
  have hb1 : 1 ≤ b ∧ b ≤ 256 := by omega
  rw [← ha, ← hb]
  have HKV := hid hkv
  have HA := hid ha1
  have HB := hid hb1
  clear ha hb ha1 hb1 b0 b1 b2 b3 b4 b5 hk hkv
  go_loopw [11] (fun i wr => ∃ (j : Nat) (v : Int), i = .int .i64 v ∧ Hid (v = (j + 1 : Nat)) ∧ j ≤ kn ∧ Hid (Own W wr (.pointer (some ⟨tb, 0, none⟩)) (cT a b j) j)) (fun i _ => kn + 1 - (intOf i).toNat)
  case atStart => exact ⟨0, 1, rfl, rfl, by omega, H1.out⟩
  case round =>
    obtain ⟨j, v, rfl, hv, hj, hown⟩ := hrel
    by_cases hlt : j < kn
    · have hle : decide (v ≤ kv) = true := by rw [decide_eq_true_eq, hv.out, ← HKV.out]; omega
      have E := hid (hown.out.enter (by omega) a b (congrArg Prod.fst (cT_enter a b HA.out.1 HB.out.1 j)))
      rw [cT_enter a b HA.out.1 HB.out.1 j] at E
      clear hj hown
      go_wp2_with fail
      clear hle
      refine E.out.mono ?_
      rintro e w2 ⟨rfl, hB⟩
      have H2 := hid hB
      clear hB
      go_wp2_with fail
      refine (H2.out.lock a).mono ?_
      rintro e w3 ⟨⟨ve, vw, rfl, s1, s2, _⟩, hB⟩
      obtain ⟨a1', c1, rfl, _, _⟩ := s1.form
      obtain ⟨a2', c2, rfl, _, _⟩ := s2.form
      rw [cT_at, ← hv.out]
      have H3 := hid hB
      clear s1 s2 hB
      go_wp2_with fail
      have hw : wrap64 (v + 1) = v + 1 := IntWalk.wrap64_in _ (by have := hv.out; omega)
      go_roundw
      case rel => exact ⟨j + 1, v + 1, by rw [hw], by rw [hv.out]; rfl, by omega, H3.out.keep ((Fr.refl _ _).alloc _)⟩
      case measure => have := hv.out; simp [intOf, hw]; omega
    · obtain rfl : j = kn := by omega
      have hle : decide (v ≤ kv) = false := by rw [decide_eq_false_iff_not, hv.out, ← HKV.out]; omega
      obtain ⟨ft, hft⟩ : ∃ ft, ft = decide (3 < kv) := ⟨_, rfl⟩
      have eT : cT a b j = dT a b ft j := by
        unfold cT dT
        rw [if_neg (by omega), if_neg (by omega), hft, ← HKV.out]
      have H2 := hid hown.out
      rw [eT] at H2
      have HFT := hid hft
      clear hown eT hft hj hlt
      go_wp2_with fail
      clear hle
      go_loopw [15] (fun i wr => ∃ (i' : Nat) (u : Int), i = .int .i64 u ∧ Hid (u = (i' : Nat)) ∧ i' ≤ j ∧ Hid (Own W wr (.pointer (some ⟨tb, 0, none⟩)) (dT a b ft i') (40 - i'))) (fun i _ => (intOf i).toNat)
      case atStart => exact ⟨j, kv, rfl, HKV.out.symm, Nat.le_refl _, H2.out.more (by omega) (by omega)⟩
      case round =>
        obtain ⟨i, u, rfl, hu, hi, hown⟩ := hrel
        cases i with
        | succ i =>
          have hlt2 : decide (0 < u) = true := by rw [decide_eq_true_eq, hu.out]; omega
          have E := hid (hown.out.held (by
            intro q hq
            simp only [dT, coT, List.mem_cons, List.not_mem_nil, or_false] at hq
            have := HA.out
            subst hq
            exact wf_small (by show 0 ≤ a; omega) (by show a ≤ 100000; omega)) (by simp [dT, coT]) b)
          rw [dT_held a b ft HB.out.1] at E
          have HI := hid hi
          clear hi
          go_wp2_with fail
          clear hlt2
          refine E.out.mono ?_
          rintro e w3 ⟨⟨v', rfl, hv', hvb, _⟩, h3⟩
          have H3 := hid h3
          have HV := hid hv'
          clear h3 hv' hvb E
          go_wp2_with fail
          refine (ints_any _ v' _ [a] [a] (HV.out.keep0 ((Fr.refl _ _).alloc _)) (Qu.one w3 a)).mono ?_
          rintro e w4 ⟨rfl, f4⟩
          rw [show decide (([a] : List Int) = [a]) = true from decide_eq_true rfl]
          have H4 := hid ((H3.out.keep ((Fr.refl _ _).alloc _)).keep f4)
          clear f4
          go_wp2_with fail
          have E := hid (H4.out.exit (by omega) a b (congrArg Prod.fst (dT_exit a b ft HB.out.1 i)))
          rw [dT_exit a b ft HB.out.1 i] at E
          refine E.out.mono ?_
          rintro e w5 ⟨rfl, h5⟩
          have H5 := hid h5
          clear h5 E
          go_wp2_with fail
          refine (H5.out.lock a).mono ?_
          rintro e w6 ⟨⟨ve, vw, rfl, s1, s2, _⟩, hB⟩
          obtain ⟨a1', c1, rfl, _, _⟩ := s1.form
          obtain ⟨a2', c2, rfl, _, _⟩ := s2.form
          have hw : wrap64 (u - 1) = (i : Nat) := by rw [IntWalk.wrap64_in _ (by have := hu.out; have := HI.out; omega), hu.out]; omega
          have hat : ((dT a b ft i).at a).count = (i : Nat) := by unfold dT; rw [co_at]
          rw [hat, ← hw]
          have H6 := hid hB
          have hfl := fld1
          have HW := hid hw
          clear s1 s2 hB hat hw
          go_wp2_with fail
          go_roundw
          case rel => exact ⟨i, wrap64 (u - 1), rfl, HW.out, by have := HI.out; omega, H6.out.more (by have := HI.out; omega) (by omega)⟩
          case measure => have h1 := HW.out; have h2 := hu.out; simp only [intOf]; rw [h1, h2]; omega
        | zero =>
          have hlt2 : decide (0 < u) = false := by rw [decide_eq_false_iff_not, hu.out]; omega
          have H3 := hid hown.out
          have e0 : dT a b ft 0 = coT a 0 0 ft := rfl
          rw [e0] at H3
          clear hown e0 hi
          go_wp2_with fail
          have hft : (ft == decide (3 < kv)) = true := by rw [HFT.out]; simp
          have HFT2 := hid hft
          clear hft
          refine (H3.out.lock a).mono ?_
          rintro e w3 ⟨⟨ve, vw, rfl, s1, s2, _⟩, hB⟩
          obtain ⟨a1', c1, rfl, _, _⟩ := s1.form
          obtain ⟨a2', c2, rfl, _, _⟩ := s2.form
          rw [co_at]
          have H4 := hid hB
          clear s1 s2 hB
          go_wp2_with fail
          have E := hid (H4.out.exit_beside (.cells #[.int .i64 0, .int .i64 0, .bool ft, .slice a1' 0 c1, .slice a2' 0 c2] 33) (by omega) a b (congrArg Prod.fst (co4 a b ft HB.out.1)))
          rw [co4 a b ft HB.out.1] at E
          refine E.out.mono ?_
          rintro e w5 ⟨rfl, h5, hb5⟩
          have H5 := hid h5
          have hx0 : w5.cell? ⟨w3.heap.size, 0, none⟩ = some (.int .i64 0) := by rw [cell_of_row _ _ _ _ _ _ hb5]; rfl
          have hx2 : w5.cell? ⟨w3.heap.size, 2, none⟩ = some (.bool ft) := by rw [cell_of_row _ _ _ _ _ _ hb5]; rfl
          have hft := HFT2.out
          clear h5 E hb5
          go_wp2_with fail
          clear hx0 hx2 hft
          have E := hid (H5.out.held (by
            intro q hq
            simp only [coT, List.mem_cons, List.not_mem_nil, or_false] at hq
            have := HA.out
            subst hq
            exact wf_small (by show 0 ≤ a; omega) (by show a ≤ 100000; omega)) (by simp [coT]) b)
          rw [co_none a b ft HB.out.1] at E
          refine E.out.mono ?_
          rintro e w6 ⟨⟨v', rfl, hv', hvb, _⟩, h6⟩
          obtain ⟨av, cv, rfl, _, _⟩ := hv'.form
          have H6 := hid h6
          clear h6 hv' hvb E
          go_wp2_with fail
          have E := hid (H6.out.forget a (e := 0) (by rw [co_forget]))
          rw [co_forget] at E
          refine E.out.mono ?_
          rintro e w7 ⟨rfl, h7⟩
          have H7 := hid h7
          clear h7 E
          go_wp2_with fail
          refine (H7.out.lock a).mono ?_
          rintro e w8 ⟨⟨ve, vw, rfl, s1, s2, _⟩, hB⟩
          obtain ⟨a3', c3, rfl, _, _⟩ := s1.form
          obtain ⟨a4', c4, rfl, _, _⟩ := s2.form
          rw [show ((PT.mk [] []).at a).fat = false from rfl]
          have H8 := hid hB
          have hfl := fld2
          clear s1 s2 hB
          go_wp2_with fail
          go_ret
          exact ⟨rfl, H8.out.fr⟩

end Go.Proofs.Ythdmgjkipiaccaa
