/-
  MonitorApart: the walk.
-/
import Derived.Test.YthdmgjkipiaccaaMonL3
import Derived.Test.YthdmgjkipiaccaaApartP
import Derived.Test.YthdmgjkipiaccaaRowU
namespace Go.Proofs.Ythdmgjkipiaccaa
open Go.RowKit

theorem wf_small {x : Int} (h : 0 ≤ x) (h2 : x ≤ 100000) : (Lit.int .i64 x).wf = true := by have := wrap64_wf x; rwa [IntWalk.wrap64_in x (by omega)] at this

theorem Qu.one (w : World) (y : Int) : Qu (w.alloc (.cells #[.int .i64 y] 3)) (.slice (some ⟨w.heap.size, 0, none⟩) 1 1) [y] := by
  refine ⟨_, 1, rfl, Nat.le_refl _, by unfold maxLen; omega, .inr ⟨w.heap.size, 0, #[.int .i64 y], rfl, heap_alloc_new _ _, by simp, fun j hj => ?_⟩⟩
  obtain rfl : j = 0 := by simp at hj; omega
  rfl

set_option maxRecDepth 20000 in
set_option maxHeartbeats 2000000 in
theorem apart_walk (a0 a1 a2 : Int) (W : World) (w0 : (Lit.int .u8 a0).wf = true) (w1 : (Lit.int .u8 a1).wf = true) (w2 : (Lit.int .u8 a2).wf = true) :
    Calls Try.prog 5 #[.int .u8 a0, .int .u8 a1, .int .u8 a2] W fun e w' => e = .returned (.bool true) ∧ Fr [] W w' := by
  obtain ⟨b0, b1⟩ := u8_bounds w0
  obtain ⟨b2, b3⟩ := u8_bounds w1
  obtain ⟨b4, b5⟩ := u8_bounds w2
  clear w0 w1 w2
  go_enter Try.func5, Try.ntmps5
  go_wp2_with fail
  refine (known_any W).mono ?_
  rintro e wA ⟨rfl, f0⟩
  go_wp2_with fail
  refine (Own.new W wA f0).mono ?_
  rintro e wB ⟨tb, rfl, h1⟩
  have H1 := hid h1
  clear h1 f0
  go_wp2_with fail
  obtain ⟨x, hx⟩ : ∃ x, x = a0 + 1 := ⟨_, rfl⟩
  obtain ⟨y, hy⟩ : ∃ y, y = a0 + 2 + a1 := ⟨_, rfl⟩
  have hx1 : 1 ≤ x ∧ x ≤ 256 := by omega
  have hy1 : 1 ≤ y ∧ y ≤ 512 := by omega
  have hxy : x < y := by omega
  rw [← hx, ← hy]
  have HX := hid hx1
  have HY := hid hy1
  have HXY := hid hxy
  clear hx hy hx1 hy1 hxy b0 b1 b2 b3
  have E1 := hid (H1.out.enter (by omega) x 1 (congrArg Prod.fst (ap1 x HX.out.1)))
  rw [ap1 x HX.out.1] at E1
  refine E1.out.mono ?_
  rintro e w1 ⟨rfl, h2⟩
  have H2 := hid h2
  clear h2 E1
  go_wp2_with fail
  have E2 := hid (H2.out.enter (by omega) y 2 (congrArg Prod.fst (ap2 x y HY.out.1 (by have := HXY.out; omega))))
  rw [ap2 x y HY.out.1 (by have := HXY.out; omega)] at E2
  refine E2.out.mono ?_
  rintro e w2 ⟨rfl, h3⟩
  have H3 := hid h3
  clear h3 E2
  go_wp2_with fail
  have E3 := hid (H3.out.enter (by omega) x 3 (congrArg Prod.fst (ap3 x y HX.out.1 (by have := HXY.out; omega))))
  rw [ap3 x y HX.out.1 (by have := HXY.out; omega)] at E3
  refine E3.out.mono ?_
  rintro e w3 ⟨rfl, h4⟩
  have H4 := hid h4
  clear h4 E3
  go_wp2_with fail
  have E4 := hid (H4.out.exit (by omega) y 1 (congrArg Prod.fst (ap4 x y (by have := HXY.out; omega))))
  rw [ap4 x y (by have := HXY.out; omega)] at E4
  refine E4.out.mono ?_
  rintro e w4 ⟨rfl, h5⟩
  have H5 := hid h5
  clear h5 E4
  go_wp2_with fail
  have E5 := hid (H5.out.enter (by omega) y 3 (congrArg Prod.fst (ap5 x y)))
  rw [ap5 x y] at E5
  refine E5.out.mono ?_
  rintro e w5 ⟨rfl, h6⟩
  have H6 := hid h6
  clear h6 E5
  go_wp2_with fail
  have E6 := hid (H6.out.exit (by omega) x 1 (congrArg Prod.fst (ap6 x y (by have := HXY.out; omega))))
  rw [ap6 x y (by have := HXY.out; omega)] at E6
  refine E6.out.mono ?_
  rintro e w6 ⟨rfl, h7⟩
  have H7 := hid h7
  clear h7 E6
  go_wp2_with fail
  have E7 := hid (H7.out.held (by
    intro q hq
    simp only [apT, List.mem_cons, List.not_mem_nil, or_false] at hq
    have := HX.out; have := HY.out
    rcases hq with rfl | rfl
    · exact wf_small (by show 0 ≤ x; omega) (by show x ≤ 100000; omega)
    · exact wf_small (by show 0 ≤ y; omega) (by show y ≤ 100000; omega)) (by simp [apT]) 2)
  rw [ap_held x y HXY.out] at E7
  refine E7.out.mono ?_
  rintro e w7 ⟨⟨v, rfl, hv, hvb, _⟩, h8⟩
  have H8 := hid h8
  have HV := hid hv
  clear h8 hv hvb E7
  go_wp2_with fail
  refine (ints_any _ v _ [y] [y] (HV.out.keep0 ((Fr.refl _ _).alloc _)) (Qu.one w7 y)).mono ?_
  rintro e w8 ⟨rfl, f8⟩
  rw [show decide (([y] : List Int) = [y]) = true from decide_eq_true rfl]
  have H9 := hid ((H8.out.keep ((Fr.refl _ _).alloc _)).keep f8)
  clear f8
  go_wp2_with fail
  refine (H9.out.lock y).mono ?_
  rintro e w9 ⟨⟨ve, vw, rfl, s1, s2, _⟩, hB⟩
  obtain ⟨a1', c1, rfl, _, _⟩ := s1.form
  obtain ⟨a2', c2, rfl, _, _⟩ := s2.form
  rw [ap_at x y (by have := HXY.out; omega)]
  have HB := hid hB
  have hfl := fld2
  clear s1 s2 hB
  go_wp2_with fail
  refine (HB.out.lock (a2 + 1000)).mono ?_
  rintro e wC ⟨⟨ve, vw, rfl, s1, s2, _⟩, hB⟩
  obtain ⟨a3', c3, rfl, _, _⟩ := s1.form
  obtain ⟨a4', c4, rfl, _, _⟩ := s2.form
  rw [ap_no x y _ (by have := HX.out; omega) (by have := HY.out; omega)]
  have HC := hid hB
  have hfl0 := fld0
  clear s1 s2 hB hfl
  go_wp2_with fail
  go_ret
  exact ⟨rfl, HC.out.fr⟩

end Go.Proofs.Ythdmgjkipiaccaa
