/-
  Statements about tokens: known.
-/
import Derived.Test.YtlkkekjbcaabcaaLexF
namespace Go.Proofs.Ytlkkekjbcaabcaa
open Go.RowKit

theorem Toks.tok {w : World} {v : Value} {ts : List Tok} (h : Toks w v ts) : ts = [] ∨ ∃ b cap, v = .slice (some ⟨b, 0, none⟩) ts.length cap ∧ ∀ j (t : Tok), ts[j]? = some t → ∀ i u, t.cells[i]? = some u → w.cell? ⟨b, 5 * j + i, none⟩ = some u := by
  obtain ⟨hl, h2⟩ := h
  rcases h2 with ⟨_, h3⟩ | ⟨b, cap, cur, rfl, _, hh, _, _, hs, ht⟩
  · exact .inl (by cases ts with | nil => rfl | cons => simp at h3)
  · refine .inr ⟨b, cap, rfl, fun j t hj i u hi => ?_⟩
    rw [cell_of_row _ _ _ _ _ _ hh]
    have hflat : ∀ (l : List Tok) (j : Nat), l[j]? = some t → (l.flatMap (fun t => t.cells.toList))[5 * j + i]? = some u := by
      have hi5 : i < 5 := by
        have : i < t.cells.size := (Array.getElem?_eq_some_iff.1 hi).1
        simpa [Tok.cells] using this
      intro l
      induction l with
      | nil => intro j hj; simp at hj
      | cons x r ih =>
        intro j hj
        have hx : x.cells.toList.length = 5 := by simp [Tok.cells]
        cases j with
        | zero =>
          simp only [List.getElem?_cons_zero, Option.some.injEq] at hj
          subst hj
          rw [List.flatMap_cons, Nat.mul_zero, Nat.zero_add, List.getElem?_append_left (by rw [hx]; exact hi5), Array.getElem?_toList]
          exact hi
        | succ j =>
          simp only [List.getElem?_cons_succ] at hj
          rw [List.flatMap_cons, List.getElem?_append_right (by rw [hx]; omega), hx]
          have e : 5 * (j + 1) + i - 5 = 5 * j + i := by omega
          rw [e]
          exact ih j hj
    have h5 := hflat ts j hj
    rw [← ht] at h5
    rw [List.getElem?_take] at h5
    split at h5
    · rw [← Array.getElem?_toList]; exact h5
    · cases h5

def kA : List UInt8 := [120, 61, 51, 105, 32, 47, 47, 32, 110, 111]
def kB : List UInt8 := [97, 32, 35]
def kT : List Tok := [⟨1, 0, [120], 0, 0, 0⟩, ⟨5, 1, [61], 0, 0, 0⟩, ⟨4, 2, [51, 105], 0, 0, 4613937818241073152⟩, ⟨6, 10, [], 0, 0, 0⟩]
theorem kA_is : lexAll kA = (kT, 0, 0) := by decide +kernel
theorem kB_is : lexAll kB = ([], 2, 180) := by decide +kernel
theorem kW_is : isWord [115, 121, 110, 99] = true := by decide +kernel

set_option maxRecDepth 20000 in
set_option maxHeartbeats 2000000 in
theorem known_any (w : World) : Calls Try.prog 8 #[] w fun e w' => e = .returned (.bool true) ∧ Fr [] w w' := by
  have cA := fun w => all_any (bs kA) (by decide) w
  have cB := fun w => all_any (bs kB) (by decide) w
  have cW := fun w => word_any (bs [115, 121, 110, 99]) w
  simp only [bs_list, kA_is, kB_is, kW_is] at cA cB cW
  have CA := hid cA
  have CB := hid cB
  have CW := hid cW
  clear cA cB cW
  go_enter Try.func8, Try.ntmps8
  go_wp2_with fail
  refine (CA.out _).mono ?_
  rintro e w1 ⟨v1, rfl, hv1, _, f1⟩
  have HV1 := hid hv1
  have F1 := hid f1
  clear hv1 f1
  go_wp2_with fail
  refine (CB.out _).mono ?_
  rintro e w2 ⟨v2, rfl, hv2, _, f2⟩
  have HV2 := hid (HV1.out.keep0 f2)
  have F2 := hid (F1.out.tr f2)
  obtain h | ⟨b, cap, hv, hc⟩ := HV2.out.tok
  · exact absurd h (by decide)
  have c20 : w2.cell? ⟨b, 10, none⟩ = some (.int .i64 4) := hc 2 _ rfl 0 _ rfl
  have c24 : w2.cell? ⟨b, 14, none⟩ = some (.complex .f64 0 4613937818241073152) := hc 2 _ rfl 4 _ rfl
  have c30 : w2.cell? ⟨b, 15, none⟩ = some (.int .i64 6) := hc 3 _ rfl 0 _ rfl
  subst hv
  clear hc hv2 f2
  rw [show kT.length = 4 from rfl]
  have o1 : FloatKind.f64.format.order 0 0 = some Ordering.eq := by decide +kernel
  have o2 : FloatKind.f64.format.order 4613937818241073152 4613937818241073152 = some Ordering.eq := by decide +kernel
  go_wp2_with fail
  refine (CW.out _).mono ?_
  rintro e w3 ⟨rfl, f3⟩
  have F3 := hid (F2.out.tr f3)
  clear f3
  go_wp2_with fail
  go_ret
  exact ⟨rfl, F3.out⟩

end Go.Proofs.Ytlkkekjbcaabcaa
