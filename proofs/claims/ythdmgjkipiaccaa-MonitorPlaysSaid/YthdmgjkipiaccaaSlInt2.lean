/-
  append of one int inside a region that draws its order.
-/
import Derived.Test.YthdmgjkipiaccaaSlInt
import Derived.Deep.AppendLies
namespace Go.Proofs.Ythdmgjkipiaccaa
open Go.RowKit

theorem step_append_sli {ops : Array Oper} {o : Oper} {a : Act} {w : World} {K : Act → World → Prop} {Q : Exit → Act → World → Prop} {E : Prop} (hgd : o.guard = none) (s x : Operand)
    (ho : o.op = .call { callee := .builtin .append, args := #[s, x], argTypes := #[26, 26] })
    (v : Value) (xs : List Int) (hs : a.eval s = v) (hown : Sli w v xs) (ad : Addr) (y : Int) (hx : a.eval x = .slice (some ad) 1 1) (hnew : w.cell? ad = some (.int .i64 y)) (hlen : xs.length ≤ 1000000)
    (h : ∀ g cap w', Sli w' (.slice (some ⟨g, 0, none⟩) (xs.length + 1) cap) (xs ++ [y]) → Fr (fpv v) w w' → (g ∈ fpv v ∨ w.heap.size ≤ g) → K (a.put o.dst (.slice (some ⟨g, 0, none⟩) (xs.length + 1) cap)) w') :
    if Region.wanted o (yielded ops a.tmps) = true then Oper.wp Try.prog o a w K Q else E := by
  obtain ⟨i0, hi, hz0, hz1, hz2⟩ := info_parts info_int
  refine step_append_lies w hgd s x 26 ho 0 3 i0 (.int .i64 0) 1 8 Try.underlying26 hi hz0 hz1 hz2 rfl (by decide) v (xs.map vi).length (xs.map vi) hs hown ad 1 1 [.int .i64 y] hx rfl ?_ (ints_oneCell .i64 [y]) (by decide) (by unfold maxLen; simp; omega) (by simp; omega) (by omega) _ rfl ?_
  · intro j u hu
    cases j with
    | zero =>
      simp only [List.getElem?_cons_zero, Option.some.injEq] at hu
      subst hu
      exact hnew
    | succ j => simp at hu
  · intro g cap w' h1 h2 h4 _
    rw [List.length_map] at h1 ⊢
    refine h g cap w' ?_ (grownFr h2) ?_
    · have e : xs.length + 1 = ((xs ++ [y]).map vi).length := by simp
      unfold Sli SlV
      rw [← e, List.map_append]
      exact h1
    · rcases h4 with h4 | h4
      · exact .inl (mem_fpv.2 h4)
      · right; rw [h4]; exact Nat.le_refl _

end Go.Proofs.Ythdmgjkipiaccaa
