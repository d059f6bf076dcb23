/-
  The document's print.
-/
import Derived.Test.YtlkkekjbcaabcaaTelG
import Derived.Test.YtlkkekjbcaabcaaBackL
import Derived.Test.YtlkkekjbcaabcaaDec
namespace Go.Proofs.Ytlkkekjbcaabcaa
open Go.RowKit

structure Shows (ts : List Tok) : Prop where
  full : ∀ t ∈ ts, t.kind ≠ 6 → t.text ≠ []
  len : ts.length ≤ 20000
  pr : (printOf ts).length ≤ 100000
  sm : ((shown ts).map (fun x => x.length + 1)).sum ≤ 100000
theorem shows_nil : Shows [] := ⟨by simp, by simp, by simp [printOf, shown, Lib.join, List.intercalate], by simp [shown]⟩
theorem sum_ge (l : List Tok) : l.length ≤ (l.map (fun t => t.text.length + 1)).sum := by
  induction l with
  | nil => simp
  | cons x r ih => simp only [List.length_cons, List.map_cons, List.sum_cons]; omega
theorem shows_all (l : List UInt8) : Shows (lexAll l).1 := by
  by_cases hbig : 8000 < l.length
  · unfold lexAll; rw [if_pos hbig]; exact shows_nil
  rw [lexAll_small (by omega)]
  by_cases he : (lexR (l.length + 1) 0 l).2.2 = 0
  · have hr := read_of l (l.length + 1) 0 (by omega) (by omega) (by rw [List.drop_zero]; exact he)
    rw [List.drop_zero] at hr
    obtain ⟨init, k1, k2, k3⟩ := hr.ex
    have hp : printOf (lexR (l.length + 1) 0 l).1 = Lib.join (init.map Tok.text) [32] := by
      unfold printOf; rw [k1, shown_init k2]
    have hs := join_sum (init.map Tok.text)
    rw [List.map_map] at hs
    have e : ((fun x : List UInt8 => x.length + 1) ∘ Tok.text) = fun t : Tok => t.text.length + 1 := rfl
    rw [e] at hs
    have hg := sum_ge init
    refine ⟨fun t ht hk => ?_, ?_, by rw [hp]; omega, by rw [k1, shown_init k2, List.map_map, e]; omega⟩
    · rw [k1] at ht
      rcases List.mem_append.1 ht with h | h
      · intro h0
        have := (k2 t h).pos
        rw [h0] at this
        simp at this
      · rw [List.mem_singleton.1 h] at hk
        exact absurd rfl hk
    · rw [k1, List.length_append]
      simp only [List.length_singleton]
      omega
  · rw [(lexR_shape (l.length + 1) 0 l).1 he]; exact shows_nil

theorem Shows.take {ts : List Tok} (h : Shows ts) (k : Nat) : ((shown (ts.take k)).map (fun x => x.length + 1)).sum ≤ 100000 := by
  have e : shown ts = shown (ts.take k) ++ shown (ts.drop k) := by
    unfold shown
    rw [← List.map_append, ← List.filter_append, List.take_append_drop]
  have := h.sm
  rw [e, List.map_append, List.sum_append] at this
  omega
theorem join_snoc (xs : List (List UInt8)) (y : List UInt8) : Lib.join (xs ++ [y]) [32] = if xs = [] then y else Lib.join xs [32] ++ 32 :: y := by
  cases xs with
  | nil => rw [if_pos rfl]; exact Lib.join_one y [32]
  | cons x r =>
    rw [if_neg (by simp), List.cons_append, Lib.join_cons, Lib.join_cons]
    unfold Lib.joinTail
    simp
theorem join_empty {xs : List (List UInt8)} (h : ∀ x ∈ xs, x ≠ []) : Lib.join xs [32] = [] ↔ xs = [] := by
  cases xs with
  | nil => simp [Lib.join, List.intercalate]
  | cons x r =>
    rw [Lib.join_cons]
    have := h x (by simp)
    simp [this]
theorem shown_full {ts : List Tok} (h : ∀ t ∈ ts, t.kind ≠ 6 → t.text ≠ []) (k : Nat) : ∀ x ∈ shown (ts.take k), x ≠ [] := by
  intro x hx
  unfold shown at hx
  obtain ⟨t, ht, rfl⟩ := List.mem_map.1 hx
  have h1 := List.mem_filter.1 ht
  exact h t (List.mem_of_mem_take h1.1) (by simpa using h1.2)


end Go.Proofs.Ytlkkekjbcaabcaa
