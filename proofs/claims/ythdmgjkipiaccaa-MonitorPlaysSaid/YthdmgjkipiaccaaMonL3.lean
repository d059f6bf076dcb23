/-
  A table that is wholly new: Held and Forget.
-/
import Derived.Test.YthdmgjkipiaccaaMonL1
import Derived.Test.YthdmgjkipiaccaaHeld
import Derived.Test.YthdmgjkipiaccaaMonM
namespace Go.Proofs.Ythdmgjkipiaccaa
open Go.RowKit

theorem PT.forget_small {T : PT} {n : Nat} (h : T.Small n) (a : Int) : (T.forget a).2.Small n := by
  unfold PT.forget
  cases e : lget T.ls a with
  | none => exact h
  | some L =>
    simp only []
    split
    · exact h
    · exact ⟨fun k L' hm => h.ls k L' (mem_ldel hm), h.cs⟩
theorem Own.held {w0 w : World} {p : Value} {T : PT} {n : Nat} (h : Own w0 w p T n) (hk : ∀ q ∈ T.ls, (Lit.int .i64 q.1).wf = true) (hl : T.ls.length ≤ 100000) (t : Int) :
    Calls Try.prog 16 #[p, .int .i64 t] w fun x w' => HeldPost w (T.held t) x w' ∧ Own w0 w' p T n := by
  obtain ⟨F, h1, h2⟩ := h.ex
  refine (held_any h1 hk hl t).mono ?_
  rintro x w' hm
  have f : Fr [] w w' := by obtain ⟨v, _, _, _, f⟩ := hm; exact f
  exact ⟨hm, h.keep f⟩
theorem Own.forget {w0 w : World} {p : Value} {T : PT} {n : Nat} (h : Own w0 w p T n) (a : Int) {e : Int} (he : (T.forget a).1 = e) :
    Calls Try.prog 17 #[p, .int .i64 a] w fun x w' => x = .returned (.int .i64 e) ∧ Own w0 w' p (T.forget a).2 n := by
  obtain ⟨⟨F, h1, h2⟩, h3, h4, h5⟩ := h
  refine (forget_any h1 h4 h5 a).mono ?_
  rintro x w' ⟨rfl, hm⟩
  obtain ⟨F', k1, k2, k3⟩ := hm.own h3 h2
  rw [he]
  exact ⟨rfl, ⟨F', k1, k3⟩, k2, PT.forget_small h4 a, h5⟩
theorem Own.more {w0 w : World} {p : Value} {T : PT} {n m : Nat} (h : Own w0 w p T n) (hm : n ≤ m) (hl : m ≤ 100000) : Own w0 w p T m := ⟨h.ex, h.fr, h.sm.mono hm, hl⟩
/-- Exit, with a block beside it that lies still -/
theorem Own.exit_beside {w0 w : World} {p : Value} {T : PT} {n : Nat} (h : Own w0 w p T n) (o : Obj) (hn : n + 1 ≤ 100000) (a t : Int) {b e : Int} (he : (T.exit a t).1 = (b, e)) :
    Calls Try.prog 11 #[p, .int .i64 a, .int .i64 t] (w.alloc o) fun x w' => x = .returned (.tuple #[.int .i64 b, .int .i64 e]) ∧ Own w0 w' p (T.exit a t).2 (n + 1) ∧ w'.heap[w.heap.size]? = some o := by
  obtain ⟨⟨F, h1, h2⟩, h3, h4, h5⟩ := h
  have hlt := h1.lt
  refine (exit_any (h1.keep0 ((Fr.refl [] w).alloc o)) h4 h5 a t).mono ?_
  rintro x w' ⟨rfl, hm⟩
  have f : w'.heap[w.heap.size]? = some o := by
    obtain ⟨_, _, f, _⟩ := hm
    exact f.obj (heap_alloc_new w o) (fun hx => by have := hlt _ hx; omega)
  obtain ⟨F', k1, k2, k3⟩ := hm.own (h3.alloc o) h2
  rw [he]
  exact ⟨rfl, ⟨⟨F', k1, k3⟩, k2, PT.exit_small h4 a t, hn⟩, f⟩

end Go.Proofs.Ythdmgjkipiaccaa
