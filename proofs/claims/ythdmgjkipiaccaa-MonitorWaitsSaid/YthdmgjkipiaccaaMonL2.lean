/-
  A table that is wholly new: Wait and Notify.
-/
import Derived.Test.YthdmgjkipiaccaaMonL1
import Derived.Test.YthdmgjkipiaccaaMonI
import Derived.Test.YthdmgjkipiaccaaMonJ
namespace Go.Proofs.Ythdmgjkipiaccaa
open Go.RowKit

theorem Own.wait {w0 w : World} {p : Value} {T : PT} {n : Nat} (h : Own w0 w p T n) (hn : n + 1 ≤ 100000) (a t : Int) {b e : Int} (he : (T.wait a t).1 = (b, e)) :
    Calls Try.prog 14 #[p, .int .i64 a, .int .i64 t] w fun x w' => x = .returned (.tuple #[.int .i64 b, .int .i64 e]) ∧ Own w0 w' p (T.wait a t).2 (n + 1) := by
  obtain ⟨⟨F, h1, h2⟩, h3, h4, h5⟩ := h
  refine (wait_any h1 h4 h5 a t).mono ?_
  rintro x w' ⟨rfl, hm⟩
  obtain ⟨F', k1, k2, k3⟩ := hm.own h3 h2
  rw [he]
  exact ⟨rfl, ⟨F', k1, k3⟩, k2, PT.wait_small h4 a t, hn⟩
theorem Own.notify {w0 w : World} {p : Value} {T : PT} {n : Nat} (h : Own w0 w p T n) (a t : Int) (all : Bool) {b e : Int} (he : (T.notify a t all).1 = (b, e)) :
    Calls Try.prog 15 #[p, .int .i64 a, .int .i64 t, .bool all] w fun x w' => x = .returned (.tuple #[.int .i64 b, .int .i64 e]) ∧ Own w0 w' p (T.notify a t all).2 n := by
  obtain ⟨⟨F, h1, h2⟩, h3, h4, h5⟩ := h
  refine (notify_any h1 h4 h5 a t all).mono ?_
  rintro x w' ⟨rfl, hm⟩
  obtain ⟨F', k1, k2, k3⟩ := hm.own h3 h2
  rw [he]
  exact ⟨rfl, ⟨F', k1, k3⟩, k2, PT.notify_small h4 a t all, h5⟩
theorem Own.mono {w0 w : World} {p : Value} {T : PT} {n m : Nat} (h : Own w0 w p T n) (hm : n ≤ m) (hl : m ≤ 100000) : Own w0 w p T m := ⟨h.ex, h.fr, h.sm.mono hm, hl⟩

end Go.Proofs.Ythdmgjkipiaccaa
