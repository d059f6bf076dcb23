/-
  made, plainly.
-/
import Derived.Test.YtgakkkifohkikaaRefD
namespace Go.Proofs.Ytgakkkifohkikaa
open Go.RowKit

/-- objects that stand one behind the other, from a to e -/
def Fills : Nat → List Ob → Nat → Prop
  | a, [], e => a = e
  | a, o :: r, e => o.at' = a ∧ Fills (a + o.sz) r e
theorem Fills.gapsE {n : Nat} : ∀ {a : Nat} {L : List Ob} {e : Nat}, Fills a L e → gaps n a L = if e ≤ n then [(e, n + 1 - e)] else []
  | a, [], e, h => by
    have h : a = e := h
    subst h
    rfl
  | _, o :: r, _, h => by
    obtain ⟨rfl, h2⟩ := h
    have := Fills.gapsE (n := n) h2
    show (if o.at' < o.at' then [(o.at', o.at' - o.at')] else []) ++ gaps n (o.at' + o.sz) r = _
    rw [if_neg (Nat.lt_irrefl _), List.nil_append, this]
theorem Fills.snoc : ∀ {a : Nat} {L : List Ob} {e : Nat} {o : Ob}, Fills a L e → o.at' = e → Fills a (L ++ [o]) (e + o.sz)
  | a, [], e, _, h, ho => by
    have h : a = e := h
    subst h
    exact ⟨ho, rfl⟩
  | _, _ :: _, _, _, h, ho => ⟨h.1, Fills.snoc h.2 ho⟩
theorem Fills.lt : ∀ {a : Nat} {L : List Ob} {e : Nat}, Fills a L e → ∀ q ∈ L, q.at' < e
  | _, [], _, _, _, hq => by cases hq
  | _, _ :: _, _, h, q, hq => by
    have hle : ∀ {a : Nat} {L : List Ob} {e : Nat}, Fills a L e → a ≤ e := by
      intro a L
      induction L generalizing a with
      | nil => intro _ h; exact Nat.le_of_eq h
      | cons _ _ ih => intro _ h; have := ih h.2; omega
    rcases List.mem_cons.1 hq with rfl | hq
    · have := hle h.2
      have := h.1
      simp only [Ob.sz] at *
      omega
    · exact Fills.lt h.2 q hq
/-- making one object more -/
theorem Fills.alloc {n : Nat} {L : List Ob} {e : Nat} (h : Fills 1 L e) (c k : Nat) (hk : e + k + 2 ≤ n + 1) : arAlloc n L c k = some (e, L ++ [newOb e c k]) ∧ Fills 1 (L ++ [newOb e c k]) (e + (k + 2)) := by
  have hg := h.gapsE (n := n)
  rw [if_pos (by omega)] at hg
  have hp : place k (gaps n 1 L) = some e := by
    rw [hg]
    unfold place
    rw [if_pos (by show k + 2 ≤ n + 1 - e; omega)]
  have hi : insOb (newOb e c k) L = L ++ [newOb e c k] := by
    have := insOb_split (o := newOb e c k) (L1 := L) (L2 := []) (fun q hq => h.lt q hq) (fun q hq => by cases hq)
    rw [List.append_nil] at this
    exact this
  refine ⟨?_, ?_⟩
  · unfold arAlloc
    rw [hp]
    show some (e, insOb (newOb e c k) L) = _
    rw [hi]
  · have := h.snoc (o := newOb e c k) rfl
    have e1 : (newOb e c k).sz = k + 2 := by simp [newOb, Ob.sz]
    rw [e1] at this
    exact this

end Go.Proofs.Ytgakkkifohkikaa
