/-
  An arena that is new since some world, beside other blocks (A) that it doesn't touch.
-/
import Derived.Test.YtgakkkifohkikaaHeapG
import Derived.Test.YtgakkkifohkikaaSlR
namespace Go.Proofs.Ytgakkkifohkikaa
open Go.RowKit

/-- the blocks A stay as they are -/
def Kp (A : List Nat) (w w' : World) : Prop := ∃ S, Fr S w w' ∧ ∀ a ∈ A, a ∉ S
theorem RV.kp {A : List Nat} {w w' : World} {e : TypeId} {k : Nat} {v : Value} {n : Nat} {xs : List Value} (h : RV w e k v n xs) (f : Kp A w w') (hA : ∀ b ∈ fpv v, b ∈ A) : RV w' e k v n xs := by
  obtain ⟨S, f, hS⟩ := f
  exact h.keep f (fun b hb => hS b (hA b hb))
theorem Kp.refl (A : List Nat) (w : World) : Kp A w w := ⟨[], Fr.refl _ _, by simp⟩
theorem Kp.of0 {A : List Nat} {w w' : World} (f : Fr [] w w') : Kp A w w' := ⟨[], f, by simp⟩
theorem Kp.size {A : List Nat} {w w' : World} (h : Kp A w w') : w.heap.size ≤ w'.heap.size := by obtain ⟨S, f, _⟩ := h; exact f.size

structure OwnF (w0 w : World) (p : Value) (n : Nat) (L : List Ob) (A : List Nat) : Prop where
  ex : ∃ F, Ar w p F n L ∧ (∀ x ∈ F, w0.heap.size ≤ x) ∧ ∀ a ∈ A, a ∉ F
  fr : Fr [] w0 w
  lt : ∀ a ∈ A, a < w.heap.size
section
variable {w0 w w' : World} {p : Value} {n : Nat} {L L' : List Ob} {A A' : List Nat}
theorem OwnF.own (h : OwnF w0 w p n L A) : Own w0 w p n L := by
  obtain ⟨⟨F, h1, h2, _⟩, h3, _⟩ := h
  exact ⟨⟨F, h1, h2⟩, h3⟩
theorem Own.ownF (h : Own w0 w p n L) : OwnF w0 w p n L [] := by
  obtain ⟨⟨F, h1, h2⟩, h3⟩ := h
  exact ⟨⟨F, h1, h2, by simp⟩, h3, by simp⟩
theorem OwnF.other {S : List Nat} (h : OwnF w0 w p n L A) (f : Fr S w w') (hS : ∀ x ∈ S, (x ∈ A ∨ w.heap.size ≤ x) ∧ w0.heap.size ≤ x) (hA : ∀ a ∈ A', (a ∈ A ∨ w.heap.size ≤ a) ∧ a < w'.heap.size) : OwnF w0 w' p n L A' := by
  obtain ⟨⟨F, h1, h2, h3⟩, h4, h5⟩ := h
  have hlt := h1.lt
  have hno : ∀ x, (x ∈ A ∨ w.heap.size ≤ x) → x ∉ F := fun x hx hF => by
    rcases hx with h | h
    · exact h3 x h hF
    · have := hlt x hF; omega
  refine ⟨⟨F, h1.keep f (fun b hb hs => hno b (hS b hs).1 hb), h2, fun a ha => hno a (hA a ha).1⟩, ?_, fun a ha => (hA a ha).2⟩
  exact h4.trans f (fun x hx => .inr (hS x hx).2)
theorem OwnF.keep (h : OwnF w0 w p n L A) (f : Fr [] w w') : OwnF w0 w' p n L A :=
  h.other f (by simp) (fun a ha => ⟨.inl ha, Nat.lt_of_lt_of_le (h.lt a ha) f.size⟩)
theorem OwnF.sub (h : OwnF w0 w p n L A) (hA : ∀ a ∈ A', a ∈ A) : OwnF w0 w p n L A' :=
  h.other (Fr.refl [] w) (by simp) (fun a ha => ⟨.inl (hA a ha), h.lt a (hA a ha)⟩)
theorem OwnF.moved {F : List Nat} (h : Moved w w' p F n L') (h3 : Fr [] w0 w) (h2 : ∀ x ∈ F, w0.heap.size ≤ x) (hA : ∀ a ∈ A, a ∉ F) (hlt : ∀ a ∈ A, a < w.heap.size) : OwnF w0 w' p n L' A ∧ Kp A w w' := by
  obtain ⟨F', k1, k2, k3⟩ := h
  refine ⟨⟨⟨F', k1, fun x hx => ?_, fun a ha hF => ?_⟩, h3.trans k2 (fun x hx => .inr (h2 x hx)), fun a ha => Nat.lt_of_lt_of_le (hlt a ha) k2.size⟩, F, k2, hA⟩
  · rcases k3 x hx with h | h
    · exact h2 x h
    · exact Nat.le_trans h3.size h
  · rcases k3 a hF with h | h
    · exact hA a ha h
    · have := hlt a ha; omega
theorem OwnF.alloc (h : OwnF w0 w p n L A) (c k : Nat) (hc : (c : Int) ≤ 9223372036854775807) {x : Nat} (e : arAlloc n L c k = some (x, L')) :
    Calls Try.prog 14 #[p, .int .i64 c, .int .i64 k] w fun e w' => e = .returned (.tuple #[.int .i64 x, .int .i64 0]) ∧ OwnF w0 w' p n L' A ∧ Kp A w w' := by
  obtain ⟨⟨F, h1, h2, h3⟩, h4, h5⟩ := h
  refine (alloc_any h1 c k hc).mono ?_
  intro e' w' hp
  unfold AllocPost at hp
  rw [e] at hp
  exact ⟨hp.1, OwnF.moved hp.2 h4 h2 h3 h5⟩
theorem OwnF.alloc_no (h : OwnF w0 w p n L A) (c k : Nat) (hc : (c : Int) ≤ 9223372036854775807) (e : arAlloc n L c k = none) :
    Calls Try.prog 14 #[p, .int .i64 c, .int .i64 k] w fun e w' => e = .returned (.tuple #[.int .i64 0, .int .i64 110]) ∧ OwnF w0 w' p n L A ∧ Kp A w w' := by
  obtain ⟨⟨F, h1, h2, h3⟩, h4, h5⟩ := h
  refine (alloc_any h1 c k hc).mono ?_
  intro e' w' hp
  unfold AllocPost at hp
  rw [e] at hp
  exact ⟨hp.1, OwnF.moved hp.2 h4 h2 h3 h5⟩
theorem OwnF.release (h : OwnF w0 w p n L A) (x : Int) :
    Calls Try.prog 15 #[p, .int .i64 x] w fun e w' => e = .returned (.int .i64 (relE L x)) ∧ OwnF w0 w' p n (relL L x) A ∧ Kp A w w' := by
  obtain ⟨⟨F, h1, h2, h3⟩, h4, h5⟩ := h
  refine (release_any h1 x).mono ?_
  intro e' w' hp
  exact ⟨hp.1, OwnF.moved hp.2 h4 h2 h3 h5⟩
theorem OwnF.put (h : OwnF w0 w p n L A) (x i v : Int) :
    Calls Try.prog 20 #[p, .int .i64 x, .int .i64 i, .int .u64 v] w fun e w' => e = .returned (.int .i64 (putE L x i)) ∧ OwnF w0 w' p n (putL L x i v) A ∧ Kp A w w' := by
  obtain ⟨⟨F, h1, h2, h3⟩, h4, h5⟩ := h
  refine (put_any h1 x i v).mono ?_
  intro e' w' hp
  exact ⟨hp.1, OwnF.moved hp.2 h4 h2 h3 h5⟩
end

/-! ### a slice of ints beside it -/
def RI (w : World) (v : Value) (l : List Int) : Prop := RV w 3 1 v l.length (l.map vi)
theorem RI.nil (w : World) : RI w (.slice none 0 0) [] := RV.nil _ _ _
theorem RI.cell {w : World} {v : Value} {l : List Int} (h : RI w v l) (j : Nat) (hj : j < l.length) : ∃ b cap, v = .slice (some ⟨b, 0, none⟩) l.length cap ∧ w.cell? ⟨b, j, none⟩ = some (.int .i64 (l.getD j 0)) := by
  obtain ⟨b, cap, e, h1, _⟩ := RV.cell h j (by omega)
  refine ⟨b, cap, e, ?_⟩
  rw [h1]
  simp [List.getD, hj, vi]
theorem RI.form {w : World} {v : Value} {l : List Int} (h : RI w v l) : ∃ a cap, v = .slice a l.length cap ∧ l.length ≤ cap ∧ cap ≤ maxLen := RV.form h
/-- the arena, and beside it the ints l in the slice v -/
structure OwnL (w0 w : World) (p : Value) (n : Nat) (L : List Ob) (v : Value) (l : List Int) : Prop where
  own : OwnF w0 w p n L (fpv v)
  sl : RI w v l
  nw : ∀ b ∈ fpv v, w0.heap.size ≤ b
theorem OwnL.start {w0 w : World} {p : Value} {n : Nat} {L : List Ob} (h : Own w0 w p n L) : OwnL w0 w p n L (.slice none 0 0) [] := ⟨h.ownF, RI.nil w, by simp [fpv, Value.ownBlock]⟩
theorem OwnL.next {w0 w w' : World} {p : Value} {n : Nat} {L L' : List Ob} {v : Value} {l : List Int} (h : OwnL w0 w p n L v l) (k : OwnF w0 w' p n L' (fpv v) ∧ Kp (fpv v) w w') : OwnL w0 w' p n L' v l :=
  ⟨k.1, RV.kp h.sl k.2 (fun _ hb => hb), h.nw⟩
theorem OwnL.keep {w0 w w' : World} {p : Value} {n : Nat} {L : List Ob} {v : Value} {l : List Int} (h : OwnL w0 w p n L v l) (f : Fr [] w w') : OwnL w0 w' p n L v l := h.next ⟨h.own.keep f, Kp.of0 f⟩
/-- behind an append to v -/
theorem OwnL.grown {w0 w w' : World} {p : Value} {n : Nat} {L : List Ob} {v v' : Value} {l l' : List Int} (h : OwnL w0 w p n L v l) (f : Fr (fpv v) w w') (hr : RI w' v' l') (hv : ∀ b ∈ fpv v', b ∈ fpv v ∨ w.heap.size ≤ b) : OwnL w0 w' p n L v' l' :=
  ⟨h.own.other f (fun x hx => ⟨.inl hx, h.nw x hx⟩) (fun a ha => ⟨hv a ha, RV.lt hr a ha⟩), hr, fun b hb => by
    rcases hv b hb with h1 | h1
    · exact h.nw b h1
    · exact Nat.le_trans h.own.fr.size h1⟩
/-- another slice, wholly new -/
theorem OwnL.other {w0 w w' : World} {p : Value} {n : Nat} {L : List Ob} {v v' : Value} {l l' : List Int} (h : OwnL w0 w p n L v l) (f : Fr [] w w') (hr : RI w' v' l') (hv : ∀ b ∈ fpv v', w.heap.size ≤ b) : OwnL w0 w' p n L v' l' :=
  h.grown (f.sub (by simp)) hr (fun b hb => .inr (hv b hb))

end Go.Proofs.Ytgakkkifohkikaa
