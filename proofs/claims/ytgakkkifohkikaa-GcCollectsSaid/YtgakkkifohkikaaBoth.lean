/-
  An arena, the reference's arena beside it, a slice of ints beside both: all new since some world.
-/
import Derived.Test.YtgakkkifohkikaaMadeP
namespace Go.Proofs.Ytgakkkifohkikaa
open Go.RowKit

structure BothF (w0 w : World) (p q : Value) (FQ : List Nat) (n : Nat) (L M : List Ob) (v : Value) (l : List Int) : Prop where
  own : OwnF w0 w p n L (FQ ++ fpv v)
  ref : Ref w q FQ n M
  sl : RI w v l
  nw : ∀ b ∈ FQ ++ fpv v, w0.heap.size ≤ b
  ap : ∀ b ∈ FQ, b ∉ fpv v
def Both (w0 w : World) (p q : Value) (n : Nat) (L M : List Ob) (v : Value) (l : List Int) : Prop := ∃ FQ, BothF w0 w p q FQ n L M v l
section
variable {w0 w w' : World} {p q : Value} {FQ : List Nat} {n : Nat} {L L' M M' : List Ob} {v v' : Value} {l l' : List Int}
theorem Both.own (h : Both w0 w p q n L M v l) : Own w0 w p n L := by obtain ⟨_, h⟩ := h; exact h.own.own
theorem Both.fr (h : Both w0 w p q n L M v l) : Fr [] w0 w := by obtain ⟨_, h⟩ := h; exact h.own.fr
theorem Both.sl (h : Both w0 w p q n L M v l) : RI w v l := by obtain ⟨_, h⟩ := h; exact h.sl
theorem Both.rise (h : Both w0 w p q n L M v l) : Rise n 1 L := h.own.rise
theorem Both.hmoved (h : BothF w0 w p q FQ n L M v l) (k : OwnF w0 w' p n L' (FQ ++ fpv v) ∧ Kp (FQ ++ fpv v) w w') : Both w0 w' p q n L' M v l := by
  obtain ⟨k1, S, f, hS⟩ := k
  exact ⟨FQ, k1, h.ref.keep f (fun b hb => hS b (List.mem_append_left _ hb)), RV.keep h.sl f (fun b hb => hS b (List.mem_append_right _ hb)), h.nw, h.ap⟩
theorem Both.rmoved (h : BothF w0 w p q FQ n L M v l) (k : RMoved w w' q FQ n M') : Both w0 w' p q n L M' v l := by
  obtain ⟨F', k1, f, hF⟩ := k
  have hlt := h.own.lt
  refine ⟨F', h.own.other f (fun x hx => ⟨.inl (List.mem_append_left _ hx), h.nw x (List.mem_append_left _ hx)⟩) (fun a ha => ?_), k1, RV.keep h.sl f (fun b hb hm => h.ap b hm hb), fun b hb => ?_, fun b hb hv => ?_⟩
  · rcases List.mem_append.1 ha with h1 | h1
    · refine ⟨?_, k1.lt a h1⟩
      rcases hF a h1 with h2 | h2
      · exact .inl (List.mem_append_left _ h2)
      · exact .inr h2
    · exact ⟨.inl (List.mem_append_right _ h1), Nat.lt_of_lt_of_le (hlt a (List.mem_append_right _ h1)) f.size⟩
  · rcases List.mem_append.1 hb with h1 | h1
    · rcases hF b h1 with h2 | h2
      · exact h.nw b (List.mem_append_left _ h2)
      · exact Nat.le_trans h.own.fr.size h2
    · exact h.nw b (List.mem_append_right _ h1)
  · rcases hF b hb with h2 | h2
    · exact h.ap b h2 hv
    · have := hlt b (List.mem_append_right _ hv); omega
theorem Both.keep (h : Both w0 w p q n L M v l) (f : Fr [] w w') : Both w0 w' p q n L M v l := by
  obtain ⟨FQ, h⟩ := h
  exact ⟨FQ, h.own.keep f, h.ref.keep0 f, RV.keep0 h.sl f, h.nw, h.ap⟩
theorem Both.grown (h : Both w0 w p q n L M v l) (f : Fr (fpv v) w w') (hr : RI w' v' l') (hv : ∀ b ∈ fpv v', b ∈ fpv v ∨ w.heap.size ≤ b) : Both w0 w' p q n L M v' l' := by
  obtain ⟨FQ, h⟩ := h
  have hlt := h.own.lt
  refine ⟨FQ, h.own.other f (fun x hx => ⟨.inl (List.mem_append_right _ hx), h.nw x (List.mem_append_right _ hx)⟩) (fun a ha => ?_), h.ref.keep f (fun b hb hm => h.ap b hb hm), hr, fun b hb => ?_, fun b hb hm => ?_⟩
  · rcases List.mem_append.1 ha with h1 | h1
    · exact ⟨.inl (List.mem_append_left _ h1), Nat.lt_of_lt_of_le (hlt a (List.mem_append_left _ h1)) f.size⟩
    · refine ⟨?_, RV.lt hr a h1⟩
      rcases hv a h1 with h2 | h2
      · exact .inl (List.mem_append_right _ h2)
      · exact .inr h2
  · rcases List.mem_append.1 hb with h1 | h1
    · exact h.nw b (List.mem_append_left _ h1)
    · rcases hv b h1 with h2 | h2
      · exact h.nw b (List.mem_append_right _ h2)
      · exact Nat.le_trans h.own.fr.size h2
  · rcases hv b hm with h2 | h2
    · exact h.ap b hb h2
    · have := hlt b (List.mem_append_left _ hb); omega
theorem Both.halloc (h : Both w0 w p q n L M v l) (c k : Nat) (hc : (c : Int) ≤ 9223372036854775807) {x : Nat} (e : arAlloc n L c k = some (x, L')) :
    Calls Try.prog 14 #[p, .int .i64 c, .int .i64 k] w fun e w' => e = .returned (.tuple #[.int .i64 x, .int .i64 0]) ∧ Both w0 w' p q n L' M v l := by
  obtain ⟨FQ, h⟩ := h
  refine (h.own.alloc c k hc e).mono ?_
  rintro e w' ⟨rfl, k⟩
  exact ⟨rfl, Both.hmoved h k⟩
theorem Both.hrelease (h : Both w0 w p q n L M v l) (x : Int) :
    Calls Try.prog 15 #[p, .int .i64 x] w fun e w' => e = .returned (.int .i64 (relE L x)) ∧ Both w0 w' p q n (relL L x) M v l := by
  obtain ⟨FQ, h⟩ := h
  refine (h.own.release x).mono ?_
  rintro e w' ⟨rfl, k⟩
  exact ⟨rfl, Both.hmoved h k⟩
theorem Both.ralloc (h : Both w0 w p q n L M v l) (c k : Nat) {x : Nat} (e : arAlloc n M c k = some (x, M')) :
    Calls Try.prog 24 #[q, .int .i64 c, .int .i64 k] w fun e w' => e = .returned (.tuple #[.int .i64 x, .int .i64 0]) ∧ Both w0 w' p q n L M' v l := by
  obtain ⟨FQ, h⟩ := h
  refine (ralloc_some h.ref c k e).mono ?_
  rintro e w' ⟨rfl, k⟩
  exact ⟨rfl, Both.rmoved h k⟩
theorem Both.rrelease (h : Both w0 w p q n L M v l) (x : Int) :
    Calls Try.prog 25 #[q, .int .i64 x] w fun e w' => e = .returned (.int .i64 (relE M x)) ∧ Both w0 w' p q n L (relL M x) v l := by
  obtain ⟨FQ, h⟩ := h
  refine (rrelease_any h.ref x).mono ?_
  rintro e w' ⟨rfl, k⟩
  exact ⟨rfl, Both.rmoved h k⟩
end

end Go.Proofs.Ytgakkkifohkikaa
