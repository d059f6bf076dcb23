/-
  An arena, and beside it several slices of ints, each apart from the others, all new since some world.
-/
import Derived.Test.YtgakkkifohkikaaGcB
namespace Go.Proofs.Ytgakkkifohkikaa
open Go.RowKit

def fpM (vs : List (Value × List Int)) : List Nat := vs.flatMap (fun v => fpv v.1)
theorem mem_fpM {vs : List (Value × List Int)} {b : Nat} : b ∈ fpM vs ↔ ∃ v ∈ vs, b ∈ fpv v.1 := by unfold fpM; rw [List.mem_flatMap]
structure Many (w0 w : World) (p : Value) (n : Nat) (L : List Ob) (vs : List (Value × List Int)) : Prop where
  own : OwnF w0 w p n L (fpM vs)
  sl : ∀ v ∈ vs, RI w v.1 v.2
  nw : ∀ b ∈ fpM vs, w0.heap.size ≤ b
  ap : vs.Pairwise (fun u v => ∀ b ∈ fpv u.1, b ∉ fpv v.1)
section
variable {w0 w w' : World} {p : Value} {n : Nat} {L L' : List Ob} {vs vs1 vs2 : List (Value × List Int)} {v v' : Value} {l l' : List Int}
theorem Many.lt (h : Many w0 w p n L vs) : ∀ b ∈ fpM vs, b < w.heap.size := h.own.lt
theorem Many.fr (h : Many w0 w p n L vs) : Fr [] w0 w := h.own.fr
theorem Many.keep (h : Many w0 w p n L vs) (f : Fr [] w w') : Many w0 w' p n L vs := ⟨h.own.keep f, fun v hv => RV.keep0 (h.sl v hv) f, h.nw, h.ap⟩
theorem Many.next (h : Many w0 w p n L vs) (k : OwnF w0 w' p n L' (fpM vs)) (kp : Kp (fpM vs) w w') : Many w0 w' p n L' vs :=
  ⟨k, fun v hv => RV.kp (h.sl v hv) kp (fun _ hb => mem_fpM.2 ⟨v, hv, hb⟩), h.nw, h.ap⟩
theorem Many.only (h : Many w0 w p n L vs) (hs : vs1.Sublist vs) : Many w0 w p n L vs1 :=
  ⟨h.own.sub (fun a ha => by obtain ⟨v, hv, hb⟩ := mem_fpM.1 ha; exact mem_fpM.2 ⟨v, hs.subset hv, hb⟩), fun v hv => h.sl v (hs.subset hv), fun b hb => by obtain ⟨v, hv, hb⟩ := mem_fpM.1 hb; exact h.nw b (mem_fpM.2 ⟨v, hs.subset hv, hb⟩), h.ap.sublist hs⟩
theorem mem_mid {u x : Value × List Int} : u ∈ vs1 ++ x :: vs2 ↔ u = x ∨ u ∈ vs1 ++ vs2 := by
  simp only [List.mem_append, List.mem_cons]
  constructor
  · rintro (h | h | h)
    · exact .inr (.inl h)
    · exact .inl h
    · exact .inr (.inr h)
  · rintro (h | h | h)
    · exact .inr (.inl h)
    · exact .inl h
    · exact .inr (.inr h)
/-- the slice in the midst is another one: of its own blocks, or of new ones -/
theorem Many.grow (h : Many w0 w p n L (vs1 ++ (v, l) :: vs2)) (f : Fr (fpv v) w w') (hr : RI w' v' l') (hv : ∀ b ∈ fpv v', b ∈ fpv v ∨ w.heap.size ≤ b) : Many w0 w' p n L (vs1 ++ (v', l') :: vs2) := by
  have hlt := h.lt
  have hap := h.ap
  rw [List.pairwise_append, List.pairwise_cons] at hap
  obtain ⟨a1, ⟨a2, a3⟩, a4⟩ := hap
  have hold : ∀ b, b ∈ fpv v → b ∈ fpM (vs1 ++ (v, l) :: vs2) := fun b hb => mem_fpM.2 ⟨(v, l), by simp, hb⟩
  have hoth : ∀ u ∈ vs1 ++ vs2, ∀ b ∈ fpv u.1, b ∈ fpM (vs1 ++ (v, l) :: vs2) ∧ b ∉ fpv v := fun u hu b hb => by
    refine ⟨mem_fpM.2 ⟨u, mem_mid.2 (.inr hu), hb⟩, fun hv => ?_⟩
    rcases List.mem_append.1 hu with h1 | h1
    · exact a4 u h1 (v, l) (by simp) b hb hv
    · exact a2 u h1 b hv hb
  refine ⟨h.own.other f (fun x hx => ⟨.inl (hold x hx), h.nw x (hold x hx)⟩) (fun a ha => ?_), fun u hu => ?_, fun b hb => ?_, ?_⟩
  · obtain ⟨u, hu, hb⟩ := mem_fpM.1 ha
    rcases mem_mid.1 hu with rfl | hu
    · refine ⟨?_, RV.lt hr a hb⟩
      rcases hv a hb with h1 | h1
      · exact .inl (hold a h1)
      · exact .inr h1
    · have := (hoth u hu a hb).1
      exact ⟨.inl this, Nat.lt_of_lt_of_le (hlt a this) f.size⟩
  · rcases mem_mid.1 hu with rfl | hu
    · exact hr
    · exact RV.keep (h.sl u (mem_mid.2 (.inr hu))) f (fun b hb => (hoth u hu b hb).2)
  · obtain ⟨u, hu, hb⟩ := mem_fpM.1 hb
    rcases mem_mid.1 hu with rfl | hu
    · rcases hv b hb with h1 | h1
      · exact h.nw b (hold b h1)
      · exact Nat.le_trans h.own.fr.size h1
    · exact h.nw b (hoth u hu b hb).1
  · rw [List.pairwise_append, List.pairwise_cons]
    refine ⟨a1, ⟨fun u hu b hb hm => ?_, a3⟩, fun u hu x hx b hb hm => ?_⟩
    · have h2 := hoth u (List.mem_append_right _ hu) b hm
      rcases hv b hb with h1 | h1
      · exact h2.2 h1
      · have := hlt b h2.1; omega
    · rcases List.mem_cons.1 hx with rfl | hx
      · have h2 := hoth u (List.mem_append_left _ hu) b hb
        rcases hv b hm with h1 | h1
        · exact h2.2 h1
        · have := hlt b h2.1; omega
      · exact a4 u hu x (List.mem_cons_of_mem _ hx) b hb hm
theorem Many.nil (h : Many w0 w p n L (vs1 ++ vs2)) : Many w0 w p n L (vs1 ++ (.slice none 0 0, []) :: vs2) := by
  have hap := h.ap
  rw [List.pairwise_append] at hap
  have e : fpM (vs1 ++ ((.slice none 0 0 : Value), ([] : List Int)) :: vs2) = fpM (vs1 ++ vs2) := by
    unfold fpM
    rw [List.flatMap_append, List.flatMap_cons, List.flatMap_append]; rfl
  refine ⟨by rw [e]; exact h.own, fun u hu => ?_, by rw [e]; exact h.nw, ?_⟩
  · rcases mem_mid.1 hu with rfl | hu
    · exact RI.nil _
    · exact h.sl u hu
  · rw [List.pairwise_append, List.pairwise_cons]
    refine ⟨hap.1, ⟨fun u _ b hb => (by cases hb), hap.2.1⟩, fun u hu x hx b hb hm => ?_⟩
    rcases List.mem_cons.1 hx with rfl | hx
    · cases hm
    · exact hap.2.2 u hu x hx b hb hm
end
theorem Both.many {w0 w : World} {p : Value} {n : Nat} {L : List Ob} {v : Value} {l : List Int} {A : List Nat} (h : OwnF w0 w p n L (A ++ fpv v)) (hs : RI w v l) (hn : ∀ b ∈ fpv v, w0.heap.size ≤ b) : Many w0 w p n L [(v, l)] :=
  ⟨h.sub (fun a ha => by simp [fpM] at ha; exact List.mem_append_right _ ha), fun u hu => by rw [List.mem_singleton.1 hu]; exact hs, fun b hb => by simp [fpM] at hb; exact hn b hb, by simp⟩

end Go.Proofs.Ytgakkkifohkikaa
