/-
  Both arenas, and beside them items (slices of ints, boxes that hold one), each apart from the others, all new since some world.
-/
import Derived.Test.YtgakkkifohkikaaPlayA
import Derived.Test.YtgakkkifohkikaaBoth
import Derived.Test.YtgakkkifohkikaaCloC
namespace Go.Proofs.Ytgakkkifohkikaa
open Go.RowKit

/-- what lies in some blocks: a slice of ints; a box with one; a box with one (v), and the one (v') that it will get; a slice of bools -/
inductive It where
  | sl (v : Value) (l : List Int)
  | box (b : Nat) (v : Value) (l : List Int)
  | pd (b : Nat) (v v' : Value) (l : List Int)
  | bo (v : Value) (l : List Bool)
  | co (ab fb tb : Nat) (va vf vt : Value) (fs ts s : List Int)
def It.bl : It → List Nat
  | .sl v _ => fpv v
  | .box b v _ => b :: fpv v
  | .pd b _ v' _ => b :: fpv v'
  | .bo v _ => fpv v
  | .co ab fb tb va vf vt _ _ _ => ab :: fb :: tb :: (fpv va ++ (fpv vf ++ fpv vt))
def It.ok (w : World) : It → Prop
  | .sl v l => RI w v l
  | .box b v l => w.heap[b]? = some (.cells #[v] 31 (0, 0)) ∧ RI w v l ∧ b ∉ fpv v
  | .pd b v v' l => w.heap[b]? = some (.cells #[v] 31 (0, 0)) ∧ RI w v' l ∧ b ∉ fpv v'
  | .bo v l => RV w 4 1 v l.length (bvs l)
  | .co ab fb tb va vf vt fs ts s => CoB ab fb tb vf vt fs ts s w va
theorem It.keep {S : List Nat} {w w' : World} {it : It} (h : it.ok w) (f : Fr S w w') (hS : ∀ b ∈ it.bl, b ∉ S) : it.ok w' := by
  cases it with
  | sl v l => exact RV.keep h f hS
  | box b v l => exact ⟨f.obj h.1 (hS b (by simp [It.bl])), RV.keep h.2.1 f (fun c hc => hS c (by simp [It.bl, hc])), h.2.2⟩
  | pd b v v' l => exact ⟨f.obj h.1 (hS b (by simp [It.bl])), RV.keep h.2.1 f (fun c hc => hS c (by simp [It.bl, hc])), h.2.2⟩
  | bo v l => exact RV.keep h f hS
  | co ab fb tb va vf vt fs ts s => exact CoB.keep h f hS
theorem It.lt {w : World} {it : It} (h : it.ok w) : ∀ b ∈ it.bl, b < w.heap.size := by
  cases it with
  | sl v l => exact RV.lt h
  | box b v l =>
    intro c hc
    rcases List.mem_cons.1 hc with rfl | hc
    · exact lt_of_block h.1
    · exact RV.lt h.2.1 c hc
  | pd b v v' l =>
    intro c hc
    rcases List.mem_cons.1 hc with rfl | hc
    · exact lt_of_block h.1
    · exact RV.lt h.2.1 c hc
  | bo v l => exact RV.lt h
  | co ab fb tb va vf vt fs ts s => exact CoB.lt h
def blI (is : List It) : List Nat := is.flatMap It.bl
theorem mem_blI {is : List It} {b : Nat} : b ∈ blI is ↔ ∃ i ∈ is, b ∈ i.bl := by unfold blI; rw [List.mem_flatMap]
structure Sto (W w : World) (p q : Value) (n : Nat) (L M : List Ob) (is : List It) : Prop where
  ba : BA W w p q n L M (blI is)
  ok : ∀ i ∈ is, i.ok w
  nw : ∀ b ∈ blI is, W.heap.size ≤ b
  ap : is.Pairwise (fun u v => ∀ b ∈ u.bl, b ∉ v.bl)
section
variable {W w w' : World} {p q : Value} {n : Nat} {L L' M M' : List Ob} {is is1 is2 : List It} {i i' : It}
theorem Sto.fr (h : Sto W w p q n L M is) : Fr [] W w := h.ba.fr
theorem Sto.keep (h : Sto W w p q n L M is) (f : Fr [] w w') : Sto W w' p q n L M is := ⟨h.ba.keep f, fun i hi => It.keep (h.ok i hi) f (by simp), h.nw, h.ap⟩
/-- the arenas have moved -/
theorem Sto.next (h : Sto W w p q n L M is) (k : BA W w' p q n L' M' (blI is)) (kp : Kp (blI is) w w') : Sto W w' p q n L' M' is := by
  refine ⟨k, fun i hi => ?_, h.nw, h.ap⟩
  obtain ⟨S, f, hS⟩ := kp
  exact It.keep (h.ok i hi) f (fun b hb => hS b (mem_blI.2 ⟨i, hi, hb⟩))
theorem mem_midI {u x : It} : u ∈ is1 ++ x :: is2 ↔ u = x ∨ u ∈ is1 ++ is2 := by
  simp only [List.mem_append, List.mem_cons]
  constructor
  · rintro (h | h | h)
    · exact .inr (.inl h)
    · exact .inl h
    · exact .inr (.inr h)
  · rintro (h | h | h)
    · exact .inr (.inl h)
    · exact .inl h
    · exact .inr (.inr h)
theorem BA.other {A A' S : List Nat} (h : BA W w p q n L M A) (f : Fr S w w') (hS : ∀ x ∈ S, (x ∈ A ∨ w.heap.size ≤ x) ∧ W.heap.size ≤ x) (hA : ∀ a ∈ A', (a ∈ A ∨ w.heap.size ≤ a) ∧ a < w'.heap.size) : BA W w' p q n L M A' := by
  obtain ⟨FQ, h⟩ := h
  have hlt := h.own.lt
  refine ⟨FQ, h.own.other f (fun x hx => ⟨?_, (hS x hx).2⟩) (fun a ha => ?_), h.ref.keep f (fun b hb hm => ?_), h.nw, fun b hb hm => ?_⟩
  · rcases (hS x hx).1 with h1 | h1
    · exact .inl (List.mem_append_right _ h1)
    · exact .inr h1
  · rcases List.mem_append.1 ha with h1 | h1
    · exact ⟨.inl (List.mem_append_left _ h1), Nat.lt_of_lt_of_le (hlt a (List.mem_append_left _ h1)) f.size⟩
    · refine ⟨?_, (hA a h1).2⟩
      rcases (hA a h1).1 with h2 | h2
      · exact .inl (List.mem_append_right _ h2)
      · exact .inr h2
  · rcases (hS b hm).1 with h1 | h1
    · exact h.ap b hb h1
    · have := hlt b (List.mem_append_left _ hb); omega
  · rcases (hA b hm).1 with h1 | h1
    · exact h.ap b hb h1
    · have := hlt b (List.mem_append_left _ hb); omega
/-- the item in the midst is another one: of its own blocks, or of new ones -/
theorem Sto.turn (h : Sto W w p q n L M (is1 ++ i :: is2)) (f : Fr i.bl w w') (hr : i'.ok w') (hv : ∀ b ∈ i'.bl, b ∈ i.bl ∨ w.heap.size ≤ b) : Sto W w' p q n L M (is1 ++ i' :: is2) := by
  have hap := h.ap
  rw [List.pairwise_append, List.pairwise_cons] at hap
  obtain ⟨a1, ⟨a2, a3⟩, a4⟩ := hap
  have hlt : ∀ b ∈ blI (is1 ++ i :: is2), b < w.heap.size := fun b hb => by
    obtain ⟨u, hu, hb⟩ := mem_blI.1 hb
    exact It.lt (h.ok u hu) b hb
  have hold : ∀ b, b ∈ i.bl → b ∈ blI (is1 ++ i :: is2) := fun b hb => mem_blI.2 ⟨i, by simp, hb⟩
  have hoth : ∀ u ∈ is1 ++ is2, ∀ b ∈ u.bl, b ∈ blI (is1 ++ i :: is2) ∧ b ∉ i.bl := fun u hu b hb => by
    refine ⟨mem_blI.2 ⟨u, mem_midI.2 (.inr hu), hb⟩, fun hv => ?_⟩
    rcases List.mem_append.1 hu with h1 | h1
    · exact a4 u h1 i (by simp) b hb hv
    · exact a2 u h1 b hv hb
  refine ⟨h.ba.other f (fun x hx => ⟨.inl (hold x hx), h.nw x (hold x hx)⟩) (fun a ha => ?_), fun u hu => ?_, fun b hb => ?_, ?_⟩
  · obtain ⟨u, hu, hb⟩ := mem_blI.1 ha
    rcases mem_midI.1 hu with hu | hu
    · rw [hu] at hb
      refine ⟨?_, It.lt hr a hb⟩
      rcases hv a hb with h1 | h1
      · exact .inl (hold a h1)
      · exact .inr h1
    · have := (hoth u hu a hb).1
      exact ⟨.inl this, Nat.lt_of_lt_of_le (hlt a this) f.size⟩
  · rcases mem_midI.1 hu with hu | hu
    · rw [hu]; exact hr
    · exact It.keep (h.ok u (mem_midI.2 (.inr hu))) f (fun b hb => (hoth u hu b hb).2)
  · obtain ⟨u, hu, hb⟩ := mem_blI.1 hb
    rcases mem_midI.1 hu with hu | hu
    · rw [hu] at hb
      rcases hv b hb with h1 | h1
      · exact h.nw b (hold b h1)
      · exact Nat.le_trans h.fr.size h1
    · exact h.nw b (hoth u hu b hb).1
  · rw [List.pairwise_append, List.pairwise_cons]
    refine ⟨a1, ⟨fun u hu b hb hm => ?_, a3⟩, fun u hu x hx b hb hm => ?_⟩
    · have h2 := hoth u (List.mem_append_right _ hu) b hm
      rcases hv b hb with h1 | h1
      · exact h2.2 h1
      · have := hlt b h2.1; omega
    · rcases List.mem_cons.1 hx with hx | hx
      · rw [hx] at hm
        have h2 := hoth u (List.mem_append_left _ hu) b hb
        rcases hv b hm with h1 | h1
        · exact h2.2 h1
        · have := hlt b h2.1; omega
      · exact a4 u hu x (List.mem_cons_of_mem _ hx) b hb hm
/-- an item more, wholly new -/
theorem Sto.more (h : Sto W w p q n L M is) (f : Fr [] w w') (hr : i'.ok w') (hv : ∀ b ∈ i'.bl, w.heap.size ≤ b) : Sto W w' p q n L M (is ++ [i']) := by
  have hlt : ∀ b ∈ blI is, b < w.heap.size := fun b hb => by
    obtain ⟨u, hu, hb⟩ := mem_blI.1 hb
    exact It.lt (h.ok u hu) b hb
  refine ⟨h.ba.other f (by simp) (fun a ha => ?_), fun u hu => ?_, fun b hb => ?_, ?_⟩
  · obtain ⟨u, hu, hb⟩ := mem_blI.1 ha
    rcases List.mem_append.1 hu with hu | hu
    · have := mem_blI.2 ⟨u, hu, hb⟩
      exact ⟨.inl this, Nat.lt_of_lt_of_le (hlt a this) f.size⟩
    · rw [List.mem_singleton.1 hu] at hb
      exact ⟨.inr (hv a hb), It.lt hr a hb⟩
  · rcases List.mem_append.1 hu with hu | hu
    · exact It.keep (h.ok u hu) f (by simp)
    · rw [List.mem_singleton.1 hu]; exact hr
  · obtain ⟨u, hu, hb⟩ := mem_blI.1 hb
    rcases List.mem_append.1 hu with hu | hu
    · exact h.nw b (mem_blI.2 ⟨u, hu, hb⟩)
    · rw [List.mem_singleton.1 hu] at hb
      exact Nat.le_trans h.fr.size (hv b hb)
  · rw [List.pairwise_append]
    refine ⟨h.ap, by simp, fun u hu x hx b hb hm => ?_⟩
    rw [List.mem_singleton.1 hx] at hm
    have := hlt b (mem_blI.2 ⟨u, hu, hb⟩)
    have := hv b hm
    omega
theorem Sto.only {is' : List It} (h : Sto W w p q n L M is) (hs : is'.Sublist is) : Sto W w p q n L M is' := by
  have hb : ∀ b ∈ blI is', b ∈ blI is := fun b hb => by
    obtain ⟨u, hu, hb⟩ := mem_blI.1 hb
    exact mem_blI.2 ⟨u, hs.subset hu, hb⟩
  obtain ⟨FQ, k⟩ := h.ba
  exact ⟨⟨FQ, k.own.sub (fun a ha => by
    rcases List.mem_append.1 ha with h1 | h1
    · exact List.mem_append_left _ h1
    · exact List.mem_append_right _ (hb a h1)), k.ref, k.nw, fun b h1 h2 => k.ap b h1 (hb b h2)⟩, fun i hi => h.ok i (hs.subset hi), fun b h1 => h.nw b (hb b h1), h.ap.sublist hs⟩
/-- a new box with nothing in it -/
theorem Sto.box (h : Sto W w p q n L M is) : Sto W (w.alloc (.cells #[.slice none 0 0] 31)) p q n L M (is ++ [.box w.heap.size (.slice none 0 0) []]) :=
  h.more ((Fr.refl _ _).alloc _) ⟨heap_alloc_new _ _, RI.nil _, by simp [fpv, Value.ownBlock]⟩ (fun b hb => by simp [It.bl, fpv, Value.ownBlock] at hb; omega)
/-- a new slice with one int -/
theorem Sto.one (h : Sto W w p q n L M is) (x : Int) : Sto W (w.alloc (.cells #[.int .i64 x] 3)) p q n L M (is ++ [.sl (.slice (some ⟨w.heap.size, 0, none⟩) 1 1) [x]]) :=
  h.more ((Fr.refl _ _).alloc _) (RI.made (w := w) [x] (by simp)) (fun b hb => by simp [It.bl, fpv, Value.ownBlock] at hb; omega)
/-- what a box will get stands ready -/
theorem Sto.pend {b : Nat} {v v' : Value} {l l' : List Int} (h : Sto W w p q n L M (is1 ++ .box b v l :: is2)) (f : Fr (fpv v) w w') (hr : RI w' v' l') (hv : ∀ x ∈ fpv v', x ∈ fpv v ∨ w.heap.size ≤ x) : Sto W w' p q n L M (is1 ++ .pd b v v' l' :: is2) := by
  have h0 : w.heap[b]? = some (.cells #[v] 31 (0, 0)) ∧ RI w v l ∧ b ∉ fpv v := h.ok (.box b v l) (by simp)
  refine h.turn (i := .box b v l) (i' := .pd b v v' l') (f.sub (fun x hx => .inl (List.mem_cons_of_mem _ hx))) ⟨f.obj h0.1 h0.2.2, hr, fun hm => ?_⟩ (fun x hx => ?_)
  · rcases hv b hm with h1 | h1
    · exact h0.2.2 h1
    · have := lt_of_block h0.1; omega
  · rcases List.mem_cons.1 hx with rfl | hx
    · exact .inl (List.mem_cons_self)
    · rcases hv x hx with h1 | h1
      · exact .inl (List.mem_cons_of_mem _ h1)
      · exact .inr h1
/-- a box gets it -/
theorem Sto.put {b : Nat} {v v' : Value} {l : List Int} (h : Sto W w p q n L M (is1 ++ .pd b v v' l :: is2)) : Sto W (w.setCell ⟨b, 0, none⟩ v') p q n L M (is1 ++ .box b v' l :: is2) := by
  have h0 : w.heap[b]? = some (.cells #[v] 31 (0, 0)) ∧ RI w v' l ∧ b ∉ fpv v' := h.ok (.pd b v v' l) (by simp)
  have g : Fr [b] w (w.setCell ⟨b, 0, none⟩ v') := (Fr.refl [b] w).setCell (.inl (by simp)) _
  refine h.turn (i := .pd b v v' l) (i' := .box b v' l) (g.sub (fun x hx => .inl (by simp at hx; simp [It.bl, hx]))) ⟨heap_setCell_same w b 0 _ _ v' h0.1, RV.keep h0.2.1 g (fun x hx hm => h0.2.2 (List.mem_singleton.1 hm ▸ hx)), h0.2.2⟩ (fun x hx => .inl hx)
theorem Sto.boxc {b : Nat} {v : Value} {l : List Int} (h : Sto W w p q n L M is) (hi : It.box b v l ∈ is) : w.cell? ⟨b, 0, none⟩ = some v ∧ w.frozen? ⟨b, 0, none⟩ = false ∧ RI w v l := by
  have h0 : w.heap[b]? = some (.cells #[v] 31 (0, 0)) ∧ RI w v l ∧ b ∉ fpv v := h.ok _ hi
  exact ⟨by rw [cell_of_row _ _ _ _ _ _ h0.1]; rfl, frozen_of_row _ _ _ _ _ h0.1, h0.2.1⟩
theorem Sto.pdc {b : Nat} {v v' : Value} {l : List Int} (h : Sto W w p q n L M is) (hi : It.pd b v v' l ∈ is) : w.cell? ⟨b, 0, none⟩ = some v ∧ w.frozen? ⟨b, 0, none⟩ = false ∧ RI w v' l := by
  have h0 : w.heap[b]? = some (.cells #[v] 31 (0, 0)) ∧ RI w v' l ∧ b ∉ fpv v' := h.ok _ hi
  exact ⟨by rw [cell_of_row _ _ _ _ _ _ h0.1]; rfl, frozen_of_row _ _ _ _ _ h0.1, h0.2.1⟩
theorem Sto.slc {v : Value} {l : List Int} (h : Sto W w p q n L M is) (hi : It.sl v l ∈ is) : RI w v l := h.ok _ hi
end
theorem Both.sto {W w : World} {p q : Value} {n : Nat} {L M : List Ob} {v : Value} {l : List Int} (h : Both W w p q n L M v l) : Sto W w p q n L M [.sl v l] := by
  obtain ⟨FQ, h⟩ := h
  have e : blI [It.sl v l] = fpv v := by simp [blI, It.bl]
  refine ⟨⟨FQ, by rw [e]; exact h.own, h.ref, fun b hb => h.nw b (List.mem_append_left _ hb), by rw [e]; exact h.ap⟩, fun i hi => ?_, fun b hb => ?_, by simp⟩
  · rw [List.mem_singleton.1 hi]; exact h.sl
  · rw [e] at hb; exact h.nw b (List.mem_append_right _ hb)

end Go.Proofs.Ytgakkkifohkikaa
