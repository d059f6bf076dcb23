/-
  Package monitor: a call moves a table; Enter.
-/
import Derived.Test.YthdmgjkipiaccaaMonC
namespace Go.Proofs.Ythdmgjkipiaccaa
open Go.RowKit

theorem fpv_nodup (v : Value) : (fpv v).Nodup := by unfold fpv; cases v.ownBlock <;> simp
theorem nodup_ent {g : LkG} {v' : Value} {L' : PLk} {N : Nat} (h : g.fp.Nodup) (hlt : ∀ b ∈ g.fp, b < N) (hv : ∀ x ∈ fpv v', x ∈ fpv g.ve ∨ N ≤ x) : (LkG.fp { g with ve := v', L := L' }).Nodup := by
  simp only [LkG.fp, List.nodup_cons, List.mem_append, List.nodup_append, List.mem_cons] at h hlt ⊢
  refine ⟨fun hm => ?_, fpv_nodup _, h.2.2.1, fun a ha b hb e => ?_⟩
  · rcases hm with hm | hm
    · rcases hv _ hm with h1 | h1
      · exact h.1 (.inl h1)
      · have := hlt g.b (.inl rfl); omega
    · exact h.1 (.inr hm)
  · subst e
    rcases hv _ ha with h1 | h1
    · exact h.2.2.2 a h1 a hb rfl
    · have := hlt a (.inr (.inr hb)); omega
theorem nodup_wai {g : LkG} {v' : Value} {L' : PLk} {N : Nat} (h : g.fp.Nodup) (hlt : ∀ b ∈ g.fp, b < N) (hv : ∀ x ∈ fpv v', x ∈ fpv g.vw ∨ N ≤ x) : (LkG.fp { g with vw := v', L := L' }).Nodup := by
  simp only [LkG.fp, List.nodup_cons, List.mem_append, List.nodup_append, List.mem_cons] at h hlt ⊢
  refine ⟨fun hm => ?_, h.2.1, fpv_nodup _, fun a ha b hb e => ?_⟩
  · rcases hm with hm | hm
    · exact h.1 (.inl hm)
    · rcases hv _ hm with h1 | h1
      · exact h.1 (.inr h1)
      · have := hlt g.b (.inl rfl); omega
  · subst e
    rcases hv _ hb with h1 | h1
    · exact h.2.2.2 a ha a h1 rfl
    · have := hlt a (.inr (.inl ha)); omega
theorem LkG.parts {g : LkG} (h : g.fp.Nodup) : g.b ∉ fpv g.ve ∧ g.b ∉ fpv g.vw ∧ (∀ x ∈ fpv g.ve, x ∉ fpv g.vw) ∧ ∀ x ∈ fpv g.vw, x ∉ fpv g.ve := by
  simp only [LkG.fp, List.nodup_cons, List.mem_append, List.nodup_append] at h
  exact ⟨fun hm => h.1 (.inl hm), fun hm => h.1 (.inr hm), fun x hx hy => h.2.2.2 x hx x hy rfl, fun x hx hy => h.2.2.2 x hy x hx rfl⟩
theorem MonT.ndg {w : World} {l : Lies} {cs : List ((Int × Int) × Int)} (h : MonT w l cs) {g : LkG} (hg : g ∈ l.gs) : g.fp.Nodup := by
  have hn := h.nd
  obtain ⟨g1, g2, e⟩ := List.append_of_mem hg
  have e2 : l.fp = [l.tb, l.mb, l.cb] ++ g1.flatMap LkG.fp ++ (g.fp ++ g2.flatMap LkG.fp) := by simp [Lies.fp, e]
  rw [e2] at hn
  exact (List.nodup_append.1 (List.nodup_append.1 hn).2.1).1

/-- the table p is T' now; of the older blocks those of F alone were changed -/
def Moved (w w' : World) (p : Value) (F : List Nat) (T' : PT) : Prop := ∃ F', Mon w' p F' T' ∧ Fr F w w' ∧ ∀ x ∈ F', x ∈ F ∨ w.heap.size ≤ x
def OpPost (w : World) (p : Value) (F : List Nat) (v : Value) (T' : PT) (e : Ending) (w' : World) : Prop := e = .returned v ∧ Moved w w' p F T'
theorem Moved.stay {w w' : World} {p : Value} {F : List Nat} {T : PT} (h : Mon w p F T) (f : Fr [] w w') : Moved w w' p F T := ⟨F, h.keep0 f, f.sub (by simp), fun x hx => .inl hx⟩

theorem lies_fp_mid {tb mb cb : Nat} {g1 g2 : List LkG} {g : LkG} {x : Nat} : x ∈ (Lies.mk tb mb cb (g1 ++ g :: g2)).fp ↔ x ∈ g.fp ∨ (x = tb ∨ x = mb ∨ x = cb ∨ (∃ q ∈ g1, x ∈ q.fp) ∨ ∃ q ∈ g2, x ∈ q.fp) := by
  rw [mem_fp]
  simp only [List.mem_append, List.mem_cons]
  constructor
  · rintro (h | h | h | ⟨q, h1 | h1 | h1, h2⟩)
    · exact .inr (.inl h)
    · exact .inr (.inr (.inl h))
    · exact .inr (.inr (.inr (.inl h)))
    · exact .inr (.inr (.inr (.inr (.inl ⟨q, h1, h2⟩))))
    · subst h1; exact .inl h2
    · exact .inr (.inr (.inr (.inr (.inr ⟨q, h1, h2⟩))))
  · rintro (h | h | h | h | ⟨q, h1, h2⟩ | ⟨q, h1, h2⟩)
    · exact .inr (.inr (.inr ⟨g, .inr (.inl rfl), h⟩))
    · exact .inl h
    · exact .inr (.inl h)
    · exact .inr (.inr (.inl h))
    · exact .inr (.inr (.inr ⟨q, .inl h1, h2⟩))
    · exact .inr (.inr (.inr ⟨q, .inr (.inr h1), h2⟩))

/-- one lock was changed -/
theorem MonT.moved {w w' : World} {tb mb cb : Nat} {g1 g2 : List LkG} {g g' : LkG} {cs cs' : List ((Int × Int) × Int)} {ls : List (Int × PLk)} (h0 : MonT w ⟨tb, mb, cb, g1 ++ g :: g2⟩ cs) (hls : ls = (g1 ++ g :: g2).map (fun g => (g.at', g.L))) (h : MonT w' ⟨tb, mb, cb, g1 ++ g' :: g2⟩ cs') {a : Int} (hg : g.at' = a) (hg' : g'.at' = a)
    (f : Fr (Lies.mk tb mb cb (g1 ++ g :: g2)).fp w w') (hfp : ∀ x ∈ g'.fp, x ∈ g.fp ∨ w.heap.size ≤ x) : Moved w w' (ptrV tb) (Lies.mk tb mb cb (g1 ++ g :: g2)).fp ⟨lput ls a g'.L, cs'⟩ := by
  refine ⟨(Lies.mk tb mb cb (g1 ++ g' :: g2)).fp, ⟨_, rfl, rfl, ?_, h⟩, f, fun x hx => ?_⟩
  · have hk := gs_keys h0
    rw [hls]
    simp only [List.map_append, List.map_cons, hg] at hk ⊢
    rw [hg', lput_split]
    simp only [List.map_append, List.map_cons, List.map_map]
    exact hk
  · rcases lies_fp_mid.1 hx with h1 | h1
    · rcases hfp x h1 with h2 | h2
      · exact .inl (lies_fp_mid.2 (.inl h2))
      · exact .inr h2
    · exact .inl (lies_fp_mid.2 (.inr h1))

theorem fr_mid {tb mb cb : Nat} {g1 g2 : List LkG} {g : LkG} {w w' : World} (f : Fr g.fp w w') : Fr (Lies.mk tb mb cb (g1 ++ g :: g2)).fp w w' := f.sub (fun _ hx => .inl (lies_fp_mid.2 (.inl hx)))

/-- the words of a lock that are written -/
theorem LkAt.set {w : World} {g : LkG} (h : LkAt w g) (i : Nat) (v : Value) {L' : PLk} (hn : g.fp.Nodup) (hc : (g.cells.setIfInBounds i v) = LkG.cells { g with L := L' }) (he : L'.entry = g.L.entry) (hw : L'.wait = g.L.wait) : LkAt (w.setCell ⟨g.b, i, none⟩ v) { g with L := L' } := by
  have f : Fr [g.b] w (w.setCell ⟨g.b, i, none⟩ v) := (Fr.refl _ _).setCell (.inl (by simp)) v
  refine ⟨?_, ?_, ?_⟩
  · rw [← hc]; exact heap_setCell_same _ _ _ _ _ _ h.blk
  · have := h.ent.keep f (fun b hb hm => (LkG.parts hn).1 (by rw [← List.mem_singleton.1 hm]; exact hb))
    rw [← he] at this; exact this
  · have := h.wai.keep f (fun b hb hm => (LkG.parts hn).2.1 (by rw [← List.mem_singleton.1 hm]; exact hb))
    rw [← hw] at this; exact this
theorem LkAt.set_fr {w0 w : World} {g : LkG} (f : Fr g.fp w0 w) (i : Nat) (v : Value) : Fr g.fp w0 (w.setCell ⟨g.b, i, none⟩ v) := f.setCell (.inl (by simp [LkG.fp])) v

/-- a lock's list at the entry is another one now -/
theorem LkAt.newEnt {w w' : World} {g : LkG} (h : LkAt w g) (hn : g.fp.Nodup) {v' : Value} {xs : List Int} (hs : Sli w' v' xs) (f : Fr (fpv g.ve) w w') (hv : ∀ x ∈ fpv v', x ∈ fpv g.ve ∨ w.heap.size ≤ x) :
    LkAt (w'.setCell ⟨g.b, 3, none⟩ v') { g with ve := v', L := { g.L with entry := xs } } ∧ Fr g.fp w (w'.setCell ⟨g.b, 3, none⟩ v') ∧ (LkG.fp { g with ve := v', L := { g.L with entry := xs } }).Nodup ∧ (∀ x ∈ LkG.fp { g with ve := v', L := { g.L with entry := xs } }, x ∈ g.fp ∨ w.heap.size ≤ x) := by
  obtain ⟨p1, p2, p3, p4⟩ := LkG.parts hn
  have hnd := nodup_ent (L' := { g.L with entry := xs }) hn h.lt hv
  obtain ⟨q1, q2, q3, q4⟩ := LkG.parts hnd
  have fs : Fr [g.b] w' (w'.setCell ⟨g.b, 3, none⟩ v') := (Fr.refl _ _).setCell (.inl (by simp)) v'
  have hbk : w'.heap[g.b]? = some (.cells g.cells 33 (0, 0)) := f.obj h.blk p1
  refine ⟨⟨heap_setCell_same _ _ _ _ _ _ hbk, hs.keep fs (fun b hb hm => q1 (by rw [← List.mem_singleton.1 hm]; exact hb)), (h.wai.keep f (fun b hb hm => p3 b hm hb)).keep fs (fun b hb hm => p2 (by rw [← List.mem_singleton.1 hm]; exact hb))⟩, ?_, hnd, ?_⟩
  · exact (f.sub (fun x hx => .inl (by simp [LkG.fp, hx]))).setCell (.inl (by simp [LkG.fp])) _
  · intro x hx
    simp only [LkG.fp, List.mem_cons, List.mem_append] at hx ⊢
    rcases hx with h1 | h1 | h1
    · exact .inl (.inl h1)
    · exact (hv x h1).imp (fun h => .inr (.inl h)) id
    · exact .inl (.inr (.inr h1))
/-- those who wait are others now -/
theorem LkAt.newWai {w w' : World} {g : LkG} (h : LkAt w g) (hn : g.fp.Nodup) {v' : Value} {xs : List Int} (hs : Sli w' v' xs) (f : Fr (fpv g.vw) w w') (hv : ∀ x ∈ fpv v', x ∈ fpv g.vw ∨ w.heap.size ≤ x) :
    LkAt (w'.setCell ⟨g.b, 4, none⟩ v') { g with vw := v', L := { g.L with wait := xs } } ∧ Fr g.fp w (w'.setCell ⟨g.b, 4, none⟩ v') ∧ (LkG.fp { g with vw := v', L := { g.L with wait := xs } }).Nodup ∧ (∀ x ∈ LkG.fp { g with vw := v', L := { g.L with wait := xs } }, x ∈ g.fp ∨ w.heap.size ≤ x) := by
  obtain ⟨p1, p2, p3, p4⟩ := LkG.parts hn
  have hnd := nodup_wai (L' := { g.L with wait := xs }) hn h.lt hv
  obtain ⟨q1, q2, q3, q4⟩ := LkG.parts hnd
  have fs : Fr [g.b] w' (w'.setCell ⟨g.b, 4, none⟩ v') := (Fr.refl _ _).setCell (.inl (by simp)) v'
  have hbk : w'.heap[g.b]? = some (.cells g.cells 33 (0, 0)) := f.obj h.blk p2
  refine ⟨⟨heap_setCell_same _ _ _ _ _ _ hbk, (h.ent.keep f (fun b hb hm => p4 b hm hb)).keep fs (fun b hb hm => p1 (by rw [← List.mem_singleton.1 hm]; exact hb)), hs.keep fs (fun b hb hm => q2 (by rw [← List.mem_singleton.1 hm]; exact hb))⟩, ?_, hnd, ?_⟩
  · exact (f.sub (fun x hx => .inl (by simp [LkG.fp, hx]))).setCell (.inl (by simp [LkG.fp])) _
  · intro x hx
    simp only [LkG.fp, List.mem_cons, List.mem_append] at hx ⊢
    rcases hx with h1 | h1 | h1
    · exact .inl (.inl h1)
    · exact .inl (.inr (.inl h1))
    · exact (hv x h1).imp (fun h => .inr (.inr h)) id

end Go.Proofs.Ythdmgjkipiaccaa
