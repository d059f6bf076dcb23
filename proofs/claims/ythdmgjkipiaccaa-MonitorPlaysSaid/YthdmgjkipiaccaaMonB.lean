/-
  Package monitor: New, owned, stands.
-/
import Derived.Test.YthdmgjkipiaccaaMonA
namespace Go.Proofs.Ythdmgjkipiaccaa
open Go.RowKit

theorem MonT.c0 {w : World} {l : Lies} {cs : List ((Int × Int) × Int)} (h : MonT w l cs) : w.cell? ⟨l.tb, 0, none⟩ = some (.map (some l.mb)) := by
  rw [cell_of_row _ _ _ _ _ _ h.tbl]; rfl
theorem MonT.c1 {w : World} {l : Lies} {cs : List ((Int × Int) × Int)} (h : MonT w l cs) : w.cell? ⟨l.tb, 1, none⟩ = some (.map (some l.cb)) := by
  rw [cell_of_row _ _ _ _ _ _ h.tbl]; rfl
theorem LkAt.c {w : World} {g : LkG} (h : LkAt w g) : w.cell? ⟨g.b, 0, none⟩ = some (.int .i64 g.L.owner) ∧ w.cell? ⟨g.b, 1, none⟩ = some (.int .i64 g.L.count) ∧ w.cell? ⟨g.b, 2, none⟩ = some (.bool g.L.fat) ∧ w.cell? ⟨g.b, 3, none⟩ = some g.ve ∧ w.cell? ⟨g.b, 4, none⟩ = some g.vw := by
  refine ⟨?_, ?_, ?_, ?_, ?_⟩ <;> (rw [cell_of_row _ _ _ _ _ _ h.blk]; rfl)
theorem LkAt.fr {w : World} {g : LkG} (h : LkAt w g) (k : Nat) : w.frozen? ⟨g.b, k, none⟩ = false := frozen_of_row _ _ _ _ _ h.blk
theorem und_locks : Try.prog.underlying 58 = some (.map 3 63) := by kernel_rfl
theorem und_count : Try.prog.underlying 59 = some (.map 68 3) := by kernel_rfl
theorem zero_lockp (w : World) : (zeroValue 63).run Try.prog w = .ok (.pointer none) w := by kernel_rfl
theorem MonT.look {w : World} {l : Lies} {cs : List ((Int × Int) × Int)} (h : MonT w l cs) (a : Int) :
    (Instr.lookup 58 (.map (some l.mb)) (.int .i64 a) false).run Try.prog w = .ok ((lget (l.gs.map (fun g => (g.at', ptrV g.b))) a).getD (.pointer none)) w :=
  h.lm.look ik_keys und_locks (z := .pointer none) (fun w => zero_lockp w) a false

def NewPost (w : World) (e : Ending) (w' : World) : Prop := ∃ p F, e = .returned p ∧ Mon w' p F .new ∧ Fr [] w w' ∧ ∀ x ∈ F, w.heap.size ≤ x
theorem new_world (w : World) : NewPost w (.returned (ptrV (w.heap.size + 2))) (((w.alloc (.map #[] 0)).alloc (.map #[] 0)).alloc (.cells #[.map (some w.heap.size), .map (some (w.heap.size + 1))] 61 (0, 0))) := by
  refine ⟨_, _, rfl, ⟨⟨w.heap.size + 2, w.heap.size, w.heap.size + 1, []⟩, rfl, rfl, rfl, ⟨?_, ?_, ?_, by simp, ?_⟩⟩, (((Fr.refl _ _).alloc _).alloc _).alloc _, ?_⟩
  · have := heap_alloc_new ((w.alloc (.map #[] 0)).alloc (.map #[] 0)) (.cells #[.map (some w.heap.size), .map (some (w.heap.size + 1))] 61 (0, 0))
    simpa using this
  · exact ((MapL.made w intK).keep ((Fr.refl [] _).alloc _) (by simp)).keep ((Fr.refl [] _).alloc _) (by simp)
  · have := (MapL.made (w.alloc (.map #[] 0)) keyW).keep ((Fr.refl [] _).alloc (.cells #[.map (some w.heap.size), .map (some (w.heap.size + 1))] 61 (0, 0))) (by simp)
    rw [World.size_alloc] at this
    exact this
  · simp [Lies.fp]
  · intro x hx
    simp [Lies.fp] at hx
    omega
set_option maxHeartbeats 1000000 in
theorem new_any (w : World) : Calls Try.prog 9 #[] w (NewPost w) := by
  have hmm := @run_makeMap Try.prog
  go_enter Try.func9, Try.ntmps9
  go_wp2
  go_ret
  exact new_world w

/-! ### owned -/
set_option maxHeartbeats 1000000 in
theorem owned_none {w : World} {l : Lies} {cs : List ((Int × Int) × Int)} (h : MonT w l cs) (a t : Int) (hl : lget (l.gs.map (fun g => (g.at', ptrV g.b))) a = none) :
    Calls Try.prog 27 #[ptrV l.tb, .int .i64 a, .int .i64 t] w fun e w' => e = .returned (.pointer none) ∧ w = w' := by
  have hc0 := h.c0
  have hk := h.look a
  rw [hl] at hk
  simp only [Option.getD_none] at hk
  clear hl h
  unfold ptrV
  go_enter Try.func27, Try.ntmps27
  go_wp2
  go_ret
  exact ⟨rfl, rfl⟩
set_option maxHeartbeats 1000000 in
theorem owned_some {w : World} {l : Lies} {cs : List ((Int × Int) × Int)} (h : MonT w l cs) (a t : Int) (g : LkG) (hg : g ∈ l.gs) (hl : lget (l.gs.map (fun g => (g.at', ptrV g.b))) a = some (ptrV g.b)) :
    Calls Try.prog 27 #[ptrV l.tb, .int .i64 a, .int .i64 t] w fun e w' => e = .returned (if t < 1 ∨ g.L.owner ≠ t then .pointer none else ptrV g.b) ∧ w = w' := by
  have hc0 := h.c0
  have hk := h.look a
  rw [hl] at hk
  simp only [Option.getD_some] at hk
  obtain ⟨c0, _⟩ := (h.lks g hg).c
  clear hl h hg
  unfold ptrV at hk ⊢
  obtain ⟨o, ho⟩ : ∃ o, o = g.L.owner := ⟨_, rfl⟩
  rw [← ho] at c0 ⊢
  clear ho
  by_cases h1 : t < 1
  · rw [if_pos (.inl h1)]
    go_enter Try.func27, Try.ntmps27
    go_wp2
    go_ret
    exact ⟨rfl, rfl⟩
  · have hb1 : decide (t < 1) = false := by simpa using h1
    by_cases h2 : o = t
    · rw [if_neg (by simp [h1, h2])]
      subst h2
      have H1 := hid h1
      clear h1
      go_enter Try.func27, Try.ntmps27
      go_wp2
      go_ret
      exact ⟨rfl, rfl⟩
    · rw [if_pos (.inr h2)]
      have h2' : (o == t) = false := by simpa using h2
      have h2a : (o != t) = true := by simpa using h2
      have H1 := hid h1
      clear h1
      go_enter Try.func27, Try.ntmps27
      go_wp2
      go_ret
      exact ⟨rfl, rfl⟩

end Go.Proofs.Ythdmgjkipiaccaa
