/-
  Package monitor: Lock.
-/
import Derived.Test.YthdmgjkipiaccaaMonD
namespace Go.Proofs.Ythdmgjkipiaccaa
open Go.RowKit

/-- a lock as it is told: its lists are new ones -/
def LockPost (w : World) (L : PLk) (e : Ending) (w' : World) : Prop :=
  ∃ ve vw, e = .returned (.agg #[.int .i64 L.owner, .int .i64 L.count, .bool L.fat, ve, vw]) ∧ Sli w' ve L.entry ∧ Sli w' vw L.wait ∧ Fr [] w w'

def lockW (w' : World) (N : Nat) (o c : Int) (ft : Bool) (ve vw : Value) : World :=
  (((((((w'.setCell ⟨N + 1, 3, none⟩ ve).setCell ⟨N + 1, 4, none⟩ vw).setCell ⟨N, 0, none⟩ (.int .i64 o)).setCell ⟨N, 1, none⟩ (.int .i64 c)).setCell ⟨N, 2, none⟩ (.bool ft)).setCell ⟨N, 3, none⟩ ve).setCell ⟨N, 4, none⟩ vw)
theorem Sli.keepLk {S : List Nat} {w w' : World} {v : Value} {xs : List Int} (h : Sli w v xs) (f : Fr S w w') (hS : ∀ b ∈ S, ∃ cs, w.heap[b]? = some (.cells cs 33 (0, 0))) : Sli w' v xs :=
  h.keep f (fun b hb hm => by
    obtain ⟨cur, e1⟩ := SlV.elemType h b hb
    obtain ⟨cs, e2⟩ := hS b hm
    rw [e1] at e2
    simp at e2)
theorem lock_close {w wB w' : World} {o c : Int} {ft : Bool} {ve vw : Value} {en wa : List Int} (FB : Fr [] w wB) (F : Fr [] wB w')
    (hb4 : wB.heap[w.heap.size]? = some (.cells #[.int .i64 0, .int .i64 0, .bool false, .slice none 0 0, .slice none 0 0] 33 (0, 0))) (hb6 : ∃ cs, wB.heap[w.heap.size + 1]? = some (.cells cs 33 (0, 0))) (hE : Sli w' ve en) (hW : Sli w' vw wa) :
    (lockW w' w.heap.size o c ft ve vw).heap[w.heap.size]? = some (.cells #[.int .i64 o, .int .i64 c, .bool ft, ve, vw] 33 (0, 0)) ∧ Sli (lockW w' w.heap.size o c ft ve vw) ve en ∧ Sli (lockW w' w.heap.size o c ft ve vw) vw wa ∧ Fr [] w (lockW w' w.heap.size o c ft ve vw) := by
  have h4 := F.obj hb4 (by simp)
  obtain ⟨cs, hb6⟩ := hb6
  have h6 := F.obj hb6 (by simp)
  have f : Fr [w.heap.size, w.heap.size + 1] w' (lockW w' w.heap.size o c ft ve vw) := by
    unfold lockW
    refine ((((((((Fr.refl _ _).setCell ?_ _).setCell ?_ _).setCell ?_ _).setCell ?_ _).setCell ?_ _).setCell ?_ _).setCell ?_ _) <;> exact .inl (by simp)
  have hS : ∀ b ∈ [w.heap.size, w.heap.size + 1], ∃ cs, w'.heap[b]? = some (.cells cs 33 (0, 0)) := by
    intro b hb
    simp only [List.mem_cons, List.not_mem_nil, or_false] at hb
    rcases hb with rfl | rfl
    · exact ⟨_, h4⟩
    · exact ⟨_, h6⟩
  refine ⟨?_, hE.keepLk f hS, hW.keepLk f hS, ?_⟩
  · unfold lockW
    have e0 : ((w'.setCell ⟨w.heap.size + 1, 3, none⟩ ve).setCell ⟨w.heap.size + 1, 4, none⟩ vw).heap[w.heap.size]? = some (.cells #[.int .i64 0, .int .i64 0, .bool false, .slice none 0 0, .slice none 0 0] 33 (0, 0)) := by
      rw [heap_setCell_other _ _ _ _ (by simp), heap_setCell_other _ _ _ _ (by simp)]; exact h4
    have e1 := heap_setCell_same _ w.heap.size 4 _ _ vw (heap_setCell_same _ w.heap.size 3 _ _ ve (heap_setCell_same _ w.heap.size 2 _ _ (.bool ft) (heap_setCell_same _ w.heap.size 1 _ _ (.int .i64 c) (heap_setCell_same _ w.heap.size 0 _ _ (.int .i64 o) e0))))
    exact e1
  · exact ((FB.tr F).trans f (fun x hx => .inr (by simp at hx; omega)))

theorem lock_under : Try.prog.underlying 33 = some (.struct (Try.prog.fieldsOf 33)) := by kernel_rfl
theorem lock_size : (Try.prog.info? 33).map (·.size) = some 5 := by kernel_rfl

theorem lock_none {w : World} {l : Lies} {cs : List ((Int × Int) × Int)} (h : MonT w l cs) (a : Int) (hl : lget (l.gs.map (fun g => (g.at', ptrV g.b))) a = none) :
    Calls Try.prog 12 #[ptrV l.tb, .int .i64 a] w (LockPost w .zero) := by
  have hc0 := ((Fr.refl [] w).alloc (.cells #[.int .i64 0, .int .i64 0, .bool false, .slice none 0 0, .slice none 0 0] 33)).cell h.c0 (by simp)
  have hk := (h.keep0 ((Fr.refl [] w).alloc (.cells #[.int .i64 0, .int .i64 0, .bool false, .slice none 0 0, .slice none 0 0] 33))).look a
  rw [hl] at hk
  simp only [Option.getD_none] at hk
  clear hl h
  unfold ptrV
  go_enter Try.func12, Try.ntmps12
  go_wp2_with fail
  refine bodyPost_ret (results_cell_row (fn := Try.f12) rfl _ _ w.heap.size _ _ _ _ rfl (heap_alloc_new _ _) lock_under rfl lock_size) rfl ?_
  exact ⟨_, _, rfl, Sli.nil _, Sli.nil _, (Fr.refl _ _).alloc _⟩

set_option maxHeartbeats 4000000 in
theorem lock_some {w : World} {l : Lies} {cs : List ((Int × Int) × Int)} (h : MonT w l cs) (a : Int) (g : LkG) (hg : g ∈ l.gs) (hl : lget (l.gs.map (fun g => (g.at', ptrV g.b))) a = some (ptrV g.b)) (hsm : g.L.entry.length + g.L.wait.length ≤ 100000) :
    Calls Try.prog 12 #[ptrV l.tb, .int .i64 a] w (LockPost w g.L) := by
  have fA := ((Fr.refl [] w).alloc (.cells #[.int .i64 0, .int .i64 0, .bool false, .slice none 0 0, .slice none 0 0] 33))
  have hm := h.keep0 fA
  have hc0 := hm.c0
  have hk := hm.look a
  rw [hl] at hk
  simp only [Option.getD_some] at hk
  have hA := hm.lks g hg
  obtain ⟨c0, c1, c2, c3, c4⟩ := hA.c
  have HA := hid hA
  clear hl h hm hA hg fA
  unfold ptrV at hk ⊢
  obtain ⟨o, ho⟩ : ∃ o, o = g.L.owner := ⟨_, rfl⟩
  obtain ⟨c, hc⟩ : ∃ o, o = g.L.count := ⟨_, rfl⟩
  obtain ⟨ft, hf⟩ : ∃ o, o = g.L.fat := ⟨_, rfl⟩
  rw [← ho] at c0
  rw [← hc] at c1
  rw [← hf] at c2
  have HO := hid ho
  have HC := hid hc
  have HF := hid hf
  have HSM := hid hsm
  clear ho hc hf hsm
  obtain ⟨ae, ce, he, _, _⟩ := HA.out.ent.form
  obtain ⟨aw, cw, hw, _, _⟩ := HA.out.wai.form
  rw [he] at c3
  rw [hw] at c4
  have HE := hid he
  have HW := hid hw
  clear he hw
  go_enter Try.func12, Try.ntmps12
  go_wp2_with fail
  have FA : Fr [] w (w.alloc (.cells #[.int .i64 0, .int .i64 0, .bool false, .slice none 0 0, .slice none 0 0] 33)) := (Fr.refl _ _).alloc _
  have hb4 := heap_alloc_new w (.cells #[.int .i64 0, .int .i64 0, .bool false, .slice none 0 0, .slice none 0 0] 33)
  have hsA : (w.alloc (.cells #[.int .i64 0, .int .i64 0, .bool false, .slice none 0 0, .slice none 0 0] 33)).heap.size = w.heap.size + 1 := by simp
  generalize w.alloc (.cells #[.int .i64 0, .int .i64 0, .bool false, .slice none 0 0, .slice none 0 0] 33) = wA at *
  have fB : Fr [] wA (wA.alloc (.cells #[.int .i64 o, .int .i64 c, .bool ft, .slice ae g.L.entry.length ce, .slice aw g.L.wait.length cw] 33)) := (Fr.refl _ _).alloc _
  have hb6 := heap_alloc_new wA (.cells #[.int .i64 o, .int .i64 c, .bool ft, .slice ae g.L.entry.length ce, .slice aw g.L.wait.length cw] 33)
  rw [hsA] at hb6
  have hb4 := fB.obj hb4 (by simp)
  have c3 := fB.cell c3 (by simp)
  have c4 := fB.cell c4 (by simp)
  have HB := hid (HA.out.keep fB (by simp))
  have FB := hid (FA.tr fB)
  generalize wA.alloc (.cells #[.int .i64 o, .int .i64 c, .bool ft, .slice ae g.L.entry.length ce, .slice aw g.L.wait.length cw] 33) = wB at fB hb6 hb4 c3 c4 HB FB ⊢
  have d0 : wB.cell? ⟨w.heap.size + 1, 0, none⟩ = some (.int .i64 o) := by rw [cell_of_row _ _ _ _ _ _ hb6]; rfl
  have d1 : wB.cell? ⟨w.heap.size + 1, 1, none⟩ = some (.int .i64 c) := by rw [cell_of_row _ _ _ _ _ _ hb6]; rfl
  have d2 : wB.cell? ⟨w.heap.size + 1, 2, none⟩ = some (.bool ft) := by rw [cell_of_row _ _ _ _ _ _ hb6]; rfl
  have d3 : wB.cell? ⟨w.heap.size + 1, 3, none⟩ = some (.slice ae g.L.entry.length ce) := by rw [cell_of_row _ _ _ _ _ _ hb6]; rfl
  have d4 : wB.cell? ⟨w.heap.size + 1, 4, none⟩ = some (.slice aw g.L.wait.length cw) := by rw [cell_of_row _ _ _ _ _ _ hb6]; rfl
  have u3 : wB.frozen? ⟨w.heap.size + 1, 3, none⟩ = false := frozen_of_row _ _ _ _ _ hb6
  have u4 : wB.frozen? ⟨w.heap.size + 1, 4, none⟩ = false := frozen_of_row _ _ _ _ _ hb6
  have HE2 : Hid (∀ W, Fr [] wB W → Calls Try.prog 29 #[.slice ae g.L.entry.length ce] W (ClonePost W g.L.entry)) := hid (fun W f => clone_any W _ _ (by have := HB.out.ent.keep0 f; rw [HE.out] at this; exact this) (by have := HSM.out; omega))
  have HW2 : Hid (∀ W, Fr [] wB W → Calls Try.prog 29 #[.slice aw g.L.wait.length cw] W (ClonePost W g.L.wait)) := hid (fun W f => clone_any W _ _ (by have := HB.out.wai.keep0 f; rw [HW.out] at this; exact this) (by have := HSM.out; omega))
  have HB4 := hid hb4
  have HB6 : Hid (∃ cs, wB.heap[w.heap.size + 1]? = some (.cells cs 33 (0, 0))) := hid ⟨_, hb6⟩
  have F := Fr.refl [] wB
  have hne : w.heap.size + 1 ≠ w.heap.size := by omega
  clear hb4 hb6 fB FA hk hc0 c0 c1 c2 HA
  go_region_with (go_at_call 29; first
    | (refine (HE2.out _ (by first | exact F.drew | exact F)).mono ?_; rintro e w' ⟨v', rfl, hs', f, hnew⟩; obtain ⟨a1, n1, rfl, _, _⟩ := hs'.form; have c3 := f.cell c3 (by simp); have c4 := f.cell c4 (by simp); have d0 := f.cell d0 (by simp); have d1 := f.cell d1 (by simp); have d2 := f.cell d2 (by simp); have u3 := f.frozen d3 u3 (by simp); have u4 := f.frozen d4 u4 (by simp); have d3 := f.cell d3 (by simp); have d4 := f.cell d4 (by simp); have F : Fr [] wB w' := (by first | exact F.tr0 f | exact (Fr.drew F).tr0 f); have HSE := hid hs'; try have HSW := hid (HSW.out.keep0 f))
    | (refine (HW2.out _ (by first | exact F.drew | exact F)).mono ?_; rintro e w' ⟨v', rfl, hs', f, hnew⟩; obtain ⟨a1, n1, rfl, _, _⟩ := hs'.form; have c3 := f.cell c3 (by simp); have c4 := f.cell c4 (by simp); have d0 := f.cell d0 (by simp); have d1 := f.cell d1 (by simp); have d2 := f.cell d2 (by simp); have u3 := f.frozen d3 u3 (by simp); have u4 := f.frozen d4 u4 (by simp); have d3 := f.cell d3 (by simp); have d4 := f.cell d4 (by simp); have F : Fr [] wB w' := (by first | exact F.tr0 f | exact (Fr.drew F).tr0 f); have HSW := hid hs'; try have HSE := hid (HSE.out.keep0 f)))
  all_goals
    have hb := F.obj HB4.out (by simp)
    have e0 := cell_of_row _ _ 0 _ _ _ hb
    have e1 := cell_of_row _ _ 1 _ _ _ hb
    have e2 := cell_of_row _ _ 2 _ _ _ hb
    have e3 := cell_of_row _ _ 3 _ _ _ hb
    have e4 := cell_of_row _ _ 4 _ _ _ hb
    have v0 := frozen_of_row _ _ 0 _ _ hb
    have v1 := frozen_of_row _ _ 1 _ _ hb
    have v2 := frozen_of_row _ _ 2 _ _ hb
    have v3 := frozen_of_row _ _ 3 _ _ hb
    have v4 := frozen_of_row _ _ 4 _ _ hb
    have HBB := hid hb
    have HFF := hid F
    clear hb HE2 HW2
    simp only [List.getElem?_toArray, List.getElem?_cons_zero, List.getElem?_cons_succ] at e0 e1 e2 e3 e4
    go_wp2_with fail
    obtain ⟨k1, k2, k3, k4⟩ := lock_close (o := o) (c := c) (ft := ft) FB.out HFF.out HB4.out HB6.out HSE.out HSW.out
    refine bodyPost_ret (results_cell_row (fn := Try.f12) rfl _ _ w.heap.size _ _ _ _ rfl k1 lock_under rfl lock_size) rfl ?_
    refine ⟨_, _, ?_, k2, k3, k4⟩
    rw [HO.out, HC.out, HF.out]

end Go.Proofs.Ythdmgjkipiaccaa
