/-
  Package race: New.
-/
import Derived.Test.YtjkakhjajfpldaaRaceF
namespace Go.Proofs.Ytjkakhjajfpldaa
open Go.RowKit

def unit13 (i : Nat) : List Int := (List.replicate 13 0).set i 1
def St.new : St := ⟨(List.range 13).map unit13, [], [], [], [], [], 0⟩

def newP (w : World) : Ptrs := ⟨w.heap.size + 1 + 1 + 1 + 1 + 1, w.heap.size, w.heap.size + 1, w.heap.size + 1 + 1, w.heap.size + 1 + 1 + 1, w.heap.size + 1 + 1 + 1 + 1⟩
structure NRel (w wr : World) (k : Nat) : Prop where
  fr : Fr [] w wr
  blk : ∃ ts : List Value, ts.length = 13 ∧ wr.heap[w.heap.size + 1 + 1 + 1 + 1 + 1]? = some (.cells (wcells ts (newP w) 0) 62 (0, 0)) ∧ ∀ i, i < k → Clk wr (ts.getD i undef) (unit13 i)
  maps : ∀ j, j < 5 → wr.heap[w.heap.size + j]? = some (.map #[] 0)
  sz : w.heap.size + 5 < wr.heap.size

theorem NRel.cell {w wr : World} {k : Nat} (h : NRel w wr k) (hk : k < 13) : ∃ v, wr.cell? ⟨w.heap.size + 1 + 1 + 1 + 1 + 1, k, none⟩ = some v := by
  obtain ⟨ts, h1, hb, _⟩ := h.blk
  exact ⟨ts.getD k undef, by rw [cell_of_row _ _ _ _ _ _ hb]; simp [wcells, List.getElem?_append, h1, hk, List.getD]⟩
theorem NRel.free {w wr : World} {k : Nat} (h : NRel w wr k) (j : Nat) : wr.frozen? ⟨w.heap.size + 1 + 1 + 1 + 1 + 1, j, none⟩ = false := by
  obtain ⟨ts, h1, hb, _⟩ := h.blk
  exact frozen_of_row _ _ _ _ _ hb

theorem rep_get (k : Nat) (hk : k < 13) (a : Int) : (Array.replicate 13 (Value.int .i64 a))[k]? = some (.int .i64 a) := by rw [Array.getElem?_replicate, if_pos hk]
theorem repl_getD (k : Nat) (a : Int) (hk : k < 13) : (List.replicate 13 a).getD k 0 = a := by rw [List.getD, List.getElem?_replicate, if_pos hk]; rfl
theorem unit13_at (i k : Nat) (hk : k < 13) : ((Array.replicate 13 (Value.int .i64 0)).setIfInBounds i (.int .i64 1))[k]? = some (.int .i64 ((unit13 i).getD k 0)) := by
  by_cases e : i = k
  · subst e
    have : ((List.replicate 13 (0 : Int)).set i 1).getD i 0 = 1 := by rw [List.getD, List.getElem?_set_self (by simpa using hk)]; rfl
    unfold unit13
    rw [this]; simp [hk]
  · have : ((List.replicate 13 (0 : Int)).set i 1).getD k 0 = 0 := by
      rw [List.getD, List.getElem?_set_ne e]; exact repl_getD k 0 hk
    unfold unit13
    rw [Array.getElem?_setIfInBounds_ne e, rep_get k hk, this]

theorem NRel.step {w wr : World} {k : Nat} (h : NRel w wr k) (hk : k < 13) :
    NRel w (((wr.setCell ⟨w.heap.size + 1 + 1 + 1 + 1 + 1, k, none⟩ (.slice (some ⟨wr.heap.size, 0, none⟩) 13 13)).alloc (.cells ((Array.replicate 13 (.int .i64 0)).setIfInBounds k (.int .i64 1)) 3)).drew) (k + 1) := by
  have hB := h.sz
  have f1 : Fr [w.heap.size + 1 + 1 + 1 + 1 + 1] wr (((wr.setCell ⟨w.heap.size + 1 + 1 + 1 + 1 + 1, k, none⟩ (.slice (some ⟨wr.heap.size, 0, none⟩) 13 13)).alloc (.cells ((Array.replicate 13 (.int .i64 0)).setIfInBounds k (.int .i64 1)) 3)).drew) :=
    (((Fr.refl _ _).setCell (Or.inl (by simp)) _).alloc _).drew
  obtain ⟨ts, h1, hb, hc⟩ := h.blk
  have hI : NoInts wr [w.heap.size + 1 + 1 + 1 + 1 + 1] := by
    intro x hx cs fr e
    simp only [List.mem_singleton] at hx; subst hx
    rw [hb] at e; simp at e
  refine ⟨h.fr.trans f1 (fun x hx => Or.inr (by simp only [List.mem_singleton] at hx; omega)), ⟨ts.set k (.slice (some ⟨wr.heap.size, 0, none⟩) 13 13), by simpa using h1, ?_, ?_⟩, ?_, Nat.lt_of_lt_of_le hB f1.size⟩
  · show ((wr.setCell ⟨w.heap.size + 1 + 1 + 1 + 1 + 1, k, none⟩ (.slice (some ⟨wr.heap.size, 0, none⟩) 13 13)).alloc _).heap[_]? = _
    rw [Below.heap_alloc _ _ _ (by simp <;> omega), heap_setCell_same _ _ _ _ _ _ hb]
    have : (wcells ts (newP w) 0).setIfInBounds k (.slice (some ⟨wr.heap.size, 0, none⟩) 13 13) = wcells (ts.set k (.slice (some ⟨wr.heap.size, 0, none⟩) 13 13)) (newP w) 0 := by
      simp [wcells, List.setIfInBounds_toArray, h1, hk]
    rw [this]
  · intro i hi
    by_cases e : k = i
    · subst e
      have hg : (ts.set k (Value.slice (some ⟨wr.heap.size, 0, none⟩) 13 13)).getD k undef = .slice (some ⟨wr.heap.size, 0, none⟩) 13 13 := by
        rw [List.getD, List.getElem?_set_self (by omega)]; rfl
      rw [hg]
      have hl : (unit13 k).length = 13 := by simp [unit13]
      refine ⟨_, 13, by rw [hl], by omega, fun _ => ⟨wr.heap.size, 0, (Array.replicate 13 (.int .i64 0)).setIfInBounds k (.int .i64 1), (0, 0), rfl, ?_, fun j hj => ?_⟩⟩
      · have := heap_alloc_new (wr.setCell ⟨w.heap.size + 1 + 1 + 1 + 1 + 1, k, none⟩ (.slice (some ⟨wr.heap.size, 0, none⟩) 13 13)) (.cells ((Array.replicate 13 (.int .i64 0)).setIfInBounds k (.int .i64 1)) 3)
        rw [World.size_setCell] at this
        exact this
      · rw [Nat.zero_add]; exact unit13_at k j (by omega)
    · have hg : (ts.set k (Value.slice (some ⟨wr.heap.size, 0, none⟩) 13 13)).getD i undef = ts.getD i undef := by
        rw [List.getD, List.getElem?_set_ne e]; rfl
      rw [hg]
      exact (hc i (by omega)).keep f1 hI
  · intro j hj
    exact f1.obj (h.maps j hj) (by simp <;> omega)

theorem NRel.done {w wr : World} (h : NRel w wr 13) : Watch wr (newP w) St.new := by
  obtain ⟨ts, h1, hb, hc⟩ := h.blk
  have mp : ∀ {K : Type} (kv : K → Value) (j : Nat), j < 5 → CMap wr (w.heap.size + j) kv ([] : List (K × List Int)) := fun kv j hj =>
    ⟨[], ⟨[], 0, by simpa using h.maps j hj, rfl, by simp, by simp, by simp⟩, rfl, fun i h => by simp at h⟩
  refine ⟨⟨ts, h1, by simp [St.new], hb, fun i hi => ?_⟩, mp _ 0 (by omega), mp _ 1 (by omega), mp _ 2 (by omega), mp _ 3 (by omega), mp _ 4 (by omega), ?_⟩
  · have : St.new.th.getD i [] = unit13 i := by simp [St.new, List.getD, hi]
    rw [this]; exact hc i hi
  · simp [newP]; omega

theorem wcells_start (w : World) : wcells (List.replicate 13 (.slice none 0 0)) (newP w) 0 = #[Value.slice none 0 0, Value.slice none 0 0, Value.slice none 0 0, Value.slice none 0 0, Value.slice none 0 0, Value.slice none 0 0, Value.slice none 0 0, Value.slice none 0 0, Value.slice none 0 0, Value.slice none 0 0, Value.slice none 0 0, Value.slice none 0 0, Value.slice none 0 0, Value.map (some w.heap.size), Value.map (some (w.heap.size + 1)), Value.map (some (w.heap.size + 1 + 1)), Value.map (some (w.heap.size + 1 + 1 + 1)), Value.map (some (w.heap.size + 1 + 1 + 1 + 1)), Value.int .i64 0] := rfl

theorem NRel.start (w : World) : NRel w ((((((w.alloc (.map #[] 0)).alloc (.map #[] 0)).alloc (.map #[] 0)).alloc (.map #[] 0)).alloc (.map #[] 0)).alloc (.cells (wcells (List.replicate 13 (.slice none 0 0)) (newP w) 0) 62)) 0 := by
  refine ⟨(((((((Fr.refl _ _).alloc _).alloc _).alloc _).alloc _).alloc _).alloc _), ⟨List.replicate 13 (.slice none 0 0), by simp, ?_, by intro i h; omega⟩, ?_, by simp⟩
  · have := heap_alloc_new (((((w.alloc (.map #[] 0)).alloc (.map #[] 0)).alloc (.map #[] 0)).alloc (.map #[] 0)).alloc (.map #[] 0)) (.cells (wcells (List.replicate 13 (.slice none 0 0)) (newP w) 0) 62)
    simp only [World.size_alloc] at this
    exact this
  · intro j hj
    match j, hj with
    | 0, _ => rw [Below.heap_alloc _ _ _ (by simp <;> omega), Below.heap_alloc _ _ _ (by simp <;> omega), Below.heap_alloc _ _ _ (by simp <;> omega), Below.heap_alloc _ _ _ (by simp <;> omega), Below.heap_alloc _ _ _ (by simp)]; exact heap_alloc_new _ _
    | 1, _ => rw [Below.heap_alloc _ _ _ (by simp <;> omega), Below.heap_alloc _ _ _ (by simp <;> omega), Below.heap_alloc _ _ _ (by simp <;> omega), Below.heap_alloc _ _ _ (by simp)]; have := heap_alloc_new (w.alloc (.map #[] 0)) (.map #[] 0); simp only [World.size_alloc] at this; exact this
    | 2, _ => rw [Below.heap_alloc _ _ _ (by simp <;> omega), Below.heap_alloc _ _ _ (by simp <;> omega), Below.heap_alloc _ _ _ (by simp)]; have := heap_alloc_new ((w.alloc (.map #[] 0)).alloc (.map #[] 0)) (.map #[] 0); simp only [World.size_alloc] at this; exact this
    | 3, _ => rw [Below.heap_alloc _ _ _ (by simp <;> omega), Below.heap_alloc _ _ _ (by simp)]; have := heap_alloc_new (((w.alloc (.map #[] 0)).alloc (.map #[] 0)).alloc (.map #[] 0)) (.map #[] 0); simp only [World.size_alloc] at this; exact this
    | 4, _ => rw [Below.heap_alloc _ _ _ (by simp)]; have := heap_alloc_new ((((w.alloc (.map #[] 0)).alloc (.map #[] 0)).alloc (.map #[] 0)).alloc (.map #[] 0)) (.map #[] 0); simp only [World.size_alloc] at this; exact this

set_option maxHeartbeats 1000000 in
theorem new_any (w : World) :
    Calls Try.prog 13 #[] w fun e w' => ∃ p : Ptrs, e = .returned (.pointer (some ⟨p.b, 0, none⟩)) ∧ Watch w' p St.new ∧ Fr [] w w' ∧ ∀ x ∈ p.S, w.heap.size ≤ x := by
  have hmm := @run_makeMap Try.prog
  have hmk := mk13
  go_enter Try.func13, Try.ntmps13
  go_wp2
  go_loopw [10] (fun i wr => ∃ k : Nat, k ≤ 13 ∧ i = .int .i64 k ∧ NRel w wr k) (fun i _ => 13 - (intOf i).toNat)
  case atStart =>
    have hs := NRel.start w
    rw [wcells_start] at hs
    exact ⟨0, by omega, rfl, hs⟩
  case round =>
    obtain ⟨k, hk, rfl, hn⟩ := hrel
    clear hmm
    by_cases hlt : k < 13
    · obtain ⟨ov, hcell⟩ := hn.cell hlt
      have hfree := hn.free k
      have hB := hn.sz
      have hk13 : (k : Int) < 13 := by omega
      have hk0 : (0 : Int) ≤ k := by omega
      have hz : (wr.alloc (.cells (Array.replicate 13 (.int .i64 0)) 3)).cell? ⟨wr.heap.size, k, none⟩ = some (.int .i64 0) := by simp [hlt]
      have HN := hid hn
      clear hn
      go_wp2_with fail
      go_region
      go_wp2_with fail
      go_roundw
      case rel =>
        exact ⟨k + 1, by omega, by go_num, HN.out.step hlt⟩
      case measure => simp [intOf]; omega
    · obtain rfl : k = 13 := by omega
      go_wp2
      go_ret
      refine ⟨newP w, rfl, hn.done, hn.fr, fun x hx => ?_⟩
      simp only [Ptrs.S, newP, List.mem_cons, List.not_mem_nil, or_false] at hx
      omega

end Go.Proofs.Ytjkakhjajfpldaa
