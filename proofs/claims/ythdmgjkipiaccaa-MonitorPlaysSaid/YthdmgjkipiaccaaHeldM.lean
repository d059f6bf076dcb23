/-
  Maps with int keys, in the words of the kit's laws on ranges over a map's keys.
-/
import Derived.Test.YthdmgjkipiaccaaMonC
import Derived.Lib.SlKeysI
import Derived.Maps.Own
namespace Go.Proofs.Ythdmgjkipiaccaa
open Go.RowKit Go.Maps
open Go.WideElems (Fit rd rg rg_of)

def unitR (_ : Value) : Option (DataW Unit × List MemPlace) := some (.nil, [])
theorem und_int : Try.prog.underlying 3 = some (.int .i64) := by kernel_rfl
theorem rd_int {e : Int × Value × Nat} (h : (Lit.int .i64 e.1).wf = true) : rd Try.prog 3 unitR (entOf intK e) = some (.int .i64 e.1, .nil) := by
  unfold rd
  have : keyOf Try.prog 3 (entOf intK e).key = some (.int .i64 e.1) := keyOf_int_mk und_int h
  rw [this]
  rfl

theorem MapL.owns {w : World} {b : Nat} {l : List (Int × Value)} (h : MapL w b intK l) (hk : ∀ p ∈ l, (Lit.int .i64 p.1).wf = true) (hl : l.length ≤ maxLen) :
    ∃ D0 : DataW Unit, w.ownsMap Try.prog 3 unitR b l.length D0 ∧ (intKeys D0).Perm (l.map (·.1)) ∧ Maps.size D0 = l.length := by
  obtain ⟨es, clock, hb, rfl, hd, hs, hbn⟩ := h
  have hr : ∀ e ∈ es, rd Try.prog 3 unitR (entOf intK e) = some (.int .i64 e.1, .nil) := fun e he => rd_int (hk (pairOf e) (List.mem_map.2 ⟨e, he, rfl⟩))
  have hg : (es.map (entOf intK)).map (rg Try.prog 3 unitR) = es.map (fun e => (Lit.int .i64 e.1, DataW.nil)) := by
    rw [List.map_map]
    refine List.map_congr_left (fun e he => ?_)
    rw [Function.comp_apply, rg_of (hr e he)]
  have hsz : ((es.map (entOf intK)).toArray).size ≤ maxLen := by rw [List.size_toArray, List.length_map]; rw [List.length_map] at hl; exact hl
  have hsn : ((es.map (entOf intK)).toArray).size ≤ (es.map pairOf).length := by rw [List.size_toArray, List.length_map, List.length_map]; exact Nat.le_refl _
  refine ⟨_, ⟨(es.map (entOf intK)).toArray, clock, hb, ⟨hsz, ⟨?_, ?_, ?_⟩, ?_⟩, hsn, rfl⟩, ?_, ?_⟩
  · intro x hx
    obtain ⟨e, he, rfl⟩ := List.mem_map.1 (show x ∈ es.map (entOf intK) from hx)
    exact hs e he
  · have : ((es.map (entOf intK)).toArray.toList.map (·.born)) = es.map (·.2.2) := by simp [List.map_map, Function.comp_def, entOf]
    rw [this]; exact hbn
  · have : ((es.map (entOf intK)).toArray.toList.map (·.key)) = ((es.map pairOf).map (·.1)).map intK := by simp [List.map_map, Function.comp_def, entOf, pairOf]
    rw [this]
    exact List.Pairwise.map _ (fun a b hab e => hab (by simpa [intK] using e)) hd
  · intro x hx
    obtain ⟨e, he, rfl⟩ := List.mem_map.1 (show x ∈ es.map (entOf intK) from hx)
    exact ⟨_, hr e he⟩
  · show (((es.map (entOf intK)).toArray.toList.map (rg Try.prog 3 unitR)).foldr DataW.insert [] |>.map fun p => intOf p.1).Perm _
    refine ((WideShapes.sorted_perm _).map _).trans ?_
    have e1 : (es.map (entOf intK)).toArray.toList = es.map (entOf intK) := rfl
    rw [e1, hg, List.map_map, List.map_map]
    exact List.Perm.refl _
  · show (((es.map (entOf intK)).toArray.toList.map (rg Try.prog 3 unitR)).foldr DataW.insert []).length = _
    rw [(WideShapes.sorted_perm _).length_eq]
    simp

end Go.Proofs.Ythdmgjkipiaccaa
