/-
  maps.Keys and slices.Sorted at a map whose keys are ints.
-/
import Derived.Test.YthdmgjkipiaccaaHeldM
import Derived.Test.YthdmgjkipiaccaaIter
import Derived.Test.YthdmgjkipiaccaaSlInt
namespace Go.Proofs.Ythdmgjkipiaccaa
open Go.RowKit Go.Maps Go.Sort Go.Shelf

def sortI (l : List Int) : List Int := l.mergeSort (fun x y => decide (x ≤ y))
def KeysPost (W : World) (mb : Option Nat) (e : Ending) (w' : World) : Prop :=
  e = .returned (.func (.func 42) #[] #[.pointer (some ⟨W.heap.size, 0, none⟩)]) ∧ w' = W.alloc (.cells #[.map mb] 58)
theorem keys_calls (mb : Option Nat) (W : World) : Calls Try.prog 32 #[.map mb] W (KeysPost W mb) :=
  (callsIn_wide (n := 5)).1 (AnyZI.keys_in Try.keysA Fence.wide 5 trivial rfl mb W)

theorem sorts_in (m : Nat) : AnyZI.SortsIn Try.prog Try.sortedA_ren Fence.wide m :=
  ⟨fun blk off cap ss W hH hblk hsz => callsIn_wide.2 (AnyM.slices_Sort_int Try.sortA blk off cap ss W hH hblk hsz),
   fun p cap W => callsIn_wide.2 (AnyM.slices_Sort_int_none Try.sortA p cap W)⟩

def SortedPost (w : World) (ks : List Int) (e : Ending) (w' : World) : Prop := ∃ v, e = .returned v ∧ Sli w' v (sortI ks) ∧ (∀ b ∈ fpv v, w.heap.size ≤ b) ∧ Fr [] w w'

theorem sorted_calls (w : World) (b : Nat) (l : List (Int × Value)) (h : MapL w b intK l) (hk : ∀ p ∈ l, (Lit.int .i64 p.1).wf = true) (hl : l.length ≤ 1000000) :
    Calls Try.prog 31 #[.func (.func 42) #[] #[.pointer (some ⟨w.heap.size, 0, none⟩)]] (w.alloc (.cells #[.map (some b)] 58)) (SortedPost w (l.map (·.1))) := by
  have hlm : l.length ≤ maxLen := by unfold maxLen; omega
  obtain ⟨D0, hown, hperm, hsize⟩ := h.owns hk hlm
  have hbl := hown.lt
  have hseq : SeqGives Fence.wide 2 Try.prog 42 #[.pointer (some ⟨w.heap.size, 0, none⟩)] encZ (fun ss => ss.Perm (intKeys D0)) (Maps.size D0) (w.alloc (.cells #[.map (some b)] 58)) :=
    AnyZI.keys_gives (ρ := Try.keysA_ren) { Try.keysA with } Fence.wide _ trivial rfl (by omega) w.heap.size b l.length D0 _ (by simp) (by simp) (by
      obtain ⟨es, clock, hb, Ft, hs, hD⟩ := hown
      exact ⟨es, clock, (Below.heap_alloc _ _ b hbl).trans hb, Ft, hs, hD⟩)
  have cS := AnyZI.sorted_in Try.sortedA Fence.wide 5 trivial trivial trivial trivial rfl (by omega) (sorts_in _) (enters_of Try.func41 (by kernel_rfl) rfl) 42 #[.pointer (some ⟨w.heap.size, 0, none⟩)] trivial (enters_of Try.func42 (by kernel_rfl) rfl) _ _ (by rw [hsize]; exact hlm) (by rw [hsize]; omega) _ hseq
  refine ((callsIn_wide (n := 5)).1 cS).mono ?_
  rintro e w' ⟨v, ss, rfl, hS, hrow, hnil, hb⟩
  have hp : ss.Perm (l.map (·.1)) := hS.trans hperm
  have he : ss.mergeSort (fun x y => decide (x ≤ y)) = sortI (l.map (·.1)) := mergeSort_of_perm_i hp
  have hlen : ss.length = (sortI (l.map (·.1))).length := by rw [← he, List.length_mergeSort]
  rw [he, hlen] at hrow
  have hsz : (w.alloc (.cells #[.map (some b)] 58)).heap.size = w.heap.size + 1 := by simp
  refine ⟨v, rfl, ⟨by simp, ?_⟩, fun b' hb' => ?_, ((Fr.refl [] w).alloc _).tr (belowFr hb)⟩
  · rw [List.length_map]
    rcases hrow.2 with h2 | ⟨g, cap, cur, h1, h2, h3, h4, h5, h6, h7⟩
    · exact .inl h2
    · exact .inr ⟨g, cap, cur, h1, Nat.zero_le _, h3, h4, h5, h6, h7⟩
  · rw [mem_fpv] at hb'
    rcases hrow.2 with ⟨rfl, _⟩ | ⟨g, cap, cur, rfl, h2, _⟩
    · cases hb'
    · cases hb'
      rw [hsz] at h2
      exact Nat.le_of_succ_le h2

end Go.Proofs.Ythdmgjkipiaccaa
