/-
  GcCollects, plainly: who was seen, in the order of the arena; what a collection leaves. It speaks of no program.
-/
import Derived.Test.YtgakkkifohkikaaCloC
import Derived.Test.YtgakkkifohkikaaMarkA
namespace Go.Proofs.Ytgakkkifohkikaa
open Go.RowKit

theorem sort_eqC {l m : List Int} (hn : l.Nodup) (hs : m.Pairwise (· < ·)) (hm : ∀ a, a ∈ l ↔ a ∈ m) : l.Perm m ∧ sortI l = m := by
  have hp : l.Perm m := (List.perm_ext_iff_of_nodup hn (hs.imp fun {a b} h => by omega)).2 hm
  have e1 : sortI l = m.mergeSort (fun x y => decide (x ≤ y)) := mergeSort_of_perm_i hp
  refine ⟨hp, ?_⟩
  rw [e1]
  exact List.mergeSort_of_pairwise (hs.imp fun {a b} h => by simpa using Int.le_of_lt h)
theorem kept_atsC (met : List Int) (L : List Ob) : ats (kept met L) = (ats L).filter (fun x => met.contains x) := by
  unfold ats kept
  rw [List.filter_map]
  rfl
/-- the addresses of those that were seen -/
def wantOf (L : List Ob) (s : List Bool) : List Int := ((L.zip s).filter (fun p => p.2)).map (fun p => (p.1.at' : Int))
theorem wantOf_succ {L : List Ob} {s : List Bool} (hs : s.length = L.length) {k : Nat} (hk : k < L.length) : wantOf (L.take (k + 1)) (s.take (k + 1)) = wantOf (L.take k) (s.take k) ++ (if s.getD k false then [(L[k].at' : Int)] else []) := by
  have h1 : s.take (k + 1) = s.take k ++ [s.getD k false] := by
    rw [List.take_succ_eq_append_getElem (by omega), List.getD, List.getElem?_eq_getElem (by omega)]; rfl
  unfold wantOf
  rw [h1, List.take_succ_eq_append_getElem hk, List.zip_append (by rw [List.length_take, List.length_take]; omega), List.filter_append, List.map_append]
  congr 1
  simp only [List.zip_cons_cons, List.zip_nil_left, List.filter_cons, List.filter_nil]
  split <;> simp
theorem mem_want {L : List Ob} {s : List Bool} (hs : s.length = L.length) {a : Int} : a ∈ wantOf L s ↔ ∃ (i : Nat) (h : i < L.length), s[i]? = some true ∧ (L[i].at' : Int) = a := by
  unfold wantOf
  rw [List.mem_map]
  constructor
  · rintro ⟨p, hp, rfl⟩
    rw [List.mem_filter] at hp
    obtain ⟨i, hi, e⟩ := List.mem_iff_getElem.1 hp.1
    rw [List.length_zip] at hi
    rw [List.getElem_zip] at e
    refine ⟨i, by omega, ?_, by rw [← e]⟩
    rw [List.getElem?_eq_getElem (by omega)]
    have := hp.2
    rw [← e] at this
    simpa using this
  · rintro ⟨i, hi, h1, rfl⟩
    rw [List.getElem?_eq_getElem (by omega)] at h1
    refine ⟨(L[i], s[i]), List.mem_filter.2 ⟨List.mem_iff_getElem.2 ⟨i, by rw [List.length_zip]; omega, List.getElem_zip⟩, ?_⟩, rfl⟩
    exact Option.some.inj h1
theorem want_sub {L : List Ob} {s : List Bool} (hs : s.length = L.length) : (wantOf L s).Sublist (ats L) := by
  have h1 : (wantOf L s).Sublist ((L.zip s).map (fun p => (p.1.at' : Int))) := List.filter_sublist.map _
  have h2 : (L.zip s).map (fun p => (p.1.at' : Int)) = ats L := by
    have h3 : (L.zip s).map Prod.fst = L := List.map_fst_zip (by omega)
    unfold ats
    conv =>
      rhs
      rw [← h3]
    rw [List.map_map]
    rfl
  rw [h2] at h1
  exact h1
theorem want_sorted {n : Nat} {L : List Ob} {s : List Bool} (hr : Rise n 1 L) (hs : s.length = L.length) : (wantOf L s).Pairwise (· < ·) := List.Pairwise.sublist (want_sub hs) (Rise.sorted hr)
theorem want_len {L : List Ob} {s : List Bool} (hs : s.length = L.length) : (wantOf L s).length ≤ L.length := by
  have := (want_sub hs).length_le
  unfold ats at this
  rwa [List.length_map] at this
def SeenBy (L : List Ob) (roots fs ts : List Int) (s : List Bool) : Prop := s.length = L.length ∧ ∀ i, (h : i < L.length) → (s[i]? = some true ↔ Reach L roots (edR fs ts) (L[i].at' : Int))
section
variable {n : Nat} {L : List Ob} {s : List Bool} {roots fs ts met met1 : List Int} {R : Int → List Int}
theorem met_want (hr : Rise n 1 L) (hs : SeenBy L roots fs ts s) (hm : ∀ a, a ∈ met ↔ Reach L roots (collR fs ts) a) (a : Int) : a ∈ met ↔ a ∈ wantOf L s := by
  rw [hm, coll_reach hr, mem_want hs.1]
  constructor
  · intro h
    obtain ⟨o, ho, e⟩ := List.mem_map.1 (has_mem.1 h.has)
    obtain ⟨i, hi, rfl⟩ := List.mem_iff_getElem.1 ho
    refine ⟨i, hi, (hs.2 i hi).2 ?_, e⟩
    rw [e]; exact h
  · rintro ⟨i, hi, h1, rfl⟩
    exact (hs.2 i hi).1 h1
theorem met_sort (hr : Rise n 1 L) (hs : SeenBy L roots fs ts s) (hn : met.Nodup) (hm : ∀ a, a ∈ met ↔ Reach L roots (collR fs ts) a) : met.length = (wantOf L s).length ∧ sortI met = wantOf L s := by
  have := sort_eqC hn (want_sorted hr hs.1) (met_want hr hs hm)
  exact ⟨this.1.length_eq, this.2⟩
theorem kept_want (hr : Rise n 1 L) (hs : SeenBy L roots fs ts s) (hm : ∀ a, a ∈ met ↔ Reach L roots (collR fs ts) a) : ats (kept met L) = wantOf L s ∧ unmet met L L.length + (wantOf L s).length = L.length := by
  have h1 : (ats (kept met L)).Pairwise (· < ·) := by
    rw [kept_atsC]
    exact List.Pairwise.sublist List.filter_sublist (Rise.sorted hr)
  have hw := met_want hr hs hm
  have h2 : ∀ a, a ∈ ats (kept met L) ↔ a ∈ wantOf L s := fun a => by
    rw [kept_atsC, List.mem_filter, List.contains_iff_mem, hw]
    exact ⟨fun h => h.2, fun h => ⟨(want_sub hs.1).subset h, h⟩⟩
  have e : ats (kept met L) = wantOf L s := by
    rw [← (sort_eqC (h1.imp fun {a b} h => by omega) (want_sorted hr hs.1) h2).2]
    exact (sort_eqC (h1.imp fun {a b} h => by omega) h1 (fun a => Iff.rfl)).2.symm
  refine ⟨e, ?_⟩
  have h3 := unmet_kept met L
  have h4 : (kept met L).length = (wantOf L s).length := by rw [← e]; unfold ats; rw [List.length_map]
  omega
theorem reach_kept (hm : ∀ a, a ∈ met ↔ Reach L roots R a) {a : Int} (h : Reach L roots R a) : Reach (kept met L) roots R a := by
  have key : ∀ x, Reach L roots R x → has (kept met L) x = true := fun x hx => by
    rw [has_mem]
    show x ∈ ats (kept met L)
    rw [kept_atsC, List.mem_filter, List.contains_iff_mem, hm]
    exact ⟨has_mem.1 hx.has, hx⟩
  induction h with
  | root h1 h2 => exact .root h1 (key _ (.root h1 h2))
  | step h1 h2 h3 ih => exact .step ih h2 (key _ (.step h1 h2 h3))
theorem kept_twice (hm : ∀ a, a ∈ met ↔ Reach L roots R a) (hm1 : ∀ a, a ∈ met1 ↔ Reach (kept met L) roots R a) : kept met1 (kept met L) = kept met L ∧ unmet met1 (kept met L) (kept met L).length = 0 := by
  have e : kept met1 (kept met L) = kept met L := by
    conv =>
      lhs
      unfold kept
    refine List.filter_eq_self.2 (fun o ho => ?_)
    rw [List.contains_iff_mem, hm1]
    refine reach_kept hm ((hm _).1 ?_)
    have := (List.mem_filter.1 ho).2
    rwa [List.contains_iff_mem] at this
  refine ⟨e, ?_⟩
  have := unmet_kept met1 (kept met L)
  rw [e] at this
  omega
theorem kept_at (hr : Rise n 1 L) (hs : SeenBy L roots fs ts s) (hm : ∀ a, a ∈ met ↔ Reach L roots (collR fs ts) a) {i : Nat} (hi : i < L.length) (h : s[i]? = some true) : L[i] ∈ kept met L := by
  refine List.mem_filter.2 ⟨List.getElem_mem hi, ?_⟩
  rw [List.contains_iff_mem, met_want hr hs hm, mem_want hs.1]
  exact ⟨i, hi, h, rfl⟩
end

end Go.Proofs.Ytgakkkifohkikaa
