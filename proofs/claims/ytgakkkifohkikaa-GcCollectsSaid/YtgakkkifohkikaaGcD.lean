/-
  The statements' own 'known' (of the layer of mark and sweep).
-/
import Derived.Test.YtgakkkifohkikaaGcI
namespace Go.Proofs.Ytgakkkifohkikaa
open Go.RowKit

/-! ### known -/
def knownR (a : Int) : List Int := if a = 1 then [7, 99] else []
def gL1 : List Ob := [newOb 1 1 1]
def gL2 : List Ob := [newOb 1 1 1, newOb 4 1 1]
def gL3 : List Ob := [newOb 1 1 1, newOb 4 1 1, newOb 7 1 1]
theorem gA1 : arAlloc 30 [] 1 1 = some (1, gL1) := by decide +kernel
theorem gA2 : arAlloc 30 gL1 1 1 = some (4, gL2) := by decide +kernel
theorem gA3 : arAlloc 30 gL2 1 1 = some (7, gL3) := by decide +kernel
theorem known_reach (a : Int) : Reach gL3 [1] knownR a ↔ a = 1 ∨ a = 7 := by
  constructor
  · intro h
    induction h with
    | root h1 h2 => exact .inl (by simpa using h1)
    | step h1 h2 h3 ih =>
      rcases ih with rfl | rfl
      · unfold knownR at h2
        rw [if_pos rfl] at h2
        simp only [List.mem_cons, List.not_mem_nil, or_false] at h2
        rcases h2 with rfl | rfl
        · exact .inr rfl
        · revert h3; decide
      · unfold knownR at h2
        rw [if_neg (by decide)] at h2
        cases h2
  · have h1 : Reach gL3 [1] knownR 1 := .root (by simp) (by decide)
    rintro (rfl | rfl)
    · exact h1
    · exact .step h1 (by decide) (by decide)
theorem known_kept {met : List Int} (h : ∀ a, a ∈ met ↔ Reach gL3 [1] knownR a) : kept met gL3 = [newOb 1 1 1, newOb 7 1 1] ∧ unmet met gL3 gL3.length = 1 := by
  have h1 : (1 : Int) ∈ met := (h 1).2 ((known_reach 1).2 (.inl rfl))
  have h7 : (7 : Int) ∈ met := (h 7).2 ((known_reach 7).2 (.inr rfl))
  have h4 : (4 : Int) ∉ met := fun hm => by have := (known_reach 4).1 ((h 4).1 hm); omega
  have e : kept met gL3 = [newOb 1 1 1, newOb 7 1 1] := by
    unfold kept gL3
    have c1 : met.contains (((newOb 1 1 1).at' : Nat) : Int) = true := List.contains_iff_mem.2 h1
    have c4 : ¬ met.contains (((newOb 4 1 1).at' : Nat) : Int) = true := fun hc => h4 (List.contains_iff_mem.1 hc)
    have c7 : met.contains (((newOb 7 1 1).at' : Nat) : Int) = true := List.contains_iff_mem.2 h7
    rw [List.filter_cons_of_pos (by exact c1), List.filter_cons_of_neg (by exact c4), List.filter_cons_of_pos (by exact c7), List.filter_nil]
  refine ⟨e, ?_⟩
  have := unmet_kept met gL3
  rw [e] at this
  have hl : gL3.length = 3 := rfl
  rw [hl] at this ⊢
  simp only [List.length_cons, List.length_nil] at this
  omega

def NoC (_ : List Int) (_ : World) (O : List Nat) : Prop := O = []
def ats (L : List Ob) : List Int := L.map (fun o => (o.at' : Int))
theorem all_ri {w : World} {v : Value} {L : List Ob} (h : RV w 3 1 v L.length (obsL L)) : RI w v (ats L) := by
  unfold RI ats
  rw [List.length_map, List.map_map]
  exact h
theorem Own.fits {w0 w : World} {p : Value} {n : Nat} {L : List Ob} (h : Own w0 w p n L) (words : Int) : Calls Try.prog 30 #[p, .int .i64 words] w fun e w' => e = .returned (.bool (fitsB n L words)) ∧ Own w0 w' p n L ∧ Fr [] w w' := by
  obtain ⟨F, h1, h2⟩ := h.ex
  refine (fits_any h1 words).mono ?_
  rintro e w' ⟨rfl, f⟩
  exact ⟨rfl, h.keep f, f⟩
theorem RI.made {w : World} (l : List Int) (hl : l.length ≤ 1000000) : RI (w.alloc (.cells (l.map vi).toArray 3)) (.slice (some ⟨w.heap.size, 0, none⟩) l.length l.length) l :=
  RV.mk (heap_alloc_new w _) (Nat.le_refl _) (by unfold maxLen; omega) (by simp) (by rw [Nat.mul_one, List.toList_toArray, List.take_of_length_le (by simp)])
set_option maxHeartbeats 400000 in
theorem known1_any (w : World) (a : Int) : Calls Try.prog 54 #[.int .i64 a] w fun e w' => ∃ v, e = .returned v ∧ RI w' v (knownR a) ∧ Fr [] w w' ∧ ∀ b ∈ fpv v, w.heap.size ≤ b := by
  have HR := hid (RI.made (w := w) [7, 99] (by decide))
  unfold knownR
  by_cases h : a = 1
  · subst h
    go_enter Try.func54, Try.ntmps54
    go_wp2_with fail
    go_ret
    exact ⟨_, rfl, HR.out, (Fr.refl _ _).alloc _, fun b hb => by simp [fpv, Value.ownBlock] at hb; omega⟩
  · have hb : (a == 1) = false := by simpa using h
    have HA := hid h
    clear h
    go_enter Try.func54, Try.ntmps54
    go_wp2_with fail
    go_ret
    exact ⟨_, rfl, RI.nil _, Fr.refl _ _, by simp [fpv, Value.ownBlock]⟩
theorem known_clo : Clo 54 #[] gL3 knownR NoC where
  en := enters_of Try.func54 (by kernel_rfl) rfl
  keep := fun h _ _ => h
  lt := fun h => by unfold NoC at h; rw [h]; simp
  call := fun {s w O} a _ _ hc => by
    unfold NoC at hc
    subst hc
    refine (known1_any w a).mono ?_
    rintro e w' ⟨v, rfl, h1, h2, h3⟩
    exact ⟨v, [], rfl, h1, rfl, h2, by simp, fun b hb => ⟨h3 b hb, by simp⟩⟩

set_option maxHeartbeats 1000000 in
set_option maxRecDepth 20000 in
theorem known12_any (w : World) : Calls Try.prog 28 #[] w fun e w' => e = .returned (.bool true) ∧ Fr [] w w' := by
  go_enter Try.func28, Try.ntmps28
  go_wp2_with fail
  refine (Own.new w w (Fr.refl _ _) 30).mono ?_
  rintro e w1 ⟨hb, rfl, h1⟩
  have H1 := hid h1
  clear h1
  go_wp2_with fail
  refine (Own.alloc (n := 30) H1.out 1 1 (by omega) gA1).mono ?_
  rintro e w2 ⟨rfl, h2⟩
  have H2 := hid h2
  clear h2
  go_wp2_with fail
  refine (H2.out.alloc 1 1 (by omega) gA2).mono ?_
  rintro e w3 ⟨rfl, h3⟩
  have H3 := hid h3
  clear h3
  go_wp2_with fail
  refine (H3.out.alloc 1 1 (by omega) gA3).mono ?_
  rintro e w4 ⟨rfl, h4⟩
  have H4 := hid h4
  clear h4
  go_wp2_with fail
  refine (collect_any (C := NoC) (O := []) (A := []) (s := []) (roots := [1]) (H4.out.keep ((Fr.refl _ _).alloc _)).ownF known_clo (RI.made (w := w4) [1] (by decide)) rfl (by simp) (by simp) (fun a _ => by unfold knownR; split <;> simp) (by decide) (by decide)).mono ?_
  rintro e w5 ⟨met, O', rfl, h5, _, _, hm, hO, _, _, _⟩
  obtain ⟨e1, e2⟩ := known_kept hm
  rw [e1] at h5
  have H5 := hid h5.own
  rw [e2]
  clear h5 hm hO e1 e2
  go_wp2_with fail
  refine H5.out.all.mono ?_
  rintro e w6 ⟨⟨v6, rfl, hv6, _, _⟩, h6⟩
  have H6 := hid h6
  have V6 := hid (all_ri hv6)
  clear h6 hv6
  have E : ats [newOb 1 1 1, newOb 7 1 1] = [1, 7] := rfl
  rw [E] at V6
  go_wp2_with fail
  refine (ints_any (RV.keep0 V6.out ((Fr.refl _ _).alloc _)) (RI.made (w := w6) [1, 7] (by decide))).mono ?_
  rintro e w7 ⟨rfl, f7⟩
  have H7 := hid ((H6.out.keep ((Fr.refl _ _).alloc _)).keep f7)
  clear f7 E
  rw [show decide (([1, 7] : List Int) = [1, 7]) = true from rfl]
  go_wp2_with fail
  refine (H7.out.fits 19).mono ?_
  rintro e w8 ⟨rfl, h8, _⟩
  have H8 := hid h8
  clear h8
  rw [show fitsB 30 [newOb 1 1 1, newOb 7 1 1] 19 = true by decide +kernel]
  go_wp2_with fail
  refine (H8.out.fits 22).mono ?_
  rintro e w9 ⟨rfl, h9, _⟩
  have H9 := hid h9
  clear h9
  rw [show fitsB 30 [newOb 1 1 1, newOb 7 1 1] 22 = false by decide +kernel]
  go_wp2_with fail
  go_ret
  exact ⟨rfl, H9.out.fr⟩

end Go.Proofs.Ytgakkkifohkikaa
