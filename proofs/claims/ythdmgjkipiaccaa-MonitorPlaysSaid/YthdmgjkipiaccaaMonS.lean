/-
  Plain tables: how great their numbers are behind so many calls. No program in sight.
-/
import Derived.Test.YthdmgjkipiaccaaMonA
namespace Go.Proofs.Ythdmgjkipiaccaa
open Go.RowKit

theorem mem_lput {K V : Type} [DecidableEq K] {l : List (K × V)} {a k : K} {v u : V} (h : (k, u) ∈ lput l a v) : (k, u) ∈ l ∨ u = v := by
  unfold lput at h
  split at h
  · obtain ⟨p, hp, e⟩ := List.mem_map.1 h
    split at e
    · cases e; exact .inr rfl
    · rw [← e]; exact .inl hp
  · rcases List.mem_append.1 h with h1 | h1
    · exact .inl h1
    · simp at h1; exact .inr h1.2
theorem mem_ldel {K V : Type} [DecidableEq K] {l : List (K × V)} {a k : K} {u : V} (h : (k, u) ∈ ldel l a) : (k, u) ∈ l := (List.mem_filter.1 h).1

theorem PLk.small.mono {L : PLk} {n m : Nat} (h : L.small n) (hm : n ≤ m) : L.small m := ⟨by have := h.1; omega, h.2.1, by have := h.2.2; omega⟩
theorem PT.Small.mono {T : PT} {n m : Nat} (h : T.Small n) (hm : n ≤ m) : T.Small m := ⟨fun a L hL => (h.ls a L hL).mono hm, fun k c hc => ⟨(h.cs k c hc).1, by have := (h.cs k c hc).2; omega⟩⟩
theorem PT.new_small : PT.new.Small 0 := ⟨by simp [PT.new], by simp [PT.new]⟩
theorem PLk.zero_small (n : Nat) : PLk.zero.small n := ⟨by simp [PLk.zero], by simp [PLk.zero], by simp [PLk.zero]⟩
theorem PT.Small.at {T : PT} {n : Nat} (h : T.Small n) (a : Int) : (T.at a).small n := by
  unfold PT.at
  cases e : lget T.ls a with
  | none => exact PLk.zero_small n
  | some L => exact h.ls a L (lget_mem e)
theorem PT.Small.put {T : PT} {n : Nat} (h : T.Small n) {a : Int} {L : PLk} {cs : List ((Int × Int) × Int)} (hL : L.small n) (hc : ∀ k c, (k, c) ∈ cs → 0 ≤ c ∧ c ≤ n) : PT.Small ⟨lput T.ls a L, cs⟩ n :=
  ⟨fun b M hM => by
    rcases mem_lput hM with h1 | rfl
    · exact h.ls b M h1
    · exact hL, hc⟩
theorem PLk.enter_small {L : PLk} {n : Nat} (h : L.small n) (t : Int) : (L.enter t).2.small (n + 1) := by
  obtain ⟨h1, h2, h3⟩ := h
  unfold PLk.enter
  split
  · exact ⟨by simp only []; omega, by simp only []; omega, by simp only []; omega⟩
  · split
    · exact ⟨by simp only []; omega, by simp only []; omega, by simp only []; omega⟩
    · exact ⟨by simp only [List.length_append, List.length_singleton]; omega, by simp only []; omega, by simp only []; omega⟩
theorem PT.enter_small {T : PT} {n : Nat} (h : T.Small n) (a t : Int) : (T.enter a t).2.Small (n + 1) := by
  unfold PT.enter
  split
  · exact h.mono (by omega)
  · exact (h.mono (Nat.le_succ n)).put (PLk.enter_small (h.at a) t) (h.mono (Nat.le_succ n)).cs
theorem PT.owned_mem {T : PT} {a t : Int} {L : PLk} (h : T.owned a t = some L) : (a, L) ∈ T.ls := by
  unfold PT.owned at h
  cases e : lget T.ls a with
  | none => rw [e] at h; cases h
  | some M =>
    rw [e] at h
    simp only [] at h
    split at h
    · cases h
    · cases h; exact lget_mem e
theorem overL_small {a : Int} {L : PLk} {cs : List ((Int × Int) × Int)} {n : Nat} (hn : 1 ≤ n) (h : L.entry.length + L.wait.length ≤ n) (hc : ∀ k c, (k, c) ∈ cs → 0 ≤ c ∧ c ≤ (n : Int)) :
    (overL a L cs).2.1.small n ∧ ∀ k c, (k, c) ∈ (overL a L cs).2.2 → 0 ≤ c ∧ c ≤ (n : Int) := by
  obtain ⟨o, c0, f, en, wa⟩ := L
  cases en with
  | nil => exact ⟨⟨h, by simp [overL], by simp [overL]⟩, hc⟩
  | cons x r =>
    simp only [List.length_cons] at h
    simp only [overL]
    cases e : lget cs (a, x) with
    | none => exact ⟨⟨by simp only []; omega, by simp only []; omega, by simp only []; omega⟩, hc⟩
    | some m =>
      have := hc _ _ (lget_mem e)
      exact ⟨⟨by simp only []; omega, this.1, this.2⟩, fun k c hk => hc k c (mem_ldel hk)⟩
theorem PT.exit_small {T : PT} {n : Nat} (h : T.Small n) (a t : Int) : (T.exit a t).2.Small (n + 1) := by
  unfold PT.exit
  have hm := h.mono (Nat.le_succ n)
  cases e : T.owned a t with
  | none => exact hm
  | some L =>
    have hL := hm.ls a L (PT.owned_mem e)
    simp only []
    split
    · exact hm.put ⟨hL.1, by simp only []; omega, by have := hL.2.2; simp only []; omega⟩ hm.cs
    · obtain ⟨k1, k2⟩ := overL_small (a := a) (L := L) (cs := T.cs) (n := n + 1) (by omega) hL.1 hm.cs
      exact hm.put k1 k2
theorem PT.wait_small {T : PT} {n : Nat} (h : T.Small n) (a t : Int) : (T.wait a t).2.Small (n + 1) := by
  unfold PT.wait
  have hm := h.mono (Nat.le_succ n)
  cases e : T.owned a t with
  | none => exact hm
  | some L =>
    have hL := h.ls a L (PT.owned_mem e)
    have hL2 := hm.ls a L (PT.owned_mem e)
    simp only []
    obtain ⟨k1, k2⟩ := overL_small (a := a) (L := { L with wait := L.wait ++ [t], fat := true }) (cs := lput T.cs (a, t) L.count) (n := n + 1) (by omega) (by have := hL.1; simp only [List.length_append, List.length_singleton]; omega) (fun k c hk => by
      rcases mem_lput hk with h1 | rfl
      · exact hm.cs k c h1
      · exact hL2.2)
    exact hm.put k1 k2
theorem PLk.notified_small {L : PLk} {n : Nat} (h : L.small n) (all : Bool) : (L.notified all).2.small n := by
  obtain ⟨o, c, f, en, wa⟩ := L
  obtain ⟨h1, h2, h3⟩ := h
  simp only [] at h1 h2 h3
  unfold PLk.notified
  cases all with
  | true => exact ⟨by simp; omega, h2, h3⟩
  | false =>
    cases wa with
    | nil => exact ⟨h1, h2, h3⟩
    | cons x r => exact ⟨by simp at h1 ⊢; omega, h2, h3⟩
theorem PT.notify_small {T : PT} {n : Nat} (h : T.Small n) (a t : Int) (all : Bool) : (T.notify a t all).2.Small n := by
  unfold PT.notify
  cases e : T.owned a t with
  | none => exact h
  | some L => exact h.put (PLk.notified_small (h.ls a L (PT.owned_mem e)) all) h.cs

end Go.Proofs.Ythdmgjkipiaccaa
