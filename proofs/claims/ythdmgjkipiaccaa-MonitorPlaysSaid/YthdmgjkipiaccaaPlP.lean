/-
  MonitorPlays, plain: what a row of n calls keeps; how much there is.
-/
import Derived.Test.YthdmgjkipiaccaaRefP
import Derived.Test.YthdmgjkipiaccaaRdF
import Derived.Test.YthdmgjkipiaccaaMonS
import Derived.Test.YthdmgjkipiaccaaMonL3
namespace Go.Proofs.Ythdmgjkipiaccaa
open Go.RowKit

def wfI (a : Int) : Prop := (Lit.int .i64 a).wf = true
structure PlM (n : Nat) (T : PT) (R : List RL) : Prop where
  sam : Sam T R
  sm : T.Small n
  ln : R.length ≤ n
  wf : ∀ x ∈ R, wfI x.at'
theorem PlM.new : PlM 0 .new [] := ⟨Sam.new, PT.new_small, by simp, by simp⟩
theorem PlM.rbd {n : Nat} {T : PT} {R : List RL} (h : PlM n T R) (hn : n ≤ 1000) : RBd R 1000 := by
  refine ⟨by have := h.ln; omega, fun x hx => ?_⟩
  have hm : (x.at', x.pl) ∈ T.ls := by rw [h.sam.ls]; exact List.mem_map.2 ⟨x, hx, rfl⟩
  obtain ⟨k1, k2, k3⟩ := h.sm.ls _ _ hm
  simp only [RL.pl, List.length_map] at k1 k2 k3
  exact ⟨k2, by omega, by omega, by omega⟩
theorem PlM.keys {n : Nat} {T : PT} {R : List RL} (h : PlM n T R) : ∀ q ∈ T.ls, (Lit.int .i64 q.1).wf = true := by
  intro q hq
  rw [h.sam.ls] at hq
  obtain ⟨x, hx, rfl⟩ := List.mem_map.1 hq
  exact h.wf x hx
theorem PlM.len {n : Nat} {T : PT} {R : List RL} (h : PlM n T R) : T.ls.length ≤ n := by rw [h.sam.ls, List.length_map]; exact h.ln
theorem PlM.mono {n m : Nat} {T : PT} {R : List RL} (h : PlM n T R) (hm : n ≤ m) : PlM m T R := ⟨h.sam, h.sm.mono hm, by have := h.ln; omega, h.wf⟩
theorem wf_set {R : List RL} {i : Nat} {y : RL} (h : ∀ x ∈ R, wfI x.at') (hy : wfI y.at') : ∀ x ∈ R.set i y, wfI x.at' := by
  intro x hx
  rcases List.mem_or_eq_of_mem_set hx with k | rfl
  · exact h x k
  · exact hy
theorem wf_getD {R : List RL} {i : Nat} {a : Int} (h : ∀ x ∈ R, wfI x.at') (ha : wfI a) : wfI (R.getD i (RL.zero a)).at' := by
  rw [List.getD_eq_getElem?_getD]
  cases e : R[i]? with
  | none => exact ha
  | some x => exact h x (List.mem_of_getElem? e)
theorem enter_at (x : RL) (t : Int) : (x.enter t).2.at' = x.at' := by
  unfold RL.enter
  split
  · rfl
  · split <;> rfl
theorem notified_at (x : RL) (all : Bool) : (x.notified all).2.at' = x.at' := (notified_same x all).2.2.1
theorem rput_wf {R : List RL} {a : Int} (h : ∀ x ∈ R, wfI x.at') (ha : wfI a) : (∀ x ∈ rput R a, wfI x.at') ∧ (rput R a).length ≤ R.length + 1 := by
  unfold rput
  split
  · exact ⟨h, by omega⟩
  · refine ⟨fun x hx => ?_, by simp⟩
    rcases List.mem_append.1 hx with k | k
    · exact h x k
    · rw [List.mem_singleton.1 k]; exact ha
theorem PlM.enter {n : Nat} {T : PT} {R : List RL} (h : PlM n T R) {a : Int} (ha : wfI a) (t : Int) : (T.enter a t).1 = (rEnter R a t).1 ∧ PlM (n + 1) (T.enter a t).2 (rEnter R a t).2 := by
  obtain ⟨e, s⟩ := h.sam.enter a t
  obtain ⟨k1, k2⟩ := rput_wf h.wf ha
  have hl := h.ln
  refine ⟨e, s, PT.enter_small h.sm a t, ?_, ?_⟩
  · unfold rEnter
    split
    · show R.length ≤ _; omega
    · simp only [List.length_set]; omega
  · unfold rEnter
    split
    · exact h.wf
    · exact wf_set k1 (by rw [enter_at]; exact wf_getD k1 ha)
theorem PlM.exit {n : Nat} {T : PT} {R : List RL} (h : PlM n T R) {a : Int} (ha : wfI a) (t : Int) : (T.exit a t).1 = (rExit R a t).1 ∧ PlM (n + 1) (T.exit a t).2 (rExit R a t).2 := by
  obtain ⟨e, s⟩ := h.sam.exit a t
  have hl := h.ln
  refine ⟨e, s, PT.exit_small h.sm a t, ?_, ?_⟩
  · unfold rExit
    split
    · show R.length ≤ _; omega
    · simp only []
      split <;> simp only [List.length_set] <;> omega
  · unfold rExit
    split
    · exact h.wf
    · simp only []
      split
      · exact wf_set h.wf (wf_getD (i := _) h.wf ha)
      · exact wf_set h.wf (by rw [RL.over_at]; exact wf_getD h.wf ha)
theorem PlM.wait {n : Nat} {T : PT} {R : List RL} (h : PlM n T R) {a : Int} (ha : wfI a) (t : Int) : (T.wait a t).1 = (rWait R a t).1 ∧ PlM (n + 1) (T.wait a t).2 (rWait R a t).2 := by
  obtain ⟨e, s⟩ := h.sam.wait a t
  have hl := h.ln
  refine ⟨e, s, PT.wait_small h.sm a t, ?_, ?_⟩
  · unfold rWait
    split
    · show R.length ≤ _; omega
    · simp only [List.length_set]; omega
  · unfold rWait
    split
    · exact h.wf
    · exact wf_set h.wf (by rw [RL.over_at]; exact wf_getD h.wf ha)
theorem PlM.notify {n : Nat} {T : PT} {R : List RL} (h : PlM n T R) {a : Int} (ha : wfI a) (t : Int) (all : Bool) : (T.notify a t all).1 = (((rNotify R a t all).1.1.length : Int), (rNotify R a t all).1.2) ∧ PlM (n + 1) (T.notify a t all).2 (rNotify R a t all).2 := by
  obtain ⟨e, s⟩ := h.sam.notify a t all
  have hl := h.ln
  refine ⟨e, s, (PT.notify_small h.sm a t all).mono (by omega), ?_, ?_⟩
  · unfold rNotify
    split
    · show R.length ≤ _; omega
    · simp only [List.length_set]; omega
  · unfold rNotify
    split
    · exact h.wf
    · exact wf_set h.wf (by rw [notified_at]; exact wf_getD h.wf ha)
theorem PlM.forget {n : Nat} {T : PT} {R : List RL} (h : PlM n T R) (a : Int) : (T.forget a).1 = (rForget R a).1 ∧ PlM (n + 1) (T.forget a).2 (rForget R a).2 := by
  obtain ⟨e, s⟩ := h.sam.forget a
  have hl := h.ln
  refine ⟨e, s, (PT.forget_small h.sm a).mono (by omega), ?_, ?_⟩
  · unfold rForget
    split
    · simp only []
      split
      · show R.length ≤ _; omega
      · simp only [List.length_append, List.length_take, List.length_drop]; omega
    · show R.length ≤ _; omega
  · unfold rForget
    split
    · simp only []
      split
      · exact h.wf
      · intro x hx
        rcases List.mem_append.1 hx with k | k
        · exact h.wf x (List.mem_of_mem_take k)
        · exact h.wf x (List.mem_of_mem_drop k)
    · exact h.wf

end Go.Proofs.Ythdmgjkipiaccaa
