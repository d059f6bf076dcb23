/-
  The plain law of one lock that threads enter and exit: who has it, who stands at the entry.
-/
import Derived.Test.YthdmgjkipiaccaaMonS
namespace Go.Proofs.Ythdmgjkipiaccaa
open Go.RowKit

/-- o has lock 5 (0: nobody), q stand at its entry -/
structure FInv (o : Int) (q : List Int) (T : PT) : Prop where
  h : (T = ⟨[], []⟩ ∧ o = 0 ∧ q = []) ∨ ∃ c f, T = ⟨[(5, ⟨o, c, f, q, []⟩)], []⟩ ∧ (o ≠ 0 → c = 1) ∧ (o = 0 → q = [])

theorem FInv.new : FInv 0 [] PT.new := ⟨.inl ⟨rfl, rfl, rfl⟩⟩
theorem FInv.at {o : Int} {q : List Int} {T : PT} (h : FInv o q T) : (T.at 5).owner = o ∧ (o ≠ 0 → (T.at 5).count = 1) ∧ (T.at 5).entry = q := by
  obtain ⟨⟨rfl, rfl, rfl⟩ | ⟨c, f, rfl, h1, h2⟩⟩ := h
  · exact ⟨rfl, fun h => absurd rfl h, rfl⟩
  · exact ⟨rfl, h1, rfl⟩
theorem FInv.stands {o : Int} {q : List Int} {T : PT} (h : FInv o q T) (t : Int) : T.stands t = q.contains t := by
  obtain ⟨⟨rfl, rfl, rfl⟩ | ⟨c, f, rfl, h1, h2⟩⟩ := h
  · rfl
  · simp [PT.stands, PLk.has]
theorem FInv.enter {o : Int} {q : List Int} {T : PT} (h : FInv o q T) {t : Int} (ht : 1 ≤ t) (hq : q.contains t = false) (ho : o ≠ t) :
    (T.enter 5 t).1 = (decide (o = 0), 0) ∧ FInv (if o = 0 then t else o) (if o = 0 then q else q ++ [t]) (T.enter 5 t).2 := by
  have hs := h.stands t
  rw [hq] at hs
  have e : T.enter 5 t = (((T.at 5).enter t |>.1, 0), { T with ls := lput T.ls 5 ((T.at 5).enter t).2 }) := by
    unfold PT.enter; rw [if_neg (by rw [hs]; simp; omega)]
  rw [e]
  obtain ⟨⟨rfl, rfl, rfl⟩ | ⟨c, f, rfl, h1, h2⟩⟩ := h
  · refine ⟨rfl, ⟨.inr ⟨1, false, rfl, fun _ => rfl, fun h => ?_⟩⟩⟩
    simp at h; omega
  · by_cases h0 : o = 0
    · subst h0
      have hq0 := h2 rfl
      subst hq0
      refine ⟨rfl, ⟨.inr ⟨1, f, rfl, fun _ => rfl, fun h => ?_⟩⟩⟩
      simp at h; omega
    · have e2 : PLk.enter ⟨o, c, f, q, []⟩ t = (false, ⟨o, c, true, q ++ [t], []⟩) := by
        unfold PLk.enter; rw [if_neg h0, if_neg ho]
      have e3 : (PT.mk [(5, ⟨o, c, f, q, []⟩)] []).at 5 = ⟨o, c, f, q, []⟩ := rfl
      rw [e3, e2, if_neg h0, if_neg h0]
      exact ⟨by simp [h0], ⟨.inr ⟨c, true, rfl, h1, fun h => absurd h h0⟩⟩⟩
theorem FInv.exit_no {o : Int} {q : List Int} {T : PT} (h : FInv o q T) {t : Int} (ho : o ≠ t) : T.exit 5 t = ((0, 130), T) := by
  have e : T.owned 5 t = none := by
    obtain ⟨⟨rfl, rfl, rfl⟩ | ⟨c, f, rfl, h1, h2⟩⟩ := h
    · rfl
    · show (if t < 1 ∨ o ≠ t then none else some _) = none
      rw [if_pos (.inr ho)]
  unfold PT.exit; rw [e]
theorem FInv.exit {q : List Int} {T : PT} {t : Int} (h : FInv t q T) (ht : 1 ≤ t) (hq : ∀ x ∈ q, 1 ≤ x) : (T.exit 5 t).1 = (q.headD 0, 0) ∧ FInv (q.headD 0) q.tail (T.exit 5 t).2 := by
  obtain ⟨⟨rfl, h0, rfl⟩ | ⟨c, f, rfl, h1, h2⟩⟩ := h
  · omega
  · obtain rfl := h1 (by omega)
    have e : PT.owned ⟨[(5, ⟨t, 1, f, q, []⟩)], []⟩ 5 t = some ⟨t, 1, f, q, []⟩ := by
      show (if t < 1 ∨ t ≠ t then none else some _) = _
      rw [if_neg (by simp; omega)]
    unfold PT.exit
    rw [e]
    cases q with
    | nil => exact ⟨rfl, ⟨.inr ⟨0, f, rfl, fun h => absurd rfl h, fun _ => rfl⟩⟩⟩
    | cons x r =>
      have := hq x (by simp)
      exact ⟨rfl, ⟨.inr ⟨1, f, rfl, fun _ => rfl, fun h => by simp at h; omega⟩⟩⟩

end Go.Proofs.Ythdmgjkipiaccaa
