/-
  A region that draws its order and ends with stores into cells that it has loaded: what the loads see need hold only till the first store comes up.
-/
import Derived.Test.YthdmgjkipiaccaaSlR
import Derived.Deep.RegionHeld
namespace Go.Proofs.Ythdmgjkipiaccaa
open Go.RowKit
section
variable {P : Program} {ops : Array Oper} {Q : Exit → Act → World → Prop} {md : Region.Mode} {C : World → Prop} {s0 : Nat}

/-- whatever order is drawn; C holds behind each operation till number s0 has come up -/
def wpAnyT (P : Program) (md : Region.Mode) (ops : Array Oper) (Q : Exit → Act → World → Prop) (C : World → Prop) (s0 : Nat) : Nat → Array Bool → Act → World → Prop
  | 0, l, a, w => Region.ready md ops l = [] ∧ Q .normal a w
  | n + 1, l, a, w =>
    (Region.ready md ops l = [] → Q .normal a w) ∧
    ∀ j ∈ Region.ready md ops l, wpOp P ops Q j (fun a' w' => ((l.setIfInBounds j true).getD s0 false = false → C w') ∧ wpAnyT P md ops Q C s0 n (l.setIfInBounds j true) a' w') a w
theorem wpAny_of_T : ∀ (n : Nat) (l : Array Bool) (a : Act) (w : World), wpAnyT P md ops Q C s0 n l a w → wpAny P md ops Q n l a w
  | 0, _, _, _, h => h
  | n + 1, _, _, _, h => ⟨h.1, fun j hj => wpOp_mono (fun a' w' h' => wpAny_of_T n _ a' w' h'.2) (h.2 j hj)⟩

/-- who has come up came behind all that it waits for -/
def Shut1 (md : Region.Mode) (ops : Array Oper) (l : Array Bool) : Prop := ∀ j o, ops[j]? = some o → l.getD j false = true → ∀ e ∈ o.after, Region.binds md e = true → l.getD e.on false = true
def shutB (md : Region.Mode) (ops : Array Oper) (l : Array Bool) : Bool := (List.range ops.size).all fun j => !(l.getD j false) || match ops[j]? with | some o => o.after.all (fun e => !(Region.binds md e) || l.getD e.on false) | none => true
theorem shut_spec {l : Array Bool} (h : shutB md ops l = true) : Shut1 md ops l := by
  intro j o ho hj e he hb
  have h1 := List.all_eq_true.1 h j (List.mem_range.2 (Array.getElem?_eq_some_iff.1 ho).1)
  simp only [hj, ho, Bool.not_true, Bool.false_or] at h1
  have h2 := Array.all_eq_true_iff_forall_mem.1 h1 e he
  simpa [hb] using h2
theorem Shut1.next {l : Array Bool} (h : Shut1 md ops l) {i : Nat} (hi : i ∈ Region.ready md ops l) : Shut1 md ops (l.setIfInBounds i true) := by
  intro j o ho hj e he hb
  by_cases hij : i = j
  · subst hij
    obtain ⟨_, o', ho', hall⟩ := mem_ready.1 hi
    rw [ho] at ho'
    cases ho'
    exact getD_set_true (hall e he hb)
  · rw [getD_set_ne false hij] at hj
    exact getD_set_true (h j o ho hj e he hb)
/-- each waits for the next one -/
def waits (md : Region.Mode) (ops : Array Oper) : List Nat → Bool
  | [] => true
  | [_] => true
  | x :: y :: r => (match ops[x]? with | some o => o.after.any (fun e => Region.binds md e && e.on == y) | none => false) && waits md ops (y :: r)
theorem waits_edge {x y : Nat} {r : List Nat} (h : waits md ops (x :: y :: r) = true) : (∃ o e, ops[x]? = some o ∧ e ∈ o.after ∧ Region.binds md e = true ∧ e.on = y) ∧ waits md ops (y :: r) = true := by
  unfold waits at h
  rw [Bool.and_eq_true] at h
  refine ⟨?_, h.2⟩
  cases ho : ops[x]? with
  | none => rw [ho] at h; simp at h
  | some o =>
    rw [ho] at h
    obtain ⟨e, he, hb⟩ := Array.any_eq_true'.1 h.1
    simp only [Bool.and_eq_true, beq_iff_eq] at hb
    exact ⟨o, e, rfl, he, hb.1, hb.2⟩
theorem waits_listed {l : Array Bool} (h : Shut1 md ops l) : ∀ (c : List Nat) (x : Nat), waits md ops (x :: c) = true → l.getD x false = true → ∀ y ∈ c, l.getD y false = true
  | [], _, _, _ => by simp
  | y :: r, x, hw, hx => by
    obtain ⟨⟨o, e, ho, he, hb, rfl⟩, hw2⟩ := waits_edge hw
    have h1 := h x o ho hx e he hb
    intro z hz
    rcases List.mem_cons.1 hz with rfl | hz
    · exact h1
    · exact waits_listed h r _ hw2 h1 z hz
theorem waits_ready {l : Array Bool} (h : Shut1 md ops l) {x : Nat} {c : List Nat} (hw : waits md ops (x :: c) = true) (hx : x ∈ Region.ready md ops l) : ∀ y ∈ c, l.getD y false = true := by
  cases c with
  | nil => simp
  | cons y r =>
    obtain ⟨⟨o, e, ho, he, hb, rfl⟩, hw2⟩ := waits_edge hw
    obtain ⟨_, o', ho', hall⟩ := mem_ready.1 hx
    rw [ho] at ho'
    cases ho'
    have h1 := hall e he hb
    intro z hz
    rcases List.mem_cons.1 hz with rfl | hz
    · exact h1
    · exact waits_listed h r _ hw2 h1 z hz
theorem getD_dft {l : Array Bool} {i : Nat} (h : l.getD i true = false) : l.getD i false = false := by
  rcases Nat.lt_or_ge i l.size with h' | h'
  · simp [h'] at h ⊢; exact h
  · simp [Array.getElem?_eq_none h'] at h

theorem wpAnyT_first {i : Nat} {oi : Oper} {v : Value} (hi : ops[i]? = some oi) (hsel : ∀ (j : Nat) (o : Oper) cs b, ops[j]? = some o → o.op ≠ .select cs b)
    (hQ : ∀ c a w, Q (.panic c) (a.put oi.dst v) w → Q (.panic c) a w) {c : List Nat} (hc : waits md ops (s0 :: c) = true) (hic : i ∈ c) (hs0 : s0 ≠ i) :
    ∀ (fuel : Nat) (l : Array Bool) (a : Act) (w : World),
      (∀ j oj, ops[j]? = some oj → j ≠ i → l.getD j true = false → (∀ e ∈ oj.after, Region.binds md e = true → e.on ≠ i) → oi.apart ops oj = true) →
      i ∈ Region.ready md ops l → YieldsIf P ops C oi v a → Shut1 md ops l → C w →
      wpAnyT P md ops Q C s0 fuel (l.setIfInBounds i true) (a.put oi.dst v) w → wpAnyT P md ops Q C s0 (fuel + 1) l a w := by
  intro fuel
  induction fuel with
  | zero =>
    intro l a w _ hr hy _ hC H
    refine ⟨fun h => (by rw [h] at hr; cases hr), fun j hj => ?_⟩
    by_cases hji : j = i
    · subst hji; exact hy.wpOp hi hC ⟨fun _ => hC, H⟩
    · have h1 := ready_mono hj hji
      rw [H.1] at h1
      cases h1
  | succ fuel ih =>
    intro l a w hfree hr hy hsh hC H
    have hun : l.getD i false = false := getD_dft (mem_ready.1 hr).1
    refine ⟨fun h => (by rw [h] at hr; cases hr), fun j hj => ?_⟩
    by_cases hji : j = i
    · subst hji; exact hy.wpOp hi hC ⟨fun _ => hC, H⟩
    · have hjs : j ≠ s0 := fun e => by
        subst e
        have := waits_ready hsh hc hj i hic
        rw [hun] at this
        cases this
      have hls : l.getD s0 false = false := by
        cases h : l.getD s0 false with
        | false => rfl
        | true =>
          have := waits_listed hsh c s0 hc h i hic
          rw [hun] at this
          cases this
      have hlj : (l.setIfInBounds j true).getD s0 false = false := by rw [getD_set_ne false hjs]; exact hls
      have hlij : ((l.setIfInBounds i true).setIfInBounds j true).getD s0 false = false := by rw [getD_set_ne false hjs, getD_set_ne false (Ne.symm hs0)]; exact hls
      obtain ⟨hjun, oj, hoj, hall⟩ := mem_ready.1 hj
      have hnot : ∀ e ∈ oj.after, Region.binds md e = true → e.on ≠ i := fun e he hb heq => by
        have h1 := hall e he hb
        rw [heq, hun] at h1
        cases h1
      have h2 := wpOp_putIf hoj (hfree j oj hoj hji hjun hnot) (fun cs b => hsel i oi cs b hi) (fun cs b => hsel j oj cs b hoj) hQ hy (H.2 j (ready_mono hj hji))
      refine wpOp_mono (fun a' w' h3 => ?_) h2
      have hCw := h3.2.1 hlij
      refine ⟨fun _ => hCw, ih (l.setIfInBounds j true) a' w' (fun k ok hk hki hunk hno => hfree k ok hk hki ?_ hno) (ready_mono hr (Ne.symm hji)) h3.1 (hsh.next hj) hCw ?_⟩
      · by_cases hjk : j = k
        · subst hjk; exact hjun
        · rw [getD_set_ne true hjk] at hunk; exact hunk
      · rw [Array.setIfInBounds_comm _ _ hji]
        exact h3.2.2
/-- number i first: it yields v in every world that meets C, and s0 waits for it (by way of c) -/
theorem wpAnyT_take {i : Nat} {oi : Oper} {v : Value} (c : List Nat) {fuel : Nat} {l : Array Bool} {a : Act} {w : World} (hi : ops[i]? = some oi)
    (hs : Region.noSelect ops = true) (hf : Region.free md ops l i = true) (hr : (Region.ready md ops l).contains i = true) (hc : (waits md ops (s0 :: c) && c.contains i && !(s0 == i) && shutB md ops l) = true)
    (hQ : ∀ c a w, Q (.panic c) (a.put oi.dst v) w → Q (.panic c) a w) (hy : YieldsIf P ops C oi v a) (hC : C w)
    (h : wpAnyT P md ops Q C s0 fuel (l.setIfInBounds i true) (a.put oi.dst v) w) : wpAnyT P md ops Q C s0 (fuel + 1) l a w := by
  simp only [Bool.and_eq_true, Bool.not_eq_true', beq_eq_false_iff_ne, ne_eq] at hc
  obtain ⟨⟨⟨h1, h2⟩, h3⟩, h4⟩ := hc
  exact wpAnyT_first hi (Region.noSelect_spec hs) hQ h1 (by simpa using h2) h3 fuel l a w (Region.free_spec hi hf) (by simpa using hr) hy (shut_spec h4) hC h
def AllReadyT (P : Program) (md : Region.Mode) (ops : Array Oper) (Q : Exit → Act → World → Prop) (C : World → Prop) (s0 fuel : Nat) (l : Array Bool) (a : Act) (w : World) (rs : List Nat) : Prop :=
  ∀ i ∈ rs, wpOp P ops Q i (fun a' w' => ((l.setIfInBounds i true).getD s0 false = false → C w') ∧ wpAnyT P md ops Q C s0 fuel (l.setIfInBounds i true) a' w') a w
theorem AllReadyT.nil {fuel : Nat} {l : Array Bool} {a : Act} {w : World} : AllReadyT P md ops Q C s0 fuel l a w [] := fun _ h => by cases h
/-- ahead of s0: C is shown of the world behind it -/
theorem AllReadyT.cons {fuel : Nat} {l : Array Bool} {a : Act} {w : World} {i : Nat} {o : Oper} {rs : List Nat} (ho : ops[i]? = some o)
    (h : ∀ K' : Act → World → Prop, Shut (∀ a w, C w → (C w → wpAnyT P md ops Q C s0 fuel (l.setIfInBounds i true) a w) → K' a w) → if Region.wanted o (yielded ops a.tmps) = true then Oper.wp P o a w K' Q else K' (a.put o.dst undef) w)
    (hs : AllReadyT P md ops Q C s0 fuel l a w rs) : AllReadyT P md ops Q C s0 fuel l a w (i :: rs) := fun j hj => by
  rcases List.mem_cons.1 hj with rfl | hj
  · exact wpOp_step ho (fun K' hK => h K' (fun a w hS hW => hK a w ⟨fun _ => hS, hW hS⟩))
  · exact hs j hj
/-- at s0 and behind it: nothing is asked -/
theorem AllReadyT.last {fuel : Nat} {l : Array Bool} {a : Act} {w : World} {i : Nat} {o : Oper} {rs : List Nat} (ho : ops[i]? = some o) (hl : (l.setIfInBounds i true).getD s0 false = true)
    (h : ∀ K' : Act → World → Prop, Shut (∀ a w, wpAnyT P md ops Q C s0 fuel (l.setIfInBounds i true) a w → K' a w) → if Region.wanted o (yielded ops a.tmps) = true then Oper.wp P o a w K' Q else K' (a.put o.dst undef) w)
    (hs : AllReadyT P md ops Q C s0 fuel l a w rs) : AllReadyT P md ops Q C s0 fuel l a w (i :: rs) := fun j hj => by
  rcases List.mem_cons.1 hj with rfl | hj
  · exact wpOp_step ho (fun K' hK => h K' (fun a w hW => hK a w ⟨fun e => (by rw [hl] at e; cases e), hW⟩))
  · exact hs j hj
theorem wpAnyT_ready {rs : List Nat} {fuel : Nat} {l : Array Bool} {a : Act} {w : World} (hr : Region.ready md ops l = rs) (hne : rs ≠ [])
    (h : AllReadyT P md ops Q C s0 fuel l a w rs) : wpAnyT P md ops Q C s0 (fuel + 1) l a w :=
  ⟨fun h0 => absurd (hr ▸ h0) hne, hr ▸ h⟩
theorem wpAnyT_done {l : Array Bool} {a : Act} {w : World} (hr : Region.ready md ops l = []) (h : Q .normal a w) : ∀ fuel, wpAnyT P md ops Q C s0 fuel l a w
  | 0 => ⟨hr, h⟩
  | _ + 1 => ⟨fun _ => h, by rw [hr]; simp⟩
theorem wp_region_T {id : Nat} {a : Act} {w : World} (C : World → Prop) (s0 : Nat) (hm : P.follows .mixedOrders = true) (hC : C w.drew)
    (h : C w.drew → wpAnyT P .any ops Q C s0 ops.size (Array.replicate ops.size false) a w.drew) : (Code.region id ops true).wp P Q a w :=
  wp_region_any hm (wpAny_of_T _ _ _ _ (h hC))
end

theorem step_exec {P : Program} {ops : Array Oper} {o : Oper} {a : Act} {w w' : World} {K : Act → World → Prop} {Q : Exit → Act → World → Prop} {E : Prop} (hgd : o.guard = none) (hex : (execOp a.eval o).run P w = .ok .skip w') (h : K (a.put o.dst undef) w') :
    if Region.wanted o (yielded ops a.tmps) = true then Oper.wp P o a w K Q else E := by
  have hw : Region.wanted o (yielded ops a.tmps) = true := by simp [Region.wanted, hgd]
  rw [if_pos hw]
  refine Eq.mpr (congrArg (Oper.upon _ _ _ _ _) hex) ?_
  rw [Oper.upon_skip]
  exact h

end Go.Proofs.Ythdmgjkipiaccaa
