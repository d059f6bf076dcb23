/-
  Mark and sweep, plainly: what is reached from roots, the search for it, what is left. It speaks of no program.
-/
import Derived.Test.YtgakkkifohkikaaOwnF
namespace Go.Proofs.Ytgakkkifohkikaa
open Go.RowKit

/-- a is an object that roots lead to -/
inductive Reach (L : List Ob) (roots : List Int) (R : Int → List Int) : Int → Prop
  | root {a : Int} : a ∈ roots → has L a = true → Reach L roots R a
  | step {a b : Int} : Reach L roots R a → b ∈ R a → has L b = true → Reach L roots R b

theorem Reach.has {L : List Ob} {roots : List Int} {R : Int → List Int} {a : Int} (h : Reach L roots R a) : has L a = true := by
  cases h with
  | root _ h => exact h
  | step _ _ h => exact h

/-- the search is under way: met are met, stack is still to look at -/
structure Going (L : List Ob) (roots : List Int) (R : Int → List Int) (met stack : List Int) : Prop where
  nd : met.Nodup
  re : ∀ a ∈ met, Reach L roots R a
  st : ∀ a ∈ stack, has L a = true → Reach L roots R a
  ro : ∀ a ∈ roots, has L a = true → a ∈ met ∨ a ∈ stack
  cl : ∀ a ∈ met, ∀ b ∈ R a, has L b = true → b ∈ met ∨ b ∈ stack
section
variable {L : List Ob} {roots : List Int} {R : Int → List Int} {met stack : List Int}
theorem Going.start (L : List Ob) (roots : List Int) (R : Int → List Int) : Going L roots R [] roots :=
  ⟨List.nodup_nil, by simp, fun a h1 h2 => .root h1 h2, fun _ h _ => .inr h, by simp⟩
theorem Going.skip {a : Int} (h : Going L roots R met (stack ++ [a])) (ha : a ∈ met ∨ has L a = false) : Going L roots R met stack := by
  have key : ∀ b, has L b = true → (b ∈ met ∨ b ∈ stack ++ [a]) → b ∈ met ∨ b ∈ stack := by
    intro b hb hm
    rcases hm with hm | hm
    · exact .inl hm
    · rcases List.mem_append.1 hm with hm | hm
      · exact .inr hm
      · rw [List.mem_singleton.1 hm] at hb ⊢
        rcases ha with ha | ha
        · exact .inl ha
        · rw [ha] at hb; cases hb
  exact ⟨h.nd, h.re, fun b hb => h.st b (List.mem_append_left _ hb), fun b hb hh => key b hh (h.ro b hb hh), fun b hb c hc hh => key c hh (h.cl b hb c hc hh)⟩
theorem Going.meet {a : Int} (h : Going L roots R met (stack ++ [a])) (hn : a ∉ met) (ha : has L a = true) : Going L roots R (met ++ [a]) (stack ++ R a) := by
  have hr : Reach L roots R a := h.st a (by simp) ha
  have key : ∀ b, (b ∈ met ∨ b ∈ stack ++ [a]) → b ∈ met ++ [a] ∨ b ∈ stack ++ R a := by
    intro b hm
    simp only [List.mem_append, List.mem_singleton] at hm ⊢
    rcases hm with hm | hm | hm
    · exact .inl (.inl hm)
    · exact .inr (.inl hm)
    · exact .inl (.inr hm)
  refine ⟨?_, fun b hb => ?_, fun b hb hh => ?_, fun b hb hh => key b (h.ro b hb hh), fun b hb c hc hh => ?_⟩
  · rw [List.nodup_append]
    refine ⟨h.nd, by simp, fun x hx y hy e => ?_⟩
    rw [List.mem_singleton.1 hy] at e
    exact hn (e ▸ hx)
  · rcases List.mem_append.1 hb with hb | hb
    · exact h.re b hb
    · rw [List.mem_singleton.1 hb]; exact hr
  · rcases List.mem_append.1 hb with hb | hb
    · exact h.st b (List.mem_append_left _ hb) hh
    · exact .step hr hb hh
  · rcases List.mem_append.1 hb with hb | hb
    · exact key c (h.cl b hb c hc hh)
    · rw [List.mem_singleton.1 hb] at hc
      exact .inr (List.mem_append_right _ hc)
theorem Going.done (h : Going L roots R met []) (a : Int) : a ∈ met ↔ Reach L roots R a := by
  refine ⟨h.re a, fun hr => ?_⟩
  induction hr with
  | root h1 h2 =>
    rcases h.ro _ h1 h2 with h | h
    · exact h
    · cases h
  | step h1 h2 h3 ih =>
    rcases h.cl _ ih _ h2 h3 with h | h
    · exact h
    · cases h
end

theorem nodup_len : ∀ {l m : List Int}, l.Nodup → (∀ a ∈ l, a ∈ m) → l.length ≤ m.length
  | [], _, _, _ => Nat.zero_le _
  | a :: l, m, h, hm => by
    have ha : a ∈ m := hm a (by simp)
    have h2 := List.nodup_cons.1 h
    have := nodup_len (m := m.erase a) h2.2 (fun b hb => (List.mem_erase_of_ne (fun e => h2.1 (by rw [← e]; exact hb))).2 (hm b (by simp [hb])))
    rw [List.length_erase_of_mem ha] at this
    have hp : 0 < m.length := List.length_pos_of_mem ha
    simp only [List.length_cons]
    omega
theorem has_mem {L : List Ob} {a : Int} : has L a = true ↔ a ∈ L.map (fun o => (o.at' : Int)) := by
  unfold has arFind
  rw [List.find?_isSome, List.mem_map]
  simp
theorem met_len {L : List Ob} {met : List Int} (hn : met.Nodup) (hh : ∀ a ∈ met, has L a = true) : met.length ≤ L.length := by
  have := nodup_len hn (fun a ha => has_mem.1 (hh a ha))
  rwa [List.length_map] at this

/-- what is left behind a sweep of the first k objects -/
def swept (met : List Int) (L : List Ob) (k : Nat) : List Ob := (L.take k).filter (fun o => met.contains (o.at' : Int)) ++ L.drop k
def kept (met : List Int) (L : List Ob) : List Ob := L.filter (fun o => met.contains (o.at' : Int))
theorem swept_zero (met : List Int) (L : List Ob) : swept met L 0 = L := rfl
theorem swept_all (met : List Int) (L : List Ob) : swept met L L.length = kept met L := by
  unfold swept kept
  rw [List.take_length, List.drop_length, List.append_nil]
theorem Rise.neq {n a : Nat} {L : List Ob} (h : Rise n a L) : L.Pairwise (fun o q => (o.at' : Int) < (q.at' : Int)) := by
  have := Rise.sorted h
  rwa [List.pairwise_map] at this
theorem take_drop_succ {L : List Ob} {k : Nat} (hk : k < L.length) : L.take (k + 1) = L.take k ++ [L[k]] ∧ L.drop k = L[k] :: L.drop (k + 1) :=
  ⟨List.take_succ_eq_append_getElem hk, (List.getElem_cons_drop hk).symm⟩
theorem swept_keep {met : List Int} {L : List Ob} {k : Nat} (hk : k < L.length) (hm : met.contains ((L[k].at' : Nat) : Int) = true) : swept met L (k + 1) = swept met L k := by
  obtain ⟨e1, e2⟩ := take_drop_succ hk
  unfold swept
  have e4 : [L[k]].filter (fun o => met.contains (o.at' : Int)) = [L[k]] := by rw [List.filter_cons_of_pos (by exact hm)]; rfl
  rw [e1, e2, List.filter_append, e4, List.append_assoc]
  rfl
theorem swept_drop {n a : Nat} {met : List Int} {L : List Ob} {k : Nat} (h : Rise n a L) (hk : k < L.length) (hm : met.contains ((L[k].at' : Nat) : Int) = false) :
    relL (swept met L k) ((L[k].at' : Nat) : Int) = swept met L (k + 1) := by
  obtain ⟨e1, e2⟩ := take_drop_succ hk
  have hs := h.neq
  have e3 : L = L.take k ++ (L[k] :: L.drop (k + 1)) := by rw [← e2, List.take_append_drop]
  have hs2 := e3 ▸ hs
  rw [List.pairwise_append, List.pairwise_cons] at hs2
  obtain ⟨_, ⟨s1, _⟩, s3⟩ := hs2
  have hx : has (swept met L k) ((L[k].at' : Nat) : Int) = true := by
    rw [has_mem, List.mem_map]
    refine ⟨L[k], ?_, rfl⟩
    unfold swept
    exact List.mem_append_right _ (by rw [e2]; exact List.mem_cons_self)
  unfold relL
  rw [hx, if_pos rfl]
  unfold arDrop swept
  have d1 : ∀ q ∈ (L.take k).filter (fun o => met.contains (o.at' : Int)), (!decide ((q.at' : Int) = ((L[k].at' : Nat) : Int))) = true := by
    intro q hq
    have := s3 q (List.mem_filter.1 hq).1 L[k] List.mem_cons_self
    simp only [Bool.not_eq_true', decide_eq_false_iff_not]
    omega
  have d2 : ∀ q ∈ L.drop (k + 1), (!decide ((q.at' : Int) = ((L[k].at' : Nat) : Int))) = true := by
    intro q hq
    have := s1 q hq
    simp only [Bool.not_eq_true', decide_eq_false_iff_not]
    omega
  have e4 : [L[k]].filter (fun o => met.contains (o.at' : Int)) = [] := by rw [List.filter_cons_of_neg (by rw [hm]; exact Bool.false_ne_true)]; rfl
  have e5 : (L[k] :: L.drop (k + 1)).filter (fun q => !decide ((q.at' : Int) = ((L[k].at' : Nat) : Int))) = (L.drop (k + 1)).filter (fun q => !decide ((q.at' : Int) = ((L[k].at' : Nat) : Int))) := List.filter_cons_of_neg (by simp)
  rw [e1, e2, List.filter_append, List.filter_append (l₁ := L.take k), e4, e5, List.filter_eq_self.2 d1, List.filter_eq_self.2 d2, List.append_nil]
/-- how many of the first k objects are not met -/
def unmet (met : List Int) (L : List Ob) (k : Nat) : Nat := (L.take k).countP (fun o => !met.contains (o.at' : Int))
theorem unmet_succ {met : List Int} {L : List Ob} {k : Nat} (hk : k < L.length) : unmet met L (k + 1) = unmet met L k + if met.contains ((L[k].at' : Nat) : Int) then 0 else 1 := by
  unfold unmet
  rw [(take_drop_succ hk).1, List.countP_append, List.countP_cons, List.countP_nil]
  cases met.contains ((L[k].at' : Nat) : Int) <;> simp
theorem unmet_le (met : List Int) (L : List Ob) (k : Nat) : unmet met L k ≤ L.length := by
  unfold unmet
  refine Nat.le_trans List.countP_le_length ?_
  rw [List.length_take]; omega
theorem unmet_kept (met : List Int) (L : List Ob) : unmet met L L.length + (kept met L).length = L.length := by
  unfold unmet kept
  rw [List.take_length]
  induction L with
  | nil => rfl
  | cons o r ih =>
    rw [List.countP_cons, List.filter_cons]
    cases hc : met.contains (o.at' : Int) with
    | true => rw [if_neg (by simp), if_pos rfl, List.length_cons, List.length_cons]; omega
    | false => rw [if_pos (by simp), if_neg (by simp), List.length_cons]; omega
theorem kept_congr {met met' : List Int} {L : List Ob} (h : ∀ o ∈ L, ((o.at' : Int) ∈ met ↔ (o.at' : Int) ∈ met')) : kept met L = kept met' L := by
  unfold kept
  refine List.filter_congr (fun o ho => ?_)
  rw [Bool.eq_iff_iff, List.contains_iff_mem, List.contains_iff_mem]
  exact h o ho

end Go.Proofs.Ytgakkkifohkikaa
