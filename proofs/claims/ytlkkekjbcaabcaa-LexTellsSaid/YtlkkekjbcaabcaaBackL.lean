/-
  LexBack: the law of the reader that the walk asks. No program in sight.
-/
import Derived.Test.YtlkkekjbcaabcaaBackP
namespace Go.Proofs.Ytlkkekjbcaabcaa

theorem err_of (l : List UInt8) : ∀ (f a : Nat), a ≤ l.length → (lexR f a (l.drop a)).2.2 ≠ 0 → (lexR f a (l.drop a)).1 = [] ∧ ∃ q : Nat, (lexR f a (l.drop a)).2.1 = q ∧ q < l.length := by
  intro f
  induction f with
  | zero => intro a h1 he; simp [lexR] at he
  | succ f ih =>
    intro a h1 he
    have hble := blankLen_le (l.drop a)
    rw [List.length_drop] at hble
    obtain ⟨b, hb⟩ : ∃ b, b = blankLen (l.drop a) := ⟨_, rfl⟩
    rw [← hb] at hble
    by_cases hd : (l.drop a).drop (blankLen (l.drop a)) = []
    · rw [lexR_end hd] at he; simp at he
    · have hlt : a + b < l.length := by
        rw [← hb, List.drop_drop, List.drop_eq_nil_iff] at hd; omega
      obtain ⟨⟨t, e⟩, ht⟩ : ∃ r, r = tokenOf ((l.drop a).drop (blankLen (l.drop a))) := ⟨_, rfl⟩
      by_cases he0 : e = 0
      · subst he0
        have htl := tokenOf_len hd (by rw [← ht])
        rw [← ht] at htl
        simp only [] at htl
        unfold lexR at he ⊢
        rw [if_neg hd, ← ht] at he ⊢
        simp only [ne_eq, not_true_eq_false, if_false] at he ⊢
        rw [← hb, List.drop_drop] at htl
        rw [List.length_drop] at htl
        rw [← hb, List.drop_drop, List.drop_drop, ← Nat.add_assoc] at he ⊢
        by_cases hz : (lexR f (a + b + t.text.length) (l.drop (a + b + t.text.length))).2.2 = 0
        · rw [if_neg (by rw [hz]; simp)] at he; simp at he
        · rw [if_pos hz]
          exact ⟨rfl, (ih (a + b + t.text.length) (by omega) hz).2⟩
      · rw [lexR_err hd (by rw [← ht]) he0, ← hb]
        exact ⟨rfl, a + b, rfl, hlt⟩
theorem shown_init {init : List Tok} (h : ∀ t ∈ init, Good t) (n : Int) : shown (init ++ [endTok n]) = init.map Tok.text := by
  unfold shown
  rw [List.filter_append, List.map_append]
  have h1 : init.filter (fun t => decide (t.kind ≠ 6)) = init := List.filter_eq_self.2 (fun t ht => by simpa using (h t ht).kind)
  have h2 : [endTok n].filter (fun t => decide (t.kind ≠ 6)) = [] := by simp [endTok]
  rw [h1, h2, List.map_nil, List.append_nil]
theorem join_sum (xs : List (List UInt8)) : (Lib.join xs [32]).length ≤ (xs.map (fun x => x.length + 1)).sum := by
  have ht : ∀ r : List (List UInt8), (Lib.joinTail [32] r).length = (r.map (fun x => x.length + 1)).sum := by
    intro r
    unfold Lib.joinTail
    induction r with
    | nil => rfl
    | cons x r ih =>
      simp only [List.map_cons, List.flatten_cons, List.length_append, List.sum_cons, List.length_cons, List.length_nil, ih]
      omega
  cases xs with
  | nil => simp [Lib.join, List.intercalate]
  | cons x r =>
    rw [Lib.join_cons, List.length_append, ht, List.map_cons, List.sum_cons]
    omega
theorem lexAll_small {l : List UInt8} (h : l.length ≤ 8000) : lexAll l = lexR (l.length + 1) 0 l := by unfold lexAll; rw [if_neg (by omega)]
structure Back (l : List UInt8) (ts : List Tok) (us : List Tok × Int × Int) : Prop where
  read : Read l 0 ts
  short : (printOf ts).length ≤ 8000
  all : us = lexAll (printOf ts)
  no : noAt ts = noAt us.1
  ok : us.2.2 = 0
theorem back_law {l : List UInt8} (hl : l.length ≤ 3000) (h : (lexAll l).2.2 = 0) : Back l (lexAll l).1 (lexAll (printOf (lexAll l).1)) := by
  have e0 : lexAll l = lexR (l.length + 1) 0 (l.drop 0) := by unfold lexAll; rw [if_neg (by omega), List.drop_zero]
  have hr : Read l 0 (lexAll l).1 := by
    rw [e0] at h ⊢
    exact read_of l (l.length + 1) 0 (by omega) (by omega) h
  obtain ⟨init, k1, k2, k3⟩ := hr.ex
  have hp : printOf (lexAll l).1 = Lib.join (init.map Tok.text) [32] := by
    unfold printOf; rw [k1, shown_init k2]
  have hs : (printOf (lexAll l).1).length ≤ 8000 := by
    rw [hp]
    have := join_sum (init.map Tok.text)
    rw [List.map_map] at this
    have e : ((fun x : List UInt8 => x.length + 1) ∘ Tok.text) = fun t : Tok => t.text.length + 1 := rfl
    rw [e] at this
    omega
  have ha := again_of init k2 ((Lib.join (init.map Tok.text) [32]).length + 1) 0 [] Skip.nil (by simp)
  rw [List.nil_append, ← hp] at ha
  have e1 := lexAll_small hs
  rw [← e1] at ha
  refine ⟨hr, hs, rfl, ?_, ha.2⟩
  rw [ha.1]
  conv => lhs; rw [k1]
  simp [noAt, endTok]
theorem placed_get {l : List UInt8} : ∀ (ts : List Tok) (p : Nat), Placed l p ts → ∀ i t t', ts[i]? = some t → ts[i + 1]? = some t' →
    ∃ q q' : Nat, t.at' = (q : Int) ∧ t'.at' = (q' : Int) ∧ q + t.text.length ≤ l.length ∧ (l.drop q).take t.text.length = t.text ∧ q + t.text.length ≤ q' := by
  intro ts
  induction ts with
  | nil => intro p _ i t t' h; simp at h
  | cons u r ih =>
    intro p hp i t t' h h'
    obtain ⟨q, e1, e2, e3, e4, e5⟩ := hp
    cases i with
    | zero =>
      simp only [List.getElem?_cons_zero, Option.some.injEq] at h
      subst h
      cases r with
      | nil => simp at h'
      | cons v r =>
        simp only [Nat.zero_add, List.getElem?_cons_succ, List.getElem?_cons_zero, Option.some.injEq] at h'
        subst h'
        obtain ⟨q', g1, g2, _⟩ := e5
        exact ⟨q, q', e1, g1, e3, e4, g2⟩
    | succ i =>
      simp only [List.getElem?_cons_succ] at h h'
      exact ih _ e5 i t t' h h'

end Go.Proofs.Ytlkkekjbcaabcaa
