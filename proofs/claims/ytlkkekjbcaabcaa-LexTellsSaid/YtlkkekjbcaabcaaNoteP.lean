/-
  LexNotes: blanks and notes between words change places alone. No program in sight.
-/
import Derived.Test.YtlkkekjbcaabcaaLexS
namespace Go.Proofs.Ytlkkekjbcaabcaa

def Skip (s : List UInt8) : Prop := ∀ l, blankLen (s ++ l) = s.length + blankLen l
theorem Skip.nil : Skip [] := fun l => by simp
theorem Skip.app {a b : List UInt8} (ha : Skip a) (hb : Skip b) : Skip (a ++ b) := fun l => by
  rw [List.append_assoc, ha, hb, List.length_append, Nat.add_assoc]
theorem runLen_cons_pos {p : UInt8 → Bool} {c : UInt8} {l : List UInt8} (h : p c = true) : runLen p (c :: l) = runLen p l + 1 := by
  unfold runLen; rw [List.takeWhile_cons_of_pos h]; rfl
theorem runLen_cons_neg {p : UInt8 → Bool} {c : UInt8} {l : List UInt8} (h : p c = false) : runLen p (c :: l) = 0 := by
  unfold runLen; rw [List.takeWhile_cons_of_neg (by simp [h])]; rfl
theorem blank_cons {c : UInt8} (hc : isBlank c = true) : Skip [c] := by
  intro l
  have hs : blankStep (c :: l) = blankStep l + 1 := by
    unfold blankStep
    simp only [runLen_cons_pos hc, List.drop_succ_cons]
    split <;> omega
  show blankLen (c :: l) = _
  rw [blankLen_eq, hs, if_neg (by omega), List.drop_succ_cons]
  by_cases h : blankStep l = 0
  · rw [h]; simp
  · rw [blankLen_eq l, if_neg h]; simp; omega
theorem note_skip (p : List UInt8) (hp : ∀ b ∈ p, noLine b = true) : Skip (47 :: 47 :: (p ++ [10])) := by
  intro l
  have hr : ∀ t : List UInt8, runLen noLine (p ++ 10 :: t) = p.length := by
    intro t
    induction p with
    | nil => exact runLen_cons_neg (by rfl)
    | cons x r ih => rw [List.cons_append, runLen_cons_pos (hp x (by simp)), ih (fun b hb => hp b (by simp [hb]))]; rfl
  have hl : (47 :: 47 :: (p ++ [10])) ++ l = 47 :: 47 :: (p ++ 10 :: l) := by simp
  rw [hl]
  have hb0 : runLen isBlank (47 :: 47 :: (p ++ 10 :: l)) = 0 := runLen_cons_neg (by rfl)
  have hs : blankStep (47 :: 47 :: (p ++ 10 :: l)) = p.length + 2 := by
    unfold blankStep
    simp only [hb0, List.drop_zero]
    rw [if_pos (by rfl), runLen_cons_pos (by rfl), runLen_cons_pos (by rfl), hr]
    omega
  have hd : (47 :: 47 :: (p ++ 10 :: l)).drop (p.length + 2) = 10 :: l := by simp
  have h10 := blank_cons (c := 10) (by rfl) l
  rw [List.singleton_append] at h10
  rw [blankLen_eq, hs, if_neg (by omega), hd, h10]
  simp
  omega
def words8 : List (List UInt8) := [[99, 108, 97, 115, 115], [120], [49, 50], [51, 105], [61, 61], [61], [123], [119, 104, 105, 108, 101]]
def btw5 : List (List UInt8) := [[32], [9, 32, 10], [47, 47, 32, 123, 32, 53, 32, 35, 10], [32, 47, 47, 10, 13], [10, 47, 47, 10]]
theorem skip_btw : ∀ s ∈ btw5, Skip s := by
  intro s hs
  simp only [btw5, List.mem_cons, List.not_mem_nil, or_false] at hs
  rcases hs with rfl | rfl | rfl | rfl | rfl
  · exact blank_cons (by rfl)
  · exact ((blank_cons (c := 9) (by rfl)).app (blank_cons (c := 32) (by rfl))).app (blank_cons (c := 10) (by rfl))
  · exact note_skip [32, 123, 32, 53, 32, 35] (by decide)
  · exact ((blank_cons (c := 32) (by rfl)).app (note_skip [] (by simp))).app (blank_cons (c := 13) (by rfl))
  · exact (blank_cons (c := 10) (by rfl)).app (note_skip [] (by simp))
/-- what may stand behind a word -/
def ends : List UInt8 := [32, 9, 47, 10]
theorem btw_ends : ∀ s ∈ btw5, ∃ c r, s = c :: r ∧ c ∈ ends := by
  intro s hs
  simp only [btw5, List.mem_cons, List.not_mem_nil, or_false] at hs
  rcases hs with rfl | rfl | rfl | rfl | rfl <;> exact ⟨_, _, rfl, by decide⟩
def tokW (w : List UInt8) : Tok := (tokenOf w).1
theorem word_tok : ∀ w ∈ words8, ∀ c ∈ ends, ∀ l, tokenOf (w ++ c :: l) = (tokW w, 0) := by
  intro w hw c hc l
  simp only [words8, List.mem_cons, List.not_mem_nil, or_false] at hw
  simp only [ends, List.mem_cons, List.not_mem_nil, or_false] at hc
  rcases hw with rfl | rfl | rfl | rfl | rfl | rfl | rfl | rfl <;> rcases hc with rfl | rfl | rfl | rfl
  all_goals rfl
theorem word_text : ∀ w ∈ words8, (tokW w).text = w := by decide +kernel
theorem word_blank : ∀ w ∈ words8, ∀ c ∈ ends, ∀ l, blankLen (w ++ c :: l) = 0 := by
  intro w hw c hc l
  have hs : blankStep (w ++ c :: l) = 0 := by
    simp only [words8, List.mem_cons, List.not_mem_nil, or_false] at hw
    rcases hw with rfl | rfl | rfl | rfl | rfl | rfl | rfl | rfl
    all_goals rfl
  rw [blankLen_eq, hs, if_pos rfl]

structure Item where
  pre : List UInt8
  w : List UInt8
  post : List UInt8
def Item.text (i : Item) : List UInt8 := i.pre ++ (i.w ++ i.post)
def Item.ok (i : Item) : Prop := Skip i.pre ∧ i.w ∈ words8 ∧ i.post ∈ btw5
def texts (l : List Item) : List UInt8 := l.flatMap Item.text
theorem lex_items (items : List Item) (hok : ∀ i ∈ items, i.ok) : ∀ (f a : Nat) (s : List UInt8), Skip s → (s ++ texts items).length < f →
    noAt (lexR f a (s ++ texts items)).1 = items.map (fun i => { tokW i.w with at' := 0 }) ++ [endTok 0] ∧ (lexR f a (s ++ texts items)).2.2 = 0 := by
  induction items with
  | nil =>
    intro f a s hs hf
    cases f with
    | zero => omega
    | succ f =>
      have hb : blankLen (s ++ texts []) = s.length := by
        have := hs []
        rw [show blankLen [] = 0 from by decide] at this
        exact this
      rw [lexR_end (by rw [hb]; simp [texts])]
      exact ⟨rfl, rfl⟩
  | cons i r ih =>
    intro f a s hs hf
    obtain ⟨k1, k2, k3⟩ := hok i (by simp)
    obtain ⟨c, t, hct, hc⟩ := btw_ends i.post k3
    have hL : s ++ texts (i :: r) = s ++ (i.pre ++ (i.w ++ c :: (t ++ texts r))) := by
      simp [texts, Item.text, hct]
    have hb : blankLen (s ++ texts (i :: r)) = s.length + i.pre.length := by
      rw [hL, hs, k1, word_blank i.w k2 c hc]; omega
    have hdr : (s ++ texts (i :: r)).drop (blankLen (s ++ texts (i :: r))) = i.w ++ c :: (t ++ texts r) := by
      rw [hb, hL, ← List.append_assoc s, List.drop_left' (by simp)]
    have hne : (s ++ texts (i :: r)).drop (blankLen (s ++ texts (i :: r))) ≠ [] := by rw [hdr]; simp
    have htk := word_tok i.w k2 c hc (t ++ texts r)
    have htx := word_text i.w k2
    cases f with
    | zero => omega
    | succ f =>
      have hdd : (i.w ++ c :: (t ++ texts r)).drop (tokW i.w).text.length = i.post ++ texts r := by
        rw [htx, List.drop_left, hct]; simp
      have hlen : (i.post ++ texts r).length < f := by
        have hh : (s ++ texts (i :: r)).length = s.length + (i.pre.length + (i.w.length + (i.post ++ texts r).length)) := by
          simp [texts, Item.text]
        have hw1 : 1 ≤ i.w.length := by
          have : ∀ w ∈ words8, 1 ≤ w.length := by decide
          exact this i.w k2
        omega
      obtain ⟨h1, h2⟩ := ih (fun j hj => hok j (by simp [hj])) f (a + blankLen (s ++ texts (i :: r)) + (tokW i.w).text.length) i.post (skip_btw _ k3) hlen
      unfold lexR
      rw [if_neg hne, hdr, htk, if_neg (by simp)]
      simp only []
      rw [hdd, if_neg (by rw [h2]; simp)]
      constructor
      · simp only [noAt, List.map_cons] at h1 ⊢
        rw [h1]; rfl
      · rfl
theorem lex_texts {items : List Item} (hok : ∀ i ∈ items, i.ok) (hl : (texts items).length ≤ 8000) :
    noAt (lexAll (texts items)).1 = items.map (fun i => { tokW i.w with at' := 0 }) ++ [endTok 0] ∧ (lexAll (texts items)).2.2 = 0 := by
  unfold lexAll
  rw [if_neg (by omega)]
  have := lex_items items hok ((texts items).length + 1) 0 [] Skip.nil (by simp)
  simpa using this
theorem shown_noAt (ts : List Tok) : shown (noAt ts) = shown ts := by
  unfold shown noAt
  induction ts with
  | nil => rfl
  | cons t r ih =>
    simp only [List.map_cons, List.filter_cons]
    split <;> simp_all
theorem printOf_noAt {ts us : List Tok} (h : noAt ts = noAt us) : printOf ts = printOf us := by
  unfold printOf
  rw [← shown_noAt ts, ← shown_noAt us, h]

end Go.Proofs.Ytlkkekjbcaabcaa
