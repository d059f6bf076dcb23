/-
  Package lex: the plain reader of tokens. No program in sight.
-/
import Derived.Test.YtlkkekjbcaabcaaLexE
namespace Go.Proofs.Ytlkkekjbcaabcaa

def endTok (at0 : Int) : Tok := ⟨6, at0, [], 0, 0, 0⟩
def lexR : Nat → Nat → List UInt8 → List Tok × Int × Int
  | 0, _, _ => ([], 0, 0)
  | f + 1, a, l =>
    if l.drop (blankLen l) = [] then ([endTok (a + blankLen l : Nat)], 0, 0)
    else if (tokenOf (l.drop (blankLen l))).2 ≠ 0 then ([], (a + blankLen l : Nat), (tokenOf (l.drop (blankLen l))).2)
    else
      let t := (tokenOf (l.drop (blankLen l))).1
      let r := lexR f (a + blankLen l + t.text.length) ((l.drop (blankLen l)).drop t.text.length)
      if r.2.2 ≠ 0 then ([], r.2.1, r.2.2) else ({ t with at' := (a + blankLen l : Nat) } :: r.1, 0, 0)
def lexAll (l : List UInt8) : List Tok × Int × Int := if 8000 < l.length then ([], 0, 32) else lexR (l.length + 1) 0 l
def behind (acc : List Tok) (r : List Tok × Int × Int) : List Tok × Int × Int := if r.2.2 ≠ 0 then ([], r.2.1, r.2.2) else (acc ++ r.1, 0, 0)

theorem runLen_pos {p : UInt8 → Bool} {l : List UInt8} (h : l ≠ []) (hp : p (l.getD 0 0) = true) : 1 ≤ runLen p l := by
  cases l with
  | nil => exact absurd rfl h
  | cons x r =>
    unfold runLen
    rw [List.takeWhile_cons_of_pos (by simpa using hp)]
    simp
theorem numTok_len {l : List UInt8} (h : l ≠ []) (hd : isDigit (l.getD 0 0) = true) (he : (numTok l).2 = 0) : 1 ≤ (numTok l).1.text.length ∧ (numTok l).1.text.length ≤ l.length := by
  have h1 := runLen_pos h hd
  have h2 := runLen_le isDigit l
  unfold numTok at he ⊢
  simp only [] at he ⊢
  by_cases c1 : 18 < runLen isDigit l
  · rw [if_pos c1] at he; simp at he
  rw [if_neg c1] at he ⊢
  cases hci : isCI l (runLen isDigit l) with
  | false =>
    rw [hci, if_neg (by simp)] at he
    rw [if_neg (by simp)]
    cases hr : restName l (runLen isDigit l) with
    | true => rw [hr, if_pos rfl] at he; simp at he
    | false =>
      rw [if_neg (by simp)]
      simp only [List.length_take]
      omega
  | true =>
    rw [hci, if_pos rfl] at he
    rw [if_pos rfl]
    by_cases c2 : 15 < runLen isDigit l
    · rw [if_pos c2] at he; simp at he
    rw [if_neg c2] at he ⊢
    have hlt : runLen isDigit l < l.length := by
      unfold isCI at hci
      simp only [Bool.and_eq_true, decide_eq_true_eq] at hci
      exact hci.1
    cases hr : restName l (runLen isDigit l + 1) with
    | true => rw [hr, if_pos rfl] at he; simp at he
    | false =>
      rw [if_neg (by simp)]
      split <;> (simp only [List.length_take]; omega)
theorem signOf_len {l : List UInt8} (h : l ≠ []) : (signOf l).length ≤ l.length := by
  have h2 : ∀ p : List UInt8, Lib.hasPrefix l p = true → p.length ≤ l.length := by
    intro p hp
    unfold Lib.hasPrefix at hp
    exact (List.isPrefixOf_iff_prefix.1 hp).length_le
  have h1 : 1 ≤ l.length := by cases l with | nil => exact absurd rfl h | cons => simp
  unfold signOf
  split
  · next hp => exact h2 _ hp
  split
  · next hp => exact h2 _ hp
  split
  · simp only [List.length_take]; omega
  · simp
theorem tokenOf_len {l : List UInt8} (h : l ≠ []) (he : (tokenOf l).2 = 0) : 1 ≤ (tokenOf l).1.text.length ∧ (tokenOf l).1.text.length ≤ l.length := by
  unfold tokenOf at he ⊢
  cases hd : isDigit (l.getD 0 0) with
  | true =>
    rw [hd, if_pos rfl] at he
    rw [if_pos rfl]
    exact numTok_len h hd he
  | false =>
    rw [hd, if_neg (by simp)] at he
    rw [if_neg (by simp)]
    cases hl : isLetter (l.getD 0 0) with
    | true =>
      rw [hl, if_pos rfl] at he
      rw [if_pos rfl]
      have h1 : 1 ≤ runLen isName l := runLen_pos h (by unfold isName; rw [hl]; rfl)
      have h2 := runLen_le isName l
      by_cases c : 20 < runLen isName l
      · rw [if_pos c] at he; simp at he
      rw [if_neg c]
      simp only [List.length_take]
      omega
    | false =>
      rw [hl, if_neg (by simp)] at he
      rw [if_neg (by simp)]
      by_cases c : signOf l = []
      · rw [if_pos c] at he; simp at he
      rw [if_neg c]
      refine ⟨?_, signOf_len h⟩
      cases hs : signOf l with
      | nil => exact absurd hs c
      | cons => simp

theorem lexR_end {f a : Nat} {l : List UInt8} (h : l.drop (blankLen l) = []) : lexR (f + 1) a l = ([endTok (a + blankLen l : Nat)], 0, 0) := by
  unfold lexR; rw [if_pos h]
theorem lexR_err {f a : Nat} {l : List UInt8} (h : l.drop (blankLen l) ≠ []) {e : Int} (he : (tokenOf (l.drop (blankLen l))).2 = e) (h0 : e ≠ 0) : lexR (f + 1) a l = ([], ((a + blankLen l : Nat) : Int), e) := by
  unfold lexR; rw [if_neg h, he, if_pos h0]
theorem lexR_step {f a : Nat} {l : List UInt8} (acc : List Tok) (h : l.drop (blankLen l) ≠ []) {t : Tok} (ht : tokenOf (l.drop (blankLen l)) = (t, 0)) :
    behind acc (lexR (f + 1) a l) = behind (acc ++ [{ t with at' := (a + blankLen l : Nat) }]) (lexR f (a + blankLen l + t.text.length) ((l.drop (blankLen l)).drop t.text.length)) := by
  conv => lhs; unfold lexR
  rw [if_neg h, ht, if_neg (by simp)]
  simp only []
  generalize lexR f (a + blankLen l + t.text.length) ((l.drop (blankLen l)).drop t.text.length) = r
  unfold behind
  by_cases hr : r.2.2 = 0
  · simp [hr]
  · simp [hr]
theorem behind_nil (r : List Tok × Int × Int) (h : r.2.2 ≠ 0 → r.1 = []) (h2 : r.2.2 = 0 → r.2.1 = 0) : behind [] r = r := by
  unfold behind
  by_cases hr : r.2.2 = 0
  · rw [if_neg (by simp [hr]), List.nil_append]
    obtain ⟨a, b, c⟩ := r
    simp only at hr h2 ⊢
    rw [h2 hr, hr]
  · rw [if_pos hr, ← h hr]
theorem lexR_shape (f a : Nat) (l : List UInt8) : ((lexR f a l).2.2 ≠ 0 → (lexR f a l).1 = []) ∧ ((lexR f a l).2.2 = 0 → (lexR f a l).2.1 = 0) := by
  cases f with
  | zero => simp [lexR]
  | succ f =>
    unfold lexR
    split
    · simp
    split
    · next h => simp [h]
    · simp only []
      split
      · next h => exact ⟨fun _ => rfl, fun h2 => absurd h2 h⟩
      · simp
theorem behind_lexAll (l : List UInt8) (h : ¬ 8000 < l.length) : behind [] (lexR (l.length + 1) 0 l) = lexAll l := by
  unfold lexAll
  rw [if_neg h]
  exact behind_nil _ (lexR_shape _ _ _).1 (lexR_shape _ _ _).2

end Go.Proofs.Ytlkkekjbcaabcaa
