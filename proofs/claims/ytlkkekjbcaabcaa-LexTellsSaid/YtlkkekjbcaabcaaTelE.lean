/-
  The document's tokens: the plain rounds. No program in sight.
-/
import Derived.Test.YtlkkekjbcaabcaaTelD
import Derived.Test.YtlkkekjbcaabcaaNoteP
import Derived.Test.YtlkkekjbcaabcaaLexF
namespace Go.Proofs.Ytlkkekjbcaabcaa
open Go.RowKit

theorem lexR_skip {f a n : Nat} {l : List UInt8} (h : blankLen l = n + blankLen (l.drop n)) : lexR (f + 1) a l = lexR (f + 1) (a + n) (l.drop n) := by
  have h1 : l.drop (blankLen l) = (l.drop n).drop (blankLen (l.drop n)) := by rw [h, List.drop_drop]
  have h2 : a + blankLen l = a + n + blankLen (l.drop n) := by omega
  unfold lexR
  rw [h1, h2]
theorem blank_one {l : List UInt8} (h0 : 0 < l.length) (h : isBlank (l.getD 0 0) = true) : blankLen l = 1 + blankLen (l.drop 1) := by
  cases l with
  | nil => simp at h0
  | cons c r =>
    have := blank_cons (c := c) (by simpa using h) r
    simpa using this
theorem notes_iff {l : List UInt8} : notes l = (decide (1 < l.length) && (l.getD 0 0 == 47) && (l.getD 1 0 == 47)) := by
  match l with
  | [] => rfl
  | [x] => unfold notes Lib.hasPrefix; simp [List.isPrefixOf]
  | x :: y :: r =>
    unfold notes Lib.hasPrefix
    have h1 : (1 < (x :: y :: r).length) := by simp
    rw [decide_eq_true h1, Bool.true_and]
    show ((47 == x) && ((47 == y) && true)) = (x == 47 && y == 47)
    rw [Bool.and_true, Bool.beq_comm (a := 47), Bool.beq_comm (a := 47)]
theorem notes_blank {l : List UInt8} (h : notes l = true) : runLen isBlank l = 0 := by
  rw [notes_iff] at h
  simp only [Bool.and_eq_true, decide_eq_true_eq, beq_iff_eq] at h
  match l, h with
  | x :: y :: r, h =>
    have hx : x = 47 := h.1.2
    subst hx
    exact runLen_cons_neg (by rfl)
theorem notes_pos {l : List UInt8} (h : notes l = true) : 1 ≤ runLen noLine l := by
  rw [notes_iff] at h
  simp only [Bool.and_eq_true, decide_eq_true_eq, beq_iff_eq] at h
  match l, h with
  | x :: y :: r, h =>
    have hx : x = 47 := h.1.2
    subst hx
    rw [runLen_cons_pos (by rfl)]
    omega
theorem note_len {l : List UInt8} (h : notes l = true) : blankLen l = runLen noLine l + blankLen (l.drop (runLen noLine l)) := by
  have hb := notes_blank h
  have hs : blankStep l = runLen noLine l := by
    unfold blankStep
    simp only [hb, List.drop_zero]
    rw [if_pos h]
    omega
  have hp : runLen noLine l ≠ 0 := by
    rw [notes_iff] at h
    simp only [Bool.and_eq_true, decide_eq_true_eq, beq_iff_eq] at h
    match l, h with
    | x :: y :: r, h =>
      have hx : x = 47 := h.1.2
      subst hx
      rw [runLen_cons_pos (by rfl)]
      omega
  rw [blankLen_eq, hs, if_neg hp]
theorem blank_zero {l : List UInt8} (h0 : 0 < l.length) (h : isBlank (l.getD 0 0) = false) (hn : notes l = false) : blankLen l = 0 := by
  have hb : runLen isBlank l = 0 := by
    cases l with
    | nil => rfl
    | cons c r => exact runLen_cons_neg (by simpa using h)
  have hs : blankStep l = 0 := by
    unfold blankStep
    simp only [hb, List.drop_zero]
    rw [hn, if_neg (by simp)]
  rw [blankLen_eq, if_pos hs]
theorem letterB_first (b : UInt8) : letterB true b = isLetter b := by unfold letterB; simp
theorem letter_digit {b : UInt8} (h : isLetter b = true) : isDigit b = false := by
  unfold isLetter at h
  unfold isDigit
  generalize b.toNat = n at *
  simp only [Bool.or_eq_true, Bool.and_eq_true, decide_eq_true_eq, beq_iff_eq] at h
  rw [Bool.eq_false_iff]
  simp only [ne_eq, Bool.and_eq_true, decide_eq_true_eq]
  omega

section
variable {w wr wr' : World} {v v' : Value} {s : ByteArray} {m k : Nat} {acc : List Tok}
theorem FRel.step (h : FRel w wr v s m k acc) {n : Nat} (hb : blankLen (s.data.toList.drop k) = n + blankLen ((s.data.toList.drop k).drop n)) (hle : k + n ≤ s.size) : FRel w wr v s m (k + n) acc :=
  ⟨h.toks, h.bl, h.fr, by rw [h.res, lexR_skip hb, List.drop_drop], hle, by have := h.m; omega, by have := h.al; omega⟩
/-- a token more -/
theorem FRel.tok (h : FRel w wr v s m k acc) {t : Tok} (hne : s.data.toList.drop k ≠ []) (hb : blankLen (s.data.toList.drop k) = 0) (ht : tokenOf (s.data.toList.drop k) = (t, 0)) (hv : Toks wr' v' (acc ++ [{ t with at' := (k : Nat) }])) (hbl : ∀ b ∈ fpv v', w.heap.size ≤ b) (hf : Fr [] w wr') :
    FRel w wr' v' s (m - 1) (k + t.text.length) (acc ++ [{ t with at' := (k : Nat) }]) := by
  have hd : (s.data.toList.drop k).drop (blankLen (s.data.toList.drop k)) = s.data.toList.drop k := by rw [hb]; rfl
  have hlen := tokenOf_len hne (by rw [ht])
  rw [ht] at hlen
  simp only [] at hlen
  rw [List.length_drop, len_eq] at hlen
  have hm := h.m
  have hal := h.al
  have hsz : k < s.size := by
    have : ¬ (s.data.toList.drop k).length = 0 := fun e => hne (List.length_eq_zero_iff.1 e)
    rw [List.length_drop, len_eq] at this
    omega
  refine ⟨hv, hbl, hf, ?_, by omega, by omega, by rw [List.length_append]; simp only [List.length_singleton]; omega⟩
  rw [h.res, lexR_step acc (by rw [hd]; exact hne) (by rw [hd]; exact ht), hd, hb, List.drop_drop, Nat.add_zero]
  congr 2
  omega
theorem FRel.bad (h : FRel w wr v s m k acc) (hne : s.data.toList.drop k ≠ []) (hb : blankLen (s.data.toList.drop k) = 0) {e : Int} (ht : (tokenOf (s.data.toList.drop k)).2 = e) (he : e ≠ 0) : lexAll s.data.toList = ([], (k : Int), e) := by
  have hd : (s.data.toList.drop k).drop (blankLen (s.data.toList.drop k)) = s.data.toList.drop k := by rw [hb]; rfl
  rw [h.res, lexR_err (by rw [hd]; exact hne) (by rw [hd]; exact ht) he, hb]
  unfold behind
  rw [if_pos he]
  rfl
theorem FRel.ends (h : FRel w wr v s m k acc) (hk : k = s.size) : lexAll s.data.toList = (acc ++ [endTok (k : Nat)], 0, 0) := by
  have h0 : s.data.toList.drop k = [] := by rw [List.drop_eq_nil_iff, len_eq]; omega
  have hb : blankLen (s.data.toList.drop k) = 0 := by rw [h0]; rfl
  rw [h.res, lexR_end (by rw [hb, h0]; rfl), hb]
  rfl
end
theorem tokenOf_name {l : List UInt8} (h : isLetter (l.getD 0 0) = true) : tokenOf l = if 20 < runLen isName l then (.zero, 32) else (⟨if isWord (l.take (runLen isName l)) then 2 else 1, 0, l.take (runLen isName l), 0, 0, 0⟩, 0) := by
  unfold tokenOf
  rw [letter_digit h, if_neg (by simp), h, if_pos rfl]
theorem tokenOf_num {l : List UInt8} (h : isDigit (l.getD 0 0) = true) : tokenOf l = numTok l := by
  unfold tokenOf
  rw [h, if_pos rfl]
theorem tokenOf_sign {l : List UInt8} (h : isLetter (l.getD 0 0) = false) (h2 : isDigit (l.getD 0 0) = false) : tokenOf l = if signOf l = [] then (.zero, 180) else (⟨5, 0, signOf l, 0, 0, 0⟩, 0) := by
  unfold tokenOf
  rw [h2, if_neg (by simp), h, if_neg (by simp)]

end Go.Proofs.Ytlkkekjbcaabcaa
