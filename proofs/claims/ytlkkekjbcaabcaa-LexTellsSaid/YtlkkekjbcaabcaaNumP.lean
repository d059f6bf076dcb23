/-
  LexNumbers: what the reader tells of a blank, digits, and a letter or none. No program in sight.
-/
import Derived.Test.YtlkkekjbcaabcaaLexP
import Derived.Test.YtlkkekjbcaabcaaDec
namespace Go.Proofs.Ytlkkekjbcaabcaa
open Go.RowKit

theorem runLen_prefix {p : UInt8 → Bool} (d t : List UInt8) (hd : ∀ b ∈ d, p b = true) (ht : t = [] ∨ ∃ x r, t = x :: r ∧ p x = false) : runLen p (d ++ t) = d.length := by
  unfold runLen
  induction d with
  | nil =>
    rcases ht with rfl | ⟨x, r, rfl, hx⟩
    · rfl
    · rw [List.nil_append, List.takeWhile_cons_of_neg (by simp [hx])]
  | cons y r ih =>
    rw [List.cons_append, List.takeWhile_cons_of_pos (hd y (by simp)), List.length_cons, ih (fun b hb => hd b (by simp [hb]))]
    rfl
theorem digit_not_blank {b : UInt8} (h : isDigit b = true) : isBlank b = false ∧ b.toNat ≠ 47 := by
  unfold isDigit at h
  unfold isBlank
  simp only [Bool.and_eq_true, decide_eq_true_eq] at h
  constructor
  · simp; omega
  · omega
theorem blankLen_one {d t : List UInt8} (hd : ∀ b ∈ d, isDigit b = true) (h1 : 1 ≤ d.length) : blankLen (32 :: (d ++ t)) = 1 := by
  cases d with
  | nil => simp at h1
  | cons x r =>
    obtain ⟨k1, k2⟩ := digit_not_blank (hd x (by simp))
    have hrun : ∀ l : List UInt8, runLen isBlank (x :: l) = 0 := fun l => by unfold runLen; rw [List.takeWhile_cons_of_neg (by simp [k1])]; rfl
    have hrun1 : runLen isBlank (32 :: (x :: r ++ t)) = 1 := by
      unfold runLen
      rw [List.takeWhile_cons_of_pos (by rfl), List.cons_append, List.takeWhile_cons_of_neg (by simp [k1])]
      rfl
    have hx47 : (x == 47) = false := by
      rw [beq_eq_false_iff_ne]
      intro e; subst e; exact k2 rfl
    have hnote : ∀ l : List UInt8, notes (x :: l) = false := fun l => by
      unfold notes Lib.hasPrefix
      have : ((47 : UInt8) == x) = false := by rw [beq_eq_false_iff_ne]; intro e; subst e; exact k2 rfl
      simp [List.isPrefixOf, this]
    have hs1 : blankStep (32 :: (x :: r ++ t)) = 1 := by
      unfold blankStep
      simp only [hrun1]
      rw [if_neg]
      simp only [List.drop_succ_cons, List.drop_zero, List.cons_append]
      rw [hnote]; simp
    have hs0 : blankStep (x :: (r ++ t)) = 0 := by
      unfold blankStep
      simp only [hrun, List.drop_zero, hnote]
      rfl
    rw [blankLen_eq, hs1, if_neg (by omega)]
    simp only [List.drop_succ_cons, List.drop_zero, List.cons_append]
    rw [blankLen_eq, hs0, if_pos rfl]
theorem blankLen_nil : blankLen [] = 0 := by decide
/-- digits and what stands behind them, as one token -/
theorem lex_one (d t : List UInt8) (hd : ∀ b ∈ d, isDigit b = true) (h1 : 1 ≤ d.length) (hlen : (32 :: (d ++ t)).length ≤ 8000) :
    lexAll (32 :: (d ++ t)) = if (numTok (d ++ t)).2 ≠ 0 then ([], 1, (numTok (d ++ t)).2) else
      behind [{ (numTok (d ++ t)).1 with at' := 1 }] (lexR ((d ++ t).length + 1) (1 + (numTok (d ++ t)).1.text.length) ((d ++ t).drop (numTok (d ++ t)).1.text.length)) := by
  have hb := blankLen_one (t := t) hd h1
  have hdr : (32 :: (d ++ t)).drop (blankLen (32 :: (d ++ t))) = d ++ t := by rw [hb]; rfl
  have hne : (32 :: (d ++ t)).drop (blankLen (32 :: (d ++ t))) ≠ [] := by
    rw [hdr]; cases d with | nil => simp at h1 | cons => simp
  have htok : tokenOf (d ++ t) = numTok (d ++ t) := by
    unfold tokenOf
    rw [if_pos]
    cases d with
    | nil => simp at h1
    | cons x r => simpa using hd x (by simp)
  rw [← behind_lexAll _ (by omega)]
  by_cases he : (numTok (d ++ t)).2 = 0
  · rw [if_neg (by simp [he])]
    have := lexR_step (f := (32 :: (d ++ t)).length) (a := 0) (l := 32 :: (d ++ t)) [] hne (t := (numTok (d ++ t)).1) (by rw [hdr, htok]; exact Prod.ext rfl he)
    rw [this, hdr, hb]
    simp only [List.nil_append, Nat.zero_add, List.length_cons]
    rfl
  · rw [if_pos he, lexR_err hne (by rw [hdr, htok]) he, hb]
    unfold behind
    rw [if_pos he]
    rfl

/-- one token that is all the text -/
theorem lex_whole {d t : List UInt8} {k i : Int} {re im : Nat} (hd : ∀ b ∈ d, isDigit b = true) (h1 : 1 ≤ d.length) (hlen : (32 :: (d ++ t)).length ≤ 8000) (h : numTok (d ++ t) = (⟨k, 0, d ++ t, i, re, im⟩, 0)) :
    lexAll (32 :: (d ++ t)) = ([⟨k, 1, d ++ t, i, re, im⟩, endTok (1 + (d ++ t).length : Nat)], 0, 0) := by
  rw [lex_one d t hd h1 hlen, h, if_neg (by simp)]
  simp only [List.drop_length]
  rw [lexR_end (by simp)]
  rw [blankLen_nil]
  unfold behind
  rfl
theorem numTok_int {d : List UInt8} (hd : ∀ b ∈ d, isDigit b = true) (h18 : d.length ≤ 18) : numTok d = (⟨3, 0, d, digits d, 0, 0⟩, 0) := by
  have hr : runLen isDigit d = d.length := by have := runLen_prefix d [] hd (.inl rfl); rwa [List.append_nil] at this
  unfold numTok
  simp only [hr]
  have hci : isCI d d.length = false := by unfold isCI; simp
  have hrn : restName d d.length = false := by unfold restName; simp
  rw [if_neg (by omega), hci, hrn, List.take_length]
  rfl
theorem numTok_big {d t : List UInt8} (hd : ∀ b ∈ d, isDigit b = true) (ht : t = [] ∨ ∃ x r, t = x :: r ∧ isDigit x = false) (h18 : 18 < d.length) : numTok (d ++ t) = (.zero, 32) := by
  have hr := runLen_prefix d t hd ht
  unfold numTok
  simp only [hr]
  rw [if_pos h18]
theorem numTok_big15 {d : List UInt8} {c : UInt8} (hc : c = 99 ∨ c = 105) (hd : ∀ b ∈ d, isDigit b = true) (h15 : 15 < d.length) : numTok (d ++ [c]) = (.zero, 32) := by
  have hcd : isDigit c = false := by rcases hc with rfl | rfl <;> rfl
  have hr := runLen_prefix d [c] hd (.inr ⟨c, [], rfl, hcd⟩)
  unfold numTok
  simp only [hr]
  by_cases h : 18 < d.length
  · rw [if_pos h]
  · rw [if_neg h, if_pos, if_pos h15]
    unfold isCI
    rcases hc with rfl | rfl <;> simp
theorem numTok_cplx {d : List UInt8} {c : UInt8} (hc : c = 99 ∨ c = 105) (hd : ∀ b ∈ d, isDigit b = true) (h15 : d.length ≤ 15) : numTok (d ++ [c]) = (if c = 105 then ⟨4, 0, d ++ [c], 0, 0, fl (digits d)⟩ else ⟨4, 0, d ++ [c], 0, fl (digits d), 0⟩, 0) := by
  have hcd : isDigit c = false := by rcases hc with rfl | rfl <;> rfl
  have hr := runLen_prefix d [c] hd (.inr ⟨c, [], rfl, hcd⟩)
  unfold numTok
  simp only [hr]
  have hci : isCI (d ++ [c]) d.length = true := by unfold isCI; rcases hc with rfl | rfl <;> simp
  have hrn : restName (d ++ [c]) (d.length + 1) = false := by unfold restName; simp
  rw [if_neg (by omega), hci, if_pos rfl, if_neg (by omega), hrn, if_neg (by simp)]
  have e1 : (d ++ [c]).getD d.length 0 = c := by simp [List.getD]
  have e2 : (d ++ [c]).take (d.length + 1) = d ++ [c] := List.take_of_length_le (by simp)
  have e3 : (d ++ [c]).take d.length = d := by simp
  rw [e1, e2, e3]
  split <;> rfl
theorem numTok_x {d : List UInt8} (hd : ∀ b ∈ d, isDigit b = true) (h18 : d.length ≤ 18) : numTok (d ++ [120]) = (.zero, 180) := by
  have hr := runLen_prefix d [120] hd (.inr ⟨120, [], rfl, rfl⟩)
  unfold numTok
  simp only [hr]
  have hci : isCI (d ++ [120]) d.length = false := by unfold isCI; simp
  have hrn : restName (d ++ [120]) d.length = true := by unfold restName; simp; rfl
  rw [if_neg (by omega), hci, if_neg (by simp), hrn, if_pos rfl]
/-- noughts ahead of a number -/
theorem zeros_digits (z : Nat) (d : List UInt8) (hd : ∀ b ∈ d, isDigit b = true) : (∀ b ∈ List.replicate z 48 ++ d, isDigit b = true) ∧ digits (List.replicate z 48 ++ d) = digits d := by
  constructor
  · intro b hb
    rcases List.mem_append.1 hb with h | h
    · rw [(List.mem_replicate.1 h).2]; rfl
    · exact hd b h
  · induction z with
    | zero => rfl
    | succ z ih =>
      rw [List.replicate_succ, List.cons_append]
      rw [← ih]
      unfold digits
      rw [List.foldl_cons]
      rfl
theorem order_same (d : Ieee.Datum) (hd : d.isNaN = false) : d.order d = some .eq := by
  cases d with
  | number s m e => simp [Ieee.Datum.order, Std.ReflCmp.compare_self]
  | infinity s => simp [Ieee.Datum.order, Std.ReflCmp.compare_self]
  | nan s t => simp [Ieee.Datum.isNaN] at hd
theorem read_number (f : Ieee.Format) (x : Nat) (h1 : x ≤ f.infRung) (h2 : f.infRung < f.signWeight) : (f.read x).isNaN = false := by
  have hm : x % f.signWeight = x := Nat.mod_eq_of_lt (by omega)
  unfold Ieee.Format.read
  simp only [hm]
  split
  · rfl
  split
  · rfl
  split
  · rfl
  · omega
theorem nearest_le (f : Ieee.Format) (mag : Nat) (place : Int) : f.nearest false mag place ≤ f.infRung := by
  unfold Ieee.Format.nearest Ieee.Format.word
  simp only [Bool.false_eq_true, if_false]
  split
  · exact Nat.zero_le _
  · exact Nat.min_le_right _ _
theorem double_lt : Ieee.double.infRung < Ieee.double.signWeight := by decide +kernel
/-- a float of a whole number is none of the NaNs -/
theorem order_nearest (n : Int) (h : 0 ≤ n) : FloatKind.f64.format.order (fl n) (fl n) = some Ordering.eq := by
  have hn : decide (n < 0) = false := by simp; omega
  have e : fl n = Ieee.double.nearest false n.natAbs 0 := by
    unfold fl floatOfInt FloatKind.nearest FloatKind.encode Ieee.Format.write
    rw [hn]
    rfl
  have hx := nearest_le Ieee.double n.natAbs 0
  rw [← e] at hx
  generalize fl n = x at hx
  exact order_same _ (read_number Ieee.double x hx double_lt)

end Go.Proofs.Ytlkkekjbcaabcaa
