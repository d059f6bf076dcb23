/-
  The document's tokens: kinds of bytes, keywords, signs.
-/
import Derived.Test.YtlkkekjbcaabcaaLexS
namespace Go.Proofs.Ytlkkekjbcaabcaa
open Go.RowKit

theorem rdigit_any : Tells 22 isDigit := by
  intro b w
  unfold bv isDigit
  generalize b.toNat = n
  by_cases h1 : (48 : Int) ≤ n
  · by_cases h2 : (n : Int) ≤ 57
    · go_enter Try.func22, Try.ntmps22
      go_wp2_with fail
      go_ret
      exact ⟨by simp; omega, rfl⟩
    · go_enter Try.func22, Try.ntmps22
      go_wp2_with fail
      go_ret
      exact ⟨by simp; omega, rfl⟩
  · go_enter Try.func22, Try.ntmps22
    go_wp2_with fail
    go_ret
    exact ⟨by simp; omega, rfl⟩

theorem rblank_any : Tells 20 isBlank := by
  intro b w
  unfold bv isBlank
  generalize b.toNat = n
  by_cases c1 : n = 32
  · subst c1
    go_enter Try.func20, Try.ntmps20
    go_wp2_with fail
    go_ret
    exact ⟨rfl, rfl⟩
  by_cases c2 : n = 9
  · subst c2
    go_enter Try.func20, Try.ntmps20
    go_wp2_with fail
    go_ret
    exact ⟨rfl, rfl⟩
  by_cases c3 : n = 10
  · subst c3
    go_enter Try.func20, Try.ntmps20
    go_wp2_with fail
    go_ret
    exact ⟨rfl, rfl⟩
  by_cases c4 : n = 13
  · subst c4
    go_enter Try.func20, Try.ntmps20
    go_wp2_with fail
    go_ret
    exact ⟨rfl, rfl⟩
  have e1 : ((n : Int) == 32) = false := eqb c1
  have e2 : ((n : Int) == 9) = false := eqb c2
  have e3 : ((n : Int) == 10) = false := eqb c3
  have e4 : ((n : Int) == 13) = false := eqb c4
  have H := hid (And.intro c1 (And.intro c2 (And.intro c3 c4)))
  clear c1 c2 c3 c4
  go_enter Try.func20, Try.ntmps20
  go_wp2_with fail
  go_ret
  obtain ⟨c1, c2, c3, c4⟩ := H.out
  exact ⟨by simp [c1, c2, c3, c4], rfl⟩

def letterB (first : Bool) (b : UInt8) : Bool := isLetter b || (isDigit b && !first)
theorem rletter_any (first : Bool) (b : UInt8) (w : World) : Calls Try.prog 21 #[bv b, .bool first] w (BytePost w (letterB first b)) := by
  unfold bv letterB isLetter isDigit
  generalize b.toNat = n
  by_cases c1 : n = 95
  · subst c1
    go_enter Try.func21, Try.ntmps21
    go_wp2_with fail
    go_ret
    exact ⟨by simp, rfl⟩
  by_cases c2 : n = 36
  · subst c2
    go_enter Try.func21, Try.ntmps21
    go_wp2_with fail
    go_ret
    exact ⟨by simp, rfl⟩
  have e1 : ((n : Int) == 95) = false := eqb c1
  have e2 : ((n : Int) == 36) = false := eqb c2
  have H := hid (And.intro c1 c2)
  clear c1 c2
  by_cases a1 : (97 : Int) ≤ n <;> by_cases a2 : (n : Int) ≤ 122 <;> by_cases a3 : (65 : Int) ≤ n <;> by_cases a4 : (n : Int) ≤ 90 <;> by_cases a5 : (48 : Int) ≤ n <;> by_cases a6 : (n : Int) ≤ 57 <;> first | (exfalso; omega) | skip
  all_goals
    go_enter Try.func21, Try.ntmps21
    go_wp2_with fail
    go_ret
    obtain ⟨c1, c2⟩ := H.out
    exact ⟨by cases first <;> simp <;> omega, rfl⟩

def rwCells : Array Value := #[.string ⟨#[99, 108, 97, 115, 115]⟩, .string ⟨#[101, 120, 116, 101, 110, 100, 115]⟩, .string ⟨#[118, 111, 108, 97, 116, 105, 108, 101]⟩, .string ⟨#[105, 110, 116]⟩, .string ⟨#[99, 112, 120]⟩, .string ⟨#[105, 110, 116, 115]⟩, .string ⟨#[118, 111, 105, 100]⟩, .string ⟨#[105, 102]⟩, .string ⟨#[101, 108, 115, 101]⟩, .string ⟨#[119, 104, 105, 108, 101]⟩, .string ⟨#[114, 101, 116, 117, 114, 110]⟩, .string ⟨#[116, 104, 114, 111, 119]⟩, .string ⟨#[116, 114, 121]⟩, .string ⟨#[99, 97, 116, 99, 104]⟩, .string ⟨#[115, 121, 110, 99]⟩, .string ⟨#[119, 97, 105, 116]⟩, .string ⟨#[110, 111, 116, 105, 102, 121]⟩, .string ⟨#[110, 111, 116, 105, 102, 121, 97, 108, 108]⟩, .string ⟨#[121, 105, 101, 108, 100]⟩, .string ⟨#[106, 111, 105, 110]⟩, .string ⟨#[111, 117, 116]⟩, .string ⟨#[110, 117, 108, 108]⟩, .string ⟨#[116, 104, 105, 115]⟩, .string ⟨#[110, 101, 119]⟩, .string ⟨#[115, 112, 97, 119, 110]⟩, .string ⟨#[97, 115]⟩, .string ⟨#[105, 115]⟩, .string ⟨#[]⟩]
theorem contains_of {l : List UInt8} {k : Nat} (h : k < 27) (he : words.getD k [] = l) : isWord l = true := by
  unfold isWord
  rw [List.contains_iff_mem, ← he]
  have : ∀ k, k < 27 → words.getD k [] ∈ words := by decide +kernel
  exact this k h
theorem not_contains {l : List UInt8} (h : ∀ k, k < 27 → words.getD k [] ≠ l) : isWord l = false := by
  cases hc : isWord l with
  | false => rfl
  | true =>
    unfold isWord at hc
    rw [List.contains_iff_mem] at hc
    obtain ⟨k, hk, e⟩ := List.mem_iff_getElem.1 hc
    have hk27 : k < 27 := hk
    exact absurd (by rw [List.getD, List.getElem?_eq_getElem hk]; exact e) (h k hk27)
theorem rwc (k : Nat) (h : k < 27) : rwCells[k]? = some (.string (bs (words.getD k []))) := by
  obtain rfl | rfl | rfl | rfl | rfl | rfl | rfl | rfl | rfl | rfl | rfl | rfl | rfl | rfl | rfl | rfl | rfl | rfl | rfl | rfl | rfl | rfl | rfl | rfl | rfl | rfl | rfl : k = 0 ∨ k = 1 ∨ k = 2 ∨ k = 3 ∨ k = 4 ∨ k = 5 ∨ k = 6 ∨ k = 7 ∨ k = 8 ∨ k = 9 ∨ k = 10 ∨ k = 11 ∨ k = 12 ∨ k = 13 ∨ k = 14 ∨ k = 15 ∨ k = 16 ∨ k = 17 ∨ k = 18 ∨ k = 19 ∨ k = 20 ∨ k = 21 ∨ k = 22 ∨ k = 23 ∨ k = 24 ∨ k = 25 ∨ k = 26 := by omega
  all_goals rfl
theorem rwCell (w : World) (k : Nat) (h : k < 27) : (w.alloc (.cells rwCells 58)).cell? ⟨w.heap.size, k, none⟩ = some (.string (bs (words.getD k []))) := by
  rw [cell_of_row _ _ _ _ _ _ (heap_alloc_new w _)]
  exact rwc k h

end Go.Proofs.Ytlkkekjbcaabcaa
