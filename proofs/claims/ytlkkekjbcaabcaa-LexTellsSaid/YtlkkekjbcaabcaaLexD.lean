/-
  Package lex: numbers, all together.
-/
import Derived.Test.YtlkkekjbcaabcaaLexD1
import Derived.Test.YtlkkekjbcaabcaaLexD2
import Derived.Test.YtlkkekjbcaabcaaLexD3
namespace Go.Proofs.Ytlkkekjbcaabcaa
open Go.RowKit

theorem number_any (s : ByteArray) (hs : s.size ≤ 1000000) (w : World) : Calls Try.prog 32 #[.string s] w (TokPost w (numTok s.data.toList)) := by
  by_cases h18 : 18 < runLen isDigit s.data.toList
  · exact number_p s hs w (.inr h18)
  cases hci : isCI s.data.toList (runLen isDigit s.data.toList) with
  | false => exact number_p s hs w (.inl hci)
  | true =>
    unfold isCI at hci
    simp only [Bool.and_eq_true, decide_eq_true_eq, Bool.or_eq_true, beq_iff_eq] at hci
    rw [len_eq] at hci
    obtain ⟨h1, h2 | h2⟩ := hci
    · exact number_c s hs w (by rw [h2]; rfl) h1 (by omega)
    · exact number_i s hs w (by rw [h2]; rfl) h1 (by omega)

end Go.Proofs.Ytlkkekjbcaabcaa
