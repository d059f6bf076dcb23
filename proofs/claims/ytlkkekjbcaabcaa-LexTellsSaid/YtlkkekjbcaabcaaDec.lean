/-
  A number's digits: loomref1.Print of what is not below nought.
-/
import Derived.Test.YtlkkekjbcaabcaaLexD0
namespace Go.Proofs.Ytlkkekjbcaabcaa
open Go.RowKit

def dg (u : Nat) : UInt8 := (48 + u % 10).toUInt8
def decF : Nat → Nat → List UInt8 → List UInt8
  | 0, _, s => s
  | f + 1, u, s => if u / 10 = 0 then dg u :: s else decF f (u / 10) (dg u :: s)
def dec (n : Nat) : List UInt8 := decF 20 n []
theorem dg_nat (u : Nat) : (dg u).toNat = 48 + u % 10 := by
  unfold dg
  have : 48 + u % 10 < 256 := by omega
  simp [Nat.toUInt8, UInt8.toNat_ofNat']
  omega
theorem dg_digit (u : Nat) : isDigit (dg u) = true := by
  unfold isDigit
  rw [dg_nat]
  simp; omega
/-- all digits, whose number is known -/
theorem decF_spec (f u : Nat) (s : List UInt8) (hs : ∀ b ∈ s, isDigit b = true) (hu : u < 10 ^ f) (hf : 0 < f) : (∀ b ∈ decF f u s, isDigit b = true) ∧ ∃ p, decF f u s = p ++ s ∧ 1 ≤ p.length ∧ digits p = u := by
  induction f generalizing u s with
  | zero => omega
  | succ f ih =>
    have hs' : ∀ b ∈ dg u :: s, isDigit b = true := by
      intro b hb
      rcases List.mem_cons.1 hb with rfl | hb
      · exact dg_digit u
      · exact hs b hb
    unfold decF
    by_cases h : u / 10 = 0
    · rw [if_pos h]
      refine ⟨hs', [dg u], rfl, by simp, ?_⟩
      simp only [digits, List.foldl_cons, List.foldl_nil]
      rw [dg_nat]; omega
    · rw [if_neg h]
      have hf1 : 0 < f := by
        rcases Nat.eq_zero_or_pos f with rfl | h'
        · simp at hu; omega
        · exact h'
      obtain ⟨k1, p, k2, k3, k4⟩ := ih (u / 10) (dg u :: s) hs' (by rw [Nat.pow_succ] at hu; omega) hf1
      refine ⟨k1, p ++ [dg u], by rw [k2]; simp, by simp, ?_⟩
      rw [digits_snoc, k4, dg_nat]; omega
theorem dec_spec (n : Nat) (h : n < 10 ^ 20) : (∀ b ∈ dec n, isDigit b = true) ∧ 1 ≤ (dec n).length ∧ digits (dec n) = n := by
  obtain ⟨h1, p, h2, h3, h4⟩ := decF_spec 20 n [] (by simp) h (by omega)
  refine ⟨h1, ?_, ?_⟩
  · unfold dec; rw [h2]; simpa using h3
  · unfold dec; rw [h2, List.append_nil]; exact h4

theorem conv_one (w : World) (b : UInt8) : (convert 42 9 (.slice (some ⟨w.heap.size, 0, none⟩) 1 1)).run Try.prog (w.alloc (.cells #[.int .u8 b.toNat] 5)) = .ok (.string (bs [b])) (w.alloc (.cells #[.int .u8 b.toNat] 5)) := by
  refine run_convert_bytes_back (w.alloc (.cells #[.int .u8 b.toNat] 5)) _ _ 5 ⟨w.heap.size, 0, none⟩ 1 [b] und_bytes und_u8 und_str (fun j hj => ?_)
  obtain rfl : j = 0 := by simp at hj; omega
  have : (⟨w.heap.size, 0, none⟩ : Addr).add 0 = ⟨w.heap.size, 0, none⟩ := by simp [Addr.add]
  rw [this, cell_of_row _ _ _ _ _ _ (heap_alloc_new w _)]
  rfl
theorem bs_app (a b : List UInt8) : bs a ++ bs b = bs (a ++ b) := by
  apply ByteArray.ext
  simp [bs, ByteArray.data_append]
def TxtPost (w : World) (l : List UInt8) (e : Ending) (w' : World) : Prop := e = .returned (.string (bs l)) ∧ Fr [] w w'

set_option maxRecDepth 20000 in
set_option maxHeartbeats 2000000 in
theorem dec_any (n : Nat) (hn : n < 9223372036854775808) (w : World) : Calls Try.prog 9 #[.int .i64 n] w (TxtPost w (dec n)) := by
  go_enter Try.func9, Try.ntmps9
  go_wp2_with fail
  go_loopw [3, 4] (fun u s wr => ∃ (f m : Nat) (l : List UInt8), u = .int .u64 m ∧ s = .string (bs l) ∧ m ≤ n ∧ Hid (decF (f + 1) m l = dec n ∧ m < 10 ^ (f + 1) ∧ l.length + f ≤ 20 ∧ Fr [] w wr)) (fun u _ _ => (intOf u).toNat)
  case atStart => exact ⟨19, n, [], rfl, rfl, Nat.le_refl _, rfl, by omega, by simp, Fr.refl _ _⟩
  case round =>
    obtain ⟨f, m, l, rfl, rfl, hm, hq⟩ := hrel
    have hcv := conv_one wr (dg m)
    rw [dg_nat, show ((48 + m % 10 : Nat) : Int) = 48 + (m : Int) % 10 by omega] at hcv
    have hbs : (bs l).size = l.length := bs_size l
    have hb1 : (bs [dg m]).size = 1 := bs_size _
    obtain ⟨q1, q2, q3, q4⟩ := hq.out
    have hl20 : l.length ≤ 20 := by omega
    by_cases h : m / 10 = 0
    · have h' : ((m : Int) / 10 == 0) = true := by
        have : (m : Int) / 10 = 0 := by omega
        simpa using this
      have hu : decF (f + 1) m l = dg m :: l := by
        conv => lhs; unfold decF
        rw [if_pos h]
      have HQ1 := hid (show dec n = dg m :: l by rw [← q1, hu])
      clear hu
      have HQ4 := hid q4
      clear q1 q2 q3 q4 hq h
      go_wp2_with fail
      go_ret
      refine ⟨?_, HQ4.out.alloc _⟩
      rw [HQ1.out]
      exact congrArg (fun z => Ending.returned (Value.string z)) (bs_app [dg m] l)
    · have h' : ((m : Int) / 10 == 0) = false := by
        have : ¬ (m : Int) / 10 = 0 := by omega
        simpa using this
      cases f with
      | zero => exact absurd q2 (by simp; omega)
      | succ f =>
        have hu : decF (f + 1 + 1) m l = decF (f + 1) (m / 10) (dg m :: l) := by
          conv => lhs; unfold decF
          rw [if_neg h]
        have HQ1 := hid (show decF (f + 1) (m / 10) (dg m :: l) = dec n by rw [← q1, hu])
        clear hu
        have HQ2 := hid (show m / 10 < 10 ^ (f + 1) by rw [Nat.pow_succ] at q2; omega)
        have HQ4 := hid q4
        have HQ3 := hid q3
        have HH := hid h
        clear q1 q2 q3 q4 hq h
        go_wp2_with fail
        go_roundw
        case rel => exact ⟨f, m / 10, dg m :: l, by go_num, congrArg Value.string (bs_app [dg m] l), by omega, hid ⟨HQ1.out, HQ2.out, by have := HQ3.out; simp only [List.length_cons]; omega, HQ4.out.alloc _⟩⟩
        case measure => have := HH.out; simp [intOf]; omega

end Go.Proofs.Ytlkkekjbcaabcaa
