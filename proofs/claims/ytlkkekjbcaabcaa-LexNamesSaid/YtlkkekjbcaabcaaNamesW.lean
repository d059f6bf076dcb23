/-
  LexNames: the walk.
-/
import Derived.Test.YtlkkekjbcaabcaaLexK
import Derived.Test.YtlkkekjbcaabcaaRowU
namespace Go.Proofs.Ytlkkekjbcaabcaa
open Go.RowKit

def fiveL : List UInt8 := [97, 49, 95, 36, 90]
def nmL (i : Nat) : List UInt8 := (List.range i).map (fun j => fiveL.getD (j % 5) 0)
def wordsL : List (List UInt8) := [[99, 108, 97, 115, 115], [115, 121, 110, 99], [110, 111, 116, 105, 102, 121, 97, 108, 108], [105, 115], [118, 111, 108, 97, 116, 105, 108, 101], [105, 110, 116, 115]]
/-- what All tells of a name, or of a word -/
def nmR (kind : Int) (l : List UInt8) : List Tok × Int × Int := ([⟨kind, 0, l, 0, 0, 0⟩, ⟨6, l.length, [], 0, 0, 0⟩], 0, 0)
theorem nm_short : ∀ i, i < 20 → lexAll (nmL (i + 1)) = nmR 1 (nmL (i + 1)) ∧ isWord (nmL (i + 1)) = false ∧ isWord (nmL (i + 1) ++ [95]) = false := by decide +kernel
theorem nm_long : ∀ i, i < 26 → 20 ≤ i → lexAll (nmL (i + 1)) = ([], 0, 32) := by decide +kernel
theorem nm_word : ∀ i, i < 6 → lexAll (wordsL.getD i []) = nmR 2 (wordsL.getD i []) ∧ isWord (wordsL.getD i []) = true ∧ isWord (wordsL.getD i [] ++ [95]) = false ∧ (wordsL.getD i []).length < 20 := by decide +kernel
theorem nmL_len (i : Nat) : (nmL i).length = i := by simp [nmL]
theorem bs_append (a b : List UInt8) : bs a ++ bs b = bs (a ++ b) := by
  apply ByteArray.ext
  simp [bs, ByteArray.data_append]
theorem nmL_succ (i : Nat) : bs (nmL i) ++ (ByteArray.mk #[97, 49, 95, 36, 90]).extract (i % 5) (i % 5 + 1) = bs (nmL (i + 1)) := by
  have h : (ByteArray.mk #[97, 49, 95, 36, 90]).extract (i % 5) (i % 5 + 1) = bs [fiveL.getD (i % 5) 0] := by
    have : i % 5 < 5 := Nat.mod_lt _ (by omega)
    generalize i % 5 = k at this
    obtain rfl | rfl | rfl | rfl | rfl : k = 0 ∨ k = 1 ∨ k = 2 ∨ k = 3 ∨ k = 4 := by omega
    all_goals rfl
  rw [h, bs_append]
  congr 1
  unfold nmL
  rw [List.range_succ, List.map_append]
  rfl

set_option maxRecDepth 20000 in
set_option maxHeartbeats 4000000 in
theorem names_walk (a0 : Int) (a1 : Bool) (a2 : Int) (W : World) (w0 : (Lit.int .u8 a0).wf = true) (w2 : (Lit.int .u8 a2).wf = true) :
    Calls Try.prog 4 #[.int .u8 a0, .bool a1, .int .u8 a2] W fun e w' => e = .returned (.bool true) ∧ Fr [] W w' := by
  obtain ⟨b0, b1⟩ := u8_bounds w0
  obtain ⟨b2, b3⟩ := u8_bounds w2
  clear w0 w2
  obtain ⟨n, hn, hn26⟩ : ∃ n : Nat, a0 % 26 = (n : Int) ∧ n < 26 := ⟨(a0 % 26).toNat, by omega, by omega⟩
  obtain ⟨q, hq, hq6⟩ : ∃ q : Nat, a2 % 6 = (q : Int) ∧ q < 6 := ⟨(a2 % 6).toNat, by omega, by omega⟩
  have HN := hid hn
  have HQ := hid hq
  clear hn hq
  go_enter Try.func4, Try.ntmps4
  go_wp2_with fail
  refine (known_any W).mono ?_
  rintro e wA ⟨rfl, f0⟩
  have F0 := hid f0
  clear f0
  go_wp2_with fail
  go_loop [7, 8] (fun s i => ∃ k : Nat, k ≤ n + 1 ∧ i = .int .i64 k ∧ s = .string (bs (nmL k))) (fun _ i => n + 1 - (intOf i).toNat)
  case atStart => exact ⟨0, by omega, rfl, rfl⟩
  case round =>
    obtain ⟨k, hk, rfl, rfl⟩ := hrel
    by_cases hlt : k ≤ n
    · have hle : decide ((k : Int) ≤ a0 % 26) = true := by rw [HN.out, decide_eq_true_eq]; omega
      have hle' : (k : Int) ≤ a0 % 26 := by rw [HN.out]; omega
      have hsz : (bs (nmL k)).size = k := by rw [bs_size, nmL_len]
      go_wp2_with fail
      go_round
      case rel => exact ⟨k + 1, by omega, by go_num, congrArg Value.string (nmL_succ k)⟩
      case measure => simp [intOf]; omega
    · obtain rfl : k = n + 1 := by omega
      have hle : decide (((n + 1 : Nat) : Int) ≤ a0 % 26) = false := by rw [HN.out, decide_eq_false_iff_not]; omega
      have hle' : ¬ ((n + 1 : Nat) : Int) ≤ a0 % 26 := by rw [HN.out]; omega
      obtain ⟨vn, hvn⟩ : ∃ vn : Int, vn = ((n + 1 : Nat) : Int) := ⟨_, rfl⟩
      rw [← hvn] at hle hle' ⊢
      have HVN := hid hvn
      clear hvn hk
      cases a1 with
      | false =>
        have hsz : (bs (nmL (n + 1))).size = n + 1 := by rw [bs_size, nmL_len]
        by_cases h20 : 20 ≤ n
        · have hr := nm_long n hn26 h20
          have cA := fun w => all_any (bs (nmL (n + 1))) (by rw [hsz]; omega) w
          simp only [bs_list, hr] at cA
          have CA := hid cA
          have h20' : (20 : Int) ≤ n := by omega
          clear cA hr
          go_wp2_with fail
          refine (CA.out _).mono ?_
          rintro e w1 ⟨v1, rfl, hv1, _, f1⟩
          obtain ⟨av, cv, hv, _, _⟩ := hv1.form
          subst hv
          have F1 := hid ((F0.out.alloc _).tr f1)
          clear hv1 f1
          go_wp2_with fail
          go_ret
          exact ⟨rfl, F1.out⟩
        · obtain ⟨hr1, hr2, hr3⟩ := nm_short n (by omega)
          have cA := fun w => all_any (bs (nmL (n + 1))) (by rw [hsz]; omega) w
          have cW := fun w => word_any (bs (nmL (n + 1))) w
          have cV := fun w => word_any (bs (nmL (n + 1)) ++ bs [95]) w
          rw [bs_append] at cV
          simp only [bs_list, hr1, hr2, hr3] at cA cW cV
          unfold nmR at cA
          have CA := hid cA
          have CW := hid cW
          have CV := hid cV
          have h20' : ¬ (20 : Int) ≤ n := by omega
          clear cA cW cV hr1 hr2 hr3
          go_wp2_with fail
          refine (CA.out _).mono ?_
          rintro e w1 ⟨v1, rfl, hv1, _, f1⟩
          have F1 := hid ((F0.out.alloc _).tr f1)
          obtain h | ⟨b, cap, hv, hc⟩ := hv1.tok
          · exact absurd h (by simp)
          have c0 : w1.cell? ⟨b, 0, none⟩ = some (.int .i64 1) := hc 0 _ rfl 0 _ rfl
          have c2 : w1.cell? ⟨b, 2, none⟩ = some (.string (bs (nmL (n + 1)))) := hc 0 _ rfl 2 _ rfl
          simp only [List.length_cons, List.length_nil, Nat.zero_add] at hv
          subst hv
          clear hc hv1 f1
          go_wp2_with fail
          refine (CW.out _).mono ?_
          rintro e w2 ⟨rfl, f2⟩
          have F2 := hid (F1.out.tr f2)
          clear f2
          go_wp2_with fail
          rw [show bs (nmL (n + 1)) ++ ByteArray.mk #[95] = bs (nmL (n + 1) ++ [95]) from bs_append (nmL (n + 1)) [95]]
          refine (CV.out _).mono ?_
          rintro e w3 ⟨rfl, f3⟩
          have F3 := hid (F2.out.tr f3)
          clear f3
          go_wp2_with fail
          go_ret
          exact ⟨rfl, F3.out⟩
      | true =>
        obtain ⟨hr1, hr2, hr3, hr4⟩ := nm_word q hq6
        have cA := fun w => all_any (bs (wordsL.getD q [])) (by rw [bs_size]; omega) w
        have cW := fun w => word_any (bs (wordsL.getD q [])) w
        have cV := fun w => word_any (bs (wordsL.getD q []) ++ bs [95]) w
        rw [bs_append] at cV
        simp only [bs_list, hr1, hr2, hr3] at cA cW cV
        unfold nmR at cA
        have hsz : (bs (wordsL.getD q [])).size < 20 := by rw [bs_size]; exact hr4
        have CA := hid cA
        have CW := hid cW
        have CV := hid cV
        have hq2 := HQ.out
        have hcell : ∀ w0 : World, (w0.alloc (.cells #[.string ⟨#[99, 108, 97, 115, 115]⟩, .string ⟨#[115, 121, 110, 99]⟩, .string ⟨#[110, 111, 116, 105, 102, 121, 97, 108, 108]⟩, .string ⟨#[105, 115]⟩, .string ⟨#[118, 111, 108, 97, 116, 105, 108, 101]⟩, .string ⟨#[105, 110, 116, 115]⟩] 34)).cell? ⟨w0.heap.size, q, none⟩ = some (.string (bs (wordsL.getD q []))) := by
          intro w0
          rw [cell_of_row _ _ _ _ _ _ (heap_alloc_new w0 _)]
          obtain rfl | rfl | rfl | rfl | rfl | rfl : q = 0 ∨ q = 1 ∨ q = 2 ∨ q = 3 ∨ q = 4 ∨ q = 5 := by omega
          all_goals rfl
        generalize hwl : wordsL.getD q [] = wl at *
        clear cA cW cV hr1 hr2 hr3 hr4 hwl
        go_wp2_with fail
        refine (CA.out _).mono ?_
        rintro e w1 ⟨v1, rfl, hv1, _, f1⟩
        have F1 := hid ((F0.out.alloc _).tr f1)
        obtain h | ⟨b, cap, hv, hc⟩ := hv1.tok
        · exact absurd h (by simp)
        have c0 : w1.cell? ⟨b, 0, none⟩ = some (.int .i64 2) := hc 0 _ rfl 0 _ rfl
        have c2 : w1.cell? ⟨b, 2, none⟩ = some (.string (bs wl)) := hc 0 _ rfl 2 _ rfl
        simp only [List.length_cons, List.length_nil, Nat.zero_add] at hv
        subst hv
        clear hc hv1 f1 hcell
        have hsz2 : ¬ (20 : Int) < (bs wl).size := by omega
        go_wp2_with fail
        refine (CW.out _).mono ?_
        rintro e w2 ⟨rfl, f2⟩
        have F2 := hid (F1.out.tr f2)
        clear f2
        go_wp2_with fail
        rw [show bs wl ++ ByteArray.mk #[95] = bs (wl ++ [95]) from bs_append wl [95]]
        refine (CV.out _).mono ?_
        rintro e w3 ⟨rfl, f3⟩
        have F3 := hid (F2.out.tr f3)
        clear f3
        go_wp2_with fail
        go_ret
        exact ⟨rfl, F3.out⟩

end Go.Proofs.Ytlkkekjbcaabcaa
