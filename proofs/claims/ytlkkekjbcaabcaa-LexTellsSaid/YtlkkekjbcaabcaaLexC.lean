/-
  Package lex: signs; keywords.
-/
import Derived.Test.YtlkkekjbcaabcaaLexB
namespace Go.Proofs.Ytlkkekjbcaabcaa
open Go.RowKit

def signs : List UInt8 := [123, 125, 40, 41, 91, 93, 59, 44, 46, 61, 60, 43, 45, 42, 47, 37, 126]
def signOf (l : List UInt8) : List UInt8 :=
  if Lib.hasPrefix l [61, 61] then [61, 61] else if Lib.hasPrefix l [33, 61] then [33, 61] else if signs.contains (l.getD 0 0) then l.take 1 else []
def StrPost (w : World) (l : List UInt8) (e : Ending) (w' : World) : Prop := ∃ x : ByteArray, e = .returned (.string x) ∧ x.data.toList = l ∧ w = w'
theorem indexByte_nonneg (l : List UInt8) (c : UInt8) : (decide (0 ≤ Lib.indexByte l c)) = l.contains c ∧ -1 ≤ Lib.indexByte l c := by
  induction l with
  | nil => simp [Lib.indexByte]
  | cons x r ih =>
    unfold Lib.indexByte
    obtain ⟨h1, h2⟩ := ih
    by_cases hx : x = c
    · subst hx; simp
    · have hb : (x == c) = false := by simpa using hx
      have hb2 : (c == x) = false := by simpa using fun e => hx e.symm
      rw [hb, List.contains_cons, hb2, Bool.false_or, ← h1]
      simp only [Bool.false_eq_true, if_false]
      by_cases h : Lib.indexByte r c = -1
      · simp [h]
      · have : (Lib.indexByte r c == -1) = false := by simpa using h
        rw [this]
        simp only [Bool.false_eq_true, if_false]
        constructor
        · congr 1; apply propext; constructor <;> intro _ <;> omega
        · omega
theorem byte_back (b : UInt8) : ((b.toNat : Int).toNat.toUInt8) = b := by simp

set_option maxHeartbeats 1000000 in
theorem sign_any (s : ByteArray) (hs : s.size ≤ 1000000) (h0 : 0 < s.size) (w : World) : Calls Try.prog 35 #[.string s] w (StrPost w (signOf s.data.toList)) := by
  have i0 : ∀ w, (Instr.index 73 (.agg #[.string ⟨#[61, 61]⟩, .string ⟨#[33, 61]⟩]) (.int .i64 0)).run Try.prog w = .ok (.string ⟨#[61, 61]⟩) w := fun _ => by kernel_rfl
  have i1 : ∀ w, (Instr.index 73 (.agg #[.string ⟨#[61, 61]⟩, .string ⟨#[33, 61]⟩]) (.int .i64 1)).run Try.prog w = .ok (.string ⟨#[33, 61]⟩) w := fun _ => by kernel_rfl
  go_enter Try.func35, Try.ntmps35
  go_wp2_with fail
  go_loop [6] (fun i => ∃ k : Nat, k ≤ 2 ∧ i = .int .i64 k ∧ Hid ((1 ≤ k → Lib.hasPrefix s.data.toList [61, 61] = false) ∧ (2 ≤ k → Lib.hasPrefix s.data.toList [33, 61] = false))) (fun i => 2 - (intOf i).toNat)
  case atStart => exact ⟨0, by omega, rfl, by omega, by omega⟩
  case round =>
    obtain ⟨k, hk, rfl, hno⟩ := hrel
    obtain rfl | rfl | rfl : k = 0 ∨ k = 1 ∨ k = 2 := by omega
    · go_wp2_with fail
      refine (Try.strings_HasPrefix _ _ _).mono ?_
      rintro e w' ⟨rfl, rfl⟩
      cases hb : Lib.hasPrefix s.data.toList [61, 61] with
      | true =>
        have HB := hid hb
        clear hb
        go_wp2_with fail
        go_ret
        exact ⟨_, rfl, by unfold signOf; rw [if_pos HB.out], rfl⟩
      | false =>
        have HB := hid hb
        clear hb
        go_wp2_with fail
        go_round
        case rel => exact ⟨1, by omega, rfl, fun _ => HB.out, by omega⟩
        case measure => simp [intOf]
    · go_wp2_with fail
      refine (Try.strings_HasPrefix _ _ _).mono ?_
      rintro e w' ⟨rfl, rfl⟩
      cases hb : Lib.hasPrefix s.data.toList [33, 61] with
      | true =>
        have HB := hid hb
        clear hb
        go_wp2_with fail
        go_ret
        exact ⟨_, rfl, by unfold signOf; rw [if_neg (by rw [hno.out.1 (by omega)]; simp), if_pos HB.out], rfl⟩
      | false =>
        have HB := hid hb
        clear hb
        go_wp2_with fail
        go_round
        case rel => exact ⟨2, by omega, rfl, fun _ => hno.out.1 (by omega), fun _ => HB.out⟩
        case measure => simp [intOf]
    · have hget : s[0] = s.data.toList.getD 0 0 := by
        rw [List.getD, List.getElem?_eq_getElem (by rw [len_eq]; exact h0)]
        simp [ByteArray.getElem_eq_getElem_data]
      have HGET := hid hget
      clear hget
      go_wp2_with fail
      rw [HGET.out]
      refine (Try.strings_IndexByte _ _ _).mono ?_
      rintro e w' ⟨rfl, rfl⟩
      rw [byte_back]
      have hi := indexByte_nonneg signs (s.data.toList.getD 0 0)
      have e0 : Lib.indexByte (ByteArray.mk #[123, 125, 40, 41, 91, 93, 59, 44, 46, 61, 60, 43, 45, 42, 47, 37, 126]).data.toList (s.data.toList.getD 0 0) = Lib.indexByte signs (s.data.toList.getD 0 0) := rfl
      rw [e0]
      clear e0
      cases hc : signs.contains (s.data.toList.getD 0 0) with
      | true =>
        rw [hc] at hi
        have HC := hid hc
        clear hc
        generalize Lib.indexByte signs (s.data.toList.getD 0 0) = ix at hi ⊢
        obtain ⟨hi1, hi2⟩ := hi
        go_wp2_with fail
        go_ret
        exact ⟨_, rfl, by rw [ext_take]; unfold signOf; rw [if_neg (by rw [hno.out.1 (by omega)]; simp), if_neg (by rw [hno.out.2 (by omega)]; simp), if_pos HC.out], rfl⟩
      | false =>
        rw [hc] at hi
        have HC := hid hc
        clear hc
        generalize Lib.indexByte signs (s.data.toList.getD 0 0) = ix at hi ⊢
        obtain ⟨hi1, hi2⟩ := hi
        go_wp2_with fail
        go_ret
        exact ⟨_, rfl, by unfold signOf; rw [if_neg (by rw [hno.out.1 (by omega)]; simp), if_neg (by rw [hno.out.2 (by omega)]; simp), if_neg (by rw [HC.out]; simp)], rfl⟩

def words : List (List UInt8) := [[99, 108, 97, 115, 115], [101, 120, 116, 101, 110, 100, 115], [118, 111, 108, 97, 116, 105, 108, 101], [105, 110, 116], [99, 112, 120], [105, 110, 116, 115], [118, 111, 105, 100], [105, 102], [101, 108, 115, 101], [119, 104, 105, 108, 101], [114, 101, 116, 117, 114, 110], [116, 104, 114, 111, 119], [116, 114, 121], [99, 97, 116, 99, 104], [115, 121, 110, 99], [119, 97, 105, 116], [110, 111, 116, 105, 102, 121], [110, 111, 116, 105, 102, 121, 97, 108, 108], [121, 105, 101, 108, 100], [106, 111, 105, 110], [111, 117, 116], [110, 117, 108, 108], [116, 104, 105, 115], [110, 101, 119], [115, 112, 97, 119, 110], [97, 115], [105, 115]]
def isWord (l : List UInt8) : Bool := words.contains l
def wordsB : List ByteArray := words.map (fun l => ⟨l.toArray⟩)
theorem containsS_words (x : ByteArray) : Lib.containsS wordsB x = isWord x.data.toList := by
  rw [Bool.eq_iff_iff, Lib.containsS_iff]
  unfold isWord wordsB
  rw [List.contains_iff_mem, List.mem_map]
  constructor
  · rintro ⟨l, hl, rfl⟩
    exact hl
  · intro h
    exact ⟨_, h, rfl⟩
def WordPost (w : World) (b : Bool) (e : Ending) (w' : World) : Prop := e = .returned (.bool b) ∧ Fr [] w w'
def wordCells : Array Value := (wordsB.map Value.string).toArray
theorem word_cells (w : World) (j : Nat) (hj : j < wordsB.length) : (w.alloc (.cells wordCells 9)).cell? ⟨w.heap.size, 0 + j, none⟩ = some (.string (wordsB.getD j ByteArray.empty)) := by
  rw [Nat.zero_add, cell_of_row _ _ _ _ _ _ (heap_alloc_new w _)]
  unfold wordCells
  rw [List.getElem?_toArray, List.getElem?_map, List.getD, List.getElem?_eq_getElem hj]
  rfl

set_option maxRecDepth 20000 in
set_option maxHeartbeats 1000000 in
theorem word_any (s : ByteArray) (w : World) : Calls Try.prog 11 #[.string s] w (WordPost w (isWord s.data.toList)) := by
  have hc := Try.slices_Contains_string w.heap.size 0 27 27 wordsB s (w.alloc (.cells wordCells 9)) (by decide) (by decide) (word_cells w)
  rw [show wordsB.take 27 = wordsB from rfl, containsS_words] at hc
  have HC := hid hc
  clear hc
  go_enter Try.func11, Try.ntmps11
  go_wp2_with fail
  refine HC.out.mono ?_
  rintro e w' ⟨rfl, rfl⟩
  go_wp2_with fail
  go_ret
  exact ⟨rfl, (Fr.refl _ _).alloc _⟩

end Go.Proofs.Ytlkkekjbcaabcaa
