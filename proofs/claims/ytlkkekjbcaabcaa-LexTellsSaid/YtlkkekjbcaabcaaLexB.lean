/-
  Package lex: blanks and notes.
-/
import Derived.Test.YtlkkekjbcaabcaaLexA
import Derived.Test.YtlkkekjbcaabcaaShelf
namespace Go.Proofs.Ytlkkekjbcaabcaa
open Go.RowKit

theorem ext_drop (s : ByteArray) (a : Nat) : (s.extract a s.size).data.toList = s.data.toList.drop a := by
  rw [Lib.extract_data, List.take_of_length_le]
  rw [List.length_drop, Array.length_toList]
  exact Nat.le_refl _
theorem ext_take (s : ByteArray) (b : Nat) : (s.extract 0 b).data.toList = s.data.toList.take b := by
  rw [Lib.extract_data, List.drop_zero, Nat.sub_zero]
def notes (l : List UInt8) : Bool := Lib.hasPrefix l [47, 47]
def blankStep (l : List UInt8) : Nat := let n := runLen isBlank l; if notes (l.drop n) then n + runLen noLine (l.drop n) else n
def blankF : Nat → List UInt8 → Nat
  | 0, _ => 0
  | f + 1, l => if blankStep l = 0 then 0 else blankStep l + blankF f (l.drop (blankStep l))
def blankLen (l : List UInt8) : Nat := blankF (l.length + 1) l
theorem blankStep_le (l : List UInt8) : blankStep l ≤ l.length := by
  unfold blankStep
  have h1 := runLen_le isBlank l
  have h2 := runLen_le noLine (l.drop (runLen isBlank l))
  rw [List.length_drop] at h2
  simp only []
  split <;> omega
theorem blankF_eq (f g : Nat) (l : List UInt8) (hf : l.length < f) (hg : l.length < g) : blankF f l = blankF g l := by
  induction f generalizing g l with
  | zero => omega
  | succ f ih =>
    cases g with
    | zero => omega
    | succ g =>
      unfold blankF
      by_cases h : blankStep l = 0
      · simp [h]
      · have hl := blankStep_le l
        rw [if_neg h, if_neg h, ih g (l.drop (blankStep l)) (by rw [List.length_drop]; omega) (by rw [List.length_drop]; omega)]
theorem blankLen_eq (l : List UInt8) : blankLen l = if blankStep l = 0 then 0 else blankStep l + blankLen (l.drop (blankStep l)) := by
  have hl := blankStep_le l
  conv => lhs; unfold blankLen blankF
  by_cases h : blankStep l = 0
  · simp [h]
  · rw [if_neg h, if_neg h]
    unfold blankLen
    rw [blankF_eq l.length ((l.drop (blankStep l)).length + 1) _ (by rw [List.length_drop]; omega) (by omega)]
theorem blankLen_le (l : List UInt8) : blankLen l ≤ l.length := by
  obtain ⟨n, hn⟩ : ∃ n, n = l.length := ⟨_, rfl⟩
  induction n using Nat.strongRecOn generalizing l with
  | _ n ih =>
    rw [blankLen_eq]
    have hl := blankStep_le l
    by_cases h : blankStep l = 0
    · simp [h]
    · rw [if_neg h]
      have := ih (l.drop (blankStep l)).length (by rw [List.length_drop]; omega) _ rfl
      rw [List.length_drop] at this
      omega
theorem len_eq (s : ByteArray) : s.data.toList.length = s.size := Array.length_toList
theorem size_ext (s : ByteArray) (a : Nat) : (s.extract a s.size).size = s.size - a := by simp [ByteArray.size_extract]

set_option maxHeartbeats 1000000 in
theorem blank_any (s : ByteArray) (hs : s.size ≤ 1000000) (w : World) : Calls Try.prog 17 #[.string s] w (RunPost w (blankLen s.data.toList)) := by
  go_enter Try.func17, Try.ntmps17
  go_wp2_with fail
  refine wp_scope_L 0 (fun m a' w' => ∃ (k : Nat) (u4 u5 u6 u7 u8 u9 u10 u11 u12 u13 u14 u15 u16 u17 u18 u19 u20 u21 u22 u23 u24 u25 u26 u27 u28 : Value), a' = { tmps := #[.string s, undef, .int .i64 0, .int .i64 k, u4, u5, u6, u7, u8, u9, u10, u11, u12, u13, u14, u15, u16, u17, u18, u19, u20, u21, u22, u23, u24, u25, u26, u27, u28], defers := [] } ∧ k + blankLen (s.data.toList.drop k) = blankLen s.data.toList ∧ k ≤ s.size ∧ m = s.size - k ∧ w = w') rfl ?_ ?_
  · rintro m a' wk ⟨k, u4, u5, u6, u7, u8, u9, u10, u11, u12, u13, u14, u15, u16, u17, u18, u19, u20, u21, u22, u23, u24, u25, u26, u27, u28, rfl, hk, hks, rfl, rfl⟩
    obtain ⟨n1, hn1⟩ : ∃ n, n = runLen isBlank (s.data.toList.drop k) := ⟨_, rfl⟩
    have hl1 := runLen_le isBlank (s.data.toList.drop k)
    rw [← hn1, List.length_drop, len_eq] at hl1
    have c1 := run_any blank1_any (enters_of Try.func28 (by kernel_rfl) rfl) (s.extract k s.size) (by rw [size_ext]; omega)
    rw [ext_drop, ← hn1] at c1
    have C1 := hid c1
    have HK := hid hk
    have HN1 := hid hn1
    clear c1 hk hn1
    go_wp2_with fail
    refine (C1.out _).mono ?_
    rintro e w2 ⟨rfl, rfl⟩
    go_wp2_with fail
    refine (Try.strings_HasPrefix _ _ _).mono ?_
    rintro e w' ⟨rfl, rfl⟩
    rw [ext_drop]
    have hd : s.data.toList.drop (k + n1) = (s.data.toList.drop k).drop n1 := by rw [List.drop_drop]
    have hnn : Lib.hasPrefix (s.data.toList.drop (k + n1)) [47, 47] = notes ((s.data.toList.drop k).drop n1) := by rw [hd]; rfl
    rw [hnn]
    cases hb : notes ((s.data.toList.drop k).drop n1) with
    | false =>
      have hst : blankStep (s.data.toList.drop k) = n1 := by
        unfold blankStep
        simp only []
        rw [← HN1.out, hb]; rfl
      have hbl := blankLen_eq (s.data.toList.drop k)
      rw [hst, List.drop_drop] at hbl
      have HBL := hid hbl
      clear hbl hst hb hnn hd
      by_cases hz : n1 = 0
      · subst hz
        go_wp2_with fail
        simp only [Exit.jump]
        go_ret
        exact ⟨by rw [← HK.out, HBL.out]; simp, rfl⟩
      · have hz2 : decide ((0 : Int) < n1) = true := by rw [decide_eq_true_eq]; omega
        have hz3 : (0 : Int) < n1 := by omega
        have HZ := hid hz
        clear hz
        go_wp2_with fail
        go_step3
        exact ⟨rfl, s.size - (k + n1), by have := HZ.out; omega, k + n1, _, _, _, _, _, _, _, _, _, _, _, _, _, _, _, _, _, _, _, _, _, _, _, _, _, rfl, by have := HBL.out; rw [if_neg HZ.out] at this; have := HK.out; omega, by omega, rfl, rfl⟩
    | true =>
      obtain ⟨n2, hn2⟩ : ∃ n, n = runLen noLine (s.data.toList.drop (k + n1)) := ⟨_, rfl⟩
      have hl2 := runLen_le noLine (s.data.toList.drop (k + n1))
      rw [← hn2, List.length_drop, len_eq] at hl2
      have c2 := run_any noLine_any (enters_of Try.func30 (by kernel_rfl) rfl) (s.extract (k + n1) s.size) (by rw [size_ext]; omega)
      rw [ext_drop, ← hn2] at c2
      have C2 := hid c2
      have hst : blankStep (s.data.toList.drop k) = n1 + n2 := by
        unfold blankStep
        simp only []
        rw [← HN1.out, hb, if_pos rfl, ← hd, ← hn2]
      have hbl := blankLen_eq (s.data.toList.drop k)
      rw [hst, List.drop_drop] at hbl
      have HBL := hid hbl
      clear hbl hst hb hnn hd c2 hn2
      go_wp2_with fail
      refine (C2.out _).mono ?_
      rintro e w3 ⟨rfl, rfl⟩
      by_cases hz : n1 + n2 = 0
      · obtain ⟨rfl, rfl⟩ : n1 = 0 ∧ n2 = 0 := by omega
        go_wp2_with fail
        simp only [Exit.jump]
        go_ret
        exact ⟨by rw [← HK.out, HBL.out]; simp, rfl⟩
      · have hz2 : decide ((0 : Int) < n1 + n2) = true := by rw [decide_eq_true_eq]; omega
        have hz3 : (0 : Int) < n1 + n2 := by omega
        have HZ := hid hz
        clear hz
        go_wp2_with fail
        go_step3
        exact ⟨rfl, s.size - (k + (n1 + n2)), by have := HZ.out; omega, k + (n1 + n2), _, _, _, _, _, _, _, _, _, _, _, _, _, _, _, _, _, _, _, _, _, _, _, _, _, rfl, by have := HBL.out; rw [if_neg HZ.out] at this; have := HK.out; omega, by omega, rfl, rfl⟩
  · intro hp'
    go_wp2_with fail
    rename_i K hK
    go_step3
    exact hK _ _ (hp' _ _ _ ⟨0, _, _, _, _, _, _, _, _, _, _, _, _, _, _, _, _, _, _, _, _, _, _, _, _, _, rfl, by simp, Nat.zero_le _, rfl, rfl⟩)

end Go.Proofs.Ytlkkekjbcaabcaa
