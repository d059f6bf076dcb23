/-
  Package lex: the kinds of bytes.
-/
import Derived.Test.YtlkkekjbcaabcaaRows
import Derived.Test.YtlkkekjbcaabcaaBase2
import Derived.WalkLawsBesides
import Derived.WalkSpells
import Derived.Shelf.Abstract
namespace Go.Proofs.Ytlkkekjbcaabcaa
open Go.RowKit

def isDigit (b : UInt8) : Bool := decide (48 ≤ b.toNat) && decide (b.toNat ≤ 57)
def isLetter (b : UInt8) : Bool := (decide (97 ≤ b.toNat) && decide (b.toNat ≤ 122)) || (decide (65 ≤ b.toNat) && decide (b.toNat ≤ 90)) || b.toNat == 95 || b.toNat == 36
def isBlank (b : UInt8) : Bool := b.toNat == 32 || b.toNat == 9 || b.toNat == 10 || b.toNat == 13
def noLine (b : UInt8) : Bool := b.toNat != 10
def isName (b : UInt8) : Bool := isLetter b || isDigit b
def bv (b : UInt8) : Value := .int .u8 b.toNat
def BytePost (w : World) (r : Bool) (e : Ending) (w' : World) : Prop := e = .returned (.bool r) ∧ w = w'
/-- a function that tells whether a byte is of a kind -/
def Tells (f : Nat) (p : UInt8 → Bool) : Prop := ∀ (b : UInt8) (w : World), Calls Try.prog f #[bv b] w (BytePost w (p b))
theorem eqb {n k : Nat} (h : ¬ n = k) : ((n : Int) == (k : Int)) = false := by
  have : ¬ (n : Int) = (k : Int) := by omega
  simpa using this
theorem neb {n k : Nat} (h : ¬ n = k) : ((n : Int) != (k : Int)) = true := by
  have : ¬ (n : Int) = (k : Int) := by omega
  simpa using this

theorem digit_any : Tells 31 isDigit := by
  intro b w
  unfold bv isDigit
  generalize b.toNat = n
  by_cases h1 : (48 : Int) ≤ n
  · by_cases h2 : (n : Int) ≤ 57
    · go_enter Try.func31, Try.ntmps31
      go_wp2_with fail
      go_ret
      exact ⟨by simp; omega, rfl⟩
    · go_enter Try.func31, Try.ntmps31
      go_wp2_with fail
      go_ret
      exact ⟨by simp; omega, rfl⟩
  · go_enter Try.func31, Try.ntmps31
    go_wp2_with fail
    go_ret
    exact ⟨by simp; omega, rfl⟩

theorem letter_any : Tells 33 isLetter := by
  intro b w
  unfold bv isLetter
  generalize b.toNat = n
  by_cases c1 : n = 95
  · subst c1
    go_enter Try.func33, Try.ntmps33
    go_wp2_with fail
    go_ret
    exact ⟨rfl, rfl⟩
  by_cases c2 : n = 36
  · subst c2
    go_enter Try.func33, Try.ntmps33
    go_wp2_with fail
    go_ret
    exact ⟨rfl, rfl⟩
  have e1 : ((n : Int) == 95) = false := eqb c1
  have e2 : ((n : Int) == 36) = false := eqb c2
  have H := hid (And.intro c1 c2)
  clear c1 c2
  by_cases a1 : (97 : Int) ≤ n <;> by_cases a2 : (n : Int) ≤ 122 <;> by_cases a3 : (65 : Int) ≤ n <;> by_cases a4 : (n : Int) ≤ 90 <;> first | (exfalso; omega) | skip
  all_goals
    go_enter Try.func33, Try.ntmps33
    go_wp2_with fail
    go_ret
    obtain ⟨c1, c2⟩ := H.out
    exact ⟨by simp; omega, rfl⟩

theorem blank1_any : Tells 28 isBlank := by
  intro b w
  unfold bv isBlank
  generalize b.toNat = n
  by_cases c1 : n = 32
  · subst c1
    go_enter Try.func28, Try.ntmps28
    go_wp2_with fail
    go_ret
    exact ⟨rfl, rfl⟩
  by_cases c2 : n = 9
  · subst c2
    go_enter Try.func28, Try.ntmps28
    go_wp2_with fail
    go_ret
    exact ⟨rfl, rfl⟩
  by_cases c3 : n = 10
  · subst c3
    go_enter Try.func28, Try.ntmps28
    go_wp2_with fail
    go_ret
    exact ⟨rfl, rfl⟩
  by_cases c4 : n = 13
  · subst c4
    go_enter Try.func28, Try.ntmps28
    go_wp2_with fail
    go_ret
    exact ⟨rfl, rfl⟩
  have e1 : ((n : Int) == 32) = false := eqb c1
  have e2 : ((n : Int) == 9) = false := eqb c2
  have e3 : ((n : Int) == 10) = false := eqb c3
  have e4 : ((n : Int) == 13) = false := eqb c4
  have H := hid (And.intro c1 (And.intro c2 (And.intro c3 c4)))
  clear c1 c2 c3 c4
  go_enter Try.func28, Try.ntmps28
  go_wp2_with fail
  go_ret
  obtain ⟨c1, c2, c3, c4⟩ := H.out
  exact ⟨by simp [c1, c2, c3, c4], rfl⟩

theorem noLine_any : Tells 30 noLine := by
  intro b w
  unfold bv noLine
  generalize b.toNat = n
  by_cases c1 : n = 10
  · subst c1
    go_enter Try.func30, Try.ntmps30
    go_wp2_with fail
    go_ret
    exact ⟨rfl, rfl⟩
  have e1 : ((n : Int) != 10) = true := neb c1
  have H := hid c1
  clear c1
  go_enter Try.func30, Try.ntmps30
  go_wp2_with fail
  go_ret
  exact ⟨by simp [H.out], rfl⟩

theorem name_any : Tells 34 isName := by
  intro b w
  unfold isName
  have h1 := letter_any b w
  have h2 := digit_any b w
  unfold bv at *
  generalize b.toNat = n at *
  cases hl : isLetter b with
  | true =>
    rw [hl] at h1
    have H1 := hid h1
    clear h1 h2 hl
    go_enter Try.func34, Try.ntmps34
    go_wp2_with fail
    refine H1.out.mono ?_
    rintro e w' ⟨rfl, rfl⟩
    go_wp2_with fail
    go_ret
    exact ⟨rfl, rfl⟩
  | false =>
    rw [hl] at h1
    have H1 := hid h1
    have H2 := hid h2
    clear h1 h2 hl
    go_enter Try.func34, Try.ntmps34
    go_wp2_with fail
    refine H1.out.mono ?_
    rintro e w' ⟨rfl, rfl⟩
    go_wp2_with fail
    refine H2.out.mono ?_
    rintro e w' ⟨rfl, rfl⟩
    go_wp2_with fail
    go_ret
    exact ⟨rfl, rfl⟩

def runLen (p : UInt8 → Bool) (l : List UInt8) : Nat := (l.takeWhile p).length
def RunPost (w : World) (n : Nat) (e : Ending) (w' : World) : Prop := e = .returned (.int .i64 n) ∧ w = w'
theorem runLen_le (p : UInt8 → Bool) (l : List UInt8) : runLen p l ≤ l.length := by
  unfold runLen
  exact (List.takeWhile_prefix p).length_le
theorem runLen_step (p : UInt8 → Bool) (l : List UInt8) (k : Nat) (h : k ≤ runLen p l) (hk : k < l.length) : (p (l.getD k 0) = true → k + 1 ≤ runLen p l) ∧ (p (l.getD k 0) = false → runLen p l = k) := by
  induction l generalizing k with
  | nil => simp at hk
  | cons x r ih =>
    unfold runLen at *
    cases hx : p x with
    | false =>
      rw [List.takeWhile_cons_of_neg (by simp [hx])] at h ⊢
      simp only [List.length_nil, Nat.le_zero] at h
      subst h
      simp [hx]
    | true =>
      rw [List.takeWhile_cons_of_pos hx] at h ⊢
      simp only [List.length_cons] at h hk ⊢
      cases k with
      | zero => simp [hx]
      | succ k =>
        have := ih k (by omega) (by omega)
        simp only [List.getD_cons_succ]
        exact ⟨fun e => by have := this.1 e; omega, fun e => by have := this.2 e; omega⟩

set_option maxHeartbeats 400000 in
theorem run_any {f : Nat} {p : UInt8 → Bool} (hp : Tells f p) (hen : Enters Try.prog f) (s : ByteArray) (hs : s.size ≤ 1000000) (w : World) : Calls Try.prog 27 #[.string s, .func (.func f) #[] #[]] w (RunPost w (runLen p s.data.toList)) := by
  go_enter Try.func27, Try.ntmps27
  go_wp2_with fail
  refine wp_scope_L 0 (fun m a' w' => ∃ (k : Nat) (u6 u7 u8 u9 u10 u11 u12 u13 u14 u15 u16 u17 u18 u19 : Value), a' = { tmps := #[.string s, .func (.func f) #[] #[], undef, undef, .int .i64 0, .int .i64 k, u6, u7, u8, u9, u10, u11, u12, u13, u14, u15, u16, u17, u18, u19], defers := [] } ∧ m + k = runLen p s.data.toList ∧ w = w') rfl ?_ ?_
  · rintro m a' wk ⟨k, u6, u7, u8, u9, u10, u11, u12, u13, u14, u15, u16, u17, u18, u19, rfl, hmk, rfl⟩
    have hle := runLen_le p s.data.toList
    have hsz : s.data.toList.length = s.size := Array.length_toList
    have HMK := hid hmk
    by_cases hlt : k < s.size
    · have hst := runLen_step p s.data.toList k (by omega) (by omega)
      have HST := hid hst
      clear hmk hle hst
      have hget : s[k] = s.data.toList.getD k 0 := by
        rw [List.getD, List.getElem?_eq_getElem (by rw [hsz]; exact hlt)]
        simp [ByteArray.getElem_eq_getElem_data]
      have HGET := hid hget
      have HSZ := hid hsz
      clear hget hsz
      unfold Enters at hen
      go_wp2_with fail
      rw [HGET.out]
      refine (hp _ _).mono ?_
      rintro e w' ⟨rfl, rfl⟩
      cases hb : p (s.data.toList.getD k 0) with
      | true =>
        have HB := hid (HST.out.1 hb)
        clear hb
        go_wp2_with fail
        go_step3
        exact ⟨rfl, m - 1, by have := HB.out; have := HMK.out; omega, k + 1, _, _, _, _, _, _, _, _, _, _, _, _, _, _, rfl, by have := HB.out; have := HMK.out; omega, rfl⟩
      | false =>
        have HB := hid (HST.out.2 hb)
        clear hb
        go_wp2_with fail
        simp only [Exit.jump]
        go_ret
        exact ⟨by rw [HB.out]; rfl, rfl⟩
    · obtain rfl : k = s.size := by omega
      have HE := hid (show runLen p s.data.toList = s.size by omega)
      clear hmk hle
      go_wp2_with fail
      simp only [Exit.jump]
      go_ret
      exact ⟨by rw [HE.out]; rfl, rfl⟩
  · intro hp'
    go_wp2_with fail
    rename_i K hK
    go_step3
    exact hK _ _ (hp' _ _ _ ⟨0, _, _, _, _, _, _, _, _, _, _, _, _, _, _, rfl, Nat.add_zero _, rfl⟩)

end Go.Proofs.Ytlkkekjbcaabcaa
