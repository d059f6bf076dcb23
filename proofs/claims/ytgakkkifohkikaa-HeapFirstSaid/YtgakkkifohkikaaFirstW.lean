/-
  HeapFirst: the plain law, by finitely many cases; the walk.
-/
import Derived.Test.YtgakkkifohkikaaHeapG
namespace Go.Proofs.Ytgakkkifohkikaa
open Go.RowKit

def firstL (k : Nat) : List Ob := (List.range k).map (fun i => newOb (6 * i + 1) 1 4)
theorem first_alloc : ∀ k, k < 13 → ∀ i, i < k → arAlloc (k * 6) (firstL i) 1 4 = some (6 * i + 1, firstL (i + 1)) := by decide +kernel
theorem first_rel : ∀ k, k < 13 → ∀ x, x < k → relE (firstL k) ((6 * x + 1 : Nat) : Int) = 0 := by decide +kernel
def firstR (k x : Nat) : List Ob := relL (firstL k) ((6 * x + 1 : Nat) : Int)
theorem first_rel2 : ∀ k, k < 13 → ∀ x, x < k → ∀ y, y < k → x ≠ y → relE (firstR k x) ((6 * y + 1 : Nat) : Int) = 0 := by decide +kernel
def firstS (k x y : Nat) : List Ob := if x = y then firstR k x else relL (firstR k x) ((6 * y + 1 : Nat) : Int)
def roomOf (x y : Nat) : Nat := if max x y = min x y + 1 then 12 else 6
def takeB (k x y s : Nat) : Bool := match arAlloc (k * 6) (firstS k x y) 2 s with
  | none => decide (roomOf x y < s + 2)
  | some (z, _) => decide (s + 2 ≤ roomOf x y) && decide (z = 6 * min x y + 1)
theorem first_take : ∀ k, k < 13 → ∀ x, x < k → ∀ y, y < k → ∀ s, s < 12 → takeB k x y s = true := by decide +kernel

set_option maxRecDepth 20000 in
set_option maxHeartbeats 2000000 in
theorem first_walk (a0 a1 a2 a3 : Int) (W : World) (w0 : (Lit.int .u8 a0).wf = true) (w1 : (Lit.int .u8 a1).wf = true) (w2 : (Lit.int .u8 a2).wf = true) (w3 : (Lit.int .u8 a3).wf = true) :
    Calls Try.prog 3 #[.int .u8 a0, .int .u8 a1, .int .u8 a2, .int .u8 a3] W fun e w' => e = .returned (.bool true) ∧ Fr [] W w' := by
  obtain ⟨b0, b1⟩ := u8_bounds w0
  obtain ⟨b2, b3⟩ := u8_bounds w1
  obtain ⟨b4, b5⟩ := u8_bounds w2
  obtain ⟨b6, b7⟩ := u8_bounds w3
  clear w0 w1 w2 w3
  obtain ⟨k, hk, hk1, hk2⟩ : ∃ k : Nat, a0 % 10 + 3 = (k : Int) ∧ 3 ≤ k ∧ k < 13 := ⟨(a0 % 10 + 3).toNat, by omega, by omega, by omega⟩
  have hsz : sizeN ((k : Int) * 6) = k * 6 := by unfold sizeN; omega
  have HSZ := hid hsz
  have HK := hid (And.intro hk1 hk2)
  clear hsz
  go_enter Try.func3, Try.ntmps3
  go_wp2_with fail
  refine (known_any W).mono ?_
  rintro e wA ⟨rfl, f0⟩
  have F0 := hid f0
  clear f0
  go_wp2_with fail
  refine (Own.new W wA F0.out _).mono ?_
  rintro e wB ⟨hb, rfl, h1⟩
  rw [HSZ.out] at h1
  have H1 := hid h1
  clear h1
  have hkk : (k : Int) ≤ 12 := by omega
  go_wp2_with fail
  go_loopw [11] (fun i wr => ∃ j : Nat, i = .int .i64 j ∧ j ≤ k ∧ Hid (Own W wr (.pointer (some ⟨hb, 0, none⟩)) (k * 6) (firstL j))) (fun i _ => k - (intOf i).toNat)
  case atStart => exact ⟨0, rfl, by omega, H1⟩
  case round =>
    obtain ⟨j, rfl, hj, hown⟩ := hrel
    by_cases hlt : j < k
    · have E := hid (hown.out.alloc 1 4 (by omega) (first_alloc k HK.out.2 j hlt))
      have hlt2 : (j : Int) < k := by omega
      have hjb : (j : Int) ≤ 12 := by omega
      clear hown
      go_wp2_with fail
      refine E.out.mono ?_
      rintro e w2 ⟨rfl, hB⟩
      have H2 := hid hB
      clear hB
      go_wp2_with fail
      go_roundw
      case rel => exact ⟨j + 1, by go_num, by omega, H2⟩
      case measure => simp [intOf]; omega
    · obtain rfl : j = k := by omega
      have hlt2 : ¬ (j : Int) < j := by omega
      clear hlt
      obtain ⟨hj3, hj13⟩ := HK.out
      obtain ⟨x, hx⟩ : ∃ x : Nat, a1 % (j : Int) = (x : Int) := ⟨(a1 % (j : Int)).toNat, by rw [Int.toNat_of_nonneg (Int.emod_nonneg _ (by omega))]⟩
      obtain ⟨y, hy⟩ : ∃ y : Nat, a2 % (j : Int) = (y : Int) := ⟨(a2 % (j : Int)).toNat, by rw [Int.toNat_of_nonneg (Int.emod_nonneg _ (by omega))]⟩
      have hxj : x < j := by have := Int.emod_lt_of_pos a1 (show (0 : Int) < j by omega); omega
      have hyj : y < j := by have := Int.emod_lt_of_pos a2 (show (0 : Int) < j by omega); omega
      have hx' : Int.tmod a1 (j : Int) = (x : Int) := by rw [Int.tmod_eq_emod_of_nonneg b2]; exact hx
      have hy' : Int.tmod a2 (j : Int) = (y : Int) := by rw [Int.tmod_eq_emod_of_nonneg b4]; exact hy
      have hj0 : ¬ ((j : Int) = 0) := by omega
      have hj01 : ((j : Int) == 0) = false := by simpa using hj0
      have hwa : IntKind.i64.wrap a1 = a1 := by rw [IntKind.wrap_i64]; omega
      have hwb : IntKind.i64.wrap a2 = a2 := by rw [IntKind.wrap_i64]; omega
      have hwx : IntKind.i64.wrap (x : Int) = x := by rw [IntKind.wrap_i64]; omega
      have hwy : IntKind.i64.wrap (y : Int) = y := by rw [IntKind.wrap_i64]; omega
      have R1 := hid (fun q => (hown.out.drewN q).release ((6 * x + 1 : Nat) : Int))
      rw [first_rel j hj13 x hxj, show ((6 * x + 1 : Nat) : Int) = 6 * (x : Int) + 1 by omega] at R1
      have e6 : ((6 * x + 1 : Nat) : Int) = 6 * (x : Int) + 1 := by omega
      have HE6 := hid e6
      clear e6
      have hxb : (x : Int) ≤ 12 := by omega
      have hyb : (y : Int) ≤ 12 := by omega
      have HX := hid (And.intro hxj hyj)
      have hj3' := hid hj3
      have hj13' := hid hj13
      clear hown hj hj3 hj13
      go_wp2_with fail
      go_quiet (fail)
      clear hx hy hx' hy' hwa hwb hwx hwy hlt2 hk hkk
      go_wp2_with fail
      refine (R1.out nq).mono ?_
      rintro e w2 ⟨rfl, hB⟩
      obtain ⟨lo, hlo⟩ : ∃ lo, lo = min x y := ⟨_, rfl⟩
      obtain ⟨hi, hhi⟩ : ∃ hi, hi = max x y := ⟨_, rfl⟩
      have hmin : min (x : Int) y = (lo : Int) := by omega
      have hmax : max (x : Int) y = (hi : Int) := by omega
      obtain ⟨s, hs⟩ : ∃ s : Nat, a3 % 12 = (s : Int) := ⟨(a3 % 12).toNat, by omega⟩
      have hs12 : s < 12 := by omega
      have hsb : (s : Int) ≤ 12 := by omega
      have hlob : (lo : Int) ≤ 12 := by omega
      have hT := first_take j hj13'.out x HX.out.1 y HX.out.2 s hs12
      have HT := hid hT
      have HLO := hid (And.intro hlo hhi)
      have HS : Hid (Own W w2 (.pointer (some ⟨hb, 0, none⟩)) (j * 6) (firstR j x)) := hid (by
        have := hB
        rw [← HE6.out] at this
        exact this)
      have HS12 := hid hs12
      clear hlo hhi hT hB hs12
      by_cases hxy : x = y
      · subst hxy
        have hs1 : Hid (Own W w2 (.pointer (some ⟨hb, 0, none⟩)) (j * 6) (firstS j x x)) := hid (by unfold firstS; rw [if_pos rfl]; exact HS.out)
        obtain ⟨rm, hrm, hrb⟩ : ∃ rm : Nat, rm = roomOf x x ∧ rm ≤ 12 := ⟨_, rfl, by unfold roomOf; split <;> omega⟩
        have hT := HT.out
        unfold takeB at hT
        have hroom : rm = if hi = lo + 1 then 12 else 6 := by rw [hrm, HLO.out.1, HLO.out.2]; rfl
        have HRM := hid hroom
        rw [← hrm] at hT
        clear hrm hroom
        cases har : arAlloc (j * 6) (firstS j x x) 2 s with
        | none =>
          rw [har] at hT
          have hlt3 : (rm : Int) < (s : Int) + 2 := by have := of_decide_eq_true hT; omega
          have EA := hid (hs1.out.alloc_no 2 s (by omega) har)
          clear har hT
          by_cases hr : hi = lo + 1
          · have hr2 : ((hi : Int) == (lo : Int) + 1) = true := by
              have : (hi : Int) = (lo : Int) + 1 := by omega
              simpa using this
            have hrm : rm = 12 := by rw [HRM.out, if_pos hr]
            subst hrm
            clear hr
            go_wp2_with fail
            refine EA.out.mono ?_
            rintro e w4 ⟨rfl, h4⟩
            have H4 := hid h4
            clear h4
            go_wp2_with fail
            go_ret
            exact ⟨rfl, H4.out.fr⟩
          · have hr2 : ((hi : Int) == (lo : Int) + 1) = false := by
              have : ¬ (hi : Int) = (lo : Int) + 1 := by omega
              simpa using this
            have hrm : rm = 6 := by rw [HRM.out, if_neg hr]
            subst hrm
            clear hr
            go_wp2_with fail
            refine EA.out.mono ?_
            rintro e w4 ⟨rfl, h4⟩
            have H4 := hid h4
            clear h4
            go_wp2_with fail
            go_ret
            exact ⟨rfl, H4.out.fr⟩
        | some zl =>
          obtain ⟨z, L'⟩ := zl
          rw [har] at hT
          have hz : z = 6 * lo + 1 := by
            have := of_decide_eq_true (Bool.and_eq_true_iff.1 hT).2
            rw [HLO.out.1]; exact this
          have hlt3 : ¬ (rm : Int) < (s : Int) + 2 := by have := of_decide_eq_true (Bool.and_eq_true_iff.1 hT).1; omega
          have EA := hid (hs1.out.alloc 2 s (by omega) har)
          rw [hz, show ((6 * lo + 1 : Nat) : Int) = 6 * (lo : Int) + 1 by omega] at EA
          clear har hT hz
          by_cases hr : hi = lo + 1
          · have hr2 : ((hi : Int) == (lo : Int) + 1) = true := by
              have : (hi : Int) = (lo : Int) + 1 := by omega
              simpa using this
            have hrm : rm = 12 := by rw [HRM.out, if_pos hr]
            subst hrm
            clear hr
            go_wp2_with fail
            refine EA.out.mono ?_
            rintro e w4 ⟨rfl, h4⟩
            have H4 := hid h4
            clear h4
            go_wp2_with fail
            go_ret
            exact ⟨rfl, H4.out.fr⟩
          · have hr2 : ((hi : Int) == (lo : Int) + 1) = false := by
              have : ¬ (hi : Int) = (lo : Int) + 1 := by omega
              simpa using this
            have hrm : rm = 6 := by rw [HRM.out, if_neg hr]
            subst hrm
            clear hr
            go_wp2_with fail
            refine EA.out.mono ?_
            rintro e w4 ⟨rfl, h4⟩
            have H4 := hid h4
            clear h4
            go_wp2_with fail
            go_ret
            exact ⟨rfl, H4.out.fr⟩
      · have hxy2 : ((x : Int) == y) = false := by
          have : ¬ (x : Int) = y := by omega
          simpa using this
        have hxy3 : ((x : Int) != y) = true := by
          have : ¬ (x : Int) = y := by omega
          simpa using this
        have R2 := hid (HS.out.release ((6 * y + 1 : Nat) : Int))
        rw [first_rel2 j hj13'.out x HX.out.1 y HX.out.2 hxy, show ((6 * y + 1 : Nat) : Int) = 6 * (y : Int) + 1 by omega] at R2
        have HXY := hid hxy
        clear hxy
        go_wp2_with fail
        refine R2.out.mono ?_
        rintro e w3 ⟨rfl, hB⟩
        have hs1 : Hid (Own W w3 (.pointer (some ⟨hb, 0, none⟩)) (j * 6) (firstS j x y)) := hid (by
          unfold firstS; rw [if_neg HXY.out, show ((6 * y + 1 : Nat) : Int) = 6 * (y : Int) + 1 by omega]; exact hB)
        clear hB
        obtain ⟨rm, hrm, hrb⟩ : ∃ rm : Nat, rm = roomOf x y ∧ rm ≤ 12 := ⟨_, rfl, by unfold roomOf; split <;> omega⟩
        have hT := HT.out
        unfold takeB at hT
        have hroom : rm = if hi = lo + 1 then 12 else 6 := by rw [hrm, HLO.out.1, HLO.out.2]; rfl
        have HRM := hid hroom
        rw [← hrm] at hT
        clear hrm hroom
        cases har : arAlloc (j * 6) (firstS j x y) 2 s with
        | none =>
          rw [har] at hT
          have hlt3 : (rm : Int) < (s : Int) + 2 := by have := of_decide_eq_true hT; omega
          have EA := hid (hs1.out.alloc_no 2 s (by omega) har)
          clear har hT
          by_cases hr : hi = lo + 1
          · have hr2 : ((hi : Int) == (lo : Int) + 1) = true := by
              have : (hi : Int) = (lo : Int) + 1 := by omega
              simpa using this
            have hrm : rm = 12 := by rw [HRM.out, if_pos hr]
            subst hrm
            clear hr
            go_wp2_with fail
            refine EA.out.mono ?_
            rintro e w4 ⟨rfl, h4⟩
            have H4 := hid h4
            clear h4
            go_wp2_with fail
            go_ret
            exact ⟨rfl, H4.out.fr⟩
          · have hr2 : ((hi : Int) == (lo : Int) + 1) = false := by
              have : ¬ (hi : Int) = (lo : Int) + 1 := by omega
              simpa using this
            have hrm : rm = 6 := by rw [HRM.out, if_neg hr]
            subst hrm
            clear hr
            go_wp2_with fail
            refine EA.out.mono ?_
            rintro e w4 ⟨rfl, h4⟩
            have H4 := hid h4
            clear h4
            go_wp2_with fail
            go_ret
            exact ⟨rfl, H4.out.fr⟩
        | some zl =>
          obtain ⟨z, L'⟩ := zl
          rw [har] at hT
          have hz : z = 6 * lo + 1 := by
            have := of_decide_eq_true (Bool.and_eq_true_iff.1 hT).2
            rw [HLO.out.1]; exact this
          have hlt3 : ¬ (rm : Int) < (s : Int) + 2 := by have := of_decide_eq_true (Bool.and_eq_true_iff.1 hT).1; omega
          have EA := hid (hs1.out.alloc 2 s (by omega) har)
          rw [hz, show ((6 * lo + 1 : Nat) : Int) = 6 * (lo : Int) + 1 by omega] at EA
          clear har hT hz
          by_cases hr : hi = lo + 1
          · have hr2 : ((hi : Int) == (lo : Int) + 1) = true := by
              have : (hi : Int) = (lo : Int) + 1 := by omega
              simpa using this
            have hrm : rm = 12 := by rw [HRM.out, if_pos hr]
            subst hrm
            clear hr
            go_wp2_with fail
            refine EA.out.mono ?_
            rintro e w4 ⟨rfl, h4⟩
            have H4 := hid h4
            clear h4
            go_wp2_with fail
            go_ret
            exact ⟨rfl, H4.out.fr⟩
          · have hr2 : ((hi : Int) == (lo : Int) + 1) = false := by
              have : ¬ (hi : Int) = (lo : Int) + 1 := by omega
              simpa using this
            have hrm : rm = 6 := by rw [HRM.out, if_neg hr]
            subst hrm
            clear hr
            go_wp2_with fail
            refine EA.out.mono ?_
            rintro e w4 ⟨rfl, h4⟩
            have H4 := hid h4
            clear h4
            go_wp2_with fail
            go_ret
            exact ⟨rfl, H4.out.fr⟩

end Go.Proofs.Ytgakkkifohkikaa
