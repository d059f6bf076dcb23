/-
  Package heap: Release: the search for a place among the free blocks.
-/
import Derived.Test.YtgakkkifohkikaaHeapD
import Derived.Shelf.Abstract
namespace Go.Proofs.Ytgakkkifohkikaa
open Go.RowKit

set_option maxHeartbeats 400000 in
theorem cmp_any (w : World) (a s x : Int) (ha : 0 ≤ a) (ha2 : a ≤ 10000) (hx : 0 ≤ x) (hx2 : x ≤ 10000) : Calls Try.prog 45 #[.agg #[.int .i64 a, .int .i64 s], .int .i64 x] w fun e w' => e = .returned (.int .i64 (a - x)) ∧ Fr [] w w' := by
  have F : Hid (∀ o, Fr [] w (w.alloc o)) := hid (fun o => (Fr.refl _ _).alloc o)
  go_enter Try.func45, Try.ntmps45
  go_wp2_with fail
  go_ret
  exact ⟨rfl, F.out _⟩

/-- G1 begins ahead of x, G2 doesn't -/
def FindPost (w : World) (k : Nat) (e : Ending) (w' : World) : Prop := (∃ b, e = .returned (.tuple #[.int .i64 k, .bool b])) ∧ Fr [] w w'
set_option maxHeartbeats 1000000 in
set_option maxRecDepth 20000 in
theorem find_any {w : World} {v : Value} {G1 G2 : List (Nat × Nat)} (h : RV w 36 2 v (G1 ++ G2).length (blkL (G1 ++ G2))) (x : Nat) (hx : x ≤ 10000) (h1 : ∀ g ∈ G1, g.1 < x) (h2 : ∀ g ∈ G2, ¬ g.1 < x) (hs : ∀ g ∈ G1 ++ G2, g.1 ≤ 10000) (hl : (G1 ++ G2).length ≤ 10000) :
    Calls Try.prog 44 #[v, .int .i64 x, .func (.func 45) #[] #[]] w (FindPost w G1.length) := by
  obtain ⟨a, cap, rfl, hc1, hc2⟩ := h.form
  obtain ⟨n, hn⟩ : ∃ n, n = (G1 ++ G2).length := ⟨_, rfl⟩
  obtain ⟨p, hp⟩ : ∃ p, p = G1.length := ⟨_, rfl⟩
  have hpn : p ≤ n := by rw [hn, hp, List.length_append]; omega
  rw [← hn] at h hl hc1 ⊢
  rw [← hp]
  have HN := hid hn
  have HP := hid hp
  have HH := hid h
  have H1 := hid h1
  have H2 := hid h2
  have HS := hid hs
  unfold maxLen at hc2
  clear hn hp h h1 h2 hs
  go_enter Try.func44, Try.ntmps44
  go_wp2_with fail
  go_loopw [9, 10] (fun vi vj wr => ∃ i j : Nat, vi = .int .i64 i ∧ vj = .int .i64 j ∧ i ≤ p ∧ p ≤ j ∧ j ≤ n ∧ Hid (Fr [] w wr)) (fun vi vj _ => (intOf vj - intOf vi).toNat)
  case atStart => exact ⟨0, n, rfl, rfl, by omega, hpn, Nat.le_refl _, hid (Fr.refl _ _)⟩
  case round =>
    obtain ⟨i, j, rfl, rfl, hi, hpj, hj, hf⟩ := hrel
    by_cases hij : i < j
    · have hij2 : (i : Int) < j := by omega
      have hb1 : (i : Int) ≤ 10000 := by omega
      have hb2 : (j : Int) ≤ 10000 := by omega
      obtain ⟨q, hq⟩ : ∃ q : Nat, ((i : Int) + j) / 2 = (q : Int) := ⟨(i + j) / 2, by omega⟩
      have hq1 : i ≤ q := by omega
      have hq2 : q < j := by omega
      have hqn : q < (G1 ++ G2).length := by rw [← HN.out]; omega
      obtain ⟨b, cap', e, k0, _⟩ := (HH.out.keep0 hf.out).cell (q * 2) (by omega)
      cases e
      obtain ⟨b', cap'', e, k1, _⟩ := (HH.out.keep0 hf.out).cell (q * 2 + 1) (by omega)
      cases e
      obtain ⟨⟨y, s⟩, hg⟩ : ∃ g, (G1 ++ G2)[q]? = some g := ⟨_, List.getElem?_eq_getElem hqn⟩
      obtain ⟨r0, r1⟩ := blkL_get _ _ _ hg
      rw [r0] at k0
      rw [r1] at k1
      have hy := HS.out (y, s) (List.mem_of_getElem? hg)
      simp only [] at hy k0 k1
      unfold vi at k0 k1
      have hqi : (q : Int) < n := by omega
      have hcmp : y < x ↔ q < p := by
        rw [HP.out]
        by_cases hqp : q < G1.length
        · rw [List.getElem?_append_left hqp] at hg
          have := H1.out _ (List.mem_of_getElem? hg)
          simp only [] at this
          omega
        · rw [List.getElem?_append_right (by omega)] at hg
          have := H2.out _ (List.mem_of_getElem? hg)
          simp only [] at this
          omega
      have HC := hid hcmp
      have HQ := hid (And.intro hq1 hq2)
      clear r0 r1 hg hqn hq1 hq2 hcmp
      go_wp2_with fail
      refine (cmp_any _ _ _ _ (by omega) (by omega) (by omega) (by omega)).mono ?_
      rintro e w1 ⟨rfl, f1⟩
      have F1 : Hid (Fr [] w w1) := hid (hf.out.tr f1)
      clear f1
      by_cases hlt : y < x
      · have hlt2 : (y : Int) - x < 0 := by omega
        go_wp2_with fail
        go_roundw
        case rel => exact ⟨q + 1, j, by go_num, rfl, by have := HC.out.1 hlt; omega, hpj, hj, F1⟩
        case measure => have := HQ.out; simp [intOf]; omega
      · have hlt2 : ¬ (y : Int) - x < 0 := by omega
        have hlt3 : decide ((y : Int) - x < 0) = false := by simpa using hlt2
        have HLT := hid hlt
        clear hlt hlt2
        go_wp2_with fail
        go_roundw
        case rel => exact ⟨i, q, rfl, rfl, hi, by have h1 := HC.out; have h2 := HLT.out; omega, by have := HQ.out; omega, F1⟩
        case measure => have := HQ.out; simp [intOf]; omega
    · obtain rfl : i = j := by omega
      obtain rfl : i = p := by omega
      have hb1 : ¬ ((i : Int) < i) := by omega
      by_cases hin : i < n
      · have hin2 : (i : Int) < n := by omega
        have hqn : i < (G1 ++ G2).length := by rw [← HN.out]; omega
        obtain ⟨b, cap', e, k0, _⟩ := (HH.out.keep0 hf.out).cell (i * 2) (by omega)
        cases e
        obtain ⟨b', cap'', e, k1, _⟩ := (HH.out.keep0 hf.out).cell (i * 2 + 1) (by omega)
        cases e
        obtain ⟨⟨y, s⟩, hg⟩ : ∃ g, (G1 ++ G2)[i]? = some g := ⟨_, List.getElem?_eq_getElem hqn⟩
        obtain ⟨r0, r1⟩ := blkL_get _ _ _ hg
        rw [r0] at k0
        rw [r1] at k1
        have hy := HS.out (y, s) (List.mem_of_getElem? hg)
        simp only [] at hy k0 k1
        unfold vi at k0 k1
        clear r0 r1 hg hqn hij
        go_wp2_with fail
        refine (cmp_any _ _ _ _ (by omega) (by omega) (by omega) (by omega)).mono ?_
        rintro e w1 ⟨rfl, f1⟩
        have F1 : Hid (Fr [] w w1) := hid (hf.out.tr f1)
        clear f1
        go_wp2_with fail
        go_ret2
        exact ⟨⟨_, rfl⟩, F1.out⟩
      · have hin2 : ¬ (i : Int) < n := by omega
        have hin3 : decide (i < n) = false := by simpa using hin
        clear hin hin2 hij
        go_wp2_with fail
        go_ret2
        exact ⟨⟨_, rfl⟩, hf.out⟩

end Go.Proofs.Ytgakkkifohkikaa
