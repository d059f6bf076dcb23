/-
  loomhelp.Blocks: whether two rows of blocks are the same.
-/
import Derived.Test.YtgakkkifohkikaaHeapG
import Derived.Laws.StructEq
namespace Go.Proofs.Ytgakkkifohkikaa
open Go.RowKit

theorem bk_fields : (Try.prog.fieldsOf 36).toList = [{ name := "At", type := 3, offset := 0, embedded := false, tag := "", pkgPath := "", byteOffset := 0 }, { name := "Words", type := 3, offset := 1, embedded := false, tag := "", pkgPath := "", byteOffset := 8 }] := by kernel_rfl
theorem bk_under : Try.prog.underlying 36 = some (.struct (Try.prog.fieldsOf 36)) := by kernel_rfl
theorem bk_eqd (w : World) (a b c d : Int) (n : Nat) : (Op.equalIn (n + 2) 36 (.agg #[.int .i64 a, .int .i64 b]) (.agg #[.int .i64 c, .int .i64 d])).run Try.prog w = .ok (decide (a = c ∧ b = d)) w := by
  rw [run_equalIn_struct _ _ _ _ _ bk_under (by kernel_rfl), bk_fields]
  simp [Op.eqFields, go_sem]
  by_cases h1 : a = c <;> by_cases h2 : b = d <;> simp [h1, h2]
theorem bk_neq (w : World) (a b c d : Int) : (binOp .neq 36 (.agg #[.int .i64 a, .int .i64 b]) (.agg #[.int .i64 c, .int .i64 d])).run Try.prog w = .ok (.bool (!decide (a = c ∧ b = d))) w := by
  simp only [binOp]
  simp [Op.equal, Op.maxDepth, bk_eqd w a b c d 9998]

def BlkPost (w : World) (b : Bool) (e : Ending) (w' : World) : Prop := e = .returned (.bool b) ∧ Fr [] w w'
theorem pref_eq {G H : List (Nat × Nat)} {k : Nat} (hl : G.length = H.length) (hk : G.length ≤ k) (h : ∀ j, j < k → G[j]? = H[j]?) : G = H := by
  apply List.ext_getElem?
  intro j
  by_cases hj : j < k
  · exact h j hj
  · rw [List.getElem?_eq_none (by omega), List.getElem?_eq_none (by omega)]
set_option maxHeartbeats 1000000 in
theorem blocks_any {w : World} {va vb : Value} {G H : List (Nat × Nat)} (ha : RV w 36 2 va G.length (blkL G)) (hb : RV w 36 2 vb H.length (blkL H)) :
    Calls Try.prog 16 #[va, vb] w (BlkPost w (decide (G = H))) := by
  obtain ⟨aa, ca, rfl, hca, hca2⟩ := ha.form
  obtain ⟨ab, cb, rfl, hcb, hcb2⟩ := hb.form
  unfold maxLen at hca2 hcb2
  obtain ⟨n, hn⟩ : ∃ n, n = G.length := ⟨_, rfl⟩
  obtain ⟨m, hm⟩ : ∃ n, n = H.length := ⟨_, rfl⟩
  rw [← hn] at ha hca ⊢
  rw [← hm] at hb hcb ⊢
  have HA := hid ha
  have HB := hid hb
  have HN := hid hn
  have HM := hid hm
  clear ha hb hn hm
  by_cases hnm : n = m
  · subst hnm
    have hne : ((n : Int) != n) = false := by simp
    go_enter Try.func16, Try.ntmps16
    go_wp2_with fail
    go_loopw [5] (fun i wr => ∃ k : Nat, i = .int .i64 k ∧ k ≤ n ∧ Hid (Fr [] w wr ∧ ∀ j, j < k → G[j]? = H[j]?)) (fun i _ => n - (intOf i).toNat)
    case atStart => exact ⟨0, rfl, by omega, hid ⟨Fr.refl _ _, fun j hj => by omega⟩⟩
    case round =>
      obtain ⟨k, rfl, hk, hr⟩ := hrel
      by_cases hlt : k < n
      · have hlt2 : (k : Int) < n := by omega
        obtain ⟨⟨x, s⟩, hg⟩ : ∃ g, G[k]? = some g := ⟨_, List.getElem?_eq_getElem (by rw [← HN.out]; exact hlt)⟩
        obtain ⟨⟨y, t⟩, hh⟩ : ∃ g, H[k]? = some g := ⟨_, List.getElem?_eq_getElem (by rw [← HM.out]; exact hlt)⟩
        obtain ⟨b1, c1, e, ka0, _⟩ := (HA.out.keep0 hr.out.1).cell (k * 2) (by omega)
        cases e
        obtain ⟨b1', c1', e, ka1, _⟩ := (HA.out.keep0 hr.out.1).cell (k * 2 + 1) (by omega)
        cases e
        obtain ⟨b2, c2, e, kb0, _⟩ := (HB.out.keep0 hr.out.1).cell (k * 2) (by omega)
        cases e
        obtain ⟨b2', c2', e, kb1, _⟩ := (HB.out.keep0 hr.out.1).cell (k * 2 + 1) (by omega)
        cases e
        obtain ⟨r0, r1⟩ := blkL_get _ _ _ hg
        obtain ⟨r2, r3⟩ := blkL_get _ _ _ hh
        rw [r0] at ka0
        rw [r1] at ka1
        rw [r2] at kb0
        rw [r3] at kb1
        simp only [vi] at ka0 ka1 kb0 kb1
        have hneq := fun W => bk_neq W x s y t
        have HG := hid hg
        have HH := hid hh
        by_cases hxy : (x : Int) = y ∧ (s : Int) = t
        · rw [decide_eq_true hxy] at hneq
          have HXY := hid hxy
          clear hg hh r0 r1 r2 r3 hxy
          go_wp2_with fail
          go_quiet (fail)
          go_wp2_with fail
          go_roundw
          case rel => exact ⟨k + 1, by go_num, by omega, hid ⟨hr.out.1.tr (drewN_fr _ _), fun j hj => by
            by_cases e : j = k
            · subst e
              rw [HG.out, HH.out]
              obtain ⟨h1, h2⟩ := HXY.out
              have h1' : x = y := by omega
              have h2' : s = t := by omega
              rw [h1', h2']
            · exact hr.out.2 j (by omega)⟩⟩
          case measure => simp [intOf]; omega
        · rw [decide_eq_false hxy] at hneq
          have hGH : decide (G = H) = false := by
            rw [decide_eq_false_iff_not]
            rintro rfl
            rw [hg] at hh
            cases hh
            exact hxy ⟨rfl, rfl⟩
          have HGH := hid hGH
          have HXY := hid hxy
          clear hg hh r0 r1 r2 r3 hxy hGH
          go_wp2_with fail
          go_quiet (fail)
          go_wp2_with fail
          go_ret
          rw [HGH.out]
          exact ⟨rfl, hr.out.1.tr (drewN_fr _ _)⟩
      · obtain rfl : k = n := by omega
        have hGH : decide (G = H) = true := by
          rw [decide_eq_true_eq]
          exact pref_eq (by rw [← HN.out, ← HM.out]) (by rw [← HN.out]; exact Nat.le_refl _) hr.out.2
        have HGH := hid hGH
        have hlt2 : ¬ (k : Int) < k := by omega
        clear hGH hlt
        go_wp2_with fail
        go_ret
        rw [HGH.out]
        exact ⟨rfl, hr.out.1⟩
  · have hne : ((n : Int) != m) = true := by
      have : ¬ (n : Int) = m := by omega
      simpa using this
    have hGH : decide (G = H) = false := by
      rw [decide_eq_false_iff_not]
      rintro rfl
      exact hnm (by rw [HN.out, HM.out])
    have HGH := hid hGH
    clear hGH hnm
    go_enter Try.func16, Try.ntmps16
    go_wp2_with fail
    go_ret
    rw [HGH.out]
    exact ⟨rfl, Fr.refl _ _⟩

end Go.Proofs.Ytgakkkifohkikaa
