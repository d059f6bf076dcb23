/-
  loomhelp.Ints.
-/
import Derived.Test.YtgakkkifohkikaaGcC
namespace Go.Proofs.Ytgakkkifohkikaa
open Go.RowKit

set_option maxHeartbeats 400000 in
theorem ints_any {w : World} {v u : Value} {xs ys : List Int} (hv : RI w v xs) (hu : RI w u ys) :
    Calls Try.prog 36 #[v, u] w fun e w' => e = .returned (.bool (decide (xs = ys))) ∧ Fr [] w w' := by
  obtain ⟨a1, c1, rfl, l1, m1⟩ := hv.form
  obtain ⟨a2, c2, rfl, l2, m2⟩ := hu.form
  obtain ⟨n, hn⟩ : ∃ n, n = xs.length := ⟨_, rfl⟩
  obtain ⟨m, hm⟩ : ∃ n, n = ys.length := ⟨_, rfl⟩
  have HV := hid hv
  have HU := hid hu
  rw [← hn] at HV l1 ⊢
  rw [← hm] at HU l2 ⊢
  have HN := hid hn
  have HM := hid hm
  clear hv hu hn hm
  unfold maxLen at m1 m2
  by_cases hl : n = m
  · subst hl
    have hne : ((n : Int) != n) = false := by simp
    go_enter Try.func36, Try.ntmps36
    go_wp2_with fail
    go_loopw [5] (fun i wr => ∃ k : Nat, k ≤ n ∧ i = .int .i64 k ∧ Hid ((∀ j, j < k → xs.getD j 0 = ys.getD j 0) ∧ Fr [] w wr)) (fun i _ => n - (intOf i).toNat)
    case atStart => exact ⟨0, Nat.zero_le _, rfl, hid ⟨fun j hj => by omega, Fr.refl _ _⟩⟩
    case round =>
      obtain ⟨k, hk, rfl, hr⟩ := hrel
      by_cases hlt : k < n
      · have HR := hid hr.out
        clear hr
        have hVs : RI wr (.slice a1 n c1) xs := RV.keep0 HV.out HR.out.2
        have hUs : RI wr (.slice a2 n c2) ys := RV.keep0 HU.out HR.out.2
        obtain ⟨b1, cc1, e1, hcell1⟩ := hVs.cell k (by rw [← HN.out]; exact hlt)
        injection e1 with e1 e3' e3
        subst e1
        obtain ⟨b2, cc2, e2, hcell2⟩ := hUs.cell k (by rw [← HM.out]; exact hlt)
        injection e2 with e2 e4' e4
        subst e2
        clear hVs hUs e3 e4 e3' e4'
        have hk1 : (k : Int) < n := by omega
        by_cases hx : xs.getD k 0 = ys.getD k 0
        · have HX := hid hx
          have HXY := hid hx
          have hb : (xs.getD k 0 != ys.getD k 0) = false := by simpa using hx
          have hb2 : (xs.getD k 0 == ys.getD k 0) = true := by simpa using hx
          clear hx
          generalize xs.getD k 0 = x at hcell1 hb hb2 HX
          generalize ys.getD k 0 = y at hcell2 hb hb2 HX
          have hxy := HX.out
          subst hxy
          go_wp2_with fail
          go_quiet (fail)
          go_wp2_with fail
          go_roundw
          case rel => exact ⟨k + 1, by omega, by go_num, hid ⟨fun j hj => by
              by_cases e : j = k
              · subst e; exact HXY.out
              · exact HR.out.1 j (by omega), HR.out.2.drewN _⟩⟩
          case measure => simp [intOf]; omega
        · have HNE := hid (show decide (xs = ys) = false from decide_eq_false (fun e => hx (by rw [e])))
          have hb : (xs.getD k 0 == ys.getD k 0) = false := by simpa using hx
          have hb2 : (xs.getD k 0 != ys.getD k 0) = true := by simpa using hx
          clear hx
          generalize xs.getD k 0 = x at hcell1 hb hb2
          generalize ys.getD k 0 = y at hcell2 hb hb2
          go_wp2_with fail
          go_quiet (fail)
          go_wp2_with fail
          go_ret
          exact ⟨by rw [HNE.out]; rfl, HR.out.2.drewN _⟩
      · obtain rfl : k = n := by omega
        have HR := hid hr.out
        clear hr
        have HE := hid (show decide (xs = ys) = true from by
          rw [decide_eq_true_eq]
          refine List.ext_getElem (by rw [← HN.out, ← HM.out]) (fun j h1 h2 => ?_)
          have := HR.out.1 j (by rw [HN.out]; exact h1)
          simpa [List.getD, h1, h2] using this)
        have hlt2 : ¬ (k : Int) < k := by omega
        clear hlt
        go_wp2_with fail
        go_ret
        exact ⟨by rw [HE.out]; rfl, HR.out.2⟩
  · have hne : ((n : Int) != m) = true := by
      have : ¬ (n : Int) = m := by omega
      simpa using this
    have HE := hid (show decide (xs = ys) = false from decide_eq_false (fun e => hl (by rw [HN.out, HM.out, e])))
    have hne2 : ((n : Int) == m) = false := by
      have : ¬ (n : Int) = m := by omega
      simpa using this
    clear hl
    go_enter Try.func36, Try.ntmps36
    go_wp2_with fail
    go_ret
    exact ⟨by rw [HE.out]; rfl, Fr.refl _ _⟩

end Go.Proofs.Ytgakkkifohkikaa
