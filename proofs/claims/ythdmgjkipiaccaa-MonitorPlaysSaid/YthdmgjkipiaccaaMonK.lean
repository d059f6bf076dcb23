/-
  The statements' own 'known'; Lock of a table; Ints.
-/
import Derived.Test.YthdmgjkipiaccaaMonH
import Derived.Test.YthdmgjkipiaccaaMonG
import Derived.Test.YthdmgjkipiaccaaMonS
import Derived.Test.YthdmgjkipiaccaaQu
namespace Go.Proofs.Ythdmgjkipiaccaa
open Go.RowKit

theorem lock_any {w : World} {p : Value} {F : List Nat} {T : PT} {n : Nat} (h : Mon w p F T) (hs : T.Small n) (hn : n ≤ 100000) (a : Int) :
    Calls Try.prog 12 #[p, .int .i64 a] w (LockPost w (T.at a)) := by
  obtain ⟨l, rfl, rfl, hls, hm⟩ := h
  cases hg : lget T.ls a with
  | none =>
    have e : T.at a = PLk.zero := by unfold PT.at; rw [hg]; rfl
    rw [hls] at hg
    rw [e]
    exact lock_none hm a (lget_gs_none hg).1
  | some L =>
    have e : T.at a = L := by unfold PT.at; rw [hg]; rfl
    have hsm := hs.ls a L (lget_mem hg)
    rw [hls] at hg
    obtain ⟨g1, g, g2, e2, hat, rfl, _, hl⟩ := lget_gs hg
    rw [e]
    exact lock_some hm a g (by rw [e2]; simp) hl (by have := hsm.1; omega)

set_option maxHeartbeats 400000 in
theorem ints_any (w : World) (v u : Value) (xs ys : List Int) (hv : Qu w v xs) (hu : Qu w u ys) :
    Calls Try.prog 13 #[v, u] w fun e w' => e = .returned (.bool (decide (xs = ys))) ∧ Fr [] w w' := by
  obtain ⟨a1, c1, e1, l1, m1⟩ := hv.form
  obtain ⟨a2, c2, e2, l2, m2⟩ := hu.form
  have HV := hid hv
  have HU := hid hu
  have E1 := hid e1
  have E2 := hid e2
  subst e1
  subst e2
  clear hv hu
  unfold maxLen at m1 m2
  by_cases hl : xs.length = ys.length
  · have HL := hid hl
    rw [← hl] at HU E2 l2
    clear hl
    go_enter Try.func13, Try.ntmps13
    rw [← HL.out]
    go_wp2
    go_loopw [5] (fun i wr => ∃ k : Nat, k ≤ xs.length ∧ i = .int .i64 k ∧ Hid (∀ j, j < k → xs.getD j 0 = ys.getD j 0) ∧ Hid (Fr [] w wr)) (fun i _ => xs.length - (intOf i).toNat)
    case atStart => exact ⟨0, Nat.zero_le _, rfl, fun j hj => by omega, Fr.refl _ _⟩
    case round =>
      obtain ⟨k, hk, rfl, hno, hf⟩ := hrel
      by_cases hlt : k < xs.length
      · obtain ⟨b1, o1, cc1, e1, hcell1⟩ := (HV.out.keep0 hf.out).cell k hlt
        injection e1 with e1 e3' e3
        subst e1
        have hUs := HU.out.keep0 hf.out
        obtain ⟨b2, o2, cc2, e2, hcell2⟩ := hUs.cell k (by rw [← HL.out]; exact hlt)
        injection e2 with e2 e4' e4
        subst e2
        clear hUs e3 e4 e3' e4'
        have hk0 : (0 : Int) ≤ k := by omega
        have hk1 : (k : Int) < xs.length := by omega
        by_cases hx : xs.getD k 0 = ys.getD k 0
        · have HX := hid hx
          have HXY := hid hx
          have hb : (xs.getD k 0 != ys.getD k 0) = false := by simpa using hx
          have hb2 : (xs.getD k 0 == ys.getD k 0) = true := by simpa using hx
          clear hx
          have HNO := hid hno.out
          clear hno
          generalize xs.getD k 0 = x at hcell1 hb hb2 HX
          generalize ys.getD k 0 = y at hcell2 hb hb2 HX
          have hxy := HX.out
          subst hxy
          go_wp2_with fail
          go_region
          all_goals
            go_wp2_with fail
            go_roundw
            case rel => exact ⟨k + 1, by omega, by go_num, hid (fun j hj => by
              by_cases e : j = k
              · subst e; exact HXY.out
              · exact HNO.out j (by omega)), hid hf.out.drew⟩
            case measure => simp [intOf]; omega
        · have HNE := hid (show decide (xs = ys) = false from decide_eq_false (fun e => hx (by rw [e])))
          have hb : (xs.getD k 0 == ys.getD k 0) = false := by simpa using hx
          have hb2 : (xs.getD k 0 != ys.getD k 0) = true := by simpa using hx
          clear hx hno
          generalize xs.getD k 0 = x at hcell1 hb hb2
          generalize ys.getD k 0 = y at hcell2 hb hb2
          go_wp2_with fail
          go_region
          all_goals
            go_wp2_with fail
            go_ret
            exact ⟨congrArg (fun b => Ending.returned (Value.bool b)) HNE.out.symm, hf.out.drew⟩
      · obtain rfl : k = xs.length := by omega
        have HEQ := hid (show decide (xs = ys) = true from decide_eq_true (List.ext_getElem (HL.out) (fun j h1 h2 => by
          have := hno.out j h1
          simpa [List.getD, h1, h2] using this)))
        go_wp2
        go_ret
        exact ⟨congrArg (fun b => Ending.returned (Value.bool b)) HEQ.out.symm, hf.out⟩
  · have hlc : ((xs.length : Int) == (ys.length : Int)) = false := by
      have : ¬ (xs.length : Int) = (ys.length : Int) := by omega
      simpa using this
    have hlc2 : ((xs.length : Int) != (ys.length : Int)) = true := by
      have : ¬ (xs.length : Int) = (ys.length : Int) := by omega
      simpa using this
    have HNE := hid (show decide (xs = ys) = false from decide_eq_false (fun e => hl (by rw [e])))
    have HL := hid hl
    clear hl
    generalize xs.length = k1 at *
    generalize ys.length = k2 at *
    go_enter Try.func13, Try.ntmps13
    go_wp2
    go_ret
    exact ⟨congrArg (fun b => Ending.returned (Value.bool b)) HNE.out.symm, Fr.refl _ _⟩

end Go.Proofs.Ythdmgjkipiaccaa
