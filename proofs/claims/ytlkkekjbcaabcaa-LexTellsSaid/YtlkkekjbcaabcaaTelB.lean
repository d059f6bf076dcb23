/-
  The document's tokens: signs.
-/
import Derived.Test.YtlkkekjbcaabcaaTelA
namespace Go.Proofs.Ytlkkekjbcaabcaa
open Go.RowKit

theorem two_is {l : List UInt8} (h : 2 ≤ l.length) (a b : UInt8) : (((bs l).extract 0 2).toList == [a, b]) = Lib.hasPrefix l [a, b] := by
  rw [Lib.toList_data, ext_take, bs_list]
  match l, h with
  | x :: y :: r, _ =>
    show ([x, y] == [a, b]) = [a, b].isPrefixOf (x :: y :: r)
    rw [Bool.eq_iff_iff, List.isPrefixOf_iff_prefix, List.cons_prefix_cons, List.cons_prefix_cons, beq_iff_eq]
    constructor
    · intro e; injection e with e1 e2; injection e2 with e2; exact ⟨e1.symm, e2.symm, List.nil_prefix⟩
    · rintro ⟨e1, e2, _⟩; rw [e1, e2]
theorem short_no {l : List UInt8} (h : ¬ 2 ≤ l.length) (a b : UInt8) : Lib.hasPrefix l [a, b] = false := by
  match l, h with
  | [], _ => rfl
  | [x], _ => unfold Lib.hasPrefix; simp [List.isPrefixOf]
  | x :: y :: r, h => simp at h
theorem take_two {l : List UInt8} {a b : UInt8} (h : Lib.hasPrefix l [a, b] = true) : l.take 2 = [a, b] := (List.prefix_iff_eq_take.1 (List.isPrefixOf_iff_prefix.1 h)).symm

theorem sign_single {l : List UInt8} (h1 : Lib.hasPrefix l [61, 61] = false) (h2 : Lib.hasPrefix l [33, 61] = false) : signOf l = if signs.contains (l.getD 0 0) then l.take 1 else [] := by
  unfold signOf
  rw [h1, h2, if_neg (by simp), if_neg (by simp)]
theorem signs_has {k : Nat} {c : UInt8} (h : k < 17) (he : signs.getD k 0 = c) : signs.contains c = true := by
  rw [List.contains_iff_mem, ← he]
  have : ∀ k, k < 17 → signs.getD k 0 ∈ signs := by decide +kernel
  exact this k h
theorem signs_not {c : UInt8} (h : ∀ k, k < 17 → signs.getD k 0 ≠ c) : signs.contains c = false := by
  cases hc : signs.contains c with
  | false => rfl
  | true =>
    rw [List.contains_iff_mem] at hc
    obtain ⟨k, hk, e⟩ := List.mem_iff_getElem.1 hc
    exact absurd (by rw [List.getD, List.getElem?_eq_getElem hk]; exact e) (h k hk)

set_option maxRecDepth 20000 in
set_option maxHeartbeats 4000000 in
theorem rsign_any (l : List UInt8) (hl : l.length ≤ 1000000) (h0 : 0 < l.length) (w : World) : Calls Try.prog 24 #[.string (bs l)] w (fun e w' => ∃ x : ByteArray, e = .returned (.string x) ∧ x.data.toList = signOf l ∧ Fr [] w w') := by
  have hsz : (bs l).size = l.length := bs_size l
  cases p61 : Lib.hasPrefix l [61, 61] with
  | true =>
    have h2 : 2 ≤ l.length := Decidable.by_contra (fun h => by rw [short_no h] at p61; cases p61)
    have h2' : (2 : Int) ≤ l.length := by omega
    have e61 := two_is h2 61 61
    rw [p61] at e61
    have HP := hid p61
    clear p61
    go_enter Try.func24, Try.ntmps24
    go_wp2_with fail
    go_ret
    exact ⟨_, rfl, by rw [ext_take, bs_list, take_two HP.out]; unfold signOf; rw [if_pos HP.out], Fr.refl _ _⟩
  | false =>
    cases p33 : Lib.hasPrefix l [33, 61] with
    | true =>
      have h2 : 2 ≤ l.length := Decidable.by_contra (fun h => by rw [short_no h] at p33; cases p33)
      have h2' : (2 : Int) ≤ l.length := by omega
      have e61 := two_is h2 61 61
      have e33 := two_is h2 33 61
      rw [p61] at e61
      rw [p33] at e33
      have HP := hid p33
      have HP1 := hid p61
      clear p61 p33
      go_enter Try.func24, Try.ntmps24
      go_wp2_with fail
      go_ret
      exact ⟨_, rfl, by rw [ext_take, bs_list, take_two HP.out]; unfold signOf; rw [if_neg (by rw [HP1.out]; simp), if_pos HP.out], Fr.refl _ _⟩
    | false =>
      have HS := hid (sign_single p61 p33)
      have hcs : (2 ≤ l.length ∧ (2 : Int) ≤ l.length ∧ (((bs l).extract 0 2).toList == [61, 61]) = false ∧ (((bs l).extract 0 2).toList == [33, 61]) = false) ∨ (¬ 2 ≤ l.length ∧ ¬ (2 : Int) ≤ l.length ∧ True ∧ True) := by
        by_cases h2 : 2 ≤ l.length
        · exact .inl ⟨h2, by omega, by rw [two_is h2, p61], by rw [two_is h2, p33]⟩
        · exact .inr ⟨h2, by omega, trivial, trivial⟩
      clear p61 p33
      have hb0 := get_at (bs l) 0 (by rw [bs_size]; exact h0)
      rw [bs_list] at hb0
      have HB0 := hid hb0
      clear hb0
      rcases hcs with ⟨h2, h2', e61, e33⟩ | ⟨h2, h2', e61, e33⟩
      all_goals
        go_enter Try.func24, Try.ntmps24
        go_wp2_with fail
        clear e61 e33 h2 h2'
        go_loopw [4] (fun i wr => ∃ k : Nat, k ≤ 17 ∧ i = .int .i64 k ∧ Hid ((∀ j, j < k → signs.getD j 0 ≠ l.getD 0 0) ∧ Fr [] w wr)) (fun i _ => 17 - (intOf i).toNat)
        case atStart => exact ⟨0, by omega, rfl, fun j hj => by omega, Fr.refl _ _⟩
        case round =>
          obtain ⟨k, hk, rfl, hno⟩ := hrel
          by_cases hlt : k < 17
          · have hsk := get_at (ByteArray.mk #[123, 125, 40, 41, 91, 93, 59, 44, 46, 61, 60, 43, 45, 42, 47, 37, 126]) k hlt
            have hsk' : (ByteArray.mk #[123, 125, 40, 41, 91, 93, 59, 44, 46, 61, 60, 43, 45, 42, 47, 37, 126])[k]'hlt = signs.getD k 0 := hsk
            by_cases he : signs.getD k 0 = l.getD 0 0
            · have heq : (((bs l)[0]'(by rw [bs_size]; exact h0)).toNat : Int) = (((ByteArray.mk #[123, 125, 40, 41, 91, 93, 59, 44, 46, 61, 60, 43, 45, 42, 47, 37, 126])[k]'hlt).toNat : Int) := by rw [HB0.out, hsk', he]
              have heqb : ((((bs l)[0]'(by rw [bs_size]; exact h0)).toNat : Int) == (((ByteArray.mk #[123, 125, 40, 41, 91, 93, 59, 44, 46, 61, 60, 43, 45, 42, 47, 37, 126])[k]'hlt).toNat : Int)) = true := by simpa using heq
              have HE := hid (signs_has hlt he)
              clear heq hsk hsk' he
              have i1 : (k : Int) < 17 := by omega
              have i2 : (0 : Int) ≤ (k : Int) := by omega
              go_wp2_with fail
              go_quiet (fail)
              have HFQ := hid (hno.out.2.drewN nq)
              clear heqb
              go_wp2_with fail
              go_ret
              exact ⟨_, rfl, by rw [ext_take, bs_list, HS.out, HE.out]; rfl, HFQ.out⟩
            · have heq : ¬ (((bs l)[0]'(by rw [bs_size]; exact h0)).toNat : Int) = (((ByteArray.mk #[123, 125, 40, 41, 91, 93, 59, 44, 46, 61, 60, 43, 45, 42, 47, 37, 126])[k]'hlt).toNat : Int) := by
                rw [HB0.out, hsk']
                intro e
                exact he (UInt8.toNat_inj.1 (by omega)).symm
              have heqb : ((((bs l)[0]'(by rw [bs_size]; exact h0)).toNat : Int) == (((ByteArray.mk #[123, 125, 40, 41, 91, 93, 59, 44, 46, 61, 60, 43, 45, 42, 47, 37, 126])[k]'hlt).toNat : Int)) = false := by simpa using heq
              have HE := hid he
              have i1 : (k : Int) < 17 := by omega
              have i2 : (0 : Int) ≤ (k : Int) := by omega
              clear heq hsk hsk' he
              go_wp2_with fail
              go_quiet (fail)
              have HFQ := hid (hno.out.2.drewN nq)
              clear heqb
              go_wp2_with fail
              go_roundw
              case rel =>
                refine ⟨k + 1, by omega, by go_num, hid ⟨fun j hj => ?_, HFQ.out⟩⟩
                by_cases hjk : j = k
                · subst hjk; exact HE.out
                · exact hno.out.1 j (by omega)
              case measure => simp [intOf]; omega
          · obtain rfl : k = 17 := by omega
            have HE := hid (signs_not hno.out.1)
            have HF := hid hno.out.2
            clear hno
            go_wp2_with fail
            go_ret
            exact ⟨_, rfl, by rw [HS.out, HE.out]; rfl, HF.out⟩

end Go.Proofs.Ytlkkekjbcaabcaa
