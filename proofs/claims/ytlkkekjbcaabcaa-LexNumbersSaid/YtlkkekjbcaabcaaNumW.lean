/-
  LexNumbers: the walk.
-/
import Derived.Test.YtlkkekjbcaabcaaNumP
import Derived.Test.YtlkkekjbcaabcaaLexK
import Derived.Test.YtlkkekjbcaabcaaRowU
namespace Go.Proofs.Ytlkkekjbcaabcaa
open Go.RowKit

theorem i64_bounds {a : Int} (h : (Lit.int .i64 a).wf = true) : a ≤ 9223372036854775807 := (bounds_i64 h).2
theorem zeros_succ (k : Nat) (d : List UInt8) : ByteArray.mk #[48] ++ bs (List.replicate k 48 ++ d) = bs (List.replicate (k + 1) 48 ++ d) := by
  show bs [48] ++ bs _ = _
  rw [bs_app]; rfl

set_option maxRecDepth 20000 in
set_option maxHeartbeats 8000000 in
theorem numbers_walk (a0 a1 a2 : Int) (W : World) (w0 : (Lit.int .i64 a0).wf = true) (w1 : (Lit.int .u8 a1).wf = true) (w2 : (Lit.int .u8 a2).wf = true) :
    Calls Try.prog 3 #[.int .i64 a0, .int .u8 a1, .int .u8 a2] W fun e w' => e = .returned (.bool true) ∧ Fr [] W w' := by
  have b1 := i64_bounds w0
  obtain ⟨b2, b3⟩ := u8_bounds w1
  obtain ⟨b4, b5⟩ := u8_bounds w2
  clear w0 w1 w2
  by_cases hneg : a0 < 0
  · go_enter Try.func3, Try.ntmps3
    go_wp2_with fail
    refine (known_any W).mono ?_
    rintro e wA ⟨rfl, f0⟩
    go_wp2_with fail
    go_ret
    exact ⟨rfl, f0⟩
  have i0 : ∀ w, (Instr.index 24 (.agg #[.string ⟨#[]⟩, .string ⟨#[99]⟩, .string ⟨#[105]⟩, .string ⟨#[120]⟩]) (.int .u8 0)).run Try.prog w = .ok (.string ⟨#[]⟩) w := fun _ => by kernel_rfl
  have i1 : ∀ w, (Instr.index 24 (.agg #[.string ⟨#[]⟩, .string ⟨#[99]⟩, .string ⟨#[105]⟩, .string ⟨#[120]⟩]) (.int .u8 1)).run Try.prog w = .ok (.string ⟨#[99]⟩) w := fun _ => by kernel_rfl
  have i2 : ∀ w, (Instr.index 24 (.agg #[.string ⟨#[]⟩, .string ⟨#[99]⟩, .string ⟨#[105]⟩, .string ⟨#[120]⟩]) (.int .u8 2)).run Try.prog w = .ok (.string ⟨#[105]⟩) w := fun _ => by kernel_rfl
  have i3 : ∀ w, (Instr.index 24 (.agg #[.string ⟨#[]⟩, .string ⟨#[99]⟩, .string ⟨#[105]⟩, .string ⟨#[120]⟩]) (.int .u8 3)).run Try.prog w = .ok (.string ⟨#[120]⟩) w := fun _ => by kernel_rfl
  obtain ⟨m, rfl, hm⟩ : ∃ m : Nat, a0 = (m : Int) ∧ m < 9223372036854775808 := ⟨a0.toNat, by omega, by omega⟩
  obtain ⟨z, hz, hz12⟩ : ∃ z : Nat, a2 % 12 = (z : Int) ∧ z < 12 := ⟨(a2 % 12).toNat, by omega, by omega⟩
  obtain ⟨hd1, hd2, hd3⟩ := dec_spec m (by omega)
  have hdl : (dec m).length ≤ 20 := by
    have h : ∀ (f u : Nat) (s : List UInt8), (decF f u s).length ≤ f + s.length := by
      intro f
      induction f with
      | zero => intro u s; simp [decF]
      | succ f ih =>
        intro u s
        unfold decF
        split
        · simp; omega
        · have := ih (u / 10) (dg u :: s); simp only [List.length_cons] at this; omega
    have := h 20 m []; simpa [dec] using this
  have HM := hid hm
  have HZ := hid hz
  have HD1 := hid hd1
  have HD2 := hid hd2
  have HD3 := hid hd3
  clear hd1 hd2 hd3 hz hm hneg b1
  go_enter Try.func3, Try.ntmps3
  go_wp2_with fail
  refine (known_any W).mono ?_
  rintro e wA ⟨rfl, f0⟩
  go_wp2_with fail
  refine (dec_any m HM.out _).mono ?_
  rintro e wB ⟨rfl, fB⟩
  have F1 := hid (f0.tr fB)
  clear f0 fB
  go_wp2_with fail
  go_loop [7, 8] (fun s i => ∃ k : Nat, k ≤ z ∧ i = .int .i64 k ∧ s = .string (bs (List.replicate k 48 ++ dec m))) (fun _ i => z - (intOf i).toNat)
  case atStart => exact ⟨0, by omega, rfl, rfl⟩
  case round =>
    obtain ⟨k, hk, rfl, rfl⟩ := hrel
    by_cases hlt : k < z
    · have hlt2 : (k : Int) < a2 % 12 := by rw [HZ.out]; omega
      have hsz : (bs (List.replicate k 48 ++ dec m)).size = k + (dec m).length := by rw [bs_size]; simp
      go_wp2_with fail
      go_round
      case rel => exact ⟨k + 1, by omega, by go_num, congrArg Value.string (zeros_succ k (dec m))⟩
      case measure => simp [intOf]; omega
    · obtain rfl : k = z := by omega
      have hlt2 : ¬ (k : Int) < a2 % 12 := by rw [HZ.out]; omega
      obtain ⟨zd1, zd2⟩ := zeros_digits k (dec m) HD1.out
      obtain ⟨S, hS⟩ : ∃ S, S = List.replicate k 48 ++ dec m := ⟨_, rfl⟩
      rw [← hS] at zd1 zd2 ⊢
      have hlen : S.length = k + (dec m).length := by rw [hS]; simp
      have hSl : S.length ≤ 32 := by omega
      have HD := hid zd1
      have HDG := hid (show digits S = m by rw [zd2, HD3.out])
      have HL1 := hid (show 1 ≤ S.length by have := HD2.out; omega)
      have hsz : (bs S).size = S.length := bs_size S
      have hcs : a1 % 4 = 0 ∨ a1 % 4 = 1 ∨ a1 % 4 = 2 ∨ a1 % 4 = 3 := by omega
      clear zd1 zd2 hS hlen hdl hk hlt hz12
      rcases hcs with hq | hq | hq | hq
      all_goals have HQ := hid hq
      all_goals clear hq
      · have hq2 : a1 % 4 = 0 := HQ.out
        have hsrc : ByteArray.mk #[32] ++ bs S ++ ByteArray.mk #[] = bs (32 :: (S ++ [])) := by
          show bs [32] ++ bs S ++ bs [] = _
          rw [bs_app, bs_app]; rfl
        have hst : bs S ++ ByteArray.mk #[] = bs (S ++ []) := bs_app S []
        by_cases hbig : 18 < S.length
        · have hb : (18 : Int) < S.length := by omega
          have hall : lexAll (32 :: (S ++ [])) = ([], 1, 32) := by
            rw [lex_one S [] HD.out HL1.out (by simp only [List.length_cons, List.length_append, List.length_nil]; omega), numTok_big (t := []) HD.out (.inl rfl) hbig]
            rfl
          rw [List.append_nil] at hall
          have cA := fun w => all_any (bs (32 :: S)) (by rw [bs_size]; simp only [List.length_cons]; omega) w
          rw [bs_list, hall] at cA
          have CA := hid cA
          clear cA hall
          go_wp2_with fail
          first | rw [show ByteArray.mk #[32] ++ bs S ++ ByteArray.mk #[] = bs (32 :: S) from hsrc] | skip
          refine (CA.out _).mono ?_
          rintro e w1 ⟨v1, rfl, hv1, _, f1⟩
          have F2 := hid (F1.out.tr f1)
          obtain ⟨av, cv, hv, _, _⟩ := hv1.form
          subst hv
          clear hv1 f1
          go_wp2_with fail
          go_ret
          exact ⟨rfl, F2.out⟩
        · have hb : ¬ (18 : Int) < S.length := by omega
          have hall : lexAll (32 :: (S ++ [])) = ([⟨3, 1, S ++ [], digits (S ++ []), 0, 0⟩, endTok (1 + (S ++ []).length : Nat)], 0, 0) := lex_whole HD.out HL1.out (by simp only [List.length_cons, List.length_append, List.length_nil]; omega) (numTok_int (by rw [List.append_nil]; exact HD.out) (by rw [List.append_nil]; omega))
          rw [List.append_nil] at hall
          by_cases h15 : (15 : Int) < S.length
          · have cA := fun w => all_any (bs (32 :: S)) (by rw [bs_size]; simp only [List.length_cons]; omega) w
            rw [bs_list, hall] at cA
            have CA := hid cA
            clear cA hall
            go_wp2_with fail
            first | rw [show ByteArray.mk #[32] ++ bs S ++ ByteArray.mk #[] = bs (32 :: S) from hsrc] | skip
            refine (CA.out _).mono ?_
            rintro e w1 ⟨v1, rfl, hv1, _, f1⟩
            have F2 := hid (F1.out.tr f1)
            obtain h | ⟨b, cap, hv, hc⟩ := hv1.tok
            · exact absurd h (by simp)
            have c0 : w1.cell? ⟨b, 0, none⟩ = some (.int .i64 3) := hc 0 _ rfl 0 _ rfl
            have c1 : w1.cell? ⟨b, 1, none⟩ = some (.int .i64 1) := hc 0 _ rfl 1 _ rfl
            have c2 : w1.cell? ⟨b, 2, none⟩ = some (.string (bs S)) := hc 0 _ rfl 2 _ rfl
            have c3 : w1.cell? ⟨b, 3, none⟩ = some (.int .i64 (digits S)) := hc 0 _ rfl 3 _ rfl
            rw [HDG.out] at c3
            simp only [List.length_cons, List.length_nil, Nat.zero_add] at hv
            subst hv
            have hst2 := hst
            clear hc hv1 f1
            go_wp2_with fail
            go_ret
            exact ⟨rfl, F2.out⟩
          · have cA := fun w => all_any (bs (32 :: S)) (by rw [bs_size]; simp only [List.length_cons]; omega) w
            rw [bs_list, hall] at cA
            have CA := hid cA
            clear cA hall
            go_wp2_with fail
            first | rw [show ByteArray.mk #[32] ++ bs S ++ ByteArray.mk #[] = bs (32 :: S) from hsrc] | skip
            refine (CA.out _).mono ?_
            rintro e w1 ⟨v1, rfl, hv1, _, f1⟩
            have F2 := hid (F1.out.tr f1)
            obtain h | ⟨b, cap, hv, hc⟩ := hv1.tok
            · exact absurd h (by simp)
            have c0 : w1.cell? ⟨b, 0, none⟩ = some (.int .i64 3) := hc 0 _ rfl 0 _ rfl
            have c1 : w1.cell? ⟨b, 1, none⟩ = some (.int .i64 1) := hc 0 _ rfl 1 _ rfl
            have c2 : w1.cell? ⟨b, 2, none⟩ = some (.string (bs S)) := hc 0 _ rfl 2 _ rfl
            have c3 : w1.cell? ⟨b, 3, none⟩ = some (.int .i64 (digits S)) := hc 0 _ rfl 3 _ rfl
            rw [HDG.out] at c3
            simp only [List.length_cons, List.length_nil, Nat.zero_add] at hv
            subst hv
            have hst2 := hst
            clear hc hv1 f1
            go_wp2_with fail
            go_ret
            exact ⟨rfl, F2.out⟩
      · have hq2 : a1 % 4 = 1 := HQ.out
        have hsrc : ByteArray.mk #[32] ++ bs S ++ ByteArray.mk #[99] = bs (32 :: (S ++ [99])) := by
          show bs [32] ++ bs S ++ bs [99] = _
          rw [bs_app, bs_app]; rfl
        have hst : bs S ++ ByteArray.mk #[99] = bs (S ++ [99]) := bs_app S [99]
        by_cases hbig : 15 < S.length
        · have hb : (15 : Int) < S.length := by omega
          have hall : lexAll (32 :: (S ++ [99])) = ([], 1, 32) := by
            rw [lex_one S [99] HD.out HL1.out (by simp only [List.length_cons, List.length_append, List.length_nil]; omega), numTok_big15 (c := 99) (by simp) HD.out hbig]
            rfl
          by_cases h18 : (18 : Int) < S.length
          · have cA := fun w => all_any (bs (32 :: (S ++ [99]))) (by rw [bs_size]; simp only [List.length_cons, List.length_append, List.length_nil]; omega) w
            rw [bs_list, hall] at cA
            have CA := hid cA
            clear cA hall
            go_wp2_with fail
            first | rw [show ByteArray.mk #[32] ++ bs S ++ ByteArray.mk #[99] = bs (32 :: (S ++ [99])) from hsrc] | skip
            refine (CA.out _).mono ?_
            rintro e w1 ⟨v1, rfl, hv1, _, f1⟩
            have F2 := hid (F1.out.tr f1)
            obtain ⟨av, cv, hv, _, _⟩ := hv1.form
            subst hv
            clear hv1 f1
            go_wp2_with fail
            go_ret
            exact ⟨rfl, F2.out⟩
          · have cA := fun w => all_any (bs (32 :: (S ++ [99]))) (by rw [bs_size]; simp only [List.length_cons, List.length_append, List.length_nil]; omega) w
            rw [bs_list, hall] at cA
            have CA := hid cA
            clear cA hall
            go_wp2_with fail
            first | rw [show ByteArray.mk #[32] ++ bs S ++ ByteArray.mk #[99] = bs (32 :: (S ++ [99])) from hsrc] | skip
            refine (CA.out _).mono ?_
            rintro e w1 ⟨v1, rfl, hv1, _, f1⟩
            have F2 := hid (F1.out.tr f1)
            obtain ⟨av, cv, hv, _, _⟩ := hv1.form
            subst hv
            clear hv1 f1
            go_wp2_with fail
            go_ret
            exact ⟨rfl, F2.out⟩
        · have hb : ¬ (15 : Int) < S.length := by omega
          have h18 : ¬ (18 : Int) < S.length := by omega
          have hall : lexAll (32 :: (S ++ [99])) = ([⟨4, 1, S ++ [99], 0, fl (digits S), 0⟩, endTok (1 + (S ++ [99]).length : Nat)], 0, 0) := lex_whole HD.out HL1.out (by simp only [List.length_cons, List.length_append, List.length_nil]; omega) (numTok_cplx (c := 99) (by simp) HD.out (by omega))
          have cA := fun w => all_any (bs (32 :: (S ++ [99]))) (by rw [bs_size]; simp only [List.length_cons, List.length_append, List.length_nil]; omega) w
          rw [bs_list, hall] at cA
          have CA := hid cA
          clear cA hall
          go_wp2_with fail
          first | rw [show ByteArray.mk #[32] ++ bs S ++ ByteArray.mk #[99] = bs (32 :: (S ++ [99])) from hsrc] | skip
          refine (CA.out _).mono ?_
          rintro e w1 ⟨v1, rfl, hv1, _, f1⟩
          have F2 := hid (F1.out.tr f1)
          obtain h | ⟨b, cap, hv, hc⟩ := hv1.tok
          · exact absurd h (by simp)
          have c0 : w1.cell? ⟨b, 0, none⟩ = some (.int .i64 4) := hc 0 _ rfl 0 _ rfl
          have c1 : w1.cell? ⟨b, 1, none⟩ = some (.int .i64 1) := hc 0 _ rfl 1 _ rfl
          have c2 : w1.cell? ⟨b, 2, none⟩ = some (.string (bs (S ++ [99]))) := hc 0 _ rfl 2 _ rfl
          have c4 : w1.cell? ⟨b, 4, none⟩ = some (.complex .f64 (fl (digits S)) 0) := hc 0 _ rfl 4 _ rfl
          rw [HDG.out] at c4
          unfold fl at c4
          have o1 : FloatKind.f64.format.order 0 0 = some Ordering.eq := by decide +kernel
          have o2 : FloatKind.f64.format.order (floatOfInt .f64 m) (floatOfInt .f64 m) = some Ordering.eq := order_nearest m (by omega)
          simp only [List.length_cons, List.length_nil, Nat.zero_add] at hv
          subst hv
          have hst2 := hst
          clear hc hv1 f1
          go_wp2_with fail
          go_ret
          exact ⟨rfl, F2.out⟩
      · have hq2 : a1 % 4 = 2 := HQ.out
        have hsrc : ByteArray.mk #[32] ++ bs S ++ ByteArray.mk #[105] = bs (32 :: (S ++ [105])) := by
          show bs [32] ++ bs S ++ bs [105] = _
          rw [bs_app, bs_app]; rfl
        have hst : bs S ++ ByteArray.mk #[105] = bs (S ++ [105]) := bs_app S [105]
        by_cases hbig : 15 < S.length
        · have hb : (15 : Int) < S.length := by omega
          have hall : lexAll (32 :: (S ++ [105])) = ([], 1, 32) := by
            rw [lex_one S [105] HD.out HL1.out (by simp only [List.length_cons, List.length_append, List.length_nil]; omega), numTok_big15 (c := 105) (by simp) HD.out hbig]
            rfl
          by_cases h18 : (18 : Int) < S.length
          · have cA := fun w => all_any (bs (32 :: (S ++ [105]))) (by rw [bs_size]; simp only [List.length_cons, List.length_append, List.length_nil]; omega) w
            rw [bs_list, hall] at cA
            have CA := hid cA
            clear cA hall
            go_wp2_with fail
            first | rw [show ByteArray.mk #[32] ++ bs S ++ ByteArray.mk #[105] = bs (32 :: (S ++ [105])) from hsrc] | skip
            refine (CA.out _).mono ?_
            rintro e w1 ⟨v1, rfl, hv1, _, f1⟩
            have F2 := hid (F1.out.tr f1)
            obtain ⟨av, cv, hv, _, _⟩ := hv1.form
            subst hv
            clear hv1 f1
            go_wp2_with fail
            go_ret
            exact ⟨rfl, F2.out⟩
          · have cA := fun w => all_any (bs (32 :: (S ++ [105]))) (by rw [bs_size]; simp only [List.length_cons, List.length_append, List.length_nil]; omega) w
            rw [bs_list, hall] at cA
            have CA := hid cA
            clear cA hall
            go_wp2_with fail
            first | rw [show ByteArray.mk #[32] ++ bs S ++ ByteArray.mk #[105] = bs (32 :: (S ++ [105])) from hsrc] | skip
            refine (CA.out _).mono ?_
            rintro e w1 ⟨v1, rfl, hv1, _, f1⟩
            have F2 := hid (F1.out.tr f1)
            obtain ⟨av, cv, hv, _, _⟩ := hv1.form
            subst hv
            clear hv1 f1
            go_wp2_with fail
            go_ret
            exact ⟨rfl, F2.out⟩
        · have hb : ¬ (15 : Int) < S.length := by omega
          have h18 : ¬ (18 : Int) < S.length := by omega
          have hall : lexAll (32 :: (S ++ [105])) = ([⟨4, 1, S ++ [105], 0, 0, fl (digits S)⟩, endTok (1 + (S ++ [105]).length : Nat)], 0, 0) := lex_whole HD.out HL1.out (by simp only [List.length_cons, List.length_append, List.length_nil]; omega) (numTok_cplx (c := 105) (by simp) HD.out (by omega))
          have cA := fun w => all_any (bs (32 :: (S ++ [105]))) (by rw [bs_size]; simp only [List.length_cons, List.length_append, List.length_nil]; omega) w
          rw [bs_list, hall] at cA
          have CA := hid cA
          clear cA hall
          go_wp2_with fail
          first | rw [show ByteArray.mk #[32] ++ bs S ++ ByteArray.mk #[105] = bs (32 :: (S ++ [105])) from hsrc] | skip
          refine (CA.out _).mono ?_
          rintro e w1 ⟨v1, rfl, hv1, _, f1⟩
          have F2 := hid (F1.out.tr f1)
          obtain h | ⟨b, cap, hv, hc⟩ := hv1.tok
          · exact absurd h (by simp)
          have c0 : w1.cell? ⟨b, 0, none⟩ = some (.int .i64 4) := hc 0 _ rfl 0 _ rfl
          have c1 : w1.cell? ⟨b, 1, none⟩ = some (.int .i64 1) := hc 0 _ rfl 1 _ rfl
          have c2 : w1.cell? ⟨b, 2, none⟩ = some (.string (bs (S ++ [105]))) := hc 0 _ rfl 2 _ rfl
          have c4 : w1.cell? ⟨b, 4, none⟩ = some (.complex .f64 0 (fl (digits S))) := hc 0 _ rfl 4 _ rfl
          rw [HDG.out] at c4
          unfold fl at c4
          have o1 : FloatKind.f64.format.order 0 0 = some Ordering.eq := by decide +kernel
          have o2 : FloatKind.f64.format.order (floatOfInt .f64 m) (floatOfInt .f64 m) = some Ordering.eq := order_nearest m (by omega)
          simp only [List.length_cons, List.length_nil, Nat.zero_add] at hv
          subst hv
          have hst2 := hst
          clear hc hv1 f1
          go_wp2_with fail
          go_ret
          exact ⟨rfl, F2.out⟩
      · have hq2 : a1 % 4 = 3 := HQ.out
        have hsrc : ByteArray.mk #[32] ++ bs S ++ ByteArray.mk #[120] = bs (32 :: (S ++ [120])) := by
          show bs [32] ++ bs S ++ bs [120] = _
          rw [bs_app, bs_app]; rfl
        have hst : bs S ++ ByteArray.mk #[120] = bs (S ++ [120]) := bs_app S [120]
        by_cases hbig : 18 < S.length
        · have hb : (18 : Int) < S.length := by omega
          have hall : lexAll (32 :: (S ++ [120])) = ([], 1, 32) := by
            rw [lex_one S [120] HD.out HL1.out (by simp only [List.length_cons, List.length_append, List.length_nil]; omega), numTok_big (t := [120]) HD.out (.inr ⟨_, [], rfl, rfl⟩) hbig]
            rfl
          have cA := fun w => all_any (bs (32 :: (S ++ [120]))) (by rw [bs_size]; simp only [List.length_cons, List.length_append, List.length_nil]; omega) w
          rw [bs_list, hall] at cA
          have CA := hid cA
          clear cA hall
          go_wp2_with fail
          first | rw [show ByteArray.mk #[32] ++ bs S ++ ByteArray.mk #[120] = bs (32 :: (S ++ [120])) from hsrc] | skip
          refine (CA.out _).mono ?_
          rintro e w1 ⟨v1, rfl, hv1, _, f1⟩
          have F2 := hid (F1.out.tr f1)
          obtain ⟨av, cv, hv, _, _⟩ := hv1.form
          subst hv
          clear hv1 f1
          go_wp2_with fail
          go_ret
          exact ⟨rfl, F2.out⟩
        · have hb : ¬ (18 : Int) < S.length := by omega
          have hall : lexAll (32 :: (S ++ [120])) = ([], 1, 180) := by
            rw [lex_one S [120] HD.out HL1.out (by simp only [List.length_cons, List.length_append, List.length_nil]; omega), numTok_x HD.out (by omega)]
            rfl
          by_cases h15 : (15 : Int) < S.length
          · have cA := fun w => all_any (bs (32 :: (S ++ [120]))) (by rw [bs_size]; simp only [List.length_cons, List.length_append, List.length_nil]; omega) w
            rw [bs_list, hall] at cA
            have CA := hid cA
            clear cA hall
            go_wp2_with fail
            first | rw [show ByteArray.mk #[32] ++ bs S ++ ByteArray.mk #[120] = bs (32 :: (S ++ [120])) from hsrc] | skip
            refine (CA.out _).mono ?_
            rintro e w1 ⟨v1, rfl, hv1, _, f1⟩
            have F2 := hid (F1.out.tr f1)
            obtain ⟨av, cv, hv, _, _⟩ := hv1.form
            subst hv
            clear hv1 f1
            go_wp2_with fail
            go_ret
            exact ⟨rfl, F2.out⟩
          · have cA := fun w => all_any (bs (32 :: (S ++ [120]))) (by rw [bs_size]; simp only [List.length_cons, List.length_append, List.length_nil]; omega) w
            rw [bs_list, hall] at cA
            have CA := hid cA
            clear cA hall
            go_wp2_with fail
            first | rw [show ByteArray.mk #[32] ++ bs S ++ ByteArray.mk #[120] = bs (32 :: (S ++ [120])) from hsrc] | skip
            refine (CA.out _).mono ?_
            rintro e w1 ⟨v1, rfl, hv1, _, f1⟩
            have F2 := hid (F1.out.tr f1)
            obtain ⟨av, cv, hv, _, _⟩ := hv1.form
            subst hv
            clear hv1 f1
            go_wp2_with fail
            go_ret
            exact ⟨rfl, F2.out⟩

end Go.Proofs.Ytlkkekjbcaabcaa
