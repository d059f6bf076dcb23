/-
  Package lex: numbers (number_p).
-/
import Derived.Test.YtlkkekjbcaabcaaLexD0
namespace Go.Proofs.Ytlkkekjbcaabcaa
open Go.RowKit

set_option maxRecDepth 20000 in
set_option maxHeartbeats 8000000 in
theorem number_p (s : ByteArray) (hs : s.size ≤ 1000000) (w : World) (hb0 : isCI s.data.toList (runLen isDigit s.data.toList) = false ∨ 18 < runLen isDigit s.data.toList) : Calls Try.prog 32 #[.string s] w (TokPost w (numTok s.data.toList)) := by
  obtain ⟨n, hn⟩ : ∃ n, n = runLen isDigit s.data.toList := ⟨_, rfl⟩
  have hl1 := runLen_le isDigit s.data.toList
  rw [← hn, len_eq] at hl1
  have c1 := run_any digit_any (enters_of Try.func31 (by kernel_rfl) rfl) s hs
  rw [← hn] at c1
  have C1 := hid c1
  have HN := hid hn
  clear c1 hn
  go_enter Try.func32, Try.ntmps32
  go_wp2_with fail
  refine (C1.out _).mono ?_
  rintro e w2 ⟨rfl, rfl⟩
  have hsc := run_store_complex
  rw [← HN.out] at hb0
  have HB0 := hid hb0
  clear hb0
  by_cases hbig : 18 < n
  · have hb : (18 : Int) < n := by omega
    go_wp2_with fail
    refine bodyPost_ret (results_row_tmp (fn := Try.f32) rfl _ _ w.heap.size _ _ _ _ rfl (heap_alloc_new _ _) tok_under rfl tok_size) rfl ?_
    refine ⟨?_, (Fr.refl _ _).alloc _⟩
    unfold numTok
    simp only []
    rw [← HN.out, if_pos hbig]
    rfl
  · have hb : ¬ (18 : Int) < n := by omega
    have hn18 : n ≤ 18 := by omega
    have hszt : (s.extract 0 n).size = n := by simp [ByteArray.size_extract]; omega
    obtain ⟨w1, hw1⟩ : ∃ w1, w1 = (w.alloc (Obj.cells #[.int .i64 0, .int .i64 0, .string ⟨#[]⟩, .int .i64 0, .complex .f64 0 0] 31)).alloc (Obj.cells #[.int .i64 3, .int .i64 0, .string (s.extract 0 n), .int .i64 0, .complex .f64 0 0] 31) := ⟨_, rfl⟩
    obtain ⟨cap, w3, hcv, f3, hby⟩ := conv_bytes w1 (s.extract 0 n)
    rw [hszt] at hby
    have hsz1 : w1.heap.size = w.heap.size + 2 := by rw [hw1]; simp
    have ht0 : w1.heap[w.heap.size]? = some (.cells #[.int .i64 0, .int .i64 0, .string ⟨#[]⟩, .int .i64 0, .complex .f64 0 0] 31 (0, 0)) := by
      rw [hw1]
      exact ((Fr.refl [] _).alloc _).obj (heap_alloc_new w _) (by simp)
    have ht1 : w1.heap[w.heap.size + 1]? = some (.cells #[.int .i64 3, .int .i64 0, .string (s.extract 0 n), .int .i64 0, .complex .f64 0 0] 31 (0, 0)) := by
      rw [hw1]
      have := heap_alloc_new (w.alloc (Obj.cells #[.int .i64 0, .int .i64 0, .string ⟨#[]⟩, .int .i64 0, .complex .f64 0 0] 31)) (Obj.cells #[.int .i64 3, .int .i64 0, .string (s.extract 0 n), .int .i64 0, .complex .f64 0 0] 31)
      rw [World.size_alloc] at this
      exact this
    have f1 : Fr [] w w1 := by rw [hw1]; exact ((Fr.refl [] w).alloc _).alloc _
    have hrel0 : NRel w w3 s n 0 := by
      refine ⟨f1.tr f3, f3.obj ht0 (by simp), f3.obj ht1 (by simp), fun j hj => ?_⟩
      rw [← hsz1, hby j hj, ext_take]
      congr 2
      simp only [List.getD, List.getElem?_take, if_pos hj]
    have HREL0 := hid hrel0
    have ht2 := f3.cell (p := ⟨w.heap.size + 1, 2, none⟩) (v := .string (s.extract 0 n)) (by rw [cell_of_row _ _ _ _ _ _ ht1]; rfl) (by simp)
    rw [hw1, hszt] at hcv
    rw [World.size_alloc, World.size_alloc] at hcv
    clear hby ht0 ht1 f1 f3 hsz1 hw1 hrel0
    go_wp2_with fail
    clear ht2 hcv
    go_loopw [22] (fun i wr => ∃ k : Nat, k ≤ n ∧ i = .int .i64 k ∧ Hid (NRel w wr s n k)) (fun i _ => n - (intOf i).toNat)
    case atStart => exact ⟨0, Nat.zero_le _, rfl, HREL0.out⟩
    case round =>
      obtain ⟨k, hk, rfl, hq⟩ := hrel
      obtain ⟨q1, q2, q3, q4⟩ := hq.out
      by_cases hlt : k < n
      · have hc := q4 k hlt
        have hac : wr.cell? ⟨w.heap.size + 1, 3, none⟩ = some (.int .i64 (digits (s.data.toList.take k))) := by rw [cell_of_row _ _ _ _ _ _ q3]; rfl
        have hfz : wr.frozen? ⟨w.heap.size + 1, 3, none⟩ = false := frozen_of_row _ _ _ _ _ q3
        have hdg := runLen_all isDigit s.data.toList k (by rw [← HN.out]; exact hlt)
        have hbd := digits_bound s.data.toList k (by rw [← HN.out]; omega)
        have hdt := digits_take s.data.toList k (by rw [len_eq]; omega)
        simp only [isDigit, Bool.and_eq_true, decide_eq_true_eq] at hdg
        unfold bv at hc
        obtain ⟨d, hd⟩ : ∃ d : Nat, (s.data.toList.getD k 0).toNat = d + 48 := ⟨(s.data.toList.getD k 0).toNat - 48, by omega⟩
        rw [hd] at hc hdg hdt
        have hd9 : d ≤ 9 := by omega
        have hp17 : 10 ^ k ≤ 10 ^ 17 := Nat.pow_le_pow_right (by omega) (by omega)
        have HDT := hid hdt
        obtain ⟨acc, hacc⟩ : ∃ acc, acc = digits (s.data.toList.take k) := ⟨_, rfl⟩
        rw [← hacc] at hac hbd HDT
        have HAC := hid hacc
        obtain ⟨h0, h1⟩ := hbd
        have h2 : acc < 100000000000000000 := by omega
        have HQ := hid hq.out
        clear hd hdg hdt hp17 hacc q1 q2 q3 q4 hq h1
        go_wp2_with fail
        go_roundw
        case rel => exact ⟨k + 1, by omega, by go_num, hid (NRel.step HQ.out (by rw [HDT.out]; omega))⟩
        case measure => simp [intOf]; omega
      · obtain rfl : k = n := by omega
        obtain ⟨t0, t1, t2, t3, t4⟩ := five q3
        obtain ⟨z0, z1, z2, z3, z4⟩ := five q2
        have fz0 := fun off => frozen_of_row _ _ off _ _ q2
        have fz1 := fun off => frozen_of_row _ _ off _ _ q3
        have HQ := hid hq.out
        clear hq q1 q2 q3 q4 hlt hk HREL0
        have HX := hid (bs_of (ext_take s k))
        by_cases hsz : k < s.size
        · have hget := get_at s k hsz
          have HGET := hid hget
          have b99 : ¬ s[k].toNat = 99 := by
            intro e
            rcases HB0.out with h | h
            · unfold isCI at h
              rw [← hget, decide_eq_true (by rw [len_eq]; exact hsz)] at h
              simp [← UInt8.toNat_inj, e] at h
            · omega
          have b105 : ¬ s[k].toNat = 105 := by
            intro e
            rcases HB0.out with h | h
            · unfold isCI at h
              rw [← hget, decide_eq_true (by rw [len_eq]; exact hsz)] at h
              simp [← UInt8.toNat_inj, e] at h
            · omega
          have e1 : ((s[k].toNat : Int) == 99) = false := eqb b99
          have e2 : ((s[k].toNat : Int) == 105) = false := eqb b105
          have hci : isCI s.data.toList k = false := by
            unfold isCI
            rw [← hget]
            simp [← UInt8.toNat_inj, b99, b105]
          have hrn : restName s.data.toList k = isName (s.data.toList.getD k 0) := by
            unfold restName
            rw [decide_eq_true (by rw [len_eq]; exact hsz), Bool.true_and]
          have HNT := hid (show numTok s.data.toList = if isName (s.data.toList.getD k 0) then (Tok.zero, 180) else (⟨3, 0, s.data.toList.take k, digits (s.data.toList.take k), 0, 0⟩, 0) by
            unfold numTok
            simp only []
            rw [← HN.out, if_neg hbig, hci, hrn]
            rfl)
          clear b99 b105 hget hci hrn
          go_wp2_with fail
          rw [HGET.out]
          refine (letter_any _ _).mono ?_
          rintro e w' ⟨rfl, rfl⟩
          cases hl : isLetter (s.data.toList.getD k 0) with
          | true =>
            have HE := hid HNT.out
            unfold isName at HE
            rw [hl] at HE
            simp only [Bool.true_or, if_true] at HE
            clear hl
            go_wp2_with fail
            exact num_fin HE.out (by first | exact HX.out | rfl) (by first | exact HQ.out.2.1 | ((repeat rw [heap_setCell_other _ _ _ _ (by simp)]); exact HQ.out.2.1)) (by first | exact HQ.out.1 | (repeat (first | exact HQ.out.1 | refine Fr.setCell ?_ (.inr (by simp)) _))) (Nat.le_refl _) rfl rfl rfl
          | false =>
            have HL := hid hl
            clear hl
            go_wp2_with fail
            rw [HGET.out]
            refine (digit_any _ _).mono ?_
            rintro e w' ⟨rfl, rfl⟩
            cases hl : isDigit (s.data.toList.getD k 0) with
            | true =>
              have HE := hid HNT.out
              unfold isName at HE
              rw [hl, Bool.or_true, if_pos rfl] at HE
              clear hl
              go_wp2_with fail
              exact num_fin HE.out (by first | exact HX.out | rfl) (by first | exact HQ.out.2.1 | ((repeat rw [heap_setCell_other _ _ _ _ (by simp)]); exact HQ.out.2.1)) (by first | exact HQ.out.1 | (repeat (first | exact HQ.out.1 | refine Fr.setCell ?_ (.inr (by simp)) _))) (Nat.le_refl _) rfl rfl rfl
            | false =>
              have HE := hid HNT.out
              unfold isName at HE
              rw [hl, HL.out, Bool.or_false, if_neg (by simp)] at HE
              clear hl
              go_wp2_with fail
              exact num_fin HE.out (by first | exact HX.out | rfl) (by first | exact HQ.out.2.1 | ((repeat rw [heap_setCell_other _ _ _ _ (by simp)]); exact HQ.out.2.1)) (by first | exact HQ.out.1 | (repeat (first | exact HQ.out.1 | refine Fr.setCell ?_ (.inr (by simp)) _))) (Nat.le_refl _) rfl rfl rfl
        · obtain rfl : k = s.size := by omega
          have HX := hid (show s = bs (s.data.toList.take s.size) by
            refine bs_of ?_
            rw [List.take_of_length_le]
            rw [len_eq]; exact Nat.le_refl _)
          have HE := hid (show numTok s.data.toList = (⟨3, 0, s.data.toList.take s.size, digits (s.data.toList.take s.size), 0, 0⟩, 0) by
            unfold numTok
            simp only []
            have hci : isCI s.data.toList s.size = false := by unfold isCI; rw [len_eq]; simp
            have hrn : restName s.data.toList s.size = false := by unfold restName; rw [len_eq]; simp
            rw [← HN.out, if_neg hbig, hci, hrn]
            rfl)
          go_wp2_with fail
          exact num_fin HE.out (by first | exact HX.out | rfl) (by first | exact HQ.out.2.1 | ((repeat rw [heap_setCell_other _ _ _ _ (by simp)]); exact HQ.out.2.1)) (by first | exact HQ.out.1 | (repeat (first | exact HQ.out.1 | refine Fr.setCell ?_ (.inr (by simp)) _))) (Nat.le_refl _) rfl rfl rfl

end Go.Proofs.Ytlkkekjbcaabcaa
