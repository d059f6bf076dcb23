/-
  Package lex: numbers (number_i).
-/
import Derived.Test.YtlkkekjbcaabcaaLexD0
namespace Go.Proofs.Ytlkkekjbcaabcaa
open Go.RowKit

set_option maxRecDepth 20000 in
set_option maxHeartbeats 8000000 in
theorem number_i (s : ByteArray) (hs : s.size ≤ 1000000) (w : World) (hb0 : 105 = (s.data.toList.getD (runLen isDigit s.data.toList) 0).toNat) (hb1 : runLen isDigit s.data.toList < s.size) (h18 : runLen isDigit s.data.toList ≤ 18) : Calls Try.prog 32 #[.string s] w (TokPost w (numTok s.data.toList)) := by
  obtain ⟨n, hn⟩ : ∃ n, n = runLen isDigit s.data.toList := ⟨_, rfl⟩
  have hl1 := runLen_le isDigit s.data.toList
  rw [← hn, len_eq] at hl1
  have c1 := run_any digit_any (enters_of Try.func31 (by kernel_rfl) rfl) s hs
  rw [← hn] at c1
  have C1 := hid c1
  have HN := hid hn
  clear c1 hn
  go_enter Try.func32, Try.ntmps32
  go_wp2_with fail
  refine (C1.out _).mono ?_
  rintro e w2 ⟨rfl, rfl⟩
  have hsc := run_store_complex
  have HB0 := hid hb0
  have HB1 := hid hb1
  have H18 := hid h18
  clear hb0 hb1 h18
  by_cases hbig : 18 < n
  · exact absurd H18.out (by rw [← HN.out]; omega)
  · have hb : ¬ (18 : Int) < n := by omega
    have hn18 : n ≤ 18 := by omega
    have hszt : (s.extract 0 n).size = n := by simp [ByteArray.size_extract]; omega
    obtain ⟨w1, hw1⟩ : ∃ w1, w1 = (w.alloc (Obj.cells #[.int .i64 0, .int .i64 0, .string ⟨#[]⟩, .int .i64 0, .complex .f64 0 0] 31)).alloc (Obj.cells #[.int .i64 3, .int .i64 0, .string (s.extract 0 n), .int .i64 0, .complex .f64 0 0] 31) := ⟨_, rfl⟩
    obtain ⟨cap, w3, hcv, f3, hby⟩ := conv_bytes w1 (s.extract 0 n)
    rw [hszt] at hby
    have hsz1 : w1.heap.size = w.heap.size + 2 := by rw [hw1]; simp
    have ht0 : w1.heap[w.heap.size]? = some (.cells #[.int .i64 0, .int .i64 0, .string ⟨#[]⟩, .int .i64 0, .complex .f64 0 0] 31 (0, 0)) := by
      rw [hw1]
      exact ((Fr.refl [] _).alloc _).obj (heap_alloc_new w _) (by simp)
    have ht1 : w1.heap[w.heap.size + 1]? = some (.cells #[.int .i64 3, .int .i64 0, .string (s.extract 0 n), .int .i64 0, .complex .f64 0 0] 31 (0, 0)) := by
      rw [hw1]
      have := heap_alloc_new (w.alloc (Obj.cells #[.int .i64 0, .int .i64 0, .string ⟨#[]⟩, .int .i64 0, .complex .f64 0 0] 31)) (Obj.cells #[.int .i64 3, .int .i64 0, .string (s.extract 0 n), .int .i64 0, .complex .f64 0 0] 31)
      rw [World.size_alloc] at this
      exact this
    have f1 : Fr [] w w1 := by rw [hw1]; exact ((Fr.refl [] w).alloc _).alloc _
    have hrel0 : NRel w w3 s n 0 := by
      refine ⟨f1.tr f3, f3.obj ht0 (by simp), f3.obj ht1 (by simp), fun j hj => ?_⟩
      rw [← hsz1, hby j hj, ext_take]
      congr 2
      simp only [List.getD, List.getElem?_take, if_pos hj]
    have HREL0 := hid hrel0
    have ht2 := f3.cell (p := ⟨w.heap.size + 1, 2, none⟩) (v := .string (s.extract 0 n)) (by rw [cell_of_row _ _ _ _ _ _ ht1]; rfl) (by simp)
    rw [hw1, hszt] at hcv
    rw [World.size_alloc, World.size_alloc] at hcv
    clear hby ht0 ht1 f1 f3 hsz1 hw1 hrel0
    go_wp2_with fail
    clear ht2 hcv
    go_loopw [22] (fun i wr => ∃ k : Nat, k ≤ n ∧ i = .int .i64 k ∧ Hid (NRel w wr s n k)) (fun i _ => n - (intOf i).toNat)
    case atStart => exact ⟨0, Nat.zero_le _, rfl, HREL0.out⟩
    case round =>
      obtain ⟨k, hk, rfl, hq⟩ := hrel
      obtain ⟨q1, q2, q3, q4⟩ := hq.out
      by_cases hlt : k < n
      · have hc := q4 k hlt
        have hac : wr.cell? ⟨w.heap.size + 1, 3, none⟩ = some (.int .i64 (digits (s.data.toList.take k))) := by rw [cell_of_row _ _ _ _ _ _ q3]; rfl
        have hfz : wr.frozen? ⟨w.heap.size + 1, 3, none⟩ = false := frozen_of_row _ _ _ _ _ q3
        have hdg := runLen_all isDigit s.data.toList k (by rw [← HN.out]; exact hlt)
        have hbd := digits_bound s.data.toList k (by rw [← HN.out]; omega)
        have hdt := digits_take s.data.toList k (by rw [len_eq]; omega)
        simp only [isDigit, Bool.and_eq_true, decide_eq_true_eq] at hdg
        unfold bv at hc
        obtain ⟨d, hd⟩ : ∃ d : Nat, (s.data.toList.getD k 0).toNat = d + 48 := ⟨(s.data.toList.getD k 0).toNat - 48, by omega⟩
        rw [hd] at hc hdg hdt
        have hd9 : d ≤ 9 := by omega
        have hp17 : 10 ^ k ≤ 10 ^ 17 := Nat.pow_le_pow_right (by omega) (by omega)
        have HDT := hid hdt
        obtain ⟨acc, hacc⟩ : ∃ acc, acc = digits (s.data.toList.take k) := ⟨_, rfl⟩
        rw [← hacc] at hac hbd HDT
        have HAC := hid hacc
        obtain ⟨h0, h1⟩ := hbd
        have h2 : acc < 100000000000000000 := by omega
        have HQ := hid hq.out
        clear hd hdg hdt hp17 hacc q1 q2 q3 q4 hq h1
        go_wp2_with fail
        go_roundw
        case rel => exact ⟨k + 1, by omega, by go_num, hid (NRel.step HQ.out (by rw [HDT.out]; omega))⟩
        case measure => simp [intOf]; omega
      · obtain rfl : k = n := by omega
        obtain ⟨t0, t1, t2, t3, t4⟩ := five q3
        obtain ⟨z0, z1, z2, z3, z4⟩ := five q2
        have fz0 := fun off => frozen_of_row _ _ off _ _ q2
        have fz1 := fun off => frozen_of_row _ _ off _ _ q3
        have HQ := hid hq.out
        clear hq q1 q2 q3 q4 hlt hk HREL0
        have HX := hid (bs_of (ext_take s k))
        by_cases hsz : k < s.size
        · have hget := get_at s k hsz
          have HGET := hid hget
          have b105 : s[k].toNat = 105 := by rw [hget, HN.out]; exact HB0.out.symm
          have hci : isCI s.data.toList k = true := by
            unfold isCI
            rw [← hget, decide_eq_true (by rw [len_eq]; exact hsz)]
            simp [← UInt8.toNat_inj, b105]
          by_cases h15 : 15 < k
          · have HE := hid (show numTok s.data.toList = (Tok.zero, 32) by
              unfold numTok
              simp only []
              rw [← HN.out, if_neg hbig, hci, if_pos rfl, if_pos h15])
            have HX1 := hid (show (ByteArray.mk #[]) = bs [] from rfl)
            have h15' : (15 : Int) < k := by omega
            have e99 : ((s[k].toNat : Int) == 99) = false := by rw [b105]; rfl
            have e105 : ((s[k].toNat : Int) == 105) = true := by rw [b105]; rfl
            clear b105 hget hci
            go_wp2_with fail
            exact num_fin HE.out (by first | exact HX1.out | rfl) (by first | exact HQ.out.2.1 | ((repeat rw [heap_setCell_other _ _ _ _ (by simp)]); exact HQ.out.2.1)) (by first | exact HQ.out.1 | (repeat (first | exact HQ.out.1 | refine Fr.setCell ?_ (.inr (by simp)) _))) (Nat.le_refl _) rfl rfl rfl
          have hsz3 : (s.extract 0 (k + 1)).size = k + 1 := by simp [ByteArray.size_extract]; omega
          have h15' : ¬ (15 : Int) < k := by omega
          have e99 : ((s[k].toNat : Int) == 99) = false := by rw [b105]; rfl
          have e105 : ((s[k].toNat : Int) == 105) = true := by rw [b105]; rfl
          have HX1 := hid (bs_of (ext_take s (k + 1)))
          have HNT := hid (show numTok s.data.toList = if restName s.data.toList (k + 1) then (Tok.zero, 180) else (⟨4, 0, s.data.toList.take (k + 1), 0, 0, fl (digits (s.data.toList.take k))⟩, 0) by
            unfold numTok
            simp only []
            rw [← HN.out, if_neg hbig, hci, if_pos rfl, if_neg h15]
            have : (s.data.toList.getD k 0 = 105) = True := by rw [← hget, ← UInt8.toNat_inj, b105]; simp
            simp only [this]
            rfl)
          clear b105 hget hci
          obtain ⟨q1, e1⟩ : ∃ q, wr.setCell ⟨w.heap.size + 1, 0, none⟩ (.int .i64 4) = q := ⟨_, rfl⟩
          have B1 := heap_setCell_same _ (w.heap.size + 1) 0 _ _ (.int .i64 4) HQ.out.2.2.1
          have Z1 : q1.heap[w.heap.size]? = some (.cells zc 31 (0, 0)) := by rw [← e1, heap_setCell_other _ _ _ _ (by simp)]; exact HQ.out.2.1
          have G1 : Fr [] w q1 := by rw [← e1]; exact HQ.out.1.setCell (.inr (by simp)) _
          rw [e1] at B1
          obtain ⟨q2, e2⟩ : ∃ q, q1.setCell ⟨w.heap.size + 1, 2, none⟩ (.string (s.extract 0 (k + 1))) = q := ⟨_, rfl⟩
          have B2 := heap_setCell_same _ (w.heap.size + 1) 2 _ _ (.string (s.extract 0 (k + 1))) B1
          have Z2 : q2.heap[w.heap.size]? = some (.cells zc 31 (0, 0)) := by rw [← e2, heap_setCell_other _ _ _ _ (by simp)]; exact Z1
          have G2 : Fr [] w q2 := by rw [← e2]; exact G1.setCell (.inr (by simp)) _
          rw [e2] at B2
          obtain ⟨q3, e3⟩ : ∃ q, q2.setCell ⟨w.heap.size + 1, 4, none⟩ (.complex .f64 (floatOfInt .f64 (digits (s.data.toList.take k))) 0) = q := ⟨_, rfl⟩
          have B3 := heap_setCell_same _ (w.heap.size + 1) 4 _ _ (.complex .f64 (floatOfInt .f64 (digits (s.data.toList.take k))) 0) B2
          have Z3 : q3.heap[w.heap.size]? = some (.cells zc 31 (0, 0)) := by rw [← e3, heap_setCell_other _ _ _ _ (by simp)]; exact Z2
          have G3 : Fr [] w q3 := by rw [← e3]; exact G2.setCell (.inr (by simp)) _
          rw [e3] at B3
          obtain ⟨q4, e4⟩ : ∃ q, q3.setCell ⟨w.heap.size + 1, 4, none⟩ (.complex .f64 0 (floatOfInt .f64 (digits (s.data.toList.take k)))) = q := ⟨_, rfl⟩
          have B4 := heap_setCell_same _ (w.heap.size + 1) 4 _ _ (.complex .f64 0 (floatOfInt .f64 (digits (s.data.toList.take k)))) B3
          have Z4 : q4.heap[w.heap.size]? = some (.cells zc 31 (0, 0)) := by rw [← e4, heap_setCell_other _ _ _ _ (by simp)]; exact Z3
          have G4 : Fr [] w q4 := by rw [← e4]; exact G3.setCell (.inr (by simp)) _
          rw [e4] at B4
          obtain ⟨q5, e5⟩ : ∃ q, q4.setCell ⟨w.heap.size + 1, 3, none⟩ (.int .i64 0) = q := ⟨_, rfl⟩
          have B5 := heap_setCell_same _ (w.heap.size + 1) 3 _ _ (.int .i64 0) B4
          have Z5 : q5.heap[w.heap.size]? = some (.cells zc 31 (0, 0)) := by rw [← e5, heap_setCell_other _ _ _ _ (by simp)]; exact Z4
          have G5 : Fr [] w q5 := by rw [← e5]; exact G4.setCell (.inr (by simp)) _
          rw [e5] at B5
          have p12 : q1.cell? ⟨w.heap.size + 1, 2, none⟩ = some (.string (s.extract 0 k)) := by rw [cell_of_row _ _ _ _ _ _ B1]; rfl
          have p23 : q2.cell? ⟨w.heap.size + 1, 3, none⟩ = some (.int .i64 (digits (s.data.toList.take k))) := by rw [cell_of_row _ _ _ _ _ _ B2]; rfl
          have p24 : q2.cell? ⟨w.heap.size + 1, 4, none⟩ = some (.complex .f64 0 0) := by rw [cell_of_row _ _ _ _ _ _ B2]; rfl
          have p33 : q3.cell? ⟨w.heap.size + 1, 3, none⟩ = some (.int .i64 (digits (s.data.toList.take k))) := by rw [cell_of_row _ _ _ _ _ _ B3]; rfl
          have p34 : q3.cell? ⟨w.heap.size + 1, 4, none⟩ = some (.complex .f64 (floatOfInt .f64 (digits (s.data.toList.take k))) 0) := by rw [cell_of_row _ _ _ _ _ _ B3]; rfl
          have p43 : q4.cell? ⟨w.heap.size + 1, 3, none⟩ = some (.int .i64 (digits (s.data.toList.take k))) := by rw [cell_of_row _ _ _ _ _ _ B4]; rfl
          have B5' : q5.heap[w.heap.size + 1]? = some (.cells #[.int .i64 4, .int .i64 0, .string (s.extract 0 (k + 1)), .int .i64 0, .complex .f64 0 (floatOfInt .f64 (digits (s.data.toList.take k)))] 31 (0, 0)) := B5
          obtain ⟨p50, p51, p52, p53, p54⟩ := five B5'
          obtain ⟨y50, y51, y52, y53, y54⟩ := five Z5
          have g1 := fun off => frozen_of_row _ _ off _ _ B1
          have g2 := fun off => frozen_of_row _ _ off _ _ B2
          have g3 := fun off => frozen_of_row _ _ off _ _ B3
          have g4 := fun off => frozen_of_row _ _ off _ _ B4
          have g5 := fun off => frozen_of_row _ _ off _ _ Z5
          have HZ5 := hid Z5
          have HG5 := hid G5
          clear B1 B2 B3 B4 B5 B5' Z1 Z2 Z3 Z4 Z5 G1 G2 G3 G4 G5 t1 t3 t4 z0 z1 z2 z3 z4 fz0
          by_cases hsz2 : k + 1 < s.size
          · have hrn : restName s.data.toList (k + 1) = isName (s.data.toList.getD (k + 1) 0) := by
              unfold restName
              rw [decide_eq_true (by rw [len_eq]; exact hsz2), Bool.true_and]
            have HGET2 := hid (get_at s (k + 1) hsz2)
            have HNT2 := hid HNT.out
            rw [hrn] at HNT2
            clear hrn
            go_wp2_with fail
            rw [HGET2.out]
            refine (letter_any _ _).mono ?_
            rintro e w' ⟨rfl, rfl⟩
            cases hl : isLetter (s.data.toList.getD (k + 1) 0) with
            | true =>
              have HE := hid HNT2.out
              unfold isName at HE
              rw [hl] at HE
              simp only [Bool.true_or, if_true] at HE
              clear hl
              go_wp2_with fail
              exact num_fin HE.out (by first | exact HX1.out | rfl) HZ5.out HG5.out (Nat.le_refl _) rfl rfl rfl
            | false =>
              have HL := hid hl
              clear hl
              go_wp2_with fail
              rw [HGET2.out]
              refine (digit_any _ _).mono ?_
              rintro e w' ⟨rfl, rfl⟩
              cases hl : isDigit (s.data.toList.getD (k + 1) 0) with
              | true =>
                have HE := hid HNT2.out
                unfold isName at HE
                rw [hl, Bool.or_true, if_pos rfl] at HE
                clear hl
                go_wp2_with fail
                exact num_fin HE.out (by first | exact HX1.out | rfl) HZ5.out HG5.out (Nat.le_refl _) rfl rfl rfl
              | false =>
                have HE := hid HNT2.out
                unfold isName at HE
                rw [hl, HL.out, Bool.or_false, if_neg (by simp)] at HE
                clear hl
                go_wp2_with fail
                exact num_fin HE.out (by first | exact HX1.out | rfl) HZ5.out HG5.out (Nat.le_refl _) rfl rfl rfl
          · have hk1 : s.size = k + 1 := by omega
            have hrn : restName s.data.toList (k + 1) = false := by unfold restName; rw [len_eq]; simp; omega
            have HE := hid HNT.out
            rw [hrn, if_neg (by simp)] at HE
            clear hrn
            go_wp2_with fail
            exact num_fin HE.out (by first | exact HX1.out | rfl) HZ5.out HG5.out (Nat.le_refl _) rfl rfl rfl
        · exact absurd HB1.out (by rw [← HN.out]; omega)

end Go.Proofs.Ytlkkekjbcaabcaa
