/-
  The document's tokens: All.
-/
import Derived.Test.YtlkkekjbcaabcaaTelE
import Derived.Deep.Cut
import Derived.Deep.CutRange
namespace Go.Proofs.Ytlkkekjbcaabcaa
open Go.RowKit

set_option maxRecDepth 20000 in
set_option maxHeartbeats 4000000 in
theorem rall_any (s : ByteArray) (hs : s.size ≤ 1000000) (w : World) : Calls Try.prog 12 #[.string s] w (AllPost w (lexAll s.data.toList)) := by
  have hsc := run_store_complex
  by_cases hbig : 8000 < s.size
  · have e : lexAll s.data.toList = ([], 0, 32) := by unfold lexAll; rw [if_pos (by rw [len_eq]; exact hbig)]
    rw [e]
    have hb : (8000 : Int) < s.size := by omega
    clear e
    go_enter Try.func12, Try.ntmps12
    go_wp2_with fail
    go_ret3
    exact ⟨_, rfl, Toks.nil _, by simp [fpv, Value.ownBlock], Fr.refl _ _⟩
  · have hb : ¬ (8000 : Int) < s.size := by omega
    have HS8 := hid (show s.size ≤ 8000 by omega)
    have HL := hid (behind_lexAll s.data.toList (by rw [len_eq]; exact hbig))
    obtain ⟨r, hr⟩ : ∃ r, r = lexAll s.data.toList := ⟨_, rfl⟩
    rw [← hr]
    have HR := hid hr
    clear hr hbig hs
    go_enter Try.func12, Try.ntmps12
    go_wp2_with fail
    clear hb
    go_loopw [5, 6] (fun v i wr => ∃ (k m : Nat) (acc : List Tok), i = .int .i64 k ∧ k ≤ s.size ∧ Hid (FRel w wr v s m k acc)) (fun _ i _ => s.size - (intOf i).toNat)
    case atStart => exact ⟨0, s.size, [], rfl, by omega, hid ⟨Toks.nil _, by simp [fpv, Value.ownBlock], Fr.refl _ _, by rw [← HL.out, len_eq]; rfl, Nat.zero_le _, by omega, by simp⟩⟩
    case round =>
      obtain ⟨k, m, acc, rfl, hk, hf⟩ := hrel
      have hs8 := HS8.out
      by_cases hlt : k < s.size
      · have hlt2 : (k : Int) < s.size := by omega
        obtain ⟨D, hD⟩ : ∃ D, D = s.data.toList.drop k := ⟨_, rfl⟩
        have HDD := hid hD
        have HDL : Hid (D.length = s.size - k) := hid (by rw [hD, List.length_drop, len_eq])
        have HG := hid (show ∀ m, k ≤ m → ∀ h : m < s.size, s[m] = D.getD (m - k) 0 by rw [hD]; exact fun m h h2 => drop_get s k m h h2)
        have HNE : Hid (D ≠ []) := hid (fun e => by have := HDL.out; rw [e] at this; simp at this; omega)
        have HG0 := hid (HG.out k (Nat.le_refl _) hlt)
        rw [Nat.sub_self] at HG0
        obtain ⟨b0, hb0⟩ : ∃ b0, b0 = D.getD 0 0 := ⟨_, rfl⟩
        rw [← hb0] at HG0
        have HB0 := hid hb0
        clear hD hb0
        go_wp2_with fail
        rw [HG0.out]
        refine (rblank_any _ _).mono ?_
        rintro e w' ⟨rfl, rfl⟩
        cases hbl : isBlank b0 with
        | true =>
          have HST : Hid (FRel w wr u5 s m (k + 1) acc) := hid (hf.out.step (by rw [← HDD.out]; exact blank_one (by rw [HDL.out]; omega) (by rw [← HB0.out]; exact hbl)) (by omega))
          clear hbl
          go_wp2_with fail
          go_roundw
          case rel => exact ⟨k + 1, m, acc, by go_num, by omega, HST⟩
          case measure => simp [intOf]; omega
        | false =>
          have HBL := hid hbl
          clear hbl
          go_upto_region 14 with (fail)
          obtain ⟨nb, hnb⟩ : ∃ nb, nb = notes D := ⟨_, rfl⟩
          have HNB := hid hnb
          clear hnb
          go_cut [46] from 46 to 62 (fun c wx => c = .bool nb ∧ wx = wr)
          case first =>
            have HNI := hid (notes_iff (l := D))
            rw [← HB0.out] at HNI
            by_cases c1 : b0.toNat = 47
            · have e1 : ((b0.toNat : Int) == 47) = true := by rw [c1]; rfl
              have HC := hid (show ((b0.toNat : Nat) : Int) = 47 by rw [c1]; rfl)
              have g1 : (b0 == 47) = true := by rw [beq_iff_eq, ← UInt8.toNat_inj, c1]; rfl
              by_cases c2 : k + 1 < s.size
              · have c2' : (k : Int) + 1 < s.size := by omega
                have HG1 := hid (HG.out (k + 1) (by omega) c2)
                rw [show k + 1 - k = 1 by omega] at HG1
                by_cases c3 : (D.getD 1 0).toNat = 47
                · have g3 : (D.getD 1 0 == 47) = true := by rw [beq_iff_eq, ← UInt8.toNat_inj, c3]; rfl
                  have e3 : ((s[k + 1].toNat : Int) == 47) = true := by rw [HG1.out, c3]; rfl
                  have HX : Hid (nb = true) := hid (by rw [HNB.out, HNI.out, g1, g3, decide_eq_true (by rw [HDL.out]; omega)]; rfl)
                  clear c1 c3 g1 g3
                  go_wp2_with fail
                  refine Met.intro ?_
                  go_step
                  (repeat apply Exists.intro)
                  refine ⟨?rel, ?fr⟩
                  case fr => rw [HC.out]
                  case rel => exact ⟨by rw [HX.out], rfl⟩
                · have g3 : (D.getD 1 0 == 47) = false := by rw [Bool.eq_false_iff]; intro h; rw [beq_iff_eq] at h; exact c3 (by rw [h]; rfl)
                  have e3 : ((s[k + 1].toNat : Int) == 47) = false := by rw [HG1.out]; exact eqb c3
                  have HX : Hid (nb = false) := hid (by rw [HNB.out, HNI.out, g3]; simp)
                  clear c1 c3 g1 g3
                  go_wp2_with fail
                  refine Met.intro ?_
                  go_step
                  (repeat apply Exists.intro)
                  refine ⟨?rel, ?fr⟩
                  case fr => rw [HC.out]
                  case rel => exact ⟨by rw [HX.out], rfl⟩
              · have c2' : decide ((k : Int) + 1 < s.size) = false := by simp; omega
                have HX : Hid (nb = false) := hid (by rw [HNB.out, HNI.out, decide_eq_false (by rw [HDL.out]; omega)]; rfl)
                clear c1 g1 c2
                go_wp2_with fail
                refine Met.intro ?_
                go_step
                (repeat apply Exists.intro)
                refine ⟨?rel, ?fr⟩
                case fr => rw [HC.out]
                case rel => exact ⟨by rw [HX.out], rfl⟩
            · have g1 : (b0 == 47) = false := by rw [Bool.eq_false_iff]; intro h; rw [beq_iff_eq] at h; exact c1 (by rw [h]; rfl)
              have e1 : ((b0.toNat : Int) == 47) = false := eqb c1
              have HX : Hid (nb = false) := hid (by rw [HNB.out, HNI.out, g1]; simp)
              clear c1 g1
              go_wp2_with fail
              go_meet
              case rel => exact ⟨by rw [HX.out], rfl⟩
          case rest =>
          obtain ⟨rfl, rfl⟩ := hcut
          have hkD := HDL.out
          cases nb with
          | true =>
            obtain ⟨n, hn⟩ : ∃ n, n = runLen noLine D := ⟨_, rfl⟩
            have hnl := runLen_le noLine D
            rw [← hn] at hnl
            have HSTEP : Hid (∀ j, j ≤ n → j < D.length → (noLine (D.getD j 0) = true → j + 1 ≤ n) ∧ (noLine (D.getD j 0) = false → n = j)) := hid (by rw [hn]; exact fun j h h2 => runLen_step noLine D j h h2)
            have HST : Hid (FRel w wc u5 s m (k + n) acc) := hid (hf.out.step (by rw [← HDD.out]; have := note_len HNB.out.symm; rw [← hn] at this; exact this) (by omega))
            have hn1 : 1 ≤ n := by have := notes_pos HNB.out.symm; rw [← hn] at this; exact this
            clear hn
            go_wp2_with fail
            go_loop [6] (fun i => ∃ j : Nat, j ≤ n ∧ i = .int .i64 (k + j : Nat)) (fun i => k + n - (intOf i).toNat)
            case atStart => exact ⟨0, by omega, rfl⟩
            case round =>
              obtain ⟨j, hj, rfl⟩ := hrel
              by_cases h1 : k + j < s.size
              · have h1' : (k : Int) + j < s.size := by omega
                have hkj : (0 : Int) ≤ (k : Int) + j := by omega
                have HGJ := hid (HG.out (k + j) (by omega) h1)
                rw [show k + j - k = j by omega] at HGJ
                have hss := HSTEP.out j hj (by omega)
                rw [← HGJ.out] at hss
                cases hx : noLine s[k + j] with
                | true =>
                  have hj2 := hss.1 hx
                  have hx1 : ¬ s[k + j].toNat = 10 := by unfold noLine at hx; simpa using hx
                  have e1 : ((s[k + j].toNat : Int) == 10) = false := eqb hx1
                  have e2 : ((s[k + j].toNat : Int) != 10) = true := neb hx1
                  clear hss hx hx1
                  go_wp2_with fail
                  go_round
                  case rel => exact ⟨j + 1, by omega, by go_num⟩
                  case measure => simp [intOf]; omega
                | false =>
                  obtain rfl := hss.2 hx
                  have hx1 : s[k + n].toNat = 10 := by unfold noLine at hx; simpa using hx
                  have e1 : ((s[k + n].toNat : Int) == 10) = true := by rw [hx1]; rfl
                  have e2 : ((s[k + n].toNat : Int) != 10) = false := by rw [hx1]; rfl
                  clear hss hx hx1
                  go_wp2_with fail
                  go_roundw
                  case rel => exact ⟨k + n, m, acc, by go_num, by omega, HST⟩
                  case measure => simp [intOf]; omega
              · obtain rfl : j = n := by omega
                have h1' : decide ((k : Int) + j < s.size) = false := by simp; omega
                clear h1
                go_wp2_with fail
                go_roundw
                case rel => exact ⟨k + j, m, acc, by go_num, by omega, HST⟩
                case measure => simp [intOf]; omega
          | false =>
            have HBZ : Hid (blankLen D = 0) := hid (blank_zero (by omega) (by rw [← HB0.out]; exact HBL.out) HNB.out.symm)
            go_wp2_with fail
            refine (rletter_any true _ _).mono ?_
            rintro e w' ⟨rfl, rfl⟩
            rw [letterB_first]
            cases hle : isLetter b0 with
            | true =>
              obtain ⟨n, hn⟩ : ∃ n, n = runLen isName D := ⟨_, rfl⟩
              have hnl := runLen_le isName D
              rw [← hn] at hnl
              have HSTEP : Hid (∀ j, j ≤ n → j < D.length → (isName (D.getD j 0) = true → j + 1 ≤ n) ∧ (isName (D.getD j 0) = false → n = j)) := hid (by rw [hn]; exact fun j h h2 => runLen_step isName D j h h2)
              have HTK := hid (tokenOf_name (l := D) (by rw [← HB0.out]; exact hle))
              rw [← hn] at HTK
              have HX := hid (show ∀ n, s.extract k (k + n) = bs (D.take n) by rw [HDD.out]; exact ext_mid2 s k)
              have hn1 : 1 ≤ n := by
                have := runLen_pos (p := isName) HNE.out (by rw [← HB0.out]; unfold isName; rw [hle]; rfl)
                omega
              clear hn hle
              go_wp2_with fail
              go_loop [8] (fun i => ∃ j : Nat, j ≤ n ∧ i = .int .i64 (k + j : Nat)) (fun i => k + n - (intOf i).toNat)
              case atStart => exact ⟨0, by omega, rfl⟩
              case round =>
                obtain ⟨j, hj, rfl⟩ := hrel
                obtain ⟨cb, hcbe⟩ : ∃ cb : Bool, cb = decide (j < n) := ⟨_, rfl⟩
                have HCB := hid hcbe
                clear hcbe
                go_upto_region 19 with (fail)
                go_cut [88] from 79 to 88 (fun c wx => c = .bool cb ∧ wx = wc)
                case first =>
                  by_cases h1 : k + j < s.size
                  · have h1' : (k : Int) + j < s.size := by omega
                    have hkj : (0 : Int) ≤ (k : Int) + j := by omega
                    have HGJ := hid (HG.out (k + j) (by omega) h1)
                    rw [show k + j - k = j by omega] at HGJ
                    have hss := hid (HSTEP.out j hj (by omega))
                    go_wp2_with fail
                    refine (rletter_any false s[k + j] _).mono ?_
                    rintro e w' ⟨rfl, rfl⟩
                    rw [letterB_name]
                    cases hx : isName s[k + j] with
                    | true =>
                      have HY : Hid (cb = true) := hid (by rw [HCB.out]; exact decide_eq_true (hss.out.1 (by rw [← HGJ.out]; exact hx)))
                      clear hx
                      go_wp2_with fail
                      go_meet
                      case rel => exact ⟨by rw [HY.out], rfl⟩
                    | false =>
                      have HY : Hid (cb = false) := hid (by rw [HCB.out]; have := hss.out.2 (by rw [← HGJ.out]; exact hx); exact decide_eq_false (by omega))
                      clear hx
                      go_wp2_with fail
                      go_meet
                      case rel => exact ⟨by rw [HY.out], rfl⟩
                  · have h1' : decide ((k : Int) + j < s.size) = false := by simp; omega
                    have HY : Hid (cb = false) := hid (by rw [HCB.out]; exact decide_eq_false (by omega))
                    clear h1
                    go_wp2_with fail
                    go_meet
                    case rel => exact ⟨by rw [HY.out], rfl⟩
                case rest =>
                obtain ⟨rfl, rfl⟩ := hcut
                cases cb with
                | true =>
                  have hj2 : j < n := of_decide_eq_true HCB.out.symm
                  clear HCB
                  go_wp2_with fail
                  go_round
                  case rel => exact ⟨j + 1, by omega, by go_num⟩
                  case measure => simp [intOf]; omega
                | false =>
                  obtain rfl : j = n := by have := of_decide_eq_false HCB.out.symm; omega
                  clear HCB HSTEP
                  by_cases h20 : 20 < j
                  · have h20' : (20 : Int) < (k : Int) + j - k := by omega
                    have HE := hid (hf.out.bad (e := 32) (by rw [← HDD.out]; exact HNE.out) (by rw [← HDD.out]; exact HBZ.out) (by rw [← HDD.out, HTK.out, if_pos h20]) (by decide))
                    clear h20
                    go_wp2_with fail
                    go_ret3
                    exact ⟨.slice none 0 0, by rw [HR.out, HE.out]; rfl, by rw [HR.out, HE.out]; exact Toks.nil _, by simp [fpv, Value.ownBlock], hf.out.fr⟩
                  · have h20' : ¬ (20 : Int) < (k : Int) + j - k := by omega
                    have HTK2 := hid HTK.out
                    rw [if_neg h20] at HTK2
                    have HXJ := hid (HX.out j)
                    clear h20
                    have HLJ : Hid ((D.take j).length = j) := hid (by rw [List.length_take]; omega)
                    obtain ⟨x, hx⟩ : ∃ x, x = D.take j := ⟨_, rfl⟩
                    rw [← hx] at HXJ HTK2 HLJ
                    have HTX := hid hx
                    clear hx HX HTK
                    obtain ⟨b, hbw⟩ : ∃ b, b = isWord x := ⟨_, rfl⟩
                    have HWD := hid (rword_any (bs x))
                    rw [bs_list, ← hbw] at HWD
                    rw [← hbw] at HTK2
                    have HAL := hid (show acc.length ≤ 1000000 by have := hf.out.al; omega)
                    obtain ⟨av, cv, hv, _, _⟩ := hf.out.toks.form
                    subst hv
                    have HFC := hid hf.out
                    have hks : (k : Int) + j ≤ s.size := by omega
                    have hk0 : (0 : Int) ≤ (k : Int) + j := by omega
                    have HN1 := hid hn1
                    clear hbw hf hn1 hnl
                    go_wp2_with fail
                    rw [HXJ.out]
                    refine (HWD.out _).mono ?_
                    rintro e w2 ⟨rfl, f2⟩
                    have F2 := hid (show Fr [] wc w2 from ((Fr.refl _ _).alloc _).tr f2)
                    have hz := f2.obj (heap_alloc_new wc (.cells #[.int .i64 1, .int .i64 k, .string (bs x), .int .i64 0, .complex .f64 0 0] 31)) (by simp)
                    have HGN := hid (show wc.heap.size ∉ fpv (.slice av acc.length cv) from fun h => by have := HFC.out.toks.lt _ h; omega)
                    obtain ⟨g, hg⟩ : ∃ g, g = wc.heap.size := ⟨_, rfl⟩
                    have HGS := hid (show w.heap.size ≤ g by rw [hg]; exact HFC.out.fr.size)
                    rw [← hg] at hz HGN ⊢
                    have HZ := hid hz
                    clear f2 hz hg
                    cases b with
                    | true =>
                      have q0 := (five HZ.out).1
                      have q1 := frozen_of_row _ _ 0 _ _ HZ.out
                      go_upto_region 26 with (fail)
                      have HZ2 := hid (show (w2.setCell ⟨g, 0, none⟩ (.int .i64 2)).heap[g]? = some (.cells #[.int .i64 2, .int .i64 k, .string (bs x), .int .i64 0, .complex .f64 0 0] 31 (0, 0)) from heap_setCell_same w2 g 0 _ _ _ HZ.out)
                      have F3 := hid (show Fr [] w (w2.setCell ⟨g, 0, none⟩ (.int .i64 2)) from (HFC.out.fr.tr F2.out).setCell (.inr HGS.out) _)
                      have HT3 := hid (show Toks (w2.setCell ⟨g, 0, none⟩ (.int .i64 2)) (.slice av acc.length cv) acc from (HFC.out.toks.keep0 F2.out).keep ((Fr.refl [g] w2).setCell (.inl (by simp)) _) (fun b hb hm => HGN.out (List.mem_singleton.1 hm ▸ hb)))
                      clear q0 q1
                      generalize w2.setCell ⟨g, 0, none⟩ (.int .i64 2) = w3 at HZ2 F3 HT3 ⊢
                      obtain ⟨z0, z1, z2, z3, z4⟩ := five HZ2.out
                      go_wp2_with (at_builtin; refine wpList_append_tok rfl _ _ rfl (.slice av acc.length cv) acc rfl (HT3.out.keep0 ((Fr.refl _ _).alloc _)) w3.heap.size ⟨2, (k : Int), x, 0, 0, 0⟩ rfl (heap_alloc_new w3 _) HAL.out ?_; intro v' w4 q3 f4 b3; have Q3 := hid q3; have F4 := hid f4; have B3 := hid b3; clear q3 f4 b3)
                      have HN : Hid (FRel w w4 v' s (m - 1) (k + j) (acc ++ [⟨2, (k : Int), x, 0, 0, 0⟩])) := hid (by
                        have h1 := HFC.out.tok (wr' := w4) (v' := v') (by rw [← HDD.out]; exact HNE.out) (by rw [← HDD.out]; exact HBZ.out) (by rw [← HDD.out]; exact HTK2.out) Q3.out (fun y hy => by
                          rcases B3.out y hy with h | h
                          · exact HFC.out.bl y h
                          · have := F3.out.size; rw [World.size_alloc] at h; omega) ((F3.out.alloc _).trans F4.out (fun y hy => .inr (HFC.out.bl y hy)))
                        simp only [] at h1
                        rw [HLJ.out] at h1
                        exact h1)
                      go_roundw
                      case rel => exact ⟨k + j, m - 1, _, by go_num, by omega, HN⟩
                      case measure =>
                        have := HN1.out
                        simp [intOf]; omega
                    | false =>
                      obtain ⟨z0, z1, z2, z3, z4⟩ := five HZ.out
                      have F3 := hid (HFC.out.fr.tr F2.out)
                      have HT3 := hid (HFC.out.toks.keep0 F2.out)
                      go_wp2_with (at_builtin; refine wpList_append_tok rfl _ _ rfl (.slice av acc.length cv) acc rfl (HT3.out.keep0 ((Fr.refl _ _).alloc _)) w2.heap.size ⟨1, (k : Int), x, 0, 0, 0⟩ rfl (heap_alloc_new w2 _) HAL.out ?_; intro v' w4 q3 f4 b3; have Q3 := hid q3; have F4 := hid f4; have B3 := hid b3; clear q3 f4 b3)
                      have HN : Hid (FRel w w4 v' s (m - 1) (k + j) (acc ++ [⟨1, (k : Int), x, 0, 0, 0⟩])) := hid (by
                        have h1 := HFC.out.tok (wr' := w4) (v' := v') (by rw [← HDD.out]; exact HNE.out) (by rw [← HDD.out]; exact HBZ.out) (by rw [← HDD.out]; exact HTK2.out) Q3.out (fun y hy => by
                          rcases B3.out y hy with h | h
                          · exact HFC.out.bl y h
                          · have := F3.out.size; rw [World.size_alloc] at h; omega) ((F3.out.alloc _).trans F4.out (fun y hy => .inr (HFC.out.bl y hy)))
                        simp only [] at h1
                        rw [HLJ.out] at h1
                        exact h1)
                      go_roundw
                      case rel => exact ⟨k + j, m - 1, _, by go_num, by omega, HN⟩
                      case measure =>
                        have := HN1.out
                        simp [intOf]; omega
            | false =>
              go_wp2_with fail
              refine (rdigit_any _ _).mono ?_
              rintro e w' ⟨rfl, rfl⟩
              cases hdi : isDigit b0 with
              | true => 
                have HTK := hid (tokenOf_num (l := D) (by rw [← HB0.out]; exact hdi))
                have HNUM := hid (rnum_any s (by omega) k hk wc)
                rw [← HDD.out] at HNUM
                clear hle hdi
                go_wp2_with fail
                refine HNUM.out.mono ?_
                rintro e w2 ⟨⟨tk, ta, tx, ti, tr, tm⟩, en, rfl, ht, f2⟩
                have HT := hid ht
                have F2 := hid f2
                obtain ⟨er, her⟩ : ∃ er, er = (numTok D).2 := ⟨_, rfl⟩
                rw [← her] at HT ⊢
                have HER := hid her
                simp only [Tok.val, Tok.cells]
                clear ht f2 her
                by_cases her : er = 0
                · subst her
                  obtain ⟨ht, hen⟩ := HT.out rfl
                  obtain ⟨⟨k', a', tx', i', r', m'⟩, hq⟩ : ∃ q, q = (numTok D).1 := ⟨_, rfl⟩
                  rw [← hq] at ht hen
                  simp only [] at ht hen
                  injection ht with h1 h2 h3 h4 h5 h6
                  subst h1 h2 h3 h4 h5 h6
                  have HTK2 : Hid (tokenOf D = (⟨tk, a', tx, ti, tr, tm⟩, 0)) := hid (by rw [HTK.out, Prod.ext_iff]; exact ⟨hq.symm, HER.out.symm⟩)
                  have hlen := tokenOf_len HNE.out (by rw [HTK2.out])
                  rw [HTK2.out] at hlen
                  simp only [] at hlen
                  obtain ⟨L, hL⟩ : ∃ L, L = tx.length := ⟨_, rfl⟩
                  rw [← hL] at hen hlen
                  have HLL := hid hL
                  subst hen
                  have HLEN := hid hlen
                  have HAL := hid (show acc.length ≤ 1000000 by have := hf.out.al; omega)
                  obtain ⟨av, cv, hv, _, _⟩ := hf.out.toks.form
                  subst hv
                  have HFC := hid hf.out
                  have F3 := hid (HFC.out.fr.tr F2.out)
                  have HT3 := hid (HFC.out.toks.keep0 F2.out)
                  have HKS := hid hkD
                  have hnew := heap_alloc_new (w2.alloc (.cells #[.int .i64 tk, .int .i64 k, .string (bs tx), .int .i64 ti, .complex .f64 tr tm] 31)) (.cells #[.int .i64 tk, .int .i64 k, .string (bs tx), .int .i64 ti, .complex .f64 tr tm] 31)
                  rw [World.size_alloc] at hnew
                  have HNEW := hid hnew
                  clear hq hL hf HT HTK HER hlen hkD hnew
                  go_wp2_with (at_builtin; refine wpList_append_tok rfl _ _ rfl (.slice av acc.length cv) acc rfl (HT3.out.keep0 (((Fr.refl _ _).alloc _).alloc _)) (w2.heap.size + 1) ⟨tk, (k : Int), tx, ti, tr, tm⟩ rfl HNEW.out HAL.out ?_; intro v' w4 q3 f4 b3; have Q3 := hid q3; have F4 := hid f4; have B3 := hid b3; clear q3 f4 b3)
                  have HN : Hid (FRel w w4 v' s (m - 1) (k + L) (acc ++ [⟨tk, (k : Int), tx, ti, tr, tm⟩])) := hid (by
                    have h1 := HFC.out.tok (wr' := w4) (v' := v') (by rw [← HDD.out]; exact HNE.out) (by rw [← HDD.out]; exact HBZ.out) (by rw [← HDD.out]; exact HTK2.out) Q3.out (fun y hy => by
                      rcases B3.out y hy with h | h
                      · exact HFC.out.bl y h
                      · have := F3.out.size; rw [World.size_alloc, World.size_alloc] at h; omega) (((F3.out.alloc _).alloc _).trans F4.out (fun y hy => .inr (HFC.out.bl y hy)))
                    simp only [] at h1
                    rw [← HLL.out] at h1
                    exact h1)
                  have hlen := HLEN.out
                  have hkD := HKS.out
                  go_roundw
                  case rel => exact ⟨k + L, m - 1, _, by go_num, by omega, HN⟩
                  case measure => simp [intOf]; omega
                · have hne0 : (er != 0) = true := by simpa using her
                  have HE := hid (hf.out.bad (e := er) (by rw [← HDD.out]; exact HNE.out) (by rw [← HDD.out]; exact HBZ.out) (by rw [← HDD.out, HTK.out]; exact HER.out.symm) her)
                  clear her
                  go_wp2_with fail
                  go_ret3
                  exact ⟨.slice none 0 0, by rw [HR.out, HE.out]; rfl, by rw [HR.out, HE.out]; exact Toks.nil _, by simp [fpv, Value.ownBlock], (hf.out.fr.tr F2.out).alloc _⟩
              | false =>
                have HTK := hid (tokenOf_sign (l := D) (by rw [← HB0.out]; exact hle) (by rw [← HB0.out]; exact hdi))
                have HXD : Hid (s.extract k s.size = bs D) := hid (by rw [HDD.out]; exact bs_of (ext_drop s k))
                have HSG := hid (rsign_any D (by omega) (by omega) wc)
                clear hle hdi
                go_wp2_with fail
                rw [HXD.out]
                refine HSG.out.mono ?_
                rintro e w2 ⟨x, rfl, hx, f2⟩
                obtain ⟨y, hy⟩ : ∃ y, y = signOf D := ⟨_, rfl⟩
                rw [← hy] at hx HTK
                have hxb : x = bs y := bs_of hx
                subst hxb
                have HY := hid hy
                have F2 := hid f2
                have hxs := bs_size y
                clear hx hy f2
                by_cases hn : y = []
                · subst hn
                  have he1 : ((bs ([] : List UInt8)).toList == []) = true := by rw [Lib.toList_data, bs_list]; rfl
                  have he2 : (bs ([] : List UInt8)).toList.isEmpty = true := by rw [Lib.toList_data, bs_list]; rfl
                  have HE := hid (hf.out.bad (e := 180) (by rw [← HDD.out]; exact HNE.out) (by rw [← HDD.out]; exact HBZ.out) (by rw [← HDD.out, HTK.out, if_pos rfl]) (by decide))
                  go_wp2_with fail
                  go_ret3
                  exact ⟨.slice none 0 0, by rw [HR.out, HE.out]; rfl, by rw [HR.out, HE.out]; exact Toks.nil _, by simp [fpv, Value.ownBlock], hf.out.fr.tr F2.out⟩
                · have HTK2 := hid HTK.out
                  rw [if_neg hn] at HTK2
                  have hlen := tokenOf_len HNE.out (by rw [HTK2.out])
                  rw [HTK2.out] at hlen
                  simp only [] at hlen
                  have he1 : ((bs y).toList == []) = false := by rw [Lib.toList_data, bs_list]; simpa using hn
                  have he2 : (bs y).toList.isEmpty = false := by rw [Lib.toList_data, bs_list]; simpa using hn
                  obtain ⟨L, hL⟩ : ∃ L, L = y.length := ⟨_, rfl⟩
                  rw [← hL] at hxs hlen
                  have HLL := hid hL
                  have HLEN := hid hlen
                  have HAL := hid (show acc.length ≤ 1000000 by have := hf.out.al; omega)
                  obtain ⟨av, cv, hv, _, _⟩ := hf.out.toks.form
                  subst hv
                  have HFC := hid hf.out
                  have F3 := hid (HFC.out.fr.tr F2.out)
                  have HT3 := hid (HFC.out.toks.keep0 F2.out)
                  have HKS := hid hkD
                  have hLs : (L : Int) ≤ 8000 := by omega
                  clear hL hf HTK hlen hkD hn
                  go_wp2_with (at_builtin; refine wpList_append_tok rfl _ _ rfl (.slice av acc.length cv) acc rfl (HT3.out.keep0 ((Fr.refl _ _).alloc _)) w2.heap.size ⟨5, (k : Int), y, 0, 0, 0⟩ rfl (heap_alloc_new w2 _) HAL.out ?_; intro v' w4 q3 f4 b3; have Q3 := hid q3; have F4 := hid f4; have B3 := hid b3; clear q3 f4 b3)
                  have HN : Hid (FRel w w4 v' s (m - 1) (k + L) (acc ++ [⟨5, (k : Int), y, 0, 0, 0⟩])) := hid (by
                    have h1 := HFC.out.tok (wr' := w4) (v' := v') (by rw [← HDD.out]; exact HNE.out) (by rw [← HDD.out]; exact HBZ.out) (by rw [← HDD.out]; exact HTK2.out) Q3.out (fun z hz => by
                      rcases B3.out z hz with h | h
                      · exact HFC.out.bl z h
                      · have := F3.out.size; rw [World.size_alloc] at h; omega) ((F3.out.alloc _).trans F4.out (fun z hz => .inr (HFC.out.bl z hz)))
                    simp only [] at h1
                    rw [← HLL.out] at h1
                    exact h1)
                  have hlen := HLEN.out
                  have hkD := HKS.out
                  go_roundw
                  case rel => exact ⟨k + L, m - 1, _, by go_num, by omega, HN⟩
                  case measure => simp [intOf]; omega
      · obtain rfl : k = s.size := by omega
        have hlt2 : ¬ (s.size : Int) < s.size := by omega
        have HRES := hid (hf.out.ends rfl)
        have HAL := hid (show acc.length ≤ 1000000 by have := hf.out.al; have := HS8.out; omega)
        obtain ⟨av, cv, hv, _, _⟩ := hf.out.toks.form
        subst hv
        obtain ⟨wk, hwk⟩ : ∃ wk, wk = wr := ⟨_, rfl⟩
        subst hwk
        clear hlt
        go_wp2_with (at_builtin; refine wpList_append_tok rfl _ _ rfl (.slice av acc.length cv) acc rfl (hf.out.toks.keep0 ((Fr.refl _ _).alloc _)) wk.heap.size (endTok (s.size : Nat)) rfl (heap_alloc_new wk _) HAL.out ?_; intro v' w3 q3 f3 b3; have Q3 := hid q3; have F3 := hid f3; have B3 := hid b3; clear q3 f3 b3)
        go_ret3
        refine ⟨v', ?_, ?_, ?_, ?_⟩
        · rw [HR.out, HRES.out]; rfl
        · rw [HR.out, HRES.out]; exact Q3.out
        · intro x hx
          rcases B3.out x hx with h | h
          · exact hf.out.bl x h
          · have := hf.out.fr.size; simp at h; omega
        · exact (hf.out.fr.alloc _).trans F3.out (fun x hx => .inr (hf.out.bl x hx))

end Go.Proofs.Ytlkkekjbcaabcaa
