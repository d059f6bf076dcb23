/-
  MonitorPlays: the document's Enter.
-/
import Derived.Test.YthdmgjkipiaccaaRdD
import Derived.Test.YthdmgjkipiaccaaRdW
namespace Go.Proofs.Ythdmgjkipiaccaa
open Go.RowKit

set_option maxRecDepth 20000 in
set_option maxHeartbeats 2000000 in
theorem denter_any {w : World} {tb : Nat} {F : List Nat} {R : List RL} (h : Doc w tb F R) (hk : RBd R 1000) (a t : Int) : Calls Try.prog 18 #[.pointer (some ⟨tb, 0, none⟩), .int .i64 a, .int .i64 t] w fun e w' => e = .returned (.tuple #[.bool (rEnter R a t).1.1, .int .i64 (rEnter R a t).1.2]) ∧ DMv w w' tb F (rEnter R a t).2 := by
  obtain ⟨v, G, rfl, rfl, h⟩ := h
  obtain ⟨ak, ck, hvk, _, _⟩ := h.form
  obtain ⟨n, hn⟩ : ∃ n, n = G.length := ⟨_, rfl⟩
  have hk' := hk.glen
  rw [← hn] at hvk hk'
  have HN := hid hn
  have HD := hid h
  have HK := hid hk
  have c1 := h.tbl
  rw [hvk] at c1
  have HVK := hid hvk
  have HF := hid (Fr.refl ([] : List Nat) w)
  clear h hn hvk hk
  go_enter Try.func18, Try.ntmps18
  go_wp2_with fail
  go_loopw [8] (fun v wr => ∃ j : Nat, v = .int .i64 j ∧ j ≤ n ∧ Hid (∀ i', (hi : i' < j) → (hl : i' < G.length) → (G[i']).x.has t = false) ∧ Hid (Fr [] w wr)) (fun v _ => n - (intOf v).toNat)
  case atStart => exact ⟨0, rfl, by omega, hid (fun i' hi => by omega), by first | exact HF | exact hid (Fr.refl _ _)⟩
  case round =>
    obtain ⟨j, rfl, hj, hno, hf⟩ := hrel
    by_cases hlt : j < n
    · have hlt2 : (j : Int) < n := by omega
      have hjl : j < G.length := by rw [← HN.out]; exact hlt
      have hjb : (j : Int) ≤ 1000 := by omega
      have hd2 := HD.out.keep0 hf.out
      obtain ⟨b, cap, e, _, _, _, _, q4, q5, _⟩ := hd2.lock hjl
      rw [HVK.out, ← HN.out] at e
      injection e with e1 e2 e3
      subst e1
      clear e2 e3
      have c2 := hf.out.cell c1 (by simp)
      obtain ⟨w1', w2'⟩ := hd2.wqat hjl
      obtain ⟨_, _, l1, l2⟩ := HK.out.at hjl
      have H1 := hid (dhas_any w1' l1 t)
      obtain ⟨x, hx⟩ : ∃ x, x = (G[j]'hjl).x := ⟨_, rfl⟩
      obtain ⟨ve, hve⟩ : ∃ x, x = (G[j]'hjl).ve := ⟨_, rfl⟩
      obtain ⟨vw, hvw⟩ : ∃ x, x = (G[j]'hjl).vw := ⟨_, rfl⟩
      rw [← hx] at w1' w2' l1 l2 H1
      rw [← hve] at H1 q4 w1'
      rw [← hvw] at q5 w2'
      have HX := hid hx
      have W2 := hid w2'
      have L2 := hid l2
      clear hd2 w1' w2' l1 l2 hlt hx hve hvw
      cases he : hasT x.entry t with
      | true =>
        rw [he] at H1
        have ha : (G.map RG.x).any (·.has t) = true := any_has hjl (by rw [← HX.out]; unfold RL.has; rw [he]; rfl)
        have HA := hid ha
        clear hno ha he
        go_wp2_with fail
        refine H1.out.mono ?_
        rintro e w2 ⟨rfl, f2⟩
        have F2 := hid f2
        clear f2
        go_wp2_with fail
        go_ret2
        rw [rEnter_no (.inl HA.out)]
        exact ⟨rfl, DMv.same HD.out (by first | exact hf.out.tr0 F2.out | exact (hf.out.tr0 F2.out).drew)⟩
      | false =>
        rw [he] at H1
        go_wp2_with fail
        refine H1.out.mono ?_
        rintro e w2 ⟨rfl, f2⟩
        have F2 := hid f2
        have q6 := f2.cell q5 (by simp)
        have c3 := f2.cell c2 (by simp)
        have H2 := hid (dhas_any (W2.out.keep0 f2) L2.out t)
        clear f2
        go_wp2_with fail
        refine H2.out.mono ?_
        rintro e w3 ⟨rfl, f3⟩
        have F3 := hid f3
        clear f3
        cases hw : hasT x.wait t with
        | true =>
          have ha : (G.map RG.x).any (·.has t) = true := any_has hjl (by rw [← HX.out]; unfold RL.has; rw [hw]; simp)
          have HA := hid ha
          clear hno ha he hw
          go_wp2_with fail
          go_ret2
          rw [rEnter_no (.inl HA.out)]
          exact ⟨rfl, DMv.same HD.out (by first | exact (hf.out.tr0 F2.out).tr0 F3.out | exact ((hf.out.tr0 F2.out).tr0 F3.out).drew)⟩
        | false =>
          have hno2 := hid (show ∀ i', (hi : i' < j + 1) → (hl : i' < G.length) → (G[i']).x.has t = false from fun i' hi hl => by
            by_cases h1 : i' = j
            · subst h1
              rw [← HX.out]; unfold RL.has; rw [he, hw]; rfl
            · exact hno.out i' (by omega) hl)
          have hf2 := hid ((hf.out.tr0 F2.out).tr0 F3.out)
          clear hno he hw
          go_wp2_with fail
          go_roundw
          case rel => exact ⟨j + 1, by go_num, by omega, hno2, by first | exact hf2 | exact hid hf2.out.drew⟩
          case measure => simp [intOf]; omega
    · obtain rfl : j = n := by omega
      have hlt2 : ¬ (j : Int) < j := by omega
      have hn := hid (none_has (G := G) (t := t) (fun i hi => hno.out i (by have := HN.out; omega) hi))
      clear hno
      have c2 := hf.out.cell c1 (by simp)
      by_cases ha : 1 ≤ a
      · by_cases ht : 1 ≤ t
        · have hfd := hid (dfind_any (HD.out.keep0 hf.out) (by rw [← HN.out]; exact hk') a)
          obtain ⟨i, hi⟩ : ∃ i, i = rix (G.map RG.x) a := ⟨_, rfl⟩
          have HI := hid hi
          by_cases hl : i < G.length
          · have hr : rixI (G.map RG.x) a = (i : Int) := by rw [rixI_at (by rw [← hi, List.length_map]; exact hl), ← hi]
            rw [hr] at hfd
            have hij : (i : Int) < j := by have := HN.out; omega
            have hi0 : (0 : Int) ≤ i := by omega
            have hib : (i : Int) ≤ 1000 := by omega
            have HS := hid (rEnter_at hn.out ha ht hl hi)
            clear hr hi
            go_wp2_with fail
            refine hfd.out.mono ?_
            rintro e w2 ⟨rfl, f2⟩
            have d2 := HD.out.keep0 (hf.out.tr0 f2)
            have F2 := hid (hf.out.tr0 f2)
            have c3 := f2.cell c2 (by simp)
            obtain ⟨b, cap, e, q0, q1, q2, q3, q4, q5, fz⟩ := d2.lock hl
            have HE := hid e
            rw [HVK.out, HN.out] at e
            injection e with e1 _ e3
            subst e1 e3
            have z1 := fz (i * 6 + 1)
            have z2 := fz (i * 6 + 2)
            have z3 := fz (i * 6 + 3)
            have z4 := fz (i * 6 + 4)
            have D2 : Hid (DocT w2 tb (.slice (some ⟨b, 0, none⟩) G.length ck) (G.set i (G[i]'hl))) := hid (by rw [← HE.out]; exact d2.start hl)
            have HK1 := HK.out.at hl
            obtain ⟨x, hx⟩ : ∃ x, x = (G[i]'hl).x := ⟨_, rfl⟩
            rw [← hx] at q1 q2 q3 HS HK1
            obtain ⟨m1, m2, m3, m4⟩ := HK1
            have HX := hid hx
            have W := hid (d2.wqat hl)
            clear f2 fz q0 q5 d2
            have FIN : ∀ (w' : World) (g' : RG), DocT w' tb (.slice (some ⟨b, 0, none⟩) G.length ck) (G.set i g') → g'.x = (x.enter t).2 → Fr [b] w w' → DMv w w' tb (tb :: fpv v) (rEnter (G.map RG.x) a t).2 := by
              intro w' g' h1 h2 h3
              rw [HS.out, HE.out]
              exact DMv.of h1 (by rw [List.map_set, h2]) h3
            have HFIN := hid FIN
            have F2S := hid (F2.out.sub (S' := [b]) (by simp))
            clear FIN hx
            obtain ⟨ow, how⟩ : ∃ ow, ow = x.owner := ⟨_, rfl⟩
            rw [← how] at q1
            obtain ⟨cn, hcn⟩ : ∃ cn, cn = x.count := ⟨_, rfl⟩
            rw [← hcn] at q2 m1 m2
            have HOW := hid how
            have HCN := hid hcn
            clear how hcn
            by_cases h0 : ow = 0
            · subst h0
              have HEN := hid (enter_free (x := x) (t := t) HOW.out.symm)
              go_wp2_with fail
              go_ret2
              refine ⟨by rw [HS.out, HEN.out]; rfl, ?_⟩
              have p1 := D2.out.puti (q := 1) hl (by omega) (.int .i64 t) ⟨{ x with owner := t }, (G[i]'hl).ve, (G[i]'hl).vw⟩ (by rw [HX.out]; rfl) (by rw [HX.out]; exact W.out)
              have p2 := p1.puti (q := 2) hl (by omega) (.int .i64 1) ⟨{ x with owner := t, count := 1 }, (G[i]'hl).ve, (G[i]'hl).vw⟩ rfl (p1.wqi hl)
              have f3 := (F2S.out.setCell (p := ⟨b, i * 6 + 1, none⟩) (.inl (by simp)) (.int .i64 t)).setCell (p := ⟨b, i * 6 + 2, none⟩) (.inl (by simp)) (.int .i64 1)
              first | exact HFIN.out _ _ p2 (by rw [HEN.out]) f3 | exact HFIN.out _ _ (p2.keep0 (Fr.refl _ _).drew) (by rw [HEN.out]) f3.drew
            · by_cases h1 : ow = t
              · subst h1
                have HEN := hid (enter_own (x := x) (t := ow) h0 HOW.out.symm)
                obtain ⟨ft, hft⟩ : ∃ ft, ft = x.fat := ⟨_, rfl⟩
                rw [← hft] at q3
                have HFT := hid hft
                clear hft
                have p1 := hid (D2.out.puti (q := 2) hl (by omega) (.int .i64 (cn + 1)) ⟨{ x with count := cn + 1 }, (G[i]'hl).ve, (G[i]'hl).vw⟩ (by rw [HX.out]; rfl) (by rw [HX.out]; exact W.out))
                have f3 := hid (F2S.out.setCell (p := ⟨b, i * 6 + 2, none⟩) (.inl (by simp)) (.int .i64 (cn + 1)))
                cases ft with
                | true =>
                  go_wp2_with fail
                  go_ret2
                  refine ⟨by rw [HS.out, HEN.out]; rfl, ?_⟩
                  have p2 := p1.out.puti (q := 3) hl (by omega) (.bool true) ⟨{ x with count := cn + 1, fat := true }, (G[i]'hl).ve, (G[i]'hl).vw⟩ rfl (p1.out.wqi hl)
                  have f4 := f3.out.setCell (p := ⟨b, i * 6 + 3, none⟩) (.inl (by simp)) (.bool true)
                  have he : ({ x with count := cn + 1, fat := true } : RL) = (x.enter ow).2 := by rw [HEN.out, ← HFT.out, HCN.out]; rfl
                  first | exact HFIN.out _ _ p2 he f4 | exact HFIN.out _ _ (p2.keep0 (Fr.refl _ _).drew) he f4.drew
                | false =>
                  go_wp2_with fail
                  go_ret2
                  refine ⟨by rw [HS.out, HEN.out]; rfl, ?_⟩
                  have p2 := p1.out.puti (q := 3) hl (by omega) (.bool (decide (3 < cn + 1))) ⟨{ x with count := cn + 1, fat := decide (3 < cn + 1) }, (G[i]'hl).ve, (G[i]'hl).vw⟩ rfl (p1.out.wqi hl)
                  have f4 := f3.out.setCell (p := ⟨b, i * 6 + 3, none⟩) (.inl (by simp)) (.bool (decide (3 < cn + 1)))
                  have he : ({ x with count := cn + 1, fat := decide (3 < cn + 1) } : RL) = (x.enter ow).2 := by rw [HEN.out, ← HFT.out, HCN.out]; rfl
                  first | exact HFIN.out _ _ p2 he f4 | exact HFIN.out _ _ (p2.keep0 (Fr.refl _ _).drew) he f4.drew
              · have HEN := hid (enter_wait (x := x) (t := t) (by rw [← HOW.out]; exact h0) (by rw [← HOW.out]; exact h1))
                have p1 := hid (D2.out.puti (q := 3) hl (by omega) (.bool true) ⟨{ x with fat := true }, (G[i]'hl).ve, (G[i]'hl).vw⟩ (by rw [HX.out]; rfl) (by rw [HX.out]; exact W.out))
                have f3 := hid (F2S.out.setCell (p := ⟨b, i * 6 + 3, none⟩) (.inl (by simp)) (.bool true))
                obtain ⟨ae, ce, hve, l1, l2⟩ := W.out.1.form
                obtain ⟨m, hm⟩ : ∃ m, m = x.entry.length := ⟨_, rfl⟩
                rw [hve, ← HX.out, ← hm] at q4
                rw [← HX.out, ← hm] at l1
                rw [← hm] at m3
                have HM := hid hm
                have HVE := hid hve
                have g4 : (w2.setCell ⟨b, i * 6 + 3, none⟩ (.bool true)).cell? ⟨b, i * 6 + 4, none⟩ = some (.slice ae m ce) := by go_simp
                have u4 : (w2.setCell ⟨b, i * 6 + 3, none⟩ (.bool true)).frozen? ⟨b, i * 6 + 4, none⟩ = false := by go_simp
                have hlm : (m : Int) ≤ ce := by omega
                have hlc : (ce : Int) ≤ maxLen := by omega
                clear hm hve q4 z4
                go_upto_region 15 with (fail)
                generalize w2.setCell ⟨b, i * 6 + 3, none⟩ (.bool true) = w3 at p1 f3 g4 u4 ⊢
                clear c3 q1 q2 q3 z1 z2 z3 hij hi0 hib c1 c2
                refine wp_region_T (fun w' => w'.cell? ⟨b, i * 6 + 4, none⟩ = some (.slice ae m ce)) 22 (by kernel_rfl) (by go_simp) (fun hHeld => ?_)
                refine wpAnyT_take [0] (i := 0) (v := ?va0) rfl (by kernel_rfl) (by kernel_rfl) (by kernel_rfl) (by kernel_rfl) (fun _ _ _ h => h) (Or.inl ⟨by rfl, ?ya0⟩) hHeld ?ra0
                case ya0 => ((intro w hSw; (try dsimp only at hSw); go_simp) <;> with_reducible rfl)
                try simp only [Act.put, List.getElem_toArray, List.getElem_cons_zero, List.getElem_cons_succ, List.setIfInBounds_toArray, List.set_cons_zero, List.set_cons_succ]
                refine wpAnyT_take [1] (i := 1) (v := ?va1) rfl (by kernel_rfl) (by kernel_rfl) (by kernel_rfl) (by kernel_rfl) (fun _ _ _ h => h) (Or.inl ⟨by rfl, ?ya1⟩) hHeld ?ra1
                case ya1 => ((intro w hSw; (try dsimp only at hSw); go_simp) <;> with_reducible rfl)
                try simp only [Act.put, List.getElem_toArray, List.getElem_cons_zero, List.getElem_cons_succ, List.setIfInBounds_toArray, List.set_cons_zero, List.set_cons_succ]
                refine wpAnyT_take [2] (i := 2) (v := ?va2) rfl (by kernel_rfl) (by kernel_rfl) (by kernel_rfl) (by kernel_rfl) (fun _ _ _ h => h) (Or.inl ⟨by rfl, ?ya2⟩) hHeld ?ra2
                case ya2 => ((intro w hSw; (try dsimp only at hSw); go_simp) <;> with_reducible rfl)
                try simp only [Act.put, List.getElem_toArray, List.getElem_cons_zero, List.getElem_cons_succ, List.setIfInBounds_toArray, List.set_cons_zero, List.set_cons_succ]
                refine wpAnyT_take [3] (i := 3) (v := ?va3) rfl (by kernel_rfl) (by kernel_rfl) (by kernel_rfl) (by kernel_rfl) (fun _ _ _ h => h) (Or.inl ⟨by rfl, ?ya3⟩) hHeld ?ra3
                case ya3 => ((intro w hSw; (try dsimp only at hSw); go_simp) <;> with_reducible rfl)
                try simp only [Act.put, List.getElem_toArray, List.getElem_cons_zero, List.getElem_cons_succ, List.setIfInBounds_toArray, List.set_cons_zero, List.set_cons_succ]
                refine wpAnyT_take [4] (i := 4) (v := ?va4) rfl (by kernel_rfl) (by kernel_rfl) (by kernel_rfl) (by kernel_rfl) (fun _ _ _ h => h) (Or.inl ⟨by rfl, ?ya4⟩) hHeld ?ra4
                case ya4 => ((intro w hSw; (try dsimp only at hSw); go_simp) <;> with_reducible rfl)
                try simp only [Act.put, List.getElem_toArray, List.getElem_cons_zero, List.getElem_cons_succ, List.setIfInBounds_toArray, List.set_cons_zero, List.set_cons_succ]
                refine wpAnyT_take [5] (i := 5) (v := ?va5) rfl (by kernel_rfl) (by kernel_rfl) (by kernel_rfl) (by kernel_rfl) (fun _ _ _ h => h) (Or.inl ⟨by rfl, ?ya5⟩) hHeld ?ra5
                case ya5 => ((intro w hSw; (try dsimp only at hSw); go_simp) <;> with_reducible rfl)
                try simp only [Act.put, List.getElem_toArray, List.getElem_cons_zero, List.getElem_cons_succ, List.setIfInBounds_toArray, List.set_cons_zero, List.set_cons_succ]
                refine wpAnyT_take [6] (i := 6) (v := ?va6) rfl (by kernel_rfl) (by kernel_rfl) (by kernel_rfl) (by kernel_rfl) (fun _ _ _ h => h) (Or.inl ⟨by rfl, ?ya6⟩) hHeld ?ra6
                case ya6 => ((intro w hSw; (try dsimp only at hSw); go_simp) <;> with_reducible rfl)
                try simp only [Act.put, List.getElem_toArray, List.getElem_cons_zero, List.getElem_cons_succ, List.setIfInBounds_toArray, List.set_cons_zero, List.set_cons_succ]
                refine wpAnyT_take [7] (i := 7) (v := ?va7) rfl (by kernel_rfl) (by kernel_rfl) (by kernel_rfl) (by kernel_rfl) (fun _ _ _ h => h) (Or.inl ⟨by rfl, ?ya7⟩) hHeld ?ra7
                case ya7 => ((intro w hSw; (try dsimp only at hSw); go_simp) <;> with_reducible rfl)
                try simp only [Act.put, List.getElem_toArray, List.getElem_cons_zero, List.getElem_cons_succ, List.setIfInBounds_toArray, List.set_cons_zero, List.set_cons_succ]
                refine wpAnyT_take [8] (i := 8) (v := ?va8) rfl (by kernel_rfl) (by kernel_rfl) (by kernel_rfl) (by kernel_rfl) (fun _ _ _ h => h) (Or.inl ⟨by rfl, ?ya8⟩) hHeld ?ra8
                case ya8 => ((intro w hSw; (try dsimp only at hSw); go_simp) <;> with_reducible rfl)
                try simp only [Act.put, List.getElem_toArray, List.getElem_cons_zero, List.getElem_cons_succ, List.setIfInBounds_toArray, List.set_cons_zero, List.set_cons_succ]
                refine wpAnyT_take [9] (i := 9) (v := ?va9) rfl (by kernel_rfl) (by kernel_rfl) (by kernel_rfl) (by kernel_rfl) (fun _ _ _ h => h) (Or.inl ⟨by rfl, ?ya9⟩) hHeld ?ra9
                case ya9 => ((intro w hSw; (try dsimp only at hSw); go_simp) <;> with_reducible rfl)
                try simp only [Act.put, List.getElem_toArray, List.getElem_cons_zero, List.getElem_cons_succ, List.setIfInBounds_toArray, List.set_cons_zero, List.set_cons_succ]
                refine wpAnyT_take [10] (i := 10) (v := ?va10) rfl (by kernel_rfl) (by kernel_rfl) (by kernel_rfl) (by kernel_rfl) (fun _ _ _ h => h) (Or.inl ⟨by rfl, ?ya10⟩) hHeld ?ra10
                case ya10 => ((intro w hSw; (try dsimp only at hSw); go_simp) <;> with_reducible rfl)
                try simp only [Act.put, List.getElem_toArray, List.getElem_cons_zero, List.getElem_cons_succ, List.setIfInBounds_toArray, List.set_cons_zero, List.set_cons_succ]
                refine wpAnyT_take [11] (i := 11) (v := ?va11) rfl (by kernel_rfl) (by kernel_rfl) (by kernel_rfl) (by kernel_rfl) (fun _ _ _ h => h) (Or.inl ⟨by rfl, ?ya11⟩) hHeld ?ra11
                case ya11 => ((intro w hSw; (try dsimp only at hSw); go_simp) <;> with_reducible rfl)
                try simp only [Act.put, List.getElem_toArray, List.getElem_cons_zero, List.getElem_cons_succ, List.setIfInBounds_toArray, List.set_cons_zero, List.set_cons_succ]
                refine wpAnyT_take [12] (i := 12) (v := ?va12) rfl (by kernel_rfl) (by kernel_rfl) (by kernel_rfl) (by kernel_rfl) (fun _ _ _ h => h) (Or.inl ⟨by rfl, ?ya12⟩) hHeld ?ra12
                case ya12 => ((intro w hSw; (try dsimp only at hSw); go_simp) <;> with_reducible rfl)
                try simp only [Act.put, List.getElem_toArray, List.getElem_cons_zero, List.getElem_cons_succ, List.setIfInBounds_toArray, List.set_cons_zero, List.set_cons_succ]
                refine wpAnyT_take [13] (i := 13) (v := ?va13) rfl (by kernel_rfl) (by kernel_rfl) (by kernel_rfl) (by kernel_rfl) (fun _ _ _ h => h) (Or.inl ⟨by rfl, ?ya13⟩) hHeld ?ra13
                case ya13 => ((intro w hSw; (try dsimp only at hSw); go_simp) <;> with_reducible rfl)
                try simp only [Act.put, List.getElem_toArray, List.getElem_cons_zero, List.getElem_cons_succ, List.setIfInBounds_toArray, List.set_cons_zero, List.set_cons_succ]
                refine wpAnyT_take [14] (i := 14) (v := ?va14) rfl (by kernel_rfl) (by kernel_rfl) (by kernel_rfl) (by kernel_rfl) (fun _ _ _ h => h) (Or.inl ⟨by rfl, ?ya14⟩) hHeld ?ra14
                case ya14 => ((intro w hSw; (try dsimp only at hSw); go_simp) <;> with_reducible rfl)
                try simp only [Act.put, List.getElem_toArray, List.getElem_cons_zero, List.getElem_cons_succ, List.setIfInBounds_toArray, List.set_cons_zero, List.set_cons_succ]
                refine wpAnyT_take [15] (i := 15) (v := ?va15) rfl (by kernel_rfl) (by kernel_rfl) (by kernel_rfl) (by kernel_rfl) (fun _ _ _ h => h) (Or.inl ⟨by rfl, ?ya15⟩) hHeld ?ra15
                case ya15 => ((intro w hSw; (try dsimp only at hSw); go_simp) <;> with_reducible rfl)
                try simp only [Act.put, List.getElem_toArray, List.getElem_cons_zero, List.getElem_cons_succ, List.setIfInBounds_toArray, List.set_cons_zero, List.set_cons_succ]
                refine wpAnyT_take [16] (i := 16) (v := ?va16) rfl (by kernel_rfl) (by kernel_rfl) (by kernel_rfl) (by kernel_rfl) (fun _ _ _ h => h) (Or.inl ⟨by rfl, ?ya16⟩) hHeld ?ra16
                case ya16 => ((intro w hSw; (try dsimp only at hSw); go_simp) <;> with_reducible rfl)
                try simp only [Act.put, List.getElem_toArray, List.getElem_cons_zero, List.getElem_cons_succ, List.setIfInBounds_toArray, List.set_cons_zero, List.set_cons_succ]
                refine wpAnyT_take [17] (i := 17) (v := ?va17) rfl (by kernel_rfl) (by kernel_rfl) (by kernel_rfl) (by kernel_rfl) (fun _ _ _ h => h) (Or.inl ⟨by rfl, ?ya17⟩) hHeld ?ra17
                case ya17 => ((intro w hSw; (try dsimp only at hSw); go_simp) <;> with_reducible rfl)
                try simp only [Act.put, List.getElem_toArray, List.getElem_cons_zero, List.getElem_cons_succ, List.setIfInBounds_toArray, List.set_cons_zero, List.set_cons_succ]
                refine wpAnyT_ready (rs := [18]) (by kernel_rfl) (by simp) ?_
                refine AllReadyT.cons rfl (fun K hK => ?_) AllReadyT.nil
                go_simp
                refine hK.out _ _ (by go_simp; exact ((Fr.refl [] w3).alloc _).cell g4 (by simp)) (fun hHeld => ?_)
                clear hK K
                try simp only [Act.put, List.getElem_toArray, List.getElem_cons_zero, List.getElem_cons_succ, List.setIfInBounds_toArray, List.set_cons_zero, List.set_cons_succ]
                obtain ⟨wA, hwA⟩ : ∃ wA, wA = (w3.alloc (.cells #[.int .i64 t, .int .i64 1] 80)).drew := ⟨_, rfl⟩
                have FA : Fr [] w3 wA := by rw [hwA]; exact ((Fr.refl [] w3).alloc _).drew
                have x1 : wA.cell? ⟨w3.heap.size, 0, none⟩ = some (vi t) := by rw [hwA]; go_simp; first | rfl | simp
                have x2 : wA.cell? ((⟨w3.heap.size, 0, none⟩ : Addr).add 1) = some (vi 1) := by rw [hwA]; go_simp; first | rfl | simp
                have PA := p1.out.keep0 FA
                have WA := (PA.wqi hl).1
                dsimp only at WA
                rw [HVE.out, ← HX.out] at WA
                obtain ⟨a', c', w4, hrun, W4, F4⟩ := run_append_wq ⟨ce, WA⟩ (by rw [← HM.out]; omega) ⟨w3.heap.size, 0, none⟩ (t, 1) x1 x2 75
                rw [← HM.out] at hrun W4
                rw [← hwA] at hHeld ⊢
                refine wpAnyT_ready (rs := [19]) (by kernel_rfl) (by simp) ?_
                refine AllReadyT.cons rfl (fun K hK => ?_) AllReadyT.nil
                refine stepBi .append Builtin.append_ (fun _ _ _ _ => rfl) rfl _ _ _ _ rfl _ _ rfl rfl hrun ?_
                refine hK.out _ _ (F4.cell hHeld (by simp)) (fun hHeld => ?_)
                clear hK K
                try simp only [Act.put, List.getElem_toArray, List.getElem_cons_zero, List.getElem_cons_succ, List.setIfInBounds_toArray, List.set_cons_zero, List.set_cons_succ]
                have u6 := F4.frozen (FA.cell g4 (by simp)) (FA.frozen g4 u4 (by simp)) (by simp)
                refine wpAnyT_take [21, 20] (i := 20) (v := ?va20) rfl (by kernel_rfl) (by kernel_rfl) (by kernel_rfl) (by kernel_rfl) (fun _ _ _ h => h) (Or.inl ⟨by rfl, ?ya20⟩) hHeld ?ra20
                case ya20 => ((intro w hSw; (try dsimp only at hSw); go_simp) <;> with_reducible rfl)
                try simp only [Act.put, List.getElem_toArray, List.getElem_cons_zero, List.getElem_cons_succ, List.setIfInBounds_toArray, List.set_cons_zero, List.set_cons_succ]
                refine wpAnyT_take [21] (i := 21) (v := ?va21) rfl (by kernel_rfl) (by kernel_rfl) (by kernel_rfl) (by kernel_rfl) (fun _ _ _ h => h) (Or.inl ⟨by rfl, ?ya21⟩) hHeld ?ra21
                case ya21 => ((intro w hSw; (try dsimp only at hSw); go_simp) <;> with_reducible rfl)
                try simp only [Act.put, List.getElem_toArray, List.getElem_cons_zero, List.getElem_cons_succ, List.setIfInBounds_toArray, List.set_cons_zero, List.set_cons_succ]
                refine wpAnyT_ready (rs := [22]) (by kernel_rfl) (by simp) ?_
                refine AllReadyT.last rfl (by kernel_rfl) (fun K hK => ?_) AllReadyT.nil
                go_simp
                refine hK.out _ _ ?_
                clear hK K
                try simp only [Act.put, List.getElem_toArray, List.getElem_cons_zero, List.getElem_cons_succ, List.setIfInBounds_toArray, List.set_cons_zero, List.set_cons_succ]
                refine wpAnyT_done (by kernel_rfl) ?_ _
                go_wp2_with fail
                go_ret2
                refine ⟨by rw [HS.out, HEN.out]; rfl, ?_⟩
                have P4 := (PA.keep0 F4).puti (q := 4) hl (by omega) (.slice a' (m + 1) c') ⟨{ x with fat := true, entry := x.entry ++ [(t, 1)] }, .slice a' (m + 1) c', (G[i]'hl).vw⟩ rfl ⟨W4, ((PA.keep0 F4).wqi hl).2⟩
                have F5 := (((f3.out.tr0 FA).tr0 F4).setCell (p := ⟨b, i * 6 + 4, none⟩) (.inl (by simp)) (.slice a' (m + 1) c'))
                first | exact HFIN.out _ _ P4 (by rw [HEN.out]) F5 | exact HFIN.out _ _ (P4.keep0 (Fr.refl _ _).drew) (by rw [HEN.out]) F5.drew
          · have hr : rixI (G.map RG.x) a = -1 := rixI_no (by rw [← hi, List.length_map]; exact hl)
            rw [hr] at hfd
            have HS := hid (rEnter_new hn.out ha ht (by rw [← hi, List.length_map]; exact hl))
            clear hr hi
            go_wp2_with fail
            refine hfd.out.mono ?_
            rintro e w2 ⟨rfl, f2⟩
            have d2 := hid (HD.out.keep0 (hf.out.tr0 f2))
            have F2 := hid (hf.out.tr0 f2)
            have c3 := f2.cell c2 (by simp)
            have hlen : (G ++ [rgZ a]).length = j + 1 := by rw [List.length_append, ← HN.out]; rfl
            have FA : Fr [] w2 (w2.alloc (.cells #[.int .i64 a, .int .i64 0, .int .i64 0, .bool false, .slice none 0 0, .slice none 0 0] 77)) := (Fr.refl _ _).alloc _
            obtain ⟨b', c', w3, hrun, hD3, f3, hb', hc3, hz3, hq3, hf3, hne⟩ := run_append_doc (d2.out.keep0 FA) (by rw [← HN.out]; exact hk') ⟨w2.heap.size, 0, none⟩ a (fun k u hu => alloc_cells (l := (rgZ a).cells) hu) 44
            rw [← HN.out] at hrun hD3
            rw [HVK.out] at hrun hc3 hb'
            have f3' : Fr (tb :: fpv v) w (w3.setCell ⟨tb, 0, none⟩ (.slice (some ⟨b', 0, none⟩) (j + 1) c')) := (((F2.out.tr0 FA).sub (S' := tb :: fpv v) (by simp)).tr (f3.sub (fun x hx => .inl (by simp [hx])))).setCell (.inl (by simp)) _
            have hb2 : b' ∈ tb :: fpv v ∨ w.heap.size ≤ b' := by
              rcases hb' with k | k
              · rw [← HVK.out] at k; exact .inl (by simp [k])
              · right; have := F2.out.size; have := FA.size; omega
            have HFR := hid f3'
            have HB2 := hid hb2
            have HLN := hid hlen
            clear f3 hb' f3' hb2 FA hlen
            rw [← HN.out] at hq3
            have y1 : w3.cell? ⟨b', j * 6 + 1, none⟩ = some (.int .i64 0) := hq3 1 _ rfl
            have y2 : w3.cell? ⟨b', j * 6 + 2, none⟩ = some (.int .i64 0) := hq3 2 _ rfl
            have x1 := hf3 (j * 6 + 1)
            have x2 := hf3 (j * 6 + 2)
            have D3 := hid hD3
            clear hD3 hq3 hf3
            go_upto_region 11 with (fail)
            go_wp2_with (at_builtin; refine wpBi .append Builtin.append_ (fun _ _ _ _ => rfl) rfl _ _ _ _ rfl _ _ rfl rfl hrun ?_)
            go_ret2
            refine ⟨by rw [HS.out]; rfl, ?_⟩
            rw [HS.out]
            have hlt3 : j < (G ++ [rgZ a]).length := by rw [HLN.out]; omega
            have hlc : (G ++ [rgZ a]).length = j + 1 := HLN.out
            have D4 := D3.out.start hlt3
            rw [← hlc] at D4 HFR
            have hz : (G ++ [rgZ a])[j] = rgZ a := by
              have := HN.out
              subst this
              simp
            have p1 := D4.puti (q := 1) hlt3 (by omega) (.int .i64 t) ⟨{ RL.zero a with owner := t }, .slice none 0 0, .slice none 0 0⟩ (by rw [hz]; rfl) ⟨WQ.nil _, WQ.nil _⟩
            have p2 := p1.puti (q := 2) hlt3 (by omega) (.int .i64 1) ⟨{ RL.zero a with owner := t, count := 1 }, .slice none 0 0, .slice none 0 0⟩ rfl ⟨WQ.nil _, WQ.nil _⟩
            have hm : (G ++ [rgZ a]).set j ⟨{ RL.zero a with owner := t, count := 1 }, .slice none 0 0, .slice none 0 0⟩ = G ++ [⟨{ RL.zero a with owner := t, count := 1 }, .slice none 0 0, .slice none 0 0⟩] := by
              have := HN.out
              subst this
              simp
            have f4 := (HFR.out.sub (S' := b' :: tb :: fpv v) (fun x hx => .inl (by simp [hx]))).setCell (p := ⟨b', j * 6 + 1, none⟩) (.inl (by simp)) (.int .i64 t)
            have f5 := f4.setCell (p := ⟨b', j * 6 + 2, none⟩) (.inl (by simp)) (.int .i64 1)
            have f6 := f5.sub (S' := tb :: fpv v) (fun x hx => by
              rcases List.mem_cons.1 hx with rfl | hx
              · exact HB2.out
              · exact .inl hx)
            rw [hm] at p2
            have hfin : ∀ x ∈ tb :: fpv (.slice (some ⟨b', 0, none⟩) (G ++ [rgZ a]).length c'), x ∈ tb :: fpv v ∨ w.heap.size ≤ x := by
              intro x hx
              rcases List.mem_cons.1 hx with rfl | hx
              · exact .inl (by simp)
              · have : x = b' := by simpa [fpv, Value.ownBlock] using hx
                subst this
                exact HB2.out
            rw [hlc] at p2 f6 hfin
            first
            | exact ⟨_, ⟨_, _, rfl, by rw [List.map_append]; rfl, p2⟩, f6, hfin⟩
            | exact ⟨_, ⟨_, _, rfl, by rw [List.map_append]; rfl, p2.keep0 (Fr.refl _ _).drew⟩, f6.drew, hfin⟩
        · have ht2 : t < 1 := by omega
          go_wp2_with fail
          go_ret2
          rw [rEnter_no (.inr (.inr ht2))]
          exact ⟨rfl, DMv.same HD.out (by first | exact hf.out | exact hf.out.drew)⟩
      · have ha2 : a < 1 := by omega
        go_wp2_with fail
        go_ret2
        rw [rEnter_no (.inr (.inl ha2))]
        exact ⟨rfl, DMv.same HD.out (by first | exact hf.out | exact hf.out.drew)⟩

end Go.Proofs.Ythdmgjkipiaccaa
