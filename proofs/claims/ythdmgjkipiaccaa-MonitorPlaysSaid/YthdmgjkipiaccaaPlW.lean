/-
  MonitorPlays: the walk.
-/
import Derived.Test.YthdmgjkipiaccaaPlB
import Derived.Deep.Cut
import Derived.Deep.CutRange
import Derived.Deep.CutBlock
namespace Go.Proofs.Ythdmgjkipiaccaa
open Go.RowKit

def Even (W w : World) (tb rb k : Nat) : Prop := ∃ T R, PlM k T R ∧ Two W w tb rb T R

/-- behind the switch -/
def SwP (W w : World) (tb rb sb : Nat) (s0 s1 s2 : Int) (k : Nat) : Prop := ∃ T R, PlM (k + 1) T R ∧ TwoG W w tb rb T R sb (.cells #[.int .i64 s0, .int .i64 s1, .int .i64 s2] 48 (0, 0))
theorem SwP.drew {W w : World} {tb rb sb : Nat} {s0 s1 s2 : Int} {k : Nat} (h : SwP W w tb rb sb s0 s1 s2 k) : SwP W w.drew tb rb sb s0 s1 s2 k := by
  obtain ⟨T, R, h1, h2⟩ := h
  exact ⟨T, R, h1, h2.keep (Fr.refl _ _).drew⟩

set_option maxRecDepth 20000 in
set_option maxHeartbeats 8000000 in
theorem plays_walk (a0 : Option Addr) (len0 cap0 : Nat) (W : World) (w0 : IsRows W a0 len0) : Calls Try.prog 7 #[.slice a0 len0 cap0] W fun e w' => e = .returned (.bool true) ∧ Fr [] W w' := by
  have H0 := hid w0
  clear w0
  go_enter Try.func7, Try.ntmps7
  go_wp2_with fail
  refine (known_any W).mono ?_
  rintro e wA ⟨rfl, fA⟩
  have FA := hid fA
  clear fA
  by_cases g1 : (100 : Int) < len0
  · go_wp2_with fail
    go_ret
    exact ⟨rfl, FA.out⟩
  have B1 := hid (show len0 ≤ 100 by omega)
  go_wp2_with fail
  refine (new_any wA).mono ?_
  rintro e wB ⟨p, F, rfl, hm, fB, hp⟩
  obtain ⟨tb, rfl⟩ := hm.ptr
  have FB := hid (FA.out.tr fB)
  have HM := hid hm
  have HP := hid hp
  clear hm fB hp
  go_upto_region 6 with (fail)
  obtain ⟨rb, hrb⟩ : ∃ rb, rb = wB.heap.size := ⟨_, rfl⟩
  have HE : Hid (Even W (wB.alloc (.cells #[.slice none 0 0] 46)) tb rb 0) := hid ⟨_, _, PlM.new, ⟨F, [rb], HM.out.keep0 ((Fr.refl _ _).alloc _), Doc.new (by rw [hrb]; exact heap_alloc_new _ _), fun b hb hb2 => by
      rw [List.mem_singleton] at hb2
      subst hb2
      have := HM.out.lt b hb
      omega, fun b hb => by have h1 := HP.out b hb; have h2 := FA.out.size; omega, fun b hb => by
      rw [List.mem_singleton] at hb
      have h2 := FB.out.size
      omega⟩, FB.out.alloc _⟩
  rw [← hrb]
  generalize wB.alloc (.cells #[.slice none 0 0] 46) = wC at HE ⊢
  clear hrb g1 HM HP
  go_wp2_with fail
  go_loopw [5] (fun i wr => ∃ k : Nat, i = .int .i64 k ∧ k ≤ len0 ∧ Hid (Even W wr tb rb k)) (fun i _ => len0 - (intOf i).toNat)
  case atStart => exact ⟨0, rfl, by omega, HE⟩
  case round =>
    obtain ⟨k, rfl, hk, hr⟩ := hrel
    have hlen0 := B1.out
    by_cases hlt : k < len0
    · have hlt2 : (k : Int) < len0 := by omega
      have hkb : (k : Int) ≤ 100 := by omega
      obtain ⟨T, R, hpl, htw⟩ := hr.out
      obtain ⟨bs, os, s0, s1, s2, hae, c0, c1, c2, hwf⟩ := H0.out.cell htw.fr hlt
      subst hae
      have HWF := hid hwf
      have HK := hid hpl
      have HT := hid htw
      have HKN : Hid (k ≤ 1000) := hid (by omega)
      clear hpl htw hwf hr
      go_upto_block 2 with (fail)
      obtain ⟨wo, hwo⟩ : ∃ w, w = wr.alloc (.cells #[.int .i64 s0, .int .i64 s1, .int .i64 s2] 48) := ⟨_, rfl⟩
      obtain ⟨sb, hsb⟩ : ∃ b, b = wr.heap.size := ⟨_, rfl⟩
      have HG : Hid (TwoG W wo tb rb T R sb (.cells #[.int .i64 s0, .int .i64 s1, .int .i64 s2] 48 (0, 0))) := hid (HT.out.start (by rw [hwo]; exact (Fr.refl _ _).alloc _) (by omega) (by rw [hwo, hsb]; exact heap_alloc_new _ _))
      rw [← hwo, ← hsb]
      clear hwo hsb c0 c1 c2
      obtain ⟨v0, v1, v2⟩ := HG.out.cells
      go_cut [7, 8, 9, 10, 11, 12, 13, 14, 15, 16, 17, 18, 19, 20, 21, 22] from 32 to 208 (fun _ _ _ _ _ _ _ _ _ _ _ _ _ _ _ _ wx => Hid (SwP W wx tb rb sb s0 s1 s2 k))
      case first =>
        by_cases hs2 : s0 ≤ 2
        · have e1 := HG.out.enter HK.out HKN.out s1 s2
          unfold tpv at e1
          obtain ⟨x1, hx1⟩ : ∃ x, x = (rEnter R s1 s2).1 := ⟨_, rfl⟩
          obtain ⟨z1, z2⟩ := x1
          obtain ⟨hq, hpl⟩ := HK.out.enter HWF.out s2
          have KP := hid hpl
          have HX1 := hid hx1

          rw [hq, ← HX1.out] at e1
          have E1 := hid e1
          clear e1
          go_wp2_with fail
          refine E1.out.mono ?_
          rintro e w5 ⟨rfl, h5⟩
          obtain ⟨u0, u1, u2⟩ := h5.cells
          have e2 := h5.denter HK.out HKN.out s1 s2
          unfold tpv at e2
          rw [← HX1.out] at e2
          have E2 := hid e2
          clear e2 h5 E1
          go_wp2_with fail
          refine E2.out.mono ?_
          rintro e w6 ⟨rfl, h6⟩
          have HF := hid (show SwP W w6 tb rb sb s0 s1 s2 k from ⟨_, _, KP.out, h6⟩)
          clear h6 E2
          go_wp2_with fail
          go_meet
          case rel => first | exact HF | exact hid HF.out.drew
        · by_cases hs4 : s0 ≤ 4
          · have e1 := HG.out.exit HK.out HKN.out s1 s2
            unfold tpv at e1
            obtain ⟨x1, hx1⟩ : ∃ x, x = (rExit R s1 s2).1 := ⟨_, rfl⟩
            obtain ⟨z1, z2⟩ := x1
            obtain ⟨hq, hpl⟩ := HK.out.exit HWF.out s2
            have KP := hid hpl
            have HX1 := hid hx1

            rw [hq, ← HX1.out] at e1
            have E1 := hid e1
            clear e1
            go_wp2_with fail
            refine E1.out.mono ?_
            rintro e w5 ⟨rfl, h5⟩
            obtain ⟨u0, u1, u2⟩ := h5.cells
            have e2 := h5.dexit HK.out HKN.out s1 s2
            unfold tpv at e2
            rw [← HX1.out] at e2
            have E2 := hid e2
            clear e2 h5 E1
            go_wp2_with fail
            refine E2.out.mono ?_
            rintro e w6 ⟨rfl, h6⟩
            have HF := hid (show SwP W w6 tb rb sb s0 s1 s2 k from ⟨_, _, KP.out, h6⟩)
            clear h6 E2
            go_wp2_with fail
            go_meet
            case rel => first | exact HF | exact hid HF.out.drew
          · by_cases hs5 : s0 = 5
            · subst hs5
              have e1 := HG.out.wait HK.out HKN.out s1 s2
              unfold tpv at e1
              obtain ⟨x1, hx1⟩ : ∃ x, x = (rWait R s1 s2).1 := ⟨_, rfl⟩
              obtain ⟨z1, z2⟩ := x1
              obtain ⟨hq, hpl⟩ := HK.out.wait HWF.out s2
              have KP := hid hpl
              have HX1 := hid hx1

              rw [hq, ← HX1.out] at e1
              have E1 := hid e1
              clear e1
              go_wp2_with fail
              refine E1.out.mono ?_
              rintro e w5 ⟨rfl, h5⟩
              obtain ⟨u0, u1, u2⟩ := h5.cells
              have e2 := h5.dwait HK.out HKN.out s1 s2
              unfold tpv at e2
              rw [← HX1.out] at e2
              have E2 := hid e2
              clear e2 h5 E1
              go_wp2_with fail
              refine E2.out.mono ?_
              rintro e w6 ⟨rfl, h6⟩
              have HF := hid (show SwP W w6 tb rb sb 5 s1 s2 k from ⟨_, _, KP.out, h6⟩)
              clear h6 E2
              go_wp2_with fail
              go_meet
              case rel => first | exact HF | exact hid HF.out.drew
            · have hs5b : (s0 == 5) = false := by simpa using hs5
              by_cases hs7 : s0 ≤ 7
              · by_cases h7 : s0 = 7
                · obtain rfl : s0 = 7 := by omega
                  have e1 := HG.out.notify HK.out HKN.out s1 s2 true
                  unfold tpv at e1
                  obtain ⟨L, hL⟩ : ∃ L, L = (rNotify R s1 s2 true).1.1 := ⟨_, rfl⟩
                  obtain ⟨z2, hz⟩ : ∃ z, z = (rNotify R s1 s2 true).1.2 := ⟨_, rfl⟩
                  obtain ⟨hq, hpl⟩ := HK.out.notify HWF.out s2 true
                  have KP := hid hpl
                  rw [hq, ← hL, ← hz] at e1
                  have HL := hid hL
                  have HZ := hid hz
                  have E1 := hid e1
                  clear e1 hq hpl hL hz
                  go_wp2_with fail
                  refine E1.out.mono ?_
                  rintro e w5 ⟨rfl, h5⟩
                  obtain ⟨u0, u1, u2⟩ := h5.cells
                  have e2 := h5.dnotify HK.out HKN.out s1 s2 true
                  unfold tpv at e2
                  rw [← HL.out, ← HZ.out] at e2
                  have E2 := hid e2
                  clear e2 h5 E1
                  go_wp2_with fail
                  refine E2.out.mono ?_
                  rintro e w6 ⟨⟨vl, rfl, hsl⟩, h6⟩
                  obtain ⟨av, cv, hv, _, _⟩ := hsl.form
                  subst hv
                  have HF := hid (show SwP W w6 tb rb sb 7 s1 s2 k from ⟨_, _, KP.out, h6⟩)
                  clear h6 E2 hsl
                  go_wp2_with fail
                  go_meet
                  case rel => first | exact HF | exact hid HF.out.drew
                · obtain rfl : s0 = 6 := by omega
                  have e1 := HG.out.notify HK.out HKN.out s1 s2 false
                  unfold tpv at e1
                  obtain ⟨L, hL⟩ : ∃ L, L = (rNotify R s1 s2 false).1.1 := ⟨_, rfl⟩
                  obtain ⟨z2, hz⟩ : ∃ z, z = (rNotify R s1 s2 false).1.2 := ⟨_, rfl⟩
                  obtain ⟨hq, hpl⟩ := HK.out.notify HWF.out s2 false
                  have KP := hid hpl
                  rw [hq, ← hL, ← hz] at e1
                  have HL := hid hL
                  have HZ := hid hz
                  have E1 := hid e1
                  clear e1 hq hpl hL hz
                  go_wp2_with fail
                  refine E1.out.mono ?_
                  rintro e w5 ⟨rfl, h5⟩
                  obtain ⟨u0, u1, u2⟩ := h5.cells
                  have e2 := h5.dnotify HK.out HKN.out s1 s2 false
                  unfold tpv at e2
                  rw [← HL.out, ← HZ.out] at e2
                  have E2 := hid e2
                  clear e2 h5 E1
                  go_wp2_with fail
                  refine E2.out.mono ?_
                  rintro e w6 ⟨⟨vl, rfl, hsl⟩, h6⟩
                  obtain ⟨av, cv, hv, _, _⟩ := hsl.form
                  subst hv
                  have HF := hid (show SwP W w6 tb rb sb 6 s1 s2 k from ⟨_, _, KP.out, h6⟩)
                  clear h6 E2 hsl
                  go_wp2_with fail
                  go_meet
                  case rel => first | exact HF | exact hid HF.out.drew
              · have e1 := (HG.out.keep (Fr.refl [] wo).drew).forget HK.out HKN.out s1
                unfold tpv at e1
                obtain ⟨z1, hz⟩ : ∃ z, z = (rForget R s1).1 := ⟨_, rfl⟩
                obtain ⟨hq, hpl⟩ := HK.out.forget s1
                have KP := hid hpl
                rw [hq, ← hz] at e1
                have HZ := hid hz
                have E1 := hid e1
                clear e1 hq hpl hz
                go_upto_region 10 with (fail)
                refine wp_region_held_drew (S := (fun w' => w'.cell? ⟨sb, 1, none⟩ = some (.int .i64 s1))) (by kernel_rfl) (by go_simp) (fun hHeld => ?_)
                refine wpAnyH_take (i := 0) (v := ?va0) rfl (by kernel_rfl) (by kernel_rfl) (by kernel_rfl) (fun _ _ _ h => h) (Or.inl ⟨by rfl, ?ya0⟩) hHeld ?ra0
                case ya0 => ((intro w hSw; (try dsimp only at hSw); go_simp) <;> with_reducible rfl)
                try simp only [Act.put, List.getElem_toArray, List.getElem_cons_zero, List.getElem_cons_succ, List.setIfInBounds_toArray, List.set_cons_zero, List.set_cons_succ]
                refine wpAnyH_take (i := 1) (v := ?va1) rfl (by kernel_rfl) (by kernel_rfl) (by kernel_rfl) (fun _ _ _ h => h) (Or.inl ⟨by rfl, ?ya1⟩) hHeld ?ra1
                case ya1 => ((intro w hSw; (try dsimp only at hSw); go_simp) <;> with_reducible rfl)
                try simp only [Act.put, List.getElem_toArray, List.getElem_cons_zero, List.getElem_cons_succ, List.setIfInBounds_toArray, List.set_cons_zero, List.set_cons_succ]
                refine wpAnyH_take (i := 2) (v := ?va2) rfl (by kernel_rfl) (by kernel_rfl) (by kernel_rfl) (fun _ _ _ h => h) (Or.inl ⟨by rfl, ?ya2⟩) hHeld ?ra2
                case ya2 => ((intro w hSw; (try dsimp only at hSw); go_simp) <;> with_reducible rfl)
                try simp only [Act.put, List.getElem_toArray, List.getElem_cons_zero, List.getElem_cons_succ, List.setIfInBounds_toArray, List.set_cons_zero, List.set_cons_succ]
                refine wpAnyH_take (i := 4) (v := ?va4) rfl (by kernel_rfl) (by kernel_rfl) (by kernel_rfl) (fun _ _ _ h => h) (Or.inl ⟨by rfl, ?ya4⟩) hHeld ?ra4
                case ya4 => ((intro w hSw; (try dsimp only at hSw); go_simp) <;> with_reducible rfl)
                try simp only [Act.put, List.getElem_toArray, List.getElem_cons_zero, List.getElem_cons_succ, List.setIfInBounds_toArray, List.set_cons_zero, List.set_cons_succ]
                refine wpAnyH_take (i := 5) (v := ?va5) rfl (by kernel_rfl) (by kernel_rfl) (by kernel_rfl) (fun _ _ _ h => h) (Or.inl ⟨by rfl, ?ya5⟩) hHeld ?ra5
                case ya5 => ((intro w hSw; (try dsimp only at hSw); go_simp) <;> with_reducible rfl)
                try simp only [Act.put, List.getElem_toArray, List.getElem_cons_zero, List.getElem_cons_succ, List.setIfInBounds_toArray, List.set_cons_zero, List.set_cons_succ]
                refine wpAnyH_take (i := 6) (v := ?va6) rfl (by kernel_rfl) (by kernel_rfl) (by kernel_rfl) (fun _ _ _ h => h) (Or.inl ⟨by rfl, ?ya6⟩) hHeld ?ra6
                case ya6 => ((intro w hSw; (try dsimp only at hSw); go_simp) <;> with_reducible rfl)
                try simp only [Act.put, List.getElem_toArray, List.getElem_cons_zero, List.getElem_cons_succ, List.setIfInBounds_toArray, List.set_cons_zero, List.set_cons_succ]
                refine wpAnyH_ready (rs := [3]) (by kernel_rfl) (by simp) ?_
                refine AllReadyH.cons rfl (fun K hK => ?_) AllReadyH.nil
                go_simp
                refine E1.out.mono ?_
                rintro e w5 ⟨rfl, h5⟩
                have H5 := hid h5
                clear h5
                refine hK.out _ _ H5.out.cells.2.1 (fun hHeld => ?_)
                clear hK K
                try simp only [Act.put, List.getElem_toArray, List.getElem_cons_zero, List.getElem_cons_succ, List.setIfInBounds_toArray, List.set_cons_zero, List.set_cons_succ]
                have e2 := H5.out.dforget HK.out HKN.out s1
                unfold tpv at e2
                rw [← HZ.out] at e2
                have E2 := hid e2
                clear e2 E1
                refine wpAnyH_ready (rs := [7]) (by kernel_rfl) (by simp) ?_
                refine AllReadyH.cons rfl (fun K hK => ?_) AllReadyH.nil
                go_simp
                refine E2.out.mono ?_
                rintro e w6 ⟨rfl, h6⟩
                have H6 := hid h6
                clear h6
                refine hK.out _ _ H6.out.cells.2.1 (fun hHeld => ?_)
                clear hK K
                try simp only [Act.put, List.getElem_toArray, List.getElem_cons_zero, List.getElem_cons_succ, List.setIfInBounds_toArray, List.set_cons_zero, List.set_cons_succ]
                refine wpAnyH_take (i := 8) (v := ?va8) rfl (by kernel_rfl) (by kernel_rfl) (by kernel_rfl) (fun _ _ _ h => h) (Or.inl ⟨by rfl, ?ya8⟩) hHeld ?ra8
                case ya8 => ((intro w hSw; (try dsimp only at hSw); go_simp) <;> with_reducible rfl)
                try simp only [Act.put, List.getElem_toArray, List.getElem_cons_zero, List.getElem_cons_succ, List.setIfInBounds_toArray, List.set_cons_zero, List.set_cons_succ]
                refine wpAnyH_done (by kernel_rfl) ?_ _
                have HF := hid (show SwP W w6 tb rb sb s0 s1 s2 k from ⟨_, _, KP.out, H6.out⟩)
                clear H5 H6 E2
                go_wp2_with fail
                go_meet
                case rel => first | exact HF | exact hid HF.out.drew
      case rest =>
        obtain ⟨T', R', hp, hg⟩ := hcut.out
        have HC := hid hg
        have HL1 : Hid (∀ a W', Fr [] wc W' → Calls Try.prog 12 #[.pointer (some ⟨tb, 0, none⟩), .int .i64 a] W' (LockPost W' (T'.at a))) := hid (fun a W' f => hg.lock hp (by have := B1.out; omega) f a)
        have HL2 : Hid (∀ a W', Fr [] wc W' → Calls Try.prog 24 #[.pointer (some ⟨rb, 0, none⟩), .int .i64 a] W' (LockPost W' (T'.at a))) := hid (fun a W' f => hg.dlock hp (by have := B1.out; omega) f a)
        have HH1 : Hid (∀ W', Fr [] wc W' → Calls Try.prog 16 #[.pointer (some ⟨tb, 0, none⟩), .int .i64 s2] W' (HeldPost W' (T'.held s2))) := hid (fun W' f => hg.held hp (by have := B1.out; omega) f s2)
        have HH2 : Hid (∀ W', Fr [] wc W' → Calls Try.prog 25 #[.pointer (some ⟨rb, 0, none⟩), .int .i64 s2] W' fun e w2 => ∃ vl, e = .returned vl ∧ Qu w2 vl (T'.held s2) ∧ Fr [] W' w2) := hid (fun W' f => hg.dheld hp (by have := B1.out; omega) f s2)
        have HFW := hid hg.fr
        have HEV : Hid (∀ W', Fr [] wc W' → Even W W' tb rb (k + 1)) := hid (fun W' f => ⟨T', R', hp, (hg.keep f).stop⟩)
        have w2c := hg.cells.2.2
        have HF0 := hid (Fr.refl [] wc)
        clear hp hg hcut v0 v1 v2
        go_wp2_with fail
        go_loopw [23] (fun i wx => ∃ j : Nat, i = .int .i64 j ∧ j ≤ k + 1 ∧ Hid (Fr [] wc wx)) (fun i _ => k + 1 - (intOf i).toNat)
        case atStart => exact ⟨0, rfl, by omega, by first | exact HF0 | exact hid HF0.out.drew⟩
        case round =>
          obtain ⟨j, rfl, hj, hf⟩ := hrel
          by_cases hjk : j ≤ k
          · have hjk2 : (j : Int) ≤ k := by omega
            have hjl : (j : Int) < len0 := by omega
            have hjb : (j : Int) ≤ 100 := by omega
            obtain ⟨bs', os', y0, y1, y2, hae, _, d1, _, _⟩ := H0.out.cell (HFW.out.tr hf.out) (i := j) (by omega)
            injection hae with hae
            injection hae with ha1 ha2 _
            subst ha1 ha2
            go_upto_region 35 with (fail)
            refine wp_region_held_drew (S := (fun w' => w'.cell? ⟨bs, os + j * 3 + 1, none⟩ = some (.int .i64 y1) ∧ Hid (Fr [] wc w'))) (by kernel_rfl) ⟨by go_simp, hid (by first | exact hf.out | exact hf.out.drew)⟩ (fun hHeld => ?_)
            refine wpAnyH_take (i := 0) (v := ?vb0) rfl (by kernel_rfl) (by kernel_rfl) (by kernel_rfl) (fun _ _ _ h => h) (Or.inl ⟨by rfl, ?yb0⟩) hHeld ?rb0
            case yb0 => ((intro w hSw; (try dsimp only at hSw); go_simp) <;> with_reducible rfl)
            try simp only [Act.put, List.getElem_toArray, List.getElem_cons_zero, List.getElem_cons_succ, List.setIfInBounds_toArray, List.set_cons_zero, List.set_cons_succ]
            refine wpAnyH_take (i := 1) (v := ?vb1) rfl (by kernel_rfl) (by kernel_rfl) (by kernel_rfl) (fun _ _ _ h => h) (Or.inl ⟨by rfl, ?yb1⟩) hHeld ?rb1
            case yb1 => ((intro w hSw; (try dsimp only at hSw); go_simp) <;> with_reducible rfl)
            try simp only [Act.put, List.getElem_toArray, List.getElem_cons_zero, List.getElem_cons_succ, List.setIfInBounds_toArray, List.set_cons_zero, List.set_cons_succ]
            refine wpAnyH_take (i := 2) (v := ?vb2) rfl (by kernel_rfl) (by kernel_rfl) (by kernel_rfl) (fun _ _ _ h => h) (Or.inl ⟨by rfl, ?yb2⟩) hHeld ?rb2
            case yb2 => ((intro w hSw; (try dsimp only at hSw); go_simp) <;> with_reducible rfl)
            try simp only [Act.put, List.getElem_toArray, List.getElem_cons_zero, List.getElem_cons_succ, List.setIfInBounds_toArray, List.set_cons_zero, List.set_cons_succ]
            refine wpAnyH_take (i := 3) (v := ?vb3) rfl (by kernel_rfl) (by kernel_rfl) (by kernel_rfl) (fun _ _ _ h => h) (Or.inl ⟨by rfl, ?yb3⟩) hHeld ?rb3
            case yb3 => ((intro w hSw; (try dsimp only at hSw); go_simp) <;> with_reducible rfl)
            try simp only [Act.put, List.getElem_toArray, List.getElem_cons_zero, List.getElem_cons_succ, List.setIfInBounds_toArray, List.set_cons_zero, List.set_cons_succ]
            refine wpAnyH_take (i := 4) (v := ?vb4) rfl (by kernel_rfl) (by kernel_rfl) (by kernel_rfl) (fun _ _ _ h => h) (Or.inl ⟨by rfl, ?yb4⟩) hHeld ?rb4
            case yb4 => ((intro w hSw; (try dsimp only at hSw); go_simp) <;> with_reducible rfl)
            try simp only [Act.put, List.getElem_toArray, List.getElem_cons_zero, List.getElem_cons_succ, List.setIfInBounds_toArray, List.set_cons_zero, List.set_cons_succ]
            refine wpAnyH_take (i := 5) (v := ?vb5) rfl (by kernel_rfl) (by kernel_rfl) (by kernel_rfl) (fun _ _ _ h => h) (Or.inl ⟨by rfl, ?yb5⟩) hHeld ?rb5
            case yb5 => ((intro w hSw; (try dsimp only at hSw); go_simp) <;> with_reducible rfl)
            try simp only [Act.put, List.getElem_toArray, List.getElem_cons_zero, List.getElem_cons_succ, List.setIfInBounds_toArray, List.set_cons_zero, List.set_cons_succ]
            refine wpAnyH_take (i := 7) (v := ?vb7) rfl (by kernel_rfl) (by kernel_rfl) (by kernel_rfl) (fun _ _ _ h => h) (Or.inl ⟨by rfl, ?yb7⟩) hHeld ?rb7
            case yb7 => ((intro w hSw; (try dsimp only at hSw); go_simp) <;> with_reducible rfl)
            try simp only [Act.put, List.getElem_toArray, List.getElem_cons_zero, List.getElem_cons_succ, List.setIfInBounds_toArray, List.set_cons_zero, List.set_cons_succ]
            refine wpAnyH_take (i := 8) (v := ?vb8) rfl (by kernel_rfl) (by kernel_rfl) (by kernel_rfl) (fun _ _ _ h => h) (Or.inl ⟨by rfl, ?yb8⟩) hHeld ?rb8
            case yb8 => ((intro w hSw; (try dsimp only at hSw); go_simp) <;> with_reducible rfl)
            try simp only [Act.put, List.getElem_toArray, List.getElem_cons_zero, List.getElem_cons_succ, List.setIfInBounds_toArray, List.set_cons_zero, List.set_cons_succ]
            refine wpAnyH_take (i := 9) (v := ?vb9) rfl (by kernel_rfl) (by kernel_rfl) (by kernel_rfl) (fun _ _ _ h => h) (Or.inl ⟨by rfl, ?yb9⟩) hHeld ?rb9
            case yb9 => ((intro w hSw; (try dsimp only at hSw); go_simp) <;> with_reducible rfl)
            try simp only [Act.put, List.getElem_toArray, List.getElem_cons_zero, List.getElem_cons_succ, List.setIfInBounds_toArray, List.set_cons_zero, List.set_cons_succ]
            refine wpAnyH_take (i := 10) (v := ?vb10) rfl (by kernel_rfl) (by kernel_rfl) (by kernel_rfl) (fun _ _ _ h => h) (Or.inl ⟨by rfl, ?yb10⟩) hHeld ?rb10
            case yb10 => ((intro w hSw; (try dsimp only at hSw); go_simp) <;> with_reducible rfl)
            try simp only [Act.put, List.getElem_toArray, List.getElem_cons_zero, List.getElem_cons_succ, List.setIfInBounds_toArray, List.set_cons_zero, List.set_cons_succ]
            refine wpAnyH_take (i := 11) (v := ?vb11) rfl (by kernel_rfl) (by kernel_rfl) (by kernel_rfl) (fun _ _ _ h => h) (Or.inl ⟨by rfl, ?yb11⟩) hHeld ?rb11
            case yb11 => ((intro w hSw; (try dsimp only at hSw); go_simp) <;> with_reducible rfl)
            try simp only [Act.put, List.getElem_toArray, List.getElem_cons_zero, List.getElem_cons_succ, List.setIfInBounds_toArray, List.set_cons_zero, List.set_cons_succ]
            refine wpAnyH_take (i := 12) (v := ?vb12) rfl (by kernel_rfl) (by kernel_rfl) (by kernel_rfl) (fun _ _ _ h => h) (Or.inl ⟨by rfl, ?yb12⟩) hHeld ?rb12
            case yb12 => ((intro w hSw; (try dsimp only at hSw); go_simp) <;> with_reducible rfl)
            try simp only [Act.put, List.getElem_toArray, List.getElem_cons_zero, List.getElem_cons_succ, List.setIfInBounds_toArray, List.set_cons_zero, List.set_cons_succ]
            refine wpAnyH_ready (rs := [6]) (by kernel_rfl) (by simp) ?_
            refine AllReadyH.cons rfl (fun K hK => ?_) AllReadyH.nil
            go_simp
            refine (HL1.out y1 _ (by first | exact hHeld.2.out | exact hHeld.2.out.drew)).mono ?_
            rintro e w5 ⟨ve, vw, rfl, q1, q2, f5⟩
            have Q1 := hid q1
            have Q2 := hid q2
            have F5 := hid f5
            clear q1 q2 f5
            refine hK.out _ _ ⟨F5.out.cell hHeld.1 (by simp), hid (hHeld.2.out.tr F5.out)⟩ (fun hHeld => ?_)
            clear hK K
            try simp only [Act.put, List.getElem_toArray, List.getElem_cons_zero, List.getElem_cons_succ, List.setIfInBounds_toArray, List.set_cons_zero, List.set_cons_succ]
            refine wpAnyH_ready (rs := [13]) (by kernel_rfl) (by simp) ?_
            refine AllReadyH.cons rfl (fun K hK => ?_) AllReadyH.nil
            go_simp
            refine (HL2.out y1 _ (by first | exact hHeld.2.out | exact hHeld.2.out.drew)).mono ?_
            rintro e w6 ⟨ue, uw, rfl, q3, q4, f6⟩
            have Q3 := hid q3
            have Q4 := hid q4
            have F6 := hid f6
            clear q3 q4 f6
            refine hK.out _ _ ⟨F6.out.cell hHeld.1 (by simp), hid (hHeld.2.out.tr F6.out)⟩ (fun hHeld => ?_)
            clear hK K
            try simp only [Act.put, List.getElem_toArray, List.getElem_cons_zero, List.getElem_cons_succ, List.setIfInBounds_toArray, List.set_cons_zero, List.set_cons_succ]
            refine wpAnyH_ready (rs := [14]) (by kernel_rfl) (by simp) ?_
            refine AllReadyH.cons rfl (fun K hK => ?_) AllReadyH.nil
            go_simp
            refine (dsame_any _ _ _ _ _ _ _ _ _ _ (Qu.ofSli (Q1.out.keep0 F6.out)).1 (Qu.ofSli (Q2.out.keep0 F6.out)).1 (Qu.ofSli Q3.out).1 (Qu.ofSli Q4.out).1).mono ?_
            rintro e w7 ⟨rfl, f7⟩
            have F7 := hid f7
            clear f7
            refine hK.out _ _ ⟨F7.out.cell hHeld.1 (by simp), hid (hHeld.2.out.tr F7.out)⟩ (fun hHeld => ?_)
            clear hK K
            try simp only [Act.put, List.getElem_toArray, List.getElem_cons_zero, List.getElem_cons_succ, List.setIfInBounds_toArray, List.set_cons_zero, List.set_cons_succ]
            refine wpAnyH_take (i := 15) (v := ?vb15) rfl (by kernel_rfl) (by kernel_rfl) (by kernel_rfl) (fun _ _ _ h => h) (Or.inl ⟨by rfl, ?yb15⟩) hHeld ?rb15
            case yb15 => ((intro w hSw; (try dsimp only at hSw); go_simp) <;> with_reducible rfl)
            try simp only [Act.put, List.getElem_toArray, List.getElem_cons_zero, List.getElem_cons_succ, List.setIfInBounds_toArray, List.set_cons_zero, List.set_cons_succ]
            refine wpAnyH_done (by kernel_rfl) ?_ _
            have HFX := hid hHeld.2.out
            clear hHeld
            go_wp2_with fail
            go_roundw
            case rel => exact ⟨j + 1, by go_num, by omega, by first | exact HFX | exact hid HFX.out.drew⟩
            case measure => simp [intOf]; omega
          · obtain rfl : j = k + 1 := by omega
            have hjk2 : ¬ ((k : Int) + 1) ≤ k := by omega
            have w2x := hf.out.cell w2c (by simp)
            go_upto_region 37 with (fail)
            refine wp_region_held_drew (S := (fun w' => w'.cell? ⟨sb, 2, none⟩ = some (.int .i64 s2) ∧ Hid (Fr [] wc w'))) (by kernel_rfl) ⟨by go_simp, hid (by first | exact hf.out | exact hf.out.drew)⟩ (fun hHeld => ?_)
            refine wpAnyH_take (i := 0) (v := ?vc0) rfl (by kernel_rfl) (by kernel_rfl) (by kernel_rfl) (fun _ _ _ h => h) (Or.inl ⟨by rfl, ?yc0⟩) hHeld ?rc0
            case yc0 => ((intro w hSw; (try dsimp only at hSw); go_simp) <;> with_reducible rfl)
            try simp only [Act.put, List.getElem_toArray, List.getElem_cons_zero, List.getElem_cons_succ, List.setIfInBounds_toArray, List.set_cons_zero, List.set_cons_succ]
            refine wpAnyH_take (i := 1) (v := ?vc1) rfl (by kernel_rfl) (by kernel_rfl) (by kernel_rfl) (fun _ _ _ h => h) (Or.inl ⟨by rfl, ?yc1⟩) hHeld ?rc1
            case yc1 => ((intro w hSw; (try dsimp only at hSw); go_simp) <;> with_reducible rfl)
            try simp only [Act.put, List.getElem_toArray, List.getElem_cons_zero, List.getElem_cons_succ, List.setIfInBounds_toArray, List.set_cons_zero, List.set_cons_succ]
            refine wpAnyH_take (i := 2) (v := ?vc2) rfl (by kernel_rfl) (by kernel_rfl) (by kernel_rfl) (fun _ _ _ h => h) (Or.inl ⟨by rfl, ?yc2⟩) hHeld ?rc2
            case yc2 => ((intro w hSw; (try dsimp only at hSw); go_simp) <;> with_reducible rfl)
            try simp only [Act.put, List.getElem_toArray, List.getElem_cons_zero, List.getElem_cons_succ, List.setIfInBounds_toArray, List.set_cons_zero, List.set_cons_succ]
            refine wpAnyH_take (i := 4) (v := ?vc4) rfl (by kernel_rfl) (by kernel_rfl) (by kernel_rfl) (fun _ _ _ h => h) (Or.inl ⟨by rfl, ?yc4⟩) hHeld ?rc4
            case yc4 => ((intro w hSw; (try dsimp only at hSw); go_simp) <;> with_reducible rfl)
            try simp only [Act.put, List.getElem_toArray, List.getElem_cons_zero, List.getElem_cons_succ, List.setIfInBounds_toArray, List.set_cons_zero, List.set_cons_succ]
            refine wpAnyH_take (i := 5) (v := ?vc5) rfl (by kernel_rfl) (by kernel_rfl) (by kernel_rfl) (fun _ _ _ h => h) (Or.inl ⟨by rfl, ?yc5⟩) hHeld ?rc5
            case yc5 => ((intro w hSw; (try dsimp only at hSw); go_simp) <;> with_reducible rfl)
            try simp only [Act.put, List.getElem_toArray, List.getElem_cons_zero, List.getElem_cons_succ, List.setIfInBounds_toArray, List.set_cons_zero, List.set_cons_succ]
            refine wpAnyH_take (i := 6) (v := ?vc6) rfl (by kernel_rfl) (by kernel_rfl) (by kernel_rfl) (fun _ _ _ h => h) (Or.inl ⟨by rfl, ?yc6⟩) hHeld ?rc6
            case yc6 => ((intro w hSw; (try dsimp only at hSw); go_simp) <;> with_reducible rfl)
            try simp only [Act.put, List.getElem_toArray, List.getElem_cons_zero, List.getElem_cons_succ, List.setIfInBounds_toArray, List.set_cons_zero, List.set_cons_succ]
            refine wpAnyH_ready (rs := [3]) (by kernel_rfl) (by simp) ?_
            refine AllReadyH.cons rfl (fun K hK => ?_) AllReadyH.nil
            go_simp
            refine (HH1.out _ (by first | exact hHeld.2.out | exact hHeld.2.out.drew)).mono ?_
            rintro e w5 ⟨ve, rfl, q1, _, f5⟩
            have Q1 := hid q1
            have F5 := hid f5
            clear q1 f5
            refine hK.out _ _ ⟨F5.out.cell hHeld.1 (by simp), hid (hHeld.2.out.tr F5.out)⟩ (fun hHeld => ?_)
            clear hK K
            try simp only [Act.put, List.getElem_toArray, List.getElem_cons_zero, List.getElem_cons_succ, List.setIfInBounds_toArray, List.set_cons_zero, List.set_cons_succ]
            refine wpAnyH_ready (rs := [7]) (by kernel_rfl) (by simp) ?_
            refine AllReadyH.cons rfl (fun K hK => ?_) AllReadyH.nil
            go_simp
            refine (HH2.out _ (by first | exact hHeld.2.out | exact hHeld.2.out.drew)).mono ?_
            rintro e w6 ⟨ue, rfl, q2, f6⟩
            have Q2 := hid q2
            have F6 := hid f6
            clear q2 f6
            refine hK.out _ _ ⟨F6.out.cell hHeld.1 (by simp), hid (hHeld.2.out.tr F6.out)⟩ (fun hHeld => ?_)
            clear hK K
            try simp only [Act.put, List.getElem_toArray, List.getElem_cons_zero, List.getElem_cons_succ, List.setIfInBounds_toArray, List.set_cons_zero, List.set_cons_succ]
            refine wpAnyH_ready (rs := [8]) (by kernel_rfl) (by simp) ?_
            refine AllReadyH.cons rfl (fun K hK => ?_) AllReadyH.nil
            go_simp
            refine (ints_any _ _ _ _ _ (Q1.out.keep0 F6.out) Q2.out).mono ?_
            rintro e w7 ⟨rfl, f7⟩
            rw [show decide (T'.held s2 = T'.held s2) = true from decide_eq_true rfl]
            have F7 := hid f7
            clear f7
            refine hK.out _ _ ⟨F7.out.cell hHeld.1 (by simp), hid (hHeld.2.out.tr F7.out)⟩ (fun hHeld => ?_)
            clear hK K
            try simp only [Act.put, List.getElem_toArray, List.getElem_cons_zero, List.getElem_cons_succ, List.setIfInBounds_toArray, List.set_cons_zero, List.set_cons_succ]
            refine wpAnyH_take (i := 9) (v := ?vc9) rfl (by kernel_rfl) (by kernel_rfl) (by kernel_rfl) (fun _ _ _ h => h) (Or.inl ⟨by rfl, ?yc9⟩) hHeld ?rc9
            case yc9 => ((intro w hSw; (try dsimp only at hSw); go_simp) <;> with_reducible rfl)
            try simp only [Act.put, List.getElem_toArray, List.getElem_cons_zero, List.getElem_cons_succ, List.setIfInBounds_toArray, List.set_cons_zero, List.set_cons_succ]
            refine wpAnyH_done (by kernel_rfl) ?_ _
            have HFX := hid (HEV.out _ hHeld.2.out)
            clear hHeld
            go_wp2_with fail
            go_roundw
            case rel => exact ⟨k + 1, by go_num, by omega, by first | exact HFX | (obtain ⟨T2, R2, k1, k2⟩ := HFX.out; exact hid ⟨T2, R2, k1, k2.keep (Fr.refl _ _).drew⟩)⟩
            case measure => simp [intOf]; omega
    · obtain rfl : k = len0 := by omega
      have hlt2 : ¬ (k : Int) < k := by omega
      have HFR : Hid (Fr [] W wr) := hid (by obtain ⟨_, _, _, h⟩ := hr.out; exact h.fr)
      clear hr hlt
      go_wp2_with fail
      go_ret
      exact ⟨rfl, by first | exact HFR.out | exact HFR.out.drew⟩

end Go.Proofs.Ythdmgjkipiaccaa
