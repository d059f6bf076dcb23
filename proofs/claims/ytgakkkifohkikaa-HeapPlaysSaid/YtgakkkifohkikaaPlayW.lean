/-
  HeapPlays: the walk.
-/
import Derived.Test.YtgakkkifohkikaaPlayY
import Derived.Test.YtgakkkifohkikaaHeapG
namespace Go.Proofs.Ytgakkkifohkikaa
open Go.RowKit

set_option maxRecDepth 20000 in
set_option maxHeartbeats 8000000 in
theorem plays_walk (words : Int) (a : Option Addr) (len cap : Nat) (ss : List (Int × Int × Int × Int)) (W : World) (hs : IsSteps W a len ss) :
    Calls Try.prog 7 #[.int .i64 words, .slice a len cap] W fun e w' => e = .returned (.bool true) ∧ Fr [] W w' := by
  have HS := hid hs
  clear hs
  go_enter Try.func7, Try.ntmps7
  go_wp2_with fail
  refine (known_any W).mono ?_
  rintro e wA ⟨rfl, fA⟩
  have FA := hid fA
  clear fA
  by_cases g1 : (80 : Int) < len
  · go_wp2_with fail
    go_ret
    exact ⟨rfl, FA.out⟩
  have g1' : decide ((80 : Int) < len) = false := by simpa using g1
  have BL := hid (show len ≤ 80 by omega)
  clear g1
  go_wp2_with fail
  refine (Own.new W wA FA.out words).mono ?_
  rintro e w1 ⟨hb, rfl, h1⟩
  have H1 := hid h1
  clear h1
  obtain ⟨n, hn⟩ : ∃ n, n = sizeN words := ⟨_, rfl⟩
  rw [← hn] at H1
  go_wp2_with fail
  refine (rnew_any w1 words).mono ?_
  rintro e w2 ⟨rb, rfl, h2, f2, n2⟩
  rw [← hn] at h2
  have H2 : Hid (PlW W w2 hb rb n [] [] []) := hid (by
    refine ⟨[rb], ?_, h2, fun b hb => ?_, by simp⟩
    · refine H1.out.ownF.other f2 (by simp) (fun a ha => ?_)
      simp only [List.append_nil, List.mem_singleton] at ha
      subst ha
      exact ⟨.inr n2, h2.lt _ (by simp)⟩
    · rw [List.mem_singleton] at hb
      subst hb
      exact Nat.le_trans H1.out.fr.size n2)
  clear h2 f2 n2 hn
  go_wp2_with fail
  go_loopw [7] (fun i wr => ∃ (k : Nat) (L : List Ob), i = .int .i64 k ∧ k ≤ len ∧ Hid (PlW W wr hb rb n L L [])) (fun i _ => len - (intOf i).toNat)
  case atStart => exact ⟨0, [], rfl, by omega, H2⟩
  case round =>
    obtain ⟨k, L, rfl, hk, hr⟩ := hrel
    have HR := hid hr.out
    clear hr
    have hbl := BL.out
    by_cases hlt : k < len
    · have hlt2 : (k : Int) < len := by omega
      have hkb : (k : Int) ≤ 80 := by omega
      obtain ⟨bs, os, s0, s1, s2, s3, hae, c0, c1, c2, c3, hs1⟩ := HS.out.cell HR.out.fr hlt
      subst hae
      have HS1 := hid hs1
      clear hs1
      have HB : ∀ o, Hid (PlW W (wr.alloc o) hb rb n L L [wr.heap.size]) := fun o => hid (HR.out.start ((Fr.refl _ _).alloc o) (Nat.le_refl _) (by rw [World.size_alloc]; omega))
      go_upto_block 2 with (fail)
      obtain ⟨wo, hwo⟩ : ∃ w, w = wr.alloc (.cells #[.int .i64 s0, .int .i64 s1, .int .i64 s2, .int .u64 s3] 53) := ⟨_, rfl⟩
      have HB1 := HB (.cells #[.int .i64 s0, .int .i64 s1, .int .i64 s2, .int .u64 s3] 53)
      rw [← hwo] at HB1 ⊢
      obtain ⟨sb, hsb⟩ : ∃ b, b = wr.heap.size := ⟨_, rfl⟩
      have hvar : wo.heap[sb]? = some (.cells #[.int .i64 s0, .int .i64 s1, .int .i64 s2, .int .u64 s3] 53 (0, 0)) := by rw [hwo, hsb]; exact heap_alloc_new _ _
      rw [← hsb] at HB1 ⊢
      have HV : Hid (StepAt wo sb s0 s1 s2 s3) := hid hvar
      clear HB hwo hsb hvar c0 c1 c2 c3
      go_cut [9, 10, 11, 12, 13, 14, 15, 16] from 31 to 249 (fun _ _ _ _ _ _ _ _ wx => Hid (SwPost W hb rb n sb wo wx))
      case first =>
        refine wp_onceR _ (sw_all HV HB1 HS1) ?_
        rintro a' w' ⟨hl, hp⟩
        obtain ⟨f, rfl⟩ := hl.lit
        clear hl
        go_wp2_with fail
        go_meet
        case rel => exact hp
      case rest =>
        obtain ⟨L', hr1, hr2⟩ := hcut.out
        have HC := hid hr1
        have hv1 : wc.cell? ⟨sb, 1, none⟩ = some (.int .i64 s1) := (HV.out.cells hr2).2.1
        have HV1 : Hid (∀ w', Fr [] wc w' → w'.cell? ⟨sb, 1, none⟩ = some (.int .i64 s1)) := hid (fun w' f => f.cell hv1 (by simp))
        obtain ⟨vl, G, hLG, hrt⟩ := HC.out.refT
        have HLG := hid hLG
        have HRT := hid hrt
        have hgl := hrt.glen
        have hns := hrt.small
        clear hr1 hr2 hcut hLG hrt hv1
        go_wp2_with fail
        refine HC.out.alike.mono ?_
        rintro e w5 ⟨rfl, f5⟩
        have h15 := HV1.out w5 f5
        have H5 := hid (HC.out.keep f5)
        have F5 := hid f5
        clear f5
        obtain ⟨m, hm⟩ : ∃ m, m = G.length := ⟨_, rfl⟩
        have HM := hid hm
        rw [← hm] at hgl
        clear hm
        by_cases hh : has L' s1 = true
        · obtain ⟨o, ho⟩ : ∃ o, arFind L' s1 = some o := by
            cases hf : arFind L' s1 with
            | none => rw [has_none hf] at hh; cases hh
            | some o => exact ⟨o, rfl⟩
          have hcv : clsV L' s1 = .tuple #[.int .i64 o.cls, .int .i64 0] := by unfold clsV; rw [ho]
          have hwv : wdsV L' s1 = .tuple #[.int .i64 o.ws.length, .int .i64 0] := by unfold wdsV; rw [ho]
          have E1 := hid (H5.out.own.class s1)
          rw [hcv] at E1
          have HWV := hid hwv
          have HO := hid ho
          have HHH := hid hh
          clear hcv hwv ho hh
          go_wp2_with fail
          refine E1.out.mono ?_
          rintro e w6 ⟨rfl, q6, rfl⟩
          have h16 := HV1.out (w5.drewN q6) (F5.out.tr (drewN_fr _ _))
          have E2 := hid ((H5.out.keep (drewN_fr w5 q6)).own.words s1)
          rw [HWV.out] at E2
          go_wp2_with fail
          refine E2.out.mono ?_
          rintro e w7 ⟨rfl, q7, rfl⟩
          have f7 : Fr [] w5 (w5.drewN (q6 + q7)) := drewN_fr _ _
          have h17 := HV1.out _ (F5.out.tr f7)
          have E3 := hid ((H5.out.keep f7).rfind s1)
          have F7 := hid (F5.out.tr f7)
          clear f7
          go_wp2_with fail
          refine E3.out.mono ?_
          rintro e w8 ⟨⟨r, rfl, hr⟩, f8⟩
          rcases hr with ⟨_, hno⟩ | ⟨i, hi, rfl, hx⟩
          · rw [HHH.out] at hno; cases hno
          · have hiG : i < G.length := by rw [HLG.out, List.length_map] at hi; exact hi
            obtain ⟨b, cap', g, aw, cw, hvl, hg, hgw, hcw, hcs, _⟩ := HRT.out.row hiG
            have hog : g.1 = o := by
              have h1 : L'[i] = g.1 := by
                have e2 : G[i] = g := Option.some.inj ((List.getElem?_eq_getElem hiG).symm.trans hg)
                simp only [HLG.out, List.getElem_map, e2]
              have h2 := arFind_at HC.out.rise (List.getElem_mem hi)
              rw [hx] at h2
              have := h2.symm.trans HO.out
              rw [h1] at this
              exact Option.some.inj this
            obtain ⟨d1, d2, d3⟩ := hcs w8 (F7.out.tr f8)
            rw [hog] at d2 d3
            rw [← HM.out] at d1 hiG
            have him : (i : Int) < m := by omega
            have hib : (i : Int) ≤ 1024 := by omega
            have hi0 : (0 : Int) ≤ i := by omega
            have F8 := hid (F7.out.tr f8)
            obtain ⟨z, hz⟩ : ∃ z, z = o.ws.length := ⟨_, rfl⟩
            obtain ⟨cl, hcl⟩ : ∃ z, z = o.cls := ⟨_, rfl⟩
            rw [← hz] at d3 ⊢
            rw [← hcl] at d2 ⊢
            clear hi hx hvl hg hgw hcs hog f8 hz hcl
            go_wp2_with fail
            first | (go_quiet (fail); go_wp2_with fail) | skip
            go_roundw
            case rel => exact ⟨k + 1, L', by go_num, by omega, hid (BA.stop (HC.out.keep (by first | exact F8.out | exact F8.out.drewN _)))⟩
            case measure => simp [intOf]; omega
        · have hno : has L' s1 = false := by simpa using hh
          have ho : arFind L' s1 = none := by
            cases hf : arFind L' s1 with
            | none => rfl
            | some o => rw [has_some hf] at hno; cases hno
          have hcv : clsV L' s1 = .tuple #[.int .i64 0, .int .i64 111] := by unfold clsV; rw [ho]
          have hwv : wdsV L' s1 = .tuple #[.int .i64 0, .int .i64 111] := by unfold wdsV; rw [ho]
          have E1 := hid (H5.out.own.class s1)
          rw [hcv] at E1
          have HWV := hid hwv
          have HNO := hid hno
          clear hcv hwv ho hh hno
          go_wp2_with fail
          refine E1.out.mono ?_
          rintro e w6 ⟨rfl, q6, rfl⟩
          have h16 := HV1.out (w5.drewN q6) (F5.out.tr (drewN_fr _ _))
          have E2 := hid ((H5.out.keep (drewN_fr w5 q6)).own.words s1)
          rw [HWV.out] at E2
          go_wp2_with fail
          refine E2.out.mono ?_
          rintro e w7 ⟨rfl, q7, rfl⟩
          have f7 : Fr [] w5 (w5.drewN (q6 + q7)) := drewN_fr _ _
          have h17 := HV1.out _ (F5.out.tr f7)
          have E3 := hid ((H5.out.keep f7).rfind s1)
          have F7 := hid (F5.out.tr f7)
          clear f7
          go_wp2_with fail
          refine E3.out.mono ?_
          rintro e w8 ⟨⟨r, rfl, hr⟩, f8⟩
          rcases hr with ⟨rfl, _⟩ | ⟨i, hi, rfl, hx⟩
          · have F8 := hid (F7.out.tr f8)
            clear f8
            go_wp2_with fail
            first | (go_quiet (fail); go_wp2_with fail) | skip
            go_roundw
            case rel => exact ⟨k + 1, L', by go_num, by omega, hid (BA.stop (HC.out.keep (by first | exact F8.out | exact F8.out.drewN _)))⟩
            case measure => simp [intOf]; omega
          · exact absurd (has_mem.2 (List.mem_map.2 ⟨L'[i], List.getElem_mem hi, hx⟩)) (by rw [HNO.out]; exact Bool.false_ne_true)
    · obtain rfl : k = len := by omega
      have hlt2 : ¬ (k : Int) < k := by omega
      clear hlt
      go_wp2_with fail
      go_ret
      exact ⟨rfl, HR.out.fr⟩

end Go.Proofs.Ytgakkkifohkikaa
