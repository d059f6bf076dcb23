/-
  RacePlays: the walk.
-/
import Derived.Test.YtjkakhjajfpldaaRaceM
import Derived.Deep.CutBlock
namespace Go.Proofs.Ytjkakhjajfpldaa
open Go.RowKit

theorem read_vol (s : St) (t a i : Int) : s.read t a i true = (false, s.acqWord t (a, i)) := by
  unfold St.read
  by_cases h : inB t = true
  · rw [if_pos h, if_pos rfl]
  · rw [if_neg h]; unfold St.acqWord St.acq; rw [if_neg h]
theorem write_vol (s : St) (t a i : Int) : s.write t a i true = (false, s.relWord t (a, i)) := by
  unfold St.write
  by_cases h : inB t = true
  · rw [if_pos h, if_pos rfl]
  · rw [if_neg h]; unfold St.relWord; rw [if_neg h]

/-- what the region behind the switch holds -/
def SwS (W : World) (p : Ptrs) (rb : Nat) (s : St) (r : RSt) (g : Nat) (s1 : Int) (o : Obj) (w' : World) : Prop := w'.cell? ⟨rb, 353, none⟩ = some (.int .i64 s.races) ∧ w'.cell? ⟨g, 1, none⟩ = some (.int .i64 s1) ∧ Hid (BoG W w' p rb s r g o)
theorem swS {W w' : World} {p : Ptrs} {rb : Nat} {s : St} {r : RSt} {g : Nat} {s0 s1 s2 s3 : Int} (h : BoG W w' p rb s r g (.cells #[.int .i64 s0, .int .i64 s1, .int .i64 s2, .int .i64 s3] 42 (0, 0))) (e : s.races = r.races) :
    SwS W p rb s r g s1 (.cells #[.int .i64 s0, .int .i64 s1, .int .i64 s2, .int .i64 s3] 42 (0, 0)) w' :=
  ⟨by rw [e]; exact h.rRaces, (four h.gb).2.1, hid h⟩
/-- behind the switch -/
def SwP (W : World) (p : Ptrs) (rb k g : Nat) (o : Obj) (c8 c9 : Value) (wx : World) : Prop := ∃ x : Bool, c8 = .bool x ∧ c9 = .bool x ∧ Hid (EvenG W wx p rb k g o)
set_option maxRecDepth 20000 in
set_option maxHeartbeats 8000000 in
theorem plays_walk (a0 : Option Addr) (len0 cap0 : Nat) (W : World) (w0 : IsRows W a0 len0) : Calls Try.prog 8 #[.slice a0 len0 cap0] W fun e w' => e = .returned (.bool true) ∧ Fr [] W w' := by
  have H0 := hid w0
  clear w0
  go_enter Try.func8, Try.ntmps8
  go_wp2_with fail
  refine (known_any W).mono ?_
  rintro e wA ⟨rfl, fA⟩
  have FA := hid fA
  clear fA
  by_cases g1 : (100 : Int) < len0
  · go_wp2_with fail
    go_ret
    exact ⟨rfl, FA.out⟩
  have B1 := hid (show len0 ≤ 100 by omega)
  go_wp2_with fail
  refine (new_any wA).mono ?_
  rintro e wB ⟨p, rfl, hwB, fB, hp⟩
  have HWB := hid hwB
  have FB := hid (FA.out.tr fB)
  have HP := hid (fun x hx => Nat.le_trans FA.out.size (hp x hx))
  clear hwB fB hp
  go_wp2_with fail
  refine (rnew_any wB).mono ?_
  rintro e wC ⟨rb, F, rfl, hrC, hF, fC⟩
  have HE : Hid (Even W wC p rb 0) := hid ⟨_, _, Sim.new, ⟨by simp [RSt.new], by simp [RSt.new]⟩, ⟨⟨F, hrC, fun x hx => Nat.le_trans FB.out.size (hF x hx), fun x hx hm => by have := hF x hx; have := HWB.out.lt x hm; omega⟩, HWB.out.keep0 fC, HP.out, FB.out.tr fC⟩⟩
  clear hrC hF fC g1
  go_wp2_with fail
  go_loopw [5] (fun i wr => ∃ k : Nat, i = .int .i64 k ∧ k ≤ len0 ∧ Hid (Even W wr p rb k)) (fun i _ => len0 - (intOf i).toNat)
  case atStart => exact ⟨0, rfl, by omega, HE⟩
  case round =>
    obtain ⟨k, rfl, hk, hr⟩ := hrel
    have HR := hid hr.out
    clear hr HE
    have hb1 := B1.out
    by_cases hlt : k < len0
    · have hlt2 : (k : Int) < len0 := by omega
      have hkb : (k : Int) ≤ 100 := by omega
      obtain ⟨s, r, hsi, hlb, hbo⟩ := HR.out
      obtain ⟨b, off, s0, s1, s2, s3, rfl, c0, c1, c2, c3⟩ := H0.out.cell hbo.fr hlt
      have HSI := hid hsi
      have HLB := hid hlb
      have HLM := hid (Lim.of hsi (by omega) hlb (by omega))
      have HBO := hid hbo
      clear hsi hlb hbo HR hlt
      go_upto_region 10 with (fail)
      obtain ⟨g, hg⟩ : ∃ g, g = wr.heap.size := ⟨_, rfl⟩
      have H3 := hid (HBO.out.start (g := wr.heap.size) (o := .cells #[.int .i64 s0, .int .i64 s1, .int .i64 s2, .int .i64 s3] 42 (0, 0)) ((Fr.refl _ _).alloc _) (Nat.le_refl _) (heap_alloc_new wr _))
      rw [← hg] at H3 ⊢
      clear c0 c1 c2 c3 hg
      generalize wr.alloc (.cells #[.int .i64 s0, .int .i64 s1, .int .i64 s2, .int .i64 s3] 42) = w3 at H3 ⊢
      obtain ⟨q0, q1, q2, q3⟩ := four H3.out.gb
      go_upto_block 2 with (fail)
      obtain ⟨vb, hvb⟩ : ∃ vb, vb = decide (4 ≤ s3) := ⟨_, rfl⟩
      rw [← hvb]
      clear hvb
      go_cut [8, 9] from 30 to 165 (fun c8 c9 wx => SwP W p rb (k + 1) g (.cells #[.int .i64 s0, .int .i64 s1, .int .i64 s2, .int .i64 s3] 42 (0, 0)) c8 c9 wx)
      case first =>
        have hkn : ((k : Int) + 1) ≤ 1000 := by omega
        have HKN := hid hkn
        clear hkn hb1
        by_cases a0 : s0 ≤ 0
        ·
          go_wp2_with fail
          refine (H3.out.pBegin s1 s2).mono ?_
          rintro e w4 ⟨rfl, h4⟩
          have H4 := hid h4
          obtain ⟨q0, q1, q2, q3⟩ := four h4.gb
          clear h4
          go_wp2_with fail
          refine (H4.out.rBegin HLM.out s1 s2).mono ?_
          rintro e w5 ⟨rfl, h5⟩
          have H5 := hid h5
          obtain ⟨q0, q1, q2, q3⟩ := four h5.gb
          clear h5
          go_wp2_with fail
          go_meet
          case rel => exact ⟨false, rfl, rfl, hid ⟨_, _, HSI.out.begins HKN.out s1 s2, HLB.out.begins s1 s2, H5.out⟩⟩
        by_cases a1 : s0 = 1
        · subst a1
          go_wp2_with fail
          refine (H3.out.pEnd s1).mono ?_
          rintro e w4 ⟨rfl, h4⟩
          have H4 := hid h4
          obtain ⟨q0, q1, q2, q3⟩ := four h4.gb
          clear h4
          go_wp2_with fail
          refine (H4.out.rEnd s1).mono ?_
          rintro e w5 ⟨rfl, h5⟩
          have H5 := hid h5
          obtain ⟨q0, q1, q2, q3⟩ := four h5.gb
          clear h5
          go_wp2_with fail
          go_meet
          case rel => exact ⟨false, rfl, rfl, hid ⟨_, _, (HSI.out.endT s1).weak, HLB.out.endT s1, H5.out⟩⟩
        by_cases a2 : s0 = 2
        · subst a2
          go_wp2_with fail
          refine (H3.out.pJoined s1 s2).mono ?_
          rintro e w4 ⟨rfl, h4⟩
          have H4 := hid h4
          obtain ⟨q0, q1, q2, q3⟩ := four h4.gb
          clear h4
          go_wp2_with fail
          refine (H4.out.rJoined s1 s2).mono ?_
          rintro e w5 ⟨rfl, h5⟩
          have H5 := hid h5
          obtain ⟨q0, q1, q2, q3⟩ := four h5.gb
          clear h5
          go_wp2_with fail
          go_meet
          case rel => exact ⟨false, rfl, rfl, hid ⟨_, _, (HSI.out.joined s1 s2).weak, HLB.out.joined s1 s2, H5.out⟩⟩
        by_cases a3 : s0 = 3
        · subst a3
          go_wp2_with fail
          refine (H3.out.pAcquire s1 s2).mono ?_
          rintro e w4 ⟨rfl, h4⟩
          have H4 := hid h4
          obtain ⟨q0, q1, q2, q3⟩ := four h4.gb
          clear h4
          go_wp2_with fail
          refine (H4.out.rAcquire HLM.out s1 s2 (-1)).mono ?_
          rintro e w5 ⟨rfl, h5⟩
          have H5 := hid h5
          obtain ⟨q0, q1, q2, q3⟩ := four h5.gb
          clear h5
          go_wp2_with fail
          go_meet
          case rel => exact ⟨false, rfl, rfl, hid ⟨_, _, (HSI.out.acqLock s1 s2).weak, HLB.out.acquire s1 (s2, -1), H5.out⟩⟩
        by_cases a4 : s0 = 4
        · subst a4
          go_wp2_with fail
          refine (H3.out.pRelease s1 s2).mono ?_
          rintro e w4 ⟨rfl, h4⟩
          have H4 := hid h4
          obtain ⟨q0, q1, q2, q3⟩ := four h4.gb
          clear h4
          go_wp2_with fail
          refine (H4.out.rRelease HLM.out s1 s2 (-1)).mono ?_
          rintro e w5 ⟨rfl, h5⟩
          have H5 := hid h5
          obtain ⟨q0, q1, q2, q3⟩ := four h5.gb
          clear h5
          go_wp2_with fail
          go_meet
          case rel => exact ⟨false, rfl, rfl, hid ⟨_, _, HSI.out.relLock HKN.out s1 s2, HLB.out.release s1 (s2, -1), H5.out⟩⟩
        have e1 : (s0 == 1) = false := by simpa using a1
        have e2 : (s0 == 2) = false := by simpa using a2
        have e3 : (s0 == 3) = false := by simpa using a3
        have e4 : (s0 == 4) = false := by simpa using a4
        have e0 : ¬ s0 ≤ 0 := a0
        have H50 := hid (show 5 ≤ s0 by omega)
        clear a0 a1 a2 a3 a4
        by_cases b0 : s3 < 0
        · go_wp2_with fail
          go_ret
          exact ⟨rfl, H3.out.fr⟩
        have HB0 := hid (show 0 ≤ s3 by omega)
        by_cases a7 : s0 ≤ 7
        · cases vb
          case true =>
            go_wp2_with fail
            refine (H3.out.pRead s1 s2 s3 true).mono ?_
            rintro e w4 ⟨rfl, h4⟩
            have H4 := hid h4
            obtain ⟨q0, q1, q2, q3⟩ := four h4.gb
            clear h4
            go_wp2_with fail
            refine (H4.out.rAcquire HLM.out s1 s2 s3).mono ?_
            rintro e w5 ⟨rfl, h5⟩
            have H5 := hid h5
            obtain ⟨q0, q1, q2, q3⟩ := four h5.gb
            clear h5
            go_wp2_with fail
            go_meet
            case rel => exact ⟨(s.read s1 s2 s3 true).1, rfl, by rw [read_vol], hid ⟨_, _, by rw [read_vol]; exact (HSI.out.acqWord s1 s2 s3 HB0.out).weak, HLB.out.acquire s1 (s2, s3), H5.out⟩⟩
          case false =>
            go_wp2_with fail
            refine (H3.out.pRead s1 s2 s3 false).mono ?_
            rintro e w4 ⟨rfl, h4⟩
            have H4 := hid h4
            obtain ⟨q0, q1, q2, q3⟩ := four h4.gb
            clear h4
            go_wp2_with fail
            refine (H4.out.rAccess HLM.out s1 (s2) s3 false).mono ?_
            rintro e w5 ⟨rfl, h5⟩
            have H5 := hid h5
            obtain ⟨q0, q1, q2, q3⟩ := four h5.gb
            clear h5
            go_wp2_with fail
            go_meet
            case rel => exact ⟨(s.read s1 s2 s3 false).1, rfl, by rw [(HSI.out.read HKN.out s1 s2 s3).1], hid ⟨_, _, (HSI.out.read HKN.out s1 s2 s3).2, HLB.out.access s1 (s2, s3) false, H5.out⟩⟩
        · cases vb
          case true =>
            go_wp2_with fail
            refine (H3.out.pWrite s1 s2 s3 true).mono ?_
            rintro e w4 ⟨rfl, h4⟩
            have H4 := hid h4
            obtain ⟨q0, q1, q2, q3⟩ := four h4.gb
            clear h4
            go_wp2_with fail
            refine (H4.out.rRelease HLM.out s1 s2 s3).mono ?_
            rintro e w5 ⟨rfl, h5⟩
            have H5 := hid h5
            obtain ⟨q0, q1, q2, q3⟩ := four h5.gb
            clear h5
            go_wp2_with fail
            go_meet
            case rel => exact ⟨(s.write s1 s2 s3 true).1, rfl, by rw [write_vol], hid ⟨_, _, by rw [write_vol]; exact HSI.out.relWord HKN.out s1 s2 s3 HB0.out, HLB.out.release s1 (s2, s3), H5.out⟩⟩
          case false =>
            go_wp2_with fail
            refine (H3.out.pWrite s1 s2 s3 false).mono ?_
            rintro e w4 ⟨rfl, h4⟩
            have H4 := hid h4
            obtain ⟨q0, q1, q2, q3⟩ := four h4.gb
            clear h4
            go_wp2_with fail
            refine (H4.out.rAccess HLM.out s1 s2 s3 true).mono ?_
            rintro e w5 ⟨rfl, h5⟩
            have H5 := hid h5
            obtain ⟨q0, q1, q2, q3⟩ := four h5.gb
            clear h5
            go_wp2_with fail
            go_meet
            case rel => exact ⟨(s.write s1 s2 s3 false).1, rfl, by rw [(HSI.out.write HKN.out s1 s2 s3).1], hid ⟨_, _, (HSI.out.write HKN.out s1 s2 s3).2, HLB.out.access s1 (s2, s3) true, H5.out⟩⟩

      case rest =>
        obtain ⟨x, rfl, rfl, hev⟩ := hcut
        obtain ⟨s', r', hsi, hlb, hbo⟩ := hev.out
        have HRC := hid hsi.races
        obtain ⟨ca, cl⟩ := hsi.clock s1
        have HCA := hid ca
        have HCL := hid cl
        have HSI2 := hid hsi
        have HLB2 := hid hlb
        have HS := hid (swS (hbo.keep ((Fr.refl _ _).drew)) HRC.out)
        clear hev hsi hlb hbo ca cl q0 q1 q2 q3 HSI HLB HLM HBO H3
        go_upto_region 38 with (fail)
        refine wp_region_held_drew (S := (SwS W p rb s' r' g s1 (.cells #[.int .i64 s0, .int .i64 s1, .int .i64 s2, .int .i64 s3] 42 (0, 0)))) (by kernel_rfl) HS.out (fun hHeld => ?_)
        refine wpAnyH_take (i := 0) (v := ?va0) rfl (by kernel_rfl) (by kernel_rfl) (by kernel_rfl) (fun _ _ _ h => h) (Or.inl ⟨by rfl, ?ya0⟩) hHeld ?ra0
        case ya0 => ((intro w hSw; (try dsimp only at hSw); go_simp) <;> with_reducible rfl)
        try simp only [Act.put, List.getElem_toArray, List.getElem_cons_zero, List.setIfInBounds_toArray, List.set_cons_zero, List.set_cons_succ]
        refine wpAnyH_take (i := 1) (v := ?va1) rfl (by kernel_rfl) (by kernel_rfl) (by kernel_rfl) (fun _ _ _ h => h) (Or.inl ⟨by rfl, ?ya1⟩) hHeld ?ra1
        case ya1 => ((intro w hSw; (try dsimp only at hSw); go_simp) <;> with_reducible rfl)
        try simp only [Act.put, List.getElem_toArray, List.getElem_cons_zero, List.getElem_cons_succ, List.setIfInBounds_toArray, List.set_cons_zero, List.set_cons_succ]
        refine wpAnyH_take (i := 2) (v := .bool false) rfl (by kernel_rfl) (by kernel_rfl) (by kernel_rfl) (fun _ _ _ h => h) (Or.inl ⟨by rfl, ?y2⟩) hHeld ?r2
        case y2 => exact fun w _ => by cases x <;> (go_simp <;> rfl)
        refine wpAnyH_take (i := 3) (v := ?va3) rfl (by kernel_rfl) (by kernel_rfl) (by kernel_rfl) (fun _ _ _ h => h) (Or.inl ⟨by rfl, ?ya3⟩) hHeld ?ra3
        case ya3 => ((intro w hSw; (try dsimp only at hSw); go_simp) <;> with_reducible rfl)
        try simp only [Act.put, List.getElem_toArray, List.getElem_cons_zero, List.getElem_cons_succ, List.setIfInBounds_toArray, List.set_cons_zero, List.set_cons_succ]
        refine wpAnyH_take (i := 4) (v := ?va4) rfl (by kernel_rfl) (by kernel_rfl) (by kernel_rfl) (fun _ _ _ h => h) (Or.inl ⟨by rfl, ?ya4⟩) hHeld ?ra4
        case ya4 => ((intro w hSw; (try dsimp only at hSw); go_simp) <;> with_reducible rfl)
        try simp only [Act.put, List.getElem_toArray, List.getElem_cons_zero, List.getElem_cons_succ, List.setIfInBounds_toArray, List.set_cons_zero, List.set_cons_succ]
        refine wpAnyH_take (i := 6) (v := ?va6) rfl (by kernel_rfl) (by kernel_rfl) (by kernel_rfl) (fun _ _ _ h => h) (Or.inl ⟨by rfl, ?ya6⟩) hHeld ?ra6
        case ya6 => ((intro w hSw; (try dsimp only at hSw); go_simp) <;> with_reducible rfl)
        try simp only [Act.put, List.getElem_toArray, List.getElem_cons_zero, List.getElem_cons_succ, List.setIfInBounds_toArray, List.set_cons_zero, List.set_cons_succ]
        refine wpAnyH_take (i := 7) (v := ?va7) rfl (by kernel_rfl) (by kernel_rfl) (by kernel_rfl) (fun _ _ _ h => h) (Or.inl ⟨by rfl, ?ya7⟩) hHeld ?ra7
        case ya7 => ((intro w hSw; (try dsimp only at hSw); go_simp) <;> with_reducible rfl)
        try simp only [Act.put, List.getElem_toArray, List.getElem_cons_zero, List.getElem_cons_succ, List.setIfInBounds_toArray, List.set_cons_zero, List.set_cons_succ]
        refine wpAnyH_take (i := 8) (v := ?va8) rfl (by kernel_rfl) (by kernel_rfl) (by kernel_rfl) (fun _ _ _ h => h) (Or.inl ⟨by rfl, ?ya8⟩) hHeld ?ra8
        case ya8 => ((intro w hSw; (try dsimp only at hSw); go_simp) <;> with_reducible rfl)
        try simp only [Act.put, List.getElem_toArray, List.getElem_cons_zero, List.getElem_cons_succ, List.setIfInBounds_toArray, List.set_cons_zero, List.set_cons_succ]
        refine wpAnyH_take (i := 9) (v := (.int .i64 s'.races)) rfl (by kernel_rfl) (by kernel_rfl) (by kernel_rfl) (fun _ _ _ h => h) (Or.inl ⟨by rfl, ?y9⟩) hHeld ?r9
        case y9 => intro w hSw; (have q := hSw.1); clear hSw; go_simp
        refine wpAnyH_ready (rs := [5]) (by kernel_rfl) (by simp) ?_
        refine AllReadyH.cons rfl (fun K hK => ?_) AllReadyH.nil
        go_simp
        refine (races_any _ p s' hHeld.2.2.out.wt).mono ?_
        rintro e w5 ⟨rfl, rfl⟩
        refine hK.out _ _ hHeld (fun hHeld => ?_)
        clear hK K
        try simp only [Act.put, List.getElem_toArray, List.getElem_cons_zero, List.getElem_cons_succ, List.setIfInBounds_toArray, List.set_cons_zero, List.set_cons_succ]
        refine wpAnyH_take (i := 10) (v := (.bool false)) rfl (by kernel_rfl) (by kernel_rfl) (by kernel_rfl) (fun _ _ _ h => h) (Or.inl ⟨by rfl, ?y10⟩) hHeld ?r10
        case y10 => intro w _; go_simp <;> simp
        refine wpAnyH_take (i := 11) (v := ?va11) rfl (by kernel_rfl) (by kernel_rfl) (by kernel_rfl) (fun _ _ _ h => h) (Or.inl ⟨by rfl, ?ya11⟩) hHeld ?ra11
        case ya11 => ((intro w hSw; (try dsimp only at hSw); go_simp) <;> with_reducible rfl)
        try simp only [Act.put, List.getElem_toArray, List.getElem_cons_zero, List.getElem_cons_succ, List.setIfInBounds_toArray, List.set_cons_zero, List.set_cons_succ]
        refine wpAnyH_take (i := 12) (v := ?va12) rfl (by kernel_rfl) (by kernel_rfl) (by kernel_rfl) (fun _ _ _ h => h) (Or.inl ⟨by rfl, ?ya12⟩) hHeld ?ra12
        case ya12 => ((intro w hSw; (try dsimp only at hSw); go_simp) <;> with_reducible rfl)
        try simp only [Act.put, List.getElem_toArray, List.getElem_cons_zero, List.getElem_cons_succ, List.setIfInBounds_toArray, List.set_cons_zero, List.set_cons_succ]
        refine wpAnyH_take (i := 13) (v := ?va13) rfl (by kernel_rfl) (by kernel_rfl) (by kernel_rfl) (fun _ _ _ h => h) (Or.inl ⟨by rfl, ?ya13⟩) hHeld ?ra13
        case ya13 => ((intro w hSw; (try dsimp only at hSw); go_simp) <;> with_reducible rfl)
        try simp only [Act.put, List.getElem_toArray, List.getElem_cons_zero, List.getElem_cons_succ, List.setIfInBounds_toArray, List.set_cons_zero, List.set_cons_succ]
        refine wpAnyH_take (i := 14) (v := ?va14) rfl (by kernel_rfl) (by kernel_rfl) (by kernel_rfl) (fun _ _ _ h => h) (Or.inl ⟨by rfl, ?ya14⟩) hHeld ?ra14
        case ya14 => ((intro w hSw; (try dsimp only at hSw); go_simp) <;> with_reducible rfl)
        try simp only [Act.put, List.getElem_toArray, List.getElem_cons_zero, List.getElem_cons_succ, List.setIfInBounds_toArray, List.set_cons_zero, List.set_cons_succ]
        refine wpAnyH_take (i := 15) (v := (.int .i64 s1)) rfl (by kernel_rfl) (by kernel_rfl) (by kernel_rfl) (fun _ _ _ h => h) (Or.inl ⟨by rfl, ?y15⟩) hHeld ?r15
        case y15 => intro w hSw; (have q := hSw.2.1); clear hSw; go_simp
        refine wpAnyH_take (i := 17) (v := ?va17) rfl (by kernel_rfl) (by kernel_rfl) (by kernel_rfl) (fun _ _ _ h => h) (Or.inl ⟨by rfl, ?ya17⟩) hHeld ?ra17
        case ya17 => ((intro w hSw; (try dsimp only at hSw); go_simp) <;> with_reducible rfl)
        try simp only [Act.put, List.getElem_toArray, List.getElem_cons_zero, List.getElem_cons_succ, List.setIfInBounds_toArray, List.set_cons_zero, List.set_cons_succ]
        refine wpAnyH_take (i := 18) (v := ?va18) rfl (by kernel_rfl) (by kernel_rfl) (by kernel_rfl) (fun _ _ _ h => h) (Or.inl ⟨by rfl, ?ya18⟩) hHeld ?ra18
        case ya18 => ((intro w hSw; (try dsimp only at hSw); go_simp) <;> with_reducible rfl)
        try simp only [Act.put, List.getElem_toArray, List.getElem_cons_zero, List.getElem_cons_succ, List.setIfInBounds_toArray, List.set_cons_zero, List.set_cons_succ]
        refine wpAnyH_take (i := 19) (v := (.int .i64 s1)) rfl (by kernel_rfl) (by kernel_rfl) (by kernel_rfl) (fun _ _ _ h => h) (Or.inl ⟨by rfl, ?y19⟩) hHeld ?r19
        case y19 => intro w hSw; (have q := hSw.2.1); clear hSw; go_simp
        refine wpAnyH_ready (rs := [16]) (by kernel_rfl) (by simp) ?_
        refine AllReadyH.cons rfl (fun K hK => ?_) AllReadyH.nil
        go_simp
        refine (clock_any _ p s' s1 hHeld.2.2.out.wt).mono ?_
        rintro e w6 ⟨v6, rfl, h6, f6⟩
        rw [HCA.out] at h6
        have H6 := hid h6.clk
        have hs6 := swS (hHeld.2.2.out.keep f6) HRC.out
        clear h6 f6
        refine hK.out _ _ hs6 (fun hHeld => ?_)
        clear hK K
        try simp only [Act.put, List.getElem_toArray, List.getElem_cons_zero, List.getElem_cons_succ, List.setIfInBounds_toArray, List.set_cons_zero, List.set_cons_succ]
        refine wpAnyH_ready (rs := [20]) (by kernel_rfl) (by simp) ?_
        refine AllReadyH.cons rfl (fun K hK => ?_) AllReadyH.nil
        go_simp
        refine (hHeld.2.2.out.rClock s1).mono ?_
        rintro e w7 ⟨rfl, f7⟩
        have H7 := hid (H6.out.keep0 f7)
        have hs7 := swS (hHeld.2.2.out.keep f7) HRC.out
        clear f7
        refine hK.out _ _ hs7 (fun hHeld => ?_)
        clear hK K
        try simp only [Act.put, List.getElem_toArray, List.getElem_cons_zero, List.getElem_cons_succ, List.setIfInBounds_toArray, List.set_cons_zero, List.set_cons_succ]
        refine wpAnyH_ready (rs := [21]) (by kernel_rfl) (by simp) ?_
        refine AllReadyH.cons rfl (fun K hK => ?_) AllReadyH.nil
        go_simp
        refine (same_any H7.out HCL.out).mono ?_
        rintro e w8 ⟨rfl, f8⟩
        have hs8 := swS (hHeld.2.2.out.keep f8) HRC.out
        clear f8
        refine hK.out _ _ hs8 (fun hHeld => ?_)
        clear hK K
        try simp only [Act.put, List.getElem_toArray, List.getElem_cons_zero, List.getElem_cons_succ, List.setIfInBounds_toArray, List.set_cons_zero, List.set_cons_succ]
        refine wpAnyH_take (i := 22) (v := ?va22) rfl (by kernel_rfl) (by kernel_rfl) (by kernel_rfl) (fun _ _ _ h => h) (Or.inl ⟨by rfl, ?ya22⟩) hHeld ?ra22
        case ya22 => ((intro w hSw; (try dsimp only at hSw); go_simp) <;> with_reducible rfl)
        try simp only [Act.put, List.getElem_toArray, List.getElem_cons_zero, List.getElem_cons_succ, List.setIfInBounds_toArray, List.set_cons_zero, List.set_cons_succ]
        refine wpAnyH_take (i := 23) (v := ?va23) rfl (by kernel_rfl) (by kernel_rfl) (by kernel_rfl) (fun _ _ _ h => h) (Or.inl ⟨by rfl, ?ya23⟩) hHeld ?ra23
        case ya23 => ((intro w hSw; (try dsimp only at hSw); go_simp) <;> with_reducible rfl)
        try simp only [Act.put, List.getElem_toArray, List.getElem_cons_zero, List.getElem_cons_succ, List.setIfInBounds_toArray, List.set_cons_zero, List.set_cons_succ]
        refine wpAnyH_done (by kernel_rfl) ?_ _
        have H9 := hid hHeld.2.2.out.stop
        go_wp2_with fail
        go_roundw
        case rel => exact ⟨k + 1, by go_num, by omega, hid ⟨_, _, HSI2.out, HLB2.out, H9.out⟩⟩
        case measure => simp [intOf]; omega
    · obtain rfl : k = len0 := by omega
      have hlt2 : ¬ (k : Int) < k := by omega
      obtain ⟨s, r, _, _, hbo⟩ := HR.out
      have HF := hid hbo.fr
      clear hlt hbo
      go_wp2_with fail
      go_ret
      exact ⟨rfl, HF.out⟩

end Go.Proofs.Ytjkakhjajfpldaa
