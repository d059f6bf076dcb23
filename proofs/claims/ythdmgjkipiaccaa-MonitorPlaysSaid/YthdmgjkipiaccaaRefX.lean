/-
  MonitorPlays: the document's over.
-/
import Derived.Test.YthdmgjkipiaccaaRefM
import Derived.Test.YthdmgjkipiaccaaOrdM
namespace Go.Proofs.Ythdmgjkipiaccaa
open Go.RowKit

theorem rover_nil {x : RL} (h : x.entry = []) : x.over = { x with owner := 0, count := 0 } := by
  obtain ⟨a, o, c, f, e, w⟩ := x
  simp only [] at h
  subst h
  rfl
theorem rover_cons {x : RL} {p : Int × Int} {r : List (Int × Int)} (h : x.entry = p :: r) : x.over = { x with owner := p.1, count := p.2, entry := r } := by
  obtain ⟨a, o, c, f, e, w⟩ := x
  obtain ⟨u, n⟩ := p
  simp only [] at h
  subst h
  rfl
theorem DocT.wqi {w : World} {tb : Nat} {v : Value} {G : List RG} {i : Nat} {g : RG} (h : DocT w tb v (G.set i g)) (hi : i < G.length) : WQ w g.ve g.x.entry ∧ WQ w g.vw g.x.wait :=
  h.wq g (List.mem_iff_getElem.2 ⟨i, by rw [List.length_set]; exact hi, List.getElem_set_self _⟩)
theorem DocT.puti {w : World} {tb b cap : Nat} {G : List RG} {i q : Nat} {g : RG} (h : DocT w tb (.slice (some ⟨b, 0, none⟩) G.length cap) (G.set i g)) (hi : i < G.length) (hq : q < 6) (u : Value) (g' : RG) (hg : g'.cells = g.cells.set q u) (hw : WQ w g'.ve g'.x.entry ∧ WQ w g'.vw g'.x.wait) :
    DocT (w.setCell ⟨b, i * 6 + q, none⟩ u) tb (.slice (some ⟨b, 0, none⟩) G.length cap) (G.set i g') := by
  have h' : DocT w tb (.slice (some ⟨b, 0, none⟩) (G.set i g).length cap) (G.set i g) := by rw [List.length_set]; exact h
  have hi' : i < (G.set i g).length := by rw [List.length_set]; exact hi
  have := h'.put hi' hq u g' (by rw [List.getElem_set_self]; exact hg) hw
  rw [List.set_set, List.length_set] at this
  exact this
theorem DocT.start {w : World} {tb : Nat} {v : Value} {G : List RG} (h : DocT w tb v G) {i : Nat} (hi : i < G.length) : DocT w tb v (G.set i G[i]) := by
  rw [List.set_getElem_self]; exact h

set_option maxHeartbeats 1000000 in
theorem dover_any {w : World} {tb b cap : Nat} {G : List RG} (h : DocT w tb (.slice (some ⟨b, 0, none⟩) G.length cap) G) {i : Nat} (hi : i < G.length) (hG : G.length ≤ 1000) (hl : G[i].x.entry.length ≤ 100000) :
    Calls Try.prog 36 #[.pointer (some ⟨b, i * 6, none⟩)] w fun e w' => e = .returned (.int .i64 G[i].x.over.owner) ∧ (∃ g', g'.x = G[i].x.over ∧ DocT w' tb (.slice (some ⟨b, 0, none⟩) G.length cap) (G.set i g')) ∧ Fr [b] w w' := by
  obtain ⟨b', cap', e, q0, q1, q2, q3, q4, q5, fz⟩ := h.lock hi
  injection e with e1 e2 e3
  injection e1 with e1
  injection e1 with e1 _ _
  subst e1
  obtain ⟨ae, ce, hve, hce, _⟩ := (h.wq _ (List.getElem_mem hi)).1.form
  rw [hve] at q4
  have f1 := fz (i * 6 + 1)
  have f2 := fz (i * 6 + 2)
  have f4 := fz (i * 6 + 4)
  obtain ⟨n, hn⟩ : ∃ n, n = (G[i]).x.entry.length := ⟨_, rfl⟩
  rw [← hn] at q4 hl
  have HD := hid h
  have HI := hid hi
  have HN := hid hn
  have HV := hid hve
  clear h fz q0 q3 q5 e2 e3 hve hn hce
  go_enter Try.func36, Try.ntmps36
  by_cases h0 : n = 0
  · subst h0
    go_wp2_with fail
    go_ret
    have hx : (G[i]'HI.out).x.entry = [] := List.length_eq_zero_iff.1 HN.out.symm
    have ho : (G[i]'HI.out).x.over = { (G[i]'HI.out).x with owner := 0, count := 0 } := rover_nil hx
    obtain ⟨w1, w2⟩ := HD.out.wq _ (List.getElem_mem HI.out)
    have p1 := HD.out.put HI.out (q := 1) (by omega) (.int .i64 0) ⟨{ (G[i]'HI.out).x with owner := 0 }, (G[i]'HI.out).ve, (G[i]'HI.out).vw⟩ rfl ⟨w1, w2⟩
    have wq1 := p1.wq _ (List.getElem_mem (by rw [List.length_set]; exact HI.out : i < _))
    rw [List.getElem_set_self] at wq1
    have p2 := p1.put (i := i) (by rw [List.length_set]; exact HI.out) (q := 2) (by omega) (.int .i64 0) ⟨{ (G[i]'HI.out).x with owner := 0, count := 0 }, (G[i]'HI.out).ve, (G[i]'HI.out).vw⟩ (by rw [List.getElem_set_self]; rfl) wq1
    rw [List.set_set, List.length_set] at p2
    refine ⟨by rw [ho]; rfl, ⟨_, ho.symm, p2⟩, ?_⟩
    exact ((Fr.refl _ _).setCell (.inl (by simp)) _).setCell (.inl (by simp)) _
  · have hpos : 0 < n := by omega
    obtain ⟨p, r, hx⟩ : ∃ p r, (G[i]'HI.out).x.entry = p :: r := by
      cases h : (G[i]'HI.out).x.entry with
      | nil => rw [h] at HN; exact absurd HN.out h0
      | cons p r => exact ⟨p, r, rfl⟩
    have hw0 := (HD.out.wq _ (List.getElem_mem HI.out)).1
    obtain ⟨be, off, ce', e, c1, c2⟩ := hw0.cell 0 (by rw [hx]; simp)
    rw [HV.out] at e
    injection e with e1 e2 e3
    subst e1
    subst e3
    rw [hx] at c1 c2
    simp only [Nat.zero_mul, Nat.add_zero, List.getD_cons_zero] at c1 c2
    have hno : be ≠ b := by
      intro e
      obtain ⟨a', cap', e', _, _, h3⟩ := hw0
      rw [HV.out] at e'
      injection e' with e1 e2 e3
      rcases h3 with ⟨h3, _⟩ | ⟨b', off', cur, h3, h4, _⟩
      · rw [h3] at e1; cases e1
      · rw [h3] at e1
        cases e1
        exact HD.out.noW b (by simp [fpv, Value.ownBlock]) cur (by rw [← e]; exact h4)
    have HX := hid hx
    have HW := hid hw0
    clear hx hw0 e2
    go_upto_region 3 with (fail)
    obtain ⟨w2, hw2⟩ : ∃ w2, w2 = (w.setCell ⟨b, i * 6 + 1, none⟩ (.int .i64 0)).setCell ⟨b, i * 6 + 2, none⟩ (.int .i64 0) := ⟨_, rfl⟩
    have F2 : Hid (Fr [b] w w2) := hid (by rw [hw2]; exact ((Fr.refl _ _).setCell (.inl (by simp)) _).setCell (.inl (by simp)) _)
    have P2 : Hid (DocT w2 tb (.slice (some ⟨b, 0, none⟩) G.length cap) (G.set i ⟨{ (G[i]'HI.out).x with owner := 0, count := 0 }, (G[i]'HI.out).ve, (G[i]'HI.out).vw⟩)) := hid (by
      obtain ⟨w1', w2'⟩ := HD.out.wq _ (List.getElem_mem HI.out)
      have p1 := HD.out.put HI.out (q := 1) (by omega) (.int .i64 0) ⟨{ (G[i]'HI.out).x with owner := 0 }, (G[i]'HI.out).ve, (G[i]'HI.out).vw⟩ rfl ⟨w1', w2'⟩
      have wq1 := p1.wq _ (List.getElem_mem (by rw [List.length_set]; exact HI.out : i < _))
      rw [List.getElem_set_self] at wq1
      have p2 := p1.put (i := i) (by rw [List.length_set]; exact HI.out) (q := 2) (by omega) (.int .i64 0) ⟨{ (G[i]'HI.out).x with owner := 0, count := 0 }, (G[i]'HI.out).ve, (G[i]'HI.out).vw⟩ (by rw [List.getElem_set_self]; rfl) wq1
      rw [List.set_set, List.length_set] at p2
      rw [hw2]
      exact p2)
    have g1 : w2.cell? ⟨b, i * 6 + 1, none⟩ = some (.int .i64 0) := by
      rw [hw2]
      go_simp
    have g2 : w2.cell? ⟨b, i * 6 + 2, none⟩ = some (.int .i64 0) := by
      rw [hw2]
      go_simp
    have g4 : w2.cell? ⟨b, i * 6 + 4, none⟩ = some (.slice (some ⟨be, off, none⟩) n ce) := by
      rw [hw2]
      go_simp
    have k1 : w2.cell? ⟨be, off, none⟩ = some (.int .i64 p.1) := by
      rw [hw2]
      go_simp
    have k2 : w2.cell? ⟨be, off + 1, none⟩ = some (.int .i64 p.2) := by
      rw [hw2]
      go_simp
    have u1 : w2.frozen? ⟨b, i * 6 + 1, none⟩ = false := by rw [hw2]; go_simp
    have u2 : w2.frozen? ⟨b, i * 6 + 2, none⟩ = false := by rw [hw2]; go_simp
    have u4 : w2.frozen? ⟨b, i * 6 + 4, none⟩ = false := by rw [hw2]; go_simp
    rw [← hw2]
    clear hw2 q1 q2 q4 c1 c2 f1 f2 f4
    refine wp_region_held_drew (S := (fun w' => w'.cell? ⟨b, i * 6 + 4, none⟩ = some (.slice (some ⟨be, off, none⟩) n ce) ∧ w'.cell? ⟨be, off, none⟩ = some (.int .i64 p.1) ∧ w'.cell? ⟨be, off + 1, none⟩ = some (.int .i64 p.2))) (by kernel_rfl) ⟨by go_simp, by go_simp, by go_simp⟩ (fun hHeld => ?_)
    refine wpAnyH_take (i := 0) (v := ?va0) rfl (by kernel_rfl) (by kernel_rfl) (by kernel_rfl) (fun _ _ _ h => h) (Or.inl ⟨by rfl, ?ya0⟩) hHeld ?ra0
    case ya0 => ((intro w hSw; (try dsimp only at hSw); go_simp) <;> with_reducible rfl)
    try simp only [Act.put, List.getElem_toArray, List.getElem_cons_zero, List.getElem_cons_succ, List.setIfInBounds_toArray, List.set_cons_zero, List.set_cons_succ]
    refine wpAnyH_take (i := 1) (v := ?va1) rfl (by kernel_rfl) (by kernel_rfl) (by kernel_rfl) (fun _ _ _ h => h) (Or.inl ⟨by rfl, ?ya1⟩) hHeld ?ra1
    case ya1 => ((intro w hSw; (try dsimp only at hSw); go_simp) <;> with_reducible rfl)
    try simp only [Act.put, List.getElem_toArray, List.getElem_cons_zero, List.getElem_cons_succ, List.setIfInBounds_toArray, List.set_cons_zero, List.set_cons_succ]
    refine wpAnyH_take (i := 2) (v := ?va2) rfl (by kernel_rfl) (by kernel_rfl) (by kernel_rfl) (fun _ _ _ h => h) (Or.inl ⟨by rfl, ?ya2⟩) hHeld ?ra2
    case ya2 => ((intro w hSw; (try dsimp only at hSw); go_simp) <;> with_reducible rfl)
    try simp only [Act.put, List.getElem_toArray, List.getElem_cons_zero, List.getElem_cons_succ, List.setIfInBounds_toArray, List.set_cons_zero, List.set_cons_succ]
    refine wpAnyH_take (i := 3) (v := ?va3) rfl (by kernel_rfl) (by kernel_rfl) (by kernel_rfl) (fun _ _ _ h => h) (Or.inl ⟨by rfl, ?ya3⟩) hHeld ?ra3
    case ya3 => ((intro w hSw; (try dsimp only at hSw); go_simp) <;> with_reducible rfl)
    try simp only [Act.put, List.getElem_toArray, List.getElem_cons_zero, List.getElem_cons_succ, List.setIfInBounds_toArray, List.set_cons_zero, List.set_cons_succ]
    refine wpAnyH_take (i := 4) (v := ?va4) rfl (by kernel_rfl) (by kernel_rfl) (by kernel_rfl) (fun _ _ _ h => h) (Or.inl ⟨by rfl, ?ya4⟩) hHeld ?ra4
    case ya4 => ((intro w hSw; (try dsimp only at hSw); go_simp) <;> with_reducible rfl)
    try simp only [Act.put, List.getElem_toArray, List.getElem_cons_zero, List.getElem_cons_succ, List.setIfInBounds_toArray, List.set_cons_zero, List.set_cons_succ]
    refine wpAnyH_take (i := 5) (v := ?va5) rfl (by kernel_rfl) (by kernel_rfl) (by kernel_rfl) (fun _ _ _ h => h) (Or.inl ⟨by rfl, ?ya5⟩) hHeld ?ra5
    case ya5 => ((intro w hSw; (try dsimp only at hSw); go_simp) <;> with_reducible rfl)
    try simp only [Act.put, List.getElem_toArray, List.getElem_cons_zero, List.getElem_cons_succ, List.setIfInBounds_toArray, List.set_cons_zero, List.set_cons_succ]
    refine wpAnyH_take (i := 6) (v := ?va6) rfl (by kernel_rfl) (by kernel_rfl) (by kernel_rfl) (fun _ _ _ h => h) (Or.inl ⟨by rfl, ?ya6⟩) hHeld ?ra6
    case ya6 => ((intro w hSw; (try dsimp only at hSw); go_simp) <;> with_reducible rfl)
    try simp only [Act.put, List.getElem_toArray, List.getElem_cons_zero, List.getElem_cons_succ, List.setIfInBounds_toArray, List.set_cons_zero, List.set_cons_succ]
    refine wpAnyH_take (i := 7) (v := ?va7) rfl (by kernel_rfl) (by kernel_rfl) (by kernel_rfl) (fun _ _ _ h => h) (Or.inl ⟨by rfl, ?ya7⟩) hHeld ?ra7
    case ya7 => ((intro w hSw; (try dsimp only at hSw); go_simp) <;> with_reducible rfl)
    try simp only [Act.put, List.getElem_toArray, List.getElem_cons_zero, List.getElem_cons_succ, List.setIfInBounds_toArray, List.set_cons_zero, List.set_cons_succ]
    refine wpAnyH_take (i := 8) (v := ?va8) rfl (by kernel_rfl) (by kernel_rfl) (by kernel_rfl) (fun _ _ _ h => h) (Or.inl ⟨by rfl, ?ya8⟩) hHeld ?ra8
    case ya8 => ((intro w hSw; (try dsimp only at hSw); go_simp) <;> with_reducible rfl)
    try simp only [Act.put, List.getElem_toArray, List.getElem_cons_zero, List.getElem_cons_succ, List.setIfInBounds_toArray, List.set_cons_zero, List.set_cons_succ]
    refine wpAnyH_take (i := 9) (v := ?va9) rfl (by kernel_rfl) (by kernel_rfl) (by kernel_rfl) (fun _ _ _ h => h) (Or.inl ⟨by rfl, ?ya9⟩) hHeld ?ra9
    case ya9 => ((intro w hSw; (try dsimp only at hSw); go_simp) <;> with_reducible rfl)
    try simp only [Act.put, List.getElem_toArray, List.getElem_cons_zero, List.getElem_cons_succ, List.setIfInBounds_toArray, List.set_cons_zero, List.set_cons_succ]
    refine wpAnyH_take (i := 10) (v := ?va10) rfl (by kernel_rfl) (by kernel_rfl) (by kernel_rfl) (fun _ _ _ h => h) (Or.inl ⟨by rfl, ?ya10⟩) hHeld ?ra10
    case ya10 => ((intro w hSw; (try dsimp only at hSw); go_simp) <;> with_reducible rfl)
    try simp only [Act.put, List.getElem_toArray, List.getElem_cons_zero, List.getElem_cons_succ, List.setIfInBounds_toArray, List.set_cons_zero, List.set_cons_succ]
    refine wpAnyH_take (i := 11) (v := ?va11) rfl (by kernel_rfl) (by kernel_rfl) (by kernel_rfl) (fun _ _ _ h => h) (Or.inl ⟨by rfl, ?ya11⟩) hHeld ?ra11
    case ya11 => ((intro w hSw; (try dsimp only at hSw); go_simp) <;> with_reducible rfl)
    try simp only [Act.put, List.getElem_toArray, List.getElem_cons_zero, List.getElem_cons_succ, List.setIfInBounds_toArray, List.set_cons_zero, List.set_cons_succ]
    refine wpAnyH_take (i := 12) (v := ?va12) rfl (by kernel_rfl) (by kernel_rfl) (by kernel_rfl) (fun _ _ _ h => h) (Or.inl ⟨by rfl, ?ya12⟩) hHeld ?ra12
    case ya12 => ((intro w hSw; (try dsimp only at hSw); go_simp) <;> with_reducible rfl)
    try simp only [Act.put, List.getElem_toArray, List.getElem_cons_zero, List.getElem_cons_succ, List.setIfInBounds_toArray, List.set_cons_zero, List.set_cons_succ]
    refine wpAnyH_take (i := 13) (v := ?va13) rfl (by kernel_rfl) (by kernel_rfl) (by kernel_rfl) (fun _ _ _ h => h) (Or.inl ⟨by rfl, ?ya13⟩) hHeld ?ra13
    case ya13 => ((intro w hSw; (try dsimp only at hSw); go_simp) <;> with_reducible rfl)
    try simp only [Act.put, List.getElem_toArray, List.getElem_cons_zero, List.getElem_cons_succ, List.setIfInBounds_toArray, List.set_cons_zero, List.set_cons_succ]
    refine wpAnyH_take (i := 14) (v := ?va14) rfl (by kernel_rfl) (by kernel_rfl) (by kernel_rfl) (fun _ _ _ h => h) (Or.inl ⟨by rfl, ?ya14⟩) hHeld ?ra14
    case ya14 => ((intro w hSw; (try dsimp only at hSw); go_simp) <;> with_reducible rfl)
    try simp only [Act.put, List.getElem_toArray, List.getElem_cons_zero, List.getElem_cons_succ, List.setIfInBounds_toArray, List.set_cons_zero, List.set_cons_succ]
    refine wpAnyH_take (i := 15) (v := ?va15) rfl (by kernel_rfl) (by kernel_rfl) (by kernel_rfl) (fun _ _ _ h => h) (Or.inl ⟨by rfl, ?ya15⟩) hHeld ?ra15
    case ya15 => ((intro w hSw; (try dsimp only at hSw); go_simp) <;> with_reducible rfl)
    try simp only [Act.put, List.getElem_toArray, List.getElem_cons_zero, List.getElem_cons_succ, List.setIfInBounds_toArray, List.set_cons_zero, List.set_cons_succ]
    refine wpAnyH_take (i := 16) (v := ?va16) rfl (by kernel_rfl) (by kernel_rfl) (by kernel_rfl) (fun _ _ _ h => h) (Or.inl ⟨by rfl, ?ya16⟩) hHeld ?ra16
    case ya16 => ((intro w hSw; (try dsimp only at hSw); go_simp) <;> with_reducible rfl)
    try simp only [Act.put, List.getElem_toArray, List.getElem_cons_zero, List.getElem_cons_succ, List.setIfInBounds_toArray, List.set_cons_zero, List.set_cons_succ]
    refine wpAnyH_take (i := 17) (v := ?va17) rfl (by kernel_rfl) (by kernel_rfl) (by kernel_rfl) (fun _ _ _ h => h) (Or.inl ⟨by rfl, ?ya17⟩) hHeld ?ra17
    case ya17 => ((intro w hSw; (try dsimp only at hSw); go_simp) <;> with_reducible rfl)
    try simp only [Act.put, List.getElem_toArray, List.getElem_cons_zero, List.getElem_cons_succ, List.setIfInBounds_toArray, List.set_cons_zero, List.set_cons_succ]
    refine wpAnyH_ready (rs := [18]) (by kernel_rfl) (by simp) ?_
    refine AllReadyH.cons rfl (fun K hK => ?_) AllReadyH.nil
    go_simp
    refine hK.out _ _ ⟨by go_simp, by go_simp, by go_simp⟩ (fun hHeld => ?_)
    clear hK K
    try simp only [Act.put, List.getElem_toArray, List.getElem_cons_zero, List.getElem_cons_succ, List.setIfInBounds_toArray, List.set_cons_zero, List.set_cons_succ]
    refine wpAnyH_take (i := 19) (v := ?va19) rfl (by kernel_rfl) (by kernel_rfl) (by kernel_rfl) (fun _ _ _ h => h) (Or.inl ⟨by rfl, ?ya19⟩) hHeld ?ra19
    case ya19 => ((intro w hSw; (try dsimp only at hSw); go_simp) <;> with_reducible rfl)
    try simp only [Act.put, List.getElem_toArray, List.getElem_cons_zero, List.getElem_cons_succ, List.setIfInBounds_toArray, List.set_cons_zero, List.set_cons_succ]
    refine wpAnyH_take (i := 20) (v := ?va20) rfl (by kernel_rfl) (by kernel_rfl) (by kernel_rfl) (fun _ _ _ h => h) (Or.inl ⟨by rfl, ?ya20⟩) hHeld ?ra20
    case ya20 => ((intro w hSw; (try dsimp only at hSw); go_simp) <;> with_reducible rfl)
    try simp only [Act.put, List.getElem_toArray, List.getElem_cons_zero, List.getElem_cons_succ, List.setIfInBounds_toArray, List.set_cons_zero, List.set_cons_succ]
    refine wpAnyH_ready (rs := [21]) (by kernel_rfl) (by simp) ?_
    refine AllReadyH.cons rfl (fun K hK => ?_) AllReadyH.nil
    go_simp
    refine hK.out _ _ ⟨by go_simp, by go_simp, by go_simp⟩ (fun hHeld => ?_)
    clear hK K
    try simp only [Act.put, List.getElem_toArray, List.getElem_cons_zero, List.getElem_cons_succ, List.setIfInBounds_toArray, List.set_cons_zero, List.set_cons_succ]
    refine wpAnyH_done (by kernel_rfl) ?_ _
    have p3 := P2.out.puti (q := 1) HI.out (by omega) (.int .i64 p.1) ⟨{ (G[i]'HI.out).x with owner := p.1, count := 0 }, (G[i]'HI.out).ve, (G[i]'HI.out).vw⟩ rfl (P2.out.wqi HI.out)
    have p4 := p3.puti (q := 2) HI.out (by omega) (.int .i64 p.2) ⟨{ (G[i]'HI.out).x with owner := p.1, count := p.2 }, (G[i]'HI.out).ve, (G[i]'HI.out).vw⟩ rfl (p3.wqi HI.out)
    have F3 : Fr [b] w ((w2.setCell ⟨b, i * 6 + 1, none⟩ (.int .i64 p.1)).setCell ⟨b, i * 6 + 2, none⟩ (.int .i64 p.2)) := (F2.out.setCell (.inl (by simp)) _).setCell (.inl (by simp)) _
    have m1 : ((w2.setCell ⟨b, i * 6 + 1, none⟩ (.int .i64 p.1)).setCell ⟨b, i * 6 + 2, none⟩ (.int .i64 p.2)).cell? ⟨b, i * 6 + 1, none⟩ = some (.int .i64 p.1) := by go_simp
    have m4 : ((w2.setCell ⟨b, i * 6 + 1, none⟩ (.int .i64 p.1)).setCell ⟨b, i * 6 + 2, none⟩ (.int .i64 p.2)).cell? ⟨b, i * 6 + 4, none⟩ = some (.slice (some ⟨be, off, none⟩) n ce) := by go_simp
    have v4 : ((w2.setCell ⟨b, i * 6 + 1, none⟩ (.int .i64 p.1)).setCell ⟨b, i * 6 + 2, none⟩ (.int .i64 p.2)).frozen? ⟨b, i * 6 + 4, none⟩ = false := by go_simp
    generalize (w2.setCell ⟨b, i * 6 + 1, none⟩ (.int .i64 p.1)).setCell ⟨b, i * 6 + 2, none⟩ (.int .i64 p.2) = w3 at p4 F3 m1 m4 v4 ⊢
    have P4 := hid p4
    have F3 := hid F3
    clear p3 p4 F2 P2 g1 g2 g4 k1 k2 u1 u2 u4 hHeld
    have hce : n ≤ ce := by
      obtain ⟨a', c', e, h1, h2⟩ := HW.out.form
      rw [HV.out] at e
      injection e with e1 e2 e3
      rw [HN.out, e3]
      exact h1
    have hr : r.length = n - 1 := by rw [HN.out, HX.out]; simp
    have HR := hid hr
    have HQ : ∀ a : Addr, a = (if ce = 1 then ⟨be, off, none⟩ else ⟨be, off + 2, none⟩) → WQ w3 (.slice (some a) (n - 1) (ce - 1)) r := by
      intro a ha
      have := (P4.out.wqi HI.out).1
      dsimp only at this
      rw [HX.out, HV.out] at this
      have k := this.tail a ha
      rw [HR.out] at k
      exact k
    have HQW := hid HQ
    clear HQ
    have hov : (G[i]'HI.out).x.over = { (G[i]'HI.out).x with owner := p.1, count := p.2, entry := r } := rover_cons HX.out
    have HO := hid hov
    clear hr
    have HF : ∀ a : Addr, a = (if ce = 1 then ⟨be, off, none⟩ else ⟨be, off + 2, none⟩) → ∀ w', w' = (w3.setCell ⟨b, i * 6 + 4, none⟩ (.slice (some a) (n - 1) (ce - 1))) →
        (.returned (.int .i64 p.1) : Ending) = .returned (.int .i64 (G[i]'HI.out).x.over.owner) ∧ (∃ g', g'.x = (G[i]'HI.out).x.over ∧ DocT w' tb (.slice (some ⟨b, 0, none⟩) G.length cap) (G.set i g')) ∧ Fr [b] w w' := by
      intro a ha w' hw'
      subst hw'
      rw [HO.out]
      refine ⟨rfl, ⟨⟨_, .slice (some a) (n - 1) (ce - 1), (G[i]'HI.out).vw⟩, rfl, ?_⟩, F3.out.setCell (.inl (by simp)) _⟩
      exact P4.out.puti HI.out (by omega) _ _ rfl ⟨HQW.out a ha, (P4.out.wqi HI.out).2⟩
    have HFI := hid HF
    clear HF hov F3 
    by_cases hc1 : ce = 1
    · subst hc1
      obtain rfl : n = 1 := by omega
      go_wp2_with fail
      go_ret
      obtain ⟨z1, ⟨g', z2, z3⟩, z4⟩ := HFI.out ⟨be, off, none⟩ (by simp) _ rfl
      exact ⟨z1, ⟨g', z2, z3.keep0 (Fr.refl _ _).drew⟩, z4.tr0 (Fr.refl _ _).drew⟩
    · have hc2 : 1 < ce := by omega
      go_wp2_with fail
      go_ret
      obtain ⟨z1, ⟨g', z2, z3⟩, z4⟩ := HFI.out ⟨be, off + 2, none⟩ (by rw [if_neg hc1]) _ rfl
      exact ⟨z1, ⟨g', z2, z3.keep0 (Fr.refl _ _).drew⟩, z4.tr0 (Fr.refl _ _).drew⟩

end Go.Proofs.Ythdmgjkipiaccaa
