/-
  MonitorPlays: the document's Wait.
-/
import Derived.Test.YthdmgjkipiaccaaRdX
namespace Go.Proofs.Ythdmgjkipiaccaa
open Go.RowKit

theorem rWait_none {R : List RL} {a t : Int} (h : rOwned R a t = none) : rWait R a t = ((0, 130), R) := by unfold rWait; rw [h]
theorem rWait_some {G : List RG} {a t : Int} {i : Nat} (h : rOwned (G.map RG.x) a t = some i) (hi : i < G.length) : rWait (G.map RG.x) a t = ((({ G[i].x with fat := true, wait := G[i].x.wait ++ [(t, G[i].x.count)] } : RL).over.owner, 0), (G.map RG.x).set i ({ G[i].x with fat := true, wait := G[i].x.wait ++ [(t, G[i].x.count)] } : RL).over) := by
  unfold rWait; rw [h]
  simp only []
  rw [gx hi]

set_option maxHeartbeats 1000000 in
theorem dwait_any {w : World} {tb : Nat} {F : List Nat} {R : List RL} (h : Doc w tb F R) (hk : RBd R 1000) (a t : Int) : Calls Try.prog 20 #[.pointer (some ⟨tb, 0, none⟩), .int .i64 a, .int .i64 t] w fun e w' => e = .returned (.tuple #[.int .i64 (rWait R a t).1.1, .int .i64 (rWait R a t).1.2]) ∧ DMv w w' tb F (rWait R a t).2 := by
  obtain ⟨v, G, rfl, rfl, h⟩ := h
  have HC := hid (downed_any h hk.glen a t)
  have HD := hid h
  have HK := hid hk
  cases ho : rOwned (G.map RG.x) a t with
  | none =>
    rw [ho] at HC
    rw [rWait_none ho]
    clear h hk ho
    go_enter Try.func20, Try.ntmps20
    go_wp2_with fail
    refine HC.out.mono ?_
    rintro e w2 ⟨rfl, f2⟩
    have F2 := hid f2
    clear f2
    go_wp2_with fail
    go_ret2
    exact ⟨rfl, DMv.same HD.out (by first | exact F2.out | exact F2.out.tr0 (Fr.refl _ _).drew)⟩
  | some i =>
    have hi := rOwned_lt ho
    rw [ho] at HC
    obtain ⟨c0, c1, c2, c3⟩ := hk.at hi
    have HO := hid ho
    obtain ⟨n, hn, k0, k1⟩ : ∃ n, n = (G[i]'hi).x.count ∧ 0 ≤ n ∧ n ≤ 1000 := ⟨_, rfl, c0, by omega⟩
    obtain ⟨m, hm, k3⟩ : ∃ m, m = (G[i]'hi).x.wait.length ∧ m ≤ 1000 := ⟨_, rfl, c3⟩
    rw [rWait_some ho hi]
    have HN := hid hn
    have HM := hid hm
    clear h hk ho c0 c1 c2 c3 hn hm
    go_enter Try.func20, Try.ntmps20
    go_wp2_with fail
    refine HC.out.mono ?_
    rintro e w2 ⟨⟨b, cap, n0, rfl, rfl⟩, f2⟩
    have hd2 := HD.out.keep0 f2
    obtain ⟨b', cap', e, q0, q1, q2, q3, q4, q5, fz⟩ := hd2.lock hi
    injection e with e1 e2 e3
    injection e1 with e1
    injection e1 with e1 _ _
    subst e1 e2 e3
    rw [← HN.out] at q2
    obtain ⟨aw, cw, hvw, l1, l2⟩ := (hd2.wqat hi).2.form
    rw [hvw, ← HM.out] at q5
    rw [← HM.out] at l1
    have z3 := fz (i * 6 + 3)
    have p1 := hid (((hd2.start hi).puti (q := 3) hi (by omega) (.bool true) ⟨{ (G[i]'hi).x with fat := true }, (G[i]'hi).ve, (G[i]'hi).vw⟩ rfl (hd2.wqat hi)))
    have F2 : Fr [b] w w2 := f2.sub (by simp)
    have F3 := hid (F2.setCell (p := ⟨b, i * 6 + 3, none⟩) (.inl (by simp)) (.bool true))
    have HD2 := hid hd2
    have HVW := hid hvw
    have g5 : (w2.setCell ⟨b, i * 6 + 3, none⟩ (.bool true)).cell? ⟨b, i * 6 + 5, none⟩ = some (.slice aw m cw) := by go_simp
    have g2 : (w2.setCell ⟨b, i * 6 + 3, none⟩ (.bool true)).cell? ⟨b, i * 6 + 2, none⟩ = some (.int .i64 n) := by go_simp
    have u5 : (w2.setCell ⟨b, i * 6 + 3, none⟩ (.bool true)).frozen? ⟨b, i * 6 + 5, none⟩ = false := by have := fz (i * 6 + 5); go_simp
    clear f2 hd2 q0 q1 q2 q4 q5 fz F2 hvw
    go_upto_region 5 with (fail)
    generalize w2.setCell ⟨b, i * 6 + 3, none⟩ (.bool true) = w3 at p1 F3 g5 g2 u5 ⊢
    have hlm : (m : Int) ≤ cw := by omega
    have hlc : (cw : Int) ≤ maxLen := by omega
    refine wp_region_T (fun w' => w'.cell? ⟨b, i * 6 + 5, none⟩ = some (.slice aw m cw) ∧ w'.cell? ⟨b, i * 6 + 2, none⟩ = some (.int .i64 n)) 26 (by kernel_rfl) ⟨by go_simp, by go_simp⟩ (fun hHeld => ?_)
    refine wpAnyT_take [0] (i := 0) (v := ?va0) rfl (by kernel_rfl) (by kernel_rfl) (by kernel_rfl) (by kernel_rfl) (fun _ _ _ h => h) (Or.inl ⟨by rfl, ?ya0⟩) hHeld ?ra0
    case ya0 => ((intro w hSw; (try dsimp only at hSw); go_simp) <;> with_reducible rfl)
    try simp only [Act.put, List.getElem_toArray, List.getElem_cons_zero, List.getElem_cons_succ, List.setIfInBounds_toArray, List.set_cons_zero, List.set_cons_succ]
    refine wpAnyT_take [1] (i := 1) (v := ?va1) rfl (by kernel_rfl) (by kernel_rfl) (by kernel_rfl) (by kernel_rfl) (fun _ _ _ h => h) (Or.inl ⟨by rfl, ?ya1⟩) hHeld ?ra1
    case ya1 => ((intro w hSw; (try dsimp only at hSw); go_simp) <;> with_reducible rfl)
    try simp only [Act.put, List.getElem_toArray, List.getElem_cons_zero, List.getElem_cons_succ, List.setIfInBounds_toArray, List.set_cons_zero, List.set_cons_succ]
    refine wpAnyT_take [2] (i := 2) (v := ?va2) rfl (by kernel_rfl) (by kernel_rfl) (by kernel_rfl) (by kernel_rfl) (fun _ _ _ h => h) (Or.inl ⟨by rfl, ?ya2⟩) hHeld ?ra2
    case ya2 => ((intro w hSw; (try dsimp only at hSw); go_simp) <;> with_reducible rfl)
    try simp only [Act.put, List.getElem_toArray, List.getElem_cons_zero, List.getElem_cons_succ, List.setIfInBounds_toArray, List.set_cons_zero, List.set_cons_succ]
    refine wpAnyT_take [3] (i := 3) (v := ?va3) rfl (by kernel_rfl) (by kernel_rfl) (by kernel_rfl) (by kernel_rfl) (fun _ _ _ h => h) (Or.inl ⟨by rfl, ?ya3⟩) hHeld ?ra3
    case ya3 => ((intro w hSw; (try dsimp only at hSw); go_simp) <;> with_reducible rfl)
    try simp only [Act.put, List.getElem_toArray, List.getElem_cons_zero, List.getElem_cons_succ, List.setIfInBounds_toArray, List.set_cons_zero, List.set_cons_succ]
    refine wpAnyT_take [4] (i := 4) (v := ?va4) rfl (by kernel_rfl) (by kernel_rfl) (by kernel_rfl) (by kernel_rfl) (fun _ _ _ h => h) (Or.inl ⟨by rfl, ?ya4⟩) hHeld ?ra4
    case ya4 => ((intro w hSw; (try dsimp only at hSw); go_simp) <;> with_reducible rfl)
    try simp only [Act.put, List.getElem_toArray, List.getElem_cons_zero, List.getElem_cons_succ, List.setIfInBounds_toArray, List.set_cons_zero, List.set_cons_succ]
    refine wpAnyT_take [5] (i := 5) (v := ?va5) rfl (by kernel_rfl) (by kernel_rfl) (by kernel_rfl) (by kernel_rfl) (fun _ _ _ h => h) (Or.inl ⟨by rfl, ?ya5⟩) hHeld ?ra5
    case ya5 => ((intro w hSw; (try dsimp only at hSw); go_simp) <;> with_reducible rfl)
    try simp only [Act.put, List.getElem_toArray, List.getElem_cons_zero, List.getElem_cons_succ, List.setIfInBounds_toArray, List.set_cons_zero, List.set_cons_succ]
    refine wpAnyT_take [6] (i := 6) (v := ?va6) rfl (by kernel_rfl) (by kernel_rfl) (by kernel_rfl) (by kernel_rfl) (fun _ _ _ h => h) (Or.inl ⟨by rfl, ?ya6⟩) hHeld ?ra6
    case ya6 => ((intro w hSw; (try dsimp only at hSw); go_simp) <;> with_reducible rfl)
    try simp only [Act.put, List.getElem_toArray, List.getElem_cons_zero, List.getElem_cons_succ, List.setIfInBounds_toArray, List.set_cons_zero, List.set_cons_succ]
    refine wpAnyT_take [7] (i := 7) (v := ?va7) rfl (by kernel_rfl) (by kernel_rfl) (by kernel_rfl) (by kernel_rfl) (fun _ _ _ h => h) (Or.inl ⟨by rfl, ?ya7⟩) hHeld ?ra7
    case ya7 => ((intro w hSw; (try dsimp only at hSw); go_simp) <;> with_reducible rfl)
    try simp only [Act.put, List.getElem_toArray, List.getElem_cons_zero, List.getElem_cons_succ, List.setIfInBounds_toArray, List.set_cons_zero, List.set_cons_succ]
    refine wpAnyT_take [8] (i := 8) (v := ?va8) rfl (by kernel_rfl) (by kernel_rfl) (by kernel_rfl) (by kernel_rfl) (fun _ _ _ h => h) (Or.inl ⟨by rfl, ?ya8⟩) hHeld ?ra8
    case ya8 => ((intro w hSw; (try dsimp only at hSw); go_simp) <;> with_reducible rfl)
    try simp only [Act.put, List.getElem_toArray, List.getElem_cons_zero, List.getElem_cons_succ, List.setIfInBounds_toArray, List.set_cons_zero, List.set_cons_succ]
    refine wpAnyT_take [9] (i := 9) (v := ?va9) rfl (by kernel_rfl) (by kernel_rfl) (by kernel_rfl) (by kernel_rfl) (fun _ _ _ h => h) (Or.inl ⟨by rfl, ?ya9⟩) hHeld ?ra9
    case ya9 => ((intro w hSw; (try dsimp only at hSw); go_simp) <;> with_reducible rfl)
    try simp only [Act.put, List.getElem_toArray, List.getElem_cons_zero, List.getElem_cons_succ, List.setIfInBounds_toArray, List.set_cons_zero, List.set_cons_succ]
    refine wpAnyT_take [10] (i := 10) (v := ?va10) rfl (by kernel_rfl) (by kernel_rfl) (by kernel_rfl) (by kernel_rfl) (fun _ _ _ h => h) (Or.inl ⟨by rfl, ?ya10⟩) hHeld ?ra10
    case ya10 => ((intro w hSw; (try dsimp only at hSw); go_simp) <;> with_reducible rfl)
    try simp only [Act.put, List.getElem_toArray, List.getElem_cons_zero, List.getElem_cons_succ, List.setIfInBounds_toArray, List.set_cons_zero, List.set_cons_succ]
    refine wpAnyT_take [11] (i := 11) (v := ?va11) rfl (by kernel_rfl) (by kernel_rfl) (by kernel_rfl) (by kernel_rfl) (fun _ _ _ h => h) (Or.inl ⟨by rfl, ?ya11⟩) hHeld ?ra11
    case ya11 => ((intro w hSw; (try dsimp only at hSw); go_simp) <;> with_reducible rfl)
    try simp only [Act.put, List.getElem_toArray, List.getElem_cons_zero, List.getElem_cons_succ, List.setIfInBounds_toArray, List.set_cons_zero, List.set_cons_succ]
    refine wpAnyT_take [12] (i := 12) (v := ?va12) rfl (by kernel_rfl) (by kernel_rfl) (by kernel_rfl) (by kernel_rfl) (fun _ _ _ h => h) (Or.inl ⟨by rfl, ?ya12⟩) hHeld ?ra12
    case ya12 => ((intro w hSw; (try dsimp only at hSw); go_simp) <;> with_reducible rfl)
    try simp only [Act.put, List.getElem_toArray, List.getElem_cons_zero, List.getElem_cons_succ, List.setIfInBounds_toArray, List.set_cons_zero, List.set_cons_succ]
    refine wpAnyT_take [13] (i := 13) (v := ?va13) rfl (by kernel_rfl) (by kernel_rfl) (by kernel_rfl) (by kernel_rfl) (fun _ _ _ h => h) (Or.inl ⟨by rfl, ?ya13⟩) hHeld ?ra13
    case ya13 => ((intro w hSw; (try dsimp only at hSw); go_simp) <;> with_reducible rfl)
    try simp only [Act.put, List.getElem_toArray, List.getElem_cons_zero, List.getElem_cons_succ, List.setIfInBounds_toArray, List.set_cons_zero, List.set_cons_succ]
    refine wpAnyT_take [14] (i := 14) (v := ?va14) rfl (by kernel_rfl) (by kernel_rfl) (by kernel_rfl) (by kernel_rfl) (fun _ _ _ h => h) (Or.inl ⟨by rfl, ?ya14⟩) hHeld ?ra14
    case ya14 => ((intro w hSw; (try dsimp only at hSw); go_simp) <;> with_reducible rfl)
    try simp only [Act.put, List.getElem_toArray, List.getElem_cons_zero, List.getElem_cons_succ, List.setIfInBounds_toArray, List.set_cons_zero, List.set_cons_succ]
    refine wpAnyT_take [15] (i := 15) (v := ?va15) rfl (by kernel_rfl) (by kernel_rfl) (by kernel_rfl) (by kernel_rfl) (fun _ _ _ h => h) (Or.inl ⟨by rfl, ?ya15⟩) hHeld ?ra15
    case ya15 => ((intro w hSw; (try dsimp only at hSw); go_simp) <;> with_reducible rfl)
    try simp only [Act.put, List.getElem_toArray, List.getElem_cons_zero, List.getElem_cons_succ, List.setIfInBounds_toArray, List.set_cons_zero, List.set_cons_succ]
    refine wpAnyT_take [16] (i := 16) (v := ?va16) rfl (by kernel_rfl) (by kernel_rfl) (by kernel_rfl) (by kernel_rfl) (fun _ _ _ h => h) (Or.inl ⟨by rfl, ?ya16⟩) hHeld ?ra16
    case ya16 => ((intro w hSw; (try dsimp only at hSw); go_simp) <;> with_reducible rfl)
    try simp only [Act.put, List.getElem_toArray, List.getElem_cons_zero, List.getElem_cons_succ, List.setIfInBounds_toArray, List.set_cons_zero, List.set_cons_succ]
    refine wpAnyT_take [17] (i := 17) (v := ?va17) rfl (by kernel_rfl) (by kernel_rfl) (by kernel_rfl) (by kernel_rfl) (fun _ _ _ h => h) (Or.inl ⟨by rfl, ?ya17⟩) hHeld ?ra17
    case ya17 => ((intro w hSw; (try dsimp only at hSw); go_simp) <;> with_reducible rfl)
    try simp only [Act.put, List.getElem_toArray, List.getElem_cons_zero, List.getElem_cons_succ, List.setIfInBounds_toArray, List.set_cons_zero, List.set_cons_succ]
    refine wpAnyT_take [18] (i := 18) (v := ?va18) rfl (by kernel_rfl) (by kernel_rfl) (by kernel_rfl) (by kernel_rfl) (fun _ _ _ h => h) (Or.inl ⟨by rfl, ?ya18⟩) hHeld ?ra18
    case ya18 => ((intro w hSw; (try dsimp only at hSw); go_simp) <;> with_reducible rfl)
    try simp only [Act.put, List.getElem_toArray, List.getElem_cons_zero, List.getElem_cons_succ, List.setIfInBounds_toArray, List.set_cons_zero, List.set_cons_succ]
    refine wpAnyT_take [19] (i := 19) (v := ?va19) rfl (by kernel_rfl) (by kernel_rfl) (by kernel_rfl) (by kernel_rfl) (fun _ _ _ h => h) (Or.inl ⟨by rfl, ?ya19⟩) hHeld ?ra19
    case ya19 => ((intro w hSw; (try dsimp only at hSw); go_simp) <;> with_reducible rfl)
    try simp only [Act.put, List.getElem_toArray, List.getElem_cons_zero, List.getElem_cons_succ, List.setIfInBounds_toArray, List.set_cons_zero, List.set_cons_succ]
    refine wpAnyT_take [20] (i := 20) (v := ?va20) rfl (by kernel_rfl) (by kernel_rfl) (by kernel_rfl) (by kernel_rfl) (fun _ _ _ h => h) (Or.inl ⟨by rfl, ?ya20⟩) hHeld ?ra20
    case ya20 => ((intro w hSw; (try dsimp only at hSw); go_simp) <;> with_reducible rfl)
    try simp only [Act.put, List.getElem_toArray, List.getElem_cons_zero, List.getElem_cons_succ, List.setIfInBounds_toArray, List.set_cons_zero, List.set_cons_succ]
    refine wpAnyT_take [21] (i := 21) (v := ?va21) rfl (by kernel_rfl) (by kernel_rfl) (by kernel_rfl) (by kernel_rfl) (fun _ _ _ h => h) (Or.inl ⟨by rfl, ?ya21⟩) hHeld ?ra21
    case ya21 => ((intro w hSw; (try dsimp only at hSw); go_simp) <;> with_reducible rfl)
    try simp only [Act.put, List.getElem_toArray, List.getElem_cons_zero, List.getElem_cons_succ, List.setIfInBounds_toArray, List.set_cons_zero, List.set_cons_succ]
    refine wpAnyT_ready (rs := [22]) (by kernel_rfl) (by simp) ?_
    refine AllReadyT.cons rfl (fun K hK => ?_) AllReadyT.nil
    go_simp
    refine hK.out _ _ ⟨by go_simp; exact ((Fr.refl [] w3).alloc _).cell g5 (by simp), by go_simp; exact ((Fr.refl [] w3).alloc _).cell g2 (by simp)⟩ (fun hHeld => ?_)
    clear hK K
    try simp only [Act.put, List.getElem_toArray, List.getElem_cons_zero, List.getElem_cons_succ, List.setIfInBounds_toArray, List.set_cons_zero, List.set_cons_succ]
    obtain ⟨wA, hwA⟩ : ∃ wA, wA = (w3.alloc (.cells #[.int .i64 t, .int .i64 n] 80)).drew := ⟨_, rfl⟩
    have FA : Fr [] w3 wA := by rw [hwA]; exact ((Fr.refl [] w3).alloc _).drew
    have x1 : wA.cell? ⟨w3.heap.size, 0, none⟩ = some (vi t) := by rw [hwA]; go_simp; first | rfl | simp
    have x2 : wA.cell? ((⟨w3.heap.size, 0, none⟩ : Addr).add 1) = some (vi n) := by rw [hwA]; go_simp; first | rfl | simp
    have PA := p1.out.keep0 FA
    have WA := (PA.wqi hi).2
    dsimp only at WA
    rw [HVW.out] at WA
    obtain ⟨a', c', w4, hrun, W4, F4⟩ := run_append_wq ⟨cw, WA⟩ (by rw [← HM.out]; omega) ⟨w3.heap.size, 0, none⟩ (t, n) x1 x2 75
    rw [← HM.out] at hrun W4
    rw [← hwA] at hHeld ⊢
    refine wpAnyT_ready (rs := [23]) (by kernel_rfl) (by simp) ?_
    refine AllReadyT.cons rfl (fun K hK => ?_) AllReadyT.nil
    refine stepBi .append Builtin.append_ (fun _ _ _ _ => rfl) rfl _ _ _ _ rfl _ _ rfl rfl hrun ?_
    refine hK.out _ _ ⟨F4.cell hHeld.1 (by simp), F4.cell hHeld.2 (by simp)⟩ (fun hHeld => ?_)
    clear hK K
    try simp only [Act.put, List.getElem_toArray, List.getElem_cons_zero, List.getElem_cons_succ, List.setIfInBounds_toArray, List.set_cons_zero, List.set_cons_succ]
    have u6 := F4.frozen (FA.cell g5 (by simp)) (FA.frozen g5 u5 (by simp)) (by simp)
    refine wpAnyT_take [25, 24] (i := 24) (v := ?va24) rfl (by kernel_rfl) (by kernel_rfl) (by kernel_rfl) (by kernel_rfl) (fun _ _ _ h => h) (Or.inl ⟨by rfl, ?ya24⟩) hHeld ?ra24
    case ya24 => ((intro w hSw; (try dsimp only at hSw); go_simp) <;> with_reducible rfl)
    try simp only [Act.put, List.getElem_toArray, List.getElem_cons_zero, List.getElem_cons_succ, List.setIfInBounds_toArray, List.set_cons_zero, List.set_cons_succ]
    refine wpAnyT_take [25] (i := 25) (v := ?va25) rfl (by kernel_rfl) (by kernel_rfl) (by kernel_rfl) (by kernel_rfl) (fun _ _ _ h => h) (Or.inl ⟨by rfl, ?ya25⟩) hHeld ?ra25
    case ya25 => ((intro w hSw; (try dsimp only at hSw); go_simp) <;> with_reducible rfl)
    try simp only [Act.put, List.getElem_toArray, List.getElem_cons_zero, List.getElem_cons_succ, List.setIfInBounds_toArray, List.set_cons_zero, List.set_cons_succ]
    refine wpAnyT_ready (rs := [26]) (by kernel_rfl) (by simp) ?_
    refine AllReadyT.last rfl (by kernel_rfl) (fun K hK => ?_) AllReadyT.nil
    go_simp
    refine hK.out _ _ ?_
    clear hK K
    try simp only [Act.put, List.getElem_toArray, List.getElem_cons_zero, List.getElem_cons_succ, List.setIfInBounds_toArray, List.set_cons_zero, List.set_cons_succ]
    refine wpAnyT_done (by kernel_rfl) ?_ _
    have P4 := hid ((PA.keep0 F4).puti (q := 5) hi (by omega) (.slice a' (m + 1) c') ⟨{ (G[i]'hi).x with fat := true, wait := (G[i]'hi).x.wait ++ [(t, n)] }, (G[i]'hi).ve, .slice a' (m + 1) c'⟩ rfl ⟨((PA.keep0 F4).wqi hi).1, W4⟩)
    have F5 := hid (((F3.out.tr0 FA).tr0 F4).setCell (p := ⟨b, i * 6 + 5, none⟩) (.inl (by simp)) (.slice a' (m + 1) c'))
    generalize w4.setCell ⟨b, i * 6 + 5, none⟩ (.slice a' (m + 1) c') = w5 at P4 F5 ⊢
    clear u6 hHeld F4 W4 hrun WA PA x1 x2 FA hwA g5 g2 u5 hlm hlc q3 z3
    have HV := hid (dover_any (w := w5) (tb := tb) (b := b) (cap := cap) (G := G.set i ⟨{ (G[i]'hi).x with fat := true, wait := (G[i]'hi).x.wait ++ [(t, n)] }, (G[i]'hi).ve, .slice a' (m + 1) c'⟩) (i := i) (by rw [List.length_set]; exact P4.out) (by rw [List.length_set]; exact hi) (by rw [List.length_set]; exact HK.out.glen) (by rw [List.getElem_set_self]; have := (HK.out.at hi).2.2.1; show (G[i]'hi).x.entry.length ≤ _; omega))
    rw [List.getElem_set_self] at HV
    go_wp2_with fail
    refine HV.out.mono ?_
    rintro e w6 ⟨rfl, ⟨g', hg, hd⟩, f3⟩
    rw [List.set_set, List.length_set] at hd
    have HD3 := hid hd
    have F6 := hid f3
    have HG := hid hg
    clear hd f3 hg
    go_wp2_with fail
    go_ret2
    refine ⟨by rw [HN.out]; rfl, DMv.of (HD3.out.keep0 (by first | exact Fr.refl _ _ | exact (Fr.refl _ _).drew)) (by rw [List.map_set, HG.out, HN.out]) ?_⟩
    first | exact F5.out.tr F6.out | exact (F5.out.tr F6.out).drew

end Go.Proofs.Ythdmgjkipiaccaa
