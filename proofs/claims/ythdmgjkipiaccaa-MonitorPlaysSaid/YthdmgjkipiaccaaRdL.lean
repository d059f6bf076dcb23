/-
  MonitorPlays: the document's Lock.
-/
import Derived.Test.YthdmgjkipiaccaaRdG
namespace Go.Proofs.Ythdmgjkipiaccaa
open Go.RowKit

theorem rLock_no {R : List RL} {a : Int} (h : ¬ rix R a < R.length) : rLock R a = .zero := by unfold rLock; rw [if_neg h]
theorem rLock_at {G : List RG} {a : Int} {i : Nat} (hi : i < G.length) (he : i = rix (G.map RG.x) a) : rLock (G.map RG.x) a = G[i].x.pl := by
  subst he
  unfold rLock
  rw [if_pos (by rw [List.length_map]; exact hi), gx hi]

def row5 (w' : World) (N : Nat) (o c : Int) (ft : Bool) (ve vw : Value) : World :=
  (((((w'.setCell ⟨N, 0, none⟩ (.int .i64 o)).setCell ⟨N, 1, none⟩ (.int .i64 c)).setCell ⟨N, 2, none⟩ (.bool ft)).setCell ⟨N, 3, none⟩ ve).setCell ⟨N, 4, none⟩ vw)
theorem row5_at {w' : World} {N : Nat} {o c : Int} {ft : Bool} {ve vw : Value} (hb : w'.heap[N]? = some (.cells #[.int .i64 0, .int .i64 0, .bool false, .slice none 0 0, .slice none 0 0] 33 (0, 0))) :
    (row5 w' N o c ft ve vw).heap[N]? = some (.cells #[.int .i64 o, .int .i64 c, .bool ft, ve, vw] 33 (0, 0)) :=
  heap_setCell_same _ N 4 _ _ vw (heap_setCell_same _ N 3 _ _ ve (heap_setCell_same _ N 2 _ _ (.bool ft) (heap_setCell_same _ N 1 _ _ (.int .i64 c) (heap_setCell_same _ N 0 _ _ (.int .i64 o) hb))))
theorem row5_fr {w' : World} {N : Nat} {o c : Int} {ft : Bool} {ve vw : Value} : Fr [N] w' (row5 w' N o c ft ve vw) := by
  unfold row5
  exact ((((((Fr.refl _ _).setCell (.inl (by simp)) _).setCell (.inl (by simp)) _).setCell (.inl (by simp)) _).setCell (.inl (by simp)) _).setCell (.inl (by simp)) _)
theorem row5_sli {w' : World} {N : Nat} {o c : Int} {ft : Bool} {ve vw v : Value} {xs : List Int} (h : Sli w' v xs) (hb : w'.heap[N]? = some (.cells #[.int .i64 0, .int .i64 0, .bool false, .slice none 0 0, .slice none 0 0] 33 (0, 0))) : Sli (row5 w' N o c ft ve vw) v xs :=
  h.keepLk row5_fr (fun b hb' => by rw [List.mem_singleton] at hb'; subst hb'; exact ⟨_, hb⟩)

set_option maxHeartbeats 1000000 in
theorem dlock_any {w : World} {tb : Nat} {F : List Nat} {R : List RL} (h : Doc w tb F R) (hk : RBd R 1000) (a : Int) : Calls Try.prog 24 #[.pointer (some ⟨tb, 0, none⟩), .int .i64 a] w (LockPost w (rLock R a)) := by
  obtain ⟨v, G, rfl, rfl, h⟩ := h
  have hA : Fr [] w (w.alloc (.cells #[.int .i64 0, .int .i64 0, .bool false, .slice none 0 0, .slice none 0 0] 33)) := (Fr.refl _ _).alloc _
  have hHA := heap_alloc_new w (.cells #[.int .i64 0, .int .i64 0, .bool false, .slice none 0 0, .slice none 0 0] 33)
  have HC := hid (dfind_any (h.keep0 hA) hk.glen a)
  obtain ⟨i, hi⟩ : ∃ i, i = rix (G.map RG.x) a := ⟨_, rfl⟩
  by_cases hl : i < G.length
  · have hr : rixI (G.map RG.x) a = (i : Int) := by rw [rixI_at (by rw [← hi, List.length_map]; exact hl), ← hi]
    rw [hr] at HC
    rw [rLock_at hl hi]
    have HD := hid (h.keep0 hA)
    have FA := hid hA
    have HH := hid hHA
    obtain ⟨x, hx⟩ : ∃ x, x = (G[i]'hl).x := ⟨_, rfl⟩
    have HK := hk.at hl
    have hlen := hk.glen
    rw [← hx] at HK ⊢
    have HX := hid hx
    have hi0 : (0 : Int) ≤ i := by omega
    obtain ⟨_, _, b1, b2⟩ := HK
    clear h hA hHA hi hr hk hx
    go_enter Try.func24, Try.ntmps24
    go_wp2_with fail
    refine HC.out.mono ?_
    rintro e w2 ⟨rfl, f2⟩
    have d2 := HD.out.keep0 f2
    obtain ⟨b, cap, e, q0, q1, q2, q3, q4, q5, fz⟩ := d2.lock hl
    have c2 := d2.tbl
    obtain ⟨wq1, wq2⟩ := d2.wqat hl
    rw [← HX.out] at q0 q1 q2 q3 wq1 wq2
    obtain ⟨ae, ce, hve, _, _⟩ := wq1.form
    obtain ⟨aw, cw, hvw, _, _⟩ := wq2.form
    obtain ⟨n1, hn1⟩ : ∃ n1, n1 = x.entry.length := ⟨_, rfl⟩
    obtain ⟨n2, hn2⟩ : ∃ n1, n1 = x.wait.length := ⟨_, rfl⟩
    rw [hve, ← hn1] at q4 wq1
    rw [hvw, ← hn2] at q5 wq2
    have HE := hid e
    obtain ⟨n, hn⟩ : ∃ n, n = G.length := ⟨_, rfl⟩
    rw [e, ← hn] at c2
    have hin : (i : Int) < n := by omega
    have hib : (i : Int) ≤ 1000 := by omega
    have HH2 := hid (f2.obj HH.out (by simp))
    have FA2 := hid (FA.out.tr f2)
    have W1 := hid wq1
    have W2 := hid wq2
    obtain ⟨at0, hat⟩ : ∃ z, z = x.at' := ⟨_, rfl⟩
    obtain ⟨ow, how⟩ : ∃ z, z = x.owner := ⟨_, rfl⟩
    obtain ⟨cn, hcn⟩ : ∃ z, z = x.count := ⟨_, rfl⟩
    obtain ⟨ft, hft⟩ : ∃ z, z = x.fat := ⟨_, rfl⟩
    rw [← hat] at q0
    rw [← how] at q1
    rw [← hcn] at q2
    rw [← hft] at q3
    have HOW := hid how
    have HCN := hid hcn
    have HFT := hid hft
    have B1 := hid b1
    have B2 := hid b2
    clear f2 d2 wq1 wq2 hve hvw e fz hat how hcn hft b1 b2 hn hn1 hn2
    go_upto_region 5 with (fail)
    have FB : Fr [] w2 (w2.alloc (.cells #[.int .i64 at0, .int .i64 ow, .int .i64 cn, .bool ft, .slice ae n1 ce, .slice aw n2 cw] 77)) := (Fr.refl _ _).alloc _
    have hb6 := heap_alloc_new w2 (.cells #[.int .i64 at0, .int .i64 ow, .int .i64 cn, .bool ft, .slice ae n1 ce, .slice aw n2 cw] 77)
    generalize w2.alloc (.cells #[.int .i64 at0, .int .i64 ow, .int .i64 cn, .bool ft, .slice ae n1 ce, .slice aw n2 cw] 77) = wB at FB hb6 ⊢
    obtain ⟨N, hN⟩ : ∃ N, N = w2.heap.size := ⟨_, rfl⟩
    rw [← hN] at hb6 ⊢
    have d1 : wB.cell? ⟨N, 1, none⟩ = some (.int .i64 ow) := by rw [cell_of_row _ _ _ _ _ _ hb6]; rfl
    have d2 : wB.cell? ⟨N, 2, none⟩ = some (.int .i64 cn) := by rw [cell_of_row _ _ _ _ _ _ hb6]; rfl
    have d3 : wB.cell? ⟨N, 3, none⟩ = some (.bool ft) := by rw [cell_of_row _ _ _ _ _ _ hb6]; rfl
    have d4 : wB.cell? ⟨N, 4, none⟩ = some (.slice ae n1 ce) := by rw [cell_of_row _ _ _ _ _ _ hb6]; rfl
    have d5 : wB.cell? ⟨N, 5, none⟩ = some (.slice aw n2 cw) := by rw [cell_of_row _ _ _ _ _ _ hb6]; rfl
    have HN1 : Hid (∀ W, Fr [] wB W → Calls Try.prog 38 #[.slice ae n1 ce] W fun e w' => ∃ vl, e = .returned vl ∧ NamS W w' vl x.entry) := hid (fun W f => dnames_any ((W1.out.keep0 FB).keep0 f) (by have := B1.out; omega))
    have HN2 : Hid (∀ W, Fr [] wB W → Calls Try.prog 38 #[.slice aw n2 cw] W fun e w' => ∃ vl, e = .returned vl ∧ NamS W w' vl x.wait) := hid (fun W f => dnames_any ((W2.out.keep0 FB).keep0 f) (by have := B2.out; omega))
    have HHB := hid (FB.obj HH2.out (by simp))
    have FAB := hid (FA2.out.tr FB)
    clear FB hb6 q0 q1 q2 q3 q4 q5 c2 hin hib hN
    refine wp_region_T (fun w' => w'.cell? ⟨N, 1, none⟩ = some (.int .i64 ow) ∧ w'.cell? ⟨N, 2, none⟩ = some (.int .i64 cn) ∧ w'.cell? ⟨N, 3, none⟩ = some (.bool ft) ∧ w'.cell? ⟨N, 4, none⟩ = some (.slice ae n1 ce) ∧ w'.cell? ⟨N, 5, none⟩ = some (.slice aw n2 cw) ∧ Hid (Fr [] wB w')) 13 (by kernel_rfl) ⟨by go_simp, by go_simp, by go_simp, by go_simp, by go_simp, hid (Fr.refl _ _).drew⟩ (fun hHeld => ?_)
    refine wpAnyT_take [0] (i := 0) (v := ?va0) rfl (by kernel_rfl) (by kernel_rfl) (by kernel_rfl) (by kernel_rfl) (fun _ _ _ h => h) (Or.inl ⟨by rfl, ?ya0⟩) hHeld ?ra0
    case ya0 => ((intro w hSw; (try dsimp only at hSw); go_simp) <;> with_reducible rfl)
    try simp only [Act.put, List.getElem_toArray, List.getElem_cons_zero, List.getElem_cons_succ, List.setIfInBounds_toArray, List.set_cons_zero, List.set_cons_succ]
    refine wpAnyT_take [1] (i := 1) (v := ?va1) rfl (by kernel_rfl) (by kernel_rfl) (by kernel_rfl) (by kernel_rfl) (fun _ _ _ h => h) (Or.inl ⟨by rfl, ?ya1⟩) hHeld ?ra1
    case ya1 => ((intro w hSw; (try dsimp only at hSw); go_simp) <;> with_reducible rfl)
    try simp only [Act.put, List.getElem_toArray, List.getElem_cons_zero, List.getElem_cons_succ, List.setIfInBounds_toArray, List.set_cons_zero, List.set_cons_succ]
    refine wpAnyT_take [2] (i := 2) (v := ?va2) rfl (by kernel_rfl) (by kernel_rfl) (by kernel_rfl) (by kernel_rfl) (fun _ _ _ h => h) (Or.inl ⟨by rfl, ?ya2⟩) hHeld ?ra2
    case ya2 => ((intro w hSw; (try dsimp only at hSw); go_simp) <;> with_reducible rfl)
    try simp only [Act.put, List.getElem_toArray, List.getElem_cons_zero, List.getElem_cons_succ, List.setIfInBounds_toArray, List.set_cons_zero, List.set_cons_succ]
    refine wpAnyT_take [3] (i := 3) (v := ?va3) rfl (by kernel_rfl) (by kernel_rfl) (by kernel_rfl) (by kernel_rfl) (fun _ _ _ h => h) (Or.inl ⟨by rfl, ?ya3⟩) hHeld ?ra3
    case ya3 => ((intro w hSw; (try dsimp only at hSw); go_simp) <;> with_reducible rfl)
    try simp only [Act.put, List.getElem_toArray, List.getElem_cons_zero, List.getElem_cons_succ, List.setIfInBounds_toArray, List.set_cons_zero, List.set_cons_succ]
    refine wpAnyT_take [4] (i := 4) (v := ?va4) rfl (by kernel_rfl) (by kernel_rfl) (by kernel_rfl) (by kernel_rfl) (fun _ _ _ h => h) (Or.inl ⟨by rfl, ?ya4⟩) hHeld ?ra4
    case ya4 => ((intro w hSw; (try dsimp only at hSw); go_simp) <;> with_reducible rfl)
    try simp only [Act.put, List.getElem_toArray, List.getElem_cons_zero, List.getElem_cons_succ, List.setIfInBounds_toArray, List.set_cons_zero, List.set_cons_succ]
    refine wpAnyT_take [5] (i := 5) (v := ?va5) rfl (by kernel_rfl) (by kernel_rfl) (by kernel_rfl) (by kernel_rfl) (fun _ _ _ h => h) (Or.inl ⟨by rfl, ?ya5⟩) hHeld ?ra5
    case ya5 => ((intro w hSw; (try dsimp only at hSw); go_simp) <;> with_reducible rfl)
    try simp only [Act.put, List.getElem_toArray, List.getElem_cons_zero, List.getElem_cons_succ, List.setIfInBounds_toArray, List.set_cons_zero, List.set_cons_succ]
    refine wpAnyT_take [6] (i := 6) (v := ?va6) rfl (by kernel_rfl) (by kernel_rfl) (by kernel_rfl) (by kernel_rfl) (fun _ _ _ h => h) (Or.inl ⟨by rfl, ?ya6⟩) hHeld ?ra6
    case ya6 => ((intro w hSw; (try dsimp only at hSw); go_simp) <;> with_reducible rfl)
    try simp only [Act.put, List.getElem_toArray, List.getElem_cons_zero, List.getElem_cons_succ, List.setIfInBounds_toArray, List.set_cons_zero, List.set_cons_succ]
    refine wpAnyT_take [7] (i := 7) (v := ?va7) rfl (by kernel_rfl) (by kernel_rfl) (by kernel_rfl) (by kernel_rfl) (fun _ _ _ h => h) (Or.inl ⟨by rfl, ?ya7⟩) hHeld ?ra7
    case ya7 => ((intro w hSw; (try dsimp only at hSw); go_simp) <;> with_reducible rfl)
    try simp only [Act.put, List.getElem_toArray, List.getElem_cons_zero, List.getElem_cons_succ, List.setIfInBounds_toArray, List.set_cons_zero, List.set_cons_succ]
    refine wpAnyT_take [9] (i := 9) (v := ?va9) rfl (by kernel_rfl) (by kernel_rfl) (by kernel_rfl) (by kernel_rfl) (fun _ _ _ h => h) (Or.inl ⟨by rfl, ?ya9⟩) hHeld ?ra9
    case ya9 => ((intro w hSw; (try dsimp only at hSw); go_simp) <;> with_reducible rfl)
    try simp only [Act.put, List.getElem_toArray, List.getElem_cons_zero, List.getElem_cons_succ, List.setIfInBounds_toArray, List.set_cons_zero, List.set_cons_succ]
    refine wpAnyT_take [10] (i := 10) (v := ?va10) rfl (by kernel_rfl) (by kernel_rfl) (by kernel_rfl) (by kernel_rfl) (fun _ _ _ h => h) (Or.inl ⟨by rfl, ?ya10⟩) hHeld ?ra10
    case ya10 => ((intro w hSw; (try dsimp only at hSw); go_simp) <;> with_reducible rfl)
    try simp only [Act.put, List.getElem_toArray, List.getElem_cons_zero, List.getElem_cons_succ, List.setIfInBounds_toArray, List.set_cons_zero, List.set_cons_succ]
    refine wpAnyT_ready (rs := [8]) (by kernel_rfl) (by simp) ?_
    refine AllReadyT.cons rfl (fun K hK => ?_) AllReadyT.nil
    go_simp
    refine (HN1.out _ hHeld.2.2.2.2.2.out).mono ?_
    rintro e w5 ⟨vl1, rfl, hs1⟩
    have HS1 := hid hs1
    have f5 := hs1.fr
    clear hs1
    refine hK.out _ _ ⟨f5.cell hHeld.1 (by simp), f5.cell hHeld.2.1 (by simp), f5.cell hHeld.2.2.1 (by simp), f5.cell hHeld.2.2.2.1 (by simp), f5.cell hHeld.2.2.2.2.1 (by simp), hid (hHeld.2.2.2.2.2.out.tr f5)⟩ (fun hHeld => ?_)
    clear hK K
    try simp only [Act.put, List.getElem_toArray, List.getElem_cons_zero, List.getElem_cons_succ, List.setIfInBounds_toArray, List.set_cons_zero, List.set_cons_succ]
    refine wpAnyT_ready (rs := [11]) (by kernel_rfl) (by simp) ?_
    refine AllReadyT.cons rfl (fun K hK => ?_) AllReadyT.nil
    go_simp
    refine (HN2.out _ hHeld.2.2.2.2.2.out).mono ?_
    rintro e w6 ⟨vl2, rfl, hs2⟩
    have HS2 := hid hs2
    have f6 := hs2.fr
    clear hs2
    refine hK.out _ _ ⟨f6.cell hHeld.1 (by simp), f6.cell hHeld.2.1 (by simp), f6.cell hHeld.2.2.1 (by simp), f6.cell hHeld.2.2.2.1 (by simp), f6.cell hHeld.2.2.2.2.1 (by simp), hid (hHeld.2.2.2.2.2.out.tr f6)⟩ (fun hHeld => ?_)
    clear hK K
    try simp only [Act.put, List.getElem_toArray, List.getElem_cons_zero, List.getElem_cons_succ, List.setIfInBounds_toArray, List.set_cons_zero, List.set_cons_succ]
    have hb := hHeld.2.2.2.2.2.out.obj HHB.out (by simp)
    obtain ⟨a1, m1, hf1, _, _⟩ := HS1.out.l.form
    obtain ⟨a2, m2, hf2, _, _⟩ := HS2.out.l.form
    subst hf1
    subst hf2
    refine wpAnyT_take [12] (i := 12) (v := ?va12) rfl (by kernel_rfl) (by kernel_rfl) (by kernel_rfl) (by kernel_rfl) (fun _ _ _ h => h) (Or.inl ⟨by rfl, ?ya12⟩) hHeld ?ra12
    case ya12 => ((intro w hSw; (try dsimp only at hSw); go_simp) <;> with_reducible rfl)
    try simp only [Act.put, List.getElem_toArray, List.getElem_cons_zero, List.getElem_cons_succ, List.setIfInBounds_toArray, List.set_cons_zero, List.set_cons_succ]
    have e0 := cell_of_row _ _ 0 _ _ _ hb
    have e1 := cell_of_row _ _ 1 _ _ _ hb
    have e2 := cell_of_row _ _ 2 _ _ _ hb
    have e3 := cell_of_row _ _ 3 _ _ _ hb
    have e4 := cell_of_row _ _ 4 _ _ _ hb
    have v0 := frozen_of_row _ _ 0 _ _ hb
    have v1 := frozen_of_row _ _ 1 _ _ hb
    have v2 := frozen_of_row _ _ 2 _ _ hb
    have v3 := frozen_of_row _ _ 3 _ _ hb
    have v4 := frozen_of_row _ _ 4 _ _ hb
    simp only [List.getElem?_toArray, List.getElem?_cons_zero, List.getElem?_cons_succ] at e0 e1 e2 e3 e4
    have HB := hid hb
    have F6 := hid (FAB.out.tr hHeld.2.2.2.2.2.out)
    clear hb
    refine wpAnyT_ready (rs := [13]) (by kernel_rfl) (by simp) ?_
    refine AllReadyT.last rfl (by kernel_rfl) (fun K hK => ?_) AllReadyT.nil
    go_simp
    refine hK.out _ _ ?_
    clear hK K
    try simp only [Act.put, List.getElem_toArray, List.getElem_cons_zero, List.getElem_cons_succ, List.setIfInBounds_toArray, List.set_cons_zero, List.set_cons_succ]
    refine wpAnyT_done (by kernel_rfl) ?_ _
    go_wp2_with fail
    refine bodyPost_ret (results_cell_row (fn := Try.f24) rfl _ _ w.heap.size _ _ _ _ rfl (row5_at HB.out) lock_under rfl lock_size) rfl ?_
    refine ⟨_, _, ?_, row5_sli (HS1.out.l.keep0 HS2.out.fr) HB.out, row5_sli HS2.out.l HB.out, F6.out.trans row5_fr (fun z hz => .inr (by rw [List.mem_singleton] at hz; omega))⟩
    rw [HOW.out, HCN.out, HFT.out]
    simp only [List.length_map, RL.pl]
  · have hr : rixI (G.map RG.x) a = -1 := rixI_no (by rw [← hi, List.length_map]; exact hl)
    rw [hr] at HC
    rw [rLock_no (by rw [← hi, List.length_map]; exact hl)]
    have FA := hid hA
    have HH := hid hHA
    clear h hA hHA hi hr hk hl
    go_enter Try.func24, Try.ntmps24
    go_wp2_with fail
    refine HC.out.mono ?_
    rintro e w2 ⟨rfl, f2⟩
    have hb := f2.obj HH.out (by simp)
    have e0 := cell_of_row _ _ 0 _ _ _ hb
    have e1 := cell_of_row _ _ 1 _ _ _ hb
    have e2 := cell_of_row _ _ 2 _ _ _ hb
    have e3 := cell_of_row _ _ 3 _ _ _ hb
    have e4 := cell_of_row _ _ 4 _ _ _ hb
    have v0 := frozen_of_row _ _ 0 _ _ hb
    have v1 := frozen_of_row _ _ 1 _ _ hb
    have v2 := frozen_of_row _ _ 2 _ _ hb
    have v3 := frozen_of_row _ _ 3 _ _ hb
    have v4 := frozen_of_row _ _ 4 _ _ hb
    simp only [List.getElem?_toArray, List.getElem?_cons_zero, List.getElem?_cons_succ] at e0 e1 e2 e3 e4
    have F2 := hid (FA.out.tr f2)
    have HB := hid hb
    clear f2 hb
    go_wp2_with fail
    refine bodyPost_ret (results_cell_row (fn := Try.f24) rfl _ _ w.heap.size _ _ _ _ rfl (row5_at (o := 0) (c := 0) (ft := false) (ve := .slice none 0 0) (vw := .slice none 0 0) HB.out) lock_under rfl lock_size) rfl ?_
    exact ⟨_, _, rfl, Sli.nil _, Sli.nil _, F2.out.trans row5_fr (fun z hz => .inr (by rw [List.mem_singleton] at hz; omega))⟩

end Go.Proofs.Ythdmgjkipiaccaa
