/-
  Package monitor: Forget.
-/
import Derived.Test.YthdmgjkipiaccaaMonG
import Derived.Test.YthdmgjkipiaccaaMonS
namespace Go.Proofs.Ythdmgjkipiaccaa
open Go.RowKit

theorem sub_flatMap {A B : Type} {l l' : List A} (h : List.Sublist l l') (f : A → List B) : List.Sublist (l.flatMap f) (l'.flatMap f) := by
  induction h with
  | slnil => exact List.Sublist.refl _
  | cons a _ ih => rw [List.flatMap_cons]; exact ih.trans (List.sublist_append_right _ _)
  | cons_cons a _ ih => rw [List.flatMap_cons, List.flatMap_cons]; exact List.Sublist.append (List.Sublist.refl _) ih
/-- some locks are no more there -/
theorem MonT.fewer {w w' : World} {tb mb cb : Nat} {gs gs' : List LkG} {cs : List ((Int × Int) × Int)} (h : MonT w ⟨tb, mb, cb, gs⟩ cs) (f : Fr [mb] w w') (hs : List.Sublist gs' gs) (hm : MapL w' mb intK (gs'.map (fun g => (g.at', ptrV g.b)))) : MonT w' ⟨tb, mb, cb, gs'⟩ cs := by
  have hnd0 := h.nd
  have e0 : (Lies.mk tb mb cb gs).fp = tb :: mb :: cb :: gs.flatMap LkG.fp := rfl
  have hsub : List.Sublist (Lies.mk tb mb cb gs').fp (Lies.mk tb mb cb gs).fp := by
    show List.Sublist (tb :: mb :: cb :: gs'.flatMap LkG.fp) (tb :: mb :: cb :: gs.flatMap LkG.fp)
    exact List.Sublist.cons_cons _ (List.Sublist.cons_cons _ (List.Sublist.cons_cons _ (sub_flatMap hs _)))
  rw [e0] at hnd0
  have n1 : tb ≠ mb ∧ mb ≠ cb := by
    have k1 := (List.nodup_cons.1 hnd0).1
    have k2 := (List.nodup_cons.1 (List.nodup_cons.1 hnd0).2).1
    exact ⟨fun e => k1 (by rw [e]; simp), fun e => k2 (by rw [e]; simp)⟩
  have n2 : ∀ q ∈ gs', ∀ x ∈ q.fp, x ∉ [mb] := by
    intro q hq x hx hm
    rw [List.mem_singleton] at hm
    subst hm
    have := (List.nodup_cons.1 (List.nodup_cons.1 hnd0).2).1
    exact this (List.mem_cons_of_mem _ (List.mem_flatMap.2 ⟨q, hs.subset hq, hx⟩))
  exact ⟨f.obj h.tbl (by simpa using n1.1), hm, h.cm.keep f (by simpa using fun e => n1.2 e.symm), fun q hq => (h.lks q (hs.subset hq)).keep f (n2 q hq), hsub.nodup (by rw [e0]; exact hnd0)⟩

theorem ldel_split {K V : Type} [DecidableEq K] {l1 l2 : List (K × V)} {a : K} {u : V} (hn : ((l1 ++ (a, u) :: l2).map (·.1)).Nodup) : ldel (l1 ++ (a, u) :: l2) a = l1 ++ l2 := by
  have hs : ∀ (l : List (K × V)), (∀ p ∈ l, p.1 ≠ a) → ldel l a = l := by
    intro l hl
    refine List.filter_eq_self.2 (fun p hp => ?_)
    simpa using hl p hp
  simp only [List.map_append, List.map_cons] at hn
  have n1 := List.nodup_append.1 hn
  have n2 := List.nodup_cons.1 n1.2.1
  have e : ldel (l1 ++ (a, u) :: l2) a = ldel l1 a ++ ldel l2 a := by unfold ldel; simp
  rw [e, hs l1 (fun p hp e => n1.2.2 p.1 (List.mem_map.2 ⟨p, hp, rfl⟩) a (by simp) e), hs l2 (fun p hp e => n2.1 (e ▸ List.mem_map.2 ⟨p, hp, rfl⟩))]

/-- what the deletion of a lock's key does -/
theorem del_lock {w w0 : World} {tb mb cb : Nat} {gs gs' : List LkG} {T T' : PT} (hm : MonT w ⟨tb, mb, cb, gs⟩ T.cs) (f0 : Fr [] w w0) (a : Int) (hs : List.Sublist gs' gs) (hd : ldel (gs.map (fun g => (g.at', ptrV g.b))) a = gs'.map (fun g => (g.at', ptrV g.b))) (hT : T'.ls = gs'.map (fun g => (g.at', g.L))) (hc : T'.cs = T.cs) :
    ∃ w', (∀ ty, (Builtin.delete_ #[58, 3] ty #[.map (some mb), .int .i64 a]).run Try.prog w0 = .ok (.tuple #[]) w') ∧ Moved w w' (ptrV tb) (Lies.mk tb mb cb gs).fp T' := by
  obtain ⟨w', hdel, hm', f, _⟩ := (hm.keep0 f0).lm.delete (P := Try.prog) (ty := 0) ik_keys und_locks a
  refine ⟨w', fun _ => hdel, (Lies.mk tb mb cb gs').fp, ⟨⟨tb, mb, cb, gs'⟩, rfl, rfl, hT, ?_⟩, ?_, ?_⟩
  · rw [hc]
    simp only [] at hm'
    rw [hd] at hm'
    exact (hm.keep0 f0).fewer f hs hm'
  · exact (f0.sub (by simp)).tr (f.sub (by simp [Lies.fp]))
  · intro x hx
    left
    rcases mem_fp.1 hx with rfl | rfl | rfl | ⟨g, hg, hx⟩
    · simp [Lies.fp]
    · simp [Lies.fp]
    · simp [Lies.fp]
    · exact mem_fp.2 (.inr (.inr (.inr ⟨g, hs.subset hg, hx⟩)))

set_option maxHeartbeats 1000000 in
theorem forget_any {w : World} {p : Value} {F : List Nat} {T : PT} {n : Nat} (h : Mon w p F T) (hs : T.Small n) (hn : n ≤ 100000) (a : Int) :
    Calls Try.prog 17 #[p, .int .i64 a] w (OpPost w p F (.int .i64 (T.forget a).1) (T.forget a).2) := by
  have HM0 := hid h
  obtain ⟨⟨tb, mb, cb, gs⟩, rfl, rfl, hls, hm⟩ := h
  simp only [] at hls HM0 ⊢
  have hc0 := hm.c0
  have hk := hm.look a
  simp only [] at hc0 hk
  cases hg : lget T.ls a with
  | none =>
    have e : T.forget a = (0, T) := by unfold PT.forget; rw [hg]
    rw [e]
    rw [hls] at hg
    obtain ⟨k1, k2⟩ := lget_gs_none hg
    rw [k1] at hk
    simp only [Option.getD_none] at hk
    have hdl := fun nq => del_lock (T' := T) hm ((Fr.refl [] w).drewN nq) a (List.Sublist.refl gs) (by
      refine List.filter_eq_self.2 (fun p hp => ?_)
      obtain ⟨g, hg, rfl⟩ := List.mem_map.1 hp
      simpa using k2 g hg) hls rfl
    have HDL := hid hdl
    clear hdl k1 k2 hm hls hg e hs hn
    unfold ptrV at *
    go_enter Try.func17, Try.ntmps17
    go_wp2_with fail
    go_quiet (fail)
    obtain ⟨wF, hdel, hmv⟩ := HDL.out nq
    have HMV := hid hmv
    have hc1 := ((Fr.refl [] w).drewN nq).cell hc0 (by simp)
    clear hmv hc0 hk
    generalize w.drewN nq = wq at hdel hc1 ⊢
    go_wp2_with fail
    go_ret
    exact ⟨rfl, HMV.out⟩
  | some L =>
    have hsm := hs.ls a L (lget_mem hg)
    have eT : T.forget a = if L.owner ≠ 0 ∨ 0 < L.entry.length + L.wait.length then (130, T) else (0, { T with ls := ldel T.ls a }) := by unfold PT.forget; rw [hg]
    rw [hls] at hg
    obtain ⟨g1, g, g2, rfl, hat, rfl, _, hl⟩ := lget_gs hg
    rw [hl] at hk
    simp only [Option.getD_some] at hk
    obtain ⟨c0, _, _, c3, c4⟩ := (hm.lks g (by simp)).c
    obtain ⟨ae, ce, hve, le1, le2⟩ := (hm.lks g (by simp)).ent.form
    obtain ⟨aw, cw, hvw, lw1, lw2⟩ := (hm.lks g (by simp)).wai.form
    rw [hve] at c3
    rw [hvw] at c4
    have hl1 : g.L.entry.length ≤ 100000 ∧ g.L.wait.length ≤ 100000 := by have := hsm.1; omega
    have hnd := gs_keys hm
    simp only [] at hnd
    have hdl : ∀ nq, _ := fun nq => del_lock (T' := { T with ls := ldel T.ls a }) (gs' := g1 ++ g2) hm ((Fr.refl [] w).drewN nq) a (List.Sublist.append (List.Sublist.refl _) (List.sublist_cons_self _ _)) (by
      rw [List.map_append, List.map_cons, hat, ldel_split, List.map_append]
      simpa [List.map_map, Function.comp_def, hat] using hnd) (by
      show ldel T.ls a = _
      rw [hls, List.map_append, List.map_cons, hat, ldel_split, List.map_append]
      simpa [List.map_map, Function.comp_def, hat] using hnd) rfl
    have HDL := hid hdl
    clear hdl hnd hm hls hl hg hve hvw le1 le2 lw1 lw2 hsm hs hn hat
    obtain ⟨o, ho⟩ : ∃ o, o = g.L.owner := ⟨_, rfl⟩
    obtain ⟨m1, hm1⟩ : ∃ m, m = g.L.entry.length := ⟨_, rfl⟩
    obtain ⟨m2, hm2⟩ : ∃ m, m = g.L.wait.length := ⟨_, rfl⟩
    rw [← ho] at c0 eT
    rw [← hm1] at c3 hl1 eT
    rw [← hm2] at c4 hl1 eT
    clear ho hm1 hm2
    by_cases h1 : o = 0
    · subst h1
      by_cases h2 : 0 < m1 + m2
      · rw [if_pos (.inr h2)] at eT
        rw [eT]
        have hd : decide ((0 : Int) < wrap64 ((m1 : Int) + m2)) = true := by rw [IntWalk.wrap64_in _ (by omega)]; simp; omega
        clear eT h2 hl1
        unfold ptrV at *
        go_enter Try.func17, Try.ntmps17
        go_wp2_with fail
        go_quiet (fail)
        have hf := (Fr.refl [] w).drewN nq
        have HF := hid hf
        clear hf hk c0 c3 c4 hd
        go_wp2_with fail
        go_ret
        exact ⟨rfl, Moved.stay HM0.out HF.out⟩
      · rw [if_neg (by simp; omega)] at eT
        rw [eT]
        obtain ⟨rfl, rfl⟩ : m1 = 0 ∧ m2 = 0 := by omega
        clear eT h2 hl1
        unfold ptrV at *
        go_enter Try.func17, Try.ntmps17
        go_wp2_with fail
        go_quiet (fail)
        obtain ⟨wF, hdel, hmv⟩ := HDL.out nq
        have HMV := hid hmv
        have hc1 := ((Fr.refl [] w).drewN nq).cell hc0 (by simp)
        clear hmv hc0 hk c0 c3 c4
        generalize w.drewN nq = wq at hdel hc1 ⊢
        go_wp2_with fail
        go_ret
        exact ⟨rfl, HMV.out⟩
    · have h1a : (o != 0) = true := by simpa using h1
      rw [if_pos (.inl h1)] at eT
      rw [eT]
      clear eT hl1
      unfold ptrV at *
      go_enter Try.func17, Try.ntmps17
      go_wp2_with fail
      go_quiet (fail)
      have hf := (Fr.refl [] w).drewN nq
      have HF := hid hf
      clear hf hk c0 c3 c4 h1a
      go_wp2_with fail
      go_ret
      exact ⟨rfl, Moved.stay HM0.out HF.out⟩

end Go.Proofs.Ythdmgjkipiaccaa
