/-
  Package monitor: over.
-/
import Derived.Test.YthdmgjkipiaccaaMonD
namespace Go.Proofs.Ythdmgjkipiaccaa
open Go.RowKit

theorem delete_first (w : World) (v : Value) (x : Int) (r : List Int) (h : Sli w v (x :: r)) :
    Calls Try.prog 30 #[v, .int .i64 0, .int .i64 1] w (DelPost w v r) := by
  have := delete_any w v (x :: r) 0 1 h (by omega) (by simp)
  simpa using this

theorem overL_nil {a : Int} {L : PLk} {cs : List ((Int × Int) × Int)} (he : L.entry = []) : overL a L cs = (0, { L with owner := 0, count := 0 }, cs) := by
  obtain ⟨o, c, f, en, wa⟩ := L
  simp only at he
  subst he; rfl
theorem overL_none {a x : Int} {r : List Int} {L : PLk} {cs : List ((Int × Int) × Int)} (he : L.entry = x :: r) (hg : lget cs (a, x) = none) : overL a L cs = (x, { L with owner := x, count := 1, entry := r }, cs) := by
  obtain ⟨o, c, f, en, wa⟩ := L
  simp only at he
  subst he; simp only [overL, hg]
theorem overL_some {a x n : Int} {r : List Int} {L : PLk} {cs : List ((Int × Int) × Int)} (he : L.entry = x :: r) (hg : lget cs (a, x) = some n) : overL a L cs = (x, { L with owner := x, count := n, entry := r }, ldel cs (a, x)) := by
  obtain ⟨o, c, f, en, wa⟩ := L
  simp only at he
  subst he; simp only [overL, hg]

theorem lget_vi {K : Type} [DecidableEq K] (cs : List (K × Int)) (k : K) : lget (cs.map (fun p => (p.1, vi p.2))) k = (lget cs k).map vi := by
  induction cs with
  | nil => rfl
  | cons p r ih =>
    rw [List.map_cons, lget_cons, lget_cons, ih]
    by_cases h : p.1 = k <;> simp [h]

structure OverAt (w w' : World) (tb mb cb : Nat) (g1 g2 : List LkG) (g g' : LkG) (L' : PLk) (cs' : List ((Int × Int) × Int)) : Prop where
  at' : g'.at' = g.at'
  b : g'.b = g.b
  L : g'.L = L'
  mon : MonT w' ⟨tb, mb, cb, g1 ++ g' :: g2⟩ cs'
  fr : Fr (cb :: g.fp) w w'
  fp : ∀ x ∈ g'.fp, x ∈ g.fp ∨ w.heap.size ≤ x
def OverPost (w : World) (tb mb cb : Nat) (g1 g2 : List LkG) (g : LkG) (r : Int × PLk × List ((Int × Int) × Int)) (e : Ending) (w' : World) : Prop := e = .returned (.int .i64 r.1) ∧ ∃ g', OverAt w w' tb mb cb g1 g2 g g' r.2.1 r.2.2

theorem MonT.tb_ne {w : World} {tb mb cb : Nat} {g1 g2 : List LkG} {g : LkG} {cs : List ((Int × Int) × Int)} (h : MonT w ⟨tb, mb, cb, g1 ++ g :: g2⟩ cs) : tb ∉ g.fp ∧ mb ∉ g.fp ∧ cb ∉ g.fp ∧ tb ≠ cb ∧ mb ≠ cb := by
  have hn := h.nd
  have eA : (Lies.mk tb mb cb (g1 ++ g :: g2)).fp = [tb, mb, cb] ++ g1.flatMap LkG.fp ++ (g.fp ++ g2.flatMap LkG.fp) := by simp [Lies.fp]
  have e0 : (Lies.mk tb mb cb (g1 ++ g :: g2)).fp = tb :: mb :: cb :: (g1 ++ g :: g2).flatMap LkG.fp := rfl
  have hn2 := hn
  rw [eA] at hn
  rw [e0] at hn2
  have h3 := (List.nodup_append.1 hn).2.2
  simp only [List.nodup_cons, List.mem_cons, not_or] at hn2
  exact ⟨fun hm => h3 tb (by simp) tb (by simp [hm]) rfl, fun hm => h3 mb (by simp) mb (by simp [hm]) rfl, fun hm => h3 cb (by simp) cb (by simp [hm]) rfl, hn2.1.2.1, hn2.2.1.1⟩

/-- nobody stands at the entry -/
theorem over_nil {w : World} {tb mb cb : Nat} {g1 g2 : List LkG} {g : LkG} {cs : List ((Int × Int) × Int)} (h : MonT w ⟨tb, mb, cb, g1 ++ g :: g2⟩ cs) (a : Int) (he : g.L.entry = []) :
    Calls Try.prog 28 #[ptrV tb, .int .i64 a, ptrV g.b] w (OverPost w tb mb cb g1 g2 g (overL a g.L cs)) := by
  have hA := h.lks g (by simp)
  obtain ⟨c0, c1, c2, c3, c4⟩ := hA.c
  have u0 := hA.fr 0
  have u1 := hA.fr 1
  obtain ⟨av, cv, hve, _, _⟩ := hA.ent.form
  rw [hve, he] at c3
  rw [overL_nil he]
  have HND := hid (h.ndg (g := g) (by simp))
  have A1 := hA.set 0 (.int .i64 0) (L' := { g.L with owner := 0 }) HND.out rfl rfl rfl
  have A2 := A1.set 1 (.int .i64 0) (L' := { g.L with owner := 0, count := 0 }) HND.out rfl rfl rfl
  have f : Fr g.fp w ((w.setCell ⟨g.b, 0, none⟩ (.int .i64 0)).setCell ⟨g.b, 1, none⟩ (.int .i64 0)) := LkAt.set_fr (LkAt.set_fr (Fr.refl _ _) 0 _) 1 _
  have FIN := hid (show OverAt w ((w.setCell ⟨g.b, 0, none⟩ (.int .i64 0)).setCell ⟨g.b, 1, none⟩ (.int .i64 0)) tb mb cb g1 g2 g { g with L := { g.L with owner := 0, count := 0 } } { g.L with owner := 0, count := 0 } cs from ⟨rfl, rfl, rfl, h.back f A2 rfl rfl (fun x hx => .inl hx) HND.out, f.sub (fun x hx => .inl (List.mem_cons_of_mem _ hx)), fun x hx => .inl hx⟩)
  clear h hA A1 A2 f hve he
  unfold ptrV
  go_enter Try.func28, Try.ntmps28
  go_wp2_with fail
  go_ret
  exact ⟨rfl, _, FIN.out⟩

/-- somebody does -/
theorem over_cons {w : World} {tb mb cb : Nat} {g1 g2 : List LkG} {g : LkG} {cs : List ((Int × Int) × Int)} (h : MonT w ⟨tb, mb, cb, g1 ++ g :: g2⟩ cs) (a x : Int) (r : List Int) (he : g.L.entry = x :: r) :
    Calls Try.prog 28 #[ptrV tb, .int .i64 a, ptrV g.b] w (OverPost w tb mb cb g1 g2 g (overL a g.L cs)) := by
  have hA := h.lks g (by simp)
  obtain ⟨c0, c1, c2, c3, c4⟩ := hA.c
  have u0 := hA.fr 0
  have u1 := hA.fr 1
  have u2 := hA.fr 2
  have u3 := hA.fr 3
  have hent := hA.ent
  rw [he] at hent
  obtain ⟨sb, cap, hve, hcell, _⟩ := hent.cell 0 (by simp)
  have HND := hid (h.ndg (g := g) (by simp))
  obtain ⟨p1, p2, p3, p4⟩ := LkG.parts HND.out
  have hsb : sb ≠ g.b := fun e => p1 (by rw [hve, ← e]; simp [fpv, Value.ownBlock])
  have hsb' : g.b ≠ sb := fun e => hsb e.symm
  rw [hve] at c3 hent
  rw [List.length_cons] at c3
  have hcell : w.cell? ⟨sb, 0, none⟩ = some (.int .i64 x) := hcell
  obtain ⟨n1, n2, n3, n4, n5⟩ := h.tb_ne
  have ct := h.c1
  have HVE := hid hve
  have HM := hid h
  have HA := hid hA
  have HE := hid he
  have HN := hid hent
  have P1 := hid p1
  have P2 := hid p2
  clear h hA hve he p1 p2 p3 p4 hent
  unfold ptrV
  simp only [] at ct
  go_enter Try.func28, Try.ntmps28
  go_wp2_with fail
  have AB := ((HA.out.set 0 (.int .i64 0) (L' := { g.L with owner := 0 }) HND.out rfl rfl rfl).set 1 (.int .i64 0) (L' := { g.L with owner := 0, count := 0 }) HND.out rfl rfl rfl).set 0 (.int .i64 x) (L' := { g.L with owner := x, count := 0 }) HND.out rfl rfl rfl
  have fB : Fr g.fp w (((w.setCell ⟨g.b, 0, none⟩ (.int .i64 0)).setCell ⟨g.b, 1, none⟩ (.int .i64 0)).setCell ⟨g.b, 0, none⟩ (.int .i64 x)) := LkAt.set_fr (LkAt.set_fr (LkAt.set_fr (Fr.refl _ _) 0 _) 1 _) 0 _
  generalize hW : ((w.setCell ⟨g.b, 0, none⟩ (.int .i64 0)).setCell ⟨g.b, 1, none⟩ (.int .i64 0)).setCell ⟨g.b, 0, none⟩ (.int .i64 x) = wB at AB fB
  have hentB := AB.ent
  rw [show (LkG.mk g.at' g.b g.ve g.vw { g.L with owner := x, count := 0 }).L.entry = x :: r from HE.out] at hentB
  rw [show (LkG.mk g.at' g.b g.ve g.vw { g.L with owner := x, count := 0 }).ve = _ from HVE.out] at hentB
  clear hW c0 c1 c2 c3 c4 u0 u1 u2 u3 hcell
  refine (delete_first wB _ x r hentB).mono ?_
  rintro e wD ⟨v', rfl, hs', fD, hfp', hsz'⟩
  obtain ⟨b0, b1, b2, b3, b4⟩ := AB.c
  have fD' : Fr (fpv g.ve) wB wD := by rw [HVE.out]; exact fD
  have k0 := fD'.cell b0 P1.out
  have k1 := fD'.cell b1 P1.out
  have k3 := fD'.cell b3 P1.out
  have q0 := fD'.frozen b0 (AB.fr 0) P1.out
  have q1 := fD'.frozen b1 (AB.fr 1) P1.out
  have q3 := fD'.frozen b3 (AB.fr 3) P1.out
  have hv2 : ∀ y ∈ fpv v', y ∈ fpv g.ve ∨ wB.heap.size ≤ y := fun y hy => .inl (by rw [HVE.out, ← hfp']; exact hy)
  obtain ⟨A0, fE, hnd, hfp⟩ := AB.newEnt HND.out hs' fD' hv2
  obtain ⟨av, cv, hv', _, _⟩ := hs'.form
  subst hv'
  have A1 := A0.set 1 (.int .i64 1) (L' := { g.L with owner := x, count := 1, entry := r }) hnd rfl rfl rfl
  have fE1 := fB.tr (LkAt.set_fr (g := g) fE 1 (.int .i64 1))
  have ctD := fB.cell ct n1
  have HAB := hid AB
  have HA1 := hid A1
  have HE1 := hid fE1
  have hfr : ∀ y ∈ LkG.fp ⟨g.at', g.b, .slice av r.length cv, g.vw, { g.L with owner := x, count := 1, entry := r }⟩, y ∈ g.fp ∨ w.heap.size ≤ y := fun y hy => (hfp y hy).imp id (fun h => Nat.le_trans fB.size h)
  have ME := HM.out.back fE1 A1 rfl rfl hfr hnd
  have ctE := fE1.cell ct n1
  have HME := hid ME
  have HFP := hid hfr
  have HNDE := hid hnd
  have HSB := hid (show wD.heap.size ≠ g.b from by have := AB.lt g.b (by simp [LkG.fp]); omega)
  clear A0 fE hnd hfp A1 fE1 hfr ME hs' fD hfp' hsz' fD' hv2 AB fB hentB b0 b1 b2 b3 b4 ct ctD
  simp only [] at k0 k1 k3
  go_wp2_with fail
  have hszE : ((wD.setCell ⟨g.b, 3, none⟩ (.slice av r.length cv)).setCell ⟨g.b, 1, none⟩ (.int .i64 1)).heap.size = wD.heap.size := by simp
  generalize hWE : (wD.setCell ⟨g.b, 3, none⟩ (.slice av r.length cv)).setCell ⟨g.b, 1, none⟩ (.int .i64 1) = wE at HA1 HE1 ctE HME hszE ⊢
  clear hWE k0 k1 k3 q0 q1 q3 HAB
  have fA : Fr [] wE (wE.alloc (.cells #[.int .i64 a, .int .i64 x] 68)) := (Fr.refl [] _).alloc _
  have hbl := heap_alloc_new wE (.cells #[.int .i64 a, .int .i64 x] 68)
  generalize hWF : wE.alloc (.cells #[.int .i64 a, .int .i64 x] 68) = wF at fA hbl ⊢
  clear hWF
  have z0 : wF.cell? ⟨wE.heap.size, 0, none⟩ = some (.int .i64 a) := by rw [cell_of_row _ _ _ _ _ _ hbl]; rfl
  have z1 : wF.cell? ⟨wE.heap.size, 1, none⟩ = some (.int .i64 x) := by rw [cell_of_row _ _ _ _ _ _ hbl]; rfl
  rw [hszE] at z0 z1
  have ctF := fA.cell ctE (by simp)
  have MF := HME.out.keep0 fA
  have hlk := (MF.keep0 (Fr.refl [] _).drew).cm.look (P := Try.prog) wk_keys und_count (z := .int .i64 0) (fun w => by kernel_rfl) (a, x) true
  have FA := hid fA
  have HMF := hid MF
  clear fA hbl ctE MF hszE
  simp only [keyW] at hlk
  rw [lget_vi] at hlk
  have AF := HA1.out.keep FA.out (by simp)
  obtain ⟨d0, d1, _, _, _⟩ := AF.c
  have e0 := AF.fr 0
  have e1 := AF.fr 1
  have HAF := hid AF
  clear AF
  simp only [] at d0 d1 e0 e1
  cases hg : lget cs (a, x) with
  | none =>
    rw [hg] at hlk
    have HG := hid (overL_none HE.out hg)
    simp only [Option.map_none, Option.getD_none, Option.isSome_none, if_true] at hlk
    clear hg
    go_region
    go_wp2_with fail
    go_ret
    rw [HG.out]
    exact ⟨rfl, ⟨g.at', g.b, .slice av r.length cv, g.vw, { g.L with owner := x, count := 1, entry := r }⟩, rfl, rfl, rfl, HMF.out.keep0 (((Fr.refl [] _).drew)), ((HE1.out.sub (fun y hy => .inl (List.mem_cons_of_mem _ hy))).tr (FA.out.sub (by simp))).drew, HFP.out⟩
  | some n =>
    rw [hg] at hlk
    have HG := hid (overL_some HE.out hg)
    simp only [Option.map_some, Option.getD_some, Option.isSome_some, if_true, vi] at hlk
    clear hg
    have AG := HAF.out.set 1 (.int .i64 n) (L' := { g.L with owner := x, count := n, entry := r }) HNDE.out rfl rfl rfl
    have fG : Fr (LkG.fp ⟨g.at', g.b, .slice av r.length cv, g.vw, { g.L with owner := x, count := 1, entry := r }⟩) wF (wF.setCell ⟨g.b, 1, none⟩ (.int .i64 n)) := (Fr.refl _ _).setCell (.inl (by simp [LkG.fp])) _
    have MG := (HMF.out.back fG AG rfl rfl (fun y hy => .inl hy) HNDE.out).keep0 (((Fr.refl [] _).drew).drew)
    obtain ⟨wH, hdel, hmH, fH, _⟩ := MG.cm.delete (P := Try.prog) (ty := 0) wk_keys und_count (a, x)
    have hdel2 : ∀ ty, (Builtin.delete_ #[59, 68] ty #[.map (some cb), .agg #[.int .i64 a, .int .i64 x]]).run Try.prog (wF.setCell ⟨g.b, 1, none⟩ (.int .i64 n)).drew.drew = .ok (.tuple #[]) wH := fun _ => hdel
    have f1 : Fr [g.b] wF (wF.setCell ⟨g.b, 1, none⟩ (.int .i64 n)) := (Fr.refl _ _).setCell (.inl (by simp)) _
    have z0G := f1.cell z0 (by simpa using HSB.out)
    have z1G := f1.cell z1 (by simpa using HSB.out)
    have ctG := f1.cell ctF (fun hm => n1 (by have e : tb = g.b := List.mem_singleton.1 hm; rw [e]; simp [LkG.fp]))
    have hcb : g.b ∉ [cb] := fun hm => n3 (by rw [← List.mem_singleton.1 hm]; simp [LkG.fp])
    have o0H : wH.cell? ⟨g.b, 0, none⟩ = some (.int .i64 x) := fH.cell (p := ⟨g.b, 0, none⟩) (v := .int .i64 x) AG.c.1 hcb
    have HMG := hid MG
    have HMH := hid hmH
    have FH := hid fH
    have FG := hid f1
    clear hdel AG fG MG hmH fH f1
    go_region
    go_wp2_with fail
    generalize hWG : wF.setCell ⟨g.b, 1, none⟩ (.int .i64 n) = wG at hdel2 z0G z1G ctG HMG HMH FH FG ⊢
    clear hWG d0 d1 e0 e1 z0 z1 ctF hlk
    go_region
    go_wp2_with fail
    go_ret
    rw [HG.out]
    refine ⟨rfl, ⟨g.at', g.b, .slice av r.length cv, g.vw, { g.L with owner := x, count := n, entry := r }⟩, rfl, rfl, rfl, ?_, ?_, HFP.out⟩
    · refine HMG.out.counts FH.out ?_
      have e : (ldel cs (a, x)).map (fun p => (p.1, vi p.2)) = ldel (cs.map (fun p => (p.1, vi p.2))) (a, x) := by unfold ldel; rw [List.filter_map]; rfl
      rw [e]; exact HMH.out
    · have fs : ∀ {S : List Nat} {u v : World}, Fr S u v → (∀ y ∈ S, y ∈ cb :: g.fp) → Fr (cb :: g.fp) u v := fun f hs => f.sub (fun y hy => .inl (hs y hy))
      exact ((((fs HE1.out (fun y hy => List.mem_cons_of_mem _ hy)).tr (fs FA.out (by simp))).tr (fs FG.out (by simp [LkG.fp]))).drew.drew).tr (fs FH.out (by simp))

theorem over_any {w : World} {tb mb cb : Nat} {g1 g2 : List LkG} {g : LkG} {cs : List ((Int × Int) × Int)} (h : MonT w ⟨tb, mb, cb, g1 ++ g :: g2⟩ cs) (a : Int) :
    Calls Try.prog 28 #[ptrV tb, .int .i64 a, ptrV g.b] w (OverPost w tb mb cb g1 g2 g (overL a g.L cs)) := by
  cases he : g.L.entry with
  | nil => exact over_nil h a he
  | cons x r => exact over_cons h a x r he

end Go.Proofs.Ythdmgjkipiaccaa
