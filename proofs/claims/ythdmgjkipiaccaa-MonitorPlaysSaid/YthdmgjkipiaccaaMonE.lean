/-
  Package monitor: Enter.
-/
import Derived.Test.YthdmgjkipiaccaaMonD
namespace Go.Proofs.Ythdmgjkipiaccaa
open Go.RowKit

theorem gs_any {T : PT} {gs : List LkG} (h : T.ls = gs.map (fun g => (g.at', g.L))) (t : Int) : gs.any (fun g => g.L.has t) = T.stands t := by
  unfold PT.stands; rw [h, List.any_map]; rfl

/-- not let in: a wrong number, or it stands already -/
theorem enter_no {w : World} {p : Value} {F : List Nat} {T : PT} (h : Mon w p F T) (a t : Int) (hno : a < 1 ∨ t < 1 ∨ T.stands t = true) :
    Calls Try.prog 10 #[p, .int .i64 a, .int .i64 t] w (OpPost w p F (.tuple #[.bool false, .int .i64 130]) T) := by
  have HM := hid h
  obtain ⟨l, rfl, rfl, hls, hm⟩ := h
  have HS := hid (stands_any hm t)
  rw [gs_any hls] at HS
  clear hm hls
  unfold ptrV at HS HM ⊢
  by_cases h1 : a < 1
  · clear hno
    go_enter Try.func10, Try.ntmps10
    go_wp2_with fail
    go_ret2
    exact ⟨rfl, Moved.stay HM.out (Fr.refl _ _)⟩
  · have hb1 : decide (a < 1) = false := by simpa using h1
    by_cases h2 : t < 1
    · have H1 := hid h1
      clear hno h1
      go_enter Try.func10, Try.ntmps10
      go_wp2_with fail
      go_ret2
      exact ⟨rfl, Moved.stay HM.out (Fr.refl _ _)⟩
    · have hb2 : decide (t < 1) = false := by simpa using h2
      have hst : T.stands t = true := by rcases hno with h | h | h; exact absurd h h1; exact absurd h h2; exact h
      rw [hst] at HS
      have H1 := hid h1
      have H2 := hid h2
      clear hno h1 h2 hst
      go_enter Try.func10, Try.ntmps10
      go_wp2_with fail
      refine HS.out.mono ?_
      rintro e w1 ⟨rfl, f1⟩
      go_wp2_with fail
      go_ret2
      exact ⟨rfl, Moved.stay HM.out f1⟩

/-- one lock was changed, behind a call that changed nothing -/
theorem moved_fin {w w1 w2 : World} {tb mb cb : Nat} {g1 g2 : List LkG} {g g' : LkG} {cs : List ((Int × Int) × Int)} {T : PT} (h : MonT w ⟨tb, mb, cb, g1 ++ g :: g2⟩ cs) (hls : T.ls = (g1 ++ g :: g2).map (fun g => (g.at', g.L))) (hcs : T.cs = cs)
    (f1 : Fr [] w w1) (f : Fr g.fp w1 w2) (hA : LkAt w2 g') (hb : g'.b = g.b) {a : Int} (hg : g.at' = a) (hg' : g'.at' = a) (hfp : ∀ x ∈ g'.fp, x ∈ g.fp ∨ w1.heap.size ≤ x) (hnd : g'.fp.Nodup) :
    Moved w w2 (ptrV tb) (Lies.mk tb mb cb (g1 ++ g :: g2)).fp ⟨lput T.ls a g'.L, T.cs⟩ := by
  have hm2 := (h.keep0 f1).back f hA (hg'.trans hg.symm) hb hfp hnd
  rw [hcs]
  exact h.moved hls hm2 hg hg' (fr_mid ((f1.sub (by simp)).tr f)) (fun x hx => (hfp x hx).imp id (fun h => Nat.le_trans f1.size h))

/-- the lock is there -/
theorem enter_old {w : World} {tb mb cb : Nat} {g1 g2 : List LkG} {g : LkG} {cs : List ((Int × Int) × Int)} {T : PT} {n : Nat} (h : MonT w ⟨tb, mb, cb, g1 ++ g :: g2⟩ cs) (hls : T.ls = (g1 ++ g :: g2).map (fun g => (g.at', g.L))) (hcs : T.cs = cs)
    (hsm : g.L.small n) (hn : n ≤ 100000) (a t : Int) (h1 : ¬ a < 1) (h2 : ¬ t < 1) (hst : T.stands t = false) (hat : g.at' = a) (hl : lget ((g1 ++ g :: g2).map (fun g => (g.at', ptrV g.b))) a = some (ptrV g.b)) :
    Calls Try.prog 10 #[ptrV tb, .int .i64 a, .int .i64 t] w (OpPost w (ptrV tb) (Lies.mk tb mb cb (g1 ++ g :: g2)).fp (.tuple #[.bool (g.L.enter t).1, .int .i64 0]) ⟨lput T.ls a (g.L.enter t).2, T.cs⟩) := by
  have HS := hid (stands_any h t)
  rw [gs_any hls, hst] at HS
  have HM := hid h
  have HL := hid hls
  have HC := hid hcs
  have HAT := hid hat
  have HLG := hid hl
  have hb1 : decide (a < 1) = false := by simpa using h1
  have hb2 : decide (t < 1) = false := by simpa using h2
  have H1 := hid h1
  have H2 := hid h2
  have HSM := hid hsm
  have HND := hid (h.ndg (g := g) (by simp))
  clear h hls hcs h1 h2 hst hat hl hsm
  unfold ptrV at HS ⊢
  go_enter Try.func10, Try.ntmps10
  go_wp2_with fail
  refine HS.out.mono ?_
  rintro e w1 ⟨rfl, f1⟩
  have hm1 := HM.out.keep0 f1
  have hc0 := hm1.c0
  have hk := hm1.look a
  rw [show lget _ a = some (ptrV g.b) from HLG.out] at hk
  have hA := hm1.lks g (by simp)
  obtain ⟨c0, c1, c2, c3, c4⟩ := hA.c
  have u0 := hA.fr 0
  have u1 := hA.fr 1
  have u2 := hA.fr 2
  have u3 := hA.fr 3
  have HM1 := hid hm1
  have HA := hid hA
  have F1 := hid f1
  clear hm1 hA f1
  simp only [Option.getD_some] at hk
  unfold ptrV at hk
  simp only [] at hc0 hk
  obtain ⟨o, ho⟩ : ∃ o, o = g.L.owner := ⟨_, rfl⟩
  rw [← ho] at c0
  have HO := hid ho
  clear ho
  by_cases e0 : o = 0
  · subst e0
    go_wp2_with fail
    go_ret2
    have e : g.L.enter t = (true, { g.L with owner := t, count := 1 }) := by unfold PLk.enter; rw [if_pos HO.out.symm]
    rw [e]
    refine ⟨rfl, ?_⟩
    have A1 := HA.out.set 0 (.int .i64 t) (L' := { g.L with owner := t }) HND.out rfl rfl rfl
    have A2 := A1.set 1 (.int .i64 1) (L' := { g.L with owner := t, count := 1 }) HND.out rfl rfl rfl
    exact moved_fin HM.out HL.out HC.out F1.out (LkAt.set_fr (LkAt.set_fr (Fr.refl _ _) 0 _) 1 _) A2 rfl HAT.out HAT.out (fun x hx => .inl hx) HND.out
  · have hb3 : (o == 0) = false := by simpa using e0
    by_cases e1 : o = t
    · subst e1
      have hc1 := HSM.out.2.1
      have hc2 := HSM.out.2.2
      obtain ⟨c, hc⟩ : ∃ c, c = g.L.count := ⟨_, rfl⟩
      rw [← hc] at c1 hc1 hc2
      have hc3 : c ≤ 100000 := by omega
      have hc4 : c + 1 ≤ 100001 := by omega
      obtain ⟨ft, hft⟩ : ∃ ft, ft = g.L.fat := ⟨_, rfl⟩
      rw [← hft] at c2
      have HCT := hid hc
      have HFT := hid hft
      have E0 := hid e0
      clear hc hft hc2 hn e0
      by_cases e3 : 3 < c + 1
      · have h3 : decide (3 < c + 1) = true := by simpa using e3
        have E3 := hid e3
        clear e3
        have e : g.L.enter o = (true, { g.L with count := c + 1, fat := true }) := by
          unfold PLk.enter
          rw [if_neg (by rw [← HO.out]; exact E0.out), if_pos HO.out.symm, ← HCT.out, decide_eq_true E3.out, Bool.or_true]
        have A1 := HA.out.set 1 (.int .i64 (c + 1)) (L' := { g.L with count := c + 1 }) HND.out rfl rfl rfl
        have A2 := A1.set 2 (.bool true) (L' := { g.L with count := c + 1, fat := true }) HND.out rfl rfl rfl
        have FIN := hid (moved_fin HM.out HL.out HC.out F1.out (LkAt.set_fr (LkAt.set_fr (Fr.refl _ _) 1 _) 2 _) A2 rfl HAT.out HAT.out (fun x hx => .inl hx) HND.out)
        have EE := hid e
        clear A1 A2 e
        cases ft with
        | true =>
          go_wp2_with fail
          go_ret2
          rw [EE.out]
          exact ⟨rfl, FIN.out⟩
        | false =>
          go_wp2_with fail
          go_ret2
          rw [EE.out]
          exact ⟨rfl, FIN.out⟩
      · have h3 : decide (3 < c + 1) = false := by simpa using e3
        have E3 := hid e3
        clear e3
        have fin : ∀ w2 b', b' = ft → w2 = (w1.setCell ⟨g.b, 1, none⟩ (.int .i64 (c + 1))).setCell ⟨g.b, 2, none⟩ (.bool b') → Moved w w2 (ptrV tb) (Lies.mk tb mb cb (g1 ++ g :: g2)).fp ⟨lput T.ls a (g.L.enter o).2, T.cs⟩ ∧ (g.L.enter o).1 = true := by
          rintro w2 b' rfl rfl
          have e : g.L.enter o = (true, { g.L with count := c + 1, fat := b' }) := by
            unfold PLk.enter
            rw [if_neg (by rw [← HO.out]; exact E0.out), if_pos HO.out.symm, ← HCT.out, h3, Bool.or_false, ← HFT.out]
          rw [e]
          refine ⟨?_, rfl⟩
          have A1 := HA.out.set 1 (.int .i64 (c + 1)) (L' := { g.L with count := c + 1 }) HND.out rfl rfl rfl
          have A2 := A1.set 2 (.bool b') (L' := { g.L with count := c + 1, fat := b' }) HND.out rfl rfl rfl
          exact moved_fin HM.out HL.out HC.out F1.out (LkAt.set_fr (LkAt.set_fr (Fr.refl _ _) 1 _) 2 _) A2 rfl HAT.out HAT.out (fun x hx => .inl hx) HND.out
        have FIN := hid fin
        clear fin
        cases ft with
        | true =>
          go_wp2_with fail
          go_ret2
          obtain ⟨f1, f2⟩ := FIN.out _ _ rfl rfl
          rw [f2]; exact ⟨rfl, f1⟩
        | false =>
          go_wp2_with fail
          go_ret2
          obtain ⟨f1, f2⟩ := FIN.out _ _ rfl rfl
          rw [f2]; exact ⟨rfl, f1⟩
    · have hb4 : (o == t) = false := by simpa using e1
      have E0 := hid e0
      have E1 := hid e1
      have hlen := HSM.out.1
      have hlen2 : g.L.entry.length ≤ 1000000 := by omega
      have HLEN := hid hlen2
      obtain ⟨hp1, hp2, hp3, hp4⟩ := LkG.parts HND.out
      have HP := hid hp3
      clear hlen e0 e1 hlen2 hn hp2 hp3 hp4
      go_wp2_with (at_builtin; go_loud (refine wpList_append_sli rfl _ _ rfl g.ve g.L.entry rfl (HA.out.ent.keep0 ((Fr.refl _ _).alloc _)) ⟨w1.heap.size, 0, none⟩ t rfl (cell_one_new w1 (.int .i64 t) 3 0 _ rfl) HLEN.out ?_; intro v' w2 hs2 f2 hv2; obtain ⟨av, cv, rfl, _, _⟩ := hs2.form; have fA : Fr (fpv g.ve) w1 w2 := (((Fr.refl [] w1).alloc _).sub (by simp)).tr f2; have k2 := fA.cell c2 hp1; have k3 := fA.cell c3 hp1; have q2 := fA.frozen c2 u2 hp1; have q3 := fA.frozen c3 u3 hp1; have HS2 := hid hs2; have FA := hid fA; have HV2 := hid hv2; clear hs2 f2 fA hv2))
      go_ret2
      have e : g.L.enter t = (false, { g.L with entry := g.L.entry ++ [t], fat := true }) := by
        unfold PLk.enter
        rw [if_neg (by rw [← HO.out]; exact E0.out), if_neg (by rw [← HO.out]; exact E1.out)]
      rw [e]
      refine ⟨rfl, ?_⟩
      have hvN : ∀ x ∈ fpv (.slice av (g.L.entry ++ [t]).length cv), x ∈ fpv g.ve ∨ w1.heap.size ≤ x := fun x hx => (HV2.out x hx).imp id (fun h => by rw [World.size_alloc] at h; omega)
      obtain ⟨A0, fB, hnd, hfp⟩ := HA.out.newEnt HND.out HS2.out FA.out hvN
      have A2 := A0.set 2 (.bool true) (L' := { g.L with entry := g.L.entry ++ [t], fat := true }) hnd rfl rfl rfl
      have hf := moved_fin HM.out HL.out HC.out F1.out (LkAt.set_fr fB 2 (.bool true)) A2 rfl HAT.out HAT.out hfp hnd
      simp only [List.length_append, List.length_singleton] at hf
      exact hf

end Go.Proofs.Ythdmgjkipiaccaa
