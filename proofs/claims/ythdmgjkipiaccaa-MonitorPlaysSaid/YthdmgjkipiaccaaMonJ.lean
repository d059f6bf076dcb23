/-
  Package monitor: Notify.
-/
import Derived.Test.YthdmgjkipiaccaaMonI2
namespace Go.Proofs.Ythdmgjkipiaccaa
open Go.RowKit

set_option maxHeartbeats 1000000 in
theorem notify_any {w : World} {p : Value} {F : List Nat} {T : PT} {n : Nat} (h : Mon w p F T) (hs : T.Small n) (hn : n ≤ 100000) (a t : Int) (all : Bool) :
    Calls Try.prog 15 #[p, .int .i64 a, .int .i64 t, .bool all] w (OpPost w p F (.tuple #[.int .i64 (T.notify a t all).1.1, .int .i64 (T.notify a t all).1.2]) (T.notify a t all).2) := by
  have HM0 := hid h
  obtain ⟨⟨tb, mb, cb, gs⟩, rfl, rfl, hls, hm⟩ := h
  simp only [] at hls HM0 ⊢
  rcases owned_mon hm hls a t with ⟨he, ho⟩ | ⟨g1, g, g2, rfl, he, hat, hmem, ht, how, ho⟩
  · have e : T.notify a t all = ((0, 130), T) := by unfold PT.notify; rw [he]
    rw [e]
    have HO := hid ho
    clear he ho e hm hls hs hn
    unfold ptrV OwnedFn at *
    go_enter Try.func15, Try.ntmps15
    go_wp2_with fail
    refine wp_scope_L 0 (fun _ _ _ => False) rfl (fun _ _ _ h => h.elim) ?_
    intro hp
    go_wp2_with fail
    refine HO.out.mono ?_
    rintro e w1 ⟨rfl, rfl⟩
    go_wp2_with fail
    simp only [Exit.jump]
    go_ret2
    exact ⟨rfl, Moved.stay HM0.out (Fr.refl _ _)⟩
  · have HSM := hid (hs.ls a _ hmem)
    have HO := hid ho
    have HE := hid he
    have HM := hid hm
    have HL := hid hls
    have HAT := hid hat
    clear ho he hm hls hat hs hmem how
    unfold OwnedFn ptrV at *
    go_enter Try.func15, Try.ntmps15
    go_wp2_with fail
    refine wp_scope_L 0 (fun m a' w' => ∃ (k : Nat) (gk : LkG) (u12 u13 u14 u15 u16 u17 u18 u19 u20 u21 u22 u23 u24 u25 u26 u27 u28 u29 u30 u31 u32 u33 u34 u35 u36 u37 u38 u39 u40 u41 u42 u43 u44 u45 u46 u47 u48 u49 u50 u51 u52 u53 u54 u55 u56 u57 : Value), a' = { tmps := #[.pointer (some ⟨tb, 0, none⟩), .int .i64 a, .int .i64 t, .bool all, undef, undef, undef, undef, .int .i64 0, .int .i64 0, .pointer (some ⟨g.b, 0, none⟩), .int .i64 k, u12, u13, u14, u15, u16, u17, u18, u19, u20, u21, u22, u23, u24, u25, u26, u27, u28, u29, u30, u31, u32, u33, u34, u35, u36, u37, u38, u39, u40, u41, u42, u43, u44, u45, u46, u47, u48, u49, u50, u51, u52, u53, u54, u55, u56, u57], defers := [] } ∧ m + k = g.L.wait.length ∧ NRel w w' tb mb cb g1 g2 g T.cs k gk ∧ (all = false → k ≤ 1)) rfl ?_ ?_
    · rintro m a' wk ⟨k, gk, u12, u13, u14, u15, u16, u17, u18, u19, u20, u21, u22, u23, u24, u25, u26, u27, u28, u29, u30, u31, u32, u33, u34, u35, u36, u37, u38, u39, u40, u41, u42, u43, u44, u45, u46, u47, u48, u49, u50, u51, u52, u53, u54, u55, u56, u57, rfl, hmk, hrel, hone⟩
      have hA := hrel.mon.lks gk (by simp)
      obtain ⟨c0, c1, c2, c3, c4⟩ := hA.c
      have u3 := hA.fr 3
      have u4 := hA.fr 4
      have hwl : gk.L.wait.length = g.L.wait.length - k := by rw [hrel.L]; simp
      obtain ⟨aw, cw, hvw, _, _⟩ := hA.wai.form
      have hgb := hrel.b
      rw [hvw, hwl] at c4
      rw [hgb] at c0 c1 c2 c3 c4 u3 u4
      have HREL := hid hrel
      have HK := hid hmk
      have HONE := hid hone
      have HVW := hid hvw
      have HAK := hid hA
      have HWL := hid hwl
      have HGB := hid hgb
      have hend : ∀ (w' : World), wk = w' → (k = g.L.wait.length ∨ (all = false ∧ k = 1)) → OpPost w (ptrV tb) (Lies.mk tb mb cb (g1 ++ g :: g2)).fp (.tuple #[.int .i64 (T.notify a t all).1.1, .int .i64 (T.notify a t all).1.2]) (T.notify a t all).2 (.returned (.tuple #[.int .i64 k, .int .i64 0])) w' := by
        rintro w' rfl hk
        have e : T.notify a t all = ((((g.L.notified all).1 : Int), 0), { T with ls := lput T.ls a (g.L.notified all).2 }) := by unfold PT.notify; rw [HE.out]
        rw [e, notified_end hk (by have := HK.out; omega) HONE.out, ← HREL.out.L]
        exact ⟨rfl, HM.out.moved HL.out HREL.out.mon HAT.out (HREL.out.at'.trans HAT.out) (fr_mid HREL.out.fr) HREL.out.fp⟩
      have HEND := hid hend
      clear hrel hmk hone hvw hA hwl hgb hend
      obtain ⟨r, hr⟩ : ∃ r, r = g.L.wait.length - k := ⟨_, rfl⟩
      rw [← hr] at c4 HWL
      have HR := hid hr
      clear hr
      cases r with
      | zero =>
        go_wp2_with fail
        simp only [Exit.jump]
        go_ret2
        exact HEND.out _ rfl (.inl (by have := HK.out; have := HR.out; omega))
      | succ r =>
        have hgo : (all = false ∧ k = 1) ∨ (all = false ∧ k = 0) ∨ (all = true ∧ k = 1) ∨ (all = true ∧ ((k : Int) == 1) = false ∧ Hid (k ≠ 1)) := by
          cases all with
          | false =>
            have := HONE.out rfl
            by_cases h : k = 1
            · exact .inl ⟨rfl, h⟩
            · exact .inr (.inl ⟨rfl, by omega⟩)
          | true =>
            by_cases h : k = 1
            · exact .inr (.inr (.inl ⟨rfl, h⟩))
            · exact .inr (.inr (.inr ⟨rfl, by simpa using (by omega : ¬ (k : Int) = 1), hid h⟩))
        rcases hgo with ⟨rfl, rfl⟩ | hgo
        · go_wp2_with fail
          simp only [Exit.jump]
          go_ret2
          exact HEND.out _ rfl (.inr (by simp))
        · have hklt : k < g.L.wait.length := by have := HR.out; omega
          have hwk : gk.L.wait = g.L.wait.getD k 0 :: g.L.wait.drop (k + 1) := by rw [HREL.out.L]; exact drop_cons hklt
          have hwai := HAK.out.wai
          rw [hwk] at hwai
          obtain ⟨sb, cap, hvw, hcell0, _⟩ := hwai.cell 0 (by simp)
          have hcell : wk.cell? ⟨sb, 0, none⟩ = some (.int .i64 (g.L.wait.getD k 0)) := hcell0
          clear hcell0
          have ev := HVW.out.symm.trans hvw
          injection ev with ev1 ev2 ev3
          subst ev1
          have HNDK := hid (HREL.out.mon.ndg (g := gk) (by simp))
          obtain ⟨p1, p2, p3, p4⟩ := LkG.parts HNDK.out
          rw [HGB.out] at p1 p2
          have hle : gk.L.entry.length ≤ 1000000 := by
            have := HSM.out.1; rw [HREL.out.L]; simp; omega
          have HLE := hid hle
          have HWAI := hid hwai
          have HKLT := hid hklt
          have HP1 := hid p1
          have HP2 := hid p2
          obtain ⟨x, hx⟩ : ∃ x, x = g.L.wait.getD k 0 := ⟨_, rfl⟩
          rw [← hx] at hcell
          have HX := hid hx
          have HNN := hid hn
          clear hn
          have k3a := ((Fr.refl [] wk).alloc (.cells #[.int .i64 x] 3)).cell c3 (by simp)
          have k4a := ((Fr.refl [] wk).alloc (.cells #[.int .i64 x] 3)).cell c4 (by simp)
          have hcella := ((Fr.refl [] wk).alloc (.cells #[.int .i64 x] 3)).cell hcell (by simp)
          clear hx hklt hwk hwai hvw p1 p2 p3 p4 hle ev2 ev3
          rcases hgo with ⟨rfl, rfl⟩ | ⟨rfl, rfl⟩ | ⟨rfl, hk1, HK1⟩
          · go_wp2_with fail
            go_region_law (refine step_append_sli rfl (.tmp 37) (.tmp 44) rfl gk.ve gk.L.entry (by simp [Act.eval]) (HAK.out.ent.keep0 (by first | exact ((Fr.refl [] wk).drew.alloc _) | exact ((Fr.refl [] wk).alloc _).drew)) ⟨wk.heap.size, 0, none⟩ x (by simp [Act.eval]) (cell_one_new wk (.int .i64 x) 3 0 _ rfl) HLE.out ?_; intro gg cap2 w2 hs2 f2 hv2; have fA : Fr (fpv gk.ve) wk w2 := (((Fr.refl [] wk).alloc (.cells #[.int .i64 x] 3)).drew.sub (by simp)).tr f2; have k3 := fA.cell c3 HP1.out; have k4 := fA.cell c4 HP1.out; have q3 := fA.frozen c3 u3 HP1.out; have q4 := fA.frozen c4 u4 HP1.out; have HS2 := hid hs2; have FA := hid fA; have HV2 := hid hv2; clear hs2 f2 fA hv2)
            all_goals
              have hv2' : ∀ y ∈ fpv (.slice (some ⟨gg, 0, none⟩) (gk.L.entry.length + 1) cap2), y ∈ fpv gk.ve ∨ wk.heap.size ≤ y := fun y hy => by
                simp only [fpv, Value.ownBlock, Option.toList_some, List.mem_singleton] at hy
                subst hy
                exact HV2.out.imp id (fun h => by
                  have h2 : (wk.alloc (.cells #[.int .i64 x] 3)).heap.size ≤ y := h
                  rw [World.size_alloc] at h2; omega)
              obtain ⟨n1, n2, n3, n4, n5⟩ := notify_step HREL.out HKLT.out HX.out HS2.out FA.out hv2'
              have hvw2 : gk.vw = .slice (some ⟨sb, 0, none⟩) (r + 1) cw := by rw [HVW.out, HWL.out]
              rw [hvw2] at n1 n2 n4 n5
              have HN1 := hid n1
              have HN5 := hid n5
              have HN4 := hid n4
              have n2' := hid n2
              have n3' := hid n3
              clear n1 n5 n4 hv2' hvw2
              go_wp2_with fail
              refine (delete_first _ _ x _ HN1.out).mono ?_
              rintro e wD ⟨v2, rfl, hs3, fD, hfp3, _⟩
              have k4D := fD.cell n2'.out HN4.out
              have q4D := fD.frozen n2'.out n3'.out HN4.out
              obtain ⟨a3, cc3, rfl, _, _⟩ := hs3.form
              obtain ⟨gk2, hrel2⟩ := HN5.out wD _ hs3 fD hfp3
              rw [List.length_drop] at hrel2
              have HREL2 := hid hrel2
              clear hs3 fD hfp3 hrel2 n2 n3 k3 k4 q3 q4
              go_wp2_with fail
              go_step3
              exact ⟨rfl, m - 1, by have := HK.out; have := HKLT.out; omega, 0 + 1, gk2, _, _, _, _, _, _, _, _, _, _, _, _, _, _, _, _, _, _, _, _, _, _, _, _, _, _, _, _, _, _, _, _, _, _, _, _, _, _, _, _, _, _, _, _, _, _, rfl, by have := HK.out; have := HKLT.out; omega, HREL2.out, fun _ => by omega⟩
          · go_wp2_with fail
            go_region_law (refine step_append_sli rfl (.tmp 37) (.tmp 44) rfl gk.ve gk.L.entry (by simp [Act.eval]) (HAK.out.ent.keep0 (by first | exact ((Fr.refl [] wk).drew.alloc _) | exact ((Fr.refl [] wk).alloc _).drew)) ⟨wk.heap.size, 0, none⟩ x (by simp [Act.eval]) (cell_one_new wk (.int .i64 x) 3 0 _ rfl) HLE.out ?_; intro gg cap2 w2 hs2 f2 hv2; have fA : Fr (fpv gk.ve) wk w2 := (((Fr.refl [] wk).alloc (.cells #[.int .i64 x] 3)).drew.sub (by simp)).tr f2; have k3 := fA.cell c3 HP1.out; have k4 := fA.cell c4 HP1.out; have q3 := fA.frozen c3 u3 HP1.out; have q4 := fA.frozen c4 u4 HP1.out; have HS2 := hid hs2; have FA := hid fA; have HV2 := hid hv2; clear hs2 f2 fA hv2)
            all_goals
              have hv2' : ∀ y ∈ fpv (.slice (some ⟨gg, 0, none⟩) (gk.L.entry.length + 1) cap2), y ∈ fpv gk.ve ∨ wk.heap.size ≤ y := fun y hy => by
                simp only [fpv, Value.ownBlock, Option.toList_some, List.mem_singleton] at hy
                subst hy
                exact HV2.out.imp id (fun h => by
                  have h2 : (wk.alloc (.cells #[.int .i64 x] 3)).heap.size ≤ y := h
                  rw [World.size_alloc] at h2; omega)
              obtain ⟨n1, n2, n3, n4, n5⟩ := notify_step HREL.out HKLT.out HX.out HS2.out FA.out hv2'
              have hvw2 : gk.vw = .slice (some ⟨sb, 0, none⟩) (r + 1) cw := by rw [HVW.out, HWL.out]
              rw [hvw2] at n1 n2 n4 n5
              have HN1 := hid n1
              have HN5 := hid n5
              have HN4 := hid n4
              have n2' := hid n2
              have n3' := hid n3
              clear n1 n5 n4 hv2' hvw2
              go_wp2_with fail
              refine (delete_first _ _ x _ HN1.out).mono ?_
              rintro e wD ⟨v2, rfl, hs3, fD, hfp3, _⟩
              have k4D := fD.cell n2'.out HN4.out
              have q4D := fD.frozen n2'.out n3'.out HN4.out
              obtain ⟨a3, cc3, rfl, _, _⟩ := hs3.form
              obtain ⟨gk2, hrel2⟩ := HN5.out wD _ hs3 fD hfp3
              rw [List.length_drop] at hrel2
              have HREL2 := hid hrel2
              clear hs3 fD hfp3 hrel2 n2 n3 k3 k4 q3 q4
              go_wp2_with fail
              go_step3
              exact ⟨rfl, m - 1, by have := HK.out; have := HKLT.out; omega, 1 + 1, gk2, _, _, _, _, _, _, _, _, _, _, _, _, _, _, _, _, _, _, _, _, _, _, _, _, _, _, _, _, _, _, _, _, _, _, _, _, _, _, _, _, _, _, _, _, _, _, rfl, by have := HK.out; have := HKLT.out; omega, HREL2.out, fun h => by cases h⟩
          · have hkb : (k : Int) ≤ 100000 := by have := HSM.out.1; have := HKLT.out; have := HNN.out; omega
            have hkc : (0 : Int) ≤ k := by omega
            go_wp2_with fail
            go_region_law (refine step_append_sli rfl (.tmp 37) (.tmp 44) rfl gk.ve gk.L.entry (by simp [Act.eval]) (HAK.out.ent.keep0 (by first | exact ((Fr.refl [] wk).drew.alloc _) | exact ((Fr.refl [] wk).alloc _).drew)) ⟨wk.heap.size, 0, none⟩ x (by simp [Act.eval]) (cell_one_new wk (.int .i64 x) 3 0 _ rfl) HLE.out ?_; intro gg cap2 w2 hs2 f2 hv2; have fA : Fr (fpv gk.ve) wk w2 := (((Fr.refl [] wk).alloc (.cells #[.int .i64 x] 3)).drew.sub (by simp)).tr f2; have k3 := fA.cell c3 HP1.out; have k4 := fA.cell c4 HP1.out; have q3 := fA.frozen c3 u3 HP1.out; have q4 := fA.frozen c4 u4 HP1.out; have HS2 := hid hs2; have FA := hid fA; have HV2 := hid hv2; clear hs2 f2 fA hv2)
            all_goals
              have hv2' : ∀ y ∈ fpv (.slice (some ⟨gg, 0, none⟩) (gk.L.entry.length + 1) cap2), y ∈ fpv gk.ve ∨ wk.heap.size ≤ y := fun y hy => by
                simp only [fpv, Value.ownBlock, Option.toList_some, List.mem_singleton] at hy
                subst hy
                exact HV2.out.imp id (fun h => by
                  have h2 : (wk.alloc (.cells #[.int .i64 x] 3)).heap.size ≤ y := h
                  rw [World.size_alloc] at h2; omega)
              obtain ⟨n1, n2, n3, n4, n5⟩ := notify_step HREL.out HKLT.out HX.out HS2.out FA.out hv2'
              have hvw2 : gk.vw = .slice (some ⟨sb, 0, none⟩) (r + 1) cw := by rw [HVW.out, HWL.out]
              rw [hvw2] at n1 n2 n4 n5
              have HN1 := hid n1
              have HN5 := hid n5
              have HN4 := hid n4
              have n2' := hid n2
              have n3' := hid n3
              clear n1 n5 n4 hv2' hvw2
              go_wp2_with fail
              refine (delete_first _ _ x _ HN1.out).mono ?_
              rintro e wD ⟨v2, rfl, hs3, fD, hfp3, _⟩
              have k4D := fD.cell n2'.out HN4.out
              have q4D := fD.frozen n2'.out n3'.out HN4.out
              obtain ⟨a3, cc3, rfl, _, _⟩ := hs3.form
              obtain ⟨gk2, hrel2⟩ := HN5.out wD _ hs3 fD hfp3
              rw [List.length_drop] at hrel2
              have HREL2 := hid hrel2
              clear hs3 fD hfp3 hrel2 n2 n3 k3 k4 q3 q4
              go_wp2_with fail
              go_step3
              exact ⟨rfl, m - 1, by have := HK.out; have := HKLT.out; omega, k + 1, gk2, _, _, _, _, _, _, _, _, _, _, _, _, _, _, _, _, _, _, _, _, _, _, _, _, _, _, _, _, _, _, _, _, _, _, _, _, _, _, _, _, _, _, _, _, _, _, rfl, by have := HK.out; have := HKLT.out; omega, HREL2.out, fun h => by cases h⟩
    · intro hp
      go_wp2_with fail
      refine HO.out.mono ?_
      rintro e w1 ⟨rfl, rfl⟩
      go_wp2_with fail
      rename_i K hK
      go_step3
      exact hK _ _ (hp _ _ _ ⟨0, g, _, _, _, _, _, _, _, _, _, _, _, _, _, _, _, _, _, _, _, _, _, _, _, _, _, _, _, _, _, _, _, _, _, _, _, _, _, _, _, _, _, _, _, _, _, _, rfl, Nat.add_zero _, ⟨rfl, rfl, by simp, HM.out, Fr.refl _ _, fun x hx => .inl hx⟩, fun _ => by omega⟩)

end Go.Proofs.Ythdmgjkipiaccaa
