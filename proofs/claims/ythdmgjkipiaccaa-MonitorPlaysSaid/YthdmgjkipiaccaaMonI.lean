/-
  Package monitor: Wait.
-/
import Derived.Test.YthdmgjkipiaccaaMonG
namespace Go.Proofs.Ythdmgjkipiaccaa
open Go.RowKit

theorem lput_map_vi {K : Type} [DecidableEq K] (cs : List (K × Int)) (k : K) (c : Int) : lput (cs.map (fun p => (p.1, vi p.2))) k (vi c) = (lput cs k c).map (fun p => (p.1, vi p.2)) := by
  unfold lput
  have e : (cs.map (fun p => (p.1, vi p.2))).any (fun p => decide (p.1 = k)) = cs.any (fun p => decide (p.1 = k)) := by rw [List.any_map]; rfl
  rw [e]
  split
  · rw [List.map_map, List.map_map]
    apply List.map_congr_left
    intro p _
    by_cases h : p.1 = k <;> simp [h]
  · simp

set_option maxHeartbeats 1000000 in
theorem wait_any {w : World} {p : Value} {F : List Nat} {T : PT} {n : Nat} (h : Mon w p F T) (hs : T.Small n) (hn : n ≤ 100000) (a t : Int) :
    Calls Try.prog 14 #[p, .int .i64 a, .int .i64 t] w (OpPost w p F (.tuple #[.int .i64 (T.wait a t).1.1, .int .i64 (T.wait a t).1.2]) (T.wait a t).2) := by
  have HM0 := hid h
  obtain ⟨⟨tb, mb, cb, gs⟩, rfl, rfl, hls, hm⟩ := h
  simp only [] at hls HM0 ⊢
  rcases owned_mon hm hls a t with ⟨he, ho⟩ | ⟨g1, g, g2, rfl, he, hat, hmem, ht, how, ho⟩
  · have e : T.wait a t = ((0, 130), T) := by unfold PT.wait; rw [he]
    rw [e]
    have HO := hid ho
    clear he ho e hm hls hs hn
    unfold ptrV OwnedFn at *
    go_enter Try.func14, Try.ntmps14
    go_wp2_with fail
    refine HO.out.mono ?_
    rintro e w1 ⟨rfl, rfl⟩
    go_wp2_with fail
    go_ret2
    exact ⟨rfl, Moved.stay HM0.out (Fr.refl _ _)⟩
  · have hsm := hs.ls a _ hmem
    have hA := hm.lks g (by simp)
    have HND := hid (hm.ndg (g := g) (by simp))
    obtain ⟨c0, c1, c2, c3, c4⟩ := hA.c
    have ct := hm.c1
    obtain ⟨n1, n2, n3, n4, n5⟩ := hm.tb_ne
    obtain ⟨wU, hup, hmU, fU, hzU⟩ := (hm.keep0 (Fr.refl [] _).drew).cm.store (P := Try.prog) wk_keys und_count (a, t) (vi g.L.count)
    rw [lput_map_vi] at hmU
    have MU := hid ((hm.keep0 (Fr.refl [] _).drew).counts fU hmU)
    have FU : Fr [cb] w wU := ((Fr.refl [cb] w).drew).tr fU
    have hcb : g.b ∉ [cb] := fun h => n3 (by rw [← List.mem_singleton.1 h]; simp [LkG.fp])
    have k2 := FU.cell c2 hcb
    have k3 := FU.cell c3 hcb
    have k4 := FU.cell c4 hcb
    have q2 := FU.frozen c2 (hA.fr 2) hcb
    have q4 := FU.frozen c4 (hA.fr 4) hcb
    have AU := hA.keep FU (fun b hb hc => n3 (by rw [← List.mem_singleton.1 hc]; exact hb))
    have hlen : g.L.wait.length ≤ 1000000 := by have := hsm.1; omega
    have HFU := hid FU
    have HAU := hid AU
    have HO := hid ho
    have HE := hid he
    have HM := hid hm
    have HL := hid hls
    have HAT := hid hat
    have HLEN := hid hlen
    obtain ⟨p1, p2, p3, p4⟩ := LkG.parts HND.out
    have HP2 := hid p2
    clear ho he hm hls hat hA hs hn hsm hmem how hmU fU hzU FU AU hlen p1 p3 p4 c2 c3 c4 n1 n2 n4 n5
    simp only [keyW, vi] at hup
    simp only [] at ct hup
    unfold OwnedFn ptrV at *
    go_enter Try.func14, Try.ntmps14
    go_wp2_with fail
    refine HO.out.mono ?_
    rintro e w1 ⟨rfl, rfl⟩
    go_wp2_with fail
    go_region
    clear c0 c1 ct hup
    go_wp2_with (at_builtin; refine wpList_append_sli rfl _ _ rfl g.vw g.L.wait rfl (HAU.out.wai.keep0 ((Fr.refl _ _).alloc _)) ⟨wU.heap.size, 0, none⟩ t rfl (cell_one_new wU (.int .i64 t) 3 0 _ rfl) HLEN.out ?_; intro v' w2 hs2 f2 hv2; obtain ⟨av, cv, rfl, _, _⟩ := hs2.form; have fA : Fr (fpv g.vw) wU w2 := (((Fr.refl [] wU).alloc _).sub (by simp)).tr f2; have k2 := fA.cell k2 HP2.out; have k4 := fA.cell k4 HP2.out; have q2 := fA.frozen (HAU.out.c.2.2.1) q2 HP2.out; have q4 := fA.frozen (HAU.out.c.2.2.2.2) q4 HP2.out; have HS2 := hid hs2; have FA := hid fA; have HV2 := hid hv2; clear hs2 f2 fA hv2)
    have hvN : ∀ x ∈ fpv (.slice av (g.L.wait ++ [t]).length cv), x ∈ fpv g.vw ∨ wU.heap.size ≤ x := fun x hx => (HV2.out x hx).imp id (fun h => by rw [World.size_alloc] at h; omega)
    obtain ⟨A0, fB, hnd, hfp⟩ := HAU.out.newWai HND.out HS2.out FA.out hvN
    have A2 := A0.set 2 (.bool true) (L' := { g.L with wait := g.L.wait ++ [t], fat := true }) hnd rfl rfl rfl
    have fC := LkAt.set_fr (g := g) fB 2 (.bool true)
    have MA := MU.out.back fC A2 rfl rfl hfp hnd
    have HOV := hid (over_any MA a)
    have HFC : Hid (Fr (cb :: g.fp) w ((w2.setCell ⟨g.b, 4, none⟩ (.slice av (g.L.wait ++ [t]).length cv)).setCell ⟨g.b, 2, none⟩ (.bool true))) := hid ((HFU.out.sub (fun x hx => .inl (by rw [List.mem_singleton.1 hx]; simp))).tr (fC.sub (fun x hx => .inl (List.mem_cons_of_mem _ hx))))
    have HFP : Hid (∀ x ∈ LkG.fp ⟨g.at', g.b, g.ve, .slice av (g.L.wait ++ [t]).length cv, { g.L with wait := g.L.wait ++ [t], fat := true }⟩, x ∈ g.fp ∨ w.heap.size ≤ x) := hid (fun x hx => (hfp x hx).imp id (fun h => Nat.le_trans HFU.out.size h))
    clear A0 fB hnd hfp A2 fC MA hvN
    simp only [List.length_append, List.length_singleton] at HOV HFC HFP
    unfold ptrV at HOV
    refine HOV.out.mono ?_
    rintro e w3 ⟨rfl, g', ho⟩
    go_wp2_with fail
    go_ret2
    have e : T.wait a t = (((overL a { g.L with wait := g.L.wait ++ [t], fat := true } (lput T.cs (a, t) g.L.count)).1, 0), ⟨lput T.ls a (overL a { g.L with wait := g.L.wait ++ [t], fat := true } (lput T.cs (a, t) g.L.count)).2.1, (overL a { g.L with wait := g.L.wait ++ [t], fat := true } (lput T.cs (a, t) g.L.count)).2.2⟩) := by
      unfold PT.wait; rw [HE.out]
    rw [e]
    exact ⟨rfl, OverAt.moved (gA := { g with vw := .slice av (g.L.wait.length + 1) cv, L := { g.L with wait := g.L.wait ++ [t], fat := true } }) HM.out HL.out HFC.out HFP.out rfl ho HAT.out⟩

end Go.Proofs.Ythdmgjkipiaccaa
