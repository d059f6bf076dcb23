/-
  loomlaw11.alike.
-/
import Derived.Test.YtgakkkifohkikaaRefD
import Derived.Test.YtgakkkifohkikaaBlocks
import Derived.BigQuiet
import Derived.Deep.Cut
import Derived.Deep.CutRange
namespace Go.Proofs.Ytgakkkifohkikaa
open Go.RowKit

theorem getV_at {n a : Nat} {L : List Ob} (hr : Rise n a L) {o : Ob} (ho : o ∈ L) {i : Nat} (hi : i < o.ws.length) : getV L o.at' i = .tuple #[.int .u64 (o.ws.getD i 0), .int .i64 0] := by
  unfold getV wordOf
  rw [arFind_at hr ho]
  simp only []
  rw [if_pos (by omega)]
  rfl
theorem wdsV_at {n a : Nat} {L : List Ob} (hr : Rise n a L) {o : Ob} (ho : o ∈ L) : wdsV L o.at' = .tuple #[.int .i64 o.ws.length, .int .i64 0] := by
  unfold wdsV
  rw [arFind_at hr ho]

/-- two arenas with the same objects, one of them the reference's -/
structure AlT (w : World) (hb rb : Nat) (F : List Nat) (n : Nat) (vl : Value) (G : List (Ob × Value)) : Prop where
  ar : Ar w (ptrV hb) F n (G.map (·.1))
  rf : RefT w rb vl G n
theorem AlT.keep {w w' : World} {hb rb : Nat} {F : List Nat} {n : Nat} {vl : Value} {G : List (Ob × Value)} (h : AlT w hb rb F n vl G) (f : Fr [] w w') : AlT w' hb rb F n vl G := ⟨h.ar.keep0 f, h.rf.keep0 f⟩
theorem AlT.ref {w : World} {hb rb : Nat} {F : List Nat} {n : Nat} {vl : Value} {G : List (Ob × Value)} (h : AlT w hb rb F n vl G) : Ref w (ptrV rb) (rb :: (fpv vl ++ fpG G)) n (G.map (·.1)) := ⟨rb, vl, G, rfl, rfl, rfl, h.rf⟩

set_option maxHeartbeats 4000000 in
set_option maxRecDepth 20000 in
theorem alike_any {w : World} {p q : Value} {F FQ : List Nat} {n : Nat} {L : List Ob} (h : Ar w p F n L) (r : Ref w q FQ n L) :
    Calls Try.prog 27 #[p, q] w fun e w' => e = .returned (.bool true) ∧ Fr [] w w' := by
  obtain ⟨hb, rfl⟩ := h.form
  obtain ⟨rb, vl, G, rfl, rfl, rfl, r⟩ := r
  have HT : Hid (AlT w hb rb F n vl G) := hid ⟨h, r⟩
  have hgl := r.glen
  obtain ⟨a, cap, hv, hc1, hc2⟩ := r.ob.form
  obtain ⟨m, hm⟩ : ∃ m, m = G.length := ⟨_, rfl⟩
  have HM := hid hm
  rw [← hm] at hgl hc1 hv
  unfold maxLen at hc2
  subst hv
  clear h r hm
  unfold ptrV
  go_enter Try.func27, Try.ntmps27
  go_wp2_with fail
  refine (all_any HT.out.ar).mono ?_
  rintro e w1 ⟨v1, rfl, hv1, f1, _⟩
  rw [List.length_map, ← HM.out] at hv1
  have HV := hid hv1
  have F1 := hid f1
  obtain ⟨av, cv, rfl, _, _⟩ := hv1.form
  have HT1 := hid (HT.out.keep f1)
  obtain ⟨c0, c1⟩ := HT1.out.rf.c
  have hbb : ∀ w' (f : Fr [] w1 w'), w'.cell? ⟨rb, 0, none⟩ = some (.int .i64 n) ∧ w'.cell? ⟨rb, 1, none⟩ = some (.slice a m cap) := fun w' f => (HT1.out.keep f).rf.c
  have HBB := hid hbb
  clear hv1 f1 hbb
  go_upto_region 2 with (fail)
  go_cut [38] from 14 to 38 (fun c wx => c = .bool false ∧ Hid (Fr [] w1 wx))
  case first =>
    go_region_with (first | (go_at_call 52; refine (heapsize_any (HT1.out.keep (by first | exact Fr.refl _ _ | exact (Fr.refl _ _).drew)).ar).mono ?_; rintro e w2 ⟨rfl, rfl⟩) | (go_at_call 17; refine (free_any (HT1.out.keep (by first | exact Fr.refl _ _ | exact (Fr.refl _ _).drew)).ar).mono ?_; rintro e w3 ⟨v3, rfl, hv3, f3, _⟩; have HV3 := hid hv3; have F3 : Hid (Fr [] w1 w3) := hid (Fr.tr (by first | exact Fr.refl _ _ | exact (Fr.refl _ _).drew) f3); obtain ⟨c03, c13⟩ := HBB.out _ F3.out; clear hv3 f3) | (go_at_call 53; refine (rfree_any (HT1.out.keep (Fr.tr F3.out (by first | exact Fr.refl _ _ | exact (Fr.refl _ _).drew))).ref).mono ?_; rintro e w4 ⟨v4, rfl, hv4, f4, _⟩; have HV4 := hid hv4; have F4 := hid f4; clear hv4 f4) | (go_at_call 16; refine (blocks_any (HV3.out.keep0 (Fr.tr F4.out (by first | exact Fr.refl _ _ | exact (Fr.refl _ _).drew))) (HV4.out.keep0 (by first | exact Fr.refl _ _ | exact (Fr.refl _ _).drew))).mono ?_; rintro e w5 ⟨rfl, f5⟩; rw [decide_eq_true rfl]; have F5 : Hid (Fr [] w1 w5) := hid (Fr.tr F3.out (Fr.tr F4.out (Fr.tr (by first | exact Fr.refl _ _ | exact (Fr.refl _ _).drew) f5))); clear f5))
    all_goals
      go_wp2_with fail
      go_meet
      case rel => exact ⟨rfl, by first | exact F5 | exact hid F5.out.drew⟩
  case rest =>
    obtain ⟨rfl, hf⟩ := hcut
    have FC := hid hf.out
    clear hf c0 c1
    go_wp2_with fail
    go_loopw [6] (fun i wr => ∃ k : Nat, i = .int .i64 k ∧ k ≤ m ∧ Hid (Fr [] w1 wr)) (fun i _ => m - (intOf i).toNat)
    case atStart => exact ⟨0, rfl, by omega, FC⟩
    case round =>
      obtain ⟨k, rfl, hk, hr⟩ := hrel
      have HR := hid hr.out
      clear hr
      have hmb := hgl
      by_cases hlt : k < m
      · have hlt2 : (k : Int) < m := by omega
        have hkb : (k : Int) ≤ 1024 := by omega
        have hkG : k < G.length := by rw [← HM.out]; exact hlt
        obtain ⟨g, hg⟩ : ∃ g, G[k]? = some g := ⟨_, List.getElem?_eq_getElem hkG⟩
        have hgm : g.1 ∈ G.map (·.1) := List.mem_map.2 ⟨g, List.mem_of_getElem? hg, rfl⟩
        have hrise := HT1.out.rf.rise
        have hw := wdsV_at hrise hgm
        have hgv := fun i (hi : i < g.1.ws.length) => getV_at hrise hgm hi
        have hob := (Rise.obs hrise g.1 hgm).2
        have hns := HT1.out.rf.small
        obtain ⟨aw, cw, hgw, _, _⟩ := (HT1.out.rf.ws g (List.mem_of_getElem? hg)).form
        have HC : Hid (∀ w', Fr [] w1 w' → ∃ bv, av = some ⟨bv, 0, none⟩ ∧ w'.cell? ⟨bv, k, none⟩ = some (.int .i64 (g.1.at' : Nat))) := hid (fun w' f => by
          obtain ⟨b, c, e, h1, _⟩ := (HV.out.keep0 f).cell k (by omega)
          injection e with e1 _ _
          refine ⟨b, e1, h1.trans ?_⟩
          unfold obsL
          rw [List.getD, List.getElem?_map, List.getElem?_map, hg]; rfl)
        obtain ⟨bv, hav, hcv⟩ := HC.out wr HR.out
        subst hav
        have HC1 : Hid (∀ w', Fr [] wr w' → w'.cell? ⟨bv, k, none⟩ = some (.int .i64 (g.1.at' : Nat))) := hid (fun w' f => f.cell hcv (by simp))
        have HD : Hid (∀ w', Fr [] w1 w' → ∃ b, a = some ⟨b, 0, none⟩ ∧ w'.cell? ⟨b, k * 3, none⟩ = some (.int .i64 (g.1.at' : Nat)) ∧ w'.cell? ⟨b, k * 3 + 2, none⟩ = some g.2) := hid (fun w' f => by
          obtain ⟨b, c, e, h1, _⟩ := (HT1.out.keep f).rf.ob.cell (k * 3) (by omega)
          obtain ⟨b', c', e', h2, _⟩ := (HT1.out.keep f).rf.ob.cell (k * 3 + 2) (by omega)
          rw [← HM.out] at e e'
          injection e with e1 _ _
          injection e' with e1' _ _
          rw [e1] at e1'
          injection e1' with e1'
          injection e1' with e1'
          rw [← e1'] at h2
          exact ⟨b, e1, by rw [h1, (refL_get G k g hg).1]; rfl, by rw [h2, (refL_get G k g hg).2.2]⟩)
        obtain ⟨bo, hao, hd0, hd2⟩ := HD.out wr HR.out
        subst hao
        have HD1 : Hid (∀ w', Fr [] wr w' → w'.cell? ⟨bo, k * 3, none⟩ = some (.int .i64 (g.1.at' : Nat)) ∧ w'.cell? ⟨bo, k * 3 + 2, none⟩ = some g.2) := hid (fun w' f => ⟨f.cell hd0 (by simp), f.cell hd2 (by simp)⟩)
        have HWS : Hid (∀ w' j, Fr [] w1 w' → j < g.1.ws.length → ∃ b, aw = some ⟨b, 0, none⟩ ∧ w'.cell? ⟨b, j, none⟩ = some (.int .u64 (g.1.ws.getD j 0))) := hid (fun w' j f hj => by
          obtain ⟨b, c, e, h1, _⟩ := ((HT1.out.keep f).rf.ws g (List.mem_of_getElem? hg)).cell j (by omega)
          rw [hgw] at e
          injection e with e1 _ _
          refine ⟨b, e1, h1.trans ?_⟩
          unfold vus
          rw [List.getD, List.getElem?_map, List.getElem?_eq_getElem hj, List.getD, List.getElem?_eq_getElem hj]; rfl)
        rw [hgw] at hd2 HD1
        obtain ⟨y, hy⟩ : ∃ y : Nat, y = g.1.at' := ⟨_, rfl⟩
        obtain ⟨z, hz⟩ : ∃ y : Nat, y = g.1.ws.length := ⟨_, rfl⟩
        have hbw := HBB.out wr HR.out
        obtain ⟨c0, c1⟩ := hbw
        have HWD := hid (words_any (HT1.out.keep HR.out).ar (y : Int))
        rw [hy, hw, ← hy, ← hz] at HWD
        have HGV := hid hgv
        rw [← hy] at HC1 HD1 hcv hd0 HGV
        rw [← hz] at HGV HWS hd2 HD1
        simp only [Ob.sz] at hob
        rw [← hz] at hob
        have hzb : (z : Int) ≤ 3000 := by omega
        have hyb : (y : Int) ≤ 3000 := by omega
        clear hg hgm hrise hw hgv hgw hob hns hkG HC HD hy hz
        unfold ptrV at HWD
        go_wp2_with fail
        refine HWD.out.mono ?_
        rintro e w2 ⟨rfl, nq, rfl⟩
        go_wp2_with fail
        go_quiet (fail)
        go_wp2_with fail
        obtain ⟨wo, hwo⟩ : ∃ w, w = wr := ⟨_, rfl⟩
        subst hwo
        go_loopw [9] (fun i w' => ∃ j : Nat, i = .int .i64 j ∧ j ≤ z ∧ Hid (Fr [] wo w')) (fun i _ => z - (intOf i).toNat)
        case atStart => exact ⟨0, rfl, by omega, hid (((Fr.refl _ _).drewN _).drewN _)⟩
        case round =>
          obtain ⟨j, rfl, hj, hr⟩ := hrel
          have HF := hid hr.out
          clear hr hd0 hd2 hcv c0 c1
          by_cases hjz : j < z
          · have hjz2 : (j : Int) < z := by omega
            have hjb : (j : Int) ≤ 3000 := by omega
            have hc1 := (HBB.out wr (HR.out.tr HF.out)).2
            have hd2 := (HD1.out wr HF.out).2
            have hcv := HC1.out wr HF.out
            obtain ⟨bw, haw, hws⟩ := HWS.out wr j (HR.out.tr HF.out) hjz
            subst haw
            have HG := hid (get_any (HT1.out.keep (HR.out.tr HF.out)).ar (y : Int) (j : Int))
            rw [HGV.out j hjz] at HG
            generalize g.1.ws.getD j 0 = x at hws HG
            clear hjz
            unfold ptrV at HG
            go_wp2_with fail
            refine HG.out.mono ?_
            rintro e w2 ⟨rfl, nq, rfl⟩
            go_wp2_with fail
            go_roundw
            case rel => exact ⟨j + 1, by go_num, by omega, hid (HF.out.tr ((Fr.refl _ _).drewN _))⟩
            case measure => simp [intOf]; omega
          · obtain rfl : j = z := by omega
            have hjz2 : ¬ (j : Int) < j := by omega
            clear hjz
            go_wp2_with fail
            go_roundw
            case rel => exact ⟨k + 1, by go_num, by omega, hid (HR.out.tr HF.out)⟩
            case measure => simp [intOf]; omega
      · obtain rfl : k = m := by omega
        have hlt2 : ¬ (k : Int) < k := by omega
        clear hlt
        go_wp2_with fail
        go_ret
        exact ⟨rfl, F1.out.tr HR.out⟩

end Go.Proofs.Ytgakkkifohkikaa
