/-
  MonitorPlays: the document's Held.
-/
import Derived.Test.YthdmgjkipiaccaaRdH0
namespace Go.Proofs.Ythdmgjkipiaccaa
open Go.RowKit

structure HelS (w wr : World) (vl : Value) (xs : List Int) : Prop where
  l : Sli wr vl xs
  fr : Fr [] w wr
  new : ∀ z ∈ fpv vl, w.heap.size ≤ z
theorem HelS.keep0 {w wr w' : World} {vl : Value} {xs : List Int} (h : HelS w wr vl xs) (f : Fr [] wr w') : HelS w w' vl xs := ⟨h.l.keep0 f, h.fr.tr0 f, h.new⟩

set_option maxRecDepth 20000 in
set_option maxHeartbeats 2000000 in
theorem dheld_any {w : World} {tb : Nat} {F : List Nat} {R : List RL} (h : Doc w tb F R) (hk : RBd R 1000) (t : Int) : Calls Try.prog 25 #[.pointer (some ⟨tb, 0, none⟩), .int .i64 t] w fun e w' => ∃ vl, e = .returned vl ∧ HelS w w' vl (rHeld R t) := by
  obtain ⟨v, G, rfl, rfl, h⟩ := h
  obtain ⟨ak, ck, hvk, _, _⟩ := h.form
  obtain ⟨n, hn⟩ : ∃ n, n = G.length := ⟨_, rfl⟩
  have hk' := hk.glen
  rw [← hn] at hvk hk'
  have HN := hid hn
  have HD := hid h
  have c1 := h.tbl
  rw [hvk] at c1
  have HVK := hid hvk
  have HS := hid (show HelS w w (.slice none 0 0) (rHeld ((G.take 0).map RG.x) t) from ⟨Sli.nil _, Fr.refl _ _, by simp [fpv, Value.ownBlock]⟩)
  have HTB := hid (h.lt tb (by simp))
  clear h hn hvk hk
  go_enter Try.func25, Try.ntmps25
  go_wp2_with fail
  go_loopw [5, 6, 7] (fun vl o _ wr => ∃ (i m : Nat) (al : Option Addr) (cl : Nat) (xs : List Int), o = .int .i64 i ∧ i ≤ n ∧ vl = .slice al m cl ∧ m ≤ i ∧ Hid (m = xs.length) ∧ Hid (xs = rHeld ((G.take i).map RG.x) t) ∧ Hid (HelS w wr vl xs)) (fun _ v _ _ => n - (intOf v).toNat)
  case atStart => exact ⟨0, 0, none, 0, [], rfl, by omega, rfl, by omega, hid rfl, hid rfl, by first | exact HS | exact hid (HS.out.keep0 (Fr.refl _ _).drew)⟩
  case round =>
    obtain ⟨i, m, al, cl, xs, rfl, hi, rfl, hmi, hm, hx, hs⟩ := hrel
    have c2 := hs.out.fr.cell c1 (by simp)
    by_cases hlt : i < n
    · have hlt2 : (i : Int) < n := by omega
      have hib : (i : Int) ≤ 1000 := by omega
      have hjl : i < G.length := by rw [← HN.out]; exact hlt
      obtain ⟨b, cap, e, q0, q1, qr⟩ := (HD.out.keep0 hs.out.fr).lock hjl
      rw [HVK.out, ← HN.out] at e
      injection e with e1 e2 e3
      subst e1
      clear qr e2 e3
      have hstep := rHeld_step (t := t) hjl
      obtain ⟨pa, hpa⟩ : ∃ z, z = (G[i]'hjl).x.at' := ⟨_, rfl⟩
      obtain ⟨ow, how⟩ : ∃ z, z = (G[i]'hjl).x.owner := ⟨_, rfl⟩
      rw [← hpa] at q0
      rw [← how] at q1
      rw [← hpa, ← how, ← hx.out] at hstep
      have HST := hid hstep
      clear hlt hpa how hstep hx
      by_cases ht : t < 1
      · have HST2 : Hid (xs = rHeld ((G.take (i + 1)).map RG.x) t) := hid (by rw [HST.out, if_pos (.inl ht)])
        clear HST
        go_wp2_with fail
        go_roundw
        case rel => exact ⟨i + 1, m, al, cl, xs, by go_num, by omega, rfl, by omega, hm, HST2, by first | exact hs | exact hid (hs.out.keep0 (Fr.refl _ _).drew)⟩
        case measure => simp [intOf]; omega
      · have ht1 : 1 ≤ t := by omega
        by_cases ho : ow = t
        · subst ho
          have ho2 : (ow != ow) = false := by simp
          have HST2 : Hid (rHeld ((G.take (i + 1)).map RG.x) ow = insI xs pa) := hid (by rw [HST.out, if_neg (by simp; omega)])
          clear HST ht
          go_wp2_with fail
          have HBL := hid (HD.out.lt b (by rw [HVK.out]; simp [fpv, Value.ownBlock]))
          obtain ⟨w1, hw1⟩ : ∃ w1, w1 = wr := ⟨_, rfl⟩
          rw [← hw1] at hs c2 q0
          have HF1 := hid (show Fr [] w1 wr by rw [hw1]; exact Fr.refl _ _)
          clear hw1
          go_loopw [7] (fun o wr => ∃ k : Nat, o = .int .i64 k ∧ k ≤ m ∧ Hid (∀ j, j < k → xs.getD j 0 < pa) ∧ Hid (Fr [] w1 wr)) (fun v _ => m - (intOf v).toNat)
          case atStart => exact ⟨0, rfl, by omega, hid (fun j hj => by omega), by first | exact HF1 | exact hid HF1.out.drew⟩
          case round =>
            obtain ⟨k, rfl, hk, hlo, hf⟩ := hrel
            by_cases hkm : k < m
            · have hkm2 : (k : Int) < m := by omega
              have hkb : (k : Int) ≤ 1000 := by omega
              obtain ⟨bl, cl', e, r0, _⟩ := (hs.out.l.keep0 hf.out).cell k (by rw [← hm.out]; exact hkm)
              rw [← hm.out] at e
              injection e with e1 _ e3
              subst e1
              have c3 := hf.out.cell c2 (by simp)
              have q2 := hf.out.cell q0 (by simp)
              obtain ⟨xk, hxk⟩ : ∃ z, z = xs.getD k 0 := ⟨_, rfl⟩
              rw [← hxk] at r0
              have HXK := hid hxk
              clear hkm hxk e3
              by_cases hlt3 : xk < pa
              · have HLO := hid (show ∀ j, j < k + 1 → xs.getD j 0 < pa from fun j hj => by
                  by_cases h1 : j = k
                  · subst h1; rw [← HXK.out]; exact hlt3
                  · exact hlo.out j (by omega))
                clear hlo
                go_wp2_with fail
                go_quiet (fail)
                go_wp2_with fail
                go_roundw
                case rel => exact ⟨k + 1, by go_num, by omega, HLO, by first | exact hf | exact hid hf.out.drew | exact hid (hf.out.drewN _)⟩
                case measure => simp [intOf]; omega
              · have HINS := hid (insI_at (l := xs) (v := pa) (k := k) (by rw [← hm.out]; exact hk) hlo.out (.inr (by rw [← HXK.out]; exact hlt3)))
                clear hlo
                go_wp2_with fail
                go_quiet (fail)
                go_upto_region 9 with (fail)
                obtain ⟨w4, hw4⟩ : ∃ w4, w4 = wr.drewN nq := ⟨_, rfl⟩
                rw [← hw4]
                have HF4 : Hid (Fr [] w1 w4) := hid (by rw [hw4]; exact hf.out.drewN _)
                clear hw4
                clear c3 q2
                have c3 := HF4.out.cell c2 (by simp)
                have q2 := HF4.out.cell q0 (by simp)
                have HX := hid (hs.out.l.keep0 HF4.out)
                have HNW := hid hs.out.new
                have HFR := hid (hs.out.fr.tr HF4.out)
                go_upto_region 10 with (at_builtin; refine wpList_append_sli rfl _ _ rfl (.slice (some ⟨bl, 0, none⟩) m cl) xs rfl (HX.out.keep0 ((Fr.refl _ _).alloc _)) ⟨w4.heap.size, 0, none⟩ 0 rfl (cell_one_new w4 (.int .i64 0) 3 0 _ rfl) (by rw [← hm.out]; omega) ?_; intro v' w5 h5 f5 b5)
                have HL5 : xs.length + 1 = (xs ++ [0]).length := by simp
                obtain ⟨al3, c3', hv5, hl5, hl6⟩ := h5.form
                rw [← HL5, ← hm.out] at hv5 hl5
                have hal3 : ∃ b3, al3 = some ⟨b3, 0, none⟩ := by
                  rcases h5.parts with ⟨e, _⟩ | ⟨b3, cap3, cur3, e, _⟩
                  · rw [hv5] at e; simp at e
                  · rw [hv5] at e; injection e with e1 _ _; exact ⟨b3, e1⟩
                obtain ⟨b3, rfl⟩ := hal3
                subst hv5
                have f6 : Fr (fpv (.slice (some ⟨bl, 0, none⟩) m cl)) w4 w5 := ((Fr.refl _ _).alloc _).tr f5
                have h3n : ∀ z ∈ fpv (.slice (some ⟨b3, 0, none⟩) (m + 1) c3'), w.heap.size ≤ z := fun z hz => by
                  rcases b5 z hz with k | k
                  · exact HNW.out z k
                  · have h1 := HFR.out.size
                    have h2 : w4.heap.size ≤ z := Nat.le_trans ((Fr.refl [] w4).alloc _).size k
                    omega
                have hb3 : w.heap.size ≤ b3 := h3n b3 (by simp [fpv, Value.ownBlock])
                have hne1 : b3 ≠ tb := by have := HTB.out; omega
                have hne2 : b3 ≠ b := by have := HBL.out; omega
                have c4 : w5.cell? ⟨tb, 0, none⟩ = some (.slice (some ⟨b, 0, none⟩) n ck) := f6.cell c3 (fun k => by have := HNW.out tb k; have := HTB.out; omega)
                have q3 : w5.cell? ⟨b, i * 6, none⟩ = some (.int .i64 pa) := f6.cell q2 (fun k => by have := HNW.out b k; have := HBL.out; omega)
                have HF5 : Hid (Fr [] w w5) := hid (HFR.out.trans f6 (fun z hz => .inr (HNW.out z hz)))
                have H5 := hid h5
                have HN3 := hid h3n
                have hlx : m + 1 = (xs ++ [0]).length := by rw [← HL5, ← hm.out]
                obtain ⟨W', hcp, hsl, hfr⟩ := copy_ins (w := w5.drew) (h5.keep0 (Fr.refl _ _).drew) hlx (k := k) (by omega) (if c3' = k + 1 then 0 else k + 1) rfl
                have c5 := hfr.cell (World.cell?_drew w5 _ ▸ c4 : w5.drew.cell? ⟨tb, 0, none⟩ = _) (by simpa using Ne.symm hne1)
                have q5 := hfr.cell (World.cell?_drew w5 _ ▸ q3 : w5.drew.cell? ⟨b, i * 6, none⟩ = _) (by simpa using Ne.symm hne2)
                obtain ⟨bz, cz, ez, hyk, hz3⟩ := hsl.cell k (by simp; have := hm.out; omega)
                injection ez with ez1 ez2 ez3
                clear ez2 ez3
                injection ez1 with ez1
                injection ez1 with ez1 _ _
                subst ez1
                replace hyk : ∃ y, W'.cell? ⟨b3, k, none⟩ = some y := ⟨_, hyk⟩
                obtain ⟨yk, hyk⟩ := hyk
                have HFIN : Hid (HelS w (W'.setCell ⟨b3, k, none⟩ (.int .i64 pa)) (.slice (some ⟨b3, 0, none⟩) (m + 1) c3') (rHeld ((G.take (i + 1)).map RG.x) ow)) := hid (by
                  rw [HST2.out, HINS.out]
                  have hkx : k ≤ xs.length := by rw [← hm.out]; exact hk
                  have hset := hsl.setAt (by simp; have := hm.out; omega) k pa
                  rw [show m + 1 - (k + 1) = xs.length + 1 - (k + 1) by rw [← hm.out], ins_list hkx] at hset
                  exact ⟨hset, HF5.out.drew.trans (hfr.setCell (p := ⟨b3, k, none⟩) (.inl (by simp)) _) (fun z hz => .inr (by rw [List.mem_singleton] at hz; subst hz; exact hb3)), HN3.out⟩)
                have HCP := hid hcp
                clear hcp hsl hfr h5 f5 b5 f6 h3n c3 q2 c4 q3 HL5 hlx
                have hkk : (k : Int) ≤ m := by omega
                have hkb : (k : Int) ≤ 1000 := by omega
                have hc3j : m + 1 ≤ c3' := hl5
                have hw1 : IntKind.i64.wrap ((k : Int) + 1) = (k : Int) + 1 := by rw [IntKind.wrap_i64]; omega
                have hb1 : (0 : Int) ≤ (k : Int) + 1 := by omega
                have htn : ((k : Int) + 1).toNat = k + 1 := by omega
                have hjm3 : (k : Int) ≤ (m : Int) + 1 := by omega
                have hjm4 : (k : Int) + 1 ≤ (m : Int) + 1 := by omega
                have hjm5 : k ≤ m := by omega
                have hc3i : ¬ (c3' = k) := by omega
                have hlen2 : Hid (m + 1 = (rHeld ((G.take (i + 1)).map RG.x) ow).length) := hid (by rw [HST2.out, insI_len, ← hm.out])
                by_cases hck : c3' = k + 1
                · exact absurd hkm2 (by omega)
                · have hcp := HCP.out
                  rw [if_neg hck, show m + 1 - (k + 1) = m - k by omega] at hcp
                  have HC2 := hid hcp
                  clear hcp HCP
                  go_still_tail 7, (by kernel_rfl)
                  change wpList _ _ _ _ _ w5.drew
                  go_wp2_with (with_reducible refine wpBi .copy Builtin.copy_ bi_copy rfl (.tmp 58) (.tmp 61) 26 26 rfl (.slice (some ⟨b3, k + 1, none⟩) (m - k) (c3' - (k + 1))) (.slice (some ⟨b3, k, none⟩) (m + 1 - k) (c3' - k)) rfl rfl (HC2.out _ _ _) ?_)
                  go_roundw
                  case rel => exact ⟨i + 1, m + 1, _, _, _, by go_num, by omega, rfl, by omega, hlen2, hid rfl, by first | exact HFIN | exact hid (HFIN.out.keep0 (Fr.refl _ _).drew)⟩
                  case measure => simp [intOf]; omega
            · obtain rfl : k = m := by omega
              have hkm2 : ¬ (k : Int) < k := by omega
              have hkb : (k : Int) ≤ 1000 := by omega
              have HINS := hid (insI_at (l := xs) (v := pa) (k := k) (by rw [← hm.out]; exact hk) hlo.out (.inl hm.out))
              have c3 := hf.out.cell c2 (by simp)
              have q2 := hf.out.cell q0 (by simp)
              clear hlo
              go_wp2_with fail
              go_quiet (fail)
              go_upto_region 9 with (fail)
              obtain ⟨w4, hw4⟩ : ∃ w4, w4 = wr.drewN nq := ⟨_, rfl⟩
              rw [← hw4]
              have HF4 : Hid (Fr [] w1 w4) := hid (by rw [hw4]; exact hf.out.drewN _)
              clear hw4
              clear c3 q2
              have c3 := HF4.out.cell c2 (by simp)
              have q2 := HF4.out.cell q0 (by simp)
              have HX := hid (hs.out.l.keep0 HF4.out)
              have HNW := hid hs.out.new
              have HFR := hid (hs.out.fr.tr HF4.out)
              go_upto_region 10 with (at_builtin; refine wpList_append_sli rfl _ _ rfl (.slice al k cl) xs rfl (HX.out.keep0 ((Fr.refl _ _).alloc _)) ⟨w4.heap.size, 0, none⟩ 0 rfl (cell_one_new w4 (.int .i64 0) 3 0 _ rfl) (by rw [← hm.out]; omega) ?_; intro v' w5 h5 f5 b5)
              have HL5 : xs.length + 1 = (xs ++ [0]).length := by simp
              obtain ⟨al3, c3', hv5, hl5, hl6⟩ := h5.form
              rw [← HL5, ← hm.out] at hv5 hl5
              have hal3 : ∃ b3, al3 = some ⟨b3, 0, none⟩ := by
                rcases h5.parts with ⟨e, _⟩ | ⟨b3, cap3, cur3, e, _⟩
                · rw [hv5] at e; simp at e
                · rw [hv5] at e; injection e with e1 _ _; exact ⟨b3, e1⟩
              obtain ⟨b3, rfl⟩ := hal3
              subst hv5
              have f6 : Fr (fpv (.slice al k cl)) w4 w5 := ((Fr.refl _ _).alloc _).tr f5
              have h3n : ∀ z ∈ fpv (.slice (some ⟨b3, 0, none⟩) (k + 1) c3'), w.heap.size ≤ z := fun z hz => by
                rcases b5 z hz with k | k
                · exact HNW.out z k
                · have h1 := HFR.out.size
                  have h2 : w4.heap.size ≤ z := Nat.le_trans ((Fr.refl [] w4).alloc _).size k
                  omega
              have hb3 : w.heap.size ≤ b3 := h3n b3 (by simp [fpv, Value.ownBlock])
              have hne1 : b3 ≠ tb := by have := HTB.out; omega
              have hne2 : b3 ≠ b := by have := HBL.out; omega
              have c4 : w5.cell? ⟨tb, 0, none⟩ = some (.slice (some ⟨b, 0, none⟩) n ck) := f6.cell c3 (fun k => by have := HNW.out tb k; have := HTB.out; omega)
              have q3 : w5.cell? ⟨b, i * 6, none⟩ = some (.int .i64 pa) := f6.cell q2 (fun k => by have := HNW.out b k; have := HBL.out; omega)
              have HF5 : Hid (Fr [] w w5) := hid (HFR.out.trans f6 (fun z hz => .inr (HNW.out z hz)))
              have H5 := hid h5
              have HN3 := hid h3n
              have hlx : k + 1 = (xs ++ [0]).length := by rw [← HL5, ← hm.out]
              obtain ⟨W', hcp, hsl, hfr⟩ := copy_ins (w := w5.drew) (h5.keep0 (Fr.refl _ _).drew) hlx (k := k) (by omega) (if c3' = k + 1 then 0 else k + 1) rfl
              have c5 := hfr.cell (World.cell?_drew w5 _ ▸ c4 : w5.drew.cell? ⟨tb, 0, none⟩ = _) (by simpa using Ne.symm hne1)
              have q5 := hfr.cell (World.cell?_drew w5 _ ▸ q3 : w5.drew.cell? ⟨b, i * 6, none⟩ = _) (by simpa using Ne.symm hne2)
              obtain ⟨bz, cz, ez, hyk, hz3⟩ := hsl.cell k (by simp; have := hm.out; omega)
              injection ez with ez1 ez2 ez3
              clear ez2 ez3
              injection ez1 with ez1
              injection ez1 with ez1 _ _
              subst ez1
              replace hyk : ∃ y, W'.cell? ⟨b3, k, none⟩ = some y := ⟨_, hyk⟩
              obtain ⟨yk, hyk⟩ := hyk
              have HFIN : Hid (HelS w (W'.setCell ⟨b3, k, none⟩ (.int .i64 pa)) (.slice (some ⟨b3, 0, none⟩) (k + 1) c3') (rHeld ((G.take (i + 1)).map RG.x) ow)) := hid (by
                rw [HST2.out, HINS.out]
                have hkx : k ≤ xs.length := by rw [← hm.out]; exact hk
                have hset := hsl.setAt (by simp; have := hm.out; omega) k pa
                rw [show k + 1 - (k + 1) = xs.length + 1 - (k + 1) by rw [← hm.out], ins_list hkx] at hset
                exact ⟨hset, HF5.out.drew.trans (hfr.setCell (p := ⟨b3, k, none⟩) (.inl (by simp)) _) (fun z hz => .inr (by rw [List.mem_singleton] at hz; subst hz; exact hb3)), HN3.out⟩)
              have HCP := hid hcp
              clear hcp hsl hfr h5 f5 b5 f6 h3n c3 q2 c4 q3 HL5 hlx
              have hkk : (k : Int) ≤ k := by omega
              have hkb : (k : Int) ≤ 1000 := by omega
              have hc3j : k + 1 ≤ c3' := hl5
              have hw1 : IntKind.i64.wrap ((k : Int) + 1) = (k : Int) + 1 := by rw [IntKind.wrap_i64]; omega
              have hb1 : (0 : Int) ≤ (k : Int) + 1 := by omega
              have htn : ((k : Int) + 1).toNat = k + 1 := by omega
              have hjm3 : (k : Int) ≤ (k : Int) + 1 := by omega
              have hjm4 : (k : Int) + 1 ≤ (k : Int) + 1 := by omega
              have hjm5 : k ≤ k := by omega
              have hc3i : ¬ (c3' = k) := by omega
              have hlen2 : Hid (k + 1 = (rHeld ((G.take (i + 1)).map RG.x) ow).length) := hid (by rw [HST2.out, insI_len, ← hm.out])
              by_cases hck : c3' = k + 1
              · subst hck
                have hcp := HCP.out
                rw [if_pos rfl, Nat.sub_self, show k + 1 - k = 1 by omega] at hcp
                have HC2 := hid hcp
                clear hcp HCP
                go_still_tail 7, (by kernel_rfl)
                change wpList _ _ _ _ _ w5.drew
                go_wp2_with (with_reducible refine wpBi .copy Builtin.copy_ bi_copy rfl (.tmp 58) (.tmp 61) 26 26 rfl (.slice (some ⟨b3, 0, none⟩) 0 0) (.slice (some ⟨b3, k, none⟩) 1 1) rfl rfl (HC2.out _ _ _) ?_)
                go_roundw
                case rel => exact ⟨i + 1, k + 1, _, _, _, by go_num, by omega, rfl, by omega, hlen2, hid rfl, by first | exact HFIN | exact hid (HFIN.out.keep0 (Fr.refl _ _).drew)⟩
                case measure => simp [intOf]; omega
              · have hcp := HCP.out
                rw [if_neg hck, Nat.sub_self, show k + 1 - k = 1 by omega] at hcp
                have HC2 := hid hcp
                clear hcp HCP
                go_still_tail 7, (by kernel_rfl)
                change wpList _ _ _ _ _ w5.drew
                go_wp2_with (with_reducible refine wpBi .copy Builtin.copy_ bi_copy rfl (.tmp 58) (.tmp 61) 26 26 rfl (.slice (some ⟨b3, k + 1, none⟩) 0 (c3' - (k + 1))) (.slice (some ⟨b3, k, none⟩) 1 (c3' - k)) rfl rfl (HC2.out _ _ _) ?_)
                go_roundw
                case rel => exact ⟨i + 1, k + 1, _, _, _, by go_num, by omega, rfl, by omega, hlen2, hid rfl, by first | exact HFIN | exact hid (HFIN.out.keep0 (Fr.refl _ _).drew)⟩
                case measure => simp [intOf]; omega
        · have ho2 : (ow != t) = true := by simpa using ho
          have HST2 : Hid (xs = rHeld ((G.take (i + 1)).map RG.x) t) := hid (by rw [HST.out, if_pos (.inr ho)])
          clear HST ho ht
          go_wp2_with fail
          go_roundw
          case rel => exact ⟨i + 1, m, al, cl, xs, by go_num, by omega, rfl, by omega, hm, HST2, by first | exact hs | exact hid (hs.out.keep0 (Fr.refl _ _).drew)⟩
          case measure => simp [intOf]; omega
    · obtain rfl : i = n := by omega
      have hlt2 : ¬ (i : Int) < i := by omega
      have htk : xs = rHeld (G.map RG.x) t := by rw [hx.out, HN.out, List.take_length]
      have HTK := hid htk
      clear hlt htk
      go_wp2_with fail
      go_ret
      rw [← HTK.out]
      exact ⟨_, rfl, by first | exact hs.out | exact hs.out.keep0 (Fr.refl _ _).drew⟩

end Go.Proofs.Ythdmgjkipiaccaa
