/-
  The reference's arena (loomref11): Free, Place.
-/
import Derived.Test.YtgakkkifohkikaaRefA
namespace Go.Proofs.Ytgakkkifohkikaa
open Go.RowKit

/-- the gaps ahead of objects; where the last one ends -/
def preG : Nat → List Ob → List (Nat × Nat)
  | _, [] => []
  | a, o :: r => (if a < o.at' then [(a, o.at' - a)] else []) ++ preG (o.at' + o.sz) r
def endO : Nat → List Ob → Nat
  | a, [] => a
  | _, o :: r => endO (o.at' + o.sz) r
theorem gaps_pre (n : Nat) : ∀ (a : Nat) (L : List Ob), gaps n a L = preG a L ++ gaps n (endO a L) []
  | a, [] => rfl
  | a, o :: r => by
    have := gaps_pre n (o.at' + o.sz) r
    show (if a < o.at' then [(a, o.at' - a)] else []) ++ gaps n (o.at' + o.sz) r = ((if a < o.at' then [(a, o.at' - a)] else []) ++ preG (o.at' + o.sz) r) ++ gaps n (endO (o.at' + o.sz) r) []
    rw [this, List.append_assoc]
theorem preG_snoc : ∀ (a : Nat) (L : List Ob) (o : Ob), preG a (L ++ [o]) = preG a L ++ (if endO a L < o.at' then [(endO a L, o.at' - endO a L)] else [])
  | a, [], o => by
    show (if a < o.at' then [(a, o.at' - a)] else []) ++ [] = [] ++ (if a < o.at' then [(a, o.at' - a)] else [])
    rw [List.append_nil, List.nil_append]
  | a, q :: r, o => by
    have := preG_snoc (q.at' + q.sz) r o
    show (if a < q.at' then [(a, q.at' - a)] else []) ++ preG (q.at' + q.sz) (r ++ [o]) = ((if a < q.at' then [(a, q.at' - a)] else []) ++ preG (q.at' + q.sz) r) ++ (if endO (q.at' + q.sz) r < o.at' then [(endO (q.at' + q.sz) r, o.at' - endO (q.at' + q.sz) r)] else [])
    rw [this, List.append_assoc]
theorem endO_snoc : ∀ (a : Nat) (L : List Ob) (o : Ob), endO a (L ++ [o]) = o.at' + o.sz
  | _, [], _ => rfl
  | _, q :: r, o => by rw [List.cons_append]; exact endO_snoc (q.at' + q.sz) r o
theorem endO_le {n : Nat} : ∀ {a : Nat} {L : List Ob}, Rise n a L → endO a L ≤ n + 1
  | _, [], h => h
  | _, o :: r, h => endO_le (a := o.at' + o.sz) (L := r) h.2
theorem Rise.take {n : Nat} : ∀ {a : Nat} {L : List Ob} (i : Nat), Rise n a L → Rise n a (L.take i)
  | _, _, 0, h => Rise.le h
  | _, [], _ + 1, h => h
  | _, _ :: _, i + 1, h => ⟨h.1, Rise.take i h.2⟩
theorem preG_len : ∀ (a : Nat) (L : List Ob), (preG a L).length ≤ L.length
  | _, [] => Nat.le_refl _
  | a, o :: r => by
    have := preG_len (o.at' + o.sz) r
    simp only [preG, List.length_append, List.length_cons]
    split <;> simp only [List.length_cons, List.length_nil] <;> omega
/-- what the i first rounds have put together -/
def accG (n : Nat) (L : List Ob) (i : Nat) : List (Nat × Nat) := if i ≤ L.length then preG 1 (L.take i) else gaps n 1 L
theorem accG_len (n : Nat) (L : List Ob) (i : Nat) : (accG n L i).length ≤ L.length + 1 := by
  unfold accG
  split
  · have := preG_len 1 (L.take i)
    rw [List.length_take] at this
    omega
  · rw [gaps_pre, List.length_append]
    have := preG_len 1 L
    simp only [gaps]
    split <;> simp only [List.length_cons, List.length_nil] <;> omega
theorem accG_step {n : Nat} {L : List Ob} {i : Nat} (hi : i < L.length) : accG n L (i + 1) = accG n L i ++ (if endO 1 (L.take i) < L[i].at' then [(endO 1 (L.take i), L[i].at' - endO 1 (L.take i))] else []) := by
  unfold accG
  rw [if_pos (by omega), if_pos (by omega), List.take_succ_eq_append_getElem hi, preG_snoc]
theorem accG_last (n : Nat) (L : List Ob) : accG n L (L.length + 1) = accG n L L.length ++ (if endO 1 L ≤ n then [(endO 1 L, n + 1 - endO 1 L)] else []) := by
  unfold accG
  rw [if_neg (by omega), if_pos (Nat.le_refl _), List.take_length, gaps_pre]
  rfl
theorem endO_step {L : List Ob} {i : Nat} (hi : i < L.length) : endO 1 (L.take (i + 1)) = L[i].at' + L[i].sz := by
  rw [List.take_succ_eq_append_getElem hi, endO_snoc]
theorem cells_new (w : World) (cs : List Value) (t : TypeId) (j : Nat) (u : Value) (h : cs[j]? = some u) : (w.alloc (.cells cs.toArray t)).cell? ((⟨w.heap.size, 0, none⟩ : Addr).add j) = some u := by
  rw [Addr.add_lit, Nat.zero_add, cell_of_row _ _ _ _ _ _ (heap_alloc_new w _)]
  simpa using h

structure FreW (w wr : World) (v : Value) (G : List (Nat × Nat)) : Prop where
  sl : RV wr 36 2 v G.length (blkL G)
  nw : ∀ b ∈ fpv v, w.heap.size ≤ b
  fr : Fr [] w wr
theorem FreW.more {w wr w2 : World} {v v' : Value} {G : List (Nat × Nat)} {g : Nat × Nat} (h : FreW w wr v G) {t : Obj} (hr : RV w2 36 2 v' (G.length + 1) (blkL G ++ [vi g.1, vi g.2])) (f : Fr (fpv v) (wr.alloc t) w2) (hv : ∀ b ∈ fpv v', b ∈ fpv v ∨ (wr.alloc t).heap.size ≤ b) : FreW w w2 v' (G ++ [g]) := by
  refine ⟨?_, fun b hb => ?_, ?_⟩
  · rw [List.length_append, List.length_singleton, blkL_append]; exact hr
  · rcases hv b hb with h1 | h1
    · exact h.nw b h1
    · have := h.fr.size; rw [World.size_alloc] at h1; omega
  · exact (h.fr.alloc t).trans f (fun x hx => .inr (h.nw x hx))

theorem FreW.more2 {w wr w2 : World} {v v' : Value} {G G' : List (Nat × Nat)} {g : Nat × Nat} {al : Nat} (h : FreW w wr v G) (hal : al = G.length) (hG : G' = G ++ [g]) {t : Obj} (hr : RV w2 36 2 v' (al + 1) (blkL G ++ [vi g.1, vi g.2])) (f : Fr (fpv v) (wr.alloc t) w2) (hv : ∀ b ∈ fpv v', b ∈ fpv v ∨ (wr.alloc t).heap.size ≤ b) : FreW w w2 v' G' := by
  subst hal
  subst hG
  exact h.more hr f hv

set_option maxHeartbeats 2000000 in
set_option maxRecDepth 20000 in
theorem rfree_any {w : World} {q : Value} {F : List Nat} {n : Nat} {L : List Ob} (h : Ref w q F n L) : Calls Try.prog 53 #[q] w (FreePost w (gaps n 1 L)) := by
  obtain ⟨rb, vl, G, rfl, hL, rfl, h⟩ := h
  have hgl := h.glen
  have hns := h.small
  have HRS := hid h.rise
  rw [← hL] at HRS
  obtain ⟨a, cap, hv, hc1, hc2⟩ := h.ob.form
  obtain ⟨m, hm⟩ : ∃ m, m = G.length := ⟨_, rfl⟩
  have hLm : L.length = m := by rw [hL, List.length_map, hm]
  have HH := hid h
  have HM := hid hm
  have HL := hid hL
  have HLM := hid hLm
  rw [← hm] at hgl hc1 hv
  unfold maxLen at hc2
  subst hv
  obtain ⟨i0, hi0, hz0, hzs, hzb⟩ := info_parts info_Blk
  have HI := hid hi0
  have HZ0 := hid hz0
  have HZS := hid hzs
  have HZB := hid hzb
  clear h hm hL hLm hi0 hz0 hzs hzb
  unfold ptrV
  go_enter Try.func53, Try.ntmps53
  go_wp2_with fail
  go_loopw [3, 4, 5] (fun v e i wr => ∃ k : Nat, i = .int .i64 k ∧ k ≤ m + 1 ∧ e = .int .i64 (endO 1 (L.take k) : Nat) ∧ Hid (FreW w wr v (accG n L k))) (fun _ _ i _ => m + 1 - (intOf i).toNat)
  case atStart => exact ⟨0, rfl, by omega, rfl, hid ⟨RV.nil _ _ _, by simp [fpv, Value.ownBlock], Fr.refl _ _⟩⟩
  case round =>
    obtain ⟨k, rfl, hk, rfl, hr⟩ := hrel
    have HR := hid hr.out
    clear hr
    have HK := hid (HH.out.keep0 HR.out.fr)
    have hc := HK.out.c
    obtain ⟨c0, c1⟩ := hc
    obtain ⟨e, he⟩ : ∃ e, e = endO 1 (L.take k) := ⟨_, rfl⟩
    have hen : e ≤ n + 1 := by rw [he]; exact endO_le (Rise.take k HRS.out)
    have HE := hid he
    rw [← he]
    clear he
    obtain ⟨av, cv, hve, hcv1, hcv2⟩ := HR.out.sl.form
    have hal := accG_len n L k
    rw [HLM.out] at hal
    obtain ⟨al, hale⟩ : ∃ al, al = (accG n L k).length := ⟨_, rfl⟩
    have HAL := hid hale
    rw [← hale] at hve hcv1 hal
    subst hve
    clear hale
    by_cases hkm : k ≤ m
    · have hkm2 : (k : Int) ≤ m := by omega
      by_cases hlt : k < m
      · have hlt2 : (k : Int) < m := by omega
        have hkG : k < G.length := by rw [← HM.out]; exact hlt
        have hkL : k < L.length := by rw [HLM.out]; exact hlt
        obtain ⟨g, hg⟩ : ∃ g, G[k]? = some g := ⟨_, List.getElem?_eq_getElem hkG⟩
        have hLg : L[k] = g.1 := by
          have e2 : G[k] = g := Option.some.inj ((List.getElem?_eq_getElem hkG).symm.trans hg)
          simp only [HL.out, List.getElem_map, e2]
        have hob := Rise.obs HRS.out L[k] (List.getElem_mem hkL)
        obtain ⟨b, cap', e1, k0, _⟩ := HK.out.ob.cell (k * 3) (by omega)
        rw [← HM.out] at e1
        cases e1
        obtain ⟨b', cap'', e1, k2, _⟩ := HK.out.ob.cell (k * 3 + 2) (by omega)
        rw [← HM.out] at e1
        cases e1
        rw [(refL_get G k g hg).1] at k0
        rw [(refL_get G k g hg).2.2] at k2
        unfold vi at k0
        have hc2 := fun (wx : World) (hx : RefT wx rb (.slice (some ⟨b, 0, none⟩) m cap) G n) => show wx.cell? ⟨b, k * 3 + 2, none⟩ = some g.2 from by
          obtain ⟨b3, cap3, e1, k3, _⟩ := hx.ob.cell (k * 3 + 2) (by rw [← HM.out]; omega)
          rw [← HM.out] at e1
          cases e1
          rw [(refL_get G k g hg).2.2] at k3
          exact k3
        obtain ⟨aw, cw, hgw, _, _⟩ := (HK.out.ws g (List.mem_of_getElem? hg)).form
        rw [hgw] at k2 hc2
        have hst := accG_step (n := n) hkL
        have hend := endO_step hkL
        rw [hLg] at hob hst hend
        rw [← HE.out] at hst
        simp only [Ob.sz] at hob hend
        obtain ⟨y, hy⟩ : ∃ y : Nat, y = g.1.at' := ⟨_, rfl⟩
        obtain ⟨z, hz⟩ : ∃ y : Nat, y = g.1.ws.length := ⟨_, rfl⟩
        rw [← hy] at k0 hob hst hend
        rw [← hz] at k2 hc2 hob hend
        have HC2 := hid hc2
        have HST := hid hst
        have HEND := hid hend
        have hyb : (y : Int) + z ≤ 3000 := by omega
        clear hg hy hz hLg hst hend hgw hob hc2
        by_cases hey : e < y
        · have hey2 : (e : Int) < y := by omega
          obtain ⟨d, hd⟩ : ∃ d, d = y - e := ⟨_, rfl⟩
          have hd2 : (y : Int) - e = (d : Int) := by omega
          have hdb : (d : Int) ≤ 3000 := by omega
          have HD := hid hd
          have HSTE : Hid (accG n L (k + 1) = accG n L k ++ [(e, d)]) := hid (by rw [HST.out, if_pos hey, HD.out])
          have hsl := fun (t : Obj) => show RV (wr.alloc t) 36 2 (.slice av al cv) al (blkL (accG n L k)) from by rw [HAL.out]; have := HR.out.sl.keep0 ((Fr.refl [] wr).alloc t); rw [← HAL.out] at this ⊢; exact this
          have HSL := hid hsl
          clear hsl hd hey
          go_wp2_with (at_builtin; refine wp_append_rv rfl (.tmp 39) (.tmp 45) 33 rfl 36 i0 (.agg #[.int .i64 0, .int .i64 0]) 2 16 Try.underlying33 HI.out HZ0.out HZS.out HZB.out rfl (by decide) (.slice av al cv) al _ rfl (HSL.out _) ⟨wr.heap.size, 0, none⟩ 1 1 [vi e, vi d] rfl rfl (fun j u hj => cells_new wr [vi e, vi d] _ j u hj) (fun u hu => by simp only [List.mem_cons, List.not_mem_nil, or_false] at hu; rcases hu with rfl | rfl <;> rfl) (by unfold maxLen; omega) (by omega) ?_; intro a' c' w3 r3 f3 n3; have R3 := hid r3; have F3 := hid f3; have FW := hid (show FreW w w3 (.slice a' (al + 1) c') (accG n L (k + 1)) from FreW.more2 (g := (e, d)) HR.out HAL.out HSTE.out r3 f3 n3); have HK3 := HH.out.keep0 FW.out.fr; have c3 := HK3.c.2; have k3 := HC2.out _ HK3; clear r3 f3 n3 HK3)
          go_roundw
          case rel => exact ⟨k + 1, by go_num, by omega, by rw [HEND.out]; go_num, FW⟩
          case measure => simp [intOf]; omega
        · have hey2 : ¬ (e : Int) < y := by omega
          have hey3 : decide (e < y) = false := by simpa using hey
          have HSTE : Hid (accG n L (k + 1) = accG n L k) := hid (by rw [HST.out, if_neg hey, List.append_nil])
          clear hey hey2
          go_wp2_with fail
          go_roundw
          case rel => exact ⟨k + 1, by go_num, by omega, by rw [HEND.out]; go_num, hid (by rw [HSTE.out]; exact HR.out)⟩
          case measure => simp [intOf]; omega
      · obtain rfl : k = m := by omega
        have hlt2 : ¬ (k : Int) < k := by omega
        have hst := accG_last n L
        have hte : endO 1 (L.take k) = endO 1 L := by rw [List.take_of_length_le (by rw [HLM.out]; omega)]
        have hte2 : endO 1 (L.take (k + 1)) = endO 1 (L.take k) := by rw [hte, List.take_of_length_le (by rw [HLM.out]; omega)]
        rw [HLM.out, ← hte, ← HE.out] at hst
        have HST := hid hst
        have HEND := hid (show endO 1 (L.take (k + 1)) = e by rw [hte2, HE.out])
        have HRL : Hid (accG n L (k + 1) = gaps n 1 L) := hid (by unfold accG; rw [if_neg (by rw [HLM.out]; omega)])
        clear hst hte hte2 hlt
        by_cases hey : e ≤ n
        · have hey2 : (e : Int) < (n : Int) + 1 := by omega
          obtain ⟨d, hd⟩ : ∃ d, d = n + 1 - e := ⟨_, rfl⟩
          have hd2 : (n : Int) + 1 - e = (d : Int) := by omega
          have hdb : (d : Int) ≤ 3000 := by omega
          have HD := hid hd
          have HSTE : Hid (accG n L (k + 1) = accG n L k ++ [(e, d)]) := hid (by rw [HST.out, if_pos hey, HD.out])
          have hsl := fun (t : Obj) => show RV (wr.alloc t) 36 2 (.slice av al cv) al (blkL (accG n L k)) from by rw [HAL.out]; have := HR.out.sl.keep0 ((Fr.refl [] wr).alloc t); rw [← HAL.out] at this ⊢; exact this
          have HSL := hid hsl
          clear hsl hd hey
          go_wp2_with (at_builtin; refine wp_append_rv rfl (.tmp 39) (.tmp 45) 33 rfl 36 i0 (.agg #[.int .i64 0, .int .i64 0]) 2 16 Try.underlying33 HI.out HZ0.out HZS.out HZB.out rfl (by decide) (.slice av al cv) al _ rfl (HSL.out _) ⟨wr.heap.size, 0, none⟩ 1 1 [vi e, vi d] rfl rfl (fun j u hj => cells_new wr [vi e, vi d] _ j u hj) (fun u hu => by simp only [List.mem_cons, List.not_mem_nil, or_false] at hu; rcases hu with rfl | rfl <;> rfl) (by unfold maxLen; omega) (by omega) ?_; intro a' c' w3 r3 f3 n3; have FW := hid (show FreW w w3 (.slice a' (al + 1) c') (accG n L (k + 1)) from FreW.more2 (g := (e, d)) HR.out HAL.out HSTE.out r3 f3 n3); have HK3 := HH.out.keep0 FW.out.fr; have c3 := HK3.c.2; clear r3 f3 n3 HK3)
          go_roundw
          case rel => exact ⟨k + 1, rfl, by omega, by rw [HEND.out], FW⟩
          case measure => simp [intOf]
        · have hey3 : decide ((e : Int) < (n : Int) + 1) = false := by simp; omega
          have HSTE : Hid (accG n L (k + 1) = accG n L k) := hid (by rw [HST.out, if_neg hey, List.append_nil])
          clear hey
          go_wp2_with fail
          go_roundw
          case rel => exact ⟨k + 1, rfl, by omega, by rw [HEND.out], hid (by rw [HSTE.out]; exact HR.out)⟩
          case measure => simp [intOf]
    · obtain rfl : k = m + 1 := by omega
      have hlt2 : ¬ ((m : Int) + 1 ≤ m) := by omega
      have HRL : Hid (accG n L (m + 1) = gaps n 1 L) := hid (by unfold accG; rw [if_neg (by rw [HLM.out]; omega)])
      rw [Int.natCast_add, Int.natCast_one] at *
      clear hkm
      go_wp2_with fail
      go_ret
      exact ⟨_, rfl, by have := HR.out.sl; rw [HRL.out] at this; exact this, HR.out.fr, HR.out.nw⟩

def placeV (k : Nat) (G : List (Nat × Nat)) : Int := match place k G with | none => 0 | some x => (x : Int)
theorem placeV_take {k : Nat} {G : List (Nat × Nat)} {i : Nat} {g : Nat × Nat} (h : ∀ q ∈ G.take i, q.2 < k + 2) (hg : G[i]? = some g) (hk : k + 2 ≤ g.2) : placeV k G = g.1 := by
  have hi := (List.getElem?_eq_some_iff.1 hg).1
  have e : G = G.take i ++ g :: G.drop (i + 1) := by
    rw [← (List.getElem?_eq_some_iff.1 hg).2, ← List.drop_eq_getElem_cons hi, List.take_append_drop]
  unfold placeV
  have := place_of (k := k) (G1 := G.take i) (G2 := G.drop (i + 1)) (x := g.1) (m := g.2) h hk
  rw [← e] at this
  rw [this]
theorem placeV_none {k : Nat} {G : List (Nat × Nat)} (h : ∀ q ∈ G, q.2 < k + 2) : placeV k G = 0 := by
  unfold placeV
  rw [place_none.2 h]
set_option maxHeartbeats 1000000 in
set_option maxRecDepth 20000 in
theorem rplace_any {w : World} {q : Value} {F : List Nat} {n : Nat} {L : List Ob} (h : Ref w q F n L) (words : Nat) : Calls Try.prog 51 #[q, .int .i64 words] w fun e w' => e = .returned (.int .i64 (placeV words (gaps n 1 L))) ∧ Fr [] w w' := by
  have E := hid (rfree_any h)
  have hns : n ≤ 2048 := by obtain ⟨_, _, _, _, _, _, k⟩ := h; exact k.small
  have HS : Hid (∀ g ∈ gaps n 1 L, g.1 + g.2 ≤ 2049) := hid (fun g hg => by have := gaps_lb h.rise g hg; omega)
  obtain ⟨rb, rfl⟩ := h.form
  obtain ⟨G, hG⟩ : ∃ G, G = gaps n 1 L := ⟨_, rfl⟩
  rw [← hG] at E HS ⊢
  clear h hG
  go_enter Try.func51, Try.ntmps51
  go_wp2_with fail
  refine E.out.mono ?_
  rintro e w1 ⟨v1, rfl, hv, f1, n1⟩
  obtain ⟨a, cap, rfl, hc1, hc2⟩ := hv.form
  obtain ⟨m, hm⟩ : ∃ m, m = G.length := ⟨_, rfl⟩
  rw [← hm] at hv hc1 ⊢
  have HM := hid hm
  have HV := hid hv
  have F1 := hid f1
  unfold maxLen at hc2
  clear hv f1 n1 hm
  go_wp2_with fail
  go_loopw [6] (fun i wr => ∃ k : Nat, i = .int .i64 k ∧ k ≤ m ∧ Hid ((∀ q ∈ G.take k, q.2 < words + 2) ∧ Fr [] w1 wr)) (fun i _ => m - (intOf i).toNat)
  case atStart => exact ⟨0, rfl, by omega, hid ⟨by simp, Fr.refl _ _⟩⟩
  case round =>
    obtain ⟨k, rfl, hk, hr⟩ := hrel
    have HR := hid hr.out
    clear hr
    by_cases hlt : k < m
    · have hlt2 : (k : Int) < m := by omega
      have hkG : k < G.length := by rw [← HM.out]; exact hlt
      obtain ⟨⟨y, s⟩, hg⟩ : ∃ g, G[k]? = some g := ⟨_, List.getElem?_eq_getElem hkG⟩
      obtain ⟨b, cap', e, k0, _⟩ := (HV.out.keep0 HR.out.2).cell (k * 2) (by omega)
      cases e
      obtain ⟨b', cap'', e, k1, _⟩ := (HV.out.keep0 HR.out.2).cell (k * 2 + 1) (by omega)
      cases e
      obtain ⟨r0, r1⟩ := blkL_get _ _ _ hg
      rw [r0] at k0
      rw [r1] at k1
      unfold vi at k0 k1
      have hy := HS.out (y, s) (List.mem_of_getElem? hg)
      have HG := hid hg
      simp only [] at hy k0 k1
      have hsb : (s : Int) ≤ 2049 := by omega
      clear r0 r1 hg
      by_cases hw : words + 2 ≤ s
      · have hw2 : (words : Int) ≤ (s : Int) - 2 := by omega
        have HP := hid (placeV_take HR.out.1 HG.out hw)
        clear hw
        go_wp2_with fail
        go_ret
        exact ⟨by rw [HP.out]; rfl, F1.out.tr HR.out.2⟩
      · have hw2 : decide ((words : Int) ≤ (s : Int) - 2) = false := by simp; omega
        have HN := hid (show ∀ q ∈ G.take (k + 1), q.2 < words + 2 from fun q hq => by
          rw [List.take_add_one, HG.out] at hq
          rcases List.mem_append.1 hq with h1 | h1
          · exact HR.out.1 q h1
          · simp only [Option.toList, List.mem_singleton] at h1
            rw [h1]; simp only []; omega)
        clear hw
        go_wp2_with fail
        go_roundw
        case rel => exact ⟨k + 1, by go_num, by omega, hid ⟨HN.out, HR.out.2⟩⟩
        case measure => simp [intOf]; omega
    · obtain rfl : k = m := by omega
      have hlt2 : ¬ (k : Int) < k := by omega
      have HP := hid (placeV_none (k := words) (G := G) (by have := HR.out.1; rw [HM.out, List.take_length] at this; exact this))
      clear hlt
      go_wp2_with fail
      go_ret
      exact ⟨by rw [HP.out]; rfl, F1.out.tr HR.out.2⟩

end Go.Proofs.Ytgakkkifohkikaa
