/-
  The reference's arena (loomref11): Release.
-/
import Derived.Test.YtgakkkifohkikaaRefC
namespace Go.Proofs.Ytgakkkifohkikaa
open Go.RowKit

def RRelPost (w : World) (q : Value) (F : List Nat) (n : Nat) (L : List Ob) (x : Int) (e : Ending) (w' : World) : Prop := e = .returned (.int .i64 (relE L x)) ∧ RMoved w w' q F n (relL L x)
theorem find_split {n a : Nat} {L : List Ob} (h : Rise n a L) {x : Int} {i : Nat} (hi : i < L.length) (hx : (L[i].at' : Int) = x) : relE L x = 0 ∧ relL L x = L.take i ++ L.drop (i + 1) := by
  have hh : has L x = true := has_mem.2 (List.mem_map.2 ⟨L[i], List.getElem_mem hi, hx⟩)
  unfold relE relL
  rw [hh]
  refine ⟨rfl, ?_⟩
  have e2 : L = L.take i ++ (L[i] :: L.drop (i + 1)) := by rw [← (take_drop_succ hi).2, List.take_append_drop]
  have hs := h.neq
  have hs2 := e2 ▸ hs
  rw [List.pairwise_append, List.pairwise_cons] at hs2
  obtain ⟨_, ⟨s1, _⟩, s3⟩ := hs2
  have d1 : ∀ q ∈ L.take i, (!decide ((q.at' : Int) = x)) = true := by
    intro q hq
    have := s3 q hq L[i] List.mem_cons_self
    simp only [Bool.not_eq_true', decide_eq_false_iff_not]
    omega
  have d2 : ∀ q ∈ L.drop (i + 1), (!decide ((q.at' : Int) = x)) = true := by
    intro q hq
    have := s1 q hq
    simp only [Bool.not_eq_true', decide_eq_false_iff_not]
    omega
  show arDrop L x = _
  unfold arDrop
  conv => lhs; rw [e2]
  rw [List.filter_append, List.filter_cons_of_neg (by simp [hx]), List.filter_eq_self.2 d1, List.filter_eq_self.2 d2]

theorem fpG_sub {G H : List (Ob × Value)} (h : G.Sublist H) : (fpG G).Sublist (fpG H) := by
  induction h with
  | slnil => exact List.Sublist.refl _
  | cons a h ih => exact ih.trans (List.sublist_append_right _ _)
  | cons_cons a h ih => exact List.Sublist.append (List.Sublist.refl _) ih
theorem rrel_end {w w1 w4 : World} {rb n m i : Nat} {vl v4 : Value} {G : List (Ob × Value)} (HK : RefT w1 rb vl G n) (f0 : Fr [] w w1) (f14 : Fr [] w1 w4)
    (hr : RV w4 58 3 v4 (i + (m - (i + 1))) ((refL G).take (i * 3) ++ (refL G).drop ((i + 1) * 3))) (hm : m = G.length) (hi : i < m) (hv4 : ∀ b ∈ fpv v4, w1.heap.size ≤ b) (hrise : Rise n 1 ((G.map (·.1)).take i ++ (G.map (·.1)).drop (i + 1))) :
    RMoved w (w4.setCell ⟨rb, 1, none⟩ v4) (ptrV rb) (rb :: (fpv vl ++ fpG G)) n ((G.map (·.1)).take i ++ (G.map (·.1)).drop (i + 1)) := by
  have hlt := HK.lt
  have hnd := HK.nd
  rw [List.nodup_cons, List.nodup_append] at hnd
  obtain ⟨hn1, hn2, hn3, hn4⟩ := hnd
  have hrbl : rb < w1.heap.size := hlt rb (by simp)
  have hsub : (G.take i ++ G.drop (i + 1)).Sublist G := by
    have e : G = G.take i ++ G.drop i := (List.take_append_drop i G).symm
    conv => rhs; rw [e]
    refine List.Sublist.append (List.Sublist.refl _) ?_
    rw [← List.drop_drop]
    exact List.drop_sublist _ _
  have hsubG : (fpG (G.take i ++ G.drop (i + 1))).Sublist (fpG G) := by
    exact fpG_sub hsub
  have hb4 : w4.heap[rb]? = some (.cells #[.int .i64 n, vl] 61 (0, 0)) := f14.obj HK.blk (by simp)
  have f46 : Fr [rb] w4 (w4.setCell ⟨rb, 1, none⟩ v4) := (Fr.refl [rb] w4).setCell (.inl (by simp)) _
  have hmap : (G.take i ++ G.drop (i + 1)).map (·.1) = (G.map (·.1)).take i ++ (G.map (·.1)).drop (i + 1) := by rw [List.map_append, List.map_take, List.map_drop]
  have hrb4 : rb ∉ fpv v4 := fun h => by have := hv4 rb h; omega
  have hws : WsT (w4.setCell ⟨rb, 1, none⟩ v4) G := (HK.ws.keep f14 (by simp)).keep f46 (fun b hb hm => hn1 (List.mem_append_right _ (List.mem_singleton.1 hm ▸ hb)))
  refine ⟨_, ⟨rb, v4, G.take i ++ G.drop (i + 1), rfl, hmap.symm, rfl, heap_setCell_same w4 rb 1 _ _ v4 hb4, ?_, fun g hg => hws g (hsub.subset hg), by rw [hmap]; exact hrise, HK.small, ?_⟩, ?_, ?_⟩
  · have e1 : (G.take i ++ G.drop (i + 1)).length = i + (m - (i + 1)) := by rw [List.length_append, List.length_take, List.length_drop, ← hm]; omega
    have e2 : refL (G.take i ++ G.drop (i + 1)) = (refL G).take (i * 3) ++ (refL G).drop ((i + 1) * 3) := by rw [refL_append, refL_take, refL_drop]
    rw [e1, e2]
    exact hr.keep f46 (fun b hb hm => hrb4 (List.mem_singleton.1 hm ▸ hb))
  · rw [List.nodup_cons, List.nodup_append]
    have hnv : (fpv v4).Nodup := by
      obtain ⟨a, c, e, _⟩ := hr.form
      rw [e]
      cases a <;> simp [fpv, Value.ownBlock]
    refine ⟨fun hm => ?_, hnv, hsubG.nodup hn3, fun x hx y hy e => ?_⟩
    · rcases List.mem_append.1 hm with h | h
      · exact hrb4 h
      · exact hn1 (List.mem_append_right _ (hsubG.subset h))
    · have h1 := hv4 x hx
      have h2 := hlt y (List.mem_cons_of_mem _ (List.mem_append_right _ (hsubG.subset hy)))
      omega
  · exact ((f0.sub (by simp)).tr (f14.sub (by simp))).tr (f46.sub (fun b hb => .inl (by simp at hb; simp [hb])))
  · intro b hb
    rcases List.mem_cons.1 hb with rfl | hb
    · exact .inl (by simp)
    · rcases List.mem_append.1 hb with h | h
      · exact .inr (Nat.le_trans f0.size (hv4 b h))
      · exact .inl (List.mem_cons_of_mem _ (List.mem_append_right _ (hsubG.subset h)))
theorem RMoved.drew {w w' : World} {q : Value} {F : List Nat} {n : Nat} {L : List Ob} (h : RMoved w w' q F n L) : RMoved w w'.drew q F n L := by
  obtain ⟨F', h1, h2, h3⟩ := h
  exact ⟨F', h1.keep0 ((Fr.refl _ _).drew), h2.drew, h3⟩

set_option maxHeartbeats 4000000 in
set_option maxRecDepth 20000 in
theorem rrelease_any {w : World} {q : Value} {F : List Nat} {n : Nat} {L : List Ob} (h : Ref w q F n L) (x : Int) :
    Calls Try.prog 25 #[q, .int .i64 x] w (RRelPost w q F n L x) := by
  have E := hid (rfind_any h x)
  have H0 := hid h
  obtain ⟨rb, vl, G, rfl, rfl, rfl, h⟩ := h
  have HH := hid h
  clear h
  unfold ptrV
  go_enter Try.func25, Try.ntmps25
  go_wp2_with fail
  refine E.out.mono ?_
  rintro e w1 ⟨⟨r, rfl, hr⟩, f1⟩
  rcases hr with ⟨rfl, hno⟩ | ⟨i, hi, rfl, hx⟩
  · have HF : Hid (RRelPost w (ptrV rb) (rb :: (fpv vl ++ fpG G)) n (G.map (·.1)) x (.returned (.int .i64 111)) w1) := hid (by
      unfold RRelPost relE relL
      rw [hno]
      exact ⟨rfl, _, H0.out.keep0 f1, f1.sub (by simp), fun b hb => .inl hb⟩)
    clear hno f1
    go_wp2_with fail
    go_ret
    exact HF.out
  · obtain ⟨hE, hL⟩ := find_split HH.out.rise hi hx
    have hgl := HH.out.glen
    rw [List.length_map] at hi
    obtain ⟨a, cap, hv, hc1, hc2⟩ := HH.out.ob.form
    obtain ⟨m, hm⟩ : ∃ m, m = G.length := ⟨_, rfl⟩
    have HM := hid hm
    have HRR := hid (show Rise n 1 (relL (G.map (·.1)) x) from by
      rw [hL]
      have e2 : G.map (·.1) = (G.map (·.1)).take i ++ ((G.map (·.1))[i] :: (G.map (·.1)).drop (i + 1)) := by rw [← (take_drop_succ (by rw [List.length_map]; exact hi)).2, List.take_append_drop]
      have hr := HH.out.rise
      rw [e2] at hr
      exact Rise.drop hr)
    have HE := hid hE
    have HL := hid hL
    have H1 := hid (HH.out.keep0 f1)
    have F1 := hid f1
    rw [← hm] at hgl hc1 hv hi
    unfold maxLen at hc2
    subst hv
    rcases H1.out.ob.parts with ⟨_, h0, _⟩ | ⟨b, cap', cur, e1, hh, _, _, hs, ht⟩
    · omega
    rw [← HM.out] at e1
    cases e1
    have HROW := hid (And.intro hh (And.intro hs ht))
    obtain ⟨i0, hi0, hz0, hzs, hzb⟩ := info_parts info_Obj
    have HI0 := hid hi0
    have HZ0 := hid hz0
    have HZS := hid hzs
    have HZB := hid hzb
    have c1 := H1.out.c.2
    have z1 := H1.out.fz 1
    have hib : (i : Int) < m := by omega
    have hib2 : (i : Int) ≤ 1024 := by omega
    have hbrb : b ≠ rb := fun e => by
      have := HH.out.nd
      rw [List.nodup_cons] at this
      exact this.1 (List.mem_append_left _ (by simp [fpv, Value.ownBlock, e]))
    have HBRB := hid hbrb
    have HC : Hid (∀ (w' : World), Fr [] w1 w' → ∀ j u, (refL G)[j]? = some u → w'.cell? ⟨b, j, none⟩ = some u) := hid (fun w' f j u hj => by
      have hjl := (List.getElem?_eq_some_iff.1 hj).1
      rw [refL_length] at hjl
      obtain ⟨b', c', e, h1, _⟩ := (H1.out.keep0 f).ob.cell j hjl
      rw [← HM.out] at e
      cases e
      rw [h1, List.getD, hj]; rfl)
    have hrl : rb < w1.heap.size := lt_of_block H1.out.blk
    have HNR : Hid (∀ S : List Nat, (∀ x ∈ S, w1.heap.size ≤ x) → rb ∉ S) := hid (fun S h hm => by have := h rb hm; omega)
    have hw1 : IntKind.i64.wrap ((i : Int) + 1) = (i : Int) + 1 := by rw [IntKind.wrap_i64]; omega
    have hb1 : (0 : Int) ≤ (i : Int) + 1 := by omega
    have htn : ((i : Int) + 1).toNat = i + 1 := by omega
    have hic : i ≤ cap := by omega
    have hi2 : (i : Int) + 1 ≤ m := by omega
    have hi3 : (i : Int) ≤ cap := by omega
    have hin0 : decide ((i : Int) < 0) = false := by simp
    clear hE hL f1 hm hh hs ht hi0 hz0 hzs hzb hx hbrb hrl
    by_cases hcap : cap = i + 1
    · have hmi : m = i + 1 := by omega
      subst hcap
      subst hmi
      have hsub0 : i + 1 - (i + 1) = 0 := by omega
      have hkc2 : (i : Int) ≤ (i : Int) + 1 := by omega
      go_wp2_with fail
      go_region_law (first | (refine step_append_rv rfl (.const (.slice none 0 0)) (.tmp 17) 59 rfl 58 i0 (.agg #[.int .i64 0, .int .i64 0, .slice none 0 0]) 3 40 Try.underlying59 HI0.out HZ0.out HZS.out HZB.out rfl (by decide) (.slice none 0 0) 0 [] rfl (RV.nil _ _ _) ⟨b, 0, none⟩ i (i + 1) ((refL G).take (i * 3)) (by simp [Act.eval, Act.put]) (by rw [List.length_take, refL_length, ← HM.out]; omega) (fun j u hj => by rw [Addr.add_lit, Nat.zero_add]; exact HC.out _ (by first | exact Fr.refl _ _ | exact (Fr.refl _ _).drew) j u (by rw [List.getElem?_take] at hj; split at hj; exact hj; cases hj)) (fun u hu => refL_one HH.out.ws u (List.mem_of_mem_take hu)) (by unfold maxLen; omega) (by omega) ?_; intro a3 c3 w3 r3 f3 n3; simp only [Nat.zero_add, List.nil_append] at r3 n3 ⊢; have F13 : Hid (Fr [] w1 w3) := hid (Fr.tr (by first | exact Fr.refl _ _ | exact (Fr.refl _ _).drew) f3); have R3 := hid r3; have N3 : Hid (∀ x ∈ fpv (.slice a3 i c3), w1.heap.size ≤ x) := hid (fun x hx => (n3 x hx).elim (fun h => by cases h) (fun h => h)); have c13 := F13.out.cell c1 (by simp); clear r3 f3 n3) | (refine step_append_rv rfl (.tmp 18) (.tmp 25) 59 rfl 58 i0 (.agg #[.int .i64 0, .int .i64 0, .slice none 0 0]) 3 40 Try.underlying59 HI0.out HZ0.out HZS.out HZB.out rfl (by decide) (.slice a3 i c3) i ((refL G).take (i * 3)) (by simp [Act.eval, Act.put]) R3.out ⟨b, 0, none⟩ 0 0 [] (by simp [Act.eval, Act.put]) (by simp) (by simp) (by simp) (by unfold maxLen; omega) (by omega) ?_; intro a4 c4 w4 r4 f4 n4; have R4 := hid r4; have F4 := hid f4; have N4 := hid n4; have hnr := HNR.out _ N3.out; have c14 := f4.cell c13 hnr; have z14 := f4.frozen c13 (F13.out.frozen c1 z1 (by simp)) hnr; clear r4 f4 n4 hnr))
      all_goals
        have HFIN := hid (rrel_end (w := w) (m := i + 1) (i := i) H1.out F1.out (F13.out.trans F4.out (fun x hx => .inr (N3.out x hx))) (by have := R4.out; rw [show (refL G).drop ((i + 1) * 3) = [] from List.drop_eq_nil_of_le (by rw [refL_length, ← HM.out]; exact Nat.le_refl _)]; rw [Nat.sub_self]; exact this) HM.out hi (fun x hx => by
          rcases N4.out x hx with h | h
          · exact N3.out x h
          · exact Nat.le_trans F13.out.size h) (by rw [← HL.out]; exact HRR.out))
        go_wp2_with fail
        go_ret
        refine ⟨by rw [HE.out]; rfl, ?_⟩
        rw [HL.out]
        first | exact HFIN.out | exact HFIN.out.drew
    · have hcap2 : ¬ (cap = i + 1) := hcap
      go_wp2_with fail
      go_region_law (first | (refine step_append_rv rfl (.const (.slice none 0 0)) (.tmp 17) 59 rfl 58 i0 (.agg #[.int .i64 0, .int .i64 0, .slice none 0 0]) 3 40 Try.underlying59 HI0.out HZ0.out HZS.out HZB.out rfl (by decide) (.slice none 0 0) 0 [] rfl (RV.nil _ _ _) ⟨b, 0, none⟩ i cap ((refL G).take (i * 3)) (by simp [Act.eval, Act.put]) (by rw [List.length_take, refL_length, ← HM.out]; omega) (fun j u hj => by rw [Addr.add_lit, Nat.zero_add]; exact HC.out _ (by first | exact Fr.refl _ _ | exact (Fr.refl _ _).drew) j u (by rw [List.getElem?_take] at hj; split at hj; exact hj; cases hj)) (fun u hu => refL_one HH.out.ws u (List.mem_of_mem_take hu)) (by unfold maxLen; omega) (by omega) ?_; intro a3 c3 w3 r3 f3 n3; simp only [Nat.zero_add, List.nil_append] at r3 n3 ⊢; have F13 : Hid (Fr [] w1 w3) := hid (Fr.tr (by first | exact Fr.refl _ _ | exact (Fr.refl _ _).drew) f3); have R3 := hid r3; have N3 : Hid (∀ x ∈ fpv (.slice a3 i c3), w1.heap.size ≤ x) := hid (fun x hx => (n3 x hx).elim (fun h => by cases h) (fun h => h)); have c13 := F13.out.cell c1 (by simp); clear r3 f3 n3) | (refine step_append_rv rfl (.tmp 18) (.tmp 25) 59 rfl 58 i0 (.agg #[.int .i64 0, .int .i64 0, .slice none 0 0]) 3 40 Try.underlying59 HI0.out HZ0.out HZS.out HZB.out rfl (by decide) (.slice a3 i c3) i ((refL G).take (i * 3)) (by simp [Act.eval, Act.put]) R3.out ⟨b, (i + 1) * 3, none⟩ (m - (i + 1)) (cap - (i + 1)) ((refL G).drop ((i + 1) * 3)) (by simp [Act.eval, Act.put]) (by rw [List.length_drop, refL_length, ← HM.out]; omega) (fun j u hj => by rw [Addr.add_lit]; rw [List.getElem?_drop] at hj; exact HC.out _ F13.out _ u hj) (fun u hu => refL_one HH.out.ws u (List.mem_of_mem_drop hu)) (by unfold maxLen; omega) (by omega) ?_; intro a4 c4 w4 r4 f4 n4; have R4 := hid r4; have F4 := hid f4; have N4 := hid n4; have hnr := HNR.out _ N3.out; have c14 := f4.cell c13 hnr; have z14 := f4.frozen c13 (F13.out.frozen c1 z1 (by simp)) hnr; clear r4 f4 n4 hnr))
      all_goals
        have HFIN := hid (rrel_end (w := w) (m := m) (i := i) H1.out F1.out (F13.out.trans F4.out (fun x hx => .inr (N3.out x hx))) R4.out HM.out hi (fun x hx => by
          rcases N4.out x hx with h | h
          · exact N3.out x h
          · exact Nat.le_trans F13.out.size h) (by rw [← HL.out]; exact HRR.out))
        go_wp2_with fail
        go_ret
        refine ⟨by rw [HE.out]; rfl, ?_⟩
        rw [HL.out]
        first | exact HFIN.out | exact HFIN.out.drew

end Go.Proofs.Ytgakkkifohkikaa
