/-
  The reference's arena (loomref11): Alloc.
-/
import Derived.Test.YtgakkkifohkikaaRefB
namespace Go.Proofs.Ytgakkkifohkikaa
open Go.RowKit

theorem info_Obj : (Try.prog.info? 58).map (fun i => (i.zero, i.size, i.bytes)) = some (some (.agg #[.int .i64 0, .int .i64 0, .slice none 0 0]), 3, 40) := by kernel_rfl
theorem size_Obj : (Try.prog.info? 58).map (·.size) = some 3 := by kernel_rfl

theorem ralloc_bad {w : World} {q : Value} {F : List Nat} {n : Nat} {L : List Ob} (h : Ref w q F n L) (c k : Int) (hck : c < 0 ∨ k < 0) :
    Calls Try.prog 24 #[q, .int .i64 c, .int .i64 k] w fun e w' => e = .returned (.tuple #[.int .i64 0, .int .i64 111]) ∧ w = w' := by
  obtain ⟨rb, rfl⟩ := h.form
  clear h
  by_cases hc : c < 0
  · clear hck
    go_enter Try.func24, Try.ntmps24
    go_wp2_with fail
    go_ret2
    exact ⟨rfl, rfl⟩
  · have hc2 : decide (c < 0) = false := by simpa using hc
    have hk : k < 0 := by omega
    clear hck hc
    go_enter Try.func24, Try.ntmps24
    go_wp2_with fail
    go_ret2
    exact ⟨rfl, rfl⟩
theorem ralloc_none {w : World} {q : Value} {F : List Nat} {n : Nat} {L : List Ob} (h : Ref w q F n L) (c k : Nat) (hp : place k (gaps n 1 L) = none) :
    Calls Try.prog 24 #[q, .int .i64 c, .int .i64 k] w fun e w' => e = .returned (.tuple #[.int .i64 0, .int .i64 110]) ∧ Fr [] w w' := by
  have E := hid (rplace_any h k)
  unfold placeV at E
  rw [hp] at E
  obtain ⟨rb, rfl⟩ := h.form
  have hb1 : decide ((c : Int) < 0) = false := by simp
  have hb2 : decide ((k : Int) < 0) = false := by simp
  clear h hp
  go_enter Try.func24, Try.ntmps24
  go_wp2_with fail
  refine E.out.mono ?_
  rintro e w1 ⟨rfl, f1⟩
  have F1 := hid f1
  clear f1
  go_wp2_with fail
  go_ret2
  exact ⟨rfl, F1.out⟩

/-- one element more, in the midst -/
theorem ins_row {w1 w2 w3 : World} {b cap m i : Nat} {X1 X2 z3 n3 : List Value} (h : RV w1 58 3 (.slice (some ⟨b, 0, none⟩) (m + 1) cap) (m + 1) (X1 ++ X2 ++ z3)) (hX1 : X1.length = i * 3) (hX2 : X2.length = (m - i) * 3) (hi : i ≤ m) (hn3 : n3.length = 3)
    (h2 : ∀ cur : Array Value, w1.heap[b]? = some (.cells cur 58 (0, 0)) → w2.heap[b]? = some (.cells (overw cur.toList ((i + 1) * 3) X2).toArray 58 (0, 0)))
    (h3 : ∀ cur : Array Value, w2.heap[b]? = some (.cells cur 58 (0, 0)) → w3.heap[b]? = some (.cells (overw cur.toList (i * 3) n3).toArray 58 (0, 0))) :
    RV w3 58 3 (.slice (some ⟨b, 0, none⟩) (m + 1) cap) (m + 1) (X1 ++ n3 ++ X2) := by
  rcases h.parts with ⟨e, _⟩ | ⟨b', cap', cur, e, hh, hl, hc, hs, ht⟩
  · cases e
  cases e
  have hcl : cur.toList.length = cap * 3 := by rw [Array.length_toList, hs]
  have k2 := h3 _ (h2 cur hh)
  rw [List.toList_toArray] at k2
  have hol : (overw cur.toList ((i + 1) * 3) X2).length = cap * 3 := by rw [overw_length (by rw [hX2, hcl]; omega), hcl]
  have e0 : overw (overw cur.toList ((i + 1) * 3) X2) (i * 3) n3 = cur.toList.take (i * 3) ++ (n3 ++ (X2 ++ cur.toList.drop ((i + 1) * 3 + X2.length))) :=
    overw_overw (by rw [hn3]; omega) (by rw [hcl]; omega)
  have e3 : cur.toList.take (i * 3) = X1 := by
    have : (cur.toList.take ((m + 1) * 3)).take (i * 3) = (X1 ++ X2 ++ z3).take (i * 3) := by rw [ht]
    rw [List.take_take, Nat.min_eq_left (by omega), List.append_assoc, ← hX1, List.take_left] at this
    rw [← hX1]; exact this
  refine RV.mk k2 hl hc ?_ ?_
  · rw [List.size_toArray, overw_length (by rw [hn3, hol]; omega), hol]
  · rw [List.toList_toArray, e0, e3]
    have e4 : (m + 1) * 3 = (X1 ++ n3 ++ X2).length := by rw [List.length_append, List.length_append, hX1, hn3, hX2]; omega
    rw [e4, ← List.append_assoc, ← List.append_assoc]
    exact List.take_left

theorem nodup_in {A B : List Nat} {g : Nat} (h : (A ++ B).Nodup) (hA : g ∉ A) (hB : g ∉ B) : (A ++ g :: B).Nodup := by
  rw [List.nodup_append] at h ⊢
  obtain ⟨h1, h2, h3⟩ := h
  refine ⟨h1, List.nodup_cons.2 ⟨hB, h2⟩, fun x hx y hy => ?_⟩
  rcases List.mem_cons.1 hy with rfl | hy
  · exact fun e => hA (e ▸ hx)
  · exact h3 x hx y hy
theorem ralloc_end {w wr w6 : World} {rb n m k c x' g c3 b3 : Nat} {vl : Value} {P1 P2 : List (Ob × Value)} {L1 L2 : List Ob} (HK : RefT wr rb vl (P1 ++ P2) n) (f0 : Fr [] w wr) (f6 : Fr (rb :: b3 :: fpv vl) wr w6)
    (hb3 : b3 ∈ fpv vl ∨ wr.heap.size ≤ b3) (hb6 : w6.heap[rb]? = some (.cells #[.int .i64 n, .slice (some ⟨b3, 0, none⟩) (m + 1) c3] 61 (0, 0)))
    (row : RV w6 58 3 (.slice (some ⟨b3, 0, none⟩) (m + 1) c3) (m + 1) (refL P1 ++ [vi x', vi c, .slice (some ⟨g, 0, none⟩) k k] ++ refL P2)) (hm : m = (P1 ++ P2).length)
    (hw : RV w6 45 1 (.slice (some ⟨g, 0, none⟩) k k) k (vus (List.replicate k 0))) (hg : wr.heap.size ≤ g) (hg3 : g ≠ b3) (hrise : Rise n 1 (L1 ++ newOb x' c k :: L2)) (hP1 : P1.map (·.1) = L1) (hP2 : P2.map (·.1) = L2) :
    RMoved w w6 (ptrV rb) (rb :: (fpv vl ++ fpG (P1 ++ P2))) n (L1 ++ newOb x' c k :: L2) := by
  have hlt := HK.lt
  have hnd := HK.nd
  rw [List.nodup_cons, List.nodup_append] at hnd
  obtain ⟨hn1, hn2, hn3, hn4⟩ := hnd
  have hfpv : fpv (.slice (some ⟨b3, 0, none⟩) (m + 1) c3) = [b3] := by simp [fpv, Value.ownBlock]
  have hfpg : fpv (.slice (some ⟨g, 0, none⟩) k k) = [g] := by simp [fpv, Value.ownBlock]
  have hG : fpG (P1 ++ (newOb x' c k, .slice (some ⟨g, 0, none⟩) k k) :: P2) = fpG P1 ++ g :: fpG P2 := by
    unfold fpG
    rw [List.flatMap_append, List.flatMap_cons, hfpg]; rfl
  have hG0 : fpG (P1 ++ P2) = fpG P1 ++ fpG P2 := by unfold fpG; rw [List.flatMap_append]
  have hltG : ∀ b ∈ fpG (P1 ++ P2), b < wr.heap.size := fun b hb => hlt b (List.mem_cons_of_mem _ (List.mem_append_right _ hb))
  have hb3G : b3 ∉ fpG (P1 ++ P2) := fun hb => by
    rcases hb3 with h1 | h1
    · exact hn4 b3 h1 b3 hb rfl
    · have := hltG b3 hb; omega
  have hgG : g ∉ fpG (P1 ++ P2) := fun hb => by have := hltG g hb; omega
  have hrbl : rb < wr.heap.size := hlt rb (by simp)
  have hb3rb : rb ≠ b3 := fun e => by
    rcases hb3 with h1 | h1
    · exact hn1 (List.mem_append_left _ (e ▸ h1))
    · omega
  have hws : WsT w6 (P1 ++ P2) := HK.ws.keep f6 (fun b hb hm => by
    rcases List.mem_cons.1 hm with rfl | hm
    · exact hn1 (List.mem_append_right _ hb)
    · rcases List.mem_cons.1 hm with rfl | hm
      · exact hb3G hb
      · exact hn4 b hm b hb rfl)
  refine ⟨_, ⟨rb, .slice (some ⟨b3, 0, none⟩) (m + 1) c3, P1 ++ (newOb x' c k, .slice (some ⟨g, 0, none⟩) k k) :: P2, rfl, by rw [List.map_append, List.map_cons, hP1, hP2], rfl, hb6, ?_, ?_, by rw [List.map_append, List.map_cons, hP1, hP2]; exact hrise, HK.small, ?_⟩, ?_, ?_⟩
  · have e1 : (P1 ++ (newOb x' c k, (.slice (some ⟨g, 0, none⟩) k k : Value)) :: P2).length = m + 1 := by rw [hm, List.length_append, List.length_append, List.length_cons]; omega
    have e2 : refL (P1 ++ (newOb x' c k, (.slice (some ⟨g, 0, none⟩) k k : Value)) :: P2) = refL P1 ++ [vi x', vi c, .slice (some ⟨g, 0, none⟩) k k] ++ refL P2 := by
      rw [refL_append, refL_cons, List.append_assoc]; rfl
    rw [e1, e2]
    exact row
  · intro q hq
    rcases List.mem_append.1 hq with h1 | h1
    · exact hws q (List.mem_append_left _ h1)
    · rcases List.mem_cons.1 h1 with rfl | h1
      · have e3 : (newOb x' c k).ws.length = k := by simp [newOb]
        rw [e3]
        exact hw
      · exact hws q (List.mem_append_right _ h1)
  · rw [hfpv, hG]
    rw [hG0] at hgG hb3G hn3 hn1
    have hnd2 := nodup_in hn3 (fun h => hgG (List.mem_append_left _ h)) (fun h => hgG (List.mem_append_right _ h))
    have hmem : ∀ y, y ∈ fpG P1 ++ g :: fpG P2 → y = g ∨ y ∈ fpG P1 ++ fpG P2 := fun y hy => by
      simp only [List.mem_append, List.mem_cons] at hy ⊢
      rcases hy with h | h | h
      · exact .inr (.inl h)
      · exact .inl h
      · exact .inr (.inr h)
    rw [List.singleton_append, List.nodup_cons, List.nodup_cons]
    refine ⟨fun hm => ?_, fun hm => ?_, hnd2⟩
    · rcases List.mem_cons.1 hm with h | h
      · exact hb3rb h
      · rcases hmem rb h with h | h
        · omega
        · exact hn1 (List.mem_append_right _ h)
    · rcases hmem b3 hm with h | h
      · exact hg3 h.symm
      · exact hb3G h
  · refine (f0.sub (by simp)).trans f6 (fun b hb => ?_)
    rcases List.mem_cons.1 hb with rfl | hb
    · exact .inl (by simp)
    · rcases List.mem_cons.1 hb with rfl | hb
      · rcases hb3 with h1 | h1
        · exact .inl (by simp [h1])
        · exact .inr (Nat.le_trans f0.size h1)
      · exact .inl (by simp [hb])
  · intro b hb
    rw [hfpv, hG] at hb
    simp only [List.mem_cons, List.mem_append, List.singleton_append] at hb
    rcases hb with rfl | rfl | h | rfl | h
    · exact .inl (by simp)
    · rcases hb3 with h1 | h1
      · exact .inl (by simp [h1])
      · exact .inr (Nat.le_trans f0.size h1)
    · exact .inl (by rw [hG0]; simp [h])
    · exact .inr (Nat.le_trans f0.size hg)
    · exact .inl (by rw [hG0]; simp [h])

theorem made_u64 (k : Nat) : madeCells (Value.int .u64 0).cells k = (vus (List.replicate k 0)).toArray := by
  apply Array.ext
  · simp [madeCells, vus]
  · intro i h1 h2
    simp [madeCells, vus, Value.cells, vu, Nat.mod_one]
def RAlPost (w : World) (q : Value) (F : List Nat) (n : Nat) (L : List Ob) (x : Nat) (e : Ending) (w' : World) : Prop := e = .returned (.tuple #[.int .i64 x, .int .i64 0]) ∧ RMoved w w' q F n L

set_option maxHeartbeats 4000000 in
set_option maxRecDepth 20000 in
theorem ralloc_some {w : World} {q : Value} {F : List Nat} {n : Nat} {L L' : List Ob} (h : Ref w q F n L) (c k : Nat) {x : Nat} (hal : arAlloc n L c k = some (x, L')) :
    Calls Try.prog 24 #[q, .int .i64 c, .int .i64 k] w (RAlPost w q F n L' x) := by
  have E := hid (rplace_any h k)
  unfold arAlloc at hal
  unfold placeV at E
  cases hp : place k (gaps n 1 L) with
  | none => rw [hp] at hal; cases hal
  | some x' =>
  rw [hp] at hal E
  simp only [Option.some.injEq, Prod.mk.injEq] at hal
  obtain ⟨rfl, rfl⟩ := hal
  obtain ⟨G1, mm, G2, hg, hkm, _⟩ := place_some hp
  obtain ⟨L1, L2, rfl, l1, l2, l3⟩ := gaps_take h.rise hg
  have hnew := (l3 (newOb x' c k) rfl (by simp [newOb, Ob.sz]; omega)).2
  have hlb := gaps_lb h.rise (x', mm) (by rw [hg]; simp)
  simp only [] at hlb
  have hins : insOb (newOb x' c k) (L1 ++ L2) = L1 ++ newOb x' c k :: L2 := insOb_split (fun o ho => by have := l1 o ho; have e : (newOb x' c k).at' = x' := rfl; rw [e]; simp only [Ob.sz] at this; omega) (fun o ho => by have := l2 o ho; have e : (newOb x' c k).at' = x' := rfl; rw [e]; omega)
  rw [hins]
  obtain ⟨rb, vl, G, rfl, hLG, rfl, h⟩ := h
  have hgl := h.glen
  have hns := h.small
  obtain ⟨P1, P2, rfl, hP1, hP2⟩ := List.map_eq_append_iff.1 hLG.symm
  obtain ⟨a, cap, hv, hc1, hc2⟩ := h.ob.form
  obtain ⟨m, hm⟩ : ∃ m, m = (P1 ++ P2).length := ⟨_, rfl⟩
  obtain ⟨i, hi⟩ : ∃ i, i = P1.length := ⟨_, rfl⟩
  have him : i ≤ m := by rw [hi, hm, List.length_append]; omega
  have HH := hid h
  have HM := hid hm
  have HI := hid hi
  rw [← hm] at hgl hc1 hv
  unfold maxLen at hc2
  subst hv
  have hxb : (x' : Int) ≤ 2049 := by omega
  have hx0 : ((x' : Int) == 0) = false := by
    have : ¬ (x' : Int) = 0 := by omega
    simpa using this
  have hkb : (k : Int) ≤ 2049 := by omega
  have hb1 : decide ((c : Int) < 0) = false := by simp
  have hb2 : decide ((k : Int) < 0) = false := by simp
  have HB := hid (And.intro hgl hkm)
  have LT1 : Hid (∀ g ∈ P1, g.1.at' < x') := hid (fun g hg => by have := l1 g.1 (by rw [← hP1]; exact List.mem_map.2 ⟨g, hg, rfl⟩); simp only [Ob.sz] at this; omega)
  have LT2 : Hid (∀ g ∈ P2, ¬ g.1.at' < x') := hid (fun g hg => by have := l2 g.1 (by rw [← hP2]; exact List.mem_map.2 ⟨g, hg, rfl⟩); omega)
  have HNEW := hid hnew
  have HP := hid (And.intro hP1 hP2)
  clear h hm hi hg l1 l2 l3 hnew hlb hins hLG hP1 hP2 hp
  unfold ptrV
  go_enter Try.func24, Try.ntmps24
  go_wp2_with fail
  refine E.out.mono ?_
  rintro e w1 ⟨rfl, f1⟩
  have F1 := hid f1
  have H1 := hid (HH.out.keep0 f1)
  clear f1
  go_wp2_with fail
  go_loopw [9] (fun v wr => ∃ j : Nat, v = .int .i64 j ∧ j ≤ i ∧ Hid (Fr [] w wr)) (fun v _ => i - (intOf v).toNat)
  case atStart => exact ⟨0, rfl, by omega, F1⟩
  case round =>
    obtain ⟨j, rfl, hj, hr⟩ := hrel
    have HR := hid hr.out
    clear hr
    have HK := hid (HH.out.keep0 HR.out)
    obtain ⟨c0, c1⟩ := HK.out.c
    have z1 := HK.out.fz 1
    have hjb : (j : Int) ≤ 1024 := by omega
    by_cases hlt : j < i
    · have hjm : (j : Int) < m := by omega
      have hjG : j < (P1 ++ P2).length := by rw [← HM.out]; omega
      have hjP : j < P1.length := by rw [← HI.out]; exact hlt
      obtain ⟨g, hg⟩ : ∃ g, (P1 ++ P2)[j]? = some g := ⟨_, List.getElem?_eq_getElem hjG⟩
      have hlt3 : (g.1.at' : Int) < x' := by
        rw [List.getElem?_append_left hjP] at hg
        have := LT1.out g (List.mem_of_getElem? hg)
        omega
      obtain ⟨b, cap', e1, k0, _⟩ := HK.out.ob.cell (j * 3) (by omega)
      rw [← HM.out] at e1
      cases e1
      rw [(refL_get _ j g hg).1] at k0
      unfold vi at k0
      generalize g.1.at' = y at k0 hlt3
      clear hg
      go_wp2_with fail
      go_roundw
      case rel => exact ⟨j + 1, by go_num, by omega, hid HR.out⟩
      case measure => simp [intOf]; omega
    · obtain rfl : j = i := by omega
      obtain ⟨i0, hi0, hz0, hzs, hzb⟩ := info_parts info_Obj
      have HI0 := hid hi0
      have HZ0 := hid hz0
      have HZS := hid hzs
      have HZB := hid hzb
      clear hi0 hz0 hzs hzb hlt
      have OB := hid (fun (t : Obj) => show RV (wr.alloc t) 58 3 (.slice a m cap) m (refL (P1 ++ P2)) from by have := HK.out.ob.keep0 ((Fr.refl [] wr).alloc t); rw [← HM.out] at this; exact this)
      have hnrb : rb ∉ fpv (.slice a m cap) := by
        have := HK.out.nd
        rw [List.nodup_cons] at this
        exact fun hm => this.1 (List.mem_append_left _ hm)
      have HNRB := hid hnrb
      clear hnrb
      by_cases hjm : j < m
      · have hjm2 : (j : Int) < m := by omega
        have hjG : j < (P1 ++ P2).length := by rw [← HM.out]; omega
        obtain ⟨g, hg⟩ : ∃ g, (P1 ++ P2)[j]? = some g := ⟨_, List.getElem?_eq_getElem hjG⟩
        have hlt3 : decide ((g.1.at' : Int) < x') = false := by
          rw [List.getElem?_append_right (by rw [← HI.out]; exact Nat.le_refl _)] at hg
          have := LT2.out g (List.mem_of_getElem? hg)
          simp only [decide_eq_false_iff_not]
          omega
        obtain ⟨b, cap', e1, k0, _⟩ := HK.out.ob.cell (j * 3) (by omega)
        rw [← HM.out] at e1
        cases e1
        rw [(refL_get _ j g hg).1] at k0
        unfold vi at k0
        generalize g.1.at' = y at k0 hlt3
        have hlt4 : decide (y < x') = false := by simp only [decide_eq_false_iff_not] at hlt3 ⊢; omega
        clear hg
        go_wp2_with (at_builtin; refine wp_append_rv rfl (.tmp 46) (.tmp 48) 59 rfl 58 i0 (.agg #[.int .i64 0, .int .i64 0, .slice none 0 0]) 3 40 Try.underlying59 HI0.out HZ0.out HZS.out HZB.out rfl (by decide) (.slice (some ⟨b, 0, none⟩) m cap) m _ rfl (OB.out _) ⟨wr.heap.size, 0, none⟩ 1 1 [vi 0, vi 0, .slice none 0 0] rfl rfl (fun j u hj => cells_new wr [vi 0, vi 0, .slice none 0 0] _ j u hj) (fun u hu => by simp only [List.mem_cons, List.not_mem_nil, or_false] at hu; rcases hu with rfl | rfl | rfl <;> rfl) (by unfold maxLen; omega) (by omega) ?_; intro a3 c3 w3 r3 f3 n3; have R3 := hid r3; have F3 := hid f3; have N3 := hid n3; have hb3 := f3.obj (((Fr.refl [] wr).alloc (.cells #[vi 0, vi 0, .slice none 0 0] 58)).obj HK.out.blk (by simp)) HNRB.out; have q1 : w3.cell? ⟨rb, 1, none⟩ = some (.slice (some ⟨b, 0, none⟩) m cap) := by { rw [cell_of_row _ _ _ _ _ _ hb3]; rfl }; have q2 : w3.frozen? ⟨rb, 1, none⟩ = false := frozen_of_row _ _ _ _ _ hb3; clear r3 f3 n3)
        rcases R3.out.parts with ⟨_, h0, _⟩ | ⟨b3, cap3, cur, he3, hh3, hl3, hcc3, hs3, ht3⟩
        · omega
        injection he3 with e1 _ e3
        subst e1
        subst e3
        have hb34 : b3 ≠ rb := fun e => by
          rcases N3.out b3 (by simp [fpv, Value.ownBlock]) with h1 | h1
          · exact HNRB.out (e ▸ h1)
          · have := lt_of_block HK.out.blk; rw [World.size_alloc] at h1; omega
        have f34 : Fr [rb] w3 (w3.setCell ⟨rb, 1, none⟩ (.slice (some ⟨b3, 0, none⟩) (m + 1) c3)) := (Fr.refl [rb] w3).setCell (.inl (by simp)) _
        have hb4 := heap_setCell_same w3 rb 1 _ _ (.slice (some ⟨b3, 0, none⟩) (m + 1) c3) hb3
        obtain ⟨w4, hw4⟩ : ∃ w4, w4 = w3.setCell ⟨rb, 1, none⟩ (.slice (some ⟨b3, 0, none⟩) (m + 1) c3) := ⟨_, rfl⟩
        rw [← hw4] at f34 hb4 ⊢
        have R4 := hid (R3.out.keep f34 (fun x hx => by simp [fpv, Value.ownBlock] at hx; simp [hx, hb34]))
        have F4 := hid f34
        have HB4 := hid hb4
        have HB34 := hid hb34
        have q4 : w4.cell? ⟨rb, 1, none⟩ = some (.slice (some ⟨b3, 0, none⟩) (m + 1) c3) := by rw [cell_of_row _ _ _ _ _ _ hb4]; rfl
        have hh4 := f34.obj hh3 (by simpa using hb34)
        have hX2 : (refL P2).length = (m - j) * 3 := by rw [refL_length, HM.out, HI.out, List.length_append]; congr 1; omega
        have hX1 : (refL P1).length = j * 3 := by rw [refL_length, HI.out]
        obtain ⟨w5, e5, g5, f5, z5⟩ := copyK (P := Try.prog) (w := w4.drew) 59 59 58 3 b3 ((j + 1) * 3) (m + 1 - (j + 1)) ⟨b3, j * 3, none⟩ (m + 1 - j) cur 58 (refL P2) Try.underlying59 size_Obj hh4
          (by rw [hX2]; congr 1; show m - j = min (m + 1 - j) (m + 1 - (j + 1)); omega)
          (fun x u hu => by
            have hxl := (List.getElem?_eq_some_iff.1 hu).1
            rw [Addr.add_lit, World.cell?_drew, cell_of_row _ _ _ _ _ _ hh4]
            have h2 := congrArg (fun l => l[j * 3 + x]?) ht3
            simp only [List.getElem?_take] at h2
            rw [if_pos (by omega), Array.getElem?_toList, refL_append, List.append_assoc, List.getElem?_append_right (by omega), hX1, Nat.add_sub_cancel_left, List.getElem?_append_left hxl] at h2
            rw [h2]; exact hu) (by rw [hX2, hs3]; omega) (fun u hu => refL_one (fun g hg => HK.out.ws g (by simp [hg])) u hu)
        rw [show m + 1 - (j + 1) = m - j by omega] at e5
        have HG5 := hid g5
        have HF5 := hid f5
        have HCUR := hid (And.intro hh4 (And.intro hs3 ht3))
        have E5 := hid e5
        have hw1 : IntKind.i64.wrap ((j : Int) + 1) = (j : Int) + 1 := by rw [IntKind.wrap_i64]; omega
        have hb1 : (0 : Int) ≤ (j : Int) + 1 := by omega
        have htn : ((j : Int) + 1).toNat = j + 1 := by omega
        have hc3j : ¬ (c3 = j + 1) := by omega
        have hc3i : ¬ (c3 = j) := by omega
        have hjm3 : (j : Int) ≤ (m : Int) + 1 := by omega
        have hjm4 : (j : Int) + 1 ≤ (m : Int) + 1 := by omega
        have hjm5 : j ≤ m := by omega
        clear q1 q2 hb3 hw4 f34 hb4 hh4 hX1 hX2 e5 g5 f5 z5 hh3 hs3 ht3 hb34
        go_still_tail 13, (by kernel_rfl)
        change wpList _ _ _ _ _ w4.drew
        have q5 : w5.cell? ⟨rb, 1, none⟩ = some (.slice (some ⟨b3, 0, none⟩) (m + 1) c3) := HF5.out.cell (w := w4.drew) q4 (by simpa using fun e => HB34.out e.symm)
        go_wp2_with (with_reducible refine wpBi .copy Builtin.copy_ bi_copy rfl (.tmp 58) (.tmp 64) 59 59 rfl (.slice (some ⟨b3, (j + 1) * 3, none⟩) (m - j) (c3 - (j + 1))) (.slice (some ⟨b3, j * 3, none⟩) (m + 1 - j) (c3 - j)) rfl rfl (E5.out _ _ _) ?_)
        obtain ⟨iu, hiu, hzu, hsu, hbu⟩ := info_parts info_u64
        have hmk := fun (W : World) => run_make (P := Try.prog) (w := W) 43 45 iu (.int .u64 0) Try.underlying43 hiu hzu .i64 .i64 (k : Int) (k : Int) (by omega) (Int.le_refl _) (by rw [hbu]; omega) (by omega)
        simp only [Int.toNat_natCast, hsu, Nat.mul_one] at hmk
        clear hiu hzu hsu hbu
        have q5a := fun (o : Obj) => ((Fr.refl [] w5).alloc o).cell q5 (by simp)
        have hg5a := fun (o : Obj) => ((Fr.refl [] w5).alloc o).obj HG5.out (by simp)
        have HG5A := hid hg5a
        have hX2 : (refL P2).length = (m - j) * 3 := by rw [refL_length, HM.out, HI.out, List.length_append]; congr 1; omega
        have hcs5 : (overw cur.toList ((j + 1) * 3) (refL P2)).length = c3 * 3 := by rw [overw_length (by rw [hX2, Array.length_toList, HCUR.out.2.1]; omega), Array.length_toList, HCUR.out.2.1]
        have hcell5 : ∀ t, t < 3 → ∃ y, ∀ o, (w5.alloc o).cell? ⟨b3, j * 3 + t, none⟩ = some y ∧ (w5.alloc o).frozen? ⟨b3, j * 3 + t, none⟩ = false := fun t ht => ⟨_, fun o => ⟨by rw [cell_of_row _ _ _ _ _ _ (HG5A.out o), List.getElem?_toArray, List.getElem?_eq_getElem (by omega)], frozen_of_row _ _ _ _ _ (HG5A.out o)⟩⟩
        obtain ⟨y0, hy0⟩ := hcell5 0 (by omega)
        obtain ⟨y1, hy1⟩ := hcell5 1 (by omega)
        obtain ⟨y2, hy2⟩ := hcell5 2 (by omega)
        rw [Nat.add_zero] at hy0
        have hy0a := fun o => (hy0 o).1
        have hy0b := fun o => (hy0 o).2
        have hy1a := fun o => (hy1 o).1
        have hy1b := fun o => (hy1 o).2
        have hy2a := fun o => (hy2 o).1
        have hy2b := fun o => (hy2 o).2
        have hjm6 : (j : Int) < (m : Int) + 1 := by omega
        clear hg5a hX2 hcs5 hcell5 hy0 hy1 hy2
        have HFIN : Hid (RAlPost w (ptrV rb) (rb :: (fpv (.slice (some ⟨b, 0, none⟩) m cap) ++ fpG (P1 ++ P2))) n (L1 ++ newOb x' c k :: L2) x' (.returned (.tuple #[.int .i64 x', .int .i64 0])) (((w5.alloc (.cells (madeCells (Value.int .u64 0).cells k) 45)).setCells b3 (j * 3) [vi x', vi c, .slice (some ⟨w5.heap.size, 0, none⟩) k k]).drew)) := hid (by
          refine ⟨rfl, ?_⟩
          have fa : Fr [] wr (wr.alloc (.cells #[vi 0, vi 0, .slice none 0 0] 58)) := (Fr.refl _ _).alloc _
          have f3 : Fr (rb :: b3 :: fpv (.slice (some ⟨b, 0, none⟩) m cap)) wr w3 := (fa.sub (by simp)).tr (F3.out.sub (fun x hx => .inl (by simp [hx])))
          have f4 := f3.tr (F4.out.sub (fun x hx => .inl (by simp at hx; simp [hx])))
          have f5 := (f4.tr (((Fr.refl _ w4).drew))).tr (HF5.out.sub (fun x hx => .inl (by simp at hx; simp [hx])))
          have hb5 : b3 < w5.heap.size := lt_of_block HG5.out
          have hws5 : w5.heap.size ≠ b3 := by omega
          have ha5 : (w5.alloc (.cells (madeCells (Value.int .u64 0).cells k) 45)).heap[b3]? = some (.cells (overw cur.toList ((j + 1) * 3) (refL P2)).toArray 58 (0, 0)) := HG5A.out _
          have f6 := setCells_fr (S := rb :: b3 :: fpv (.slice (some ⟨b, 0, none⟩) m cap)) (b := b3) (by simp) [vi x', vi c, .slice (some ⟨w5.heap.size, 0, none⟩) k k] (j * 3) _ _ (f5.alloc (.cells (madeCells (Value.int .u64 0).cells k) 45))
          have hX2 : (refL P2).length = (m - j) * 3 := by rw [refL_length, HM.out, HI.out, List.length_append]; congr 1; omega
          have hX1 : (refL P1).length = j * 3 := by rw [refL_length, HI.out]
          have f6b : Fr [b3] w5 (((w5.alloc (.cells (madeCells (Value.int .u64 0).cells k) 45)).setCells b3 (j * 3) [vi x', vi c, .slice (some ⟨w5.heap.size, 0, none⟩) k k]).drew) := (setCells_fr (by simp) _ _ _ _ ((Fr.refl _ w5).alloc _)).drew
          have f6c : Fr [b3] (w5.alloc (.cells (madeCells (Value.int .u64 0).cells k) 45)) (((w5.alloc (.cells (madeCells (Value.int .u64 0).cells k) 45)).setCells b3 (j * 3) [vi x', vi c, .slice (some ⟨w5.heap.size, 0, none⟩) k k]).drew) := (setCells_fr (by simp) _ _ _ _ (Fr.refl _ _)).drew
          refine ralloc_end (wr := wr) (g := w5.heap.size) (b3 := b3) (c3 := c3) (m := m) HK.out HR.out f6.drew ?_ ?_ ?_ HM.out ?_ f5.size hws5 HNEW.out HP.out.1 HP.out.2
          · rcases N3.out b3 (by simp [fpv, Value.ownBlock]) with h1 | h1
            · exact .inl h1
            · rw [World.size_alloc] at h1; exact .inr (by omega)
          · exact f6b.obj (HF5.out.obj (w := w4.drew) HB4.out (by simpa using fun e => HB34.out e.symm)) (by simpa using fun e => HB34.out e.symm)
          · have hR := R4.out
            rw [refL_append] at hR
            refine ins_row (w1 := w4) (w2 := w5) hR hX1 hX2 hjm5 rfl (fun cur' h => ?_) (fun cur' h => ?_)
            · have e := Option.some.inj (h.symm.trans HCUR.out.1)
              injection e with e
              rw [e]; exact HG5.out
            · have e := Option.some.inj (h.symm.trans HG5.out)
              injection e with e
              have hsz : cur'.size = c3 * 3 := by rw [e, List.size_toArray, overw_length (by rw [hX2, Array.length_toList, HCUR.out.2.1]; omega), Array.length_toList, HCUR.out.2.1]
              exact heap_setCells [vi x', vi c, .slice (some ⟨w5.heap.size, 0, none⟩) k k] (j * 3) cur' _ (((Fr.refl [] w5).alloc _).obj h (by simp)) (by rw [hsz]; simp only [List.length_cons, List.length_nil]; omega)
          · have hnw := f6c.obj (heap_alloc_new w5 (.cells (madeCells (Value.int .u64 0).cells k) 45)) (by simpa using hws5)
            refine RV.mk hnw (Nat.le_refl _) (by unfold maxLen; omega) (by rw [size_madeCells, Nat.mul_one]) ?_
            rw [made_u64, List.toList_toArray, List.take_of_length_le (by simp [vus])])
        go_region
        go_wp2_with fail
        go_ret2
        exact HFIN.out
      · obtain rfl : j = m := by omega
        have hjm2 : ¬ (j : Int) < j := by omega
        have HP2 : Hid (P2 = []) := hid (List.length_eq_zero_iff.1 (by have h1 := HM.out; have h2 := HI.out; rw [List.length_append] at h1; omega))
        go_wp2_with (at_builtin; refine wp_append_rv rfl (.tmp 46) (.tmp 48) 59 rfl 58 i0 (.agg #[.int .i64 0, .int .i64 0, .slice none 0 0]) 3 40 Try.underlying59 HI0.out HZ0.out HZS.out HZB.out rfl (by decide) (.slice a j cap) j _ rfl (OB.out _) ⟨wr.heap.size, 0, none⟩ 1 1 [vi 0, vi 0, .slice none 0 0] rfl rfl (fun j u hj => cells_new wr [vi 0, vi 0, .slice none 0 0] _ j u hj) (fun u hu => by simp only [List.mem_cons, List.not_mem_nil, or_false] at hu; rcases hu with rfl | rfl | rfl <;> rfl) (by unfold maxLen; omega) (by omega) ?_; intro a3 c3 w3 r3 f3 n3; have R3 := hid r3; have F3 := hid f3; have N3 := hid n3; have hb3 := f3.obj (((Fr.refl [] wr).alloc (.cells #[vi 0, vi 0, .slice none 0 0] 58)).obj HK.out.blk (by simp)) HNRB.out; have q1 : w3.cell? ⟨rb, 1, none⟩ = some (.slice a j cap) := by { rw [cell_of_row _ _ _ _ _ _ hb3]; rfl }; have q2 : w3.frozen? ⟨rb, 1, none⟩ = false := frozen_of_row _ _ _ _ _ hb3; clear r3 f3 n3)
        rcases R3.out.parts with ⟨_, h0, _⟩ | ⟨b3, cap3, cur, he3, hh3, hl3, hcc3, hs3, ht3⟩
        · omega
        injection he3 with e1 _ e3
        subst e1
        subst e3
        have hb34 : b3 ≠ rb := fun e => by
          rcases N3.out b3 (by simp [fpv, Value.ownBlock]) with h1 | h1
          · exact HNRB.out (e ▸ h1)
          · have := lt_of_block HK.out.blk; rw [World.size_alloc] at h1; omega
        have f34 : Fr [rb] w3 (w3.setCell ⟨rb, 1, none⟩ (.slice (some ⟨b3, 0, none⟩) (j + 1) c3)) := (Fr.refl [rb] w3).setCell (.inl (by simp)) _
        have hb4 := heap_setCell_same w3 rb 1 _ _ (.slice (some ⟨b3, 0, none⟩) (j + 1) c3) hb3
        obtain ⟨w4, hw4⟩ : ∃ w4, w4 = w3.setCell ⟨rb, 1, none⟩ (.slice (some ⟨b3, 0, none⟩) (j + 1) c3) := ⟨_, rfl⟩
        rw [← hw4] at f34 hb4 ⊢
        have R4 := hid (R3.out.keep f34 (fun x hx => by simp [fpv, Value.ownBlock] at hx; simp [hx, hb34]))
        have F4 := hid f34
        have HB4 := hid hb4
        have HB34 := hid hb34
        have q4 : w4.cell? ⟨rb, 1, none⟩ = some (.slice (some ⟨b3, 0, none⟩) (j + 1) c3) := by rw [cell_of_row _ _ _ _ _ _ hb4]; rfl
        have hh4 := f34.obj hh3 (by simpa using hb34)
        have hX2 : (refL P2).length = (j - j) * 3 := by rw [HP2.out, Nat.sub_self]; rfl
        have hX1 : (refL P1).length = j * 3 := by rw [refL_length, ← HI.out]
        by_cases hcc : c3 = j + 1
        · subst hcc
          obtain ⟨w5, e5, g5, f5, z5⟩ := copyK (P := Try.prog) (w := w4.drew) 59 59 58 3 b3 0 0 ⟨b3, j * 3, none⟩ 1 cur 58 [] Try.underlying59 size_Obj hh4
            rfl (fun x u hu => by simp at hu) (by simp only [List.length_nil, hs3]; omega) (fun u hu => by cases hu)
          have hov : (overw cur.toList 0 []).toArray = (overw cur.toList ((j + 1) * 3) (refL P2)).toArray := by
            rw [HP2.out]
            congr 1
            show overw cur.toList 0 [] = overw cur.toList ((j + 1) * 3) []
            unfold overw
            simp
          rw [hov] at g5
          have HG5 := hid g5
          have HF5 := hid f5
          have HCUR := hid (And.intro hh4 (And.intro hs3 ht3))
          have E5 := hid e5
          have hw1 : IntKind.i64.wrap ((j : Int) + 1) = (j : Int) + 1 := by rw [IntKind.wrap_i64]; omega
          have hb1 : (0 : Int) ≤ (j : Int) + 1 := by omega
          have htn : ((j : Int) + 1).toNat = j + 1 := by omega
          have hc3i : ¬ (j + 1 = j) := by omega
          have hjm3 : (j : Int) ≤ (j : Int) + 1 := by omega
          have hjm4 : (j : Int) + 1 ≤ (j : Int) + 1 := by omega
          have hjm5 : j ≤ j := by omega
          clear q1 q2 hb3 hw4 f34 hb4 hh4 hX1 hX2 e5 g5 f5 z5 hh3 hs3 ht3 hb34
          go_still_tail 13, (by kernel_rfl)
          change wpList _ _ _ _ _ w4.drew
          have q5 : w5.cell? ⟨rb, 1, none⟩ = some (.slice (some ⟨b3, 0, none⟩) (j + 1) (j + 1)) := HF5.out.cell (w := w4.drew) q4 (by simpa using fun e => HB34.out e.symm)
          go_wp2_with (with_reducible refine wpBi .copy Builtin.copy_ bi_copy rfl (.tmp 58) (.tmp 64) 59 59 rfl (.slice (some ⟨b3, 0, none⟩) 0 0) (.slice (some ⟨b3, j * 3, none⟩) 1 1) rfl rfl (E5.out _ _ _) ?_)
          obtain ⟨iu, hiu, hzu, hsu, hbu⟩ := info_parts info_u64
          have hmk := fun (W : World) => run_make (P := Try.prog) (w := W) 43 45 iu (.int .u64 0) Try.underlying43 hiu hzu .i64 .i64 (k : Int) (k : Int) (by omega) (Int.le_refl _) (by rw [hbu]; omega) (by omega)
          simp only [Int.toNat_natCast, hsu, Nat.mul_one] at hmk
          clear hiu hzu hsu hbu
          have q5a := fun (o : Obj) => ((Fr.refl [] w5).alloc o).cell q5 (by simp)
          have hg5a := fun (o : Obj) => ((Fr.refl [] w5).alloc o).obj HG5.out (by simp)
          have HG5A := hid hg5a
          have hX2 : (refL P2).length = (j - j) * 3 := by rw [HP2.out, Nat.sub_self]; rfl
          have hcs5 : (overw cur.toList ((j + 1) * 3) (refL P2)).length = (j + 1) * 3 := by rw [overw_length (by rw [hX2, Array.length_toList, HCUR.out.2.1]; omega), Array.length_toList, HCUR.out.2.1]
          have hcell5 : ∀ t, t < 3 → ∃ y, ∀ o, (w5.alloc o).cell? ⟨b3, j * 3 + t, none⟩ = some y ∧ (w5.alloc o).frozen? ⟨b3, j * 3 + t, none⟩ = false := fun t ht => ⟨_, fun o => ⟨by rw [cell_of_row _ _ _ _ _ _ (HG5A.out o), List.getElem?_toArray, List.getElem?_eq_getElem (by omega)], frozen_of_row _ _ _ _ _ (HG5A.out o)⟩⟩
          obtain ⟨y0, hy0⟩ := hcell5 0 (by omega)
          obtain ⟨y1, hy1⟩ := hcell5 1 (by omega)
          obtain ⟨y2, hy2⟩ := hcell5 2 (by omega)
          rw [Nat.add_zero] at hy0
          have hy0a := fun o => (hy0 o).1
          have hy0b := fun o => (hy0 o).2
          have hy1a := fun o => (hy1 o).1
          have hy1b := fun o => (hy1 o).2
          have hy2a := fun o => (hy2 o).1
          have hy2b := fun o => (hy2 o).2
          have hjm6 : (j : Int) < (j : Int) + 1 := by omega
          clear hg5a hX2 hcs5 hcell5 hy0 hy1 hy2
          have HFIN : Hid (RAlPost w (ptrV rb) (rb :: (fpv (.slice a j cap) ++ fpG (P1 ++ P2))) n (L1 ++ newOb x' c k :: L2) x' (.returned (.tuple #[.int .i64 x', .int .i64 0])) (((w5.alloc (.cells (madeCells (Value.int .u64 0).cells k) 45)).setCells b3 (j * 3) [vi x', vi c, .slice (some ⟨w5.heap.size, 0, none⟩) k k]).drew)) := hid (by
            refine ⟨rfl, ?_⟩
            have fa : Fr [] wr (wr.alloc (.cells #[vi 0, vi 0, .slice none 0 0] 58)) := (Fr.refl _ _).alloc _
            have f3 : Fr (rb :: b3 :: fpv (.slice a j cap)) wr w3 := (fa.sub (by simp)).tr (F3.out.sub (fun x hx => .inl (by simp [hx])))
            have f4 := f3.tr (F4.out.sub (fun x hx => .inl (by simp at hx; simp [hx])))
            have f5 := (f4.tr (((Fr.refl _ w4).drew))).tr (HF5.out.sub (fun x hx => .inl (by simp at hx; simp [hx])))
            have hb5 : b3 < w5.heap.size := lt_of_block HG5.out
            have hws5 : w5.heap.size ≠ b3 := by omega
            have ha5 : (w5.alloc (.cells (madeCells (Value.int .u64 0).cells k) 45)).heap[b3]? = some (.cells (overw cur.toList ((j + 1) * 3) (refL P2)).toArray 58 (0, 0)) := HG5A.out _
            have f6 := setCells_fr (S := rb :: b3 :: fpv (.slice a j cap)) (b := b3) (by simp) [vi x', vi c, .slice (some ⟨w5.heap.size, 0, none⟩) k k] (j * 3) _ _ (f5.alloc (.cells (madeCells (Value.int .u64 0).cells k) 45))
            have hX2 : (refL P2).length = (j - j) * 3 := by rw [HP2.out, Nat.sub_self]; rfl
            have hX1 : (refL P1).length = j * 3 := by rw [refL_length, ← HI.out]
            have f6b : Fr [b3] w5 (((w5.alloc (.cells (madeCells (Value.int .u64 0).cells k) 45)).setCells b3 (j * 3) [vi x', vi c, .slice (some ⟨w5.heap.size, 0, none⟩) k k]).drew) := (setCells_fr (by simp) _ _ _ _ ((Fr.refl _ w5).alloc _)).drew
            have f6c : Fr [b3] (w5.alloc (.cells (madeCells (Value.int .u64 0).cells k) 45)) (((w5.alloc (.cells (madeCells (Value.int .u64 0).cells k) 45)).setCells b3 (j * 3) [vi x', vi c, .slice (some ⟨w5.heap.size, 0, none⟩) k k]).drew) := (setCells_fr (by simp) _ _ _ _ (Fr.refl _ _)).drew
            refine ralloc_end (wr := wr) (g := w5.heap.size) (b3 := b3) (c3 := j + 1) (m := j) HK.out HR.out f6.drew ?_ ?_ ?_ HM.out ?_ f5.size hws5 HNEW.out HP.out.1 HP.out.2
            · rcases N3.out b3 (by simp [fpv, Value.ownBlock]) with h1 | h1
              · exact .inl h1
              · rw [World.size_alloc] at h1; exact .inr (by omega)
            · exact f6b.obj (HF5.out.obj (w := w4.drew) HB4.out (by simpa using fun e => HB34.out e.symm)) (by simpa using fun e => HB34.out e.symm)
            · have hR := R4.out
              rw [refL_append] at hR
              refine ins_row (w1 := w4) (w2 := w5) hR hX1 hX2 hjm5 rfl (fun cur' h => ?_) (fun cur' h => ?_)
              · have e := Option.some.inj (h.symm.trans HCUR.out.1)
                injection e with e
                rw [e]; exact HG5.out
              · have e := Option.some.inj (h.symm.trans HG5.out)
                injection e with e
                have hsz : cur'.size = (j + 1) * 3 := by rw [e, List.size_toArray, overw_length (by rw [hX2, Array.length_toList, HCUR.out.2.1]; omega), Array.length_toList, HCUR.out.2.1]
                exact heap_setCells [vi x', vi c, .slice (some ⟨w5.heap.size, 0, none⟩) k k] (j * 3) cur' _ (((Fr.refl [] w5).alloc _).obj h (by simp)) (by rw [hsz]; simp only [List.length_cons, List.length_nil]; omega)
            · have hnw := f6c.obj (heap_alloc_new w5 (.cells (madeCells (Value.int .u64 0).cells k) 45)) (by simpa using hws5)
              refine RV.mk hnw (Nat.le_refl _) (by unfold maxLen; omega) (by rw [size_madeCells, Nat.mul_one]) ?_
              rw [made_u64, List.toList_toArray, List.take_of_length_le (by simp [vus])])
          go_region
          go_wp2_with fail
          go_ret2
          exact HFIN.out
        · obtain ⟨w5, e5, g5, f5, z5⟩ := copyK (P := Try.prog) (w := w4.drew) 59 59 58 3 b3 ((j + 1) * 3) 0 ⟨b3, j * 3, none⟩ 1 cur 58 [] Try.underlying59 size_Obj hh4
            rfl (fun x u hu => by simp at hu) (by simp only [List.length_nil, hs3]; omega) (fun u hu => by cases hu)
          have hov : (overw cur.toList ((j + 1) * 3) []).toArray = (overw cur.toList ((j + 1) * 3) (refL P2)).toArray := by
            rw [HP2.out]
            congr 1
          rw [hov] at g5
          have HG5 := hid g5
          have HF5 := hid f5
          have HCUR := hid (And.intro hh4 (And.intro hs3 ht3))
          have E5 := hid e5
          have hw1 : IntKind.i64.wrap ((j : Int) + 1) = (j : Int) + 1 := by rw [IntKind.wrap_i64]; omega
          have hb1 : (0 : Int) ≤ (j : Int) + 1 := by omega
          have htn : ((j : Int) + 1).toNat = j + 1 := by omega
          have hc3i : ¬ (c3 = j) := by omega
          have hc3j : ¬ (c3 = j + 1) := hcc
          have hjm3 : (j : Int) ≤ (j : Int) + 1 := by omega
          have hjm4 : (j : Int) + 1 ≤ (j : Int) + 1 := by omega
          have hjm5 : j ≤ j := by omega
          clear q1 q2 hb3 hw4 f34 hb4 hh4 hX1 hX2 e5 g5 f5 z5 hh3 hs3 ht3 hb34
          go_still_tail 13, (by kernel_rfl)
          change wpList _ _ _ _ _ w4.drew
          have q5 : w5.cell? ⟨rb, 1, none⟩ = some (.slice (some ⟨b3, 0, none⟩) (j + 1) c3) := HF5.out.cell (w := w4.drew) q4 (by simpa using fun e => HB34.out e.symm)
          go_wp2_with (with_reducible refine wpBi .copy Builtin.copy_ bi_copy rfl (.tmp 58) (.tmp 64) 59 59 rfl (.slice (some ⟨b3, (j + 1) * 3, none⟩) 0 (c3 - (j + 1))) (.slice (some ⟨b3, j * 3, none⟩) 1 (c3 - j)) rfl rfl (E5.out _ _ _) ?_)
          obtain ⟨iu, hiu, hzu, hsu, hbu⟩ := info_parts info_u64
          have hmk := fun (W : World) => run_make (P := Try.prog) (w := W) 43 45 iu (.int .u64 0) Try.underlying43 hiu hzu .i64 .i64 (k : Int) (k : Int) (by omega) (Int.le_refl _) (by rw [hbu]; omega) (by omega)
          simp only [Int.toNat_natCast, hsu, Nat.mul_one] at hmk
          clear hiu hzu hsu hbu
          have q5a := fun (o : Obj) => ((Fr.refl [] w5).alloc o).cell q5 (by simp)
          have hg5a := fun (o : Obj) => ((Fr.refl [] w5).alloc o).obj HG5.out (by simp)
          have HG5A := hid hg5a
          have hX2 : (refL P2).length = (j - j) * 3 := by rw [HP2.out, Nat.sub_self]; rfl
          have hcs5 : (overw cur.toList ((j + 1) * 3) (refL P2)).length = c3 * 3 := by rw [overw_length (by rw [hX2, Array.length_toList, HCUR.out.2.1]; omega), Array.length_toList, HCUR.out.2.1]
          have hcell5 : ∀ t, t < 3 → ∃ y, ∀ o, (w5.alloc o).cell? ⟨b3, j * 3 + t, none⟩ = some y ∧ (w5.alloc o).frozen? ⟨b3, j * 3 + t, none⟩ = false := fun t ht => ⟨_, fun o => ⟨by rw [cell_of_row _ _ _ _ _ _ (HG5A.out o), List.getElem?_toArray, List.getElem?_eq_getElem (by omega)], frozen_of_row _ _ _ _ _ (HG5A.out o)⟩⟩
          obtain ⟨y0, hy0⟩ := hcell5 0 (by omega)
          obtain ⟨y1, hy1⟩ := hcell5 1 (by omega)
          obtain ⟨y2, hy2⟩ := hcell5 2 (by omega)
          rw [Nat.add_zero] at hy0
          have hy0a := fun o => (hy0 o).1
          have hy0b := fun o => (hy0 o).2
          have hy1a := fun o => (hy1 o).1
          have hy1b := fun o => (hy1 o).2
          have hy2a := fun o => (hy2 o).1
          have hy2b := fun o => (hy2 o).2
          have hjm6 : (j : Int) < (j : Int) + 1 := by omega
          clear hg5a hX2 hcs5 hcell5 hy0 hy1 hy2
          have HFIN : Hid (RAlPost w (ptrV rb) (rb :: (fpv (.slice a j cap) ++ fpG (P1 ++ P2))) n (L1 ++ newOb x' c k :: L2) x' (.returned (.tuple #[.int .i64 x', .int .i64 0])) (((w5.alloc (.cells (madeCells (Value.int .u64 0).cells k) 45)).setCells b3 (j * 3) [vi x', vi c, .slice (some ⟨w5.heap.size, 0, none⟩) k k]).drew)) := hid (by
            refine ⟨rfl, ?_⟩
            have fa : Fr [] wr (wr.alloc (.cells #[vi 0, vi 0, .slice none 0 0] 58)) := (Fr.refl _ _).alloc _
            have f3 : Fr (rb :: b3 :: fpv (.slice a j cap)) wr w3 := (fa.sub (by simp)).tr (F3.out.sub (fun x hx => .inl (by simp [hx])))
            have f4 := f3.tr (F4.out.sub (fun x hx => .inl (by simp at hx; simp [hx])))
            have f5 := (f4.tr (((Fr.refl _ w4).drew))).tr (HF5.out.sub (fun x hx => .inl (by simp at hx; simp [hx])))
            have hb5 : b3 < w5.heap.size := lt_of_block HG5.out
            have hws5 : w5.heap.size ≠ b3 := by omega
            have ha5 : (w5.alloc (.cells (madeCells (Value.int .u64 0).cells k) 45)).heap[b3]? = some (.cells (overw cur.toList ((j + 1) * 3) (refL P2)).toArray 58 (0, 0)) := HG5A.out _
            have f6 := setCells_fr (S := rb :: b3 :: fpv (.slice a j cap)) (b := b3) (by simp) [vi x', vi c, .slice (some ⟨w5.heap.size, 0, none⟩) k k] (j * 3) _ _ (f5.alloc (.cells (madeCells (Value.int .u64 0).cells k) 45))
            have hX2 : (refL P2).length = (j - j) * 3 := by rw [HP2.out, Nat.sub_self]; rfl
            have hX1 : (refL P1).length = j * 3 := by rw [refL_length, ← HI.out]
            have f6b : Fr [b3] w5 (((w5.alloc (.cells (madeCells (Value.int .u64 0).cells k) 45)).setCells b3 (j * 3) [vi x', vi c, .slice (some ⟨w5.heap.size, 0, none⟩) k k]).drew) := (setCells_fr (by simp) _ _ _ _ ((Fr.refl _ w5).alloc _)).drew
            have f6c : Fr [b3] (w5.alloc (.cells (madeCells (Value.int .u64 0).cells k) 45)) (((w5.alloc (.cells (madeCells (Value.int .u64 0).cells k) 45)).setCells b3 (j * 3) [vi x', vi c, .slice (some ⟨w5.heap.size, 0, none⟩) k k]).drew) := (setCells_fr (by simp) _ _ _ _ (Fr.refl _ _)).drew
            refine ralloc_end (wr := wr) (g := w5.heap.size) (b3 := b3) (c3 := c3) (m := j) HK.out HR.out f6.drew ?_ ?_ ?_ HM.out ?_ f5.size hws5 HNEW.out HP.out.1 HP.out.2
            · rcases N3.out b3 (by simp [fpv, Value.ownBlock]) with h1 | h1
              · exact .inl h1
              · rw [World.size_alloc] at h1; exact .inr (by omega)
            · exact f6b.obj (HF5.out.obj (w := w4.drew) HB4.out (by simpa using fun e => HB34.out e.symm)) (by simpa using fun e => HB34.out e.symm)
            · have hR := R4.out
              rw [refL_append] at hR
              refine ins_row (w1 := w4) (w2 := w5) hR hX1 hX2 hjm5 rfl (fun cur' h => ?_) (fun cur' h => ?_)
              · have e := Option.some.inj (h.symm.trans HCUR.out.1)
                injection e with e
                rw [e]; exact HG5.out
              · have e := Option.some.inj (h.symm.trans HG5.out)
                injection e with e
                have hsz : cur'.size = c3 * 3 := by rw [e, List.size_toArray, overw_length (by rw [hX2, Array.length_toList, HCUR.out.2.1]; omega), Array.length_toList, HCUR.out.2.1]
                exact heap_setCells [vi x', vi c, .slice (some ⟨w5.heap.size, 0, none⟩) k k] (j * 3) cur' _ (((Fr.refl [] w5).alloc _).obj h (by simp)) (by rw [hsz]; simp only [List.length_cons, List.length_nil]; omega)
            · have hnw := f6c.obj (heap_alloc_new w5 (.cells (madeCells (Value.int .u64 0).cells k) 45)) (by simpa using hws5)
              refine RV.mk hnw (Nat.le_refl _) (by unfold maxLen; omega) (by rw [size_madeCells, Nat.mul_one]) ?_
              rw [made_u64, List.toList_toArray, List.take_of_length_le (by simp [vus])])
          go_region
          go_wp2_with fail
          go_ret2
          exact HFIN.out

end Go.Proofs.Ytgakkkifohkikaa
