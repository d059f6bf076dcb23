/-
  The library's slices.Delete, Insert, Clone at Blk: what they do to a slice that owns its row.
-/
import Derived.Test.YtgakkkifohkikaaRows
import Derived.Test.YtgakkkifohkikaaSlK
import Derived.RegionTactic
namespace Go.Proofs.Ytgakkkifohkikaa
open Go.RowKit

theorem info_Blk : (Try.prog.info? 36).map (fun i => (i.zero, i.size, i.bytes)) = some (some (.agg #[.int .i64 0, .int .i64 0]), 2, 16) := by kernel_rfl
theorem zero_Blk (w : World) : (zeroValue 36).run Try.prog w = .ok (.agg #[.int .i64 0, .int .i64 0]) w := by kernel_rfl
theorem sizeOf_Blk (w : World) : (Go.sizeOf 36).run Try.prog w = .ok 2 w := by kernel_rfl
theorem size_Blk : (Try.prog.info? 36).map (·.size) = some 2 := by
  obtain ⟨i0, hi0, h0, h1, h2⟩ := info_parts info_Blk
  rw [hi0]; simp [h1]

def DelPostBlk (w : World) (v : Value) (n : Nat) (xs : List Value) (e : Ending) (w' : World) : Prop :=
  ∃ v', e = .returned v' ∧ RV w' 36 2 v' n xs ∧ Fr (fpv v) w w' ∧ fpv v' = fpv v ∧ w'.heap.size = w.heap.size
set_option maxHeartbeats 1000000 in
set_option maxRecDepth 20000 in
theorem delete_Blk (w : World) (v : Value) (i m : Nat) (xs : List Value) (h : RV w 36 2 v (i + 1 + m) xs) (hn : i + 1 + m ≤ 1000000) (h1 : ∀ u ∈ xs, u.oneCell' = true) :
    Calls Try.prog 40 #[v, .int .i64 i, .int .i64 ((i : Int) + 1)] w (DelPostBlk w v (i + m) (xs.take (i * 2) ++ xs.drop ((i + 1) * 2))) := by
  have hlen := h.len
  rcases h.parts with ⟨_, hz, _⟩ | ⟨b, cap, cur, rfl, hh, hl, hc, hs, ht⟩
  · omega
  · obtain ⟨i0, hi0, hz0, hzs, hzb⟩ := info_parts info_Blk
    have hdl : (xs.drop ((i + 1) * 2)).length = m * 2 := by rw [List.length_drop, hlen]; omega
    have hsrc : ∀ ad : Addr, (ad = ⟨b, (i + 1) * 2, none⟩ ∨ m = 0) → ∀ j u, (xs.drop ((i + 1) * 2))[j]? = some u → w.drew.cell? (ad.add j) = some u := by
      intro ad had j u hj
      have hjl : j < m * 2 := by
        have := (List.getElem?_eq_some_iff.1 hj).1
        omega
      rcases had with rfl | rfl
      · rw [Addr.add_lit, World.cell?_drew, cell_of_row _ _ _ _ _ _ hh]
        rw [List.getElem?_drop, ← ht, List.getElem?_take, if_pos (by omega), Array.getElem?_toList] at hj
        first | exact hj | (rw [Nat.mul_one] at hj; exact hj)
      · omega
    obtain ⟨W1, e1, g1, f1, z1⟩ : ∃ W1, (∀ ad : Addr, (ad = ⟨b, (i + 1) * 2, none⟩ ∨ m = 0) → ∀ ty c, (Builtin.append_ #[33, 33] ty #[.slice (some ⟨b, 0, none⟩) i cap, .slice (some ad) m c]).run Try.prog w.drew = .ok (.slice (some ⟨b, 0, none⟩) (i + m) cap) W1) ∧
        W1.heap[b]? = some (.cells (overw cur.toList (i * 2) (xs.drop ((i + 1) * 2))).toArray 36 (0, 0)) ∧ Fr [b] w W1 ∧ W1.heap.size = w.heap.size := by
      have go := fun ad had => appendRoomK (P := Try.prog) (w := w.drew) 33 36 i0 2 Try.underlying33 hi0 hzs b i cap cur hh ad m (xs.drop ((i + 1) * 2)) hdl (hsrc ad had) (fun u hu => h1 u (List.mem_of_mem_drop hu)) (by omega) (by rw [hdl, hs]; omega)
      obtain ⟨W1, e1, g1, f1, z1⟩ := go ⟨b, (i + 1) * 2, none⟩ (.inl rfl)
      refine ⟨W1, fun ad had ty c => ?_, g1, ((Fr.refl [b] w).drew).tr f1, z1⟩
      by_cases hm : m = 0
      · subst hm
        have hnil : xs.drop ((i + 1) * 2) = [] := List.length_eq_zero_iff.1 (by omega)
        obtain ⟨W2, e2, g2, f2, z2⟩ := go ad had
        have hr : ∀ (a : Addr) ty, (Builtin.append_ #[33, 33] ty #[.slice (some ⟨b, 0, none⟩) i cap, .slice (some a) 0 c]).run Try.prog w.drew = .ok (.slice (some ⟨b, 0, none⟩) (i + 0) cap) (w.drew.setRow b (cur.toList.take (i * i0.size) ++ [] ++ cur.toList.drop (i * i0.size + 0)).toArray) := fun a ty =>
          run_append_room (P := Try.prog) w.drew 33 ty 36 i0 Try.underlying33 hi0 b i cap cur hh a 0 c [] (by simp) (by simp) (by simp) (by omega) (by rw [hs, hzs]; simp; omega)
        have k1 := (hr ⟨b, (i + 1) * 2, none⟩ ty).symm.trans (e1 ty c)
        rw [hr ad ty]
        exact k1
      · rcases had with rfl | h0
        · exact e1 ty c
        · exact absurd h0 hm
    obtain ⟨cur1, hcur1⟩ : ∃ c : Array Value, c = (overw cur.toList (i * 2) (xs.drop ((i + 1) * 2))).toArray := ⟨_, rfl⟩
    rw [← hcur1] at g1
    have hs1 : cur1.size = cap * 2 := by rw [hcur1, List.size_toArray, overw_length (by rw [hdl, Array.length_toList, hs]; omega), Array.length_toList, hs]
    obtain ⟨W2, e2, g2, f2, z2⟩ := clearK (P := Try.prog) (w := W1) 33 36 (.agg #[.int .i64 0, .int .i64 0]) 2 Try.underlying33 zero_Blk rfl (by decide) b ((i + m) * 2) 1 cur1 36 g1 (by omega)
    have hfin : DelPostBlk w (.slice (some ⟨b, 0, none⟩) (i + 1 + m) cap) (i + m) (xs.take (i * 2) ++ xs.drop ((i + 1) * 2)) (.returned (.slice (some ⟨b, 0, none⟩) (i + m) cap)) W2 := by
      refine ⟨_, rfl, RV.mk g2 (by omega) hc ?_ ?_, ?_, rfl, by rw [z2, z1]⟩
      · have hzl : (Builtin.zeroCells (.agg #[.int .i64 0, .int .i64 0] : Value).cells 1).toList.length = 2 := by rw [Array.length_toList, size_zeroCells]; rfl
        rw [List.size_toArray, overw_length (by rw [hzl, Array.length_toList, hs1]; omega), Array.length_toList, hs1]
      · have e0 : (overw cur1.toList ((i + m) * 2) (Builtin.zeroCells (.agg #[.int .i64 0, .int .i64 0] : Value).cells 1).toList).take ((i + m) * 2) = cur1.toList.take ((i + m) * 2) := by
          unfold overw
          rw [List.append_assoc, List.take_left' (by rw [List.length_take, Array.length_toList, hs1]; omega)]
        have e3 : cur.toList.take (i * 2) = xs.take (i * 2) := by
          rw [← ht, List.take_take, Nat.min_eq_left (by omega)]
        have e4 : (i + m) * 2 = (xs.take (i * 2) ++ xs.drop ((i + 1) * 2)).length := by
          rw [List.length_append, List.length_take, hdl, hlen, Nat.min_eq_left (by omega)]; omega
        show (overw cur1.toList ((i + m) * 2) (Builtin.zeroCells (.agg #[.int .i64 0, .int .i64 0] : Value).cells 1).toList).take ((i + m) * 2) = _
        rw [e0, hcur1]
        show (overw cur.toList (i * 2) (xs.drop ((i + 1) * 2))).take ((i + m) * 2) = _
        unfold overw
        rw [e3, e4]
        exact List.take_left
      · have f3 := f1.tr f2
        simpa [fpv, Value.ownBlock] using f3
    have HF := hid hfin
    have hb0 : ¬ ((i : Int) = (i : Int) + 1) := by omega
    have hb1 : ((i : Int) == (i : Int) + 1) = false := by simpa using hb0
    have hb2 : ¬ (cap = i + m) := by omega
    have hw1 : IntKind.i64.wrap ((i : Int) + 1) = (i : Int) + 1 := by rw [IntKind.wrap_i64]; omega
    have htn : ((i : Int) + 1).toNat = i + 1 := by omega
    have hnn : i + 1 + m - (i + 1) = m := by omega
    have hnm : i + 1 + m - (i + m) = 1 := by omega
    have hi1 : (i : Int) ≤ (i : Int) + 1 := by omega
    have hi2 : i ≤ cap := by omega
    have hi3 : (0 : Int) ≤ (i : Int) + 1 := by omega
    have hi4 : (i : Int) + 1 ≤ (i : Int) + 1 + (m : Int) := by omega
    unfold maxLen at hc
    have E1 := hid e1
    replace e2 : ∀ ty c, (Builtin.clear_ #[33] ty #[.slice (some ⟨b, (i + m) * 2, none⟩) 1 c]).run Try.prog W1 = .ok (.tuple #[]) W2 := by first | exact e2 | (simp only [Nat.mul_one] at e2; exact e2)
    have E2 := hid e2
    have E4 : Hid (∀ ty c, (Builtin.clear_ #[33] ty #[.slice (some ⟨b, (i + m) * 2, none⟩) (i + 1 + m - (i + m)) c]).run Try.prog W1 = .ok (.tuple #[]) W2) := hid (fun ty c => by rw [hnm]; exact e2 ty c)
    clear hfin g1 g2 f1 f2 z1 z2 hs1 hcur1 hsrc hdl hlen h ht hh hs hi0 hz0 hzs hzb h1 e1 e2
    go_enter Try.func40, Try.ntmps40
    go_wp2
    by_cases hcn : cap = i + 1
    · have hm0 : m = 0 := by omega
      subst hm0 hcn
      have E3 := hid (E1.out ⟨b, 0, none⟩ (Or.inr rfl))
      clear E1
      simp only [Nat.add_zero] at HF E3 E2 hb2
      go_region_law (refine stepBi .append Builtin.append_ bi_append rfl (.tmp 22) (.tmp 25) 33 33 rfl (.slice (some ⟨b, 0, none⟩) i (i + 1)) (.slice (some ⟨b, 0, none⟩) 0 0) (by simp [Act.eval, Act.put]) (by simp [Act.eval, Act.put]) (E3.out _ 0) ?_)
      go_wp2_with (with_reducible refine wpBi1 .clear Builtin.clear_ bi_clear rfl (.tmp 31) 33 rfl (.slice (some ⟨b, i * 2, none⟩) 1 1) rfl (E2.out _ _) ?_)
      go_ret
      exact HF.out
    · go_region_law (refine stepBi .append Builtin.append_ bi_append rfl (.tmp 22) (.tmp 25) 33 33 rfl (.slice (some ⟨b, 0, none⟩) i cap) (.slice (some ⟨b, (i + 1) * 2, none⟩) m (cap - (i + 1))) (by simp [Act.eval, Act.put]) (by simp [Act.eval, Act.put]) (E1.out ⟨b, (i + 1) * 2, none⟩ (.inl rfl) _ _) ?_)
      go_wp2_with (with_reducible refine wpBi1 .clear Builtin.clear_ bi_clear rfl (.tmp 31) 33 rfl (.slice (some ⟨b, (i + m) * 2, none⟩) (i + 1 + m - (i + m)) (cap - (i + m))) rfl (E4.out _ _) ?_)
      go_ret
      exact HF.out

/-! ### Insert -/
def InsPostBlk (w : World) (v : Value) (n : Nat) (xs : List Value) (e : Ending) (w' : World) : Prop :=
  ∃ v', e = .returned v' ∧ RV w' 36 2 v' n xs ∧ Fr (fpv v) w w' ∧ ∀ b ∈ fpv v', b ∈ fpv v ∨ w.heap.size ≤ b
set_option maxHeartbeats 1000000 in
set_option maxRecDepth 20000 in
theorem insert_end_Blk (w : World) (v : Value) (n : Nat) (xs : List Value) (h : RV w 36 2 v n xs) (hn : n ≤ 1000000) (vb : Nat) (news : List Value) (tt : TypeId) (hv : w.heap[vb]? = some (.cells news.toArray tt (0, 0))) (hvl : news.length = 2) (h1v : ∀ u ∈ news, u.oneCell' = true) :
    Calls Try.prog 46 #[v, .int .i64 n, .slice (some ⟨vb, 0, none⟩) 1 1] w (InsPostBlk w v (n + 1) (xs ++ news)) := by
  obtain ⟨i0, hi0, hz0, hzs, hzb⟩ := info_parts info_Blk
  have hnews : ∀ j u, news[j]? = some u → w.cell? ((⟨vb, 0, none⟩ : Addr).add j) = some u := fun j u hj => by
    rw [Addr.add_lit, Nat.zero_add, cell_of_row _ _ _ _ _ _ hv]; simpa using hj
  have hnl : news.length = 1 * 2 := by rw [hvl]
  have H := hid h
  have HN := hid hnews
  have HI := hid hi0
  have HZ0 := hid hz0
  have HZS := hid hzs
  have HZB := hid hzb
  have HL := hid hnl
  have H1 := hid h1v
  clear hnews hi0 hz0 hzs hzb hnl hv hvl h1v
  rcases h.parts with ⟨rfl, rfl, rfl⟩ | ⟨b, cap, cur, rfl, hh, hl, hc, hs, ht⟩
  · clear h
    go_enter Try.func46, Try.ntmps46
    go_wp2_with (at_builtin; refine wpList_append_own_at w rfl (.tmp 23) (.tmp 24) 33 rfl 0 36 i0 (.agg #[.int .i64 0, .int .i64 0]) 2 16 Try.underlying33 HI.out HZ0.out HZS.out HZB.out rfl (by decide) _ 0 [] rfl H.out ⟨vb, 0, none⟩ 1 1 news rfl HL.out HN.out H1.out (by unfold maxLen; omega) (by omega) (by omega) ?_; intro v' w1 k1 k2 _ k4; have K1 := hid k1; have K2 := hid k2; have K4 := hid k4; clear k1 k2 k4)
    go_ret
    exact ⟨v', rfl, K1.out, grownFr K2.out, fun b hb => own_new K4.out hb⟩
  · clear h ht hs
    unfold maxLen at hc
    by_cases hcn : cap = n
    all_goals
      go_enter Try.func46, Try.ntmps46
      go_wp2_with (at_builtin; refine wpList_append_own_at w rfl (.tmp 23) (.tmp 24) 33 rfl 0 36 i0 (.agg #[.int .i64 0, .int .i64 0]) 2 16 Try.underlying33 HI.out HZ0.out HZS.out HZB.out rfl (by decide) _ n xs rfl H.out ⟨vb, 0, none⟩ 1 1 news rfl HL.out HN.out H1.out (by unfold maxLen; omega) (by omega) (by omega) ?_; intro v' w1 k1 k2 _ k4; have K1 := hid k1; have K2 := hid k2; have K4 := hid k4; clear k1 k2 k4)
      go_ret
      exact ⟨v', rfl, K1.out, grownFr K2.out, fun b hb => own_new K4.out hb⟩

theorem overlaps_Blk (w : World) (a b : Addr) (la ca lb cb : Nat) (hne : a.block ≠ b.block) (ca' cb' : Array Value) (ta tb : TypeId) (ha : w.heap[a.block]? = some (.cells ca' ta (0, 0))) (hb : w.heap[b.block]? = some (.cells cb' tb (0, 0))) (hpos : 0 < cb'.size) :
    (callFunc 64 #[.slice (some a) la ca, .slice (some b) lb cb]).run Try.prog w = .ok (.value (.bool false)) w := by
  rw [run_callFunc_extern Try.func64 (by kernel_rfl) (by kernel_rfl) (by kernel_rfl) (e := Extern.SlicesOverlaps.overlaps #[33, 33] #[4]) (by kernel_rfl),
    overlapsK 33 4 36 2 Try.underlying33 sizeOf_Blk a b la ca lb cb hne ca' cb' ta tb ha hb hpos]
  rfl

set_option maxHeartbeats 1000000 in
set_option maxRecDepth 20000 in
theorem insert_shift_Blk (w : World) (b cap : Nat) (n i : Nat) (xs : List Value) (h : RV w 36 2 (.slice (some ⟨b, 0, none⟩) n cap) n xs) (hi : i < n) (hroom : n + 1 ≤ cap) (hn : n ≤ 1000000) (h1 : ∀ u ∈ xs, u.oneCell' = true) (vb : Nat) (news : List Value) (tt : TypeId) (hv : w.heap[vb]? = some (.cells news.toArray tt (0, 0))) (hvl : news.length = 2) (h1v : ∀ u ∈ news, u.oneCell' = true) (hvb : vb ≠ b) :
    Calls Try.prog 46 #[.slice (some ⟨b, 0, none⟩) n cap, .int .i64 i, .slice (some ⟨vb, 0, none⟩) 1 1] w (InsPostBlk w (.slice (some ⟨b, 0, none⟩) n cap) (n + 1) (xs.take (i * 2) ++ (news ++ xs.drop (i * 2)))) := by
  have hlen := h.len
  rcases h.parts with ⟨e, _⟩ | ⟨b', cap', cur, e, hh, hl, hc, hs, ht⟩
  · cases e
  cases e
  have hdl : (xs.drop (i * 2)).length = (n - i) * 2 := by rw [List.length_drop, hlen]; omega
  have hnews : ∀ (W : World), W.heap[vb]? = some (.cells news.toArray tt (0, 0)) → ∀ j u, news[j]? = some u → W.cell? ((⟨vb, 0, none⟩ : Addr).add j) = some u := fun W hW j u hj => by
    rw [Addr.add_lit, Nat.zero_add, cell_of_row _ _ _ _ _ _ hW]; simpa using hj
  obtain ⟨W1, e1, g1, f1, z1⟩ := copyK (P := Try.prog) (w := w.drew) 33 33 36 2 b ((i + 1) * 2) (n + 1 - (i + 1)) ⟨b, i * 2, none⟩ (n + 1 - i) cur 36 (xs.drop (i * 2)) Try.underlying33 size_Blk hh
    (by rw [hdl]; congr 1; show n - i = min (n + 1 - i) (n + 1 - (i + 1)); omega)
    (fun j u hj => by
      have hjl := (List.getElem?_eq_some_iff.1 hj).1
      rw [Addr.add_lit, World.cell?_drew, cell_of_row _ _ _ _ _ _ hh]
      rw [List.getElem?_drop, ← ht, List.getElem?_take, if_pos (by omega), Array.getElem?_toList] at hj
      exact hj) (by rw [hdl, hs]; omega) (fun u hu => h1 u (List.mem_of_mem_drop hu))
  have hl1 : (overw cur.toList ((i + 1) * 2) (xs.drop (i * 2))).length = cap * 2 := by
    rw [overw_length (by rw [hdl, Array.length_toList, hs]; omega), Array.length_toList, hs]
  have fw1 : Fr [b] w W1 := ((Fr.refl [b] w).drew).tr f1
  have hv1 : W1.heap[vb]? = some (.cells news.toArray tt (0, 0)) := fw1.obj hv (by simpa using hvb)
  obtain ⟨W2, e2, g2, f2, z2⟩ := copyK (P := Try.prog) (w := W1) 33 33 36 2 b (i * 2) (n + 1 - i) ⟨vb, 0, none⟩ 1 _ 36 news Try.underlying33 size_Blk g1
    (by rw [hvl]; have e : Nat.min 1 (n + 1 - i) = 1 := by { show min 1 (n + 1 - i) = 1; omega }; rw [e])
    (hnews W1 hv1) (by rw [List.size_toArray, hl1, hvl]; omega) h1v
  have hfin : InsPostBlk w (.slice (some ⟨b, 0, none⟩) n cap) (n + 1) (xs.take (i * 2) ++ (news ++ xs.drop (i * 2))) (.returned (.slice (some ⟨b, 0, none⟩) (n + 1) cap)) W2 := by
    have e0 : overw (overw cur.toList ((i + 1) * 2) (xs.drop (i * 2))) (i * 2) news = cur.toList.take (i * 2) ++ (news ++ (xs.drop (i * 2) ++ cur.toList.drop ((i + 1) * 2 + (xs.drop (i * 2)).length))) :=
      overw_overw (by rw [hvl]; omega) (by rw [Array.length_toList, hs]; omega)
    have e3 : cur.toList.take (i * 2) = xs.take (i * 2) := by
      rw [← ht, List.take_take, Nat.min_eq_left (by omega)]
    have e4 : (n + 1) * 2 = (xs.take (i * 2) ++ (news ++ xs.drop (i * 2))).length := by
      rw [List.length_append, List.length_append, List.length_take, hdl, hlen, hvl, Nat.min_eq_left (by omega)]; omega
    refine ⟨_, rfl, RV.mk g2 (by omega) hc ?_ ?_, ?_, ?_⟩
    · show (overw (overw cur.toList ((i + 1) * 2) (xs.drop (i * 2))) (i * 2) news).length = cap * 2
      rw [overw_length (by rw [hl1, hvl]; omega), hl1]
    · show (overw (overw cur.toList ((i + 1) * 2) (xs.drop (i * 2))) (i * 2) news).take ((n + 1) * 2) = _
      rw [e0, e3, e4, ← List.append_assoc, ← List.append_assoc, ← List.append_assoc]
      exact List.take_left
    · have f3 := fw1.tr f2
      simpa [fpv, Value.ownBlock] using f3
    · intro x hx; exact .inl hx
  have HF := hid hfin
  have hov : ∀ lb cb, (callFunc 64 #[.slice (some ⟨vb, 0, none⟩) 1 1, .slice (some ⟨b, (i + 1) * 2, none⟩) lb cb]).run Try.prog w = .ok (.value (.bool false)) w := fun lb cb =>
    overlaps_Blk w ⟨vb, 0, none⟩ ⟨b, (i + 1) * 2, none⟩ 1 1 lb cb hvb _ _ _ _ hv hh (by rw [hs]; omega)
  replace e1 : ∀ ty c c', (Builtin.copy_ #[33, 33] ty #[.slice (some ⟨b, (i + 1) * 2, none⟩) (n + 1 - (i + 1)) c, .slice (some ⟨b, i * 2, none⟩) (n + 1 - i) c']).run Try.prog w.drew = .ok (goInt (Nat.min (n + 1 - i) (n + 1 - (i + 1)))) W1 := by first | exact e1 | (simp only [Nat.mul_one] at e1; exact e1)
  replace e2 : ∀ ty c c', (Builtin.copy_ #[33, 33] ty #[.slice (some ⟨b, i * 2, none⟩) (n + 1 - i) c, .slice (some ⟨vb, 0, none⟩) 1 c']).run Try.prog W1 = .ok (goInt (Nat.min 1 (n + 1 - i))) W2 := by first | exact e2 | (simp only [Nat.mul_one] at e2; exact e2)
  have E1 := hid e1
  have E2 := hid e2
  have hz2 : ¬ ((i : Int) = (n : Int)) := by omega
  have hw1 : IntKind.i64.wrap ((i : Int) + 1) = (i : Int) + 1 := by rw [IntKind.wrap_i64]; omega
  have hb1 : (0 : Int) ≤ (i : Int) + 1 := by omega
  have hin : i ≤ n := by omega
  have htn : ((i : Int) + 1).toNat = i + 1 := by omega
  have hb2 : ¬ (cap = i + 1) := by omega
  have hb3 : (i : Int) ≤ (n : Int) + 1 := by omega
  have hb4 : ¬ (cap = i) := by omega
  have hb5 : (i : Int) + 1 ≤ (n : Int) + 1 := by omega
  unfold maxLen at hc
  clear hfin g1 g2 f1 f2 fw1 hv1 hl1 z1 z2 hdl hlen h ht hh hs h1 e1 e2 hv hvl h1v hnews
  go_enter Try.func46, Try.ntmps46
  go_wp2_with (simp only [hov])
  go_region_law (refine stepBi .copy Builtin.copy_ bi_copy rfl (.tmp 73) (.tmp 76) 33 33 rfl (.slice (some ⟨b, (i + 1) * 2, none⟩) (n + 1 - (i + 1)) (cap - (i + 1))) (.slice (some ⟨b, i * 2, none⟩) (n + 1 - i) (cap - i)) (by simp [Act.eval, Act.put]) (by simp [Act.eval, Act.put]) (E1.out _ _ _) ?_)
  go_wp2_with (with_reducible refine wpBi .copy Builtin.copy_ bi_copy rfl (.tmp 80) (.tmp 81) 33 33 rfl (.slice (some ⟨b, i * 2, none⟩) (n + 1 - i) (cap - i)) (.slice (some ⟨vb, 0, none⟩) 1 1) rfl rfl (E2.out _ _ _) ?_)
  go_ret
  exact HF.out

set_option maxHeartbeats 1000000 in
set_option maxRecDepth 20000 in
theorem insert_grow_Blk (w : World) (b cap : Nat) (n i : Nat) (xs : List Value) (h : RV w 36 2 (.slice (some ⟨b, 0, none⟩) n cap) n xs) (hi : i < n) (hroom : cap < n + 1) (hn : n ≤ 1000000) (h1 : ∀ u ∈ xs, u.oneCell' = true) (vb : Nat) (news : List Value) (tt : TypeId) (hv : w.heap[vb]? = some (.cells news.toArray tt (0, 0))) (hvl : news.length = 2) (h1v : ∀ u ∈ news, u.oneCell' = true) :
    Calls Try.prog 46 #[.slice (some ⟨b, 0, none⟩) n cap, .int .i64 i, .slice (some ⟨vb, 0, none⟩) 1 1] w (InsPostBlk w (.slice (some ⟨b, 0, none⟩) n cap) (n + 1) (xs.take (i * 2) ++ (news ++ xs.drop (i * 2)))) := by
  have hlen := h.len
  rcases h.parts with ⟨e, _⟩ | ⟨b', cap', cur, e, hh, hl, hc, hs, ht⟩
  · cases e
  cases e
  obtain ⟨i0, hi0, hz0, hzs, hzb⟩ := info_parts info_Blk
  have hbl := lt_of_block hh
  have hdl : (xs.drop (i * 2)).length = (n - i) * 2 := by rw [List.length_drop, hlen]; omega
  have htl : (xs.take (i * 2)).length = i * 2 := by rw [List.length_take, hlen, Nat.min_eq_left (by omega)]
  have hnews : ∀ (W : World), W.heap[vb]? = some (.cells news.toArray tt (0, 0)) → ∀ j u, news[j]? = some u → W.cell? ((⟨vb, 0, none⟩ : Addr).add j) = some u := fun W hW j u hj => by
    rw [Addr.add_lit, Nat.zero_add, cell_of_row _ _ _ _ _ _ hW]; simpa using hj
  obtain ⟨cap2, cur2, W1, e1, g1, hc1, hc2, hs2, ht2, f1, z1⟩ := appendZerosK (P := Try.prog) (w := w) 33 3 36 i0 (.agg #[.int .i64 0, .int .i64 0]) .i64 Try.underlying33 Try.underlying3 hi0 hz0 (by rw [hzs]; rfl) b i cap (xs.take (i * 2)) (by rw [htl, hzs])
    (fun j u hj => by
      have hjl := (List.getElem?_eq_some_iff.1 hj).1
      rw [cell_of_row _ _ _ _ _ _ hh]
      rw [List.getElem?_take, if_pos (by omega), ← ht, List.getElem?_take, if_pos (by omega), Array.getElem?_toList] at hj
      exact hj) (n + 1 - i) (by omega) (by rw [hzs]; decide) (by omega) (by unfold maxLen; omega) (by rw [hzb]; omega)
  rw [show i + (n + 1 - i) = n + 1 by omega] at e1 hc1
  rw [hzs] at hs2 ht2
  have hv1 : W1.heap[vb]? = some (.cells news.toArray tt (0, 0)) := f1.obj hv (by simp)
  have hh1 : W1.heap[b]? = some (.cells cur 36 (0, 0)) := f1.obj hh (by simp)
  obtain ⟨W2, e2, g2, f2, z2⟩ := copyK (P := Try.prog) (w := W1) 33 33 36 2 w.heap.size (i * 2) (n + 1 - i) ⟨vb, 0, none⟩ 1 cur2 36 news Try.underlying33 size_Blk g1
    (by rw [hvl]; have e : Nat.min 1 (n + 1 - i) = 1 := by { show min 1 (n + 1 - i) = 1; omega }; rw [e])
    (hnews W1 hv1) (by rw [hs2, hvl]; omega) h1v
  have hl2 : (overw cur2.toList (i * 2) news).length = cap2 * 2 := by
    rw [overw_length (by rw [hvl, Array.length_toList, hs2]; omega), Array.length_toList, hs2]
  have hh2 : W2.heap[b]? = some (.cells cur 36 (0, 0)) := f2.obj hh1 (by simp; omega)
  obtain ⟨W3, e3, g3, f3, z3⟩ := copyK (P := Try.prog) (w := W2.drew) 33 33 36 2 w.heap.size ((i + 1) * 2) (n + 1 - (i + 1)) ⟨b, i * 2, none⟩ (n - i) _ 36 (xs.drop (i * 2)) Try.underlying33 size_Blk g2
    (by rw [hdl]; congr 1; show n - i = min (n - i) (n + 1 - (i + 1)); omega)
    (fun j u hj => by
      have hjl := (List.getElem?_eq_some_iff.1 hj).1
      rw [Addr.add_lit, World.cell?_drew, cell_of_row _ _ _ _ _ _ hh2]
      rw [List.getElem?_drop, ← ht, List.getElem?_take, if_pos (by omega), Array.getElem?_toList] at hj
      exact hj) (by rw [List.size_toArray, hl2, hdl]; omega) (fun u hu => h1 u (List.mem_of_mem_drop hu))
  have hfin : InsPostBlk w (.slice (some ⟨b, 0, none⟩) n cap) (n + 1) (xs.take (i * 2) ++ (news ++ xs.drop (i * 2))) (.returned (.slice (some ⟨w.heap.size, 0, none⟩) (n + 1) cap2)) W3 := by
    have e0 : overw (overw cur2.toList (i * 2) news) ((i + 1) * 2) (xs.drop (i * 2)) = cur2.toList.take (i * 2) ++ (news ++ (xs.drop (i * 2) ++ cur2.toList.drop ((i + 1) * 2 + (xs.drop (i * 2)).length))) :=
      overw_then (by rw [hvl]; omega) (by rw [Array.length_toList, hs2]; omega)
    have e4 : (n + 1) * 2 = (xs.take (i * 2) ++ (news ++ xs.drop (i * 2))).length := by
      rw [List.length_append, List.length_append, htl, hdl, hvl]; omega
    refine ⟨_, rfl, RV.mk g3 (by omega) hc2 ?_ ?_, ?_, ?_⟩
    · show (overw (overw cur2.toList (i * 2) news) ((i + 1) * 2) (xs.drop (i * 2))).length = cap2 * 2
      rw [overw_length (by rw [hl2, hdl]; omega), hl2]
    · show (overw (overw cur2.toList (i * 2) news) ((i + 1) * 2) (xs.drop (i * 2))).take ((n + 1) * 2) = _
      rw [e0, ht2, e4, ← List.append_assoc, ← List.append_assoc, ← List.append_assoc]
      exact List.take_left
    · have f4 : Fr [w.heap.size] w W3 := ((f1.sub (by simp)).tr f2).tr (((Fr.refl [w.heap.size] W2).drew).tr f3)
      exact f4.sub (fun x hx => .inr (by rw [List.mem_singleton.1 hx]; exact Nat.le_refl _))
    · intro x hx
      right
      rw [mem_fpv] at hx
      cases hx; exact Nat.le_refl _
  have HF := hid hfin
  have hik : (n : Int) + 1 - (i : Int) = ((n + 1 - i : Nat) : Int) := by omega
  replace e1 : ∀ ty, (Builtin.append_ #[33, 3] ty #[.slice (some ⟨b, 0, none⟩) i cap, .int .i64 ((n : Int) + 1 - (i : Int))]).run Try.prog w = .ok (.slice (some ⟨w.heap.size, 0, none⟩) (n + 1) cap2) W1 := fun ty => by rw [hik]; exact e1 ty .i64
  replace e2 : ∀ ty c c', (Builtin.copy_ #[33, 33] ty #[.slice (some ⟨w.heap.size, i * 2, none⟩) (n + 1 - i) c, .slice (some ⟨vb, 0, none⟩) 1 c']).run Try.prog W1 = .ok (goInt (Nat.min 1 (n + 1 - i))) W2 := by first | exact e2 | (simp only [Nat.mul_one] at e2; exact e2)
  replace e3 : ∀ ty c c', (Builtin.copy_ #[33, 33] ty #[.slice (some ⟨w.heap.size, (i + 1) * 2, none⟩) (n + 1 - (i + 1)) c, .slice (some ⟨b, i * 2, none⟩) (n - i) c']).run Try.prog W2.drew = .ok (goInt (Nat.min (n - i) (n + 1 - (i + 1)))) W3 := by first | exact e3 | (simp only [Nat.mul_one] at e3; exact e3)
  have E1 := hid e1
  have E2 := hid e2
  have E3 := hid e3
  have hz2 : ¬ ((i : Int) = (n : Int)) := by omega
  have hw1 : IntKind.i64.wrap ((i : Int) + 1) = (i : Int) + 1 := by rw [IntKind.wrap_i64]; omega
  have hb1 : (0 : Int) ≤ (i : Int) + 1 := by omega
  have hin : i ≤ n := by omega
  have hin2 : (i : Int) ≤ (n : Int) := by omega
  have htn : ((i : Int) + 1).toNat = i + 1 := by omega
  have hb2 : ¬ (cap = i) := by omega
  have hb3 : (i : Int) ≤ (n : Int) + 1 := by omega
  have hb4 : ¬ (cap2 = i) := by omega
  have hb5 : (i : Int) + 1 ≤ (n : Int) + 1 := by omega
  have hb6 : ¬ (cap2 = i + 1) := by omega
  have hb7 : ¬ (n + 1 ≤ cap) := by omega
  have hb8 : (cap : Int) < (n : Int) + 1 := by omega
  obtain ⟨g, hg⟩ : ∃ g, g = w.heap.size := ⟨_, rfl⟩
  rw [← hg] at E1 E2 E3 HF
  have HG := hid hg
  have HB7 := hid hb7
  have HH := hid hh
  unfold maxLen at hc hc2
  clear hfin g1 g2 g3 f1 f2 f3 z1 z2 z3 hdl htl hlen h ht hh hh1 hh2 hv1 hl2 hs ht2 hs2 h1 e1 e2 e3 hv hvl h1v hnews hik hg hbl hi0 hz0 hzs hzb hb7
  go_enter Try.func46, Try.ntmps46
  go_wp2_with (first | (with_reducible refine wpBi .append Builtin.append_ bi_append rfl (.tmp 34) (.tmp 39) 33 3 rfl (.slice (some ⟨b, 0, none⟩) i cap) (.int .i64 ((n : Int) + 1 - (i : Int))) rfl rfl (E1.out _) ?_) | (with_reducible refine wpBi .copy Builtin.copy_ bi_copy rfl (.tmp 43) (.tmp 44) 33 33 rfl (.slice (some ⟨g, i * 2, none⟩) (n + 1 - i) (cap2 - i)) (.slice (some ⟨vb, 0, none⟩) 1 1) rfl rfl (E2.out _ _ _) ?_))
  go_region_law (refine stepBi .copy Builtin.copy_ bi_copy rfl (.tmp 50) (.tmp 53) 33 33 rfl (.slice (some ⟨g, (i + 1) * 2, none⟩) (n + 1 - (i + 1)) (cap2 - (i + 1))) (.slice (some ⟨b, i * 2, none⟩) (n - i) (cap - i)) (by simp [Act.eval, Act.put]) (by simp [Act.eval, Act.put]) (E3.out _ _ _) ?_)
  go_wp2_with fail
  go_ret
  exact HF.out

/-- Insert of one element -/
theorem insert_Blk (w : World) (v : Value) (n i : Nat) (xs : List Value) (h : RV w 36 2 v n xs) (hi : i ≤ n) (hn : n ≤ 1000000) (h1 : ∀ u ∈ xs, u.oneCell' = true) (vb : Nat) (news : List Value) (tt : TypeId) (hv : w.heap[vb]? = some (.cells news.toArray tt (0, 0))) (hvl : news.length = 2) (h1v : ∀ u ∈ news, u.oneCell' = true) (hvb : vb ∉ fpv v) :
    Calls Try.prog 46 #[v, .int .i64 i, .slice (some ⟨vb, 0, none⟩) 1 1] w (InsPostBlk w v (n + 1) (xs.take (i * 2) ++ (news ++ xs.drop (i * 2)))) := by
  by_cases hin : i = n
  · subst hin
    have e1 : xs.take (i * 2) = xs := List.take_of_length_le (by rw [h.len]; exact Nat.le_refl _)
    have e2 : xs.drop (i * 2) = [] := List.drop_eq_nil_of_le (by rw [h.len]; exact Nat.le_refl _)
    rw [e1, e2, List.append_nil]
    exact insert_end_Blk w v i xs h hn vb news tt hv hvl h1v
  · rcases h.parts with ⟨_, hz, _⟩ | ⟨b, cap, cur, rfl, _⟩
    · omega
    · by_cases hr : n + 1 ≤ cap
      · exact insert_shift_Blk w b cap n i xs h (by omega) hr hn h1 vb news tt hv hvl h1v (fun e => hvb (by simp [fpv, Value.ownBlock, e]))
      · exact insert_grow_Blk w b cap n i xs h (by omega) (by omega) hn h1 vb news tt hv hvl h1v

/-! ### Clone -/
def ClonePostBlk (w : World) (n : Nat) (xs : List Value) (e : Ending) (w' : World) : Prop :=
  ∃ v', e = .returned v' ∧ RV w' 36 2 v' n xs ∧ Fr [] w w' ∧ ∀ b ∈ fpv v', w.heap.size ≤ b
set_option maxHeartbeats 1000000 in
set_option maxRecDepth 20000 in
theorem clone_Blk (w : World) (v : Value) (n : Nat) (xs : List Value) (h : RV w 36 2 v n xs) (hn : n ≤ 1000000) (h1 : ∀ u ∈ xs, u.oneCell' = true) :
    Calls Try.prog 47 #[v] w (ClonePostBlk w n xs) := by
  have hnil := fun (W : World) a n c => Lib.run_eql_slice_nil (P := Try.prog) W 33 36 a n c 0 0 Try.underlying33
  have hlen := h.len
  rcases h.parts with ⟨rfl, rfl, rfl⟩ | ⟨b, cap, cur, rfl, hh, hl, hc, hs, ht⟩
  · have HF : Hid (ClonePostBlk w 0 [] (.returned (.slice none 0 0)) w) := hid ⟨_, rfl, RV.nil _ _ _, Fr.refl _ _, by simp [fpv, Value.ownBlock]⟩
    clear h hlen
    go_enter Try.func47, Try.ntmps47
    go_wp2_with fail
    go_ret
    exact HF.out
  · obtain ⟨i0, hi0, hz0, hzs, hzb⟩ := info_parts info_Blk
    have hold : RV (w.alloc (.cells #[] 36)) 36 2 (.slice (some ⟨w.heap.size, 0, none⟩) 0 0) 0 [] := RV.mk (heap_alloc_new w _) (by omega) (by unfold maxLen; omega) (by simp) (by simp)
    have hxs : ∀ j u, xs[j]? = some u → (w.alloc (.cells #[] 36)).cell? ((⟨b, 0, none⟩ : Addr).add j) = some u := fun j u hj => by
      have hh' : (w.alloc (.cells #[] 36)).heap[b]? = some (.cells cur 36 (0, 0)) := ((Fr.refl [] w).alloc _).obj hh (by simp)
      have hjl := (List.getElem?_eq_some_iff.1 hj).1
      rw [Addr.add_lit, Nat.zero_add, cell_of_row _ _ _ _ _ _ hh']
      rw [← ht, List.getElem?_take, if_pos (by omega), Array.getElem?_toList] at hj
      exact hj
    have HX := hid hxs
    have HO := hid hold
    have HI := hid hi0
    have HZ0 := hid hz0
    have HZS := hid hzs
    have HZB := hid hzb
    have HL := hid hlen
    have H1 := hid h1
    have HH := hid hh
    clear h hlen hxs hold hi0 hz0 hzs hzb ht hh hs h1
    unfold maxLen at hc
    go_enter Try.func47, Try.ntmps47
    go_wp2_with (at_builtin; refine wpList_append_own_at _ rfl (.tmp 5) (.tmp 6) 33 rfl 0 36 i0 (.agg #[.int .i64 0, .int .i64 0]) 2 16 Try.underlying33 HI.out HZ0.out HZS.out HZB.out rfl (by decide) _ 0 [] rfl HO.out ⟨b, 0, none⟩ n cap xs rfl HL.out HX.out H1.out (by unfold maxLen; omega) (by omega) (by omega) ?_; intro v' w1 k1 k2 _ k4; have K1 := hid k1; have K2 := hid k2; have K4 := hid k4; clear k1 k2 k4)
    go_ret
    refine ⟨v', rfl, by have k := K1.out; simp only [Nat.zero_add, List.nil_append] at k; exact k, ?_, fun b hb => ?_⟩
    · have f := ((Fr.refl [w.heap.size] w).alloc (.cells #[] 36)).tr (grownFr K2.out)
      exact f.sub (fun x hx => .inr (by rw [List.mem_singleton.1 hx]; exact Nat.le_refl _))
    · rcases own_new K4.out hb with h4 | h4
      · rw [mem_fpv] at h4; cases h4; exact Nat.le_refl _
      · rw [World.size_alloc] at h4; omega

end Go.Proofs.Ytgakkkifohkikaa
