/-
  The document's watch: what is kept in memory; find.
-/
import Derived.Test.YtjkakhjajfpldaaRaceW
namespace Go.Proofs.Ytjkakhjajfpldaa
open Go.RowKit

theorem flat_get {α : Type} (f : α → List Value) (k : Nat) (l : List α) (hl : ∀ p ∈ l, (f p).length = k) (j q : Nat) (hq : q < k) : (l.flatMap f)[j * k + q]? = (l[j]?).bind (fun p => (f p)[q]?) := by
  induction l generalizing j with
  | nil => simp
  | cons p l ih =>
    have hp := hl p (by simp)
    rw [List.flatMap_cons]
    cases j with
    | zero =>
      rw [Nat.zero_mul, Nat.zero_add, List.getElem?_append_left (by omega)]
      rfl
    | succ j =>
      rw [Nat.succ_mul, List.getElem?_append_right (by omega)]
      have e : j * k + k + q - (f p).length = j * k + q := by omega
      rw [e, ih (fun p hp => hl p (by simp [hp])) j, List.getElem?_cons_succ]
def keptF (p : (Int × Int) × List Int) : List Value := vi p.1.1 :: vi p.1.2 :: p.2.map vi
def accF (a : Acc) : List Value := vi a.th :: vi a.at' :: vi a.i :: .bool a.wr :: a.c.map vi
theorem keptL_eq (l : List ((Int × Int) × List Int)) : keptL l = l.flatMap keptF := rfl
theorem accL_eq (l : List Acc) : accL l = l.flatMap accF := rfl
theorem keptF_len {p : (Int × Int) × List Int} (h : p.2.length = 13) : (keptF p).length = 15 := by simp [keptF, h]
theorem accF_len {a : Acc} (h : a.c.length = 13) : (accF a).length = 17 := by simp [accF, h]
theorem und_kepts : Try.prog.underlying 48 = some (.slice 76) := by kernel_rfl
theorem und_accs17 : Try.prog.underlying 49 = some (.slice 78) := by kernel_rfl
def zkept : Value := .agg #[.int .i64 0, .int .i64 0, .int .i64 0, .int .i64 0, .int .i64 0, .int .i64 0, .int .i64 0, .int .i64 0, .int .i64 0, .int .i64 0, .int .i64 0, .int .i64 0, .int .i64 0, .int .i64 0, .int .i64 0]
def zacc : Value := .agg #[.int .i64 0, .int .i64 0, .int .i64 0, .bool false, .int .i64 0, .int .i64 0, .int .i64 0, .int .i64 0, .int .i64 0, .int .i64 0, .int .i64 0, .int .i64 0, .int .i64 0, .int .i64 0, .int .i64 0, .int .i64 0, .int .i64 0]
theorem info_kept : (Try.prog.info? 76).map (fun i => (i.zero, i.size, i.bytes)) = some (some zkept, 15, 120) := by kernel_rfl
theorem info_acc : (Try.prog.info? 78).map (fun i => (i.zero, i.size, i.bytes)) = some (some zacc, 17, 136) := by kernel_rfl

section
variable {w : World} {rb : Nat} {vk vl : Value} {C : Array Value} {r : RSt}
theorem RefT.slots (h : RefT w rb vk vl C r) : w.cell? ⟨rb, 351, none⟩ = some vk ∧ w.cell? ⟨rb, 352, none⟩ = some vl ∧ w.cell? ⟨rb, 353, none⟩ = some (.int .i64 r.races) := by
  rw [h.cell, h.cell, h.cell]
  exact ⟨h.rc.k, h.rc.l, h.rc.races⟩
/-- the cells of what is kept -/
theorem RefT.keptRow (h : RefT w rb vk vl C r) {j : Nat} (hj : j < r.kept.length) : ∃ b cap, vk = .slice (some ⟨b, 0, none⟩) r.kept.length cap ∧ w.cell? ⟨b, j * 15, none⟩ = some (.int .i64 (r.kept[j]).1.1) ∧ w.cell? ⟨b, j * 15 + 1, none⟩ = some (.int .i64 (r.kept[j]).1.2) ∧ ∀ i, i < 13 → w.cell? ⟨b, j * 15 + 2 + i, none⟩ = some (vi ((keptC r.kept j).getD i 0)) := by
  have hl : ∀ p ∈ r.kept, (keptF p).length = 15 := fun p hp => keptF_len (h.ln.kept p hp)
  have hg : r.kept[j]? = some r.kept[j] := List.getElem?_eq_getElem hj
  have G : ∀ q, q < 15 → (keptL r.kept).getD (j * 15 + q) undef = (keptF r.kept[j]).getD q undef := fun q hq => by
    rw [keptL_eq, List.getD, flat_get keptF 15 _ hl j q hq, hg]; rfl
  have hc : keptC r.kept j = (r.kept[j]).2 := by unfold keptC; rw [List.getD, hg]; rfl
  obtain ⟨b, cap, e, h0, _⟩ := h.kept.cell (j * 15) (by omega)
  refine ⟨b, cap, e, ?_, ?_, fun i hi => ?_⟩
  · have := G 0 (by omega)
    rw [Nat.add_zero] at this
    rw [h0, this]; rfl
  · obtain ⟨b', cap', e', h1, _⟩ := h.kept.cell (j * 15 + 1) (by omega)
    rw [e] at e'; cases e'
    rw [h1, G 1 (by omega)]; rfl
  · obtain ⟨b', cap', e', h1, _⟩ := h.kept.cell (j * 15 + 2 + i) (by omega)
    rw [e] at e'; cases e'
    rw [h1, Nat.add_assoc, G (2 + i) (by omega), hc]
    have hl2 : i < (r.kept[j]).2.length := by rw [h.ln.kept _ (List.getElem_mem hj)]; exact hi
    have : (keptF r.kept[j])[2 + i]? = some (vi ((r.kept[j]).2.getD i 0)) := by
      rw [Nat.add_comm]
      show ((r.kept[j]).2.map vi)[i]? = _
      exact clk_get hl2
    rw [List.getD, this]; rfl
theorem RefT.loadKept (h : RefT w rb vk vl C r) {j b cap : Nat} (hj : j < r.kept.length) (hv : vk = .slice (some ⟨b, 0, none⟩) r.kept.length cap) : (Instr.loadAt 45 (.pointer (some ⟨b, j * 15 + 2, none⟩))).run Try.prog w = .ok (clkV (keptC r.kept j)) w := by
  obtain ⟨b', cap', e, _, _, hc⟩ := h.keptRow hj
  rw [hv] at e
  cases e
  refine load_clk ?_ hc
  unfold keptC
  rw [List.getD, List.getElem?_eq_getElem hj]
  exact h.ln.kept _ (List.getElem_mem hj)
theorem fpv_nodup {v : Value} : (fpv v).Nodup := by
  unfold fpv
  cases v.ownBlock <;> simp
/-- one more is kept: the new slice is in its place -/
theorem RefT.addKept {w2 : World} {v' : Value} {k : Int × Int} (h : RefT w rb vk vl C r) (hv : RV w2 76 15 v' (r.kept.length + 1) (keptL r.kept ++ keptF (k, z13))) (f : Fr (fpv vk) w w2) (hn : ∀ b ∈ fpv v', b ∈ fpv vk ∨ w.heap.size ≤ b) :
    RefT (w2.setCell ⟨rb, 351, none⟩ v') rb v' vl (C.setIfInBounds 351 v') { r with kept := r.kept ++ [(k, z13)] } := by
  have hlt := h.lt
  have nd := h.nd
  rw [List.nodup_cons, List.nodup_append] at nd
  obtain ⟨n1, n2, n3, n4⟩ := nd
  have hrk : rb ∉ fpv vk := fun hm => n1 (by simp [hm])
  have hrl : rb ∉ fpv vl := fun hm => n1 (by simp [hm])
  have hrv : rb ∉ fpv v' := fun hm => by
    rcases hn rb hm with h1 | h1
    · exact hrk h1
    · have := hlt rb (by simp); omega
  have g : Fr [rb] w2 (w2.setCell ⟨rb, 351, none⟩ v') := (Fr.refl _ _).setCell (.inl (by simp)) _
  refine ⟨heap_setCell_same w2 rb 351 _ _ v' (f.obj h.blk hrk), (h.rc.setK v').kl (k := r.kept ++ [(k, z13)]) (l := r.l), ?_, ?_, ?_, ?_⟩
  · have e : keptL (r.kept ++ [(k, z13)]) = keptL r.kept ++ keptF (k, z13) := by rw [keptL_eq, keptL_eq, List.flatMap_append]; simp
    simp only [List.length_append, List.length_singleton]
    rw [e]
    exact hv.keep g (fun b hb hm => hrv (List.mem_singleton.1 hm ▸ hb))
  · exact (h.accs.keep f (fun b hb hm => n4 b hm b hb rfl)).keep g (fun b hb hm => hrl (List.mem_singleton.1 hm ▸ hb))
  · refine { h.ln with kept := fun p hp => ?_ }
    rcases List.mem_append.1 hp with h1 | h1
    · exact h.ln.kept p h1
    · rw [List.mem_singleton.1 h1]; simp [z13]
  · rw [List.nodup_cons, List.nodup_append]
    refine ⟨fun hm => ?_, fpv_nodup, n3, fun x hx y hy e => ?_⟩
    · rcases List.mem_append.1 hm with h1 | h1
      · exact hrv h1
      · exact hrl h1
    · subst e
      rcases hn x hx with h1 | h1
      · exact n4 x h1 x hy rfl
      · have := hlt x (by simp [hy]); omega
end

def FindPost (w : World) (rb : Nat) (F : List Nat) (r : RSt) (k : Int × Int) (e : Ending) (w' : World) : Prop := e = .returned (.int .i64 (fidx r.kept k : Nat)) ∧ RMv w w' rb F { r with kept := ffnd r.kept k }
theorem fidx_here {l : List ((Int × Int) × List Int)} {k : Int × Int} {j : Nat} (hj : j < l.length) (h : (l[j]).1 = k) (hno : ∀ i, (hi : i < j) → (l[i]'(by omega)).1 ≠ k) : fidx l k = j ∧ ffnd l k = l := by
  have e : fidx l k = j := by
    unfold fidx
    rw [List.findIdx_eq hj]
    exact ⟨by simpa using h, fun i hi => by simpa using hno i hi⟩
  refine ⟨e, ?_⟩
  unfold ffnd
  rw [e, if_pos hj]
theorem fidx_none {l : List ((Int × Int) × List Int)} {k : Int × Int} (hno : ∀ i, (hi : i < l.length) → (l[i]).1 ≠ k) : fidx l k = l.length ∧ ffnd l k = l ++ [(k, z13)] := by
  have e : fidx l k = l.length := by
    unfold fidx
    refine List.findIdx_eq_length_of_false (fun x hx => ?_)
    obtain ⟨i, hi, rfl⟩ := List.mem_iff_getElem.1 hx
    simpa using hno i hi
  refine ⟨e, ?_⟩
  unfold ffnd
  rw [e, if_neg (by omega)]

set_option maxHeartbeats 1000000 in
theorem rfind_any {w : World} {rb : Nat} {F : List Nat} {r : RSt} (h : Ref w rb F r) (hk : r.kept.length ≤ 1000) (a i : Int) : Calls Try.prog 43 #[.pointer (some ⟨rb, 0, none⟩), .int .i64 a, .int .i64 i] w (FindPost w rb F r (a, i)) := by
  have H0 := hid h
  obtain ⟨vk, vl, C, rfl, h⟩ := h
  obtain ⟨ak, ck, hvk, hck, _⟩ := h.kept.form
  obtain ⟨n, hn⟩ : ∃ n, n = r.kept.length := ⟨_, rfl⟩
  rw [← hn] at hvk hk hck
  have HN := hid hn
  have HD := hid h
  have c1 := h.slots.1
  rw [hvk] at c1
  have HVK := hid hvk
  obtain ⟨i0, hi, hz0, hz1, hz2⟩ := info_parts info_kept
  have HI := hid hi
  have HZ0 := hid hz0
  have HZ1 := hid hz1
  have HZ2 := hid hz2
  clear h hn hvk hi hz0 hz1 hz2
  go_enter Try.func43, Try.ntmps43
  go_wp2_with fail
  go_loop [7] (fun v => ∃ j : Nat, v = .int .i64 j ∧ j ≤ n ∧ Hid (∀ i', (hi : i' < j) → (hl : i' < r.kept.length) → (r.kept[i']).1 ≠ (a, i))) (fun v => n - (intOf v).toNat)
  case atStart => exact ⟨0, rfl, by omega, hid (fun i' hi => by omega)⟩
  case round =>
    obtain ⟨j, rfl, hj, hno⟩ := hrel
    by_cases hlt : j < n
    · have hlt2 : (j : Int) < n := by omega
      have hjl : j < r.kept.length := by rw [← HN.out]; exact hlt
      obtain ⟨b, cap, e, q0, q1, _⟩ := HD.out.keptRow hjl
      rw [HVK.out, ← HN.out] at e
      injection e with e1 e2 e3
      subst e1
      clear e2 e3
      have HJL := hid hjl
      obtain ⟨⟨⟨pa, pi⟩, pc⟩, hp⟩ : ∃ p, p = r.kept[j]'HJL.out := ⟨_, rfl⟩
      rw [← hp] at q0 q1
      simp only [] at q0 q1
      have HP := hid hp
      have hjb : (j : Int) ≤ 1000 := by omega
      clear hp hjl
      by_cases ha : pa = a
      · subst ha
        by_cases hi' : pi = i
        · subst hi'
          have HH := hid (fidx_here HJL.out (k := (pa, pi)) (by rw [← HP.out]) (fun i' hi => hno.out i' hi _))
          clear hlt hno
          go_wp2_with fail
          go_ret
          exact ⟨by rw [HH.out.1]; rfl, by rw [HH.out.2]; exact RMv.refl H0.out⟩
        · have e2 : (pi == i) = false := by simpa using hi'
          have hno2 := hid (show ∀ i', (hi : i' < j + 1) → (hl : i' < r.kept.length) → (r.kept[i']).1 ≠ (pa, i) from fun i' hi hl e => by
            by_cases h1 : i' = j
            · subst h1
              rw [← HP.out] at e
              injection e with _ e
              exact hi' e
            · exact hno.out i' (by omega) hl e)
          clear hlt hno hi'
          go_wp2_with fail
          go_round
          case rel => exact ⟨j + 1, by go_num, by omega, hno2⟩
          case measure => simp [intOf]; omega
      · have e1 : (pa == a) = false := by simpa using ha
        have hno2 := hid (show ∀ i', (hi : i' < j + 1) → (hl : i' < r.kept.length) → (r.kept[i']).1 ≠ (a, i) from fun i' hi hl e => by
            by_cases h1 : i' = j
            · subst h1
              rw [← HP.out] at e
              injection e with e _
              exact ha e
            · exact hno.out i' (by omega) hl e)
        clear hlt hno ha
        go_wp2_with fail
        go_round
        case rel => exact ⟨j + 1, by go_num, by omega, hno2⟩
        case measure => simp [intOf]; omega
    · obtain rfl : j = n := by omega
      have hlt2 : ¬ (j : Int) < j := by omega
      have HH := hid (fidx_none (l := r.kept) (k := (a, i)) (fun i' hi => hno.out i' (by rw [HN.out]; exact hi) hi))
      have HKV := hid (fun t => show RV (w.alloc t) 76 15 (.slice ak j ck) j (keptL r.kept) from by
        have := HD.out.kept.keep0 ((Fr.refl _ _).alloc t)
        rw [HVK.out, ← HN.out] at this
        exact this)
      have hjb : j ≤ 1000 := hk
      obtain ⟨row, hrow⟩ : ∃ row : List Value, row = keptF ((a, i), z13) := ⟨_, rfl⟩
      have HROW := hid hrow
      have hrow2 : row = [.int .i64 a, .int .i64 i, .int .i64 0, .int .i64 0, .int .i64 0, .int .i64 0, .int .i64 0, .int .i64 0, .int .i64 0, .int .i64 0, .int .i64 0, .int .i64 0, .int .i64 0, .int .i64 0, .int .i64 0] := by rw [hrow]; rfl
      have HROW2 := hid hrow2
      have HNW : Hid (∀ t (q : Nat) u, row[q]? = some u → (w.alloc (.cells #[.int .i64 a, .int .i64 i, .int .i64 0, .int .i64 0, .int .i64 0, .int .i64 0, .int .i64 0, .int .i64 0, .int .i64 0, .int .i64 0, .int .i64 0, .int .i64 0, .int .i64 0, .int .i64 0, .int .i64 0] t)).cell? ((⟨w.heap.size, 0, none⟩ : Addr).add q) = some u) := hid (fun t q u hu => by
        have e : (⟨w.heap.size, 0, none⟩ : Addr).add q = ⟨w.heap.size, q, none⟩ := by cases q <;> simp [Addr.add]
        rw [e, cell_of_row _ _ _ _ _ _ (heap_alloc_new w _), ← Array.getElem?_toList]
        rw [HROW2.out] at hu
        exact hu)
      have HONE : Hid (∀ u ∈ row, u.oneCell' = true) := hid (fun u hu => by
        rw [HROW2.out] at hu
        simp only [List.mem_cons, List.not_mem_nil, or_false] at hu
        rcases hu with h | h | h | h | h | h | h | h | h | h | h | h | h | h | h <;> rw [h] <;> rfl)
      have HRL : Hid (row.length = 1 * 15) := hid (by rw [HROW2.out]; rfl)
      have HC1 : Hid (∀ t, (w.alloc t).cell? ⟨rb, 351, none⟩ = some (.slice ak j ck)) := hid (fun t => ((Fr.refl [] w).alloc t).cell c1 (by simp))
      have HRK : Hid (rb ∉ fpv (.slice ak j ck)) := hid (by
        have nd := HD.out.nd
        rw [List.nodup_cons, HVK.out] at nd
        exact fun hm => nd.1 (by simp [hm]))
      clear hlt hno hk hrow hrow2
      go_wp2_with (at_builtin; go_loud (refine wp_append_rv rfl (.tmp 44) (.tmp 48) 48 rfl 76 i0 zkept 15 120 und_kepts HI.out HZ0.out HZ1.out HZ2.out rfl (by decide) (.slice ak j ck) j (keptL r.kept) rfl (HKV.out _) ⟨w.heap.size, 0, none⟩ 1 1 row rfl HRL.out (HNW.out _) HONE.out (by unfold maxLen; omega) (by omega) ?_); intro a5 c5 w5 r5 f5 n5; have R5 := hid r5; have F5 := hid f5; have N5 := hid n5; have q1 := f5.cell (HC1.out _) HRK.out; have q2 : w5.frozen? ⟨rb, 351, none⟩ = false := frozen_of_row _ _ _ _ _ (f5.obj (((Fr.refl [] w).alloc _).obj HD.out.blk (by simp)) HRK.out); clear r5 f5 n5)
      have HR := hid (show RefT (w5.setCell ⟨rb, 351, none⟩ (.slice a5 (j + 1) c5)) rb (.slice a5 (j + 1) c5) vl (C.setIfInBounds 351 (.slice a5 (j + 1) c5)) { r with kept := r.kept ++ [((a, i), z13)] } from by
        refine RefT.addKept HD.out (by rw [← HN.out, ← HROW.out]; exact R5.out) (by rw [HVK.out]; exact ((Fr.refl _ _).alloc _).tr F5.out) (fun b hb => ?_)
        rw [HVK.out]
        rcases N5.out b hb with h1 | h1
        · exact .inl h1
        · rw [World.size_alloc] at h1; exact .inr (by omega))
      have HFR := hid (show Fr (rb :: (fpv vk ++ fpv vl)) w (w5.setCell ⟨rb, 351, none⟩ (.slice a5 (j + 1) c5)) from by
        refine (((((Fr.refl _ _).alloc _).tr F5.out).sub (S' := rb :: (fpv vk ++ fpv vl)) (fun x hx => .inl ?_)).setCell (.inl (by simp)) _)
        rw [HVK.out]; simp [hx])
      go_ret
      refine ⟨by rw [HH.out.1, ← HN.out]; go_num, _, ⟨_, _, _, rfl, by rw [HH.out.2]; exact HR.out⟩, HFR.out, fun b hb => ?_⟩
      simp only [List.mem_cons, List.mem_append] at hb ⊢
      rcases hb with h1 | h1 | h1
      · exact .inl (.inl h1)
      · rcases N5.out b h1 with h2 | h2
        · exact .inl (.inr (.inl (by rw [HVK.out]; exact h2)))
        · rw [World.size_alloc] at h2; exact .inr (by omega)
      · exact .inl (.inr (.inr h1))

end Go.Proofs.Ytjkakhjajfpldaa
