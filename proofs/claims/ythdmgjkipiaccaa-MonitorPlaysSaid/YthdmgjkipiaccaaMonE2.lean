/-
  Package monitor: Enter, of a lock that isn't there yet; all of Enter.
-/
import Derived.Test.YthdmgjkipiaccaaMonE
namespace Go.Proofs.Ythdmgjkipiaccaa
open Go.RowKit

/-- the lock is a new one -/
theorem enter_new {w : World} {tb mb cb : Nat} {gs : List LkG} {cs : List ((Int × Int) × Int)} {T : PT} (h : MonT w ⟨tb, mb, cb, gs⟩ cs) (hls : T.ls = gs.map (fun g => (g.at', g.L))) (hcs : T.cs = cs)
    (a t : Int) (h1 : ¬ a < 1) (h2 : ¬ t < 1) (hst : T.stands t = false) (hno : ∀ q ∈ gs, q.at' ≠ a) (hl : lget (gs.map (fun g => (g.at', ptrV g.b))) a = none) :
    Calls Try.prog 10 #[ptrV tb, .int .i64 a, .int .i64 t] w (OpPost w (ptrV tb) (Lies.mk tb mb cb gs).fp (.tuple #[.bool true, .int .i64 0]) ⟨lput T.ls a { PLk.zero with owner := t, count := 1 }, T.cs⟩) := by
  have HS := hid (stands_any h t)
  rw [gs_any hls, hst] at HS
  have HM := hid h
  have HL := hid hls
  have HC := hid hcs
  have HNO := hid hno
  have HLG := hid hl
  have hb1 : decide (a < 1) = false := by simpa using h1
  have hb2 : decide (t < 1) = false := by simpa using h2
  have H1 := hid h1
  have H2 := hid h2
  clear h hls hcs h1 h2 hst hno hl
  unfold ptrV at HS ⊢
  go_enter Try.func10, Try.ntmps10
  go_wp2_with fail
  refine HS.out.mono ?_
  rintro e w1 ⟨rfl, f1⟩
  have hm1 := HM.out.keep0 f1
  have hc0 := hm1.c0
  have hk := hm1.look a
  rw [show lget _ a = none from HLG.out] at hk
  obtain ⟨w2, hup, hm2, f2, hsz2⟩ := (hm1.lm.keep ((Fr.refl [] _).alloc (.cells #[.int .i64 0, .int .i64 0, .bool false, .slice none 0 0, .slice none 0 0] 33)) (by simp)).store (P := Try.prog) ik_keys und_locks a (.pointer (some ⟨w1.heap.size, 0, none⟩))
  have hlt1 := hm1.lt
  have hmb1 : mb < w1.heap.size := hlt1 mb (by simp [Lies.fp])
  have hblk : w2.heap[w1.heap.size]? = some (.cells #[.int .i64 0, .int .i64 0, .bool false, .slice none 0 0, .slice none 0 0] 33 (0, 0)) := f2.obj (heap_alloc_new _ _) (by simp; omega)
  have c0 : w2.cell? ⟨w1.heap.size, 0, none⟩ = some (.int .i64 0) := by rw [cell_of_row _ _ _ _ _ _ hblk]; rfl
  have c1 : w2.cell? ⟨w1.heap.size, 1, none⟩ = some (.int .i64 0) := by rw [cell_of_row _ _ _ _ _ _ hblk]; rfl
  have u0 : w2.frozen? ⟨w1.heap.size, 0, none⟩ = false := frozen_of_row _ _ _ _ _ hblk
  have u1 : w2.frozen? ⟨w1.heap.size, 1, none⟩ = false := frozen_of_row _ _ _ _ _ hblk
  have hc0b := ((Fr.refl [] w1).alloc (.cells #[.int .i64 0, .int .i64 0, .bool false, .slice none 0 0, .slice none 0 0] 33)).cell hc0 (by simp)
  have HBK := hid hblk
  have HM1 := hid hm1
  have HM2 := hid hm2
  have F1 := hid f1
  have F2 := hid f2
  have HZ := hid hsz2
  have HB := hid hmb1
  clear hm1 f1 f2 hm2 hblk hsz2 hlt1 hmb1
  simp only [Option.getD_none] at hk
  simp only [] at hc0 hc0b hk hup
  simp only [intK] at hup
  go_wp2_with fail
  go_ret2
  refine ⟨rfl, ?_⟩
  have A0 : LkAt w2 ⟨a, w1.heap.size, .slice none 0 0, .slice none 0 0, PLk.zero⟩ := ⟨HBK.out, Sli.nil _, Sli.nil _⟩
  have n0 : (LkG.fp ⟨a, w1.heap.size, .slice none 0 0, .slice none 0 0, PLk.zero⟩).Nodup := by simp [LkG.fp, fpv, Value.ownBlock]
  have A1 := A0.set 0 (.int .i64 t) (L' := { PLk.zero with owner := t }) n0 rfl rfl rfl
  have A2 := A1.set 1 (.int .i64 1) (L' := { PLk.zero with owner := t, count := 1 }) n0 rfl rfl rfl
  have fN : Fr [w1.heap.size] w2 ((w2.setCell ⟨w1.heap.size, 0, none⟩ (.int .i64 t)).setCell ⟨w1.heap.size, 1, none⟩ (.int .i64 1)) := ((Fr.refl _ _).setCell (.inl (by simp)) _).setCell (.inl (by simp)) _
  have f3 := ((((Fr.refl [mb] w1).alloc (.cells #[.int .i64 0, .int .i64 0, .bool false, .slice none 0 0, .slice none 0 0] 33)).tr F2.out).setCell (p := ⟨w1.heap.size, 0, none⟩) (.inr (Nat.le_refl _)) (.int .i64 t)).setCell (p := ⟨w1.heap.size, 1, none⟩) (.inr (Nat.le_refl _)) (.int .i64 1)
  have hmb : mb ≠ w1.heap.size := by have := HB.out; omega
  have hM := HM2.out.keep fN (by simpa using hmb)
  rw [lput_none (fun q hq => by obtain ⟨g, hg, rfl⟩ := List.mem_map.1 hq; exact HNO.out g hg)] at hM
  have hT := HM1.out.add f3 (g := ⟨a, w1.heap.size, .slice none 0 0, .slice none 0 0, { PLk.zero with owner := t, count := 1 }⟩) hM A2 (fun x hx => by simp [LkG.fp, fpv, Value.ownBlock] at hx; omega) (by simp [LkG.fp, fpv, Value.ownBlock])
  refine ⟨_, ⟨_, rfl, rfl, ?_, by rw [HC.out]; exact hT⟩, ?_, ?_⟩
  · show lput T.ls a _ = _
    rw [lput_none (fun q hq => by rw [HL.out] at hq; obtain ⟨g, hg, rfl⟩ := List.mem_map.1 hq; exact HNO.out g hg), HL.out]
    simp
  · exact (F1.out.sub (by simp)).tr (f3.sub (fun x hx => .inl (by rw [List.mem_singleton.1 hx]; simp [Lies.fp])))
  · intro x hx
    have e : (Lies.mk tb mb cb (gs ++ [⟨a, w1.heap.size, .slice none 0 0, .slice none 0 0, { PLk.zero with owner := t, count := 1 }⟩])).fp = (Lies.mk tb mb cb gs).fp ++ [w1.heap.size] := by simp [Lies.fp, LkG.fp, fpv, Value.ownBlock]
    rw [e] at hx
    rcases List.mem_append.1 hx with h1 | h1
    · exact .inl h1
    · rw [List.mem_singleton.1 h1]; exact .inr F1.out.size

theorem enter_any {w : World} {p : Value} {F : List Nat} {T : PT} {n : Nat} (h : Mon w p F T) (hs : T.Small n) (hn : n ≤ 100000) (a t : Int) :
    Calls Try.prog 10 #[p, .int .i64 a, .int .i64 t] w (OpPost w p F (.tuple #[.bool (T.enter a t).1.1, .int .i64 (T.enter a t).1.2]) (T.enter a t).2) := by
  by_cases hno : a < 1 ∨ t < 1 ∨ T.stands t = true
  · have e : T.enter a t = ((false, 130), T) := by unfold PT.enter; rw [if_pos hno]
    rw [e]; exact enter_no h a t hno
  · have e : T.enter a t = (((T.at a).enter t |>.1, 0), { T with ls := lput T.ls a ((T.at a).enter t).2 }) := by unfold PT.enter; rw [if_neg hno]
    rw [e]
    have h1 : ¬ a < 1 := fun h => hno (.inl h)
    have h2 : ¬ t < 1 := fun h => hno (.inr (.inl h))
    have h3 : T.stands t = false := by rw [Bool.eq_false_iff]; exact fun h => hno (.inr (.inr h))
    obtain ⟨⟨tb, mb, cb, gs⟩, rfl, rfl, hls, hm⟩ := h
    cases hg : lget T.ls a with
    | none =>
      have e2 : T.at a = PLk.zero := by unfold PT.at; rw [hg]; rfl
      rw [hls] at hg
      obtain ⟨hl, hq⟩ := lget_gs_none hg
      have e3 : PLk.zero.enter t = (true, { PLk.zero with owner := t, count := 1 }) := rfl
      rw [e2, e3]
      exact enter_new hm hls rfl a t h1 h2 h3 hq hl
    | some L =>
      have e2 : T.at a = L := by unfold PT.at; rw [hg]; rfl
      have hsm := hs.ls a L (lget_mem hg)
      rw [hls] at hg
      obtain ⟨g1, g, g2, rfl, hat, rfl, _, hl⟩ := lget_gs hg
      rw [e2]
      exact enter_old hm hls rfl hsm hn a t h1 h2 h3 hat hl

end Go.Proofs.Ythdmgjkipiaccaa
