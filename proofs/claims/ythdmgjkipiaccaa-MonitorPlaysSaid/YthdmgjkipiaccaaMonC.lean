/-
  Package monitor: stands.
-/
import Derived.Test.YthdmgjkipiaccaaMonB
namespace Go.Proofs.Ythdmgjkipiaccaa
open Go.RowKit

/-- how many pairs are left -/
def leftW (b r : Nat) (w : World) : Nat :=
  match w.heap[b]?, w.heap[r]? with
  | some (.map es _), some (.mapIter _ _ seen _) => (es.toList.filter (fun e => !seen.contains e.born)).length
  | _, _ => 0
theorem Over.left_eq {K : Type} {w : World} {b r : Nat} {kv : K → Value} {l left : List (K × Value)} (h : Over w b r kv l left) : leftW b r w = left.length := by
  obtain ⟨es, clock, seen, hb, rfl, hd, hs, hbn, hr, rfl⟩ := h
  unfold leftW
  rw [hb, hr]
  simp only [List.filter_map, List.length_map]
  rfl

theorem MonT.keep0 {w w' : World} {l : Lies} {cs : List ((Int × Int) × Int)} (h : MonT w l cs) (f : Fr [] w w') : MonT w' l cs := h.keep f (by simp)
theorem gs_keys {w : World} {l : Lies} {cs : List ((Int × Int) × Int)} (h : MonT w l cs) : (l.gs.map LkG.at').Nodup := by
  have := h.lm.nodup
  rw [List.map_map] at this
  exact this

structure StRel (w wr : World) (l : Lies) (cs : List ((Int × Int) × Int)) (t : Int) : Prop where
  fr : Fr [] w wr
  ov : ∃ left, Over wr l.mb w.heap.size intK (l.gs.map (fun g => (g.at', ptrV g.b))) left ∧ ∀ g ∈ l.gs, (g.at', ptrV g.b) ∉ left → g.L.has t = false

set_option maxHeartbeats 1000000 in
theorem stands_any {w : World} {l : Lies} {cs : List ((Int × Int) × Int)} (h : MonT w l cs) (t : Int) :
    Calls Try.prog 26 #[ptrV l.tb, .int .i64 t] w fun e w' => e = .returned (.bool (l.gs.any (fun g => g.L.has t))) ∧ Fr [] w w' := by
  have hc0 := h.c0
  obtain ⟨w0, hrng, hov, f0, hsz⟩ := h.lm.range (P := Try.prog) und_locks
  have hmb : l.mb ≠ w.heap.size := by have := h.lm.lt; omega
  have HMB := hid hmb
  have H := hid h
  have HS := hid (show StRel w w0 l cs t from ⟨f0, _, hov, fun g hg hn => absurd (List.mem_map.2 ⟨g, hg, rfl⟩) hn⟩)
  clear h hov f0 hsz hmb
  unfold ptrV
  go_enter Try.func26, Try.ntmps26
  go_wp2_with fail
  go_loopw [6] (fun _ wr => StRel w wr l cs t) (fun _ wr => leftW l.mb w.heap.size wr)
  case atStart => exact HS.out
  case round =>
    obtain ⟨left, hov, hdone⟩ := hrel.ov
    have HD := hid hdone
    have HF := hid hrel.fr
    clear hdone hrel
    have hL := hov.left_eq
    have HL := hid hL
    have HOV := hid hov
    clear hL
    rcases hov.next (P := Try.prog) HMB.out 0 with ⟨hnil, hrun⟩ | ⟨k, v, left', w1, hm, hlt, hsub, hrun, hov1, f1, hsz1, hent⟩
    · have hnx : ∀ ty, (Instr.next (.pointer (some ⟨w.heap.size, 0, none⟩)) false ty).run Try.prog wr = .ok (.tuple #[.bool false]) wr := fun _ => hrun
      have HA := hid (show (l.gs.any (fun g => g.L.has t)) = false from by
        rw [List.any_eq_false]; intro g hg; rw [HD.out g hg (by rw [hnil]; simp)]; simp)
      clear hov hnil hrun
      go_wp2_with fail
      go_ret
      exact ⟨by rw [HA.out]; rfl, HF.out⟩
    · obtain ⟨g, hg, e⟩ := List.mem_map.1 (hov.sub _ hm)
      simp only [Prod.mk.injEq] at e
      obtain ⟨rfl, rfl⟩ := e
      have hnx : ∀ ty, (Instr.next (.pointer (some ⟨w.heap.size, 0, none⟩)) false ty).run Try.prog wr = .ok (.tuple #[.bool true, .int .i64 g.at', ptrV g.b]) w1 := fun _ => hrun
      have F1 : Fr [] w w1 := HF.out.trans f1 (fun x hx => .inr (by rw [List.mem_singleton.1 hx]; exact Nat.le_refl _))
      have hst := fun hno : g.L.has t = false => show StRel w w1 l cs t from ⟨F1, left', hov1, fun g' hg' hn' => by
        by_cases e : (g'.at', ptrV g'.b) ∈ left
        · rcases hsub _ e with e1 | e1
          · exact absurd e1 hn'
          · simp only [Prod.mk.injEq] at e1
            rw [inj_of_nodup (gs_keys H.out) hg' hg e1.1]; exact hno
        · exact HD.out g' hg' e⟩
      have HST := hid hst
      have HLT := hid (show leftW l.mb w.heap.size w1 < leftW l.mb w.heap.size wr from by rw [hov1.left_eq, HL.out]; exact hlt)
      have HAY := hid (fun h : g.L.has t = true => show l.gs.any (fun g => g.L.has t) = true from List.any_eq_true.2 ⟨g, hg, h⟩)
      have hA := ((H.out.keep0 F1).lks g hg)
      obtain ⟨c0, c1, c2, c3, c4⟩ := hA.c
      have HE := hid (contains_any w1 g.ve g.L.entry t hA.ent)
      have HW := hid (contains_any w1 g.vw g.L.wait t hA.wai)
      have HF1 := hid F1
      have HH : Hid (g.L.has t = (g.L.entry.contains t || g.L.wait.contains t)) := hid rfl
      clear hov hsub hov1 f1 hsz1 hst hlt hrun hm hA F1 c0 c1 c2 hg
      simp only [intK] at hent
      unfold ptrV at hnx hent
      generalize g.L.entry.contains t = ce at HE HH
      generalize g.L.wait.contains t = cw at HW HH
      cases ce with
      | true =>
        go_wp2_with fail
        refine HE.out.mono ?_
        rintro e w2 ⟨rfl, rfl⟩
        go_wp2_with fail
        go_ret
        exact ⟨by rw [HAY.out (by rw [HH.out]; rfl)]; rfl, HF1.out⟩
      | false =>
        go_wp2_with fail
        refine HE.out.mono ?_
        rintro e w2 ⟨rfl, rfl⟩
        go_wp2_with fail
        refine HW.out.mono ?_
        rintro e w2 ⟨rfl, rfl⟩
        cases cw with
        | true =>
          go_wp2_with fail
          go_ret
          exact ⟨by rw [HAY.out (by rw [HH.out]; rfl)]; rfl, HF1.out⟩
        | false =>
          go_wp2_with fail
          go_roundw
          case rel => exact HST.out (by rw [HH.out]; rfl)
          case measure => exact HLT.out

end Go.Proofs.Ythdmgjkipiaccaa
