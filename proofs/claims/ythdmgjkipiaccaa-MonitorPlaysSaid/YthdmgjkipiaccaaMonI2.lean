/-
  Package monitor: what Notify does in one round.
-/
import Derived.Test.YthdmgjkipiaccaaMonG
import Derived.Test.YthdmgjkipiaccaaSlInt2
namespace Go.Proofs.Ythdmgjkipiaccaa
open Go.RowKit

structure NRel (w wk : World) (tb mb cb : Nat) (g1 g2 : List LkG) (g : LkG) (cs : List ((Int × Int) × Int)) (k : Nat) (gk : LkG) : Prop where
  at' : gk.at' = g.at'
  b : gk.b = g.b
  L : gk.L = { g.L with entry := g.L.entry ++ g.L.wait.take k, wait := g.L.wait.drop k }
  mon : MonT wk ⟨tb, mb, cb, g1 ++ gk :: g2⟩ cs
  fr : Fr g.fp w wk
  fp : ∀ x ∈ gk.fp, x ∈ g.fp ∨ w.heap.size ≤ x

theorem notified_end {L : PLk} {all : Bool} {k : Nat} (hk : k = L.wait.length ∨ (all = false ∧ k = 1)) (hle : k ≤ L.wait.length) (hone : all = false → k ≤ 1) :
    L.notified all = (k, { L with entry := L.entry ++ L.wait.take k, wait := L.wait.drop k }) := by
  obtain ⟨o, c, f, en, wa⟩ := L
  simp only [PLk.notified] at *
  cases all with
  | true =>
    have : k = wa.length := by simpa using hk
    subst this
    simp
  | false =>
    have h1 : k ≤ 1 := hone rfl
    cases wa with
    | nil =>
      obtain rfl : k = 0 := by simpa using hle
      simp
    | cons x r =>
      have : k = 1 := by
        rcases hk with h | h
        · simp at h; omega
        · exact h.2
      subst this
      simp
theorem drop_cons {l : List Int} {k : Nat} (h : k < l.length) : l.drop k = l.getD k 0 :: l.drop (k + 1) := by
  rw [List.drop_eq_getElem_cons h, List.getD, List.getElem?_eq_getElem h]; rfl
theorem take_snoc {l : List Int} {k : Nat} (h : k < l.length) : l.take (k + 1) = l.take k ++ [l.getD k 0] := by
  rw [List.take_succ_eq_append_getElem h, List.getD, List.getElem?_eq_getElem h]; rfl

theorem notify_step {w wk w2 : World} {tb mb cb : Nat} {g1 g2 : List LkG} {g gk : LkG} {cs : List ((Int × Int) × Int)} {k : Nat} (hrel : NRel w wk tb mb cb g1 g2 g cs k gk) (hk : k < g.L.wait.length) {x : Int} (hx : x = g.L.wait.getD k 0) {v' : Value}
    (hs2 : Sli w2 v' (gk.L.entry ++ [x])) (fA : Fr (fpv gk.ve) wk w2) (hv2 : ∀ y ∈ fpv v', y ∈ fpv gk.ve ∨ wk.heap.size ≤ y) :
    Sli (w2.setCell ⟨g.b, 3, none⟩ v') gk.vw (x :: g.L.wait.drop (k + 1)) ∧ (w2.setCell ⟨g.b, 3, none⟩ v').cell? ⟨g.b, 4, none⟩ = some gk.vw ∧ (w2.setCell ⟨g.b, 3, none⟩ v').frozen? ⟨g.b, 4, none⟩ = false ∧ g.b ∉ fpv gk.vw ∧
    ∀ wD v'', Sli wD v'' (g.L.wait.drop (k + 1)) → Fr (fpv gk.vw) (w2.setCell ⟨g.b, 3, none⟩ v') wD → fpv v'' = fpv gk.vw → ∃ gk2, NRel w (wD.setCell ⟨g.b, 4, none⟩ v'') tb mb cb g1 g2 g cs (k + 1) gk2 := by
  have hA := hrel.mon.lks gk (by simp)
  have hnd := hrel.mon.ndg (g := gk) (by simp)
  have hwk : gk.L.wait = x :: g.L.wait.drop (k + 1) := by rw [hrel.L, hx]; exact drop_cons hk
  obtain ⟨A0, fB, hnd0, hfp0⟩ := hA.newEnt hnd hs2 fA hv2
  rw [← hrel.b]
  have hw0 := A0.wai
  rw [show (LkG.mk gk.at' gk.b v' gk.vw { gk.L with entry := gk.L.entry ++ [x] }).L.wait = x :: g.L.wait.drop (k + 1) from hwk] at hw0
  refine ⟨hw0, A0.c.2.2.2.2, A0.fr 4, (LkG.parts hnd0).2.1, fun wD v'' hs fD hfv => ?_⟩
  obtain ⟨A1, fC, hnd1, hfp1⟩ := A0.newWai hnd0 hs fD (fun y hy => .inl (by rw [hfv] at hy; exact hy))
  have f : Fr gk.fp wk (wD.setCell ⟨gk.b, 4, none⟩ v'') := fB.trans fC hfp0
  have hfp : ∀ y ∈ LkG.fp ⟨gk.at', gk.b, v', v'', { gk.L with entry := gk.L.entry ++ [x], wait := g.L.wait.drop (k + 1) }⟩, y ∈ gk.fp ∨ wk.heap.size ≤ y := by
    intro y hy
    rcases hfp1 y hy with h1 | h1
    · exact hfp0 y h1
    · exact .inr (Nat.le_trans fB.size h1)
  refine ⟨⟨gk.at', gk.b, v', v'', { gk.L with entry := gk.L.entry ++ [x], wait := g.L.wait.drop (k + 1) }⟩, hrel.at', hrel.b, ?_, hrel.mon.back f A1 rfl rfl hfp hnd1, hrel.fr.trans f hrel.fp, fun y hy => ?_⟩
  · have e := hrel.L
    show ({ gk.L with entry := gk.L.entry ++ [x], wait := g.L.wait.drop (k + 1) } : PLk) = _
    rw [e, take_snoc hk, ← hx]
    simp
  · rcases hfp y hy with h1 | h1
    · exact hrel.fp y h1
    · exact .inr (Nat.le_trans hrel.fr.size h1)

end Go.Proofs.Ythdmgjkipiaccaa
