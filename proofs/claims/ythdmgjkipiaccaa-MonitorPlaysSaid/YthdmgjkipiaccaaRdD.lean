/-
  MonitorPlays: one more lock in the document's table; plain lemmas of Enter.
-/
import Derived.Test.YthdmgjkipiaccaaRdX
namespace Go.Proofs.Ythdmgjkipiaccaa
open Go.RowKit

def rgZ (a : Int) : RG := ⟨RL.zero a, .slice none 0 0, .slice none 0 0⟩
theorem DocT.tb_not {w : World} {tb : Nat} {v : Value} {G : List RG} (h : DocT w tb v G) : tb ∉ fpv v := by
  intro hm
  rw [mem_fpv] at hm
  rcases h.row.parts with ⟨e1, _⟩ | ⟨b', cap', cur, e1, hh, hl, hc, hs, ht⟩
  · rw [e1] at hm; cases hm
  · rw [e1] at hm
    cases hm
    rw [h.blk] at hh
    simp only [Option.some.injEq, Obj.cells.injEq] at hh
    exact absurd hh.2.1 (by decide)
theorem DocT.tblz {w : World} {tb : Nat} {v : Value} {G : List RG} (h : DocT w tb v G) : w.frozen? ⟨tb, 0, none⟩ = false := frozen_of_row _ _ _ _ _ h.blk
/-- the table's slice is another -/
theorem DocT.row' {w w' : World} {tb : Nat} {v v' : Value} {G G' : List RG} {S : List Nat} (h : DocT w tb v G) (f : Fr S w w') (hS : ∀ b ∈ S, b ∈ fpv v) (hr : RV w' 77 6 v' G'.length (cellsG G')) (hq : ∀ g ∈ G', WQ w' g.ve g.x.entry ∧ WQ w' g.vw g.x.wait) :
    DocT (w'.setCell ⟨tb, 0, none⟩ v') tb v' G' := by
  have hb : w'.heap[tb]? = some (.cells #[v] 46 (0, 0)) := f.obj h.blk (fun k => h.tb_not (hS _ k))
  have hb2 : (w'.setCell ⟨tb, 0, none⟩ v').heap[tb]? = some (.cells #[v'] 46 (0, 0)) := heap_setCell_same _ _ _ _ _ _ hb
  have f2 : Fr [tb] w' (w'.setCell ⟨tb, 0, none⟩ v') := (Fr.refl _ _).setCell (.inl (by simp)) _
  have hn : NoW w' [tb] := by
    intro b hb' cur e
    rw [List.mem_singleton] at hb'
    subst hb'
    rw [hb] at e
    simp only [Option.some.injEq, Obj.cells.injEq] at e
    exact absurd e.2.1 (by decide)
  refine ⟨hb2, hr.keep f2 (fun b hbm => ?_), fun g hg => ⟨(hq g hg).1.keep f2 hn, (hq g hg).2.keep f2 hn⟩⟩
  rw [List.mem_singleton]
  intro e
  subst e
  rw [mem_fpv] at hbm
  rcases hr.parts with ⟨e1, _⟩ | ⟨b', cap', cur, e1, hh, _⟩
  · rw [e1] at hbm; cases hbm
  · rw [e1] at hbm
    cases hbm
    rw [hb] at hh
    simp only [Option.some.injEq, Obj.cells.injEq] at hh
    exact absurd hh.2.1 (by decide)
theorem RG.one {w : World} {g : RG} (h : WQ w g.ve g.x.entry ∧ WQ w g.vw g.x.wait) : ∀ u ∈ g.cells, u.oneCell' = true := by
  obtain ⟨a1, c1, e1, _, _⟩ := h.1.form
  obtain ⟨a2, c2, e2, _, _⟩ := h.2.form
  intro u hu
  simp only [RG.cells, List.mem_cons, List.not_mem_nil, or_false] at hu
  rcases hu with rfl | rfl | rfl | rfl | rfl | rfl
  · rfl
  · rfl
  · rfl
  · rfl
  · rw [e1]; rfl
  · rw [e2]; rfl
theorem cellsG_app (G G' : List RG) : cellsG (G ++ G') = cellsG G ++ cellsG G' := by simp [cellsG]
theorem cellsG_one (g : RG) : cellsG [g] = g.cells := by simp [cellsG]
theorem alloc_cells {w : World} {t : TypeId} {l : List Value} {k : Nat} {u : Value} (hu : l[k]? = some u) : (w.alloc (.cells l.toArray t)).cell? ((⟨w.heap.size, 0, none⟩ : Addr).add k) = some u := by
  rw [Addr.add_lit, cell_of_row (g := w.heap.size) _ _ _ _ _ (show (w.alloc (.cells l.toArray t)).heap[w.heap.size]? = some (.cells l.toArray t (0, 0)) by show (w.heap.push _)[w.heap.size]? = _; simp), Nat.zero_add]
  simpa using hu
/-- append(t.l, Lock{at: a}) -/
theorem run_append_doc {w : World} {tb : Nat} {v : Value} {G : List RG} (h : DocT w tb v G) (hG : G.length ≤ 1000) (ad : Addr) (a : Int) (hc : ∀ j u, (rgZ a).cells[j]? = some u → w.cell? (ad.add j) = some u) (ty : TypeId) :
    ∃ b' c' w', (Builtin.append_ #[44, 44] ty #[v, .slice (some ad) 1 1]).run Try.prog w = .ok (.slice (some ⟨b', 0, none⟩) (G.length + 1) c') w' ∧
      DocT (w'.setCell ⟨tb, 0, none⟩ (.slice (some ⟨b', 0, none⟩) (G.length + 1) c')) tb (.slice (some ⟨b', 0, none⟩) (G.length + 1) c') (G ++ [rgZ a]) ∧ Fr (fpv v) w w' ∧ (b' ∈ fpv v ∨ w.heap.size ≤ b') ∧ w'.cell? ⟨tb, 0, none⟩ = some v ∧ w'.frozen? ⟨tb, 0, none⟩ = false ∧ (∀ q u, (rgZ a).cells[q]? = some u → w'.cell? ⟨b', G.length * 6 + q, none⟩ = some u) ∧ (∀ k, w'.frozen? ⟨b', k, none⟩ = false) ∧ tb ≠ b' := by
  obtain ⟨i0, hi, hz0, hz1, hz2⟩ := info_parts info_lck
  obtain ⟨v', w', hr, k1, k2, k3⟩ := run_append_rv (P := Try.prog) 44 77 i0 _ 6 80 Try.underlying44 hi hz0 hz1 hz2 rfl (by decide) v G.length (cellsG G) h.row ad 1 (rgZ a).cells rfl hc (RG.one ⟨WQ.nil w, WQ.nil w⟩) (by unfold maxLen; omega) (by omega) ty 1
  have hln : (G ++ [rgZ a]).length = G.length + 1 := by simp
  have k1' : RV w' 77 6 v' (G ++ [rgZ a]).length (cellsG (G ++ [rgZ a])) := by rw [hln, cellsG_app, cellsG_one]; exact k1
  have hD := h.row' k2 (fun b hb => hb) k1' (fun g hg => by
    rcases List.mem_append.1 hg with hg | hg
    · exact ⟨(h.wq g hg).1.keep k2 (fun b hb => h.noW b (by simp [hb])), (h.wq g hg).2.keep k2 (fun b hb => h.noW b (by simp [hb]))⟩
    · rw [List.mem_singleton.1 hg]; exact ⟨WQ.nil _, WQ.nil _⟩)
  have hcell : w'.cell? ⟨tb, 0, none⟩ = some v := k2.cell h.tbl h.tb_not
  have hfz : w'.frozen? ⟨tb, 0, none⟩ = false := k2.frozen h.tbl h.tblz h.tb_not
  rcases k1'.parts with ⟨e1, e2, _⟩ | ⟨b', cap', cur, e1, hh, hl, hc', hs, ht⟩
  · omega
  · rw [hln] at e1
    subst e1
    refine ⟨b', cap', w', hr, hD, k2, k3 b' (by simp [fpv, Value.ownBlock]), hcell, hfz, fun q u hu => ?_, fun k => frozen_of_row _ _ _ _ _ hh, fun e => hD.tb_not (by rw [e]; simp [fpv, Value.ownBlock])⟩
    have hq : q < 6 := (List.getElem?_eq_some_iff.1 hu).1
    rw [cell_of_row _ _ _ _ _ _ hh]
    have e3 := congrArg (fun l => l[G.length * 6 + q]?) ht
    simp only [List.getElem?_take, Array.getElem?_toList] at e3
    rw [if_pos (by rw [hln]; omega)] at e3
    rw [e3]
    unfold cellsG
    rw [flat6 RG.cells 6 _ (fun _ _ => rfl) G.length q hq]
    simpa using hu

/-! ### Enter, plain -/
theorem rEnter_no {R : List RL} {a t : Int} (h : R.any (·.has t) = true ∨ a < 1 ∨ t < 1) : rEnter R a t = ((false, 130), R) := by unfold rEnter; rw [if_pos h]
theorem rEnter_at {G : List RG} {a t : Int} (hn : (G.map RG.x).any (·.has t) = false) (ha : 1 ≤ a) (ht : 1 ≤ t) {i : Nat} (hi : i < G.length) (he : i = rix (G.map RG.x) a) :
    rEnter (G.map RG.x) a t = (((G[i].x.enter t).1, 0), (G.map RG.x).set i (G[i].x.enter t).2) := by
  subst he
  unfold rEnter
  rw [if_neg (by rw [hn]; simp; omega)]
  have e : rput (G.map RG.x) a = G.map RG.x := by unfold rput; rw [if_pos (by rw [List.length_map]; exact hi)]
  rw [e, gx hi]
theorem rEnter_new {R : List RL} {a t : Int} (hn : R.any (·.has t) = false) (ha : 1 ≤ a) (ht : 1 ≤ t) (hi : ¬ rix R a < R.length) :
    rEnter R a t = ((true, 0), R ++ [{ RL.zero a with owner := t, count := 1 }]) := by
  unfold rEnter
  rw [if_neg (by rw [hn]; simp; omega)]
  have e : rput R a = R ++ [RL.zero a] := by unfold rput; rw [if_neg hi]
  have e2 : rix R a = R.length := by
    rcases rix_spec R a with ⟨e, _⟩ | ⟨R1, x, R2, rfl, _, _, e⟩
    · exact e
    · exact absurd (by rw [e]; simp) hi
  rw [e, e2]
  have e3 : (R ++ [RL.zero a]).getD R.length (RL.zero a) = RL.zero a := by simp
  rw [e3]
  have e4 : (RL.zero a).enter t = (true, { RL.zero a with owner := t, count := 1 }) := rfl
  rw [e4]
  simp
theorem enter_free {x : RL} {t : Int} (h : x.owner = 0) : x.enter t = (true, { x with owner := t, count := 1 }) := by unfold RL.enter; rw [if_pos h]
theorem enter_own {x : RL} {t : Int} (h0 : t ≠ 0) (h : x.owner = t) : x.enter t = (true, { x with count := x.count + 1, fat := x.fat || decide (3 < x.count + 1) }) := by unfold RL.enter; rw [if_neg (by rw [h]; exact h0), if_pos h]
theorem enter_wait {x : RL} {t : Int} (h0 : x.owner ≠ 0) (h : x.owner ≠ t) : x.enter t = (false, { x with fat := true, entry := x.entry ++ [(t, 1)] }) := by unfold RL.enter; rw [if_neg h0, if_neg h]
theorem any_has {G : List RG} {t : Int} {i : Nat} (hi : i < G.length) (h : G[i].x.has t = true) : (G.map RG.x).any (·.has t) = true := by
  rw [List.any_eq_true]
  exact ⟨_, List.mem_map.2 ⟨_, List.getElem_mem hi, rfl⟩, h⟩
theorem none_has {G : List RG} {t : Int} (h : ∀ i, (hi : i < G.length) → G[i].x.has t = false) : (G.map RG.x).any (·.has t) = false := by
  rw [List.any_eq_false]
  intro x hx
  obtain ⟨g, hg, rfl⟩ := List.mem_map.1 hx
  obtain ⟨i, hi, rfl⟩ := List.mem_iff_getElem.1 hg
  rw [h i hi]
  simp

end Go.Proofs.Ythdmgjkipiaccaa
