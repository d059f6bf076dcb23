/-
  MonitorPlays: where the document's table lies: rows of who waits, that are never written behind their making.
  MonitorPlays: one more waits; the table of the document as it lies.
  MonitorPlays: the table of the document, where it lies.
-/
import Derived.Test.YthdmgjkipiaccaaRefP
import Derived.Test.YthdmgjkipiaccaaSlR
import Derived.Test.YthdmgjkipiaccaaQu
import Derived.ArgAppend
namespace Go.Proofs.Ythdmgjkipiaccaa
open Go.RowKit

/-- a slice of who waits, which may begin anywhere in its row -/
def WQ (w : World) (v : Value) (l : List (Int × Int)) : Prop :=
  ∃ (a : Option Addr) (cap : Nat), v = .slice a l.length cap ∧ l.length ≤ cap ∧ cap ≤ maxLen ∧
    ((a = none ∧ cap = 0) ∨ ∃ b off cur, a = some ⟨b, off, none⟩ ∧ w.heap[b]? = some (.cells cur 80 (0, 0)) ∧ off + cap * 2 ≤ cur.size ∧ ∀ j, j < l.length → cur[off + j * 2]? = some (vi (l.getD j (0, 0)).1) ∧ cur[off + j * 2 + 1]? = some (vi (l.getD j (0, 0)).2))
theorem WQ.nil (w : World) : WQ w (.slice none 0 0) [] := ⟨none, 0, rfl, by simp, by unfold maxLen; omega, .inl ⟨rfl, rfl⟩⟩
theorem WQ.keep {S : List Nat} {w w' : World} {v : Value} {l : List (Int × Int)} (h : WQ w v l) (f : Fr S w w') (hn : ∀ b ∈ S, ∀ cur, w.heap[b]? ≠ some (.cells cur 80 (0, 0))) : WQ w' v l := by
  obtain ⟨a, cap, rfl, h1, h2, h3⟩ := h
  refine ⟨a, cap, rfl, h1, h2, ?_⟩
  rcases h3 with h3 | ⟨b, off, cur, rfl, h4, h5, h6⟩
  · exact .inl h3
  · exact .inr ⟨b, off, cur, rfl, f.obj h4 (fun hb => hn b hb cur h4), h5, h6⟩
theorem WQ.keep0 {w w' : World} {v : Value} {l : List (Int × Int)} (h : WQ w v l) (f : Fr [] w w') : WQ w' v l := h.keep f (by simp)
theorem WQ.form {w : World} {v : Value} {l : List (Int × Int)} (h : WQ w v l) : ∃ a cap, v = .slice a l.length cap ∧ l.length ≤ cap ∧ cap ≤ maxLen := by
  obtain ⟨a, cap, rfl, h1, h2, h3⟩ := h
  exact ⟨a, cap, rfl, h1, h2⟩
theorem WQ.cell {w : World} {v : Value} {l : List (Int × Int)} (h : WQ w v l) (k : Nat) (hk : k < l.length) :
    ∃ b off cap, v = .slice (some ⟨b, off, none⟩) l.length cap ∧ w.cell? ⟨b, off + k * 2, none⟩ = some (.int .i64 (l.getD k (0, 0)).1) ∧ w.cell? ⟨b, off + k * 2 + 1, none⟩ = some (.int .i64 (l.getD k (0, 0)).2) := by
  obtain ⟨a, cap, rfl, h1, h2, h3⟩ := h
  rcases h3 with ⟨rfl, h3⟩ | ⟨b, off, cur, rfl, h4, h5, h6⟩
  · omega
  · exact ⟨b, off, cap, rfl, by rw [cell_of_row _ _ _ _ _ _ h4]; exact (h6 k hk).1, by rw [cell_of_row _ _ _ _ _ _ h4]; exact (h6 k hk).2⟩
/-- q[1:] -/
theorem WQ.tail {w : World} {b off cap n : Nat} {p : Int × Int} {r : List (Int × Int)} (h : WQ w (.slice (some ⟨b, off, none⟩) n cap) (p :: r)) (a : Addr) (ha : a = if cap = 1 then ⟨b, off, none⟩ else ⟨b, off + 2, none⟩) : WQ w (.slice (some a) r.length (cap - 1)) r := by
  obtain ⟨a', cap', e, h1, h2, h3⟩ := h
  simp only [List.length_cons, Value.slice.injEq] at e
  obtain ⟨rfl, _, rfl⟩ := e
  rcases h3 with ⟨e, _⟩ | ⟨b', off', cur, e, h4, h5, h6⟩
  · cases e
  · cases e
    simp only [List.length_cons] at h1 h6
    by_cases hc : cap = 1
    · rw [if_pos hc] at ha
      subst ha
      obtain rfl : r = [] := by cases r with | nil => rfl | cons y r => simp at h1; omega
      exact ⟨_, cap - 1, rfl, by simp, by omega, .inr ⟨b, off, cur, rfl, h4, by omega, fun j hj => by simp at hj⟩⟩
    · rw [if_neg hc] at ha
      subst ha
      refine ⟨_, cap - 1, rfl, by omega, by omega, .inr ⟨b, off + 2, cur, rfl, h4, by omega, fun j hj => ?_⟩⟩
      have := h6 (j + 1) (by omega)
      rw [show off + 2 + j * 2 = off + (j + 1) * 2 by omega]
      exact this

end Go.Proofs.Ythdmgjkipiaccaa

namespace Go.Proofs.Ythdmgjkipiaccaa
open Go.RowKit

theorem info_wts : (Try.prog.info? 80).map (fun i => (i.zero, i.size, i.bytes)) = some (some (.agg #[.int .i64 0, .int .i64 0]), 2, 16) := by kernel_rfl
theorem info_lck : (Try.prog.info? 77).map (fun i => (i.zero, i.size, i.bytes)) = some (some (.agg #[.int .i64 0, .int .i64 0, .int .i64 0, .bool false, .slice none 0 0, .slice none 0 0]), 6, 80) := by kernel_rfl
def wcell (p : Int × Int) : List Value := [vi p.1, vi p.2]
theorem wcells_at {l : List (Int × Int)} {j : Nat} (hj : j < l.length) : (l.flatMap wcell)[j * 2]? = some (vi (l.getD j (0, 0)).1) ∧ (l.flatMap wcell)[j * 2 + 1]? = some (vi (l.getD j (0, 0)).2) := by
  induction l generalizing j with
  | nil => simp at hj
  | cons p r ih =>
    cases j with
    | zero => simp [wcell]
    | succ j =>
      have := ih (j := j) (by simpa using hj)
      rw [show (j + 1) * 2 = j * 2 + 2 by omega, show j * 2 + 2 + 1 = j * 2 + 1 + 2 by omega]
      simpa [wcell] using this
theorem wcells_len (l : List (Int × Int)) : (l.flatMap wcell).length = l.length * 2 := by
  induction l with
  | nil => rfl
  | cons p r ih => rw [List.flatMap_cons, List.length_append, ih]; simp [wcell]; omega
theorem wcells_one (l : List (Int × Int)) : ∀ u ∈ l.flatMap wcell, u.oneCell' = true := by
  intro u hu
  obtain ⟨p, _, hp⟩ := List.mem_flatMap.1 hu
  simp only [wcell, List.mem_cons, List.not_mem_nil, or_false] at hp
  rcases hp with rfl | rfl <;> rfl
theorem WQ.ofOwns {w : World} {B : Nat} {v : Value} {l : List (Int × Int)} (h : w.ownsRow B 80 2 v l.length (l.flatMap wcell)) : WQ w v l := by
  obtain ⟨_, h2⟩ := h
  rcases h2 with ⟨rfl, h0⟩ | ⟨b, cap, cur, rfl, _, hh, hl, hc, hs, ht⟩
  · have : l = [] := List.length_eq_zero_iff.1 (by simpa using h0)
    subst this
    exact WQ.nil w
  · refine ⟨_, cap, rfl, hl, hc, .inr ⟨b, 0, cur, rfl, hh, by omega, fun j hj => ?_⟩⟩
    obtain ⟨k1, k2⟩ := wcells_at hj
    rw [← ht] at k1 k2
    rw [List.getElem?_take, if_pos (by omega), Array.getElem?_toList] at k1 k2
    rw [Nat.zero_add]
    exact ⟨k1, k2⟩
theorem WQ.olds {w : World} {b off n cap : Nat} {l : List (Int × Int)} (h : WQ w (.slice (some ⟨b, off, none⟩) n cap) l) : ∀ j u, (l.flatMap wcell)[j]? = some u → w.cell? ((⟨b, off, none⟩ : Addr).add j) = some u := by
  obtain ⟨a', cap', e, h1, h2, h3⟩ := h
  simp only [Value.slice.injEq] at e
  obtain ⟨rfl, rfl, rfl⟩ := e
  rcases h3 with ⟨e, _⟩ | ⟨b', off', cur, e, h4, h5, h6⟩
  · cases e
  · cases e
    intro j u hu
    have hj : j < l.length * 2 := by rw [← wcells_len]; exact (List.getElem?_eq_some_iff.1 hu).1
    obtain ⟨k1, k2⟩ := h6 (j / 2) (by omega)
    obtain ⟨m1, m2⟩ := wcells_at (l := l) (j := j / 2) (by omega)
    rw [Addr.add_lit, cell_of_row _ _ _ _ _ _ h4]
    by_cases hp : j % 2 = 0
    · have e : j / 2 * 2 = j := by omega
      rw [e] at k1 m1
      rw [k1, ← m1, hu]
    · have e : j / 2 * 2 + 1 = j := by omega
      rw [show off + j / 2 * 2 + 1 = off + j by omega] at k2
      rw [e] at m2
      rw [k2, ← m2, hu]
/-- append(x[:len(x):len(x)], y) -/
theorem run_append_wq {w : World} {a : Option Addr} {l : List (Int × Int)} (h : ∃ cap, WQ w (.slice a l.length cap) l) (hl : l.length ≤ 100000) (ad : Addr) (y : Int × Int) (h1 : w.cell? ad = some (vi y.1)) (h2 : w.cell? (ad.add 1) = some (vi y.2)) (ty : TypeId) :
    ∃ a' c' w', (Builtin.append_ #[75, 75] ty #[.slice a l.length l.length, .slice (some ad) 1 1]).run Try.prog w = .ok (.slice a' (l.length + 1) c') w' ∧ WQ w' (.slice a' (l.length + 1) c') (l ++ [y]) ∧ Fr [] w w' := by
  obtain ⟨cap, h⟩ := h
  obtain ⟨i0, hi, hz0, hz1, hz2⟩ := info_parts info_wts
  have hcs : ∀ j u, (wcell y)[j]? = some u → w.cell? (ad.add j) = some u := by
    intro j u hu
    match j with
    | 0 => simp only [wcell, List.getElem?_cons_zero, Option.some.injEq] at hu; subst hu; simpa [Addr.add] using h1
    | 1 => simp only [wcell, List.getElem?_cons_succ, List.getElem?_cons_zero, Option.some.injEq] at hu; subst hu; exact h2
    | j + 2 => simp [wcell] at hu
  have hone : ∀ u ∈ wcell y, u.oneCell' = true := by intro u hu; exact wcells_one [y] u (by simpa using hu)
  have hfl : (l ++ [y]).flatMap wcell = l.flatMap wcell ++ wcell y := by simp
  have hln : (l ++ [y]).length = l.length + 1 := by simp
  have fin : ∀ B v' w', w'.ownsRow B 80 2 v' (l.length + 1) (l.flatMap wcell ++ wcell y) → WQ w' v' (l ++ [y]) := by
    intro B v' w' hh
    rw [← hfl, ← hln] at hh
    exact WQ.ofOwns hh
  have h0 := h
  obtain ⟨a', cap', e, g1, g2, g3⟩ := h
  simp only [Value.slice.injEq] at e
  obtain ⟨rfl, _, rfl⟩ := e
  rcases g3 with ⟨rfl, hc0⟩ | ⟨b, off, cur, rfl, h4, h5, h6⟩
  · have hl0 : l = [] := List.length_eq_zero_iff.1 (by omega)
    subst hl0
    obtain ⟨v', w', hr, k1, k2, k3⟩ := run_append_rv (P := Try.prog) 75 80 i0 (.agg #[.int .i64 0, .int .i64 0]) 2 16 Try.underlying75 hi hz0 hz1 hz2 rfl (by decide) (.slice none 0 0) 0 [] (RV.nil _ _ _) ad 1 (wcell y) rfl hcs hone (by decide) (by decide) ty 1
    have hw := fin 0 v' w' k1
    obtain ⟨a'', c'', e'', _, _⟩ := hw.form
    rw [hln] at e''
    subst e''
    exact ⟨_, _, w', hr, hw, by simpa [fpv, Value.ownBlock] using k2⟩
  · obtain ⟨v', w', hr, k1, k2⟩ := run_append_arg_grows (P := Try.prog) (w := w) 75 ty 80 i0 (.agg #[.int .i64 0, .int .i64 0]) 2 16 Try.underlying75 hi hz0 hz1 hz2 rfl (by decide) ⟨b, off, none⟩ l.length l.length (l.flatMap wcell) (wcells_len l) h0.olds ad 1 1 (wcell y) rfl hcs (by omega) (by unfold maxLen; omega) (by omega)
    have hw := fin _ v' w' k1
    obtain ⟨a'', c'', e'', _, _⟩ := hw.form
    rw [hln] at e''
    subst e''
    exact ⟨_, _, w', hr, hw, (grownFr k2).sub (by simp)⟩

end Go.Proofs.Ythdmgjkipiaccaa

namespace Go.Proofs.Ythdmgjkipiaccaa
open Go.RowKit

theorem flat6 {α : Type} (f : α → List Value) (k : Nat) (l : List α) (hl : ∀ p ∈ l, (f p).length = k) (j q : Nat) (hq : q < k) : (l.flatMap f)[j * k + q]? = (l[j]?).bind (fun p => (f p)[q]?) := by
  induction l generalizing j with
  | nil => simp
  | cons p r ih =>
    rw [List.flatMap_cons]
    have hp := hl p (by simp)
    cases j with
    | zero => rw [Nat.zero_mul, Nat.zero_add, List.getElem?_append_left (by omega)]; simp
    | succ j =>
      rw [List.getElem?_append_right (by rw [hp, Nat.succ_mul]; omega), hp, show (j + 1) * k + q - k = j * k + q by rw [Nat.succ_mul]; omega, ih (fun p' hp' => hl p' (by simp [hp']))]
      simp
theorem flat6_set {α : Type} (f : α → List Value) (k : Nat) (l : List α) (hl : ∀ p ∈ l, (f p).length = k) (j q : Nat) (hq : q < k) (p p' : α) (hp : l[j]? = some p) (u : Value) (hu : f p' = (f p).set q u) :
    (l.flatMap f).set (j * k + q) u = (l.set j p').flatMap f := by
  induction l generalizing j with
  | nil => simp at hp
  | cons x r ih =>
    rw [List.flatMap_cons]
    have hx := hl x (by simp)
    cases j with
    | zero =>
      simp only [List.getElem?_cons_zero, Option.some.injEq] at hp
      subst hp
      rw [Nat.zero_mul, Nat.zero_add, List.set_cons_zero, List.flatMap_cons, hu, List.set_append_left _ _ (by omega)]
    | succ j =>
      rw [List.set_append_right _ _ (by rw [hx, Nat.succ_mul]; omega), hx, show (j + 1) * k + q - k = j * k + q by rw [Nat.succ_mul]; omega, ih (fun p' hp' => hl p' (by simp [hp'])) j (by simpa using hp)]
      simp
/-- a lock, and the values of its two lists -/
structure RG where
  x : RL
  ve : Value
  vw : Value
def RG.cells (g : RG) : List Value := [vi g.x.at', vi g.x.owner, vi g.x.count, .bool g.x.fat, g.ve, g.vw]
def cellsG (G : List RG) : List Value := G.flatMap RG.cells
structure DocT (w : World) (tb : Nat) (v : Value) (G : List RG) : Prop where
  blk : w.heap[tb]? = some (.cells #[v] 46 (0, 0))
  row : RV w 77 6 v G.length (cellsG G)
  wq : ∀ g ∈ G, WQ w g.ve g.x.entry ∧ WQ w g.vw g.x.wait
def Doc (w : World) (tb : Nat) (F : List Nat) (R : List RL) : Prop := ∃ v G, F = tb :: fpv v ∧ R = G.map RG.x ∧ DocT w tb v G
/-- no row of who waits is among them -/
def NoW (w : World) (S : List Nat) : Prop := ∀ b ∈ S, ∀ cur, w.heap[b]? ≠ some (.cells cur 80 (0, 0))
section
variable {w w' : World} {tb : Nat} {v : Value} {G : List RG} {F : List Nat} {R : List RL}
theorem DocT.keep {S : List Nat} (h : DocT w tb v G) (f : Fr S w w') (h1 : tb ∉ S) (h2 : ∀ b ∈ fpv v, b ∉ S) (h3 : NoW w S) : DocT w' tb v G :=
  ⟨f.obj h.blk h1, h.row.keep f h2, fun g hg => ⟨(h.wq g hg).1.keep f h3, (h.wq g hg).2.keep f h3⟩⟩
theorem DocT.keep0 (h : DocT w tb v G) (f : Fr [] w w') : DocT w' tb v G := h.keep f (by simp) (by simp) (fun b hb => by simp at hb)
theorem Doc.keep {S : List Nat} (h : Doc w tb F R) (f : Fr S w w') (h1 : ∀ b ∈ F, b ∉ S) (h3 : NoW w S) : Doc w' tb F R := by
  obtain ⟨v, G, rfl, rfl, h⟩ := h
  exact ⟨v, G, rfl, rfl, h.keep f (h1 tb (by simp)) (fun b hb => h1 b (by simp [hb])) h3⟩
theorem Doc.keep0 (h : Doc w tb F R) (f : Fr [] w w') : Doc w' tb F R := h.keep f (by simp) (fun b hb => by simp at hb)
theorem DocT.lt (h : DocT w tb v G) : ∀ b ∈ tb :: fpv v, b < w.heap.size := by
  intro b hb
  rcases List.mem_cons.1 hb with rfl | hb
  · exact lt_of_block h.blk
  · exact h.row.lt b hb
theorem DocT.noW (h : DocT w tb v G) : NoW w (tb :: fpv v) := by
  intro b hb cur e
  rcases List.mem_cons.1 hb with rfl | hb
  · rw [h.blk] at e
    simp only [Option.some.injEq, Obj.cells.injEq] at e
    exact absurd e.2.1 (by decide)
  · rw [mem_fpv] at hb
    rcases h.row.parts with ⟨e1, _⟩ | ⟨b', cap, cur', e1, hh, _⟩
    · rw [e1] at hb; cases hb
    · rw [e1] at hb
      cases hb
      rw [hh] at e
      simp only [Option.some.injEq, Obj.cells.injEq] at e
      exact absurd e.2.1 (by decide)
theorem DocT.tbl (h : DocT w tb v G) : w.cell? ⟨tb, 0, none⟩ = some v := by rw [cell_of_row _ _ _ _ _ _ h.blk]; rfl
theorem DocT.form (h : DocT w tb v G) : ∃ a cap, v = .slice a G.length cap ∧ G.length ≤ cap ∧ cap ≤ maxLen := h.row.form
/-- the cells of one lock -/
theorem DocT.lock (h : DocT w tb v G) {i : Nat} (hi : i < G.length) :
    ∃ b cap, v = .slice (some ⟨b, 0, none⟩) G.length cap ∧ w.cell? ⟨b, i * 6, none⟩ = some (.int .i64 G[i].x.at') ∧ w.cell? ⟨b, i * 6 + 1, none⟩ = some (.int .i64 G[i].x.owner) ∧ w.cell? ⟨b, i * 6 + 2, none⟩ = some (.int .i64 G[i].x.count) ∧
      w.cell? ⟨b, i * 6 + 3, none⟩ = some (.bool G[i].x.fat) ∧ w.cell? ⟨b, i * 6 + 4, none⟩ = some G[i].ve ∧ w.cell? ⟨b, i * 6 + 5, none⟩ = some G[i].vw ∧ ∀ k, w.frozen? ⟨b, k, none⟩ = false := by
  rcases h.row.parts with ⟨e1, e2, _⟩ | ⟨b, cap, cur, e1, hh, hl, hc, hs, ht⟩
  · omega
  · have key : ∀ q, q < 6 → w.cell? ⟨b, i * 6 + q, none⟩ = G[i].cells[q]? := by
      intro q hq
      rw [cell_of_row _ _ _ _ _ _ hh]
      have e3 := congrArg (fun l => l[i * 6 + q]?) ht
      simp only [List.getElem?_take, Array.getElem?_toList] at e3
      rw [if_pos (by omega)] at e3
      rw [e3]
      unfold cellsG
      rw [flat6 RG.cells 6 G (fun _ _ => rfl) i q hq, List.getElem?_eq_getElem hi]
      rfl
    exact ⟨b, cap, e1, key 0 (by omega), key 1 (by omega), key 2 (by omega), key 3 (by omega), key 4 (by omega), key 5 (by omega), fun k => frozen_of_row _ _ _ _ _ hh⟩
/-- one cell of a lock is another -/
theorem DocT.put {b cap : Nat} (h : DocT w tb (.slice (some ⟨b, 0, none⟩) G.length cap) G) {i q : Nat} (hi : i < G.length) (hq : q < 6) (u : Value) (g' : RG) (hg : g'.cells = G[i].cells.set q u) (hw : WQ w g'.ve g'.x.entry ∧ WQ w g'.vw g'.x.wait) :
    DocT (w.setCell ⟨b, i * 6 + q, none⟩ u) tb (.slice (some ⟨b, 0, none⟩) (G.set i g').length cap) (G.set i g') := by
  have hno := h.noW
  have hbt : b ≠ tb := by
    intro e
    rcases h.row.parts with ⟨e1, _⟩ | ⟨b', cap', cur, e1, hh, _⟩
    · cases e1
    · cases e1
      rw [e, h.blk] at hh
      simp only [Option.some.injEq, Obj.cells.injEq] at hh
      exact absurd hh.2.1 (by decide)
  have f : Fr [b] w (w.setCell ⟨b, i * 6 + q, none⟩ u) := (Fr.refl _ _).setCell (.inl (by simp)) _
  have hnb : NoW w [b] := fun x hx => hno x (by rw [List.mem_singleton] at hx; subst hx; simp [fpv, Value.ownBlock])
  refine ⟨by rw [List.length_set]; exact f.obj h.blk (by simp [Ne.symm hbt]), ?_, fun g hg' => ?_⟩
  · rw [List.length_set]
    rcases h.row.parts with ⟨e1, _⟩ | ⟨b', cap', cur, e1, hh, hl, hc, hs, ht⟩
    · cases e1
    · cases e1
      have hh' : (w.setCell ⟨b, i * 6 + q, none⟩ u).heap[b]? = some (.cells (cur.setIfInBounds (i * 6 + q) u) 77 (0, 0)) := heap_setCell_same _ _ _ _ _ _ hh
      refine RV.mk hh' hl hc (by rw [Array.size_setIfInBounds]; exact hs) ?_
      unfold cellsG
      rw [← flat6_set RG.cells 6 G (fun _ _ => rfl) i q hq G[i] g' (List.getElem?_eq_getElem hi) u hg]
      rw [Array.toList_setIfInBounds, List.take_set, ht]
      rfl
  · rcases List.mem_or_eq_of_mem_set hg' with k | rfl
    · exact ⟨(h.wq g k).1.keep f hnb, (h.wq g k).2.keep f hnb⟩
    · exact ⟨hw.1.keep f hnb, hw.2.keep f hnb⟩
end

end Go.Proofs.Ythdmgjkipiaccaa
