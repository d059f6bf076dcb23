/-
  Package heap: Alloc.
-/
import Derived.Test.YtgakkkifohkikaaHeapC
import Derived.BigRegion
import Derived.Deep.RegionHeld3
namespace Go.Proofs.Ytgakkkifohkikaa
open Go.RowKit

theorem place_at {k : Nat} {G : List (Nat × Nat)} {i : Nat} (hi : i < G.length) (_hno : ∀ g ∈ G.take i, g.2 < k + 2) : ∃ g, G[i]? = some g ∧ G = G.take i ++ g :: G.drop (i + 1) :=
  ⟨G[i], List.getElem?_eq_getElem hi, by rw [← List.drop_eq_getElem_cons hi, List.take_append_drop]⟩
theorem place_of {k : Nat} {G1 G2 : List (Nat × Nat)} {x m : Nat} (hno : ∀ g ∈ G1, g.2 < k + 2) (hm : k + 2 ≤ m) : place k (G1 ++ (x, m) :: G2) = some x := by
  induction G1 with
  | nil => simp only [List.nil_append, place]; rw [if_pos hm]
  | cons g r ih =>
    simp only [List.cons_append, place]
    rw [if_neg (by have := hno g (by simp); omega)]
    exact ih (fun q hq => hno q (by simp [hq]))

theorem blkL_set (G : List (Nat × Nat)) (i a b : Nat) (hi : i < G.length) : ((blkL G).set (i * 2) (vi a)).set (i * 2 + 1) (vi b) = blkL (G.take i ++ (a, b) :: G.drop (i + 1)) := by
  induction G generalizing i with
  | nil => simp at hi
  | cons g G ih =>
    cases i with
    | zero => rfl
    | succ i =>
      rw [show (i + 1) * 2 = i * 2 + 1 + 1 by omega, blkL_cons]
      simp only [List.set_cons_succ, List.take_succ_cons, List.drop_succ_cons, List.cons_append, blkL_cons]
      rw [← ih i (by simpa using hi)]

/-- the parts of an arena, whatever they say -/
structure Pt (w : World) (hb : Nat) (vw vf vo : Value) (n : Nat) (cs : List Value) (G : List (Nat × Nat)) (O : List Value) : Prop where
  blk : w.heap[hb]? = some (.cells #[vw, vf, vo] 83 (0, 0))
  ws : RV w 45 1 vw (n + 1) cs
  fr : RV w 36 2 vf G.length (blkL G)
  ob : RV w 3 1 vo O.length O
  nd : (hb :: (fpv vw ++ (fpv vf ++ fpv vo))).Nodup
theorem ArT.pt {w : World} {hb : Nat} {vw vf vo : Value} {cs : List Value} {n : Nat} {L : List Ob} (h : ArT w hb vw vf vo cs n L) : Pt w hb vw vf vo n cs (gaps n 1 L) (obsL L) :=
  ⟨h.blk, h.ws, h.fr, by have := h.ob; simp only [obsL, List.length_map] at this ⊢; exact this, h.nd⟩

theorem overw_take {l vs : List Value} {o m : Nat} (h1 : o + vs.length ≤ m) (h2 : m ≤ l.length) : (overw l o vs).take m = overw (l.take m) o vs := by
  unfold overw
  rw [List.take_take, Nat.min_eq_left (by omega), List.append_assoc, List.append_assoc]
  have e : m = (l.take o ++ vs).length + (m - (o + vs.length)) := by rw [List.length_append, List.length_take]; omega
  rw [← List.append_assoc, ← List.append_assoc]
  conv => lhs; rw [e, List.take_length_add_append]
  rw [List.drop_take]
theorem zeros_one (z : Value) (hz : z.cells = #[z]) (n : Nat) : (Builtin.zeroCells z.cells n).toList = List.replicate n z := by
  rw [hz]
  simp [Builtin.zeroCells]
  apply List.ext_getElem
  · simp
  · intro i h1 h2
    simp [Nat.mod_one]

/-- a piece of code whose ways all come to one frame, and to a world of one kind -/
def OnNormal (R : Act → World → Prop) : Exit → Act → World → Prop := fun e a w => match e with | .normal => R a w | _ => False
theorem wp_once {P : Program} {c : Code} {Q : Exit → Act → World → Prop} {a A : Act} {w : World} {Good : World → Prop} (h : c.wp P (OnNormal fun a' w' => a' = A ∧ Good w') a w) (k : ∀ w', Good w' → Q .normal A w') : c.wp P Q a w := by
  refine Code.wp_mono (fun e a w hq => ?_) h
  cases e with
  | normal => obtain ⟨rfl, h2⟩ := hq; exact k _ h2
  | _ => exact hq.elim

theorem stepBi1 {P : Program} (bi : Builtin) (run : Array TypeId → TypeId → Array Value → Sem Value) (hbi : ∀ ts ty bs vs, builtin bi ts ty bs vs = (do pure (.value (← run ts ty vs)))) {ops : Array Oper} {o : Oper} {a : Act} {w : World} {K : Act → World → Prop} {Q : Exit → Act → World → Prop} {E : Prop} (hg : o.guard = none) (d : Operand) (t : TypeId)
    (ho : o.op = .call { callee := .builtin bi, args := #[d], argTypes := #[t] }) (v : Value) (hd : a.eval d = v) {v' : Value} {w' : World}
    (hr : (run #[t] o.type #[v]).run P w = .ok v' w') (hK : K (a.put o.dst v') w') : if Region.wanted o (yielded ops a.tmps) = true then Oper.wp P o a w K Q else E := by
  have hw : Region.wanted o (yielded ops a.tmps) = true := by simp [Region.wanted, hg]
  rw [if_pos hw]
  unfold Oper.wp execOp
  simp only [ho, resolve, invoke, hbi, Sem.run_bind, Sem.run_pure, Result.andThen_ok, List.map_toArray, List.map_cons, List.map_nil, hd, hr]
  exact hK

section
variable {w w1 w' : World} {hb : Nat} {vw vf vo v' : Value} {n : Nat} {cs cs' : List Value} {G G' : List (Nat × Nat)} {O O' : List Value}
theorem Pt.keep {S : List Nat} (h : Pt w hb vw vf vo n cs G O) (f : Fr S w w') (hn : ∀ b ∈ hb :: (fpv vw ++ (fpv vf ++ fpv vo)), b ∉ S) : Pt w' hb vw vf vo n cs G O :=
  ⟨f.obj h.blk (hn _ (by simp)), h.ws.keep f (fun b hb => hn b (by simp [hb])), h.fr.keep f (fun b hb => hn b (by simp [hb])), h.ob.keep f (fun b hb => hn b (by simp [hb])), h.nd⟩
theorem Pt.keep0 (h : Pt w hb vw vf vo n cs G O) (f : Fr [] w w') : Pt w' hb vw vf vo n cs G O := h.keep f (by simp)
theorem Pt.c (h : Pt w hb vw vf vo n cs G O) : w.cell? ⟨hb, 0, none⟩ = some vw ∧ w.cell? ⟨hb, 1, none⟩ = some vf ∧ w.cell? ⟨hb, 2, none⟩ = some vo := by
  refine ⟨?_, ?_, ?_⟩ <;> (rw [cell_of_row _ _ _ _ _ _ h.blk]; rfl)
theorem Pt.fz (h : Pt w hb vw vf vo n cs G O) (k : Nat) : w.frozen? ⟨hb, k, none⟩ = false := frozen_of_row _ _ _ _ _ h.blk
theorem Pt.apart (h : Pt w hb vw vf vo n cs G O) : (hb ∉ fpv vw ∧ hb ∉ fpv vf ∧ hb ∉ fpv vo) ∧ (∀ x ∈ fpv vw, x ∉ fpv vf ∧ x ∉ fpv vo) ∧ (∀ x ∈ fpv vf, x ∉ fpv vo) := by
  have hnd := h.nd
  simp only [List.nodup_cons, List.mem_append, not_or, List.nodup_append] at hnd
  obtain ⟨⟨n1, n2, n3⟩, n4, ⟨n5, n6, n7⟩, n8⟩ := hnd
  exact ⟨⟨n1, n2, n3⟩, fun x hx => ⟨fun h => n8 x hx x (.inl h) rfl, fun h => n8 x hx x (.inr h) rfl⟩, fun x hx h => n7 x hx x h rfl⟩
theorem fpv_nodup (v : Value) : (fpv v).Nodup := by unfold fpv; cases v.ownBlock <;> simp
theorem Pt.lt (h : Pt w hb vw vf vo n cs G O) : ∀ b ∈ hb :: (fpv vw ++ (fpv vf ++ fpv vo)), b < w.heap.size := by
  intro b hb'
  simp only [List.mem_cons, List.mem_append] at hb'
  rcases hb' with rfl | h1 | h1 | h1
  · exact lt_of_block h.blk
  · exact h.ws.lt b h1
  · exact h.fr.lt b h1
  · exact h.ob.lt b h1
theorem Pt.mk_nd (a1 : hb ∉ fpv vw ∧ hb ∉ fpv vf ∧ hb ∉ fpv vo) (a2 : ∀ x ∈ fpv vw, x ∉ fpv vf ∧ x ∉ fpv vo) (a3 : ∀ x ∈ fpv vf, x ∉ fpv vo) : (hb :: (fpv vw ++ (fpv vf ++ fpv vo))).Nodup := by
  simp only [List.nodup_cons, List.mem_append, not_or, List.nodup_append]
  refine ⟨a1, fpv_nodup _, ⟨fpv_nodup _, fpv_nodup _, fun x hx y hy e => a3 x hx (e ▸ hy)⟩, fun x hx y hy e => ?_⟩
  rcases hy with hy | hy
  · exact (a2 x hx).1 (e ▸ hy)
  · exact (a2 x hx).2 (e ▸ hy)
/-- another slice of free blocks -/
theorem Pt.setFree (h : Pt w hb vw vf vo n cs G O) (f : Fr (fpv vf) w w1) (hr : RV w1 36 2 v' G'.length (blkL G')) (hv : ∀ x ∈ fpv v', x ∈ fpv vf ∨ w.heap.size ≤ x) :
    Pt (w1.setCell ⟨hb, 1, none⟩ v') hb vw v' vo n cs G' O ∧ Fr (hb :: fpv vf) w (w1.setCell ⟨hb, 1, none⟩ v') := by
  obtain ⟨⟨a1, a2, a3⟩, b1, d1⟩ := h.apart
  have hlt := h.lt
  have f1 : Fr [hb] w1 (w1.setCell ⟨hb, 1, none⟩ v') := (Fr.refl _ _).setCell (.inl (by simp)) _
  have hb1 := f.obj h.blk a2
  have hbn : ∀ x ∈ fpv v', x ≠ hb ∧ x ∉ fpv vw ∧ x ∉ fpv vo := by
    intro x hx
    rcases hv x hx with h1 | h1
    · exact ⟨fun e => a2 (e ▸ h1), fun h2 => (b1 x h2).1 h1, d1 x h1⟩
    · refine ⟨fun e => ?_, fun h2 => ?_, fun h2 => ?_⟩
      · subst e; have := hlt x (by simp); omega
      · have := hlt x (by simp [h2]); omega
      · have := hlt x (by simp [h2]); omega
  have hb2 := heap_setCell_same w1 hb 1 _ _ v' hb1
  have f2 : Fr (hb :: fpv vf) w (w1.setCell ⟨hb, 1, none⟩ v') := (f.sub (fun x hx => .inl (by simp [hx]))).tr (f1.sub (fun x hx => .inl (by rw [List.mem_singleton.1 hx]; simp)))
  refine ⟨⟨hb2, h.ws.keep f2 (fun x hx hm => ?_), hr.keep f1 (fun x hx hm => (hbn x hx).1 (List.mem_singleton.1 hm)), h.ob.keep f2 (fun x hx hm => ?_), Pt.mk_nd ⟨a1, fun h => (hbn hb h).1 rfl, a3⟩ (fun x hx => ⟨fun h => (hbn x h).2.1 hx, (b1 x hx).2⟩) (fun x hx => (hbn x hx).2.2)⟩, f2⟩
  · rcases List.mem_cons.1 hm with rfl | hm
    · exact a1 hx
    · exact (b1 x hx).1 hm
  · rcases List.mem_cons.1 hm with rfl | hm
    · exact a3 hx
    · exact d1 x hm hx
/-- another slice of objects -/
theorem Pt.setObj (h : Pt w hb vw vf vo n cs G O) (f : Fr (fpv vo) w w1) (hr : RV w1 3 1 v' O'.length O') (hv : ∀ x ∈ fpv v', x ∈ fpv vo ∨ w.heap.size ≤ x) :
    Pt (w1.setCell ⟨hb, 2, none⟩ v') hb vw vf v' n cs G O' ∧ Fr (hb :: fpv vo) w (w1.setCell ⟨hb, 2, none⟩ v') := by
  obtain ⟨⟨a1, a2, a3⟩, b1, d1⟩ := h.apart
  have hlt := h.lt
  have f1 : Fr [hb] w1 (w1.setCell ⟨hb, 2, none⟩ v') := (Fr.refl _ _).setCell (.inl (by simp)) _
  have hb1 := f.obj h.blk a3
  have hbn : ∀ x ∈ fpv v', x ≠ hb ∧ x ∉ fpv vw ∧ x ∉ fpv vf := by
    intro x hx
    rcases hv x hx with h1 | h1
    · exact ⟨fun e => a3 (e ▸ h1), fun h2 => (b1 x h2).2 h1, fun h2 => d1 x h2 h1⟩
    · refine ⟨fun e => ?_, fun h2 => ?_, fun h2 => ?_⟩
      · subst e; have := hlt x (by simp); omega
      · have := hlt x (by simp [h2]); omega
      · have := hlt x (by simp [h2]); omega
  have hb2 := heap_setCell_same w1 hb 2 _ _ v' hb1
  have f2 : Fr (hb :: fpv vo) w (w1.setCell ⟨hb, 2, none⟩ v') := (f.sub (fun x hx => .inl (by simp [hx]))).tr (f1.sub (fun x hx => .inl (by rw [List.mem_singleton.1 hx]; simp)))
  refine ⟨⟨hb2, h.ws.keep f2 (fun x hx hm => ?_), h.fr.keep f2 (fun x hx hm => ?_), hr.keep f1 (fun x hx hm => (hbn x hx).1 (List.mem_singleton.1 hm)), Pt.mk_nd ⟨a1, a2, fun h => (hbn hb h).1 rfl⟩ (fun x hx => ⟨(b1 x hx).1, fun h => (hbn x h).2.1 hx⟩) (fun x hx h => (hbn x h).2.2 hx)⟩, f2⟩
  · rcases List.mem_cons.1 hm with rfl | hm
    · exact a1 hx
    · exact (b1 x hx).2 hm
  · rcases List.mem_cons.1 hm with rfl | hm
    · exact a2 hx
    · exact d1 x hx hm
/-- other words -/
theorem Pt.setWs (h : Pt w hb vw vf vo n cs G O) (f : Fr (fpv vw) w w') (hr : RV w' 45 1 vw (n + 1) cs') : Pt w' hb vw vf vo n cs' G O := by
  obtain ⟨⟨a1, a2, a3⟩, b1, d1⟩ := h.apart
  exact ⟨f.obj h.blk a1, hr, h.fr.keep f (fun x hx hm => (b1 x hm).1 hx), h.ob.keep f (fun x hx hm => (b1 x hm).2 hx), h.nd⟩
/-- the free blocks' own row was written -/
theorem Pt.setRow (h : Pt w hb vw vf vo n cs G O) (f : Fr (fpv vf) w w') (hr : RV w' 36 2 vf G'.length (blkL G')) : Pt w' hb vw vf vo n cs G' O := by
  obtain ⟨⟨a1, a2, a3⟩, b1, d1⟩ := h.apart
  exact ⟨f.obj h.blk a2, h.ws.keep f (fun x hx hm => (b1 x hx).1 hm), hr, h.ob.keep f (fun x hx hm => d1 x hm hx), h.nd⟩
end

set_option maxHeartbeats 2000000 in
set_option maxRecDepth 20000 in
theorem alloc_bad {w : World} {p : Value} {F : List Nat} {n : Nat} {L : List Ob} (h : Ar w p F n L) (c k : Int) (hck : c < 0 ∨ k < 0) :
    Calls Try.prog 14 #[p, .int .i64 c, .int .i64 k] w (OpPost w p F n (.tuple #[.int .i64 0, .int .i64 111]) L) := by
  have HM : Hid (OpPost w p F n (.tuple #[.int .i64 0, .int .i64 111]) L (.returned (.tuple #[.int .i64 0, .int .i64 111])) w) := hid ⟨rfl, F, h, Fr.refl _ _, fun x hx => .inl hx⟩
  obtain ⟨hb, rfl⟩ := h.form
  clear h
  by_cases hc : c < 0
  · clear hck
    unfold ptrV at *
    go_enter Try.func14, Try.ntmps14
    go_wp2_with fail
    refine wp_scope_L 0 (fun _ _ _ => False) rfl (fun _ _ _ h => h.elim) ?_
    intro hp
    clear hp
    go_wp2_with fail
    simp only [Exit.jump]
    go_ret2
    exact HM.out
  · have hc2 : decide (c < 0) = false := by simpa using hc
    have hk : k < 0 := by omega
    have HC := hid hc
    clear hck hc
    unfold ptrV at *
    go_enter Try.func14, Try.ntmps14
    go_wp2_with fail
    refine wp_scope_L 0 (fun _ _ _ => False) rfl (fun _ _ _ h => h.elim) ?_
    intro hp
    clear hp
    go_wp2_with fail
    simp only [Exit.jump]
    go_ret2
    exact HM.out

/-- a frame of n slots, slot by slot -/
theorem act_fn (a : Act) (n : Nat) (h : a.tmps.size = n) (hd : a.defers = []) : a = { tmps := ((List.range n).map (fun j => a.tmps.getD j undef)).toArray, defers := [] } := by
  obtain ⟨t, d⟩ := a
  simp only at h hd
  subst hd
  congr 1
  apply Array.ext'
  rw [List.toList_toArray]
  apply List.ext_getElem?
  intro i
  by_cases hi : i < n
  · simp [hi, h]
  · rw [List.getElem?_eq_none (by simp [h]; omega), List.getElem?_eq_none (by simp; omega)]

/-- where the search stands -/
def AtI (w w' : World) (k : Nat) (G : List (Nat × Nat)) (i m : Nat) : Prop := i ≤ G.length ∧ (∀ g ∈ G.take i, g.2 < k + 2) ∧ m = G.length - i ∧ Fr [] w w'

/-- the frame at the search's head -/
structure AtA (hb c k i : Nat) (a : Act) : Prop where
  d : a.defers = []
  n : a.tmps.size = 126
  s0 : a.tmps.getD 0 undef = .pointer (some ⟨hb, 0, none⟩)
  s1 : a.tmps.getD 1 undef = .int .i64 c
  s2 : a.tmps.getD 2 undef = .int .i64 k
  s6 : a.tmps.getD 6 undef = .int .i64 0
  s7 : a.tmps.getD 7 undef = .int .i64 0
  s8 : a.tmps.getD 8 undef = .int .i64 i
theorem AtA.lit {hb c k i : Nat} {a : Act} (h : AtA hb c k i a) : ∃ f : Nat → Value, a = { tmps := #[.pointer (some ⟨hb, 0, none⟩), .int .i64 c, .int .i64 k, f 3, f 4, f 5, .int .i64 0, .int .i64 0, .int .i64 i, f 9, f 10, f 11, f 12, f 13, f 14, f 15, f 16, f 17, f 18, f 19, f 20, f 21, f 22, f 23, f 24, f 25, f 26, f 27, f 28, f 29, f 30, f 31, f 32, f 33, f 34, f 35, f 36, f 37, f 38, f 39, f 40, f 41, f 42, f 43, f 44, f 45, f 46, f 47, f 48, f 49, f 50, f 51, f 52, f 53, f 54, f 55, f 56, f 57, f 58, f 59, f 60, f 61, f 62, f 63, f 64, f 65, f 66, f 67, f 68, f 69, f 70, f 71, f 72, f 73, f 74, f 75, f 76, f 77, f 78, f 79, f 80, f 81, f 82, f 83, f 84, f 85, f 86, f 87, f 88, f 89, f 90, f 91, f 92, f 93, f 94, f 95, f 96, f 97, f 98, f 99, f 100, f 101, f 102, f 103, f 104, f 105, f 106, f 107, f 108, f 109, f 110, f 111, f 112, f 113, f 114, f 115, f 116, f 117, f 118, f 119, f 120, f 121, f 122, f 123, f 124, f 125], defers := [] } := by
  obtain ⟨h1, h2, h3, h4, h5, h6, h7, h8⟩ := h
  have e := act_fn a 126 h2 h1
  obtain ⟨g, hg⟩ : ∃ g : Nat → Value, g = fun j => a.tmps.getD j undef := ⟨_, rfl⟩
  rw [← hg] at e
  refine ⟨g, e.trans ?_⟩
  have k0 : g 0 = .pointer (some ⟨hb, 0, none⟩) := by rw [hg]; exact h3
  have k1 : g 1 = .int .i64 c := by rw [hg]; exact h4
  have k2 : g 2 = .int .i64 k := by rw [hg]; exact h5
  have k6 : g 6 = .int .i64 0 := by rw [hg]; exact h6
  have k7 : g 7 = .int .i64 0 := by rw [hg]; exact h7
  have k8 : g 8 = .int .i64 i := by rw [hg]; exact h8
  clear hg e
  show ({ tmps := #[g 0, g 1, g 2, g 3, g 4, g 5, g 6, g 7, g 8, g 9, g 10, g 11, g 12, g 13, g 14, g 15, g 16, g 17, g 18, g 19, g 20, g 21, g 22, g 23, g 24, g 25, g 26, g 27, g 28, g 29, g 30, g 31, g 32, g 33, g 34, g 35, g 36, g 37, g 38, g 39, g 40, g 41, g 42, g 43, g 44, g 45, g 46, g 47, g 48, g 49, g 50, g 51, g 52, g 53, g 54, g 55, g 56, g 57, g 58, g 59, g 60, g 61, g 62, g 63, g 64, g 65, g 66, g 67, g 68, g 69, g 70, g 71, g 72, g 73, g 74, g 75, g 76, g 77, g 78, g 79, g 80, g 81, g 82, g 83, g 84, g 85, g 86, g 87, g 88, g 89, g 90, g 91, g 92, g 93, g 94, g 95, g 96, g 97, g 98, g 99, g 100, g 101, g 102, g 103, g 104, g 105, g 106, g 107, g 108, g 109, g 110, g 111, g 112, g 113, g 114, g 115, g 116, g 117, g 118, g 119, g 120, g 121, g 122, g 123, g 124, g 125], defers := [] } : Act) = _
  rw [k0, k1, k2, k6, k7, k8]

/-- the frame at its end -/
structure AtB (B : Nat) (a : Act) : Prop where
  d : a.defers = []
  n : a.tmps.size = 126
  s9 : a.tmps.getD 9 undef = .pointer (some ⟨B, 0, none⟩)
theorem AtB.lit {B : Nat} {a : Act} (h : AtB B a) : ∃ f : Nat → Value, a = { tmps := #[f 0, f 1, f 2, f 3, f 4, f 5, f 6, f 7, f 8, .pointer (some ⟨B, 0, none⟩), f 10, f 11, f 12, f 13, f 14, f 15, f 16, f 17, f 18, f 19, f 20, f 21, f 22, f 23, f 24, f 25, f 26, f 27, f 28, f 29, f 30, f 31, f 32, f 33, f 34, f 35, f 36, f 37, f 38, f 39, f 40, f 41, f 42, f 43, f 44, f 45, f 46, f 47, f 48, f 49, f 50, f 51, f 52, f 53, f 54, f 55, f 56, f 57, f 58, f 59, f 60, f 61, f 62, f 63, f 64, f 65, f 66, f 67, f 68, f 69, f 70, f 71, f 72, f 73, f 74, f 75, f 76, f 77, f 78, f 79, f 80, f 81, f 82, f 83, f 84, f 85, f 86, f 87, f 88, f 89, f 90, f 91, f 92, f 93, f 94, f 95, f 96, f 97, f 98, f 99, f 100, f 101, f 102, f 103, f 104, f 105, f 106, f 107, f 108, f 109, f 110, f 111, f 112, f 113, f 114, f 115, f 116, f 117, f 118, f 119, f 120, f 121, f 122, f 123, f 124, f 125], defers := [] } := by
  obtain ⟨h1, h2, h3⟩ := h
  have e := act_fn a 126 h2 h1
  obtain ⟨g, hg⟩ : ∃ g : Nat → Value, g = fun j => a.tmps.getD j undef := ⟨_, rfl⟩
  rw [← hg] at e
  refine ⟨g, e.trans ?_⟩
  have k9 : g 9 = .pointer (some ⟨B, 0, none⟩) := by rw [hg]; exact h3
  clear hg e
  show ({ tmps := #[g 0, g 1, g 2, g 3, g 4, g 5, g 6, g 7, g 8, g 9, g 10, g 11, g 12, g 13, g 14, g 15, g 16, g 17, g 18, g 19, g 20, g 21, g 22, g 23, g 24, g 25, g 26, g 27, g 28, g 29, g 30, g 31, g 32, g 33, g 34, g 35, g 36, g 37, g 38, g 39, g 40, g 41, g 42, g 43, g 44, g 45, g 46, g 47, g 48, g 49, g 50, g 51, g 52, g 53, g 54, g 55, g 56, g 57, g 58, g 59, g 60, g 61, g 62, g 63, g 64, g 65, g 66, g 67, g 68, g 69, g 70, g 71, g 72, g 73, g 74, g 75, g 76, g 77, g 78, g 79, g 80, g 81, g 82, g 83, g 84, g 85, g 86, g 87, g 88, g 89, g 90, g 91, g 92, g 93, g 94, g 95, g 96, g 97, g 98, g 99, g 100, g 101, g 102, g 103, g 104, g 105, g 106, g 107, g 108, g 109, g 110, g 111, g 112, g 113, g 114, g 115, g 116, g 117, g 118, g 119, g 120, g 121, g 122, g 123, g 124, g 125], defers := [] } : Act) = _
  rw [k9]
theorem wp_onceR {P : Program} {c : Code} {Q : Exit → Act → World → Prop} {a : Act} {w : World} (R : Act → World → Prop) (h : c.wp P (OnNormal R) a w) (k : ∀ a' w', R a' w' → Q .normal a' w') : c.wp P Q a w := by
  refine Code.wp_mono (fun e a w hq => ?_) h
  cases e with
  | normal => exact k _ _ hq
  | _ => exact hq.elim

/-- the free blocks behind it -/
def newG (G : List (Nat × Nat)) (i x m k : Nat) : List (Nat × Nat) := G.take i ++ ((if k + 2 = m then [] else [(x + (k + 2), m - (k + 2))]) ++ G.drop (i + 1))
def AllocPost (w : World) (p : Value) (F : List Nat) (n : Nat) (L : List Ob) (c k : Nat) (e : Ending) (w' : World) : Prop :=
  match arAlloc n L c k with
  | none => OpPost w p F n (.tuple #[.int .i64 0, .int .i64 110]) L e w'
  | some (x, L') => OpPost w p F n (.tuple #[.int .i64 x, .int .i64 0]) L' e w'

theorem cs6_get {cs : List Value} {x k c n : Nat} (hl : cs.length = n + 1) (hx : x + (k + 2) ≤ n + 1) (j : Nat) :
    (((overw cs x (List.replicate (k + 2) (vu 0))).set x (vu c)).set (x + 1) (vu k))[j]? = if j = x + 1 then some (vu k) else if j = x then some (vu c) else if x ≤ j ∧ j < x + (k + 2) then some (vu 0) else cs[j]? := by
  have hol : (overw cs x (List.replicate (k + 2) (vu 0))).length = cs.length := overw_length (by rw [List.length_replicate]; omega)
  by_cases h1 : j = x + 1
  · subst h1
    rw [if_pos rfl, List.getElem?_set_self (by rw [List.length_set, hol]; omega)]
  · rw [if_neg h1, List.getElem?_set_ne (fun e => h1 e.symm)]
    by_cases h2 : j = x
    · subst h2
      rw [if_pos rfl, List.getElem?_set_self (by rw [hol]; omega)]
    · rw [if_neg h2, List.getElem?_set_ne (fun e => h2 e.symm)]
      unfold overw
      have htl : (cs.take x).length = x := by rw [List.length_take]; omega
      by_cases h3 : x ≤ j ∧ j < x + (k + 2)
      · rw [if_pos h3, List.append_assoc, List.getElem?_append_right (by omega), List.getElem?_append_left (by rw [List.length_replicate]; omega), List.getElem?_replicate, if_pos (by omega)]
      · rw [if_neg h3]
        by_cases h4 : j < x
        · rw [List.append_assoc, List.getElem?_append_left (by omega), List.getElem?_take, if_pos h4]
        · rw [List.getElem?_append_right (by rw [List.length_append, List.length_replicate]; omega), List.length_append, List.length_replicate, htl, List.getElem?_drop]
          congr 1
          omega
theorem alloc_fin {w w4 w6 w7 w9 : World} {hb : Nat} {vw vf vo v4 vo9 : Value} {cs : List Value} {n : Nat} {L : List Ob} {c k i x m0 ah vb : Nat} {G : List (Nat × Nat)} (hA : ArT w hb vw vf vo cs n L) (hG : G = gaps n 1 L) (hG2 : G = G.take i ++ (x, m0) :: G.drop (i + 1)) (hno : ∀ g ∈ G.take i, g.2 < k + 2) (hkm : k + 2 ≤ m0) (hc : (c : Int) ≤ 9223372036854775807)
    (hah : ah = ahead L x) (f4 : Fr (hb :: (fpv vw ++ (fpv vf ++ fpv vo))) w w4) (f6 : Fr (fpv vw) w4 w6) (f7 : Fr [] w6 w7) (f9 : Fr (hb :: fpv vo) w7 w9) (hfp : ∀ y ∈ fpv v4, y ∈ fpv vf ∨ w.heap.size ≤ y) (hvb : w7.heap.size = vb) (hv9 : ∀ y ∈ fpv vo9, y ∈ fpv vo ∨ vb ≤ y)
    (P9 : Pt w9 hb vw v4 vo9 n (((overw cs x (List.replicate (k + 2) (vu 0))).set x (vu c)).set (x + 1) (vu k)) (newG G i x m0 k) ((obsL L).take ah ++ ([vi x] ++ (obsL L).drop ah))) :
    AllocPost w (ptrV hb) (hb :: (fpv vw ++ (fpv vf ++ fpv vo))) n L c k (.returned (.tuple #[.int .i64 x, .int .i64 0])) w9 := by
  obtain ⟨L1, L2, rfl, a1, a2, a3⟩ := gaps_take hA.rise (hG.symm.trans hG2)
  have hxm := gaps_lb hA.rise (x, m0) (by rw [← hG, hG2]; simp)
  simp only [] at hxm
  have hsz : (newOb x c k).sz = k + 2 := by simp [newOb, Ob.sz]
  obtain ⟨e1, e2⟩ := a3 (newOb x c k) rfl (by rw [hsz]; exact hkm)
  have h1 : ∀ q ∈ L1, q.at' < (newOb x c k).at' := fun q hq => by
    have := a1 q hq; simp only [Ob.sz] at this; show q.at' < x; omega
  have h2 : ∀ q ∈ L2, ¬ q.at' < (newOb x c k).at' := fun q hq => by
    have := a2 q hq; show ¬ q.at' < x; omega
  have hins := insOb_split h1 h2
  have hpl : place k (gaps n 1 (L1 ++ L2)) = some x := by rw [← hG, hG2]; exact place_of hno hkm
  have har : arAlloc n (L1 ++ L2) c k = some (x, L1 ++ newOb x c k :: L2) := by unfold arAlloc; rw [hpl, ← hins]
  have hahl : ah = L1.length := by
    rw [hah]
    refine ahead_split (fun q hq => ?_) (fun q hq => ?_)
    · have := h1 q hq; simp only [newOb] at this; omega
    · have := h2 q hq; simp only [newOb] at this; omega
  have hobs : (obsL (L1 ++ L2)).take ah ++ ([vi x] ++ (obsL (L1 ++ L2)).drop ah) = obsL (L1 ++ newOb x c k :: L2) := by
    have hl : (obsL L1).length = ah := by simp [obsL, hahl]
    have e : obsL (L1 ++ L2) = obsL L1 ++ obsL L2 := by simp [obsL]
    rw [e, List.take_left' hl, List.drop_left' hl]
    simp [obsL, newOb]
  rw [hobs] at P9
  have hgap : newG G i x m0 k = gaps n 1 (L1 ++ newOb x c k :: L2) := by rw [e1, hsz]; rfl
  rw [hgap] at P9
  have hcl := hA.ws.len
  have hget := cs6_get (cs := cs) (x := x) (k := k) (c := c) (n := n) (by omega) (by omega)
  unfold AllocPost
  rw [har]
  refine ⟨rfl, _, ⟨hb, vw, v4, vo9, _, rfl, rfl, ⟨P9.blk, P9.ws, P9.fr, ?_, e2, fun o ho => ?_, fun o ho => ?_, hA.small, P9.nd⟩⟩, ?_, ?_⟩
  · have := P9.ob
    simp only [obsL, List.length_map] at this ⊢
    exact this
  · have hold : ∀ q, q ∈ L1 ++ L2 → (q.at' + q.sz ≤ x ∨ x + m0 ≤ q.at') → Wds (((overw cs x (List.replicate (k + 2) (vu 0))).set x (vu c)).set (x + 1) (vu k)) q := by
      intro q hq hx
      have W := hA.wds q hq
      simp only [Ob.sz] at hx
      have hne : ∀ j, j < q.ws.length + 2 → (((overw cs x (List.replicate (k + 2) (vu 0))).set x (vu c)).set (x + 1) (vu k))[q.at' + j]? = cs[q.at' + j]? := by
        intro j hj
        rw [hget, if_neg (by omega), if_neg (by omega), if_neg (by omega)]
      refine ⟨?_, ?_, fun j hj => ?_⟩
      · exact (hne 0 (by omega)).trans W.cls
      · rw [hne 1 (by omega)]; exact W.len
      · rw [show q.at' + 2 + j = q.at' + (2 + j) by omega, hne (2 + j) (by omega), ← Nat.add_assoc]; exact W.at' j hj
    rcases List.mem_append.1 ho with h | h
    · exact hold o (List.mem_append.2 (.inl h)) (.inl (a1 o h))
    · rcases List.mem_cons.1 h with rfl | h
      · refine ⟨?_, ?_, fun j hj => ?_⟩
        · show (((overw cs x (List.replicate (k + 2) (vu 0))).set x (vu c)).set (x + 1) (vu k))[x]? = some (vu c)
          rw [hget, if_neg (by omega), if_pos rfl]
        · show (((overw cs x (List.replicate (k + 2) (vu 0))).set x (vu c)).set (x + 1) (vu k))[x + 1]? = some (vu ((List.replicate k (0 : Int)).length : Nat))
          rw [hget, if_pos rfl, List.length_replicate]
        · have hj' : j < k := by simpa [newOb] using hj
          show (((overw cs x (List.replicate (k + 2) (vu 0))).set x (vu c)).set (x + 1) (vu k))[x + 2 + j]? = some (vu ((List.replicate k (0 : Int)).getD j 0))
          rw [hget, if_neg (by omega), if_neg (by omega), if_pos (by omega)]
          simp [List.getD, hj']
      · exact hold o (List.mem_append.2 (.inr h)) (.inr (a2 o h))
  · rcases List.mem_append.1 ho with h | h
    · exact hA.cl o (List.mem_append.2 (.inl h))
    · rcases List.mem_cons.1 h with rfl | h
      · exact hc
      · exact hA.cl o (List.mem_append.2 (.inr h))
  · refine ((f4.tr (f6.sub (fun y hy => .inl (by simp [hy])))).tr (f7.sub (by simp))).tr (f9.sub (fun y hy => .inl ?_))
    rcases List.mem_cons.1 hy with rfl | hy
    · simp
    · simp [hy]
  · intro y hy
    have hsz : w.heap.size ≤ w7.heap.size := Nat.le_trans f4.size (Nat.le_trans f6.size f7.size)
    simp only [List.mem_cons, List.mem_append] at hy ⊢
    rcases hy with h | h | h | h
    · exact .inl (.inl h)
    · exact .inl (.inr (.inl h))
    · rcases hfp y h with h | h
      · exact .inl (.inr (.inr (.inl h)))
      · exact .inr h
    · rcases hv9 y h with h | h
      · exact .inl (.inr (.inr (.inr h)))
      · exact .inr (by omega)

set_option maxHeartbeats 4000000 in
set_option maxRecDepth 100000 in
theorem alloc_any {w : World} {p : Value} {F : List Nat} {n : Nat} {L : List Ob} (h : Ar w p F n L) (c k : Nat) (hc : (c : Int) ≤ 9223372036854775807) :
    Calls Try.prog 14 #[p, .int .i64 c, .int .i64 k] w (AllocPost w p F n L c k) := by
  have H0 := hid h
  obtain ⟨hb, vw, vf, vo, cs, rfl, rfl, h⟩ := h
  have HA := hid h
  obtain ⟨G, hG⟩ : ∃ G, G = gaps n 1 L := ⟨_, rfl⟩
  have HG := hid hG
  have HGL := hid (show G.length ≤ 3000 by rw [hG]; exact h.glen)
  have hfr : RV w 36 2 vf G.length (blkL G) := by rw [hG]; exact h.fr
  have HFR := hid hfr
  have hb1 : decide ((c : Int) < 0) = false := by simp
  have hb2 : decide ((k : Int) < 0) = false := by simp
  have HC := hid hc
  clear h hG hfr hc
  unfold ptrV at *
  go_enter Try.func14, Try.ntmps14
  go_wp2_with fail
  refine wp_scope_L 0 (fun m a' w' => ∃ (i : Nat), AtA hb c k i a' ∧ Hid (AtI w w' k G i m)) rfl ?_ ?_
  · rintro m a' wk ⟨i, ha, hf⟩
    obtain ⟨f, rfl⟩ := ha.lit
    clear ha
    obtain ⟨av, cv, hvf, hcv1, hcv2⟩ := HFR.out.form
    have HVF := hid hvf
    have hi := hf.out.1
    obtain ⟨c0, c1, c2⟩ := (HA.out.keep0 hf.out.2.2.2).c
    rw [hvf] at c1
    have hgl := HGL.out
    obtain ⟨gl, hgl2⟩ : ∃ gl, gl = G.length := ⟨_, rfl⟩
    rw [← hgl2] at hi hgl c1
    have HGL2 := hid hgl2
    clear hvf hgl2
    by_cases hend : i = gl
    · subst hend
      have HF := hid (show AllocPost w (ptrV hb) (hb :: (fpv vw ++ (fpv vf ++ fpv vo))) n L c k (.returned (.tuple #[.int .i64 0, .int .i64 110])) wk from by
        have hno := hf.out.2.1
        rw [HGL2.out, List.take_length] at hno
        have e : arAlloc n L c k = none := by unfold arAlloc; rw [← HG.out, place_none.2 hno]
        unfold AllocPost
        rw [e]
        have f4 := hf.out.2.2.2
        exact ⟨rfl, _, H0.out.keep0 f4, f4.sub (by simp), fun x hx => .inl hx⟩)
      go_wp2_with fail
      simp only [Exit.jump]
      go_ret2
      exact HF.out
    · have he : ((i : Int) == gl) = false := by
        have : ¬ (i : Int) = gl := by omega
        simpa using this
      obtain ⟨⟨x, m0⟩, hg1, hg2⟩ := place_at (k := k) (G := G) (i := i) (by rw [← HGL2.out]; omega) hf.out.2.1
      obtain ⟨b1, cap1, hv1, k0, z0⟩ := (HFR.out.keep0 hf.out.2.2.2).cell (i * 2) (by rw [← HGL2.out]; omega)
      obtain ⟨b1', cap1', hv1', k1, z1⟩ := (HFR.out.keep0 hf.out.2.2.2).cell (i * 2 + 1) (by rw [← HGL2.out]; omega)
      obtain ⟨q0, q1⟩ := blkL_get G i (x, m0) hg1
      rw [q0] at k0
      rw [q1] at k1
      have hvq := HVF.out
      rw [hv1, ← HGL2.out] at hvq
      cases hvq
      rw [hv1] at hv1'
      cases hv1'
      have hi2 : (i : Int) < gl := by omega
      have hxm := gaps_lb HA.out.rise (x, m0) (by rw [← HG.out]; exact List.mem_of_getElem? hg1)
      have hns := HA.out.small
      have hx1 : (x : Int) ≤ 10000 := by simp only [] at hxm; omega
      have hx2 : (m0 : Int) ≤ 10000 := by simp only [] at hxm; omega
      have hx3 : (1 : Int) ≤ m0 := by simp only [] at hxm; omega
      have HG1 := hid hg1
      have HG2 := hid hg2
      have HXM := hid hxm
      have HV1 := hid hv1
      have HE := hid hend
      unfold maxLen at hcv2
      unfold vi at k0 k1
      simp only [] at k0 k1
      clear hg1 hg2 q0 q1 hv1 hend hxm z0 z1 hns
      by_cases hs : (m0 : Int) - 2 < k
      · go_wp2_with fail
        go_step3
        exact ⟨rfl, gl - (i + 1), by have := hf.out.2.2.1; rw [← HGL2.out] at this; omega, i + 1, ⟨rfl, rfl, rfl, rfl, rfl, rfl, rfl, rfl⟩, hid ⟨by rw [← HGL2.out]; omega, fun g hg => by
          have e : G.take (i + 1) = G.take i ++ [(x, m0)] := by rw [List.take_add_one, HG1.out]; rfl
          rw [e] at hg
          rcases List.mem_append.1 hg with hg | hg
          · exact hf.out.2.1 g hg
          · rw [List.mem_singleton.1 hg]; show m0 < k + 2; omega, by rw [HGL2.out], hf.out.2.2.2.alloc _⟩⟩
      · have hs2 : decide ((m0 : Int) - 2 < k) = false := by simpa using hs
        have hkm : k + 2 ≤ m0 := by omega
        have hk1 : (k : Int) ≤ 10000 := by omega
        have HKM := hid hkm
        obtain ⟨B, hB⟩ : ∃ B, wk.heap.size = B := ⟨_, rfl⟩
        obtain ⟨w2, hw2⟩ : ∃ q, wk.alloc (.cells #[.int .i64 x, .int .i64 m0] 36) = q := ⟨_, rfl⟩
        have f2 : Fr [] wk w2 := by rw [← hw2]; exact (Fr.refl _ _).alloc _
        have hBb : w2.heap[B]? = some (.cells #[.int .i64 x, .int .i64 m0] 36 (0, 0)) := by rw [← hw2, ← hB]; exact heap_alloc_new _ _
        have P2 := (HA.out.pt.keep0 hf.out.2.2.2).keep0 f2
        have hBlt : ∀ y ∈ hb :: (fpv vw ++ (fpv vf ++ fpv vo)), y ≠ B := fun y hy e => by
          have := (HA.out.pt.keep0 hf.out.2.2.2).lt y hy
          omega
        rw [← HG.out] at P2
        obtain ⟨d0, d1, d2⟩ := P2.c
        have dz1 := P2.fz 1
        rw [HVF.out] at d1
        have kb0 : w2.cell? ⟨B, 0, none⟩ = some (.int .i64 x) := by rw [cell_of_row _ _ _ _ _ _ hBb]; rfl
        have kb1 : w2.cell? ⟨B, 1, none⟩ = some (.int .i64 m0) := by rw [cell_of_row _ _ _ _ _ _ hBb]; rfl
        have HP2 := hid P2
        have HBB := hid hBb
        have HBL := hid hBlt
        have HF2 := hid f2
        have HB := hid hB
        rw [← HGL2.out] at d1
        clear P2 hBb hBlt f2 hs
        by_cases hme : m0 = k + 2
        · have he2 : ((m0 : Int) == (k : Int) + 2) = true := by
            have : (m0 : Int) = (k : Int) + 2 := by omega
            simpa using this
          have HME := hid hme
          have hgm : gl = i + 1 + (gl - i - 1) := by omega
          have hD := delete_Blk w2 (.slice (some ⟨b1, 0, none⟩) gl cv) i (gl - i - 1) (blkL G) (by
            have := HP2.out.fr
            rw [HVF.out, ← HGL2.out] at this
            rw [← hgm]; exact this) (by omega) (blkL_one G)
          have HD := hid hD
          clear hme hgm hD hkm
          go_wp2_with fail
          refine HD.out.mono ?_
          rintro e w3 ⟨v3, rfl, hr3, f3, hfp3, _⟩
          obtain ⟨a3, cap3, rfl, _, _⟩ := hr3.form
          have hr4 : RV w3 36 2 (.slice a3 (i + (gl - i - 1)) cap3) (G.take i ++ G.drop (i + 1)).length (blkL (G.take i ++ G.drop (i + 1))) := by
            rw [blkL_take, blkL_drop, ← blkL_append] at hr3
            have e : (G.take i ++ G.drop (i + 1)).length = i + (gl - i - 1) := by
              rw [List.length_append, List.length_take, List.length_drop, ← HGL2.out, Nat.min_eq_left (by omega)]; omega
            rw [e]; exact hr3
          have hfv : fpv vf = fpv (.slice (some ⟨b1, 0, none⟩) gl cv) := by rw [HVF.out, ← HGL2.out]
          obtain ⟨P4, F4⟩ := HP2.out.setFree (by rw [hfv]; exact f3) hr4 (fun y hy => .inl (by rw [hfv, ← hfp3]; exact hy))
          have f34 : Fr (fpv vf) w2 w3 := by rw [hfv]; exact f3
          obtain ⟨⟨_, hbv, _⟩, _, _⟩ := HP2.out.apart
          have e1 := f34.cell d1 hbv
          have ez := f34.frozen d1 dz1 hbv
          obtain ⟨w4, hw4⟩ : ∃ q, w3.setCell ⟨hb, 1, none⟩ (.slice a3 (i + (gl - i - 1)) cap3) = q := ⟨_, rfl⟩
          rw [hw4] at P4 F4
          have HP4 : Hid (Pt w4 hb vw (.slice a3 (i + (gl - i - 1)) cap3) vo n cs (newG G i x m0 k) (obsL L)) := hid (by
            unfold newG; rw [if_pos HME.out.symm, List.nil_append]; exact P4)
          have HF4 : Hid (Fr (hb :: (fpv vw ++ (fpv vf ++ fpv vo))) w w4) := hid ((((hf.out.2.2.2).sub (by simp)).tr (HF2.out.sub (by simp))).tr (F4.sub (fun y hy => .inl (by
            rcases List.mem_cons.1 hy with rfl | hy
            · simp
            · simp [hy]))))
          have HFP : Hid (∀ y ∈ fpv (.slice a3 (i + (gl - i - 1)) cap3), y ∈ fpv vf ∨ w.heap.size ≤ y) := hid (fun y hy => .inl (by rw [hfv, ← hfp3]; exact hy))
          have HB4 : Hid (w4.heap[B]? = some (.cells #[.int .i64 x, .int .i64 m0] 36 (0, 0))) := hid (F4.obj HBB.out (fun hy => by
            rcases List.mem_cons.1 hy with rfl | hy
            · exact HBL.out _ (by simp) rfl
            · exact HBL.out B (by simp [hy]) rfl))
          obtain ⟨v4, hv4⟩ : ∃ v4, v4 = Value.slice a3 (i + (gl - i - 1)) cap3 := ⟨_, rfl⟩
          rw [← hv4] at HP4 HFP
          have HV4 := hid hv4
          have hfy := hid hfv
          clear hv4 hr3 hr4 hfv P4 F4 f34 hfp3 f3 hbv
          go_wp2_with fail
          clear hw4 e1 ez he2
          clear d0 d1 d2 dz1 kb0 kb1 c0 c1 c2 k0 k1 hw2
          obtain ⟨d0, d1, d2⟩ := HP4.out.c
          have kb0 : w4.cell? ⟨B, 0, none⟩ = some (.int .i64 x) := by rw [cell_of_row _ _ _ _ _ _ HB4.out]; rfl
          have kb1 : w4.cell? ⟨B, 1, none⟩ = some (.int .i64 m0) := by rw [cell_of_row _ _ _ _ _ _ HB4.out]; rfl
          obtain ⟨bw, cw, cur, hvw, hwn, hwc, hcl, hrow, hcs, hct⟩ : ∃ bw cw cur, vw = .slice (some ⟨bw, 0, none⟩) (n + 1) cw ∧ n + 1 ≤ cw ∧ cw ≤ maxLen ∧ cs.length = n + 1 ∧ w4.heap[bw]? = some (.cells cur 45 (0, 0)) ∧ cur.size = cw ∧ cur.toList.take (n + 1) = cs := by
            have hl := HP4.out.ws.len
            rcases HP4.out.ws.parts with ⟨_, h0, _⟩ | ⟨b, cap, cur, e, hh, hl', hc, hs, ht⟩
            · omega
            · exact ⟨b, cap, cur, e, hl', hc, by omega, hh, by omega, by simpa using ht⟩
          have hxn : x + (k + 2) ≤ n + 1 := by have h1 : x + m0 ≤ n + 1 := HXM.out.2.2; have h2 := HKM.out; omega
          obtain ⟨w5, hclr, hrow5, f5, _⟩ := clearK (P := Try.prog) (w := w4.drew) 43 45 (.int .u64 0) 1 Try.underlying43 (fun w => by kernel_rfl) rfl (by decide) bw x (k + 2) cur 45 hrow (by omega)
          have HCL := hid hclr
          have HR5 := hid hrow5
          have HF5 := hid f5
          have HVW := hid hvw
          have HCS := hid (And.intro hcl (And.intro hcs hct))
          have HWC := hid (And.intro hwn hwc)
          rw [hvw] at d0
          have hxn2 : (x : Int) + ((k : Int) + 2) ≤ (n : Int) + 1 := by omega
          have hxw : ¬ (cw = x) := by omega
          have hxa : x ≤ x + (k + 2) := by omega
          have htn : ((x : Int) + ((k : Int) + 2)).toNat = x + (k + 2) := by omega
          have hxb : (0 : Int) ≤ (x : Int) + ((k : Int) + 2) := by omega
          have hxc : (x : Int) ≤ (x : Int) + ((k : Int) + 2) := by omega
          have hcw2 : cw ≤ 9223372036854775807 := by unfold maxLen at hwc; omega
          have hwr : IntKind.i64.wrap ((x : Int) + ((k : Int) + 2)) = (x : Int) + ((k : Int) + 2) := by rw [IntKind.wrap_i64]; omega
          have hsub : x + (k + 2) - x = k + 2 := by omega
          have hxd : (x : Int) + ((k : Int) + 2) ≤ cw := by omega
          clear hclr hrow5 f5 hvw hcl hcs hct hrow hwn hwc
          go_still_tail 11, (by kernel_rfl)
          go_wp2_with (with_reducible refine wpBi1 .clear Builtin.clear_ bi_clear rfl (.tmp 82) 43 rfl (.slice (some ⟨bw, x, none⟩) (k + 2) (cw - x)) rfl (HCL.out _ _) ?_)
          have hz5 : (Builtin.zeroCells (Value.int .u64 0).cells (k + 2)).toList = List.replicate (k + 2) (vu 0) := zeros_one _ rfl _
          have hr5 := HR5.out
          rw [hz5] at hr5
          obtain ⟨hcl, hcs, hct⟩ := HCS.out
          obtain ⟨hwn, hwc⟩ := HWC.out
          have hws5 : RV w5 45 1 vw (n + 1) (overw cs x (List.replicate (k + 2) (vu 0))) := by
            rw [HVW.out]
            refine RV.mk hr5 hwn hwc ?_ ?_
            · rw [List.size_toArray, overw_length (by rw [List.length_replicate, Array.length_toList]; omega), Array.length_toList, hcs, Nat.mul_one]
            · rw [Nat.mul_one, ← hct]
              exact overw_take (by rw [List.length_replicate]; omega) (by rw [Array.length_toList]; omega)
          have f45 : Fr (fpv vw) w4 w5 := by
            rw [HVW.out]
            exact ((Fr.refl [bw] w4).drew).tr HF5.out
          have P5 := HP4.out.setWs f45 hws5
          have hbB : B ∉ fpv vw := fun h => HBL.out B (by simp [h]) rfl
          have kb0' := f45.cell kb0 hbB
          have kb1' := f45.cell kb1 hbB
          have d0' := P5.c.1
          have d2' := P5.c.2.2
          rw [HVW.out] at d0'
          have hget : ∀ j, j < k + 2 → w5.cell? ⟨bw, x + j, none⟩ = some (.int .u64 0) ∧ w5.frozen? ⟨bw, x + j, none⟩ = false := fun j hj => by
            refine ⟨?_, frozen_of_row _ _ _ _ _ hr5⟩
            rw [cell_of_row _ _ _ _ _ _ hr5]
            rw [List.getElem?_toArray]
            clear hwr hsub htn
            have hcl2 : cur.toList.length = cur.size := Array.length_toList
            unfold overw
            rw [List.append_assoc, List.getElem?_append_right (by rw [List.length_take]; omega), List.length_take, Array.length_toList, Nat.min_eq_left (by omega), Nat.add_sub_cancel_left, List.getElem?_append_left (by rw [List.length_replicate]; omega), List.getElem?_replicate, if_pos hj]
            rfl
          obtain ⟨g0, y0⟩ := hget 0 (by omega)
          obtain ⟨g1, y1⟩ := hget 1 (by omega)
          rw [Nat.add_zero] at g0 y0
          have HP5 := hid P5
          have HF45 := hid f45
          have hc' := HC.out
          have hx6 : (x : Int) < (n : Int) + 1 := by omega
          have hx7 : (x : Int) + 1 < (n : Int) + 1 := by omega
          have hx8 : (0 : Int) ≤ (x : Int) + 1 := by omega
          have hx9 : ((x : Int) + 1).toNat = x + 1 := by omega
          have hwu1 : IntKind.u64.wrap (c : Int) = c := by rw [IntKind.wrap_u64]; omega
          have hwu2 : IntKind.u64.wrap (k : Int) = k := by rw [IntKind.wrap_u64]; omega
          have hwr1 : IntKind.i64.wrap ((x : Int) + 1) = (x : Int) + 1 := by rw [IntKind.wrap_i64]; omega
          have hb1 : bw ∈ fpv vw := by rw [HVW.out]; simp [fpv, Value.ownBlock]
          have hbwB : bw ≠ B := fun e => hbB (e ▸ hb1)
          have hbwh : bw ≠ hb := fun e => HP4.out.apart.1.1 (e ▸ hb1)
          obtain ⟨cur5, hcur5⟩ : ∃ c : Array Value, c = (overw cur.toList x (List.replicate (k + 2) (vu 0))).toArray := ⟨_, rfl⟩
          rw [← hcur5] at hr5
          have HR6 := hid hr5
          have HC5 := hid hcur5
          have HNE := hid (And.intro hbwB hbwh)
          clear hcur5 hb1 hbwB hbwh
          clear hr5 hz5 hws5 P5 f45 hget hcl hcs hct hwn hwc kb0 kb1 d0 d1 d2 hwr hsub htn hxa hxb hxc hxd hbB
          apply wp_once (Good := fun w' => Hid (w'.heap[bw]? = some (.cells ((cur5.setIfInBounds x (vu c)).setIfInBounds (x + 1) (vu k)) 45 (0, 0)) ∧ Fr [bw] w5 w'))
          · go_region_held3 (fun w' => w'.cell? ⟨B, 0, none⟩ = some (.int .i64 x) ∧ w'.cell? ⟨hb, 0, none⟩ = some (.slice (some ⟨bw, 0, none⟩) (n + 1) cw)) (first | exact ⟨kb0', d0'⟩ | (obtain ⟨q1, q2⟩ := ‹_ ∧ _›; exact ⟨(World.cell?_setCell_far _ _ _ _ HNE.out.1).trans q1, (World.cell?_setCell_far _ _ _ _ HNE.out.2).trans q2⟩)) (fail)
            exact ⟨rfl, hid ⟨heap_setCell_same _ _ _ _ _ _ (heap_setCell_same _ _ _ _ _ _ HR6.out), (((Fr.refl [bw] w5).setCell (.inl (by simp)) _).setCell (.inl (by simp)) _).drew⟩⟩
          · intro w6 hgood
            obtain ⟨hr6, f56⟩ := hgood.out
            obtain ⟨hcl, hcs, hct⟩ := HCS.out
            obtain ⟨hwn, hwc⟩ := HWC.out
            obtain ⟨cs6, hcs6⟩ : ∃ l, l = ((overw cs x (List.replicate (k + 2) (vu 0))).set x (vu c)).set (x + 1) (vu k) := ⟨_, rfl⟩
            have hws6 : RV w6 45 1 vw (n + 1) cs6 := by
              rw [HVW.out, hcs6]
              refine RV.mk hr6 hwn hwc ?_ ?_
              · rw [Array.size_setIfInBounds, Array.size_setIfInBounds, HC5.out, List.size_toArray, overw_length (by rw [List.length_replicate, Array.length_toList]; omega), Array.length_toList, hcs, Nat.mul_one]
              · rw [Array.toList_setIfInBounds, Array.toList_setIfInBounds, List.take_set, List.take_set, HC5.out, Nat.mul_one, ← hct, List.toList_toArray, overw_take (by rw [List.length_replicate]; omega) (by rw [Array.length_toList]; omega)]
            have f56' : Fr (fpv vw) w5 w6 := by rw [HVW.out]; exact f56
            have P6 := HP5.out.setWs f56' hws6
            have hbB : B ∉ fpv vw := fun h => HBL.out B (by simp [h]) rfl
            have kb0 := f56'.cell kb0' hbB
            have hBb6 := (HF45.out.tr f56').obj HB4.out hbB
            obtain ⟨_, _, d2⟩ := P6.c
            have dz2 := P6.fz 2
            have hBS : ∀ W, Fr [] w6 W → Calls Try.prog 41 #[vo, .int .i64 x] W (fun e w' => e = .returned (.tuple #[.int .i64 (ahead L x : Nat), .bool (has L x)]) ∧ ∃ q, w' = W.drewN q) := fun W fW =>
              bs_any (by have := (P6.keep0 fW).ob; simp only [obsL, List.length_map] at this ⊢; exact this) HA.out.rise HA.out.llen x
            obtain ⟨ah, hah⟩ : ∃ a, a = ahead L x := ⟨_, rfl⟩
            obtain ⟨hs, hhs⟩ : ∃ a, a = has L x := ⟨_, rfl⟩
            rw [← hah, ← hhs] at hBS
            have HBS := hid hBS
            have HAH := hid hah
            have HP6 := hid P6
            have HCS6 := hid hcs6
            have HF6 := hid (HF45.out.tr f56')
            have HB6 := hid hBb6
            clear hgood hr6 f56 hcl hcs hct hwn hwc hws6 f56' P6 hbB hBb6 hBS hah hhs hcs6 kb0' kb1' d0' d2' g0 y0 g1 y1
            go_wp2_with fail
            go_quiet ((go_at_call 41; exact Calls.quiet_of (HBS.out _ (drewN_fr _ _))))
            obtain ⟨w7, hw7⟩ : ∃ q, w6.drewN nq = q := ⟨_, rfl⟩
            have f67 : Fr [] w6 w7 := by rw [← hw7]; exact drewN_fr _ _
            have kb7 := f67.cell kb0 (by simp)
            have d7 := f67.cell d2 (by simp)
            have dz7 := f67.frozen d2 dz2 (by simp)
            have P7 := HP6.out.keep0 f67
            have HB7 := hid (f67.obj HB6.out (by simp))
            have hah : ah ≤ L.length := by rw [HAH.out]; exact List.countP_le_length
            obtain ⟨vb, hvb⟩ : ∃ vb, w7.heap.size = vb := ⟨_, rfl⟩
            have hINS : ∀ W, Fr [] w7 W → W.heap[vb]? = some (.cells [vi x].toArray 3 (0, 0)) → Calls Try.prog 42 #[vo, .int .i64 ah, .slice (some ⟨vb, 0, none⟩) 1 1] W (InsPostInt W vo (L.length + 1) ((obsL L).take (ah * 1) ++ ([vi x] ++ (obsL L).drop (ah * 1)))) := fun W fW hW =>
              insert_Int W vo L.length ah (obsL L) (by have := (P7.keep0 fW).ob; simp only [obsL, List.length_map] at this ⊢; exact this) hah (by have := HA.out.llen; omega) (obsL_one L) vb [vi x] _ hW rfl (by intro u hu; rw [List.mem_singleton.1 hu]; rfl) (fun h => by
                have := P7.lt vb (by simp [h]); omega)
            rw [hw7]
            have HIN := hid hINS
            have HP7 := hid P7
            have HF7 := hid f67
            have HVB := hid hvb
            have hbo : B ∉ fpv vo := fun h => HBL.out B (by simp [h]) rfl
            have hho : hb ∉ fpv vo := P7.apart.1.2.2
            have HBO := hid (And.intro hbo hho)
            have HAL := hid hah
            clear hw7 f67 P7 hINS kb0 d2 dz2 hbo hho hah
            have da7 : ∀ o, (w7.alloc o).cell? ⟨hb, 2, none⟩ = some vo := fun o => ((Fr.refl [] w7).alloc o).cell d7 (by simp)
            have ka7 : ∀ o, (w7.alloc o).cell? ⟨B, 0, none⟩ = some (.int .i64 x) := fun o => ((Fr.refl [] w7).alloc o).cell kb7 (by simp)
            go_wp2_with fail
            refine wp_onceR (fun a' w' => AtB B a' ∧ Hid (∃ v', Pt w' hb vw v4 v' n cs6 (newG G i x m0 k) ((obsL L).take ah ++ ([vi x] ++ (obsL L).drop ah)) ∧ Fr (hb :: fpv vo) w7 w' ∧ (∀ y ∈ fpv v', y ∈ fpv vo ∨ vb ≤ y))) ?_ ?_
            · go_region_law (go_simp; go_at_call 42; refine (HIN.out _ (by first | exact ((Fr.refl [] w7).alloc _).drew | exact (Fr.refl [] w7).drew.alloc _) (by rw [← HVB.out]; exact heap_alloc_new _ _)).mono ?_; rintro e w8 ⟨v8, rfl, r8, f8, n8⟩; obtain ⟨a8, c8, rfl, _, _⟩ := RV.form r8; have F8 : Hid (Fr (fpv vo) w7 w8) := hid (Fr.tr (((Fr.refl (fpv vo) w7).alloc _).drew) f8); have d8 := F8.out.cell d7 HBO.out.2; have z8 := F8.out.frozen d7 dz7 HBO.out.2; have R8 := hid r8; have N8 := hid n8; clear r8 f8 n8)
              all_goals
                refine ⟨⟨rfl, rfl, rfl⟩, hid ?_⟩
                have r8 := R8.out
                have hll : ((obsL L).take (ah * 1) ++ ([vi x] ++ (obsL L).drop (ah * 1))).length = L.length + 1 := by
                  simp [obsL]
                  have := HAL.out
                  omega
                rw [← hll] at r8
                have N9 : ∀ y ∈ fpv (.slice a8 ((obsL L).take (ah * 1) ++ ([vi x] ++ (obsL L).drop (ah * 1))).length c8), y ∈ fpv vo ∨ w7.heap.size ≤ y := fun y hy => by
                  rw [hll] at hy
                  rcases N8.out y hy with h1 | h1
                  · exact .inl h1
                  · right
                    refine Nat.le_trans ?_ h1
                    simp
                have hset := HP7.out.setObj F8.out r8 N9
                rw [hll] at hset N9
                rw [HVB.out] at N9
                simp only [Nat.mul_one] at hset
                exact ⟨_, hset.1, hset.2, N9⟩
            · rintro a9 w9 ⟨ha9, hgood⟩
              obtain ⟨f9, rfl⟩ := ha9.lit
              clear ha9
              obtain ⟨vo9, P9, f79, hvo9⟩ := hgood.out
              have kb9 : w9.cell? ⟨B, 0, none⟩ = some (.int .i64 x) := f79.cell kb7 (fun h => by
                rcases List.mem_cons.1 h with h | h
                · exact HBL.out hb (by simp) h.symm
                · exact HBO.out.1 h)
              have HP9 := hid P9
              have HF9 := hid f79
              have HV9 := hid hvo9
              clear hgood P9 f79 hvo9 kb7 d7 dz7 da7 ka7
              go_wp2_with fail
              simp only [Exit.jump]
              go_ret2
              have hpp := HP9.out
              rw [HCS6.out] at hpp
              exact alloc_fin HA.out HG.out HG2.out hf.out.2.1 HKM.out HC.out HAH.out HF4.out HF6.out HF7.out HF9.out HFP.out HVB.out HV9.out hpp
        · have he2 : ((m0 : Int) == (k : Int) + 2) = false := by
            have : ¬ (m0 : Int) = (k : Int) + 2 := by omega
            simpa using this
          have HME := hid hme
          obtain ⟨cur1, hrow1, hcs1, hct1⟩ : ∃ cur1, w2.heap[b1]? = some (.cells cur1 36 (0, 0)) ∧ cur1.size = cv * 2 ∧ cur1.toList.take (gl * 2) = blkL G := by
            rcases HP2.out.fr.parts with ⟨e, _⟩ | ⟨b, cap, cur, e, hh, _, _, hs, ht⟩
            · rw [HVF.out] at e; cases e
            · rw [HVF.out] at e
              cases e
              exact ⟨cur, hh, hs, by rw [HGL2.out]; exact ht⟩
          have q0 : w2.cell? ⟨b1, i * 2, none⟩ = some (.int .i64 x) := HF2.out.cell k0 (by simp)
          have q1 : w2.cell? ⟨b1, i * 2 + 1, none⟩ = some (.int .i64 m0) := HF2.out.cell k1 (by simp)
          have z0 : w2.frozen? ⟨b1, i * 2, none⟩ = false := frozen_of_row _ _ _ _ _ hrow1
          have z1 : w2.frozen? ⟨b1, i * 2 + 1, none⟩ = false := frozen_of_row _ _ _ _ _ hrow1
          have hwa : IntKind.i64.wrap ((x : Int) + ((k : Int) + 2)) = (x : Int) + ((k : Int) + 2) := by rw [IntKind.wrap_i64]; omega
          have hwb : IntKind.i64.wrap ((m0 : Int) - ((k : Int) + 2)) = (m0 : Int) - ((k : Int) + 2) := by rw [IntKind.wrap_i64]; omega
          have HR1 := hid (And.intro hrow1 (And.intro hcs1 hct1))
          clear hme hkm hrow1 hcs1 hct1
          go_wp2_with fail
          go_still_tail 15, (by kernel_rfl)
          go_wp2_with fail
          obtain ⟨hrow1, hcs1, hct1⟩ := HR1.out
          obtain ⟨w4, hw4⟩ : ∃ q, ((w2.setCell ⟨b1, i * 2, none⟩ (.int .i64 ((x : Int) + ((k : Int) + 2)))).setCell ⟨b1, i * 2 + 1, none⟩ (.int .i64 ((m0 : Int) - ((k : Int) + 2)))).drew = q := ⟨_, rfl⟩
          have hrow4 : w4.heap[b1]? = some (.cells ((cur1.setIfInBounds (i * 2) (.int .i64 ((x : Int) + ((k : Int) + 2)))).setIfInBounds (i * 2 + 1) (.int .i64 ((m0 : Int) - ((k : Int) + 2)))) 36 (0, 0)) := by
            rw [← hw4]
            exact heap_setCell_same _ _ _ _ _ _ (heap_setCell_same _ _ _ _ _ _ hrow1)
          have f24 : Fr [b1] w2 w4 := by
            rw [← hw4]
            exact (((Fr.refl [b1] w2).setCell (.inl (by simp)) _).setCell (.inl (by simp)) _).drew
          have hfv : fpv vf = [b1] := by rw [HVF.out]; simp [fpv, Value.ownBlock]
          have hnl : (newG G i x m0 k).length = gl := by
            unfold newG
            rw [if_neg (fun e => HME.out e.symm), List.length_append, List.length_append, List.length_take, List.length_drop, ← HGL2.out, Nat.min_eq_left (by omega), List.length_singleton]
            omega
          have hrv4 : RV w4 36 2 vf (newG G i x m0 k).length (blkL (newG G i x m0 k)) := by
            rw [hnl, HVF.out, ← HGL2.out]
            refine RV.mk hrow4 (by rw [HGL2.out]; exact hcv1) (by unfold maxLen; omega) (by rw [Array.size_setIfInBounds, Array.size_setIfInBounds, hcs1]) ?_
            rw [Array.toList_setIfInBounds, Array.toList_setIfInBounds, List.take_set, List.take_set, hct1]
            unfold newG
            rw [if_neg (fun e => HME.out e.symm), List.singleton_append]
            have hkm := HKM.out
            have e1 : (x : Int) + ((k : Int) + 2) = ((x + (k + 2) : Nat) : Int) := by omega
            have e2 : (m0 : Int) - ((k : Int) + 2) = ((m0 - (k + 2) : Nat) : Int) := by omega
            rw [e1, e2]
            exact blkL_set G i (x + (k + 2)) (m0 - (k + 2)) (by rw [← HGL2.out]; omega)
          have P4 := HP2.out.setRow (by rw [hfv]; exact f24) hrv4
          have HP4 := hid P4
          have HF4 : Hid (Fr (hb :: (fpv vw ++ (fpv vf ++ fpv vo))) w w4) := hid ((((hf.out.2.2.2).sub (by simp)).tr (HF2.out.sub (by simp))).tr (f24.sub (fun y hy => .inl (by
            rw [List.mem_singleton.1 hy]; simp [hfv]))))
          have HFP : Hid (∀ y ∈ fpv vf, y ∈ fpv vf ∨ w.heap.size ≤ y) := hid (fun y hy => .inl hy)
          have HB4 : Hid (w4.heap[B]? = some (.cells #[.int .i64 x, .int .i64 m0] 36 (0, 0))) := hid (f24.obj HBB.out (fun hy => HBL.out b1 (by simp [hfv]) (List.mem_singleton.1 hy).symm))
          obtain ⟨v4, hv4⟩ : ∃ v4, v4 = vf := ⟨_, rfl⟩
          rw [← hv4] at HP4
          replace HFP : Hid (∀ y ∈ fpv v4, y ∈ fpv vf ∨ w.heap.size ≤ y) := by rw [hv4]; exact HFP
          have HV4 := hid hv4
          clear hv4 hrow1 hcs1 hct1 hrow4 hrv4 P4 f24 hnl hfv q0 q1 z0 z1 hwa hwb
          rw [hw4]
          go_wp2_with fail
          clear hw4 he2
          clear d0 d1 d2 dz1 kb0 kb1 c0 c1 c2 k0 k1 hw2
          obtain ⟨d0, d1, d2⟩ := HP4.out.c
          have kb0 : w4.cell? ⟨B, 0, none⟩ = some (.int .i64 x) := by rw [cell_of_row _ _ _ _ _ _ HB4.out]; rfl
          have kb1 : w4.cell? ⟨B, 1, none⟩ = some (.int .i64 m0) := by rw [cell_of_row _ _ _ _ _ _ HB4.out]; rfl
          obtain ⟨bw, cw, cur, hvw, hwn, hwc, hcl, hrow, hcs, hct⟩ : ∃ bw cw cur, vw = .slice (some ⟨bw, 0, none⟩) (n + 1) cw ∧ n + 1 ≤ cw ∧ cw ≤ maxLen ∧ cs.length = n + 1 ∧ w4.heap[bw]? = some (.cells cur 45 (0, 0)) ∧ cur.size = cw ∧ cur.toList.take (n + 1) = cs := by
            have hl := HP4.out.ws.len
            rcases HP4.out.ws.parts with ⟨_, h0, _⟩ | ⟨b, cap, cur, e, hh, hl', hc, hs, ht⟩
            · omega
            · exact ⟨b, cap, cur, e, hl', hc, by omega, hh, by omega, by simpa using ht⟩
          have hxn : x + (k + 2) ≤ n + 1 := by have h1 : x + m0 ≤ n + 1 := HXM.out.2.2; have h2 := HKM.out; omega
          obtain ⟨w5, hclr, hrow5, f5, _⟩ := clearK (P := Try.prog) (w := w4.drew) 43 45 (.int .u64 0) 1 Try.underlying43 (fun w => by kernel_rfl) rfl (by decide) bw x (k + 2) cur 45 hrow (by omega)
          have HCL := hid hclr
          have HR5 := hid hrow5
          have HF5 := hid f5
          have HVW := hid hvw
          have HCS := hid (And.intro hcl (And.intro hcs hct))
          have HWC := hid (And.intro hwn hwc)
          rw [hvw] at d0
          have hxn2 : (x : Int) + ((k : Int) + 2) ≤ (n : Int) + 1 := by omega
          have hxw : ¬ (cw = x) := by omega
          have hxa : x ≤ x + (k + 2) := by omega
          have htn : ((x : Int) + ((k : Int) + 2)).toNat = x + (k + 2) := by omega
          have hxb : (0 : Int) ≤ (x : Int) + ((k : Int) + 2) := by omega
          have hxc : (x : Int) ≤ (x : Int) + ((k : Int) + 2) := by omega
          have hcw2 : cw ≤ 9223372036854775807 := by unfold maxLen at hwc; omega
          have hwr : IntKind.i64.wrap ((x : Int) + ((k : Int) + 2)) = (x : Int) + ((k : Int) + 2) := by rw [IntKind.wrap_i64]; omega
          have hsub : x + (k + 2) - x = k + 2 := by omega
          have hxd : (x : Int) + ((k : Int) + 2) ≤ cw := by omega
          clear hclr hrow5 f5 hvw hcl hcs hct hrow hwn hwc
          go_still_tail 11, (by kernel_rfl)
          go_wp2_with (with_reducible refine wpBi1 .clear Builtin.clear_ bi_clear rfl (.tmp 82) 43 rfl (.slice (some ⟨bw, x, none⟩) (k + 2) (cw - x)) rfl (HCL.out _ _) ?_)
          have hz5 : (Builtin.zeroCells (Value.int .u64 0).cells (k + 2)).toList = List.replicate (k + 2) (vu 0) := zeros_one _ rfl _
          have hr5 := HR5.out
          rw [hz5] at hr5
          obtain ⟨hcl, hcs, hct⟩ := HCS.out
          obtain ⟨hwn, hwc⟩ := HWC.out
          have hws5 : RV w5 45 1 vw (n + 1) (overw cs x (List.replicate (k + 2) (vu 0))) := by
            rw [HVW.out]
            refine RV.mk hr5 hwn hwc ?_ ?_
            · rw [List.size_toArray, overw_length (by rw [List.length_replicate, Array.length_toList]; omega), Array.length_toList, hcs, Nat.mul_one]
            · rw [Nat.mul_one, ← hct]
              exact overw_take (by rw [List.length_replicate]; omega) (by rw [Array.length_toList]; omega)
          have f45 : Fr (fpv vw) w4 w5 := by
            rw [HVW.out]
            exact ((Fr.refl [bw] w4).drew).tr HF5.out
          have P5 := HP4.out.setWs f45 hws5
          have hbB : B ∉ fpv vw := fun h => HBL.out B (by simp [h]) rfl
          have kb0' := f45.cell kb0 hbB
          have kb1' := f45.cell kb1 hbB
          have d0' := P5.c.1
          have d2' := P5.c.2.2
          rw [HVW.out] at d0'
          have hget : ∀ j, j < k + 2 → w5.cell? ⟨bw, x + j, none⟩ = some (.int .u64 0) ∧ w5.frozen? ⟨bw, x + j, none⟩ = false := fun j hj => by
            refine ⟨?_, frozen_of_row _ _ _ _ _ hr5⟩
            rw [cell_of_row _ _ _ _ _ _ hr5]
            rw [List.getElem?_toArray]
            clear hwr hsub htn
            have hcl2 : cur.toList.length = cur.size := Array.length_toList
            unfold overw
            rw [List.append_assoc, List.getElem?_append_right (by rw [List.length_take]; omega), List.length_take, Array.length_toList, Nat.min_eq_left (by omega), Nat.add_sub_cancel_left, List.getElem?_append_left (by rw [List.length_replicate]; omega), List.getElem?_replicate, if_pos hj]
            rfl
          obtain ⟨g0, y0⟩ := hget 0 (by omega)
          obtain ⟨g1, y1⟩ := hget 1 (by omega)
          rw [Nat.add_zero] at g0 y0
          have HP5 := hid P5
          have HF45 := hid f45
          have hc' := HC.out
          have hx6 : (x : Int) < (n : Int) + 1 := by omega
          have hx7 : (x : Int) + 1 < (n : Int) + 1 := by omega
          have hx8 : (0 : Int) ≤ (x : Int) + 1 := by omega
          have hx9 : ((x : Int) + 1).toNat = x + 1 := by omega
          have hwu1 : IntKind.u64.wrap (c : Int) = c := by rw [IntKind.wrap_u64]; omega
          have hwu2 : IntKind.u64.wrap (k : Int) = k := by rw [IntKind.wrap_u64]; omega
          have hwr1 : IntKind.i64.wrap ((x : Int) + 1) = (x : Int) + 1 := by rw [IntKind.wrap_i64]; omega
          have hb1 : bw ∈ fpv vw := by rw [HVW.out]; simp [fpv, Value.ownBlock]
          have hbwB : bw ≠ B := fun e => hbB (e ▸ hb1)
          have hbwh : bw ≠ hb := fun e => HP4.out.apart.1.1 (e ▸ hb1)
          obtain ⟨cur5, hcur5⟩ : ∃ c : Array Value, c = (overw cur.toList x (List.replicate (k + 2) (vu 0))).toArray := ⟨_, rfl⟩
          rw [← hcur5] at hr5
          have HR6 := hid hr5
          have HC5 := hid hcur5
          have HNE := hid (And.intro hbwB hbwh)
          clear hcur5 hb1 hbwB hbwh
          clear hr5 hz5 hws5 P5 f45 hget hcl hcs hct hwn hwc kb0 kb1 d0 d1 d2 hwr hsub htn hxa hxb hxc hxd hbB
          apply wp_once (Good := fun w' => Hid (w'.heap[bw]? = some (.cells ((cur5.setIfInBounds x (vu c)).setIfInBounds (x + 1) (vu k)) 45 (0, 0)) ∧ Fr [bw] w5 w'))
          · go_region_held3 (fun w' => w'.cell? ⟨B, 0, none⟩ = some (.int .i64 x) ∧ w'.cell? ⟨hb, 0, none⟩ = some (.slice (some ⟨bw, 0, none⟩) (n + 1) cw)) (first | exact ⟨kb0', d0'⟩ | (obtain ⟨q1, q2⟩ := ‹_ ∧ _›; exact ⟨(World.cell?_setCell_far _ _ _ _ HNE.out.1).trans q1, (World.cell?_setCell_far _ _ _ _ HNE.out.2).trans q2⟩)) (fail)
            exact ⟨rfl, hid ⟨heap_setCell_same _ _ _ _ _ _ (heap_setCell_same _ _ _ _ _ _ HR6.out), (((Fr.refl [bw] w5).setCell (.inl (by simp)) _).setCell (.inl (by simp)) _).drew⟩⟩
          · intro w6 hgood
            obtain ⟨hr6, f56⟩ := hgood.out
            obtain ⟨hcl, hcs, hct⟩ := HCS.out
            obtain ⟨hwn, hwc⟩ := HWC.out
            obtain ⟨cs6, hcs6⟩ : ∃ l, l = ((overw cs x (List.replicate (k + 2) (vu 0))).set x (vu c)).set (x + 1) (vu k) := ⟨_, rfl⟩
            have hws6 : RV w6 45 1 vw (n + 1) cs6 := by
              rw [HVW.out, hcs6]
              refine RV.mk hr6 hwn hwc ?_ ?_
              · rw [Array.size_setIfInBounds, Array.size_setIfInBounds, HC5.out, List.size_toArray, overw_length (by rw [List.length_replicate, Array.length_toList]; omega), Array.length_toList, hcs, Nat.mul_one]
              · rw [Array.toList_setIfInBounds, Array.toList_setIfInBounds, List.take_set, List.take_set, HC5.out, Nat.mul_one, ← hct, List.toList_toArray, overw_take (by rw [List.length_replicate]; omega) (by rw [Array.length_toList]; omega)]
            have f56' : Fr (fpv vw) w5 w6 := by rw [HVW.out]; exact f56
            have P6 := HP5.out.setWs f56' hws6
            have hbB : B ∉ fpv vw := fun h => HBL.out B (by simp [h]) rfl
            have kb0 := f56'.cell kb0' hbB
            have hBb6 := (HF45.out.tr f56').obj HB4.out hbB
            obtain ⟨_, _, d2⟩ := P6.c
            have dz2 := P6.fz 2
            have hBS : ∀ W, Fr [] w6 W → Calls Try.prog 41 #[vo, .int .i64 x] W (fun e w' => e = .returned (.tuple #[.int .i64 (ahead L x : Nat), .bool (has L x)]) ∧ ∃ q, w' = W.drewN q) := fun W fW =>
              bs_any (by have := (P6.keep0 fW).ob; simp only [obsL, List.length_map] at this ⊢; exact this) HA.out.rise HA.out.llen x
            obtain ⟨ah, hah⟩ : ∃ a, a = ahead L x := ⟨_, rfl⟩
            obtain ⟨hs, hhs⟩ : ∃ a, a = has L x := ⟨_, rfl⟩
            rw [← hah, ← hhs] at hBS
            have HBS := hid hBS
            have HAH := hid hah
            have HP6 := hid P6
            have HCS6 := hid hcs6
            have HF6 := hid (HF45.out.tr f56')
            have HB6 := hid hBb6
            clear hgood hr6 f56 hcl hcs hct hwn hwc hws6 f56' P6 hbB hBb6 hBS hah hhs hcs6 kb0' kb1' d0' d2' g0 y0 g1 y1
            go_wp2_with fail
            go_quiet ((go_at_call 41; exact Calls.quiet_of (HBS.out _ (drewN_fr _ _))))
            obtain ⟨w7, hw7⟩ : ∃ q, w6.drewN nq = q := ⟨_, rfl⟩
            have f67 : Fr [] w6 w7 := by rw [← hw7]; exact drewN_fr _ _
            have kb7 := f67.cell kb0 (by simp)
            have d7 := f67.cell d2 (by simp)
            have dz7 := f67.frozen d2 dz2 (by simp)
            have P7 := HP6.out.keep0 f67
            have HB7 := hid (f67.obj HB6.out (by simp))
            have hah : ah ≤ L.length := by rw [HAH.out]; exact List.countP_le_length
            obtain ⟨vb, hvb⟩ : ∃ vb, w7.heap.size = vb := ⟨_, rfl⟩
            have hINS : ∀ W, Fr [] w7 W → W.heap[vb]? = some (.cells [vi x].toArray 3 (0, 0)) → Calls Try.prog 42 #[vo, .int .i64 ah, .slice (some ⟨vb, 0, none⟩) 1 1] W (InsPostInt W vo (L.length + 1) ((obsL L).take (ah * 1) ++ ([vi x] ++ (obsL L).drop (ah * 1)))) := fun W fW hW =>
              insert_Int W vo L.length ah (obsL L) (by have := (P7.keep0 fW).ob; simp only [obsL, List.length_map] at this ⊢; exact this) hah (by have := HA.out.llen; omega) (obsL_one L) vb [vi x] _ hW rfl (by intro u hu; rw [List.mem_singleton.1 hu]; rfl) (fun h => by
                have := P7.lt vb (by simp [h]); omega)
            rw [hw7]
            have HIN := hid hINS
            have HP7 := hid P7
            have HF7 := hid f67
            have HVB := hid hvb
            have hbo : B ∉ fpv vo := fun h => HBL.out B (by simp [h]) rfl
            have hho : hb ∉ fpv vo := P7.apart.1.2.2
            have HBO := hid (And.intro hbo hho)
            have HAL := hid hah
            clear hw7 f67 P7 hINS kb0 d2 dz2 hbo hho hah
            have da7 : ∀ o, (w7.alloc o).cell? ⟨hb, 2, none⟩ = some vo := fun o => ((Fr.refl [] w7).alloc o).cell d7 (by simp)
            have ka7 : ∀ o, (w7.alloc o).cell? ⟨B, 0, none⟩ = some (.int .i64 x) := fun o => ((Fr.refl [] w7).alloc o).cell kb7 (by simp)
            go_wp2_with fail
            refine wp_onceR (fun a' w' => AtB B a' ∧ Hid (∃ v', Pt w' hb vw v4 v' n cs6 (newG G i x m0 k) ((obsL L).take ah ++ ([vi x] ++ (obsL L).drop ah)) ∧ Fr (hb :: fpv vo) w7 w' ∧ (∀ y ∈ fpv v', y ∈ fpv vo ∨ vb ≤ y))) ?_ ?_
            · go_region_law (go_simp; go_at_call 42; refine (HIN.out _ (by first | exact ((Fr.refl [] w7).alloc _).drew | exact (Fr.refl [] w7).drew.alloc _) (by rw [← HVB.out]; exact heap_alloc_new _ _)).mono ?_; rintro e w8 ⟨v8, rfl, r8, f8, n8⟩; obtain ⟨a8, c8, rfl, _, _⟩ := RV.form r8; have F8 : Hid (Fr (fpv vo) w7 w8) := hid (Fr.tr (((Fr.refl (fpv vo) w7).alloc _).drew) f8); have d8 := F8.out.cell d7 HBO.out.2; have z8 := F8.out.frozen d7 dz7 HBO.out.2; have R8 := hid r8; have N8 := hid n8; clear r8 f8 n8)
              all_goals
                refine ⟨⟨rfl, rfl, rfl⟩, hid ?_⟩
                have r8 := R8.out
                have hll : ((obsL L).take (ah * 1) ++ ([vi x] ++ (obsL L).drop (ah * 1))).length = L.length + 1 := by
                  simp [obsL]
                  have := HAL.out
                  omega
                rw [← hll] at r8
                have N9 : ∀ y ∈ fpv (.slice a8 ((obsL L).take (ah * 1) ++ ([vi x] ++ (obsL L).drop (ah * 1))).length c8), y ∈ fpv vo ∨ w7.heap.size ≤ y := fun y hy => by
                  rw [hll] at hy
                  rcases N8.out y hy with h1 | h1
                  · exact .inl h1
                  · right
                    refine Nat.le_trans ?_ h1
                    simp
                have hset := HP7.out.setObj F8.out r8 N9
                rw [hll] at hset N9
                rw [HVB.out] at N9
                simp only [Nat.mul_one] at hset
                exact ⟨_, hset.1, hset.2, N9⟩
            · rintro a9 w9 ⟨ha9, hgood⟩
              obtain ⟨f9, rfl⟩ := ha9.lit
              clear ha9
              obtain ⟨vo9, P9, f79, hvo9⟩ := hgood.out
              have kb9 : w9.cell? ⟨B, 0, none⟩ = some (.int .i64 x) := f79.cell kb7 (fun h => by
                rcases List.mem_cons.1 h with h | h
                · exact HBL.out hb (by simp) h.symm
                · exact HBO.out.1 h)
              have HP9 := hid P9
              have HF9 := hid f79
              have HV9 := hid hvo9
              clear hgood P9 f79 hvo9 kb7 d7 dz7 da7 ka7
              go_wp2_with fail
              simp only [Exit.jump]
              go_ret2
              have hpp := HP9.out
              rw [HCS6.out] at hpp
              exact alloc_fin HA.out HG.out HG2.out hf.out.2.1 HKM.out HC.out HAH.out HF4.out HF6.out HF7.out HF9.out HFP.out HVB.out HV9.out hpp
  · intro hp'
    go_wp2_with fail
    rename_i K hK
    go_step3
    exact hK _ _ (hp' _ _ _ ⟨0, ⟨rfl, rfl, rfl, rfl, rfl, rfl, rfl, rfl⟩, hid ⟨by omega, by simp, rfl, Fr.refl _ _⟩⟩)

end Go.Proofs.Ytgakkkifohkikaa
