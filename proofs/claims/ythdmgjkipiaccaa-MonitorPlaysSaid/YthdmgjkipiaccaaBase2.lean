/-
  Plain lemmas on worlds, the second part: slices that own their rows ('SlV'), deleting from a map, going over a map. They speak of no program.
-/
import Derived.Test.YthdmgjkipiaccaaBase
import Derived.Maps.AppendAt
import Derived.Maps.RangeWalk
namespace Go.Proofs.Ythdmgjkipiaccaa
open Go.RowKit

/-! ### slices that own their rows -/
/-- The slice v, of element type e (one cell each), owns a row that begins with xs. -/
def SlV (w : World) (e : TypeId) (v : Value) (xs : List Value) : Prop := w.ownsRow 0 e 1 v xs.length xs
/-- The block that a slice owns, if it has one. -/
def fpv (v : Value) : List Nat := v.ownBlock.toList

theorem SlV.nil (w : World) (e : TypeId) : SlV w e (.slice none 0 0) [] := ⟨rfl, .inl ⟨rfl, rfl⟩⟩
theorem mem_fpv {v : Value} {b : Nat} : b ∈ fpv v ↔ v.ownBlock = some b := by
  unfold fpv; cases v.ownBlock <;> simp [eq_comm]

theorem SlV.parts {w : World} {e : TypeId} {v : Value} {xs : List Value} (h : SlV w e v xs) :
    (v = .slice none 0 0 ∧ xs = []) ∨ ∃ b cap cur, v = .slice (some ⟨b, 0, none⟩) xs.length cap ∧ w.heap[b]? = some (.cells cur e (0, 0)) ∧ xs.length ≤ cap ∧ cap ≤ maxLen ∧ cur.size = cap ∧ cur.toList.take xs.length = xs := by
  obtain ⟨_, h2⟩ := h
  rcases h2 with ⟨rfl, h3⟩ | ⟨b, cap, cur, rfl, _, hh, hl, hc, hs, ht⟩
  · exact .inl ⟨rfl, List.length_eq_zero_iff.1 h3⟩
  · exact .inr ⟨b, cap, cur, rfl, hh, hl, hc, by omega, by simpa using ht⟩
theorem SlV.mk {w : World} {e : TypeId} {b cap : Nat} {cur : Array Value} {xs : List Value} (hh : w.heap[b]? = some (.cells cur e (0, 0))) (hl : xs.length ≤ cap) (hc : cap ≤ maxLen) (hs : cur.size = cap) (ht : cur.toList.take xs.length = xs) :
    SlV w e (.slice (some ⟨b, 0, none⟩) xs.length cap) xs := ⟨by simp, .inr ⟨b, cap, cur, rfl, Nat.zero_le _, hh, hl, hc, by omega, by simpa using ht⟩⟩

theorem SlV.lt {w : World} {e : TypeId} {v : Value} {xs : List Value} (h : SlV w e v xs) : ∀ b ∈ fpv v, b < w.heap.size := by
  intro b hb
  rw [mem_fpv] at hb
  rcases h.parts with ⟨rfl, _⟩ | ⟨b', cap, cur, rfl, hh, _⟩
  · cases hb
  · cases hb; exact lt_of_block hh
theorem SlV.form {w : World} {e : TypeId} {v : Value} {xs : List Value} (h : SlV w e v xs) : ∃ a cap, v = .slice a xs.length cap ∧ xs.length ≤ cap ∧ cap ≤ maxLen := by
  rcases h.parts with ⟨rfl, rfl⟩ | ⟨b, cap, cur, rfl, _, hl, hc, _⟩
  · exact ⟨_, 0, rfl, by simp, by unfold maxLen; omega⟩
  · exact ⟨_, cap, rfl, hl, hc⟩
theorem SlV.elemType {w : World} {e : TypeId} {v : Value} {xs : List Value} (h : SlV w e v xs) : ∀ b ∈ fpv v, ∃ cur, w.heap[b]? = some (.cells cur e (0, 0)) := by
  intro b hb
  rw [mem_fpv] at hb
  rcases h.parts with ⟨rfl, _⟩ | ⟨b', cap, cur, rfl, hh, _⟩
  · cases hb
  · cases hb; exact ⟨_, hh⟩

theorem SlV.keep {S : List Nat} {w w' : World} {e : TypeId} {v : Value} {xs : List Value} (h : SlV w e v xs) (f : Fr S w w') (hn : ∀ b ∈ fpv v, b ∉ S) : SlV w' e v xs := by
  rcases h.parts with ⟨rfl, rfl⟩ | ⟨b, cap, cur, rfl, hh, hl, hc, hs, ht⟩
  · exact SlV.nil _ _
  · exact SlV.mk (f.obj hh (hn b (by simp [fpv, Value.ownBlock]))) hl hc hs ht

theorem SlV.cell {w : World} {e : TypeId} {v : Value} {xs : List Value} (h : SlV w e v xs) (k : Nat) (hk : k < xs.length) :
    ∃ b cap, v = .slice (some ⟨b, 0, none⟩) xs.length cap ∧ w.cell? ⟨b, k, none⟩ = some (xs.getD k undef) ∧ w.frozen? ⟨b, k, none⟩ = false := by
  rcases h.parts with ⟨rfl, rfl⟩ | ⟨b, cap, cur, rfl, hh, hl, hc, hs, ht⟩
  · simp at hk
  · refine ⟨b, cap, rfl, ?_, frozen_of_row _ _ _ _ _ hh⟩
    rw [cell_of_row _ _ _ _ _ _ hh]
    have e1 := congrArg (fun l => l[k]?) ht
    simp only [List.getElem?_take, if_pos hk, Array.getElem?_toList] at e1
    rw [e1, List.getD, List.getElem?_eq_getElem hk]; rfl

theorem grownFr {w w' : World} {row : Option Nat} (h : w.grownBy w' row) : Fr row.toList w w' :=
  ⟨h.os, h.tape, h.output, h.size, fun k hk hn => h.block k hk (fun e => hn (by rw [← e]; simp))⟩

/-! ### many cells at once -/
def overw (cur : List Value) (o : Nat) (vs : List Value) : List Value := cur.take o ++ vs ++ cur.drop (o + vs.length)
theorem overw_length {cur : List Value} {o : Nat} {vs : List Value} (h : o + vs.length ≤ cur.length) : (overw cur o vs).length = cur.length := by
  simp [overw]; omega
theorem heap_setCells {t : TypeId} {b : Nat} : ∀ (vs : List Value) (o : Nat) (cur : Array Value) (w : World), w.heap[b]? = some (.cells cur t (0, 0)) → o + vs.length ≤ cur.size → (w.setCells b o vs).heap[b]? = some (.cells (overw cur.toList o vs).toArray t (0, 0))
  | [], o, cur, w, h, _ => by
    have : (overw cur.toList o []).toArray = cur := by simp [overw]
    rw [this]; exact h
  | v :: vs, o, cur, w, h, hl => by
    simp only [List.length_cons] at hl
    have h1 := heap_setCell_same w b o cur t v h
    have h2 := heap_setCells vs (o + 1) (cur.setIfInBounds o v) (w.setCell ⟨b, o, none⟩ v) h1 (by simp; omega)
    have e : overw (cur.setIfInBounds o v).toList (o + 1) vs = overw cur.toList o (v :: vs) := by
      have hs : cur.toList.length = cur.size := Array.length_toList
      unfold overw
      rw [Array.toList_setIfInBounds, List.length_cons]
      generalize cur.toList = l at hs ⊢
      have e1 : (l.set o v).take (o + 1) = l.take o ++ [v] := by
        rw [List.take_succ_eq_append_getElem (by simp; omega), List.getElem_set_self, List.take_set_of_le (Nat.le_refl _)]
      have e2 : (l.set o v).drop (o + 1 + vs.length) = l.drop (o + (vs.length + 1)) := by
        rw [List.drop_set_of_lt (by omega)]; congr 1; omega
      rw [e1, e2]; simp
    rw [← e]; exact h2
theorem setCells_fr {S : List Nat} {b : Nat} (hb : b ∈ S) : ∀ (vs : List Value) (o : Nat) (a w : World), Fr S a w → Fr S a (w.setCells b o vs)
  | [], _, _, _, f => f
  | v :: vs, o, a, _, f => setCells_fr hb vs (o + 1) a _ (f.setCell (Or.inl hb) v)
theorem setCells_size (b : Nat) : ∀ (vs : List Value) (o : Nat) (w : World), (w.setCells b o vs).heap.size = w.heap.size
  | [], _, _ => rfl
  | v :: vs, o, w => by
    show ((w.setCell ⟨b, o, none⟩ v).setCells b (o + 1) vs).heap.size = _
    rw [setCells_size b vs (o + 1)]; simp

/-! ### deleting from a map -/
theorem eraseIdx_map' {α β : Type} (f : α → β) : ∀ (l : List α) (j : Nat), (l.map f).eraseIdx j = (l.eraseIdx j).map f
  | [], _ => rfl
  | _ :: _, 0 => rfl
  | a :: l, j + 1 => by simp only [List.map_cons, List.eraseIdx_cons_succ, eraseIdx_map' f l j]
theorem inj_of_nodup {α β : Type} {f : α → β} : ∀ {l : List α}, (l.map f).Nodup → ∀ {a b : α}, a ∈ l → b ∈ l → f a = f b → a = b
  | [], _, _, _, ha, _, _ => by cases ha
  | x :: l, hn, a, b, ha, hb, e => by
    simp only [List.map_cons, List.nodup_cons] at hn
    rcases List.mem_cons.1 ha with h1 | h1
    · rcases List.mem_cons.1 hb with h2 | h2
      · rw [h1, h2]
      · exact absurd (List.mem_map.2 ⟨b, h2, by rw [← e, h1]⟩) hn.1
    · rcases List.mem_cons.1 hb with h2 | h2
      · exact absurd (List.mem_map.2 ⟨a, h1, by rw [e, h2]⟩) hn.1
      · exact inj_of_nodup hn.2 h1 h2 e

section
variable {K : Type} [DecidableEq K] {P : Program}

theorem ldel_of_find {es : List (K × Value × Nat)} {k : K} {j : Nat} {v0 : Value} (hn : ((es.map pairOf).map (·.1)).Nodup) (h : findL es k 0 = some (j, v0)) :
    (es.eraseIdx j).map pairOf = ldel (es.map pairOf) k := by
  obtain ⟨e, _, h2, h3, h4, h5⟩ := findL_some h
  simp only [Nat.sub_zero] at h2 h5
  clear h
  clear h4
  induction es generalizing j with
  | nil => simp at h2
  | cons q r ih =>
    simp only [List.map_cons, List.nodup_cons] at hn
    cases j with
    | zero =>
      simp only [List.getElem?_cons_zero, Option.some.injEq] at h2
      subst h2
      have hno : ∀ p ∈ r.map pairOf, decide (p.1 = k) = false := by
        intro p hp
        refine decide_eq_false (fun e => hn.1 ?_)
        rw [show (pairOf q).1 = k from h3, ← e]
        exact List.mem_map.2 ⟨p, hp, rfl⟩
      have hf : (r.map pairOf).filter (fun p => !decide (p.1 = k)) = r.map pairOf := by
        rw [List.filter_eq_self]
        intro p hp
        rw [hno p hp]; rfl
      have hq : decide ((pairOf q).1 = k) = true := decide_eq_true h3
      unfold ldel
      rw [List.eraseIdx_cons_zero, List.map_cons, List.filter_cons, hq, hf]
      rfl
    | succ j =>
      have hq : decide ((pairOf q).1 = k) = false := decide_eq_false (fun e => h5 0 (by omega) q (by simp) e)
      have hih := ih hn.2 (Nat.zero_le _) (by simpa using h2) (fun m hm e' he' => h5 (m + 1) (by omega) e' (by simpa using he'))
      unfold ldel at hih ⊢
      rw [List.eraseIdx_cons_succ, List.map_cons, List.map_cons, List.filter_cons, hq, hih]
      rfl

theorem ldel_none {l : List (K × Value)} {k : K} (h : ∀ p ∈ l, p.1 ≠ k) : ldel l k = l := by
  unfold ldel
  rw [List.filter_eq_self]
  intro p hp
  rw [decide_eq_false (h p hp)]; rfl

/-- delete(m, k). -/
theorem MapL.delete {w : World} {b : Nat} {kv : K → Value} {l : List (K × Value)} (h : MapL w b kv l) {kt t et ty : TypeId} (R : KeyRuns P kt kv) (ht : P.underlying t = some (.map kt et)) (k : K) :
    ∃ w', (Builtin.delete_ #[t, kt] ty #[.map (some b), kv k]).run P w = .ok (.tuple #[]) w' ∧ MapL w' b kv (ldel l k) ∧ Fr [b] w w' ∧ w'.heap.size = w.heap.size := by
  obtain ⟨es, clock, hb, rfl, hd, hs, hbn⟩ := h
  have hlt := lt_of_block hb
  cases hf : findL es k 0 with
  | none =>
    refine ⟨setObjW w b (.map (es.map (entOf kv)).toArray clock), ?_, ⟨es, clock, setObjW_at hlt _, ?_, ldel_nodup hd k, hs, hbn⟩, setObjW_fr _, setObjW_size _ _ _⟩
    · simp [Builtin.delete_, run_underlying ht, MapKept.run_getObj_map hb, R.check, R.find, hf, MapKept.run_setObj_map _ hb, Result.andThen, setObjW]
    · refine ldel_none (fun p hp => ?_)
      obtain ⟨e, he, rfl⟩ := List.mem_map.1 hp
      exact findL_none hf e he
  | some p =>
    obtain ⟨j, v0⟩ := p
    refine ⟨setObjW w b (.map ((es.eraseIdx j).map (entOf kv)).toArray clock), ?_, ⟨es.eraseIdx j, clock, setObjW_at hlt _, (ldel_of_find hd hf).symm, ldel_nodup hd k, ?_, ?_⟩, setObjW_fr _, setObjW_size _ _ _⟩
    · simp only [Builtin.delete_]
      simp [run_underlying ht, MapKept.run_getObj_map hb, R.check, R.find, hf, MapKept.run_setObj_map _ hb, Result.andThen, setObjW, eraseIdx_map']
    · intro x hx
      exact hs x (List.mem_of_mem_eraseIdx hx)
    · have : (es.eraseIdx j).map (·.2.2) = (es.map (·.2.2)).eraseIdx j := by rw [eraseIdx_map']
      rw [this]
      exact hbn.sublist (List.eraseIdx_sublist _ _)
end

/-! ### going over a map -/
section
variable {K : Type} {P : Program}

/-- Block r goes over the map of block b, whose pairs are l; those of 'left' are still to come. -/
def Over (w : World) (b r : Nat) (kv : K → Value) (l left : List (K × Value)) : Prop :=
  ∃ (es : List (K × Value × Nat)) (clock : Nat) (seen : Array Nat), w.heap[b]? = some (.map (es.map (entOf kv)).toArray clock) ∧ l = es.map pairOf ∧ (l.map (·.1)).Nodup ∧ (∀ e ∈ es, e.2.2 < clock) ∧ (es.map (·.2.2)).Nodup ∧
    w.heap[r]? = some (.mapIter (some b) clock seen clock) ∧ left = (es.filter (fun e => !seen.contains e.2.2)).map pairOf

theorem Over.map {w : World} {b r : Nat} {kv : K → Value} {l left : List (K × Value)} (h : Over w b r kv l left) : MapL w b kv l := by
  obtain ⟨es, clock, seen, h1, h2, h3, h4, h5, _⟩ := h
  exact ⟨es, clock, h1, h2, h3, h4, h5⟩
theorem Over.keep {S : List Nat} {w w' : World} {b r : Nat} {kv : K → Value} {l left : List (K × Value)} (h : Over w b r kv l left) (f : Fr S w w') (hb : b ∉ S) (hr : r ∉ S) : Over w' b r kv l left := by
  obtain ⟨es, clock, seen, h1, h2, h3, h4, h5, h6, h7⟩ := h
  exact ⟨es, clock, seen, f.obj h1 hb, h2, h3, h4, h5, f.obj h6 hr, h7⟩
theorem Over.sub {w : World} {b r : Nat} {kv : K → Value} {l left : List (K × Value)} (h : Over w b r kv l left) : ∀ p ∈ left, p ∈ l := by
  obtain ⟨es, clock, seen, h1, rfl, h3, h4, h5, h6, rfl⟩ := h
  intro p hp
  obtain ⟨e, he, rfl⟩ := List.mem_map.1 hp
  exact List.mem_map.2 ⟨e, (List.mem_filter.1 he).1, rfl⟩

/-- 'range m' -/
theorem MapL.range {w : World} {b : Nat} {kv : K → Value} {l : List (K × Value)} (h : MapL w b kv l) {t kt et : TypeId} (ht : P.underlying t = some (.map kt et)) :
    ∃ w', (Instr.range t (.map (some b))).run P w = .ok (.pointer (some ⟨w.heap.size, 0, none⟩)) w' ∧ Over w' b w.heap.size kv l l ∧ Fr [] w w' ∧ w'.heap.size = w.heap.size + 1 := by
  have hlt := h.lt
  obtain ⟨es, clock, hb, rfl, hd, hs, hbn⟩ := h
  refine ⟨w.alloc (.mapIter (some b) clock #[] clock), ?_, ⟨es, clock, #[], ?_, rfl, hd, hs, hbn, heap_alloc_new _ _, ?_⟩, (Fr.refl _ _).alloc _, by simp⟩
  · simp [Instr.range, run_underlying ht, MapKept.run_getObj_map hb, Result.andThen, newObj, Sem.run]
  · rw [Below.heap_alloc _ _ _ hlt]; exact hb
  · have : es.filter (fun e => !(#[] : Array Nat).contains e.2.2) = es := by
      rw [List.filter_eq_self]; intro a _; simp
    rw [this]

/-- the step: nothing is left; or one pair, whichever, comes out -/
theorem Over.next {w : World} {b r : Nat} {kv : K → Value} {l left : List (K × Value)} (h : Over w b r kv l left) (hbr : b ≠ r) (ty : TypeId) :
    (left = [] ∧ (Instr.next (.pointer (some ⟨r, 0, none⟩)) false ty).run P w = .ok (.tuple #[.bool false]) w) ∨
    ∃ (k : K) (v : Value) (left' : List (K × Value)) (w' : World), (k, v) ∈ left ∧ left'.length < left.length ∧ (∀ p ∈ left, p ∈ left' ∨ p = (k, v)) ∧
      (Instr.next (.pointer (some ⟨r, 0, none⟩)) false ty).run P w = .ok (.tuple #[.bool true, kv k, v]) w' ∧ Over w' b r kv l left' ∧ Fr [r] w w' ∧ w'.heap.size = w.heap.size ∧
      (Instr.entry (.pointer (some ⟨r, 0, none⟩))).run P w' = .ok (.tuple #[kv k, v]) w' := by
  obtain ⟨es, clock, seen, hb, rfl, hd, hs, hbn, hr, rfl⟩ := h
  have hold : ∀ x ∈ ((es.map (entOf kv)).toArray).toList, x.born < clock := by
    intro x hx
    simp only [List.mem_map] at hx
    obtain ⟨e, he, rfl⟩ := hx
    exact hs e he
  have hleft : (leftOf (es.map (entOf kv)).toArray seen).toList = (es.filter (fun e => !seen.contains e.2.2)).map (entOf kv) := by
    unfold leftOf
    rw [List.filter_toArray, List.filter_map]
    rfl
  rcases run_next_at (P := P) w ty r b clock clock seen _ clock hr hb hold (Nat.le_refl _) with ⟨h0, hrun⟩ | ⟨e, he, w1, hw1, hrun⟩
  · left
    refine ⟨?_, hrun⟩
    have := congrArg List.length hleft
    simp only [List.length_map, Array.length_toList, h0] at this
    rw [List.map_eq_nil_iff]
    exact List.length_eq_zero_iff.1 this.symm
  · right
    rw [hleft] at he
    obtain ⟨e0, he0, rfl⟩ := List.mem_map.1 he
    have hmem := (List.mem_filter.1 he0).1
    have hnot := (List.mem_filter.1 he0).2
    have hr1 : w1.heap[r]? = w.heap[r]? := by rcases hw1 with rfl | rfl <;> rfl
    have hb1 : w1.heap[b]? = w.heap[b]? := by rcases hw1 with rfl | rfl <;> rfl
    have hsz : w1.heap.size = w.heap.size := by rcases hw1 with rfl | rfl <;> rfl
    have hrlt : r < w1.heap.size := by rw [hsz]; exact lt_of_block hr
    have hf1 : Fr [r] w (setObjW w1 r (.mapIter (some b) clock (seen.push e0.2.2) clock)) := by
      have : Fr [r] w w1 := by rcases hw1 with rfl | rfl; exact Fr.refl _ _; exact (Fr.refl _ _).drew
      exact this.tr (setObjW_fr _)
    have hbb : (setObjW w1 r (.mapIter (some b) clock (seen.push e0.2.2) clock)).heap[b]? = some (.map (es.map (entOf kv)).toArray clock) := hf1.obj hb (by simpa using hbr)
    have hfil : ∀ p ∈ es, (!(seen.push e0.2.2).contains p.2.2) = true → (!seen.contains p.2.2) = true := by
      intro p _ hp
      simp only [Bool.not_eq_true', Array.contains_push, Bool.or_eq_false_iff] at hp
      simpa using hp.1
    refine ⟨e0.1, e0.2.1, (es.filter (fun e => !(seen.push e0.2.2).contains e.2.2)).map pairOf, setObjW w1 r (.mapIter (some b) clock (seen.push e0.2.2) clock), List.mem_map.2 ⟨e0, he0, rfl⟩, ?_, ?_, hrun,
      ⟨es, clock, seen.push e0.2.2, hbb, rfl, hd, hs, hbn, setObjW_at hrlt _, rfl⟩, hf1, by rw [setObjW_size, hsz],
      run_entry_at _ r b clock seen _ clock (entOf kv e0) (setObjW_at hrlt _) hbb (by simp only [List.mem_map]; exact ⟨e0, hmem, rfl⟩) (by
        have : ((es.map (entOf kv)).toArray.toList.map (·.born)) = es.map (·.2.2) := by rw [List.map_map]; rfl
        rw [this]; exact hbn)⟩
    · rw [List.length_map, List.length_map]
      have hsub : (es.filter (fun e => !(seen.push e0.2.2).contains e.2.2)) = (es.filter (fun e => !seen.contains e.2.2)).filter (fun e => !(seen.push e0.2.2).contains e.2.2) := by
        rw [List.filter_filter]
        apply List.filter_congr
        intro p hp
        cases h : (!(seen.push e0.2.2).contains p.2.2)
        · rfl
        · rw [hfil p hp h]; rfl
      rw [hsub]
      refine Nat.lt_of_le_of_ne (List.length_filter_le _ _) (fun e => ?_)
      have := List.length_filter_eq_length_iff.1 e e0 he0
      simp at this
    · intro p hp
      obtain ⟨q, hq, rfl⟩ := List.mem_map.1 hp
      by_cases e : q.2.2 = e0.2.2
      · right
        have : q = e0 := by
          have hq' := (List.mem_filter.1 hq).1
          exact inj_of_nodup hbn hq' hmem e
        rw [this]; rfl
      · left
        refine List.mem_map.2 ⟨q, List.mem_filter.2 ⟨(List.mem_filter.1 hq).1, ?_⟩, rfl⟩
        have h1 := (List.mem_filter.1 hq).2
        simp only [Bool.not_eq_true', Array.contains_push, Bool.or_eq_false_iff] at h1 ⊢
        exact ⟨h1, by simpa using e⟩
end

end Go.Proofs.Ythdmgjkipiaccaa
