/-
  Plain lemmas on worlds: which blocks may have turned ('Fr'), maps as lists of pairs ('MapL'). They speak of no program.
-/
import Derived.WalkKit
import Derived.WalkSpells
import Derived.WalkLawsBesides
import Derived.Maps.OwnSet
import Derived.ScopeJumps
namespace Go.Proofs.Ythdmgjkipiaccaa
open Go.RowKit

theorem hid {p : Prop} (h : p) : Hid p := h

/-- Only the blocks of S have turned; new blocks may have come. -/
structure Fr (S : List Nat) (w w' : World) : Prop where
  os : w'.os = w.os
  tape : w'.tape = w.tape
  output : w'.output = w.output
  size : w.heap.size ≤ w'.heap.size
  block : ∀ k, k < w.heap.size → k ∉ S → w'.heap[k]? = w.heap[k]?

theorem Fr.refl (S : List Nat) (w : World) : Fr S w w := ⟨rfl, rfl, rfl, Nat.le_refl _, fun _ _ _ => rfl⟩
theorem Fr.trans {S S' : List Nat} {a b c : World} (h : Fr S a b) (k : Fr S' b c) (hs : ∀ x, x ∈ S' → x ∈ S ∨ a.heap.size ≤ x) : Fr S a c :=
  ⟨k.os.trans h.os, k.tape.trans h.tape, k.output.trans h.output, Nat.le_trans h.size k.size, fun i hi hn => by
    rw [k.block i (Nat.lt_of_lt_of_le hi h.size) (fun hm => by rcases hs i hm with h1 | h1; exact hn h1; omega), h.block i hi hn]⟩
theorem Fr.tr {S : List Nat} {a b c : World} (h : Fr S a b) (k : Fr S b c) : Fr S a c := h.trans k (fun _ hx => Or.inl hx)
theorem Fr.tr0 {S : List Nat} {a b c : World} (h : Fr S a b) (k : Fr [] b c) : Fr S a c := h.trans k (by simp)
theorem Fr.sub {S S' : List Nat} {a b : World} (h : Fr S a b) (hs : ∀ x, x ∈ S → x ∈ S' ∨ a.heap.size ≤ x) : Fr S' a b := (Fr.refl S' a).trans h hs
theorem Fr.alloc {S : List Nat} {a w : World} (h : Fr S a w) (o : Obj) : Fr S a (w.alloc o) :=
  ⟨h.os, h.tape, h.output, by simp; exact Nat.le_succ_of_le h.size, fun k hk hn => by
    rw [Below.heap_alloc w o k (Nat.lt_of_lt_of_le hk h.size)]; exact h.block k hk hn⟩
theorem Fr.setCell {S : List Nat} {a w : World} (h : Fr S a w) {p : Addr} (hp : p.block ∈ S ∨ a.heap.size ≤ p.block) (u : Value) : Fr S a (w.setCell p u) :=
  ⟨h.os, h.tape, h.output, by simpa using h.size, fun k hk hn => by
    rw [Below.heap_setCell w p u k (fun e => by subst e; rcases hp with h1 | h1; exact hn h1; omega)]; exact h.block k hk hn⟩
theorem Fr.drew {S : List Nat} {a w : World} (h : Fr S a w) : Fr S a w.drew := ⟨h.os, h.tape, h.output, h.size, h.block⟩
theorem Fr.drewN {S : List Nat} {a w : World} (h : Fr S a w) (n : Nat) : Fr S a (w.drewN n) := ⟨h.os, h.tape, h.output, h.size, h.block⟩
theorem Fr.cell {S : List Nat} {w w' : World} (h : Fr S w w') {p : Addr} {v : Value} (hc : w.cell? p = some v) (hn : p.block ∉ S) : w'.cell? p = some v := by
  rw [← hc]; exact World.cell?_of_block (w := w) (h.block p.block (World.block_lt_of_cell? w p hc) hn)
theorem Fr.frozen {S : List Nat} {w w' : World} (h : Fr S w w') {p : Addr} {v : Value} {b : Bool} (hc : w.cell? p = some v) (hf : w.frozen? p = b) (hn : p.block ∉ S) : w'.frozen? p = b := by
  rw [← hf]; exact World.frozen?_of_block (w := w) (h.block p.block (World.block_lt_of_cell? w p hc) hn)
theorem Fr.obj {S : List Nat} {w w' : World} (h : Fr S w w') {b : Nat} {o : Obj} (hc : w.heap[b]? = some o) (hn : b ∉ S) : w'.heap[b]? = some o := by
  rw [← hc]; exact h.block b (lt_of_block hc) hn
theorem Fr.below {S : List Nat} {w w' : World} (h : Fr S w w') (B : Nat) (hB : B ≤ w.heap.size) (hS : ∀ x ∈ S, B ≤ x) : Below B w w' :=
  ⟨h.os, h.tape, h.output, h.size, fun k hk => h.block k (by omega) (fun hm => by have := hS k hm; omega)⟩
theorem Fr.lt {S : List Nat} {w w' : World} (h : Fr S w w') {b : Nat} (hb : b < w.heap.size) : b < w'.heap.size := Nat.lt_of_lt_of_le hb h.size

theorem Below.fr {w w' : World} (h : Below w.heap.size w w') : Fr [] w w' := ⟨h.os, h.tape, h.output, h.size, fun k hk _ => h.block k hk⟩

section
variable {K V : Type}
def entOf (kv : K → Value) (e : K × Value × Nat) : MapEntry := ⟨kv e.1, e.2.1, e.2.2⟩
def pairOf (e : K × V × Nat) : K × V := (e.1, e.2.1)

/-- Block b is a map whose entries are the pairs of l, in the order in which they came. -/
def MapL (w : World) (b : Nat) (kv : K → Value) (l : List (K × Value)) : Prop :=
  ∃ (es : List (K × Value × Nat)) (clock : Nat), w.heap[b]? = some (.map (es.map (entOf kv)).toArray clock) ∧ l = es.map pairOf ∧ (l.map (·.1)).Nodup ∧ (∀ e ∈ es, e.2.2 < clock) ∧ (es.map (·.2.2)).Nodup

theorem MapL.lt {w : World} {b : Nat} {kv : K → Value} {l : List (K × Value)} (h : MapL w b kv l) : b < w.heap.size := by
  obtain ⟨es, clock, hb, _⟩ := h
  exact lt_of_block hb

theorem MapL.keep {S : List Nat} {w w' : World} {b : Nat} {kv : K → Value} {l : List (K × Value)} (h : MapL w b kv l) (f : Fr S w w') (hn : b ∉ S) : MapL w' b kv l := by
  obtain ⟨es, clock, hb, r⟩ := h
  exact ⟨es, clock, f.obj hb hn, r⟩

theorem MapL.made (w : World) (kv : K → Value) : MapL (w.alloc (.map #[] 0)) w.heap.size kv ([] : List (K × Value)) :=
  ⟨[], 0, by simpa using heap_alloc_new w (.map #[] 0), rfl, by simp, by simp, by simp⟩

theorem MapL.nodup {w : World} {b : Nat} {kv : K → Value} {l : List (K × Value)} (h : MapL w b kv l) : (l.map (·.1)).Nodup := by
  obtain ⟨es, clock, hb, _, hd, _⟩ := h
  exact hd

end

/-! ### lists of pairs as maps -/
section
variable {K V : Type} [DecidableEq K]

def lget (l : List (K × V)) (k : K) : Option V := (l.find? (fun p => decide (p.1 = k))).map (·.2)
def lput (l : List (K × V)) (k : K) (v : V) : List (K × V) :=
  if l.any (fun p => decide (p.1 = k)) then l.map (fun p => if p.1 = k then (k, v) else p) else l ++ [(k, v)]
def ldel (l : List (K × V)) (k : K) : List (K × V) := l.filter (fun p => !decide (p.1 = k))

theorem lget_nil (k : K) : lget ([] : List (K × V)) k = none := rfl
theorem lget_cons (p : K × V) (l : List (K × V)) (k : K) : lget (p :: l) k = if p.1 = k then some p.2 else lget l k := by
  unfold lget
  rw [List.find?_cons]
  by_cases h : p.1 = k <;> simp [h]

theorem lget_append (l : List (K × V)) (p : K × V) (k : K) : lget (l ++ [p]) k = match lget l k with | some v => some v | none => if p.1 = k then some p.2 else none := by
  induction l with
  | nil => simp [lget_nil, lget_cons]
  | cons q r ih =>
    rw [List.cons_append, lget_cons, lget_cons, ih]
    by_cases h : q.1 = k <;> simp [h]

theorem lget_map_set (l : List (K × V)) (k : K) (v : V) (j : K) : lget (l.map (fun p => if p.1 = k then (k, v) else p)) j = if j = k then (if l.any (fun p => decide (p.1 = k)) then some v else none) else lget l j := by
  induction l with
  | nil => simp [lget_nil]
  | cons q r ih =>
    rw [List.map_cons, lget_cons, lget_cons, ih, List.any_cons]
    by_cases h : q.1 = k
    · by_cases hj : j = k
      · subst hj; simp [h]
      · have : ¬ k = j := fun e => hj e.symm
        have h2 : ¬ q.1 = j := by rw [h]; exact this
        simp [h, hj, this]
    · by_cases hj : j = k
      · subst hj; rw [if_neg h, if_neg h, decide_eq_false h, Bool.false_or, if_pos rfl, if_pos rfl]
      · simp [h, hj]

theorem lget_none_of_any (l : List (K × V)) (k : K) (h : l.any (fun p => decide (p.1 = k)) = false) : lget l k = none := by
  unfold lget
  simp only [Option.map_eq_none_iff, List.find?_eq_none]
  rw [List.any_eq_false] at h
  intro x hx he
  exact h x hx he

theorem lget_lput (l : List (K × V)) (k : K) (v : V) (j : K) : lget (lput l k v) j = if j = k then some v else lget l j := by
  unfold lput
  by_cases h : l.any (fun p => decide (p.1 = k)) = true
  · rw [if_pos h, lget_map_set, h]; simp
  · have h' : l.any (fun p => decide (p.1 = k)) = false := Bool.eq_false_iff.2 h
    rw [if_neg h, lget_append]
    by_cases hj : j = k
    · subst hj; simp [lget_none_of_any l j h']
    · have : ¬ k = j := fun e => hj e.symm
      simp only [if_neg hj]
      cases lget l j <;> simp [this]

theorem lget_ldel (l : List (K × V)) (k j : K) : lget (ldel l k) j = if j = k then none else lget l j := by
  induction l with
  | nil => simp [ldel, lget_nil]
  | cons q r ih =>
    unfold ldel at ih ⊢
    rw [List.filter_cons]
    by_cases h : q.1 = k
    · simp only [h, decide_true, Bool.not_true, Bool.false_eq_true, if_false, ih, lget_cons]
      by_cases hj : j = k
      · simp [hj]
      · have : ¬ k = j := fun e => hj e.symm
        simp [hj, this]
    · simp only [h, decide_false, Bool.not_false, if_true, lget_cons, ih]
      by_cases hj : j = k
      · subst hj; simp [h]
      · simp [hj]

theorem lput_keys (l : List (K × V)) (k : K) (v : V) : (lput l k v).map (·.1) = if l.any (fun p => decide (p.1 = k)) then l.map (·.1) else l.map (·.1) ++ [k] := by
  unfold lput
  split
  · rw [List.map_map]
    apply List.map_congr_left
    intro p _
    by_cases h : p.1 = k <;> simp [h]
  · simp

theorem lput_nodup {l : List (K × V)} (h : (l.map (·.1)).Nodup) (k : K) (v : V) : ((lput l k v).map (·.1)).Nodup := by
  rw [lput_keys]
  split
  · exact h
  · rename_i hn
    refine List.nodup_append.2 ⟨h, by simp, ?_⟩
    intro a ha b hb e
    simp only [List.mem_singleton] at hb
    subst hb; subst e
    obtain ⟨p, hp, he⟩ := List.mem_map.1 ha
    exact hn (List.any_eq_true.2 ⟨p, hp, by simpa using he⟩)

theorem ldel_nodup {l : List (K × V)} (h : (l.map (·.1)).Nodup) (k : K) : ((ldel l k).map (·.1)).Nodup :=
  h.sublist ((List.filter_sublist (p := fun p : K × V => !decide (p.1 = k)) (l := l)).map _)

theorem lget_mem {l : List (K × V)} {k : K} {v : V} (h : lget l k = some v) : (k, v) ∈ l := by
  unfold lget at h
  cases hf : l.find? (fun p => decide (p.1 = k)) with
  | none => rw [hf] at h; cases h
  | some p =>
    rw [hf] at h
    have h1 := List.find?_some hf
    have h2 := List.mem_of_find?_eq_some hf
    simp only [Option.map_some, Option.some.injEq] at h
    simp only [decide_eq_true_eq] at h1
    have : p = (k, v) := by cases p; simp_all
    rw [← this]; exact h2

theorem lget_of_mem {l : List (K × V)} (hn : (l.map (·.1)).Nodup) {k : K} {v : V} (h : (k, v) ∈ l) : lget l k = some v := by
  induction l with
  | nil => cases h
  | cons q r ih =>
    rw [lget_cons]
    rw [List.map_cons, List.nodup_cons] at hn
    rcases List.mem_cons.1 h with rfl | h
    · simp
    · have : q.1 ≠ k := fun e => hn.1 (by rw [e]; exact List.mem_map.2 ⟨_, h, rfl⟩)
      rw [if_neg this]; exact ih hn.2 h

/-! ### the entries of a map's block -/

def findL : List (K × Value × Nat) → K → Nat → Option (Nat × Value)
  | [], _, _ => none
  | e :: r, k, i => if e.1 = k then some (i, e.2.1) else findL r k (i + 1)

/-- What is asked of a key's type. -/
structure KeyRuns (P : Program) (kt : TypeId) (kv : K → Value) : Prop where
  check : ∀ (w : World) (em : Bool) (k : K), (Instr.checkKey em 10000 kt (kv k)).run P w = .ok () w
  find : ∀ (w : World) (k : K) (es : List (K × Value × Nat)), (Instr.findKey kt (kv k) (es.map (entOf kv))).run P w = .ok (findL es k 0) w
  stays : ∀ (w : World) (k : K), (Instr.keyThatStays (kv k) (kv k)).run P w = .ok (kv k) w

theorem findL_some {es : List (K × Value × Nat)} {k : K} {i j : Nat} {v : Value} (h : findL es k i = some (j, v)) : ∃ e, i ≤ j ∧ es[j - i]? = some e ∧ e.1 = k ∧ e.2.1 = v ∧ ∀ m, m < j - i → ∀ e', es[m]? = some e' → e'.1 ≠ k := by
  induction es generalizing i with
  | nil => cases h
  | cons q r ih =>
    unfold findL at h
    by_cases hq : q.1 = k
    · rw [if_pos hq] at h
      cases h
      exact ⟨q, Nat.le_refl _, by simp, hq, rfl, by intro m hm; omega⟩
    · rw [if_neg hq] at h
      obtain ⟨e, h1, h2, h3, h4, h5⟩ := ih h
      refine ⟨e, by omega, ?_, h3, h4, ?_⟩
      · rw [show j - i = (j - (i + 1)) + 1 from by omega, List.getElem?_cons_succ]; exact h2
      · intro m hm e' he'
        cases m with
        | zero => simp at he'; subst he'; exact hq
        | succ m => rw [List.getElem?_cons_succ] at he'; exact h5 m (by omega) e' he'

theorem findL_get (es : List (K × Value × Nat)) (k : K) (i : Nat) : (findL es k i).map (·.2) = lget (es.map pairOf) k := by
  induction es generalizing i with
  | nil => rfl
  | cons q r ih =>
    unfold findL
    rw [List.map_cons, lget_cons]
    by_cases hq : q.1 = k
    · simp [hq, pairOf]
    · rw [if_neg hq, ih]; simp [pairOf, hq]

theorem findL_none {es : List (K × Value × Nat)} {k : K} {i : Nat} (h : findL es k i = none) : ∀ e ∈ es, e.1 ≠ k := by
  induction es generalizing i with
  | nil => intro e he; cases he
  | cons q r ih =>
    unfold findL at h
    by_cases hq : q.1 = k
    · rw [if_pos hq] at h; cases h
    · rw [if_neg hq] at h
      intro e he
      rcases List.mem_cons.1 he with rfl | he
      · exact hq
      · exact ih h e he

/-- A look-up. -/
theorem MapL.look {P : Program} {w : World} {b : Nat} {kv : K → Value} {l : List (K × Value)} (h : MapL w b kv l) {kt t et : TypeId} (R : KeyRuns P kt kv) (ht : P.underlying t = some (.map kt et)) {z : Value} (hz : ∀ w, (zeroValue et).run P w = .ok z w) (k : K) (c : Bool) :
    (Instr.lookup t (.map (some b)) (kv k) c).run P w = .ok (if c then .tuple #[(lget l k).getD z, .bool (lget l k).isSome] else (lget l k).getD z) w := by
  obtain ⟨es, clock, hb, rfl, _⟩ := h
  have hg := findL_get es k 0
  cases hf : findL es k 0 with
  | none =>
    rw [hf] at hg
    simp only [Option.map_none] at hg
    rw [← hg]
    cases c <;> simp [Instr.lookup, run_underlying ht, MapKept.run_getObj_map hb, R.check, R.find, hf, Result.andThen, hz]
  | some p =>
    rw [hf] at hg
    simp only [Option.map_some] at hg
    rw [← hg]
    obtain ⟨j, v⟩ := p
    cases c <;> simp [Instr.lookup, run_underlying ht, MapKept.run_getObj_map hb, R.check, R.find, hf, Result.andThen]

/-- A look-up in no map. -/
theorem look_nil {P : Program} (w : World) {kv : K → Value} {kt t et : TypeId} (R : KeyRuns P kt kv) (ht : P.underlying t = some (.map kt et)) {z : Value} (hz : ∀ w, (zeroValue et).run P w = .ok z w) (k : K) (c : Bool) :
    (Instr.lookup t (.map none) (kv k) c).run P w = .ok (if c then .tuple #[z, .bool false] else z) w := by
  have hf := R.find w k []
  simp only [List.map_nil] at hf
  cases c <;> simp [Instr.lookup, run_underlying ht, R.check, hf, findL, Result.andThen, hz]

def setObjW (w : World) (b : Nat) (o : Obj) : World := { w with heap := w.heap.setIfInBounds b o }

theorem setObjW_fr {w : World} {b : Nat} (o : Obj) : Fr [b] w (setObjW w b o) :=
  ⟨rfl, rfl, rfl, by simp [setObjW], fun k _ hn => by
    have : b ≠ k := fun e => hn (by simp [e])
    simp [setObjW, Array.getElem?_setIfInBounds_ne this]⟩
theorem setObjW_at {w : World} {b : Nat} (hb : b < w.heap.size) (o : Obj) : (setObjW w b o).heap[b]? = some o := by
  simp [setObjW, hb]
theorem setObjW_size (w : World) (b : Nat) (o : Obj) : (setObjW w b o).heap.size = w.heap.size := by simp [setObjW]

theorem lput_of_find {es : List (K × Value × Nat)} {k : K} {j : Nat} {v0 : Value} (hn : ((es.map pairOf).map (·.1)).Nodup) (h : findL es k 0 = some (j, v0)) (v : Value) :
    ∃ e, es[j]? = some e ∧ e.1 = k ∧ (es.set j (k, v, e.2.2)).map pairOf = lput (es.map pairOf) k v ∧ j < es.length := by
  obtain ⟨e, _, h2, h3, h4, h5⟩ := findL_some h
  simp only [Nat.sub_zero] at h2 h5
  have hj : j < es.length := (List.getElem?_eq_some_iff.1 h2).1
  refine ⟨e, h2, h3, ?_, hj⟩
  have hany : (es.map pairOf).any (fun p => decide (p.1 = k)) = true := List.any_eq_true.2 ⟨pairOf e, List.mem_map.2 ⟨e, List.mem_of_getElem? h2, rfl⟩, by simp [pairOf, h3]⟩
  unfold lput
  rw [if_pos hany]
  apply List.ext_getElem?
  intro m
  rw [List.getElem?_map, List.getElem?_map, List.getElem?_map, List.getElem?_set]
  by_cases hm : j = m
  · subst hm
    obtain ⟨_, he⟩ := List.getElem?_eq_some_iff.1 h2
    simp [hj, pairOf, he, h3]
  · simp only [if_neg hm]
    cases hx : es[m]? with
    | none => simp
    | some x =>
      have hxk : x.1 ≠ k := by
        intro hxk
        have hm' : m < es.length := (List.getElem?_eq_some_iff.1 hx).1
        have e1 : ((es.map pairOf).map (·.1))[j]? = some k := by simp [h2, pairOf, h3]
        have e2 : ((es.map pairOf).map (·.1))[m]? = some k := by simp [hx, pairOf, hxk]
        have l1 : j < ((es.map pairOf).map (·.1)).length := by simpa using hj
        have := (List.getElem?_inj l1 hn).1 (e1.trans e2.symm)
        exact hm this
      simp [pairOf, hxk]

/-- A store into a map. -/
theorem MapL.store {P : Program} {w : World} {b : Nat} {kv : K → Value} {l : List (K × Value)} (h : MapL w b kv l) {kt t et : TypeId} (R : KeyRuns P kt kv) (ht : P.underlying t = some (.map kt et)) (k : K) (v : Value) :
    ∃ w', (Instr.mapUpdate t (.map (some b)) (kv k) v).run P w = .ok () w' ∧ MapL w' b kv (lput l k v) ∧ Fr [b] w w' ∧ w'.heap.size = w.heap.size := by
  obtain ⟨es, clock, hb, rfl, hd, hs, hbn⟩ := h
  have hlt := lt_of_block hb
  cases hf : findL es k 0 with
  | none =>
    refine ⟨setObjW w b (.map ((es ++ [(k, v, clock)]).map (entOf kv)).toArray (clock + 1)), ?_, ⟨es ++ [(k, v, clock)], clock + 1, setObjW_at hlt _, ?_, lput_nodup hd k v, ?_, ?_⟩, setObjW_fr _, setObjW_size _ _ _⟩
    · simp [Instr.mapUpdate, run_underlying ht, MapKept.run_getObj_map hb, R.check, R.find, hf, MapKept.run_setObj_map _ hb, Result.andThen, setObjW, entOf]
    · have : (es.map pairOf).any (fun p => decide (p.1 = k)) = false := by
        rw [List.any_eq_false]
        intro p hp
        obtain ⟨e, he, rfl⟩ := List.mem_map.1 hp
        have := findL_none hf e he
        intro hd'
        exact this (of_decide_eq_true hd')
      unfold lput
      rw [this]
      simp [pairOf]
    · intro e he
      rcases List.mem_append.1 he with he | he
      · have := hs e he; omega
      · simp at he; subst he; simp
    · rw [List.map_append]
      refine List.nodup_append.2 ⟨hbn, by simp, ?_⟩
      intro a ha c hc e
      simp at hc; subst hc; subst e
      obtain ⟨q, hq, hqe⟩ := List.mem_map.1 ha
      have := hs q hq
      omega
  | some p =>
    obtain ⟨j, v0⟩ := p
    obtain ⟨e, h2, h3, hput, hj⟩ := lput_of_find hd hf v
    refine ⟨setObjW w b (.map ((es.set j (k, v, e.2.2)).map (entOf kv)).toArray clock), ?_, ⟨es.set j (k, v, e.2.2), clock, setObjW_at hlt _, hput.symm, lput_nodup hd k v, ?_, ?_⟩, setObjW_fr _, setObjW_size _ _ _⟩
    · have he : ((es.map (entOf kv)).toArray[j]?.map (·.key)).getD (kv k) = kv k := by simp [h2, entOf, h3]
      have hmod : (es.map (entOf kv)).toArray.modify j (fun e => { e with key := kv k, val := v }) = ((es.set j (k, v, e.2.2)).map (entOf kv)).toArray := by
        apply Array.ext_getElem?
        intro m
        rw [Array.getElem?_modify]
        by_cases hm : j = m
        · subst hm
          obtain ⟨_, he⟩ := List.getElem?_eq_some_iff.1 h2
          simp [hj, entOf, he]
        · simp [hm]
      simp only [Instr.mapUpdate]
      simp [run_underlying ht, MapKept.run_getObj_map hb, R.check, R.find, hf, Result.andThen, setObjW, h2]
      have hek : (entOf kv e).key = kv k := by simp [entOf, h3]
      rw [hek, R.stays]
      simp [MapKept.run_setObj_map _ hb]
      exact congrArg (fun x => w.heap.setIfInBounds b (Obj.map x clock)) (by simpa using hmod)
    · intro x hx
      rcases List.mem_or_eq_of_mem_set hx with hx | rfl
      · exact hs x hx
      · exact hs e (List.mem_of_getElem? h2)
    · have : (es.set j (k, v, e.2.2)).map (·.2.2) = es.map (·.2.2) := by
        apply List.ext_getElem?
        intro m
        rw [List.getElem?_map, List.getElem?_map, List.getElem?_set]
        by_cases hm : j = m
        · subst hm
          obtain ⟨_, he⟩ := List.getElem?_eq_some_iff.1 h2
          simp [hj, he]
        · simp [hm]
      rw [this]; exact hbn

end

/-- What a walk is told of a slice of integers that came in: nil, or a row of 'cap' cells, the numbers zs. -/
def IsRow (k : IntKind) (w : World) (a : Option Addr) (len cap : Nat) (zs : List Int) : Prop :=
  (a = none ∧ len = 0 ∧ cap = 0 ∧ zs = []) ∨
  ∃ x, a = some x ∧ len ≤ cap ∧ cap ≤ maxLen ∧ zs.length = cap ∧ (∀ i, i < zs.length → w.cell? (x.add i) = some (.int k (zs.getD i 0))) ∧ ∀ n ∈ zs, (Lit.int k n).wf = true

/-! ### a scope with one label -/
theorem wp_skip_seq {P : Program} {Q : Exit → Act → World → Prop} {c : Code} {a : Act} {w : World} (h : c.wp P Q a w) : (Code.seq .skip c).wp P Q a w :=
  wp_seq (wp_skip h)
theorem jump_mono {l : Nat} {J J' : Act → World → Prop} {Q : Exit → Act → World → Prop} (h : ∀ a w, J a w → J' a w) (e : Exit) (a : Act) (w : World) (hq : Exit.jump l J Q e a w) : Exit.jump l J' Q e a w := by
  cases e with
  | goto l' => exact ⟨hq.1, h _ _ hq.2⟩
  | _ => exact hq

theorem wp_scope_L {P : Program} {Q : Exit → Act → World → Prop} {c body : Code} {a : Act} {w : World} (l : Nat) (J : Nat → Act → World → Prop) (hf : findLabel c l = some (.seq .skip body))
    (pass : ∀ n a w, J n a w → body.wp P (Exit.jump l (fun a' w' => ∃ m, m < n ∧ J m a' w') Q) a w)
    (first : (∀ n a w, J n a w → body.wp P (Exit.jump l (fun a' w' => ∃ m, J m a' w') Q) a w) → c.wp P (Exit.jump l (fun a' w' => ∃ m, J m a' w') Q) a w) : (Code.scope c).wp P Q a w := by
  have hp : ∀ n a w, J n a w → body.wp P (Exit.jump l (fun a' w' => ∃ m, J m a' w') Q) a w := fun n a w h =>
    Code.wp_mono (fun e a w => jump_mono (fun a w ⟨m, _, h⟩ => ⟨m, h⟩) e a w) (pass n a w h)
  have hfirst := first hp
  intro b k cs
  have hg : gotoIn l (.inScope c :: k) = some (.code (.seq .skip body) :: .inScope c :: k) := by simp [gotoIn, hf]
  have key : ∀ n a w, J n a w → ∃ e a' w', Q e a' w' ∧ Arrives P (lone (b.at a (.code (.seq .skip body) :: .inScope c :: k)) cs w) b k cs e a' w' := by
    intro n
    induction n using Nat.strongRecOn with
    | _ n ih =>
      intro a w hJ
      obtain ⟨e, a₁, w₁, hq, harr⟩ := wp_skip_seq (pass n a w hJ) b (.inScope c :: k) cs
      cases e with
      | normal => exact ⟨.normal, a₁, w₁, hq, Steps.trans harr (.one step_inScope)⟩
      | exit id => exact ⟨.exit id, a₁, w₁, hq, fun k' hk => harr k' (by simp [exitTo, hk])⟩
      | goto l' =>
        obtain ⟨rfl, m, hlt, hJ'⟩ := hq
        obtain ⟨e₂, a₂, w₂, hq₂, harr₂⟩ := ih m hlt a₁ w₁ hJ'
        exact ⟨e₂, a₂, w₂, hq₂, .of_steps (harr _ hg) harr₂⟩
      | ret => exact ⟨_, a₁, w₁, hq, harr⟩
      | panic ch => exact ⟨_, a₁, w₁, hq, harr⟩
      | outgrown => exact ⟨_, a₁, w₁, hq, harr⟩
  obtain ⟨e, a₁, w₁, hq, harr⟩ := hfirst b (.inScope c :: k) cs
  cases e with
  | normal => exact ⟨.normal, a₁, w₁, hq, .head step_scope (Steps.trans harr (.one step_inScope))⟩
  | exit id => exact ⟨.exit id, a₁, w₁, hq, fun k' hk => .head step_scope (harr k' (by simp [exitTo, hk]))⟩
  | goto l' =>
    obtain ⟨rfl, m, hJ'⟩ := hq
    obtain ⟨e₂, a₂, w₂, hq₂, harr₂⟩ := key m a₁ w₁ hJ'
    exact ⟨e₂, a₂, w₂, hq₂, .of_steps (.head step_scope (harr _ hg)) harr₂⟩
  | ret => exact ⟨_, a₁, w₁, hq, .of_steps (.one step_scope) harr⟩
  | panic ch => exact ⟨_, a₁, w₁, hq, .of_steps (.one step_scope) harr⟩
  | outgrown => exact ⟨_, a₁, w₁, hq, .of_steps (.one step_scope) harr⟩

end Go.Proofs.Ythdmgjkipiaccaa
