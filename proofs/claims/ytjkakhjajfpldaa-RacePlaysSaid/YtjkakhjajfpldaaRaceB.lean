/-
  Package race: what a watch is in memory, and its methods: each does what a function on plain lists does.
-/
import Derived.Test.YtjkakhjajfpldaaRaceA
import Derived.Deep.RegionHeld3
import Derived.Deep.RegionWith
namespace Go.Proofs.Ytjkakhjajfpldaa
open Go.RowKit

/-! ### a watch, as lists -/
structure St where
  th : List (List Int)
  ends : List (Int × List Int)
  locks : List (Int × List Int)
  words : List ((Int × Int) × List Int)
  reads : List (((Int × Int) × Int) × List Int)
  writes : List (((Int × Int) × Int) × List Int)
  races : Int

def bump (c : List Int) (t : Nat) : List Int := c.set t (wrap64 (c.getD t 0 + 1))
def St.tick (s : St) (t : Nat) : St := { s with th := s.th.set t (bump (joinL (s.th.getD t []) []) t) }
def St.begins (s : St) (t by_ : Int) : St :=
  if inB t = true ∧ by_ ≠ 0 ∧ inB by_ = true then ({ s with th := s.th.set t.toNat (joinL (s.th.getD t.toNat []) (s.th.getD by_.toNat [])) }).tick by_.toNat else s
def St.endT (s : St) (t : Int) : St := if inB t = true then { s with ends := lput s.ends t (s.th.getD t.toNat []) } else s

/-! ### maps of clocks -/
section
variable {K : Type}
def CMap (w : World) (b : Nat) (kv : K → Value) (m : List (K × List Int)) : Prop :=
  ∃ l : List (K × Value), MapL w b kv l ∧ l.map (·.1) = m.map (·.1) ∧ ∀ i (h : i < l.length) (h' : i < m.length), Clk w l[i].2 m[i].2

theorem CMap.lt {w : World} {b : Nat} {kv : K → Value} {m : List (K × List Int)} (h : CMap w b kv m) : b < w.heap.size := by
  obtain ⟨l, h, _⟩ := h; exact h.lt
theorem CMap.keep {S : List Nat} {w w' : World} {b : Nat} {kv : K → Value} {m : List (K × List Int)} (h : CMap w b kv m) (f : Fr S w w') (hn : b ∉ S) (hS : NoInts w S) : CMap w' b kv m := by
  obtain ⟨l, h1, h2, h3⟩ := h
  exact ⟨l, h1.keep f hn, h2, fun i h h' => (h3 i h h').keep f hS⟩
theorem CMap.made (w : World) (kv : K → Value) : CMap (w.alloc (.map #[] 0)) w.heap.size kv ([] : List (K × List Int)) :=
  ⟨[], MapL.made w kv, rfl, fun i h => by simp at h⟩
theorem CMap.isMap {w : World} {b : Nat} {kv : K → Value} {m : List (K × List Int)} (h : CMap w b kv m) : ∃ es c, w.heap[b]? = some (.map es c) := by
  obtain ⟨l, ⟨es, c, hb, _⟩, _⟩ := h; exact ⟨_, c, hb⟩

variable [DecidableEq K]
theorem clk_pairs {w : World} : ∀ (l : List (K × Value)) (m : List (K × List Int)), l.map (·.1) = m.map (·.1) → (∀ i (h : i < l.length) (h' : i < m.length), Clk w l[i].2 m[i].2) → ∀ k,
    (lget l k = none ∧ lget m k = none) ∨ ∃ v c, lget l k = some v ∧ lget m k = some c ∧ Clk w v c
  | [], [], _, _, k => Or.inl ⟨rfl, rfl⟩
  | p :: l, q :: m, hk, hc, k => by
    rw [lget_cons, lget_cons]
    simp only [List.map_cons, List.cons.injEq] at hk
    by_cases h : p.1 = k
    · have h' : q.1 = k := hk.1.symm.trans h
      rw [if_pos h, if_pos h']
      exact Or.inr ⟨_, _, rfl, rfl, hc 0 (by simp) (by simp)⟩
    · have h' : ¬ q.1 = k := fun e => h (hk.1.trans e)
      rw [if_neg h, if_neg h']
      exact clk_pairs l m hk.2 (fun i h1 h2 => hc (i + 1) (by simpa using h1) (by simpa using h2)) k
  | [], _ :: _, hk, _, _ => by simp at hk
  | _ :: _, [], hk, _, _ => by simp at hk

theorem clk_put {w : World} {l : List (K × Value)} {m : List (K × List Int)} (hk : l.map (·.1) = m.map (·.1)) (hc : ∀ i (h : i < l.length) (h' : i < m.length), Clk w l[i].2 m[i].2) (k : K) {v : Value} {c : List Int} (hv : Clk w v c) :
    (lput l k v).map (·.1) = (lput m k c).map (·.1) ∧ ∀ i (h : i < (lput l k v).length) (h' : i < (lput m k c).length), Clk w (lput l k v)[i].2 (lput m k c)[i].2 := by
  have hlen : l.length = m.length := by have := congrArg List.length hk; simpa using this
  have hany : ∀ (l : List (K × Value)) (m : List (K × List Int)), l.map (·.1) = m.map (·.1) → l.any (fun p => decide (p.1 = k)) = m.any (fun p => decide (p.1 = k)) := by
    intro l
    induction l with
    | nil => intro m h; cases m with | nil => rfl | cons _ _ => simp at h
    | cons p l ih =>
      intro m h
      cases m with
      | nil => simp at h
      | cons q m =>
        simp only [List.map_cons, List.cons.injEq] at h
        rw [List.any_cons, List.any_cons, ih m h.2, h.1]
  have ha := hany l m hk
  refine ⟨by rw [lput_keys, lput_keys, ha, hk], ?_⟩
  intro i h h'
  have hki : ∀ (h1 : i < l.length) (h2 : i < m.length), l[i].1 = m[i].1 := by
    intro h1 h2
    have e := congrArg (fun x => x[i]?) hk
    simp only [List.getElem?_map, List.getElem?_eq_getElem h1, List.getElem?_eq_getElem h2, Option.map_some, Option.some.injEq] at e
    exact e
  unfold lput at h h' ⊢
  by_cases hx : m.any (fun p => decide (p.1 = k)) = true
  · have hx' : l.any (fun p => decide (p.1 = k)) = true := by rw [ha]; exact hx
    simp only [hx, hx', if_true, List.length_map] at h h' ⊢
    simp only [List.getElem_map]
    by_cases e : l[i].1 = k
    · have e' : m[i].1 = k := (hki h h').symm.trans e
      simp only [e, e', if_true]; exact hv
    · have e' : ¬ m[i].1 = k := fun x => e ((hki h h').trans x)
      simp only [e, e', if_false]; exact hc i h h'
  · have hx1 : m.any (fun p => decide (p.1 = k)) = false := Bool.eq_false_iff.2 hx
    have hx' : l.any (fun p => decide (p.1 = k)) = false := by rw [ha]; exact hx1
    simp only [hx1, hx', Bool.false_eq_true, if_false, List.length_append, List.length_cons, List.length_nil] at h h' ⊢
    by_cases e : i < l.length
    · rw [List.getElem_append_left e, List.getElem_append_left (by omega)]; exact hc i e (by omega)
    · have : i = l.length := by omega
      subst this
      rw [List.getElem_append_right (Nat.le_refl _), List.getElem_append_right (by omega)]
      simpa [hlen] using hv

theorem CMap.look {P : Program} {w : World} {b : Nat} {kv : K → Value} {m : List (K × List Int)} (h : CMap w b kv m) {kt t et : TypeId} (R : KeyRuns P kt kv) (ht : P.underlying t = some (.map kt et)) (hz : ∀ w, (zeroValue et).run P w = .ok (.slice none 0 0) w) (k : K) (c : Bool) :
    ∃ v, (Instr.lookup t (.map (some b)) (kv k) c).run P w = .ok (if c then .tuple #[v, .bool (lget m k).isSome] else v) w ∧ Clk w v ((lget m k).getD []) := by
  obtain ⟨l, h1, h2, h3⟩ := h
  have hl := h1.look R ht hz k c
  rcases clk_pairs l m h2 h3 k with ⟨e1, e2⟩ | ⟨v, cl, e1, e2, e3⟩
  · rw [e1] at hl; rw [e2]
    exact ⟨_, hl, Clk.nil w⟩
  · rw [e1] at hl; rw [e2]
    exact ⟨v, hl, e3⟩

theorem CMap.store {P : Program} {w : World} {b : Nat} {kv : K → Value} {m : List (K × List Int)} (h : CMap w b kv m) {kt t et : TypeId} (R : KeyRuns P kt kv) (ht : P.underlying t = some (.map kt et)) (k : K) {v : Value} {c : List Int} (hv : Clk w v c) :
    ∃ w', (Instr.mapUpdate t (.map (some b)) (kv k) v).run P w = .ok () w' ∧ CMap w' b kv (lput m k c) ∧ Fr [b] w w' ∧ w'.heap.size = w.heap.size := by
  have hnb : NoInts w [b] := by
    intro x hx cs fr e
    obtain ⟨es, c, hb⟩ := h.isMap
    simp only [List.mem_singleton] at hx; subst hx
    rw [hb] at e; cases e
  obtain ⟨l, h1, h2, h3⟩ := h
  obtain ⟨w', hr, hm, hf, hs⟩ := h1.store R ht k v
  obtain ⟨g1, g2⟩ := clk_put h2 h3 k hv
  exact ⟨w', hr, ⟨_, hm, g1, fun i a b => (g2 i a b).keep hf hnb⟩, hf, hs⟩
end

/-! ### a watch in memory -/
structure Ptrs where
  b : Nat
  e : Nat
  l : Nat
  wd : Nat
  rd : Nat
  wr : Nat
def Ptrs.S (p : Ptrs) : List Nat := [p.b, p.e, p.l, p.wd, p.rd, p.wr]

def wcells (ts : List Value) (p : Ptrs) (n : Int) : Array Value := (ts ++ [Value.map (some p.e), Value.map (some p.l), Value.map (some p.wd), Value.map (some p.rd), Value.map (some p.wr), Value.int .i64 n]).toArray

structure Watch (w : World) (p : Ptrs) (s : St) : Prop where
  blk : ∃ ts : List Value, ts.length = 13 ∧ s.th.length = 13 ∧ w.heap[p.b]? = some (.cells (wcells ts p s.races) 62 (0, 0)) ∧ ∀ i, i < 13 → Clk w (ts.getD i undef) (s.th.getD i [])
  ends : CMap w p.e intK s.ends
  locks : CMap w p.l intK s.locks
  words : CMap w p.wd wordK s.words
  reads : CMap w p.rd accK s.reads
  writes : CMap w p.wr accK s.writes
  nodup : [p.e, p.l, p.wd, p.rd, p.wr].Nodup

theorem Watch.lt {w : World} {p : Ptrs} {s : St} (h : Watch w p s) : ∀ x ∈ p.S, x < w.heap.size := by
  obtain ⟨ts, _, _, hb, _⟩ := h.blk
  intro x hx
  simp only [Ptrs.S, List.mem_cons, List.not_mem_nil, or_false] at hx
  rcases hx with rfl | rfl | rfl | rfl | rfl | rfl
  · exact lt_of_block hb
  · exact h.ends.lt
  · exact h.locks.lt
  · exact h.words.lt
  · exact h.reads.lt
  · exact h.writes.lt

theorem NoInts.of_map {w : World} {b : Nat} (h : ∃ es c, w.heap[b]? = some (.map es c)) : NoInts w [b] := by
  obtain ⟨es, c, hb⟩ := h
  intro x hx cs fr e
  simp only [List.mem_singleton] at hx; subst hx
  rw [hb] at e; cases e

theorem Watch.noInts {w : World} {p : Ptrs} {s : St} (h : Watch w p s) : NoInts w p.S := by
  obtain ⟨ts, _, _, hb, _⟩ := h.blk
  intro x hx
  simp only [Ptrs.S, List.mem_cons, List.not_mem_nil, or_false] at hx
  rcases hx with rfl | rfl | rfl | rfl | rfl | rfl
  · intro cs fr e; rw [hb] at e; simp at e
  · exact NoInts.of_map h.ends.isMap _ (by simp)
  · exact NoInts.of_map h.locks.isMap _ (by simp)
  · exact NoInts.of_map h.words.isMap _ (by simp)
  · exact NoInts.of_map h.reads.isMap _ (by simp)
  · exact NoInts.of_map h.writes.isMap _ (by simp)

/-- a watch stays while other blocks turn -/
theorem Watch.keep {S : List Nat} {w w' : World} {p : Ptrs} {s : St} (h : Watch w p s) (f : Fr S w w') (hn : ∀ x ∈ p.S, x ∉ S) (hS : NoInts w S) : Watch w' p s := by
  obtain ⟨ts, h1, h2, hb, hc⟩ := h.blk
  refine ⟨⟨ts, h1, h2, f.obj hb (hn _ (by simp [Ptrs.S])), fun i hi => (hc i hi).keep f hS⟩, h.ends.keep f (hn _ (by simp [Ptrs.S])) hS, h.locks.keep f (hn _ (by simp [Ptrs.S])) hS, h.words.keep f (hn _ (by simp [Ptrs.S])) hS, h.reads.keep f (hn _ (by simp [Ptrs.S])) hS, h.writes.keep f (hn _ (by simp [Ptrs.S])) hS, h.nodup⟩
theorem Watch.keep0 {w w' : World} {p : Ptrs} {s : St} (h : Watch w p s) (f : Fr [] w w') : Watch w' p s := h.keep f (by simp) (NoInts.nil w)
theorem Watch.drew {w : World} {p : Ptrs} {s : St} (h : Watch w p s) : Watch w.drew p s := h.keep0 (Fr.refl _ _).drew
theorem Watch.drewN {w : World} {p : Ptrs} {s : St} (h : Watch w p s) (n : Nat) : Watch (w.drewN n) p s := h.keep0 ((Fr.refl _ _).drewN n)

/-- the cell of a thread's clock -/
theorem Watch.thread {w : World} {p : Ptrs} {s : St} (h : Watch w p s) (t : Nat) (ht : t < 13) : ∃ v, w.cell? ⟨p.b, t, none⟩ = some v ∧ Clk w v (s.th.getD t []) := by
  obtain ⟨ts, h1, h2, hb, hc⟩ := h.blk
  refine ⟨ts.getD t undef, ?_, hc t ht⟩
  rw [cell_of_row _ _ _ _ _ _ hb]
  simp [wcells, List.getElem?_append, h1, ht, List.getD]
theorem Watch.cells {w : World} {p : Ptrs} {s : St} (h : Watch w p s) : w.cell? ⟨p.b, 13, none⟩ = some (.map (some p.e)) ∧ w.cell? ⟨p.b, 14, none⟩ = some (.map (some p.l)) ∧ w.cell? ⟨p.b, 15, none⟩ = some (.map (some p.wd)) ∧
    w.cell? ⟨p.b, 16, none⟩ = some (.map (some p.rd)) ∧ w.cell? ⟨p.b, 17, none⟩ = some (.map (some p.wr)) ∧ w.cell? ⟨p.b, 18, none⟩ = some (.int .i64 s.races) := by
  obtain ⟨ts, h1, h2, hb, hc⟩ := h.blk
  simp only [cell_of_row _ _ _ _ _ _ hb]
  simp [wcells, h1]
theorem Watch.free {w : World} {p : Ptrs} {s : St} (h : Watch w p s) (t : Nat) : w.frozen? ⟨p.b, t, none⟩ = false := by
  obtain ⟨ts, h1, h2, hb, hc⟩ := h.blk
  exact frozen_of_row _ _ _ _ _ hb

theorem Watch.frSet {w : World} {p : Ptrs} (t : Nat) (v : Value) : Fr [p.b] w (w.setCell ⟨p.b, t, none⟩ v) := (Fr.refl _ _).setCell (Or.inl (by simp)) _

theorem Watch.others {w w' : World} {p : Ptrs} {s : St} (h : Watch w p s) (f : Fr [p.b] w w') : CMap w' p.e intK s.ends ∧ CMap w' p.l intK s.locks ∧ CMap w' p.wd wordK s.words ∧ CMap w' p.rd accK s.reads ∧ CMap w' p.wr accK s.writes := by
  have hS : NoInts w [p.b] := fun x hx => h.noInts x (by simp only [List.mem_singleton] at hx; simp [Ptrs.S, hx])
  obtain ⟨ts, _, _, hb, _⟩ := h.blk
  have ne : ∀ {x : Nat}, (∃ es c, w.heap[x]? = some (.map es c)) → x ∉ [p.b] := by
    intro x ⟨es, c, hx⟩ hm
    simp only [List.mem_singleton] at hm; subst hm
    rw [hb] at hx; cases hx
  exact ⟨h.ends.keep f (ne h.ends.isMap) hS, h.locks.keep f (ne h.locks.isMap) hS, h.words.keep f (ne h.words.isMap) hS, h.reads.keep f (ne h.reads.isMap) hS, h.writes.keep f (ne h.writes.isMap) hS⟩

/-- a thread's clock is set -/
theorem Watch.set {w : World} {p : Ptrs} {s : St} (h : Watch w p s) (t : Nat) (ht : t < 13) {v : Value} {c : List Int} (hv : Clk w v c) : Watch (w.setCell ⟨p.b, t, none⟩ v) p { s with th := s.th.set t c } := by
  have f := Watch.frSet (w := w) (p := p) t v
  have hS : NoInts w [p.b] := fun x hx => h.noInts x (by simp only [List.mem_singleton] at hx; simp [Ptrs.S, hx])
  obtain ⟨o1, o2, o3, o4, o5⟩ := h.others f
  obtain ⟨ts, h1, h2, hb, hc⟩ := h.blk
  refine ⟨⟨ts.set t v, by simpa using h1, by simpa using h2, ?_, ?_⟩, o1, o2, o3, o4, o5, h.nodup⟩
  · rw [heap_setCell_same _ _ _ _ _ _ hb]
    have : (wcells ts p s.races).setIfInBounds t v = wcells (ts.set t v) p s.races := by
      simp [wcells, List.setIfInBounds_toArray, h1, ht]
    rw [this]
  · intro i hi
    by_cases e : t = i
    · subst e; simpa [List.getD, h1, h2, hi] using hv.keep f hS
    · have := (hc i hi).keep f hS
      simpa [List.getD, List.getElem?_set, e] using this

theorem Watch.setRaces {w : World} {p : Ptrs} {s : St} (h : Watch w p s) (n : Int) : Watch (w.setCell ⟨p.b, 18, none⟩ (.int .i64 n)) p { s with races := n } := by
  have f := Watch.frSet (w := w) (p := p) 18 (.int .i64 n)
  have hS : NoInts w [p.b] := fun x hx => h.noInts x (by simp only [List.mem_singleton] at hx; simp [Ptrs.S, hx])
  obtain ⟨o1, o2, o3, o4, o5⟩ := h.others f
  obtain ⟨ts, h1, h2, hb, hc⟩ := h.blk
  refine ⟨⟨ts, h1, h2, ?_, fun i hi => (hc i hi).keep f hS⟩, o1, o2, o3, o4, o5, h.nodup⟩
  rw [heap_setCell_same _ _ _ _ _ _ hb]
  have : (wcells ts p s.races).setIfInBounds 18 (.int .i64 n) = wcells ts p n := by
    simp [wcells, List.setIfInBounds_toArray, h1]
  rw [this]

end Go.Proofs.Ytjkakhjajfpldaa
