/-
  Package gc: reached.
-/
import Derived.Test.YtgakkkifohkikaaGcP
import Derived.Test.YtgakkkifohkikaaKeys
import Derived.Test.YtgakkkifohkikaaHeapD
namespace Go.Proofs.Ytgakkkifohkikaa
open Go.RowKit

/-! ### slices of ints: without the last one; two of them joined -/
theorem RI.cut {w : World} {v : Value} {l : List Int} {x : Int} (h : RI w v (l ++ [x])) : ∃ b cap, v = .slice (some ⟨b, 0, none⟩) (l.length + 1) cap ∧ l.length + 1 ≤ cap ∧ cap ≤ maxLen ∧ RI w (.slice (some ⟨b, 0, none⟩) l.length cap) l ∧ w.cell? ⟨b, l.length, none⟩ = some (.int .i64 x) := by
  obtain ⟨b, cap, e, hc⟩ := h.cell l.length (by simp)
  rcases RV.parts h with ⟨_, h0, _⟩ | ⟨b', cap', cur, e', hh, hl, hc', hs, ht⟩
  · simp at h0
  · rw [e] at e'
    cases e'
    rw [List.length_append, List.length_singleton] at e hl
    refine ⟨b, cap, e, hl, hc', RV.mk hh (by omega) hc' hs ?_, ?_⟩
    · rw [List.length_append, List.length_singleton] at ht
      have e2 := congrArg (List.take l.length) ht
      rw [List.take_take, Nat.min_eq_left (by omega), List.map_append, List.take_left' (by simp)] at e2
      rw [Nat.mul_one]; exact e2
    · rw [hc]
      simp [List.getD]
theorem RI.snoc {l : List Int} (h : l.length ≠ 0) : ∃ r x, l = r ++ [x] := by
  rcases List.eq_nil_or_concat l with rfl | ⟨r, x, rfl⟩
  · simp at h
  · exact ⟨r, x, by simp⟩
section
variable {P : Program} {w : World}
theorem run_append_two (t e : TypeId) (i : TypeInfo) (z : Value) (k bytes : Nat) (ht : P.underlying t = some (.slice e)) (hi : P.info? e = some i) (hz : i.zero = some z)
    (hsize : i.size = k) (hby : i.bytes = bytes) (hzs : z.cells.size = k) (hk : 0 < k) (v : Value) (n : Nat) (xs : List Value) (hown : RV w e k v n xs)
    (x : Value) (m : Nat) (news : List Value) (hx : RV w e k x m news) (h1 : ∀ u ∈ news, u.oneCell' = true)
    (h63 : n + m ≤ maxLen) (hbytes : (n + m) * bytes ≤ 140737488355328) (ty : TypeId) :
    ∃ v' w', (Builtin.append_ #[t, t] ty #[v, x]).run P w = .ok v' w' ∧ RV w' e k v' (n + m) (xs ++ news) ∧ Fr (fpv v) w w' ∧ ∀ b ∈ fpv v', b ∈ fpv v ∨ w.heap.size ≤ b := by
  rcases hx.parts with ⟨rfl, rfl, rfl⟩ | ⟨b, cap, cur, rfl, hh, hl, hc, hs, ht'⟩
  · refine ⟨v, w, ?_, by rw [List.append_nil]; exact hown, Fr.refl _ _, fun b hb => .inl hb⟩
    obtain ⟨a, c, rfl, hl, hc⟩ := hown.form
    have hle : n + 0 ≤ c := by omega
    cases a <;> simp [Builtin.append_, run_underlying ht, sizeOf, typeInfo, hi, Builtin.lenOf, Builtin.firstCells, storeCells, Result.andThen, hl]
  · refine run_append_rv t e i z k bytes ht hi hz hsize hby hzs hk v n xs hown ⟨b, 0, none⟩ m news hx.len (fun j u hj => ?_) h1 h63 hbytes ty cap
    obtain ⟨b', cap', e', h2, _⟩ := hx.cell j (by have := (List.getElem?_eq_some_iff.1 hj).1; rw [hx.len] at this; exact this)
    cases e'
    rw [Addr.add_lit, Nat.zero_add, h2, List.getD, hj]; rfl
end
theorem wp_append_ri {w : World} {ops : Array Oper} {rest : List Oper} {o : Oper} {a : Act} {Q : Exit → Act → World → Prop} (hgd : o.guard = none) (s x : Operand)
    (ho : o.op = .call { callee := .builtin .append, args := #[s, x], argTypes := #[31, 31] }) (v u : Value) (l m : List Int) (hs : a.eval s = v) (hv : RI w v l) (hx : a.eval x = u) (hu : RI w u m)
    (hl : l.length + m.length ≤ 1000000)
    (h : ∀ a' c' w', RI w' (.slice a' (l.length + m.length) c') (l ++ m) → Fr (fpv v) w w' → (∀ b ∈ fpv (.slice a' (l.length + m.length) c'), b ∈ fpv v ∨ w.heap.size ≤ b) → wpList Try.prog ops Q rest (a.put o.dst (.slice a' (l.length + m.length) c')) w') :
    wpList Try.prog ops Q (o :: rest) a w := by
  obtain ⟨i0, hi0, hz0, hzs, hzb⟩ := info_parts info_Int
  obtain ⟨v', w', hr, h2, h3, h4⟩ := run_append_two 31 3 i0 (.int .i64 0) 1 8 Try.underlying31 hi0 hz0 hzs hzb rfl (by decide) v l.length _ hv u m.length _ hu (fun u hu => by obtain ⟨y, _, rfl⟩ := List.mem_map.1 hu; rfl) (by unfold maxLen; omega) (by omega) o.type
  obtain ⟨a', c', rfl, _, _⟩ := h2.form
  refine wpBi .append Builtin.append_ bi_append hgd s x _ _ ho v _ hs hx hr (h _ _ _ ?_ h3 h4)
  unfold RI
  rw [List.length_append, List.map_append]
  exact h2

/-! ### the function that tells an object's references -/
def CloPost (C : List Int → World → List Nat → Prop) (w : World) (O : List Nat) (s : List Int) (r : List Int) (e : Ending) (w' : World) : Prop :=
  ∃ v O', e = .returned v ∧ RI w' v r ∧ C s w' O' ∧ Fr O w w' ∧ (∀ b ∈ O', b ∈ O ∨ w.heap.size ≤ b) ∧ ∀ b ∈ fpv v, w.heap.size ≤ b ∧ b ∉ O'
/-- function f over what it captured (cp) tells R a at each object a of L; C s w O: it was asked for s, its own blocks are O -/
structure Clo (f : Nat) (cp : Array Value) (L : List Ob) (R : Int → List Int) (C : List Int → World → List Nat → Prop) : Prop where
  en : Enters Try.prog f
  keep : ∀ {s w w' S O}, C s w O → Fr S w w' → (∀ b ∈ O, b ∉ S) → C s w' O
  lt : ∀ {s w O}, C s w O → ∀ b ∈ O, b < w.heap.size
  call : ∀ {s w O} (a : Int), has L a = true → s.length ≤ 100000 → C s w O → Calls Try.prog f (#[.int .i64 a] ++ cp) w (CloPost C w O (s ++ [a]) (R a))

theorem unit_zero (w : World) : (zeroValue 101).run Try.prog w = .ok (.agg #[]) w := by kernel_rfl
theorem ik_keys : KeyRuns Try.prog 3 intK := keyRuns_int (by kernel_rfl)
theorem und_met : Try.prog.underlying 99 = some (.map 3 101) := by kernel_rfl
def metL (l : List Int) : List (Int × Value) := l.map (fun a => (a, .agg #[]))
theorem metL_get (l : List Int) (a : Int) : lget (metL l) a = if a ∈ l then some (.agg #[]) else none := by
  induction l with
  | nil => rfl
  | cons x r ih =>
    unfold metL at *
    rw [List.map_cons, lget_cons, ih]
    by_cases h : x = a
    · subst h; simp
    · rw [if_neg h]
      have h' : ¬ a = x := fun e => h e.symm
      simp [h']
theorem metL_put (l : List Int) (a : Int) (h : a ∉ l) : lput (metL l) a (.agg #[]) = metL (l ++ [a]) := by
  have hf : (metL l).any (fun p => decide (p.1 = a)) = false := by
    rw [List.any_eq_false]
    intro p hp
    obtain ⟨x, hx, rfl⟩ := List.mem_map.1 hp
    simp only [decide_eq_true_eq]
    intro e
    exact h (e ▸ hx)
  unfold lput
  rw [hf]
  simp [metL]

/-- where the search stands -/
structure GoW (C : List Int → World → List Nat → Prop) (L : List Ob) (roots : List Int) (R : Int → List Int) (w : World) (O : List Nat) (s : List Int) (B mb : Nat) (wr : World) (vs : Value) (met stack : List Int) : Prop where
  cl : ∃ O', C (s ++ met) wr O' ∧ (∀ b ∈ O', b ∈ O ∨ w.heap.size ≤ b) ∧ mb ∉ O' ∧ ∀ b ∈ fpv vs, b ∉ O'
  fr : Fr O w wr
  mp : MapL wr mb intK (metL met)
  sl : RI wr vs stack
  nw : ∀ b ∈ fpv vs, w.heap.size ≤ b ∧ b ≠ mb
  go : Going L roots R met stack
  le : stack.length ≤ roots.length + met.length * B
def ReachPost (C : List Int → World → List Nat → Prop) (L : List Ob) (roots : List Int) (R : Int → List Int) (w : World) (O : List Nat) (s : List Int) (e : Ending) (w' : World) : Prop :=
  ∃ mb met O', e = .returned (.map (some mb)) ∧ MapL w' mb intK (metL met) ∧ met.Nodup ∧ (∀ a, a ∈ met ↔ Reach L roots R a) ∧ C (s ++ met) w' O' ∧ Fr O w w' ∧ (∀ b ∈ O', b ∈ O ∨ w.heap.size ≤ b) ∧ mb ∉ O' ∧ w.heap.size ≤ mb
def goMeasure (L : List Ob) (B : Nat) (met stack : List Int) : Nat := (L.length - met.length) * (B + 1) + stack.length
theorem Going.len {L : List Ob} {roots : List Int} {R : Int → List Int} {met stack : List Int} (h : Going L roots R met stack) : met.length ≤ L.length := met_len h.nd (fun a ha => (h.re a ha).has)
theorem goMeasure_meet {L : List Ob} {roots : List Int} {R : Int → List Int} {met stack : List Int} {a : Int} {B : Nat} (h : Going L roots R (met ++ [a]) (stack ++ R a)) (hB : (R a).length ≤ B) : goMeasure L B (met ++ [a]) (stack ++ R a) < goMeasure L B met (stack ++ [a]) := by
  have h1 := h.len
  unfold goMeasure
  rw [List.length_append, List.length_singleton] at h1
  rw [List.length_append, List.length_append, List.length_append]
  simp only [List.length_cons, List.length_nil, Nat.zero_add]
  obtain ⟨d, hd⟩ : ∃ d, L.length - met.length = d + 1 := ⟨L.length - met.length - 1, by omega⟩
  rw [hd, show L.length - (met.length + 1) = d by omega, Nat.succ_mul]
  omega
theorem goMeasure_skip (L : List Ob) (met stack : List Int) (a : Int) (B : Nat) : goMeasure L B met stack < goMeasure L B met (stack ++ [a]) := by
  unfold goMeasure
  rw [List.length_append, List.length_singleton]
  omega

theorem clsV_two (L : List Ob) (a : Int) : (has L a = true ∧ ∃ c, clsV L a = .tuple #[.int .i64 c, .int .i64 0]) ∨ (has L a = false ∧ clsV L a = .tuple #[.int .i64 0, .int .i64 111]) := by
  unfold clsV
  cases hf : arFind L a with
  | none => exact .inr ⟨has_none hf, rfl⟩
  | some o => exact .inl ⟨has_some hf, _, rfl⟩
theorem GoW.skip {C : List Int → World → List Nat → Prop} {L : List Ob} {roots : List Int} {R : Int → List Int} {w : World} {O : List Nat} {s : List Int} {B mb : Nat} {wr wr' : World} {b cap k : Nat} {met st : List Int} {a : Int} {f : Nat} {cp : Array Value}
    (K : Clo f cp L R C) (h : GoW C L roots R w O s B mb wr (.slice (some ⟨b, 0, none⟩) (k + 1) cap) met (st ++ [a])) (hs : RI wr (.slice (some ⟨b, 0, none⟩) k cap) st) (ha : a ∈ met ∨ has L a = false) (f : Fr [] wr wr') :
    GoW C L roots R w O s B mb wr' (.slice (some ⟨b, 0, none⟩) k cap) met st := by
  obtain ⟨O', c1, c2, c3, c4⟩ := h.cl
  refine ⟨⟨O', K.keep c1 f (by simp), c2, c3, c4⟩, h.fr.tr0 f, h.mp.keep f (by simp), RV.keep0 hs f, h.nw, h.go.skip ha, ?_⟩
  have := h.le
  rw [List.length_append, List.length_singleton] at this
  omega

section
variable {C : List Int → World → List Nat → Prop} {L : List Ob} {roots : List Int} {R : Int → List Int} {w : World} {O O' O5 : List Nat} {s : List Int} {B mb : Nat} {wk w3 w4 w5 w6 : World} {b cap k : Nat} {met st : List Int} {a : Int} {f : Nat} {cp : Array Value}
theorem GoW.stack (h : GoW C L roots R w O s B mb wk (.slice (some ⟨b, 0, none⟩) (k + 1) cap) met (st ++ [a])) (hs : RI wk (.slice (some ⟨b, 0, none⟩) k cap) st) (f3 : Fr [] wk w3) (f4 : Fr [mb] w3 w4) (f5 : Fr O' w4 w5)
    (c4 : ∀ x ∈ fpv (.slice (some ⟨b, 0, none⟩) (k + 1) cap), x ∉ O') : RI w5 (.slice (some ⟨b, 0, none⟩) k cap) st := by
  have hb : b ∈ fpv (.slice (some ⟨b, 0, none⟩) (k + 1) cap) := by simp [fpv, Value.ownBlock]
  have e : ∀ x ∈ fpv (.slice (some ⟨b, 0, none⟩) k cap), x = b := fun x hx => by simpa [fpv, Value.ownBlock] using hx
  refine ((RV.keep0 hs f3).keep f4 (fun x hx hm => ?_)).keep f5 (fun x hx hm => ?_)
  · rw [e x hx] at hm; exact (h.nw b hb).2 (List.mem_singleton.1 hm)
  · rw [e x hx] at hm; exact c4 b hb hm
theorem GoW.meet (K : Clo f cp L R C) (h : GoW C L roots R w O s B mb wk (.slice (some ⟨b, 0, none⟩) (k + 1) cap) met (st ++ [a])) (f3 : Fr [] wk w3) (f4 : Fr [mb] w3 w4) (hm : MapL w4 mb intK (lput (metL met) a (.agg #[])))
    (c2 : ∀ x ∈ O', x ∈ O ∨ w.heap.size ≤ x) (c3 : mb ∉ O') (c4 : ∀ x ∈ fpv (.slice (some ⟨b, 0, none⟩) (k + 1) cap), x ∉ O')
    (c5 : C (s ++ met ++ [a]) w5 O5) (f5 : Fr O' w4 w5) (n5 : ∀ x ∈ O5, x ∈ O' ∨ w4.heap.size ≤ x) (hn : a ∉ met) (hh : has L a = true) (hB : (R a).length ≤ B) (hmb : w.heap.size ≤ mb)
    {v6 : Value} (hs : RI w6 v6 (st ++ R a)) (f6 : Fr (fpv (.slice (some ⟨b, 0, none⟩) k cap)) w5 w6) (n6 : ∀ x ∈ fpv v6, x ∈ fpv (.slice (some ⟨b, 0, none⟩) k cap) ∨ w5.heap.size ≤ x) :
    GoW C L roots R w O s B mb w6 v6 (met ++ [a]) (st ++ R a) := by
  have hb : b ∈ fpv (.slice (some ⟨b, 0, none⟩) (k + 1) cap) := by simp [fpv, Value.ownBlock]
  have e : ∀ x ∈ fpv (.slice (some ⟨b, 0, none⟩) k cap), x = b := fun x hx => by simpa [fpv, Value.ownBlock] using hx
  have hbl : b < wk.heap.size := RV.lt h.sl b hb
  have hs3 := f3.size
  have hs4 := f4.size
  have hs5 := f5.size
  have hml := hm.lt
  have hwl := h.fr.size
  refine ⟨⟨O5, ?_, fun x hx => ?_, fun hx => ?_, fun x hx ho => ?_⟩, ?_, ?_, hs, fun x hx => ?_, h.go.meet hn hh, ?_⟩
  · rw [← List.append_assoc]
    refine K.keep c5 f6 (fun x hx hf => ?_)
    rw [e x hf] at hx
    rcases n5 b hx with h1 | h1
    · exact c4 b hb h1
    · omega
  · rcases n5 x hx with h1 | h1
    · exact c2 x h1
    · exact .inr (by omega)
  · rcases n5 mb hx with h1 | h1
    · exact c3 h1
    · omega
  · rcases n6 x hx with h1 | h1
    · rw [e x h1] at ho
      rcases n5 b ho with h2 | h2
      · exact c4 b hb h2
      · omega
    · have := K.lt c5 x ho
      omega
  · refine (((h.fr.tr0 f3).trans f4 (fun x hx => .inr ?_)).trans f5 c2).trans f6 (fun x hx => .inr ?_)
    · rw [List.mem_singleton.1 hx]; exact hmb
    · rw [e x hx]; exact (h.nw b hb).1
  · have e2 := metL_put met a hn
    rw [e2] at hm
    refine (hm.keep f5 c3).keep f6 (fun hx => ?_)
    exact (h.nw b hb).2 (e mb hx).symm
  · rcases n6 x hx with h1 | h1
    · rw [e x h1]; exact h.nw b hb
    · exact ⟨by omega, by omega⟩
  · have := h.le
    rw [List.length_append, List.length_singleton] at this
    rw [List.length_append, List.length_append, List.length_singleton, Nat.add_mul, Nat.one_mul]
    omega
end

/-- the frame at the label -/
structure AtQ (p vr fv mv vs : Value) (a : Act) : Prop where
  d : a.defers = []
  n : a.tmps.size = 57
  s0 : a.tmps.getD 0 undef = p
  s1 : a.tmps.getD 1 undef = vr
  s2 : a.tmps.getD 2 undef = fv
  s6 : a.tmps.getD 6 undef = .map none
  s7 : a.tmps.getD 7 undef = mv
  s8 : a.tmps.getD 8 undef = vs
theorem AtQ.lit {p vr fv mv vs : Value} {a : Act} (h : AtQ p vr fv mv vs a) : ∃ f : Nat → Value, a = { tmps := #[p, vr, fv, f 3, f 4, f 5, .map none, mv, vs, f 9, f 10, f 11, f 12, f 13, f 14, f 15, f 16, f 17, f 18, f 19, f 20, f 21, f 22, f 23, f 24, f 25, f 26, f 27, f 28, f 29, f 30, f 31, f 32, f 33, f 34, f 35, f 36, f 37, f 38, f 39, f 40, f 41, f 42, f 43, f 44, f 45, f 46, f 47, f 48, f 49, f 50, f 51, f 52, f 53, f 54, f 55, f 56], defers := [] } := by
  obtain ⟨h1, h2, h3, h4, h5, h6, h7, h8⟩ := h
  have e := act_fn a 57 h2 h1
  obtain ⟨g, hg⟩ : ∃ g : Nat → Value, g = fun j => a.tmps.getD j undef := ⟨_, rfl⟩
  rw [← hg] at e
  refine ⟨g, e.trans ?_⟩
  have k0 : g 0 = p := by rw [hg]; exact h3
  have k1 : g 1 = vr := by rw [hg]; exact h4
  have k2 : g 2 = fv := by rw [hg]; exact h5
  have k6 : g 6 = .map none := by rw [hg]; exact h6
  have k7 : g 7 = mv := by rw [hg]; exact h7
  have k8 : g 8 = vs := by rw [hg]; exact h8
  clear hg e
  show ({ tmps := #[g 0, g 1, g 2, g 3, g 4, g 5, g 6, g 7, g 8, g 9, g 10, g 11, g 12, g 13, g 14, g 15, g 16, g 17, g 18, g 19, g 20, g 21, g 22, g 23, g 24, g 25, g 26, g 27, g 28, g 29, g 30, g 31, g 32, g 33, g 34, g 35, g 36, g 37, g 38, g 39, g 40, g 41, g 42, g 43, g 44, g 45, g 46, g 47, g 48, g 49, g 50, g 51, g 52, g 53, g 54, g 55, g 56], defers := [] } : Act) = _
  rw [k0, k1, k2, k6, k7, k8]

set_option maxHeartbeats 2000000 in
set_option maxRecDepth 20000 in
theorem reached_any {C : List Int → World → List Nat → Prop} {f : Nat} {cp : Array Value} {R : Int → List Int} {w : World} {p : Value} {F : List Nat} {n : Nat} {L : List Ob} (h : Ar w p F n L) (K : Clo f cp L R C) {vr : Value} {roots : List Int} (hr : RI w vr roots)
    {s : List Int} {O : List Nat} (hc : C s w O) (hO : ∀ b ∈ O, b ∉ F) (hB : ∀ a, has L a = true → (R a).length ≤ 100) (hrl : roots.length ≤ 1000) (hsl : s.length ≤ 1000) :
    Calls Try.prog 57 #[p, vr, .func (.func f) #[] cp] w (ReachPost C L roots R w O s) := by
  have HA := hid h
  have hL : L.length ≤ 1024 := by have h1 := Rise.length h.rise; have h2 := h.small; omega
  have HL := hid hL
  obtain ⟨hb, rfl⟩ := h.form
  obtain ⟨ar, cr, rfl, _, _⟩ := hr.form
  have hen := K.en
  have HK := hid K
  have HR := hid hr
  have HC := hid hc
  have HO := hid hO
  have HB := hid hB
  have HRL := hid hrl
  have HSL := hid hsl
  have hmm := @run_makeMap Try.prog
  clear h hL K hr hc hO hB hrl hsl
  unfold Enters at hen
  unfold ptrV at *
  go_enter Try.func57, Try.ntmps57
  go_wp2_with fail
  refine wp_scope_L 0 (fun m a' w' => ∃ (vs : Value) (met stack : List Int), AtQ (.pointer (some ⟨hb, 0, none⟩)) (.slice ar roots.length cr) (.func (.func f) #[] cp) (.map (some w.heap.size)) vs a' ∧ m = goMeasure L 100 met stack ∧ Hid (GoW C L roots R w O s 100 w.heap.size w' vs met stack)) rfl ?_ ?_
  · rintro m a' wk ⟨vs, met, stack, ha, rfl, hg⟩
    obtain ⟨g, rfl⟩ := ha.lit
    clear ha
    obtain ⟨av, cv, hvs, _, _⟩ := hg.out.sl.form
    by_cases h0 : stack.length = 0
    · have hst : stack = [] := List.length_eq_zero_iff.1 h0
      subst hst
      subst hvs
      have HF : Hid (ReachPost C L roots R w O s (.returned (.map (some w.heap.size))) wk) := hid (by
        obtain ⟨O', k1, k2, k3, k4⟩ := hg.out.cl
        exact ⟨_, met, O', rfl, hg.out.mp, hg.out.go.nd, hg.out.go.done, k1, hg.out.fr, k2, k3, Nat.le_refl _⟩)
      clear hg
      simp only [List.length_nil] at *
      go_wp2_with fail
      simp only [Exit.jump]
      go_ret
      exact HF.out
    · obtain ⟨st, at', rfl⟩ := RI.snoc h0
      clear h0 hvs
      obtain ⟨bs, cs, hvs, hcs1, hcs2, hsl, hcell⟩ := RI.cut hg.out.sl
      subst hvs
      obtain ⟨k, hk⟩ : ∃ k, k = st.length := ⟨_, rfl⟩
      have HKL := hid hk
      have hle := hg.out.le
      have hml := hg.out.go.len
      have hL := HL.out
      have hrl := HRL.out
      rw [List.length_append, List.length_singleton, ← hk] at hle
      rw [← hk] at hcell hsl hcs1 ⊢
      have hkb : (k : Int) ≤ 200000 := by omega
      have hk0 : ((k : Int) + 1 == 0) = false := by
        have : ¬ (k : Int) + 1 = 0 := by omega
        simpa using this
      have HSL2 := hid hsl
      have hlook : (Instr.lookup 99 (.map (some w.heap.size)) (.int .i64 at') true).run Try.prog wk = .ok (.tuple #[.agg #[], .bool (decide (at' ∈ met))]) wk := by
        have := hg.out.mp.look ik_keys und_met unit_zero at' true
        rw [metL_get] at this
        by_cases hm : at' ∈ met
        · rw [if_pos hm] at this; rw [decide_eq_true hm]; exact this
        · rw [if_neg hm] at this; rw [decide_eq_false hm]; exact this
      have HG := hid hg.out
      have HCL := hid (fun (w' : World) (f : Fr [] wk w') => class_any ((HA.out.keep HG.out.fr (fun b hb ho => HO.out b ho hb)).keep0 f) at')
      rw [← hk] at HG
      clear hg hle hml hL hrl hk hsl
      by_cases hm : at' ∈ met
      · rw [decide_eq_true hm] at hlook
        have HM := hid hm
        clear hm
        obtain ⟨c, er, hcv⟩ : ∃ c er, clsV L at' = .tuple #[.int .i64 c, .int .i64 er] := by
          rcases clsV_two L at' with ⟨_, c, e⟩ | ⟨_, e⟩
          · exact ⟨c, 0, e⟩
          · exact ⟨0, 111, e⟩
        rw [hcv] at HCL
        clear hcv
        go_wp2_with fail
        refine (HCL.out _ ((Fr.refl _ _).alloc _)).mono ?_
        rintro e w3 ⟨rfl, q, rfl⟩
        go_wp2_with fail
        go_step3
        exact ⟨rfl, _, goMeasure_skip L met st at' 100, _, met, st, ⟨rfl, rfl, rfl, rfl, rfl, rfl, rfl, rfl⟩, rfl, hid (GoW.skip HK.out HG.out HSL2.out (.inl HM.out) (((Fr.refl _ _).alloc _).drewN _))⟩
      · rw [decide_eq_false hm] at hlook
        have HM := hid hm
        clear hm
        rcases clsV_two L at' with ⟨hh, c, hcv⟩ | ⟨hh, hcv⟩
        · rw [hcv] at HCL
          have HH := hid hh
          clear hcv hh
          go_wp2_with fail
          refine (HCL.out _ ((Fr.refl _ _).alloc _)).mono ?_
          rintro e w3 ⟨rfl, q, hq⟩
          have f3 : Fr [] wk w3 := by rw [hq]; exact ((Fr.refl _ _).alloc _).drewN _
          clear hq
          obtain ⟨w4, hup, hmp, f4, hsz⟩ := (HG.out.mp.keep f3 (by simp)).store ik_keys und_met at' (.agg #[])
          unfold intK at hup
          have F3 := hid f3
          have F4 := hid f4
          have HMP := hid hmp
          have HSZ := hid hsz
          clear hmp f3 f4 hsz
          go_wp2_with fail
          have hc4 := HG.out.cl
          obtain ⟨O', c1, c2, c3, c4⟩ := hc4
          have C1 : Hid (C (s ++ met) w4 O') := hid (HK.out.keep c1 ((F3.out.sub (S' := [w.heap.size]) (by simp)).trans F4.out (fun x hx => .inl hx)) (fun b hb => by rw [List.mem_singleton]; intro e; exact c3 (e ▸ hb)))
          have hsm : (s ++ met).length ≤ 100000 := by
            have h1 := HG.out.go.len
            have h2 := HSL.out
            have h3 := HL.out
            rw [List.length_append]; omega
          have C2 := hid (And.intro c2 (And.intro c3 c4))
          have HSM := hid hsm
          clear c1 c2 c3 c4 hsm hup
          refine (HK.out.call at' HH.out HSM.out C1.out).mono ?_
          rintro e w5 ⟨v5, O5, rfl, hv5, hc5, f5, n5, b5⟩
          have HV5 := hid hv5
          have C5 := hid hc5
          have F5 := hid f5
          have N5 := hid n5
          have S5 := hid (GoW.stack HG.out HSL2.out F3.out F4.out f5 C2.out.2.2)
          obtain ⟨a5, c5', hve, _, _⟩ := hv5.form
          subst hve
          obtain ⟨m5, hm5⟩ : ∃ m, m = (R at').length := ⟨_, rfl⟩
          have HM5 := hid hm5
          rw [← hm5] at HV5 ⊢
          have hl5 := HB.out at' HH.out
          clear hv5 hc5 f5 n5 b5 hm5
          go_wp2_with (at_builtin; refine wp_append_ri rfl (.tmp 52) (.tmp 55) rfl (.slice (some ⟨bs, 0, none⟩) k cs) (.slice a5 m5 c5') st (R at') rfl S5.out rfl HV5.out (by have := HKL.out; omega) ?_; intro a6 c6 w6 r6 f6 n6; have R6 := hid r6; have F6 := hid f6; have N6 := hid n6; clear r6 f6 n6)
          go_step3
          exact ⟨rfl, _, goMeasure_meet (HG.out.go.meet HM.out HH.out) (HB.out at' HH.out), _, _, _, ⟨rfl, rfl, rfl, rfl, rfl, rfl, rfl, rfl⟩, rfl, hid (GoW.meet HK.out HG.out F3.out F4.out HMP.out C2.out.1 C2.out.2.1 C2.out.2.2 C5.out F5.out N5.out HM.out HH.out (HB.out at' HH.out) (Nat.le_refl _) R6.out F6.out N6.out)⟩
        · rw [hcv] at HCL
          have HH := hid hh
          clear hcv hh
          go_wp2_with fail
          refine (HCL.out _ ((Fr.refl _ _).alloc _)).mono ?_
          rintro e w3 ⟨rfl, q, rfl⟩
          go_wp2_with fail
          go_step3
          exact ⟨rfl, _, goMeasure_skip L met st at' 100, _, met, st, ⟨rfl, rfl, rfl, rfl, rfl, rfl, rfl, rfl⟩, rfl, hid (GoW.skip HK.out HG.out HSL2.out (.inr HH.out) (((Fr.refl _ _).alloc _).drewN _))⟩
  · intro hp
    go_wp2_with fail
    refine (clone_Int _ _ _ _ (RV.keep0 HR.out ((Fr.refl _ _).alloc _)) (by have := HRL.out; omega) (fun u hu => by obtain ⟨y, _, rfl⟩ := List.mem_map.1 hu; rfl)).mono ?_
    rintro e w2 ⟨v2, rfl, hv2, f2, hb2⟩
    have HG : Hid (GoW C L roots R w O s 100 w.heap.size w2 v2 [] roots) := hid (by
      have fa : Fr [] w (w.alloc (.map #[] 0)) := (Fr.refl _ _).alloc _
      have hbm : ∀ b ∈ fpv v2, w.heap.size < b := fun b hb => by have := hb2 b hb; rw [World.size_alloc] at this; omega
      have hOl := HK.out.lt HC.out
      refine ⟨⟨O, by rw [List.append_nil]; exact HK.out.keep HC.out (fa.tr f2) (by simp), fun b hb => .inl hb, fun hb => by have := hOl _ hb; omega, fun b hb ho => by have := hOl _ ho; have := hbm b hb; omega⟩, (fa.tr f2).sub (by simp), (MapL.made w intK).keep f2 (by simp), hv2, fun b hb => ⟨Nat.le_of_lt (hbm b hb), by have := hbm b hb; omega⟩, Going.start L roots R, Nat.le_add_right _ _⟩)
    clear hv2 f2 hb2
    go_wp2_with fail
    rename_i K hK
    go_step3
    exact hK _ _ (hp _ _ _ ⟨v2, [], roots, ⟨rfl, rfl, rfl, rfl, rfl, rfl, rfl, rfl⟩, rfl, HG⟩)

end Go.Proofs.Ytgakkkifohkikaa
