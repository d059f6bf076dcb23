/-
  Slices that own their rows, of elements of k cells each: what copy, clear and append do to the row. It speaks of no program.
-/
import Derived.Test.YthdmgjkipiaccaaBase2
import Derived.Deep.AppendSrc
import Derived.Lib.AppendZerosOnto
import Derived.Lib.Overlaps
import Derived.Lib.SliceRun
import Derived.Laws.Externs
import Derived.Deep.RegionLaw
namespace Go.Proofs.Ythdmgjkipiaccaa
open Go.RowKit

/-- The slice v of n elements of type e (k cells each) owns a row that begins with xs. -/
def RV (w : World) (e : TypeId) (k : Nat) (v : Value) (n : Nat) (xs : List Value) : Prop := w.ownsRow 0 e k v n xs

section
variable {w w' : World} {e : TypeId} {k : Nat} {v : Value} {n : Nat} {xs : List Value}
theorem RV.nil (w : World) (e : TypeId) (k : Nat) : RV w e k (.slice none 0 0) 0 [] := ⟨by simp, .inl ⟨rfl, rfl⟩⟩
theorem RV.len (h : RV w e k v n xs) : xs.length = n * k := h.1
theorem RV.parts (h : RV w e k v n xs) :
    (v = .slice none 0 0 ∧ n = 0 ∧ xs = []) ∨ ∃ b cap cur, v = .slice (some ⟨b, 0, none⟩) n cap ∧ w.heap[b]? = some (.cells cur e (0, 0)) ∧ n ≤ cap ∧ cap ≤ maxLen ∧ cur.size = cap * k ∧ cur.toList.take (n * k) = xs := by
  obtain ⟨h1, h2⟩ := h
  rcases h2 with ⟨rfl, rfl⟩ | ⟨b, cap, cur, rfl, _, hh, hl, hc, hs, ht⟩
  · exact .inl ⟨rfl, rfl, List.length_eq_zero_iff.1 (by simpa using h1)⟩
  · exact .inr ⟨b, cap, cur, rfl, hh, hl, hc, hs, ht⟩
theorem RV.mk {b cap : Nat} {cur : Array Value} (hh : w.heap[b]? = some (.cells cur e (0, 0))) (hl : n ≤ cap) (hc : cap ≤ maxLen) (hs : cur.size = cap * k) (ht : cur.toList.take (n * k) = xs) :
    RV w e k (.slice (some ⟨b, 0, none⟩) n cap) n xs := by
  refine ⟨?_, .inr ⟨b, cap, cur, rfl, Nat.zero_le _, hh, hl, hc, hs, ht⟩⟩
  rw [← ht, List.length_take, Array.length_toList, hs]
  exact Nat.min_eq_left (Nat.mul_le_mul_right _ hl)
theorem RV.lt (h : RV w e k v n xs) : ∀ b ∈ fpv v, b < w.heap.size := by
  intro b hb
  rw [mem_fpv] at hb
  rcases h.parts with ⟨rfl, _⟩ | ⟨b', cap, cur, rfl, hh, _⟩
  · cases hb
  · cases hb; exact lt_of_block hh
theorem RV.form (h : RV w e k v n xs) : ∃ a cap, v = .slice a n cap ∧ n ≤ cap ∧ cap ≤ maxLen := by
  rcases h.parts with ⟨rfl, rfl, rfl⟩ | ⟨b, cap, cur, rfl, _, hl, hc, _⟩
  · exact ⟨_, 0, rfl, by simp, by unfold maxLen; omega⟩
  · exact ⟨_, cap, rfl, hl, hc⟩
theorem RV.keep {S : List Nat} (h : RV w e k v n xs) (f : Fr S w w') (hn : ∀ b ∈ fpv v, b ∉ S) : RV w' e k v n xs := by
  rcases h.parts with ⟨rfl, rfl, rfl⟩ | ⟨b, cap, cur, rfl, hh, hl, hc, hs, ht⟩
  · exact RV.nil _ _ _
  · exact RV.mk (f.obj hh (hn b (by simp [fpv, Value.ownBlock]))) hl hc hs ht
theorem RV.keep0 (h : RV w e k v n xs) (f : Fr [] w w') : RV w' e k v n xs := h.keep f (by simp)
theorem RV.cell (h : RV w e k v n xs) (j : Nat) (hj : j < n * k) :
    ∃ b cap, v = .slice (some ⟨b, 0, none⟩) n cap ∧ w.cell? ⟨b, j, none⟩ = some (xs.getD j undef) ∧ w.frozen? ⟨b, j, none⟩ = false := by
  rcases h.parts with ⟨rfl, rfl, rfl⟩ | ⟨b, cap, cur, rfl, hh, hl, hc, hs, ht⟩
  · omega
  · refine ⟨b, cap, rfl, ?_, frozen_of_row _ _ _ _ _ hh⟩
    rw [cell_of_row _ _ _ _ _ _ hh]
    have e1 := congrArg (fun l => l[j]?) ht
    simp only [List.getElem?_take, if_pos hj, Array.getElem?_toList] at e1
    have hx : j < xs.length := by rw [h.len]; exact hj
    rw [e1, List.getD, List.getElem?_eq_getElem hx]; rfl
end

theorem own_new {w : World} {v v' : Value} {b : Nat} (h : v'.ownBlock = v.ownBlock ∨ v'.ownBlock = some w.heap.size) (hb : b ∈ fpv v') : b ∈ fpv v ∨ w.heap.size ≤ b := by
  rw [mem_fpv] at hb
  rcases h with h4 | h4
  · exact .inl (mem_fpv.2 (by rw [← h4]; exact hb))
  · right; rw [h4] at hb; cases hb; exact Nat.le_refl _

/-! ### operations on a row that is known whole -/
section
variable {P : Program} {w : World}

theorem overw_array {cur : Array Value} {o : Nat} {vs : List Value} : (cur.toList.take o ++ vs ++ cur.toList.drop (o + vs.length)).toArray = (overw cur.toList o vs).toArray := rfl
theorem fr_setRow (g : Nat) (cs : Array Value) : Fr [g] w (w.setRow g cs) :=
  ⟨rfl, rfl, rfl, by simp [World.setRow], fun k _ hn => setRow_other w g k cs (fun e => hn (by simp [e]))⟩
theorem size_setRow (w : World) (g : Nat) (cs : Array Value) : (w.setRow g cs).heap.size = w.heap.size := by simp [World.setRow]

theorem overw_overw {c ys ns : List Value} {a b : Nat} (hab : b + ns.length = a) (ha : a ≤ c.length) : overw (overw c a ys) b ns = c.take b ++ (ns ++ (ys ++ c.drop (a + ys.length))) := by
  have h1 : (overw c a ys).take b = c.take b := by
    unfold overw
    rw [List.append_assoc, List.take_append_of_le_length (by rw [List.length_take]; omega), List.take_take, Nat.min_eq_left (by omega)]
  have h2 : (overw c a ys).drop (b + ns.length) = ys ++ c.drop (a + ys.length) := by
    unfold overw
    rw [hab, List.append_assoc, List.drop_left' (by rw [List.length_take]; omega)]
  have h3 : overw (overw c a ys) b ns = (overw c a ys).take b ++ ns ++ (overw c a ys).drop (b + ns.length) := rfl
  rw [h3, h1, h2, List.append_assoc]

theorem overw_then {c ys ns : List Value} {a b : Nat} (hab : a + ns.length = b) (ha : b ≤ c.length) : overw (overw c a ns) b ys = c.take a ++ (ns ++ (ys ++ c.drop (b + ys.length))) := by
  have h1 : (overw c a ns).take b = c.take a ++ ns := by
    unfold overw
    rw [List.take_left' (by rw [List.length_append, List.length_take]; omega)]
  have h2 : (overw c a ns).drop (b + ys.length) = c.drop (b + ys.length) := by
    unfold overw
    have e : b + ys.length = (c.take a ++ ns).length + ys.length := by rw [List.length_append, List.length_take]; omega
    rw [e, List.drop_append, List.drop_eq_nil_of_le (by omega), List.nil_append, List.drop_drop]
    congr 1
    rw [List.length_append, List.length_take]; omega
  have h3 : overw (overw c a ns) b ys = (overw c a ns).take b ++ ys ++ (overw c a ns).drop (b + ys.length) := rfl
  rw [h3, h1, h2, List.append_assoc, List.append_assoc]

/-- copy -/
theorem copyK (dT sT elem : TypeId) (k g o dLen : Nat) (a : Addr) (sLen : Nat) (cur : Array Value) (t : TypeId) (cs : List Value)
    (hu : P.underlying dT = some (.slice elem)) (hs : (P.info? elem).map (·.size) = some k)
    (hg : w.heap[g]? = some (.cells cur t (0, 0))) (hn : cs.length = Nat.min sLen dLen * k)
    (hsrc : ∀ j v, cs[j]? = some v → w.cell? (a.add j) = some v) (hfit : o + cs.length ≤ cur.size) (h1 : ∀ v ∈ cs, v.oneCell' = true) :
    ∃ W', (∀ ty dCap sCap, (Builtin.copy_ #[dT, sT] ty #[.slice (some ⟨g, o, none⟩) dLen dCap, .slice (some a) sLen sCap]).run P w = .ok (goInt (Nat.min sLen dLen)) W') ∧
      W'.heap[g]? = some (.cells (overw cur.toList o cs).toArray t (0, 0)) ∧ Fr [g] w W' ∧ W'.heap.size = w.heap.size := by
  refine ⟨w.setRow g (overw cur.toList o cs).toArray, fun ty dCap sCap => ?_, setRow_heap w g _ _ t _ hg, fr_setRow _ _, size_setRow _ _ _⟩
  have hl := run_loadCells_list (P := P) w a cs hsrc
  have hst := run_storeCells_at P g o t cs 0 cur w hg (by simpa using hfit) h1
  simp only [Nat.add_zero] at hst
  cases hq : P.info? elem with
  | none => simp [hq] at hs
  | some i =>
    have hi : i.size = k := by simpa [hq] using hs
    simp [Builtin.copy_, run_underlying hu, Builtin.lenOf, Builtin.firstCells, sizeOf, typeInfo, hq, hi, ← hn, hl, hst, overw]

/-- clear -/
theorem clearK (t e : TypeId) (z : Value) (k : Nat) (ht : P.underlying t = some (.slice e)) (hv : ∀ w, (zeroValue e).run P w = .ok z w) (hz : z.cells.size = k) (h1 : ∀ u ∈ z.cells.toList, u.oneCell' = true)
    (b o n : Nat) (cur : Array Value) (tt : TypeId) (hg : w.heap[b]? = some (.cells cur tt (0, 0))) (hfit : o + n * k ≤ cur.size) :
    ∃ W', (∀ ty c, (Builtin.clear_ #[t] ty #[.slice (some ⟨b, o, none⟩) n c]).run P w = .ok (.tuple #[]) W') ∧
      W'.heap[b]? = some (.cells (overw cur.toList o (Builtin.zeroCells z.cells n).toList).toArray tt (0, 0)) ∧ Fr [b] w W' ∧ W'.heap.size = w.heap.size := by
  have hzl : (Builtin.zeroCells z.cells n).toList.length = n * k := by rw [Array.length_toList, size_zeroCells, hz]
  by_cases hn : n = 0
  · subst hn
    refine ⟨w, fun ty c => ?_, ?_, Fr.refl _ _, rfl⟩
    · simp [Builtin.clear_, run_underlying ht]
    · have e : (Builtin.zeroCells z.cells 0).toList = [] := List.length_eq_zero_iff.1 (by rw [hzl]; simp)
      rw [e, hg]; simp [overw]
  · refine ⟨w.setRow b (overw cur.toList o (Builtin.zeroCells z.cells n).toList).toArray, fun ty c => ?_, setRow_heap w b _ _ tt _ hg, fr_setRow _ _, size_setRow _ _ _⟩
    have hst := run_storeCells_at P b o tt (Builtin.zeroCells z.cells n).toList 0 cur w hg (by rw [hzl]; simpa using hfit) (fun u hu => by
      simp only [Builtin.zeroCells, Array.toList_map, List.mem_map, Array.mem_toList_iff, Array.mem_range] at hu
      obtain ⟨i, hlt, rfl⟩ := hu
      have hpos : 0 < z.cells.size := by
        rcases Nat.eq_zero_or_pos z.cells.size with h0 | h0
        · rw [h0, Nat.mul_zero] at hlt; omega
        · exact h0
      have hm := Nat.mod_lt i hpos
      refine h1 _ ?_
      simp only [getElem!_def, Array.getElem?_eq_getElem hm]
      rw [Array.mem_toList_iff]
      exact Array.getElem_mem hm)
    simp only [Nat.add_zero] at hst
    obtain ⟨m, rfl⟩ : ∃ m, n = m + 1 := ⟨n - 1, by omega⟩
    simp [Builtin.clear_, run_underlying ht, hv, hst, overw]

/-- append where there is room -/
theorem appendRoomK (t e : TypeId) (i : TypeInfo) (k : Nat) (ht : P.underlying t = some (.slice e)) (hi : P.info? e = some i) (hk : i.size = k)
    (g sLen sCap : Nat) (cur : Array Value) (hg : w.heap[g]? = some (.cells cur e (0, 0)))
    (a : Addr) (m : Nat) (news : List Value) (hl : news.length = m * k) (hnews : ∀ j u, news[j]? = some u → w.cell? (a.add j) = some u) (h1 : ∀ u ∈ news, u.oneCell' = true)
    (hroom : sLen + m ≤ sCap) (hfit : sLen * k + news.length ≤ cur.size) :
    ∃ W', (∀ ty c, (Builtin.append_ #[t, t] ty #[.slice (some ⟨g, 0, none⟩) sLen sCap, .slice (some a) m c]).run P w = .ok (.slice (some ⟨g, 0, none⟩) (sLen + m) sCap) W') ∧
      W'.heap[g]? = some (.cells (overw cur.toList (sLen * k) news).toArray e (0, 0)) ∧ Fr [g] w W' ∧ W'.heap.size = w.heap.size := by
  subst hk
  exact ⟨_, fun ty c => run_append_room (P := P) w t ty e i ht hi g sLen sCap cur hg a m c news hl hnews h1 hroom hfit, setRow_heap w g _ _ e _ hg, fr_setRow _ _, size_setRow _ _ _⟩

/-- append of so many zeros where there is no room -/
theorem appendZerosK (t tn e : TypeId) (i : TypeInfo) (z : Value) (kn : IntKind) (ht : P.underlying t = some (.slice e)) (htn : P.underlying tn = some (.int kn)) (hi : P.info? e = some i) (hz : i.zero = some z) (hzs : z.cells.size = i.size)
    (b sLen sCap : Nat) (olds : List Value) (hol : olds.length = sLen * i.size) (hold : ∀ j v, olds[j]? = some v → w.cell? ⟨b, j, none⟩ = some v)
    (m : Nat) (h0 : 0 < m) (hs : 0 < i.size) (hg : sCap < sLen + m) (hm : sLen + m ≤ maxLen) (hb : (sLen + m) * i.bytes ≤ 140737488355328) :
    ∃ cap cur W', (∀ ty kq, (Builtin.append_ #[t, tn] ty #[.slice (some ⟨b, 0, none⟩) sLen sCap, .int kq m]).run P w = .ok (.slice (some ⟨w.heap.size, 0, none⟩) (sLen + m) cap) W') ∧
      W'.heap[w.heap.size]? = some (.cells cur e (0, 0)) ∧ sLen + m ≤ cap ∧ cap ≤ maxLen ∧ cur.size = cap * i.size ∧ cur.toList.take (sLen * i.size) = olds ∧ Fr [] w W' ∧ W'.heap.size = w.heap.size + 1 := by
  have h63 : ((sLen + m : Nat) : Int) ≤ 9223372036854775807 := by unfold maxLen at hm; omega
  have hh : (Builtin.firstCells i.size sLen (.slice (some ⟨b, 0, none⟩) sLen sCap)).run P w.drew = .ok olds.toArray w.drew :=
    run_firstCells_some w.drew i.size sLen ⟨b, 0, none⟩ sLen sCap olds hol (fun j v hj => by rw [Addr.add_lit, Nat.zero_add]; exact hold j v hj)
  have hb2 : m * i.bytes ≤ 281474976710656 := by
    have : m * i.bytes ≤ (sLen + m) * i.bytes := Nat.mul_le_mul_right _ (by omega)
    omega
  have hge := grownCap_ge w (sLen + m) sCap e
  refine ⟨grownCap w (sLen + m) sCap e, _, _, fun ty kq => Lib.run_append_grow_zeros w t tn ty e i z kq kn ht htn hi hz (some ⟨b, 0, none⟩) sLen sCap olds hh m h0 hs hg h63 hb2 (growslice_fits hg hb),
    heap_alloc_new w.drew _, hge, grownCap_le_maxLen w _ _ _ hm, ?_, ?_, ((Fr.refl [] w).drew).alloc _, by simp⟩
  · simp only [Array.size_append, List.size_toArray, size_zeroCells, hzs, hol, ← Nat.add_mul]
    congr 1
    omega
  · simp only [Array.toList_append, List.append_assoc]
    exact List.take_left' (by rw [hol])

/-- slices.overlaps at two slices in two blocks -/
theorem overlapsK (tS tR e : TypeId) (k : Nat) (ht : P.underlying tS = some (.slice e)) (hz : ∀ w, (Go.sizeOf e).run P w = .ok k w)
    (a b : Addr) (la ca lb cb : Nat) (hne : a.block ≠ b.block) (ca' cb' : Array Value) (ta tb : TypeId) (ha : w.heap[a.block]? = some (.cells ca' ta (0, 0))) (hb : w.heap[b.block]? = some (.cells cb' tb (0, 0))) (hpos : 0 < cb'.size) :
    (Extern.SlicesOverlaps.overlaps #[tS, tS] #[tR] #[.slice (some a) la ca, .slice (some b) lb cb]).run P w = .ok (.bool false) w := by
  refine Lib.run_overlaps_apart w tS tR e ht k hz a b la ca lb cb hne ta tb ca'.size cb'.size ?_ ?_ (by omega) ?_ ?_
  · simp [World.shape?, ha]
  · simp [World.shape?, hb]
  · simp [World.frozen?, ha]
  · simp [World.frozen?, ha]

/-! ### the builtins at their operations, where their run is known by an equation -/
theorem wpBi (bi : Builtin) (run : Array TypeId → TypeId → Array Value → Sem Value) (hbi : ∀ ts ty bs vs, builtin bi ts ty bs vs = (do pure (.value (← run ts ty vs)))) {ops : Array Oper} {rest : List Oper} {o : Oper} {a : Act} {w : World} {Q : Exit → Act → World → Prop} (hgd : o.guard = none) (d s : Operand) (t t' : TypeId)
    (ho : o.op = .call { callee := .builtin bi, args := #[d, s], argTypes := #[t, t'] }) (v u : Value) (hd : a.eval d = v) (hs : a.eval s = u) {v' : Value} {w' : World}
    (hr : (run #[t, t'] o.type #[v, u]).run P w = .ok v' w') (h : wpList P ops Q rest (a.put o.dst v') w') : wpList P ops Q (o :: rest) a w := by
  refine wpList_plain hgd fun _ hK => ?_
  unfold Oper.wp execOp
  simp only [ho, resolve, invoke, hbi, Sem.run_bind, Sem.run_pure, Result.andThen_ok, List.map_toArray, List.map_cons, List.map_nil, hd, hs, hr]
  exact hK _ _ h
theorem stepBi (bi : Builtin) (run : Array TypeId → TypeId → Array Value → Sem Value) (hbi : ∀ ts ty bs vs, builtin bi ts ty bs vs = (do pure (.value (← run ts ty vs)))) {ops : Array Oper} {o : Oper} {a : Act} {w : World} {K : Act → World → Prop} {Q : Exit → Act → World → Prop} {E : Prop} (hg : o.guard = none) (d s : Operand) (t t' : TypeId)
    (ho : o.op = .call { callee := .builtin bi, args := #[d, s], argTypes := #[t, t'] }) (v u : Value) (hd : a.eval d = v) (hs : a.eval s = u) {v' : Value} {w' : World}
    (hr : (run #[t, t'] o.type #[v, u]).run P w = .ok v' w') (hK : K (a.put o.dst v') w') : if Region.wanted o (yielded ops a.tmps) = true then Oper.wp P o a w K Q else E := by
  have hw : Region.wanted o (yielded ops a.tmps) = true := by simp [Region.wanted, hg]
  rw [if_pos hw]
  unfold Oper.wp execOp
  simp only [ho, resolve, invoke, hbi, Sem.run_bind, Sem.run_pure, Result.andThen_ok, List.map_toArray, List.map_cons, List.map_nil, hd, hs, hr]
  exact hK
theorem wpBi1 (bi : Builtin) (run : Array TypeId → TypeId → Array Value → Sem Value) (hbi : ∀ ts ty bs vs, builtin bi ts ty bs vs = (do pure (.value (← run ts ty vs)))) {ops : Array Oper} {rest : List Oper} {o : Oper} {a : Act} {w : World} {Q : Exit → Act → World → Prop} (hgd : o.guard = none) (d : Operand) (t : TypeId)
    (ho : o.op = .call { callee := .builtin bi, args := #[d], argTypes := #[t] }) (v : Value) (hd : a.eval d = v) {v' : Value} {w' : World}
    (hr : (run #[t] o.type #[v]).run P w = .ok v' w') (h : wpList P ops Q rest (a.put o.dst v') w') : wpList P ops Q (o :: rest) a w := by
  refine wpList_plain hgd fun _ hK => ?_
  unfold Oper.wp execOp
  simp only [ho, resolve, invoke, hbi, Sem.run_bind, Sem.run_pure, Result.andThen_ok, List.map_toArray, List.map_cons, List.map_nil, hd, hr]
  exact hK _ _ h
theorem bi_copy : ∀ ts ty bs vs, builtin .copy ts ty bs vs = (do pure (.value (← Builtin.copy_ ts ty vs))) := fun _ _ _ _ => rfl
theorem bi_append : ∀ ts ty bs vs, builtin .append ts ty bs vs = (do pure (.value (← Builtin.append_ ts ty vs))) := fun _ _ _ _ => rfl
theorem bi_clear : ∀ ts ty bs vs, builtin .clear ts ty bs vs = (do pure (.value (← Builtin.clear_ ts ty vs))) := fun _ _ _ _ => rfl

end
end Go.Proofs.Ythdmgjkipiaccaa
