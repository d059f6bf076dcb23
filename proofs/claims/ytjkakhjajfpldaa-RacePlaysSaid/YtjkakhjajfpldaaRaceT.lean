/-
  The document's watch in memory: clocks by value (arrays of 13 ints), loaded and stored whole; Is, Join, Before.
-/
import Derived.Test.YtjkakhjajfpldaaRaceS
import Derived.Test.YtjkakhjajfpldaaSlR
import Derived.Laws.CopyRow
import Derived.Deep.WholeRow
import Derived.Deep.Cut
import Derived.Deep.CutRange
namespace Go.Proofs.Ytjkakhjajfpldaa
open Go.RowKit

def vi (n : Int) : Value := .int .i64 n
def clkV (c : List Int) : Value := .agg (c.map vi).toArray
theorem und_clk : Try.prog.underlying 45 = some (.array 13 3) := by kernel_rfl
theorem size_clk : (Try.prog.info? 45).map (·.size) = some 13 := by kernel_rfl
section
variable {P : Program}
theorem exec_load {ρ : Operand → Value} {o : Oper} {T : TypeId} {A : Operand} {w : World} {v : Value} (ho : o.op = .load T A) (h : (Instr.loadAt T (ρ A)).run P w = .ok v w) : (execOp ρ o).run P w = .ok (.value v) w := by
  unfold execOp
  rw [ho]
  simp [h, Result.andThen]
theorem exec_store {ρ : Operand → Value} {o : Oper} {T : TypeId} {A X : Operand} {w w' : World} (ho : o.op = .store T A X) (h : (Instr.storeAt T (ρ A) (ρ X)).run P w = .ok () w') : (execOp ρ o).run P w = .ok .skip w' := by
  unfold execOp
  rw [ho]
  simp [h, Result.andThen]
theorem run_loadVar_at (w : World) (a : Addr) (ty : TypeId) (cs : List Value) (d : TypeDesc) (hu : P.underlying ty = some d) (hd : (match d with | .struct _ | .array _ _ => true | _ => false) = true) (hi : (P.info? ty).map (·.size) = some cs.length)
    (h : ∀ j v, cs[j]? = some v → w.cell? (a.add j) = some v) : (loadVar ty a).run P w = .ok (.agg cs.toArray) w := by
  have hl := run_loadCells_list (P := P) w a cs h
  cases hq : P.info? ty with
  | none => simp [hq] at hi
  | some i =>
    have hs : i.size = cs.length := by simpa [hq] using hi
    have hagg : (isAgg ty).run P w = .ok true w := by
      unfold isAgg
      rw [Sem.run_bind, run_underlying hu w]
      cases d <;> simp_all
    simp [loadVar, Sem.run_bind, hagg, sizeOf, typeInfo, hq, hs, hl]
theorem run_storeVar_at (w : World) (g o : Nat) (t ty : TypeId) (cur cells : Array Value) (hg : w.heap[g]? = some (.cells cur t (0, 0))) (hi : (P.info? ty).map (·.size) = some cells.size) (ho : o + cells.size ≤ cur.size) (h1 : ∀ v ∈ cells.toList, v.oneCell' = true) :
    (storeVar ty ⟨g, o, none⟩ (.agg cells)).run P w = .ok () (w.setRow g (cur.toList.take o ++ cells.toList ++ cur.toList.drop (o + cells.toList.length)).toArray) := by
  have := run_storeCells_at (P := P) g o t cells.toList 0 cur w hg (by simp; omega) h1
  cases hq : P.info? ty with
  | none => simp [hq] at hi
  | some i =>
    have hs : cells.size = i.size := by simp [hq] at hi; omega
    simpa [storeVar, sizeOf, typeInfo, hq, Value.cells, hs] using this
end
theorem vi_one (c : List Int) : ∀ v ∈ c.map vi, v.oneCell' = true := fun v hv => by
  obtain ⟨x, _, rfl⟩ := List.mem_map.1 hv
  rfl
/-- a clock out of a row of cells -/
theorem load_clk {w : World} {b o : Nat} {c : List Int} (hc : c.length = 13) (h : ∀ i, i < 13 → w.cell? ⟨b, o + i, none⟩ = some (vi (c.getD i 0))) : (Instr.loadAt 45 (.pointer (some ⟨b, o, none⟩))).run Try.prog w = .ok (clkV c) w := by
  have := run_loadVar_at (P := Try.prog) w ⟨b, o, none⟩ 45 (c.map vi) _ und_clk rfl (by rw [List.length_map, hc]; exact size_clk) (fun j v hv => by
    have hj : j < c.length := by have := (List.getElem?_eq_some_iff.1 hv).1; simpa using this
    have e : (⟨b, o, none⟩ : Addr).add j = ⟨b, o + j, none⟩ := by
      cases j <;> simp [Addr.add]
    rw [e, h j (by omega)]
    rw [List.getElem?_map, List.getElem?_eq_getElem hj] at hv
    rw [List.getD, List.getElem?_eq_getElem hj]
    exact hv)
  simp only [Instr.loadAt, Instr.sureAddr, Sem.run_bind, Sem.run_pure, Result.andThen]
  exact this
/-- a clock into a row of cells -/
theorem store_clk {w : World} {b o : Nat} {t : TypeId} {cur : Array Value} {c : List Int} (hc : c.length = 13) (hb : w.heap[b]? = some (.cells cur t (0, 0))) (ho : o + 13 ≤ cur.size) :
    (Instr.storeAt 45 (.pointer (some ⟨b, o, none⟩)) (clkV c)).run Try.prog w = .ok () (w.setRow b (cur.toList.take o ++ c.map vi ++ cur.toList.drop (o + 13)).toArray) := by
  have := run_storeVar_at (P := Try.prog) w b o t 45 cur (c.map vi).toArray hb (by rw [List.size_toArray, List.length_map, hc]; exact size_clk) (by rw [List.size_toArray, List.length_map, hc]; exact ho) (by simpa using vi_one c)
  simp only [List.length_map, hc] at this
  simp only [Instr.storeAt, Instr.sureAddr, Sem.run_bind, Sem.run_pure, Result.andThen]
  exact this
theorem setRow_at {w : World} {b : Nat} {cur cs : Array Value} {t : TypeId} (hb : w.heap[b]? = some (.cells cur t (0, 0))) : (w.setRow b cs).heap[b]? = some (.cells cs t (0, 0)) := by
  simp only [World.setRow, Array.getElem?_modify, hb]
  rfl

theorem ris_any (t : Int) (w : World) : Calls Try.prog 41 #[.int .i64 t] w fun e w' => e = .returned (.bool (inB t)) ∧ w = w' := by
  unfold inB
  by_cases h1 : 1 ≤ t
  · by_cases h2 : t ≤ 12
    · go_enter Try.func41, Try.ntmps41
      go_wp2_with fail
      go_ret
      exact ⟨by simp [h1, h2], rfl⟩
    · have h3 : decide (t ≤ 12) = false := by simpa using h2
      go_enter Try.func41, Try.ntmps41
      go_wp2_with fail
      go_ret
      exact ⟨by simp, rfl⟩
  · have h3 : decide (1 ≤ t) = false := by simpa using h1
    go_enter Try.func41, Try.ntmps41
    go_wp2_with fail
    go_ret
    exact ⟨by simp, rfl⟩
theorem ris_is (t : Int) (w : World) (b : Bool) (h : inB t = b) : Calls Try.prog 41 #[.int .i64 t] w fun e w' => e = .returned (.bool b) ∧ w = w' := by
  rw [← h]; exact ris_any t w

/-- the first k are joined -/
def jk (a b : List Int) (k : Nat) : List Int := (List.range 13).map fun i => if i < k then mx (a.getD i 0) (b.getD i 0) else a.getD i 0
theorem jk_len (a b : List Int) (k : Nat) : (jk a b k).length = 13 := by simp [jk]
theorem jk_get (a b : List Int) (k i : Nat) (hi : i < 13) : (jk a b k).getD i 0 = if i < k then mx (a.getD i 0) (b.getD i 0) else a.getD i 0 := by
  unfold jk
  rw [List.getD, List.getElem?_map, List.getElem?_range hi]; rfl
theorem jk_zero {a : List Int} (b : List Int) (ha : a.length = 13) : jk a b 0 = a := by
  refine List.ext_getElem (by rw [jk_len, ha]) (fun i h1 h2 => ?_)
  have h3 := jk_get a b 0 i (by omega)
  rw [List.getD, List.getElem?_eq_getElem h1, if_neg (by omega), List.getD, List.getElem?_eq_getElem h2] at h3
  simpa using h3
theorem jk_done (a b : List Int) : jk a b 13 = joinL a b := by
  unfold jk joinL
  refine List.map_congr_left (fun i hi => ?_)
  rw [if_pos (List.mem_range.1 hi)]
theorem jk_succ (a b : List Int) {k : Nat} (hk : k < 13) : (jk a b k).set k (mx (a.getD k 0) (b.getD k 0)) = jk a b (k + 1) := by
  refine List.ext_getElem (by rw [List.length_set, jk_len, jk_len]) (fun i h1 h2 => ?_)
  have hi : i < 13 := by rw [jk_len] at h2; exact h2
  have h3 := jk_get a b k i hi
  have h4 := jk_get a b (k + 1) i hi
  rw [List.getD, List.getElem?_eq_getElem (by rw [jk_len]; exact hi)] at h3
  rw [List.getD, List.getElem?_eq_getElem h2] at h4
  simp only [Option.getD_some] at h3 h4
  rw [List.getElem_set, h3, h4]
  by_cases e : k = i
  · subst e; simp
  · rw [if_neg e]
    by_cases h : i < k
    · rw [if_pos h, if_pos (by omega)]
    · rw [if_neg h, if_neg (by omega)]
/-- Join's own blocks -/
structure JW (w wr : World) (a b : List Int) (k : Nat) : Prop where
  b0 : wr.heap[w.heap.size]? = some (.cells ((jk a b k).map vi).toArray 45 (0, 0))
  b1 : wr.heap[w.heap.size + 1]? = some (.cells (b.map vi).toArray 45 (0, 0))
  b2 : ∃ z, wr.heap[w.heap.size + 2]? = some (.cells z 45 (0, 0)) ∧ z.size = 13
  fr : Fr [] w wr
theorem clk_cell {w : World} {b : Nat} {c : List Int} {t : TypeId} (h : w.heap[b]? = some (.cells (c.map vi).toArray t (0, 0))) {i : Nat} (hi : i < c.length) : w.cell? ⟨b, i, none⟩ = some (.int .i64 (c.getD i 0)) := by
  rw [cell_of_row _ _ _ _ _ _ h, List.getElem?_toArray, List.getElem?_map, List.getElem?_eq_getElem hi, List.getD, List.getElem?_eq_getElem hi]; rfl
theorem JW.drew {w wr : World} {a b : List Int} {k : Nat} (h : JW w wr a b k) : JW w wr.drew a b k := ⟨h.b0, h.b1, h.b2, h.fr.drew⟩
theorem JW.step {w wr : World} {a b : List Int} {k : Nat} (h : JW w wr a b k) (hk : k < 13) {x : Int} (hx : x = mx (a.getD k 0) (b.getD k 0)) : JW w (wr.setCell ⟨w.heap.size, k, none⟩ (.int .i64 x)) a b (k + 1) := by
  have f : Fr [w.heap.size] wr (wr.setCell ⟨w.heap.size, k, none⟩ (.int .i64 x)) := (Fr.refl _ _).setCell (.inl (by simp)) _
  obtain ⟨z, hz, hz2⟩ := h.b2
  refine ⟨?_, f.obj h.b1 (by simp), ⟨z, f.obj hz (by simp), hz2⟩, h.fr.setCell (.inr (Nat.le_refl _)) _⟩
  rw [heap_setCell_same wr _ k _ _ (.int .i64 x) h.b0, ← jk_succ a b hk, ← hx, List.map_set, List.setIfInBounds_toArray]
  rfl

set_option maxHeartbeats 1000000 in
theorem rjoin_any (a b : List Int) (ha : a.length = 13) (hb : b.length = 13) (w : World) : Calls Try.prog 42 #[clkV a, clkV b] w fun e w' => e = .returned (clkV (joinL a b)) ∧ Fr [] w w' := by
  have HA := hid ha
  have HB := hid hb
  unfold clkV
  obtain ⟨ca, hca⟩ : ∃ ca, ca = (a.map vi).toArray := ⟨_, rfl⟩
  obtain ⟨cb, hcb⟩ : ∃ cb, cb = (b.map vi).toArray := ⟨_, rfl⟩
  rw [← hca, ← hcb]
  have HCA := hid hca
  have HCB := hid hcb
  clear hca hcb ha hb
  go_enter Try.func42, Try.ntmps42
  go_upto_region 1 with (fail)
  obtain ⟨z, hz⟩ : ∃ z : Array Value, z = #[.int .i64 0, .int .i64 0, .int .i64 0, .int .i64 0, .int .i64 0, .int .i64 0, .int .i64 0, .int .i64 0, .int .i64 0, .int .i64 0, .int .i64 0, .int .i64 0, .int .i64 0] := ⟨_, rfl⟩
  rw [← hz]
  have HW := hid (show JW w (((w.alloc (.cells ca 45)).alloc (.cells cb 45)).alloc (.cells z 45)) a b 0 from by
    refine ⟨?_, ?_, ⟨z, ?_, by rw [hz]; rfl⟩, (((Fr.refl _ _).alloc _).alloc _).alloc _⟩
    · rw [jk_zero b HA.out, ← HCA.out]
      exact ((((Fr.refl [] _).alloc _).alloc _)).obj (heap_alloc_new w _) (by simp)
    · rw [← HCB.out]
      have := heap_alloc_new (w.alloc (.cells ca 45)) (.cells cb 45)
      rw [World.size_alloc] at this
      exact ((Fr.refl [] _).alloc _).obj this (by simp)
    · have := heap_alloc_new ((w.alloc (.cells ca 45)).alloc (.cells cb 45)) (.cells z 45)
      rw [World.size_alloc, World.size_alloc] at this
      exact this)
  generalize ((w.alloc (.cells ca 45)).alloc (.cells cb 45)).alloc (.cells z 45) = w1 at HW ⊢
  obtain ⟨g, hg⟩ : ∃ g, g = w.heap.size := ⟨_, rfl⟩
  rw [← hg]
  have HGW := hid hg
  clear hz hg
  go_wp2_with fail
  go_loopw [5] (fun i wr => ∃ k : Nat, i = .int .i64 k ∧ k ≤ 13 ∧ Hid (JW w wr a b k)) (fun i _ => 13 - (intOf i).toNat)
  case atStart => exact ⟨0, rfl, by omega, HW⟩
  case round =>
    obtain ⟨k, rfl, hk, hr⟩ := hrel
    have HR := hid hr.out
    clear hr HW
    by_cases hlt : k < 13
    · have hlt2 : (k : Int) < 13 := by omega
      have hk0 : (0 : Int) ≤ k := by omega
      have c0 := clk_cell HR.out.b0 (i := k) (by rw [jk_len]; exact hlt)
      have c1 := clk_cell HR.out.b1 (i := k) (by rw [HB.out]; exact hlt)
      have f0 := frozen_of_row _ _ k _ _ HR.out.b0
      rw [← HGW.out] at c0 c1 f0
      rw [jk_get a b k k hlt, if_neg (by omega)] at c0
      obtain ⟨x, hx⟩ : ∃ x, x = a.getD k 0 := ⟨_, rfl⟩
      obtain ⟨y, hy⟩ : ∃ y, y = b.getD k 0 := ⟨_, rfl⟩
      rw [← hx] at c0
      rw [← hy] at c1
      have HX := hid hx
      have HY := hid hy
      have HL := hid hlt
      clear hx hy hlt
      by_cases hxy : x < y
      · have hm := hid (show y = mx (a.getD k 0) (b.getD k 0) by rw [← HX.out, ← HY.out]; unfold mx; rw [if_pos hxy])
        have HS := hid (HR.out.step HL.out hm.out)
        rw [← HGW.out] at HS
        have hxy2 : ¬ y ≤ x := by omega
        have hxy3 : x ≤ y := by omega
        go_wp2_with fail
        go_region
        all_goals
          go_wp2_with fail
          exact ⟨⟨k + 1, by go_num, by omega, hid HS.out.drew⟩, by simp [intOf]; omega⟩
      · have hm := hid (show x = mx (a.getD k 0) (b.getD k 0) by rw [← HX.out, ← HY.out]; unfold mx; rw [if_neg hxy])
        have HS := hid (HR.out.step HL.out hm.out)
        rw [← HGW.out] at HS
        have hxy2 : y ≤ x := by omega
        have hxy3 : ¬ x < y := hxy
        go_wp2_with fail
        go_region
        all_goals
          go_wp2_with fail
          exact ⟨⟨k + 1, by go_num, by omega, hid HS.out.drew⟩, by simp [intOf]; omega⟩
    · obtain rfl : k = 13 := by omega
      have hlt2 : ¬ ((13 : Nat) : Int) < 13 := by omega
      clear hlt
      have HL := hid (show (Instr.loadAt 45 (.pointer (some ⟨g, 0, none⟩))).run Try.prog wr = .ok (clkV (joinL a b)) wr by
        refine load_clk (joinL_len _ _) (fun i hi => ?_)
        have := clk_cell HR.out.b0 (i := i) (by rw [jk_len]; exact hi)
        rw [jk_done] at this
        rw [HGW.out, Nat.zero_add]
        exact this)
      obtain ⟨z2, hz2, hz3⟩ := HR.out.b2
      have HZ := hid hz2
      rw [← HGW.out] at HZ
      have HST := hid (store_clk (o := 0) (joinL_len a b) HZ.out (by omega))
      have HFR := hid HR.out.fr
      obtain ⟨ne, hne⟩ : ∃ ne : Array Value, ne = (z2.toList.take 0 ++ (joinL a b).map vi ++ z2.toList.drop (0 + 13)).toArray := ⟨_, rfl⟩
      have HNE : Hid (ne = ((joinL a b).map vi).toArray) := hid (by rw [hne]; simp; omega)
      rw [← hne] at HST
      clear hne hz2 hz3 HR
      go_upto_region 5 with (fail)
      refine wp_region_lit (wpList_plain rfl fun K hK => ?_)
      refine Eq.mpr (congrArg (Oper.upon _ _ _ _ _) (exec_load rfl HL.out)) ?_
      rw [Oper.upon_value]
      refine hK _ _ ?_
      clear hK K
      refine wpList_plain rfl fun K hK => ?_
      refine Eq.mpr (congrArg (Oper.upon _ _ _ _ _) (exec_store rfl HST.out)) ?_
      rw [Oper.upon_skip]
      refine hK _ _ (wpList_nil ?_)
      clear hK K
      have HF := hid (HFR.out.trans (fr_setRow (g + 2) ne) (fun x hx => .inr (by rw [List.mem_singleton.1 hx, HGW.out]; omega)))
      have HB2 := hid (setRow_at (cs := ne) HZ.out)
      generalize wr.setRow (g + 2) ne = w2 at HF HB2 ⊢
      simp only [Act.put, List.setIfInBounds_toArray, List.set_cons_zero, List.set_cons_succ]
      go_wp2_with fail
      refine bodyPost_ret (results_cell_row (fn := Try.f42) rfl _ _ (g + 2) _ _ _ _ rfl HB2.out und_clk rfl (by rw [HNE.out, List.size_toArray, List.length_map, joinL_len]; exact size_clk)) rfl ⟨?_, HF.out⟩
      rw [HNE.out]

/-! ### Before -/
theorem leL_13 {a b : List Int} (ha : a.length = 13) (hb : b.length = 13) : leL a b = true ↔ leTo a b 13 := by
  rw [leL_iff]
  constructor
  · intro h i _; exact h i
  · intro h i
    by_cases hi : i < 13
    · exact h i hi
    · rw [getD_out a i (by omega), getD_out b i (by omega)]; omega
set_option maxHeartbeats 1000000 in
theorem rbefore_any (a b : List Int) (ha : a.length = 13) (hb : b.length = 13) (w : World) : Calls Try.prog 44 #[clkV a, clkV b] w fun e w' => e = .returned (.bool (leL a b)) ∧ Fr [] w w' := by
  have HA := hid ha
  have HB := hid hb
  unfold clkV
  obtain ⟨ca, hca⟩ : ∃ ca, ca = (a.map vi).toArray := ⟨_, rfl⟩
  obtain ⟨cb, hcb⟩ : ∃ cb, cb = (b.map vi).toArray := ⟨_, rfl⟩
  rw [← hca, ← hcb]
  have HCA := hid hca
  have HCB := hid hcb
  obtain ⟨q, hq⟩ : ∃ q, q = leL a b := ⟨_, rfl⟩
  rw [← hq]
  have HQ := hid hq
  clear hca hcb ha hb hq
  go_enter Try.func44, Try.ntmps44
  go_upto_region 1 with (fail)
  have HW := hid (show ((w.alloc (.cells ca 45)).alloc (.cells cb 45)).heap[w.heap.size]? = some (.cells (a.map vi).toArray 45 (0, 0)) ∧ ((w.alloc (.cells ca 45)).alloc (.cells cb 45)).heap[w.heap.size + 1]? = some (.cells (b.map vi).toArray 45 (0, 0)) ∧ Fr [] w ((w.alloc (.cells ca 45)).alloc (.cells cb 45)) from by
    refine ⟨?_, ?_, ((Fr.refl _ _).alloc _).alloc _⟩
    · rw [← HCA.out]; exact ((Fr.refl [] _).alloc _).obj (heap_alloc_new w _) (by simp)
    · rw [← HCB.out]
      have := heap_alloc_new (w.alloc (.cells ca 45)) (.cells cb 45)
      rw [World.size_alloc] at this
      exact this)
  generalize (w.alloc (.cells ca 45)).alloc (.cells cb 45) = w1 at HW ⊢
  obtain ⟨g, hg⟩ : ∃ g, g = w.heap.size := ⟨_, rfl⟩
  rw [← hg] at HW ⊢
  clear hg
  go_wp2_with fail
  go_loopw [5] (fun i wr => ∃ k : Nat, i = .int .i64 k ∧ k ≤ 13 ∧ Hid (leTo a b k ∧ Fr [] w1 wr)) (fun i _ => 13 - (intOf i).toNat)
  case atStart => exact ⟨0, rfl, by omega, hid ⟨fun i hi => by omega, Fr.refl _ _⟩⟩
  case round =>
    obtain ⟨k, rfl, hk, hr⟩ := hrel
    have HR := hid hr.out
    have HFR := hid (HW.out.2.2.tr hr.out.2)
    clear hr
    by_cases hlt : k < 13
    · have hlt2 : (k : Int) < 13 := by omega
      have hk0 : (0 : Int) ≤ k := by omega
      have c0 := clk_cell (HR.out.2.obj HW.out.1 (by simp)) (i := k) (by rw [HA.out]; exact hlt)
      have c1 := clk_cell (HR.out.2.obj HW.out.2.1 (by simp)) (i := k) (by rw [HB.out]; exact hlt)
      by_cases hxy : b.getD k 0 < a.getD k 0
      · have HQF : Hid (q = false) := hid (by rw [HQ.out]; exact leL_false (by rw [HA.out, HB.out]; omega) hxy)
        generalize a.getD k 0 = x at c0 hxy
        generalize b.getD k 0 = y at c1 hxy
        clear hlt
        go_wp2_with fail
        go_region
        all_goals
          go_wp2_with fail
          go_ret
          exact ⟨by rw [HQF.out]; rfl, HFR.out.drew⟩
      · have HN := hid (HR.out.1.succ (by omega))
        generalize a.getD k 0 = x at c0 hxy
        generalize b.getD k 0 = y at c1 hxy
        have hxy2 : x ≤ y := by omega
        clear hlt
        go_wp2_with fail
        go_region
        all_goals
          go_wp2_with fail
          exact ⟨⟨k + 1, by go_num, by omega, hid ⟨HN.out, HR.out.2.drew⟩⟩, by simp [intOf]; omega⟩
    · obtain rfl : k = 13 := by omega
      have hlt2 : ¬ ((13 : Nat) : Int) < 13 := by omega
      have HQT : Hid (q = true) := hid (by rw [HQ.out]; exact (leL_13 HA.out HB.out).2 HR.out.1)
      go_wp2_with fail
      go_ret
      exact ⟨by rw [HQT.out]; rfl, HFR.out⟩

end Go.Proofs.Ytjkakhjajfpldaa
