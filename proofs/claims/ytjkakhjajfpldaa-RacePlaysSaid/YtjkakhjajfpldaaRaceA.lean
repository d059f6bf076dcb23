/-
  Package race: the keys of its maps, its clocks, and the small functions.
-/
import Derived.Test.YtjkakhjajfpldaaRows
import Derived.Test.YtjkakhjajfpldaaBase
import Derived.RegionTactic
import Derived.Deep.QuietTactic
import Derived.BigQuiet
import Derived.StillTailTactics
namespace Go.Proofs.Ytjkakhjajfpldaa
open Go.RowKit

/-! ### keys -/
section
variable {K : Type} [DecidableEq K] {P : Program}

theorem run_findAsking {kt : TypeId} {kv : K → Value} (hEq : ∀ (w : World) (k k' : K), (Op.equal kt (kv k) (kv k')).run P w = .ok (decide (k = k')) w) (w : World) (k : K) : ∀ (es : List (K × Value × Nat)) (i : Nat), (Instr.findAsking kt (kv k) (es.map (entOf kv)) i).run P w = .ok (findL es k i) w
  | [], i => by simp [Instr.findAsking, findL]
  | e :: r, i => by
    have h := run_findAsking hEq w k r (i + 1)
    simp only [List.map_cons, Instr.findAsking, entOf, findL]
    simp only [Sem.run_bind, hEq, Result.andThen_ok]
    by_cases he : e.1 = k
    · rw [decide_eq_true he.symm]; simp [he]
    · have he' : ¬ k = e.1 := fun x => he x.symm
      rw [decide_eq_false he']; simpa [he] using h

theorem keyRuns_struct {kt : TypeId} {kv : K → Value} {fs : Array Field} (hu : P.underlying kt = some (.struct fs))
    (hc : ∀ (w : World) (em : Bool) (k : K), (Instr.checkKey em 10000 kt (kv k)).run P w = .ok () w)
    (hEq : ∀ (w : World) (k k' : K), (Op.equal kt (kv k) (kv k')).run P w = .ok (decide (k = k')) w)
    (hs : ∀ k, Instr.sameBits 10000 (kv k) (kv k) = true) : KeyRuns P kt kv where
  check := hc
  find w k es := by
    have h := run_findAsking hEq w k es 0
    unfold Instr.findKey
    simp only [Sem.run_bind, run_underlying hu, Result.andThen_ok]
    cases es with
    | nil => simp [Instr.findNow, findL]
    | cons e r =>
      simp only [List.map_cons, Instr.findNow, Instr.sameNow] at h ⊢
      exact h
  stays w k := by
    unfold Instr.keyThatStays
    rw [if_pos (hs k)]; rfl

def intK (n : Int) : Value := .int .i64 n

theorem findNow_int (k : Int) : ∀ (es : List (Int × Value × Nat)) (i : Nat), Instr.findNow (.int .i64) (intK k) (es.map (entOf intK)) i = some (findL es k i)
  | [], i => rfl
  | e :: r, i => by
    have h := findNow_int k r (i + 1)
    simp only [List.map_cons, Instr.findNow, Instr.sameNow, intK, entOf, findL, if_true] at h ⊢
    by_cases he : e.1 = k
    · subst he; simp
    · have he' : ¬ k = e.1 := fun x => he x.symm
      have hb : (k == e.1) = false := by simpa using he'
      rw [hb, if_neg he]; simpa using h

theorem check_int {kt : TypeId} (hu : P.underlying kt = some (.int .i64)) (w : World) (em : Bool) (n : Nat) (k : Int) : (Instr.checkKey em (n + 1) kt (.int .i64 k)).run P w = .ok () w := by
  simp [Instr.checkKey, run_underlying hu]

theorem sameBits_int (n : Nat) (k : Int) : Instr.sameBits (n + 1) (.int .i64 k) (.int .i64 k) = true := by simp [Instr.sameBits]

theorem keyRuns_int {kt : TypeId} (hu : P.underlying kt = some (.int .i64)) : KeyRuns P kt intK where
  check w em k := check_int hu w em 9999 k
  find w k es := by
    unfold Instr.findKey
    simp only [Sem.run_bind, run_underlying hu, Result.andThen_ok, findNow_int]
    rfl
  stays w k := by
    unfold Instr.keyThatStays
    have h : Instr.sameBits 10000 (intK k) (intK k) = true := sameBits_int 9999 k
    rw [if_pos h]; rfl
end

def wordK (p : Int × Int) : Value := .agg #[.int .i64 p.1, .int .i64 p.2]
def accK (p : (Int × Int) × Int) : Value := .agg #[.int .i64 p.1.1, .int .i64 p.1.2, .int .i64 p.2]



theorem word_fields : (Try.prog.fieldsOf 64).toList = [{ name := "at", type := 3, offset := 0, embedded := false, tag := "", pkgPath := "loom/race", byteOffset := 0 }, { name := "i", type := 3, offset := 1, embedded := false, tag := "", pkgPath := "loom/race", byteOffset := 8 }] := by kernel_rfl
theorem word_under : Try.prog.underlying 64 = some (.struct (Try.prog.fieldsOf 64)) := by kernel_rfl
theorem acc_fields : (Try.prog.fieldsOf 69).toList = [{ name := "w", type := 64, offset := 0, embedded := false, tag := "", pkgPath := "loom/race", byteOffset := 0 }, { name := "thread", type := 3, offset := 2, embedded := false, tag := "", pkgPath := "loom/race", byteOffset := 16 }] := by kernel_rfl
theorem acc_under : Try.prog.underlying 69 = some (.struct (Try.prog.fieldsOf 69)) := by kernel_rfl
theorem word_eqd (w : World) (a b c d : Int) (n : Nat) : (Op.equalIn (n + 2) 64 (.agg #[.int .i64 a, .int .i64 b]) (.agg #[.int .i64 c, .int .i64 d])).run Try.prog w = .ok (decide (a = c ∧ b = d)) w := by
  rw [run_equalIn_struct _ _ _ _ _ word_under (by kernel_rfl), word_fields]
  simp [Op.eqFields, go_sem]
  by_cases h1 : a = c <;> by_cases h2 : b = d <;> simp [h1, h2]
theorem acc_eqd (w : World) (a b t c d u : Int) (n : Nat) : (Op.equalIn (n + 3) 69 (.agg #[.int .i64 a, .int .i64 b, .int .i64 t]) (.agg #[.int .i64 c, .int .i64 d, .int .i64 u])).run Try.prog w = .ok (decide ((a = c ∧ b = d) ∧ t = u)) w := by
  rw [run_equalIn_struct _ _ _ _ _ acc_under (by kernel_rfl), acc_fields]
  simp [Op.eqFields, go_sem]
  by_cases h1 : a = c <;> by_cases h2 : b = d <;> by_cases h3 : t = u <;> simp [h1, h2, h3]
theorem word_check (w : World) (em : Bool) (n : Nat) (a b : Int) : (Instr.checkKey em (n + 2) 64 (.agg #[.int .i64 a, .int .i64 b])).run Try.prog w = .ok () w := by
  unfold Instr.checkKey
  simp only [Sem.run_bind, run_underlying word_under, Result.andThen_ok]
  rw [← Array.forIn_toList, word_fields]
  simp [go_sem, check_int]
theorem acc_check (w : World) (em : Bool) (n : Nat) (a b t : Int) : (Instr.checkKey em (n + 3) 69 (.agg #[.int .i64 a, .int .i64 b, .int .i64 t])).run Try.prog w = .ok () w := by
  unfold Instr.checkKey
  simp only [Sem.run_bind, run_underlying acc_under, Result.andThen_ok]
  rw [← Array.forIn_toList, acc_fields]
  simp [go_sem, check_int, word_check]
theorem sameBits_two (n : Nat) (a b : Int) : Instr.sameBits (n + 2) (.agg #[.int .i64 a, .int .i64 b]) (.agg #[.int .i64 a, .int .i64 b]) = true := by simp [Instr.sameBits]
theorem sameBits_three (n : Nat) (a b c : Int) : Instr.sameBits (n + 2) (.agg #[.int .i64 a, .int .i64 b, .int .i64 c]) (.agg #[.int .i64 a, .int .i64 b, .int .i64 c]) = true := by simp [Instr.sameBits]

theorem word_keys : KeyRuns Try.prog 64 wordK :=
  keyRuns_struct word_under (fun w em k => word_check w em 9998 k.1 k.2)
    (fun w k k' => by
      have h := word_eqd w k.1 k.2 k'.1 k'.2 9998
      have e : decide (k = k') = decide (k.1 = k'.1 ∧ k.2 = k'.2) := by obtain ⟨a, b⟩ := k; obtain ⟨c, d⟩ := k'; simp
      rw [e]; exact h)
    (fun k => sameBits_two 9998 k.1 k.2)
theorem acc_keys : KeyRuns Try.prog 69 accK :=
  keyRuns_struct acc_under (fun w em k => acc_check w em 9997 k.1.1 k.1.2 k.2)
    (fun w k k' => by
      have h := acc_eqd w k.1.1 k.1.2 k.2 k'.1.1 k'.1.2 k'.2 9997
      have e : decide (k = k') = decide ((k.1.1 = k'.1.1 ∧ k.1.2 = k'.1.2) ∧ k.2 = k'.2) := by obtain ⟨⟨a, b⟩, t⟩ := k; obtain ⟨⟨c, d⟩, u⟩ := k'; simp
      rw [e]; exact h)
    (fun k => sameBits_three 9998 k.1.1 k.1.2 k.2)
theorem int_keys : KeyRuns Try.prog 3 intK := keyRuns_int (by kernel_rfl)

/-! ### clocks -/

/-- a clock: a slice value that reads as a list of numbers, in a row of numbers -/
def Clk (w : World) (v : Value) (c : List Int) : Prop :=
  ∃ a cap, v = .slice a c.length cap ∧ c.length ≤ 1000000 ∧ (c ≠ [] → ∃ b o cs fr, a = some ⟨b, o, none⟩ ∧ w.heap[b]? = some (.cells cs 3 fr) ∧ ∀ k, k < c.length → cs[o + k]? = some (.int .i64 (c.getD k 0)))

theorem Clk.nil (w : World) : Clk w (.slice none 0 0) [] := ⟨none, 0, rfl, by simp, by simp⟩

/-- the blocks of S hold no numbers -/
def NoInts (w : World) (S : List Nat) : Prop := ∀ b ∈ S, ∀ cs fr, w.heap[b]? ≠ some (.cells cs 3 fr)

theorem Clk.keep {S : List Nat} {w w' : World} {v : Value} {c : List Int} (h : Clk w v c) (f : Fr S w w') (hS : NoInts w S) : Clk w' v c := by
  obtain ⟨a, cap, rfl, hb, hc⟩ := h
  refine ⟨a, cap, rfl, hb, fun hne => ?_⟩
  obtain ⟨b, o, cs, fr, ha, hh, hk⟩ := hc hne
  exact ⟨b, o, cs, fr, ha, f.obj hh (fun hm => hS b hm cs fr hh), hk⟩
theorem NoInts.nil (w : World) : NoInts w [] := by intro b hb; cases hb
theorem Clk.keep0 {w w' : World} {v : Value} {c : List Int} (h : Clk w v c) (f : Fr [] w w') : Clk w' v c := h.keep f (NoInts.nil w)

theorem Clk.cell {w : World} {v : Value} {c : List Int} (h : Clk w v c) (k : Nat) (hk : k < c.length) :
    ∃ b o cap, v = .slice (some ⟨b, o, none⟩) c.length cap ∧ w.cell? ⟨b, o + k, none⟩ = some (.int .i64 (c.getD k 0)) := by
  obtain ⟨a, cap, rfl, hb, hc⟩ := h
  obtain ⟨b, o, cs, fr, rfl, hh, hk'⟩ := hc (by intro e; subst e; simp at hk)
  exact ⟨b, o, cap, rfl, by rw [cell_of_row _ _ _ _ _ _ hh]; exact hk' k hk⟩
theorem Clk.form {w : World} {v : Value} {c : List Int} (h : Clk w v c) : ∃ a cap, v = .slice a c.length cap ∧ c.length ≤ 1000000 := by
  obtain ⟨a, cap, rfl, hb, hc⟩ := h
  exact ⟨a, cap, rfl, hb⟩

theorem in_yes (a : Int) (w : World) (h1 : 1 ≤ a) (h2 : a ≤ 12) : Calls Try.prog 33 #[.int .i64 a] w fun e w' => e = .returned (.bool true) ∧ w = w' := by
  go_enter Try.func33, Try.ntmps33
  go_wp2
  go_ret
  exact ⟨rfl, rfl⟩
def inB (a : Int) : Bool := decide (1 ≤ a) && decide (a ≤ 12)
theorem in_any (a : Int) (w : World) : Calls Try.prog 33 #[.int .i64 a] w fun e w' => e = .returned (.bool (inB a)) ∧ w = w' := by
  by_cases h1 : 1 ≤ a
  · by_cases h2 : a ≤ 12
    · have hb : inB a = true := by simp [inB, h1, h2]
      rw [hb]; exact in_yes a w h1 h2
    · have hb : inB a = false := by simp [inB]; omega
      rw [hb]; clear hb
      go_enter Try.func33, Try.ntmps33
      go_wp2
      go_ret
      exact ⟨rfl, rfl⟩
  · have hb : inB a = false := by simp [inB]; omega
    rw [hb]; clear hb
    go_enter Try.func33, Try.ntmps33
    go_wp2
    go_ret
    exact ⟨rfl, rfl⟩

set_option maxHeartbeats 400000 in
theorem at_any (w : World) (v : Value) (c : List Int) (i : Int) (h : Clk w v c) (h0 : 0 ≤ i) (hi : i ≤ 1000000) :
    Calls Try.prog 32 #[v, .int .i64 i] w fun e w' => e = .returned (.int .i64 (c.getD i.toNat 0)) ∧ w = w' := by
  obtain ⟨i, rfl⟩ := Int.eq_ofNat_of_zero_le h0
  simp only [Int.toNat_natCast]
  by_cases hlt : i < c.length
  · obtain ⟨b, o, cap, rfl, hcell⟩ := h.cell i hlt
    generalize c.getD i 0 = r at *
    have hb := h.form
    obtain ⟨_, _, _, hb⟩ := hb
    generalize c.length = n at *
    clear h
    go_enter Try.func32, Try.ntmps32
    go_wp2
    go_ret
    exact ⟨rfl, rfl⟩
  · have hz : c.getD i 0 = 0 := by
      simp [List.getD, List.getElem?_eq_none (by omega : c.length ≤ i)]
    rw [hz]
    obtain ⟨a, cap, rfl, hb⟩ := h.form
    generalize c.length = n at *
    clear h hz
    go_enter Try.func32, Try.ntmps32
    go_wp2
    go_ret
    exact ⟨rfl, rfl⟩

/-! ### Join -/
def mx (a b : Int) : Int := if a < b then b else a
def joinL (a b : List Int) : List Int := (List.range 13).map fun i => mx (a.getD i 0) (b.getD i 0)
theorem joinL_len (a b : List Int) : (joinL a b).length = 13 := by simp [joinL]

theorem mk13 (w : World) : (Instr.makeSlice 25 (.int .i64 13) (.int .i64 13)).run Try.prog w = .ok (.slice (some ⟨w.heap.size, 0, none⟩) 13 13) (w.alloc (.cells (Array.replicate 13 (.int .i64 0)) 3)) := by kernel_rfl

structure JRel (w wr : World) (c d : List Int) (k : Nat) : Prop where
  fr : Fr [] w wr
  row : ∃ cs : Array Value, cs.size = 13 ∧ wr.heap[w.heap.size]? = some (.cells cs 3 (0, 0)) ∧ ∀ j, j < k → cs[j]? = some (.int .i64 (mx (c.getD j 0) (d.getD j 0)))

theorem JRel.start (w : World) (c d : List Int) : JRel w (w.alloc (.cells (Array.replicate 13 (.int .i64 0)) 3)) c d 0 :=
  ⟨(Fr.refl _ _).alloc _, _, by simp, heap_alloc_new _ _, by intro j h; omega⟩

theorem JRel.step {w wr : World} {c d : List Int} {k : Nat} {x : Int} (h : JRel w wr c d k) (hk : k < 13) (hx : x = mx (c.getD k 0) (d.getD k 0)) : JRel w (wr.setCell ⟨w.heap.size, k, none⟩ (.int .i64 x)) c d (k + 1) := by
  subst hx
  obtain ⟨hf, cs, hs, hh, hc⟩ := h
  refine ⟨hf.setCell (Or.inr (Nat.le_refl _)) _, cs.setIfInBounds k (.int .i64 (mx (c.getD k 0) (d.getD k 0))), by simpa using hs, ?_, ?_⟩
  · exact heap_setCell_same _ _ _ _ _ _ hh
  · intro j hj
    by_cases e : j = k
    · subst e; simp [hs, hk]
    · rw [Array.getElem?_setIfInBounds_ne (by omega)]; exact hc j (by omega)

theorem JRel.cell {w wr : World} {c d : List Int} {k : Nat} (h : JRel w wr c d k) (hk : k < 13) : ∃ v, wr.cell? ⟨w.heap.size, k, none⟩ = some v := by
  obtain ⟨hf, cs, hs, hh, hc⟩ := h
  exact ⟨cs[k], by rw [cell_of_row _ _ _ _ _ _ hh]; simp [hs, hk]⟩
theorem JRel.free {w wr : World} {c d : List Int} {k : Nat} (h : JRel w wr c d k) (j : Nat) : wr.frozen? ⟨w.heap.size, j, none⟩ = false := by
  obtain ⟨hf, cs, hs, hh, hc⟩ := h
  exact frozen_of_row _ _ _ _ _ hh
theorem JRel.done {w wr : World} {c d : List Int} (h : JRel w wr c d 13) : ∃ cs, wr.heap[w.heap.size]? = some (.cells cs 3 (0, 0)) ∧ cs.size = 13 ∧ ∀ k, k < 13 → cs[k]? = some (.int .i64 ((joinL c d).getD k 0)) := by
  obtain ⟨hf, cs, hs, hh, hc⟩ := h
  refine ⟨cs, hh, hs, fun k hk => ?_⟩
  rw [hc k hk]
  simp [joinL, List.getD, hk]

/-- a new clock: a row of its own of thirteen numbers -/
def Fresh (w w' : World) (v : Value) (c : List Int) : Prop :=
  ∃ g cs, v = .slice (some ⟨g, 0, none⟩) 13 13 ∧ w.heap.size ≤ g ∧ w'.heap[g]? = some (.cells cs 3 (0, 0)) ∧ cs.size = 13 ∧ c.length = 13 ∧ ∀ k, k < 13 → cs[k]? = some (.int .i64 (c.getD k 0))

theorem Fresh.clk {w w' : World} {v : Value} {c : List Int} (h : Fresh w w' v c) : Clk w' v c := by
  obtain ⟨g, cs, rfl, hg, hh, hs, hl, hk⟩ := h
  refine ⟨_, 13, by rw [hl], by omega, fun _ => ⟨g, 0, cs, _, rfl, hh, fun k hk' => ?_⟩⟩
  rw [Nat.zero_add]; exact hk k (by omega)

set_option maxHeartbeats 400000 in
theorem join_any (w : World) (v u : Value) (c d : List Int) (hv : Clk w v c) (hu : Clk w u d) :
    Calls Try.prog 11 #[v, u] w fun e w' => ∃ r, e = .returned r ∧ Fresh w w' r (joinL c d) ∧ Fr [] w w' := by
  have hmk := mk13
  go_enter Try.func11, Try.ntmps11
  go_wp2
  go_loopw [10] (fun i wr => ∃ k : Nat, k ≤ 13 ∧ i = .int .i64 k ∧ JRel w wr c d k)
    (fun i _ => 13 - (intOf i).toNat)
  case atStart => exact ⟨0, by omega, rfl, JRel.start _ _ _⟩
  case round =>
    obtain ⟨k, hk, rfl, hj⟩ := hrel
    clear hmk
    by_cases hlt : k < 13
    · obtain ⟨ov, hcell⟩ := hj.cell hlt
      have hfree := hj.free k
      go_wp2_with fail
      refine (at_any wr v c k (hv.keep0 hj.fr) (by omega) (by omega)).mono ?_
      rintro e w' ⟨rfl, rfl⟩
      go_wp2_with fail
      refine (at_any wr u d k (hu.keep0 hj.fr) (by omega) (by omega)).mono ?_
      rintro e w' ⟨rfl, rfl⟩
      go_wp2_with fail
      go_roundw
      case rel => exact ⟨k + 1, by omega, by go_num, hj.step hlt (by simp [mx])⟩
      case measure => simp [intOf]; omega
    · obtain rfl : k = 13 := by omega
      go_wp2
      go_ret
      obtain ⟨cs, h1, h2, h3⟩ := hj.done
      exact ⟨_, rfl, ⟨_, cs, rfl, Nat.le_refl _, h1, h2, joinL_len _ _, h3⟩, hj.fr⟩

/-! ### Before -/
def leL (a b : List Int) : Bool := (List.range (max a.length b.length)).all fun i => decide (a.getD i 0 ≤ b.getD i 0)
def leTo (a b : List Int) (n : Nat) : Prop := ∀ i, i < n → a.getD i 0 ≤ b.getD i 0

theorem leL_true {a b : List Int} (h : leTo a b (max a.length b.length)) : leL a b = true := by
  unfold leL
  rw [List.all_eq_true]
  intro i hi
  simpa using h i (by simpa using hi)
theorem leL_false {a b : List Int} {k : Nat} (hk : k < max a.length b.length) (h : b.getD k 0 < a.getD k 0) : leL a b = false := by
  unfold leL
  rw [List.all_eq_false]
  exact ⟨k, by simpa using hk, by simpa using h⟩
theorem leTo.succ {a b : List Int} {n : Nat} (h : leTo a b n) (hn : a.getD n 0 ≤ b.getD n 0) : leTo a b (n + 1) := by
  intro i hi
  by_cases e : i = n
  · subst e; exact hn
  · exact h i (by omega)

set_option maxHeartbeats 400000 in
theorem before_any (w : World) (v u : Value) (c d : List Int) (hv : Clk w v c) (hu : Clk w u d) :
    Calls Try.prog 12 #[v, u] w fun e w' => e = .returned (.bool (leL c d)) ∧ w = w' := by
  obtain ⟨a1, cap1, e1, hb1⟩ := hv.form
  obtain ⟨a2, cap2, e2, hb2⟩ := hu.form
  subst e1; subst e2
  go_enter Try.func12, Try.ntmps12
  go_wp2
  refine wp_scope_L 0 (fun n a' w' => w = w' ∧ ∃ (k : Nat) (u6 u7 u8 u9 u10 u11 u12 u13 u14 u15 u16 u17 u18 u19 u20 u21 : Value), a' = { tmps := #[.slice a1 c.length cap1, .slice a2 d.length cap2, undef, undef, .bool false, .int .i64 k, u6, u7, u8, u9, u10, u11, u12, u13, u14, u15, u16, u17, u18, u19, u20, u21], defers := [] } ∧ n + k = max c.length d.length ∧ leTo c d k) rfl ?_ ?_
  · rintro n a' w' ⟨rfl, k, u6, u7, u8, u9, u10, u11, u12, u13, u14, u15, u16, u17, u18, u19, u20, u21, rfl, hn, hle⟩
    have hmx : (c.length < d.length ∧ max c.length d.length = d.length) ∨ (d.length ≤ c.length ∧ max c.length d.length = c.length) := by omega
    by_cases hlt : k = max c.length d.length
    · have e1 := leL_true (a := c) (b := d) (by rw [← hlt]; exact hle)
      have E1 := hid e1
      clear hv hu hle e1
      generalize c.length = n1 at *
      generalize d.length = n2 at *
      rcases hmx with ⟨h1, h2⟩ | ⟨h1, h2⟩
      all_goals
        have h3 : (k : Int) = _ := congrArg Nat.cast (hlt.trans h2)
        have H3 := hid h3
        have H4 := hid h2
        obtain rfl := hlt.trans h2
        clear h2 h3 hlt hn
        go_wp2
        simp only [Exit.jump]
        go_ret
        exact ⟨congrArg (fun b => Ending.returned (Value.bool b)) E1.out.symm, rfl⟩
    · have hk : k < max c.length d.length := by omega
      have ha := at_any w _ c k hv (by omega) (by omega)
      have hb := at_any w _ d k hu (by omega) (by omega)
      simp only [Int.toNat_natCast] at ha hb
      have HA := hid ha
      have HB := hid hb
      have hk2 : k < c.length ∨ k < d.length := by omega
      clear hv hu ha hb
      by_cases hcmp : d.getD k 0 < c.getD k 0
      · have E1 := hid (leL_false hk hcmp)
        clear hle hlt
        generalize c.getD k 0 = x at *
        generalize d.getD k 0 = y at *
        generalize c.length = n1 at *
        generalize d.length = n2 at *
        rcases hmx with ⟨h1, h2⟩ | ⟨h1, h2⟩
        all_goals
          rw [h2] at hk
          clear h2 hn hk2
          go_wp2_with fail
          refine HA.out.mono ?_
          rintro e w' ⟨rfl, rfl⟩
          go_wp2_with fail
          refine HB.out.mono ?_
          rintro e w' ⟨rfl, rfl⟩
          go_wp2_with fail
          simp only [Exit.jump]
          go_ret
          exact ⟨congrArg (fun b => Ending.returned (Value.bool b)) E1.out.symm, rfl⟩
      · have HL := hid (hle.succ (by omega))
        have HN := hid hn
        have HM := hid hmx
        clear hle hlt
        generalize c.getD k 0 = x at *
        generalize d.getD k 0 = y at *
        have hkb : k ≤ 1000000 := by omega
        rcases hmx with ⟨h1, h2⟩ | ⟨h1, h2⟩
        all_goals
          rw [h2] at hk
          clear h2 hn hk2
          go_wp2_with fail
          refine HA.out.mono ?_
          rintro e w' ⟨rfl, rfl⟩
          go_wp2_with fail
          refine HB.out.mono ?_
          rintro e w' ⟨rfl, rfl⟩
          go_wp2_with fail
          go_step3
          have hN := HN.out
          have hM := HM.out
          exact ⟨rfl, n - 1, by omega, rfl, k + 1, _, _, _, _, _, _, _, _, _, _, _, _, _, _, _, _, rfl, by omega, HL.out⟩
  · intro hp
    go_wp2
    rename_i K hK
    go_step3
    exact hK _ _ (hp _ _ _ ⟨rfl, 0, _, _, _, _, _, _, _, _, _, _, _, _, _, _, _, _, rfl, rfl, fun i hi => by omega⟩)

end Go.Proofs.Ytjkakhjajfpldaa
