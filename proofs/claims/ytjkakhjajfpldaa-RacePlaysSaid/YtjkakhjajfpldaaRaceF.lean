/-
  Package race: New, Read, Write, Clock.
-/
import Derived.Test.YtjkakhjajfpldaaRaceE
namespace Go.Proofs.Ytjkakhjajfpldaa
open Go.RowKit

def St.readP (s : St) (t : Int) (k : Int × Int) : Bool × St :=
  let r := unord s.writes (s.th.getD t.toNat []) t k
  (r, ({ s with reads := lput s.reads (k, t) (s.th.getD t.toNat []) } : St).count r)
def St.writeP (s : St) (t : Int) (k : Int × Int) : Bool × St :=
  let r := unord s.writes (s.th.getD t.toNat []) t k || unord s.reads (s.th.getD t.toNat []) t k
  (r, ({ s with writes := lput s.writes (k, t) (s.th.getD t.toNat []) } : St).count r)
def St.read (s : St) (t a i : Int) (vol : Bool) : Bool × St :=
  if inB t = true then (if vol = true then (false, s.acqWord t (a, i)) else s.readP t (a, i)) else (false, s)
def St.write (s : St) (t a i : Int) (vol : Bool) : Bool × St :=
  if inB t = true then (if vol = true then (false, s.relWord t (a, i)) else s.writeP t (a, i)) else (false, s)

abbrev boxW (w : World) (a i : Int) : World := w.alloc (.cells #[.int .i64 a, .int .i64 i] 64)

set_option maxHeartbeats 1000000 in
theorem read_any (w : World) (p : Ptrs) (s : St) (t a i : Int) (vol : Bool) (h : Watch w p s) :
    Calls Try.prog 14 #[.pointer (some ⟨p.b, 0, none⟩), .int .i64 t, .int .i64 a, .int .i64 i, .bool vol] w fun e w' => e = .returned (.bool (s.read t a i vol).1) ∧ Watch w' p (s.read t a i vol).2 ∧ Fr p.S w w' := by
  have fA : Fr [] w (w.alloc (.cells #[.int .i64 a, .int .i64 i] 64)) := (Fr.refl _ _).alloc _
  have hA := h.keep0 fA
  by_cases hb : inB t = true
  · cases vol with
    | true =>
      have hs : s.read t a i true = (false, s.acqWord t (a, i)) := by simp [St.read, hb]
      rw [hs]
      obtain ⟨_, _, hcW, _⟩ := hA.cells
      have HC := hid (in_is t (w.alloc (.cells #[.int .i64 a, .int .i64 i] 64)) true hb)
      have HA := hid (acquires_word _ p s p.wd s.words t (a, i) hA.drew hA.drew.words)
      have HF := hid fA
      clear hs hb hA h fA
      go_enter Try.func14, Try.ntmps14
      go_wp2_with fail
      refine HC.out.mono ?_
      rintro e w' ⟨rfl, rfl⟩
      go_wp2_with fail
      go_region_with (go_at_call 34; refine HA.out.mono ?_; rintro e w1 ⟨rfl, hw1, f1⟩)
      all_goals
        go_wp2_with fail
        go_ret
        exact ⟨rfl, hw1, ((HF.out.drew.sub (S' := p.S) (by simp)).tr f1)⟩
    | false =>
      have hs : s.read t a i false = s.readP t (a, i) := by simp [St.read, hb]
      rw [hs]
      obtain ⟨t, rfl, h1, h2⟩ := inB_nat hb
      unfold St.readP
      simp only [Int.toNat_natCast]
      obtain ⟨_, _, hcW, hcR, hcWr, _⟩ := hA.cells
      obtain ⟨v, hcell, hv⟩ := hA.thread t (by omega)
      have ht13 : (t : Int) < 13 := by omega
      have ht0 : (0 : Int) ≤ t := by omega
      have HC := hid (in_is t (w.alloc (.cells #[.int .i64 a, .int .i64 i] 64)) true hb)
      have HU := hid (unordered_any _ p s p.wr s.writes t h1 h2 (a, i) hA.drew hA.drew.writes)
      generalize unord s.writes (s.th.getD t []) t (a, i) = r at *
      have HF := hid fA
      have hb0 : (w.alloc (.cells #[.int .i64 a, .int .i64 i] 64)).drew.cell? ⟨w.heap.size, 0, none⟩ = some (.int .i64 a) := by simp
      have hb1 : (w.alloc (.cells #[.int .i64 a, .int .i64 i] 64)).drew.cell? ⟨w.heap.size, 1, none⟩ = some (.int .i64 i) := by simp
      have HB0 := hid hb0
      have HB1 := hid hb1
      have H := hid hA.drew
      clear hs hb hA h fA hb0 hb1 hv
      go_enter Try.func14, Try.ntmps14
      go_wp2_with fail
      refine HC.out.mono ?_
      rintro e w' ⟨rfl, rfl⟩
      go_wp2_with fail
      go_region_with (go_at_call 35; refine HU.out.mono ?_; rintro e w1 ⟨rfl, f1⟩)
      all_goals
        have h1 := H.out.keep0 f1
        have kb0 := f1.cell HB0.out (by simp)
        have kb1 := f1.cell HB1.out (by simp)
        obtain ⟨v1, kc, hv1⟩ := h1.thread t (by omega)
        obtain ⟨_, _, kcW, kcR, kcWr, _⟩ := h1.cells
        obtain ⟨w2, hrun, hm2, f2, _⟩ := CMap.store h1.drew.reads acc_keys und_accs ((a, i), (t : Int)) (hv1.keep0 (Fr.refl _ _).drew)
        have H2 := hid (h1.drew.putReads f2 hm2)
        have F2 := hid ((((HF.out.drew.tr0 f1).drew).sub (S' := p.S) (by simp)).trans f2 (by simp [Ptrs.S]))
        simp only [accK] at hrun
        clear hm2 f2 hv1 h1 f1
        go_wp2_with fail
        go_region
        all_goals
          go_wp2_with fail
          refine (counts_any w2 p _ r H2.out).mono ?_
          rintro e w3 ⟨rfl, h3, f3⟩
          go_wp2_with fail
          go_ret
          exact ⟨rfl, h3, F2.out.tr f3⟩
  · have hs : s.read t a i vol = (false, s) := by simp [St.read, hb]
    rw [hs]
    have HC := hid (in_is t (w.alloc (.cells #[.int .i64 a, .int .i64 i] 64)) false (Bool.eq_false_iff.2 hb))
    have H := hid hA
    have HF := hid fA
    clear hs hb hA h fA
    go_enter Try.func14, Try.ntmps14
    go_wp2_with fail
    refine HC.out.mono ?_
    rintro e w' ⟨rfl, rfl⟩
    go_wp2_with fail
    go_ret
    exact ⟨rfl, H.out, HF.out.sub (by simp)⟩

/-! ### Clock -/
theorem rep13 (k : Nat) (hk : k < 13) : (Array.replicate 13 (Value.int .i64 0))[k]? = some (.int .i64 ((List.replicate 13 (0 : Int)).getD k 0)) := by
  rw [Array.getElem?_replicate, if_pos hk, List.getD, List.getElem?_replicate, if_pos hk]; rfl
def St.clock (s : St) (t : Int) : List Int := if inB t = true then joinL (s.th.getD t.toNat []) [] else List.replicate 13 0
set_option maxHeartbeats 400000 in
theorem clock_any (w : World) (p : Ptrs) (s : St) (t : Int) (h : Watch w p s) :
    Calls Try.prog 30 #[.pointer (some ⟨p.b, 0, none⟩), .int .i64 t] w fun e w' => ∃ r, e = .returned r ∧ Fresh w w' r (s.clock t) ∧ Fr [] w w' := by
  by_cases hb : inB t = true
  · have hs : s.clock t = joinL (s.th.getD t.toNat []) [] := by simp [St.clock, hb]
    rw [hs]
    obtain ⟨t, rfl, h1, h2⟩ := inB_nat hb
    simp only [Int.toNat_natCast]
    obtain ⟨v, hcell, hv⟩ := h.thread t (by omega)
    have ht13 : (t : Int) < 13 := by omega
    have ht0 : (0 : Int) ≤ t := by omega
    have HC := hid (in_is t w true hb)
    have HJ := hid (join_any w v (.slice none 0 0) _ [] hv (Clk.nil w))
    clear hs hb h hv
    go_enter Try.func30, Try.ntmps30
    go_wp2_with fail
    refine HC.out.mono ?_
    rintro e w' ⟨rfl, rfl⟩
    go_wp2_with fail
    refine HJ.out.mono ?_
    rintro e w1 ⟨r, rfl, hr, f1⟩
    go_wp2_with fail
    go_ret
    exact ⟨r, rfl, hr, f1⟩
  · have hs : s.clock t = List.replicate 13 0 := by simp [St.clock, hb]
    rw [hs]
    have HC := hid (in_is t w false (Bool.eq_false_iff.2 hb))
    have hmk := mk13
    clear hs hb h
    go_enter Try.func30, Try.ntmps30
    go_wp2_with fail
    refine HC.out.mono ?_
    rintro e w' ⟨rfl, rfl⟩
    go_wp2_with fail
    go_ret
    refine ⟨_, rfl, ⟨w.heap.size, Array.replicate 13 (.int .i64 0), rfl, Nat.le_refl _, heap_alloc_new _ _, by simp, by simp, rep13⟩, (Fr.refl _ _).alloc _⟩

end Go.Proofs.Ytjkakhjajfpldaa
