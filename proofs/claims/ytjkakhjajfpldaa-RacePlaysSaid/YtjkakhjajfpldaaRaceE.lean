/-
  Package race: the walks of a watch's methods, the third part.
-/
import Derived.Test.YtjkakhjajfpldaaRaceD
namespace Go.Proofs.Ytjkakhjajfpldaa
open Go.RowKit

theorem Watch.keepMap {K : Type} {w w' : World} {b : Nat} {kv : K → Value} {m : List (K × List Int)} (h : CMap w b kv m) (f : Fr [] w w') : CMap w' b kv m := h.keep f (by simp) (NoInts.nil w)

def St.relLock (s : St) (t k : Int) : St := if inB t = true then ({ s with locks := lput s.locks k (joinL ((lget s.locks k).getD []) (s.th.getD t.toNat [])) } : St).tick t.toNat else s
def St.relWord (s : St) (t : Int) (k : Int × Int) : St := if inB t = true then ({ s with words := lput s.words k (joinL ((lget s.words k).getD []) (s.th.getD t.toNat [])) } : St).tick t.toNat else s
def St.acqLock (s : St) (t k : Int) : St := s.acq t ((lget s.locks k).getD [])
def St.acqWord (s : St) (t : Int) (k : Int × Int) : St := s.acq t ((lget s.words k).getD [])

set_option maxHeartbeats 2000000 in
theorem releases_int (w : World) (p : Ptrs) (s : St) (t : Int) (k : Int) (h : Watch w p s) :
    Calls Try.prog 39 #[.pointer (some ⟨p.b, 0, none⟩), .map (some p.l), .int .i64 t, .int .i64 k] w fun e w' => e = .returned (.tuple #[]) ∧ Watch w' p (s.relLock t k) ∧ Fr p.S w w' := by
  have fA : Fr [] w w := Fr.refl _ _
  have hA := h
  by_cases hb : inB t = true
  · have hs : s.relLock t k = ({ s with locks := lput s.locks k (joinL ((lget s.locks k).getD []) (s.th.getD t.toNat [])) } : St).tick t.toNat := by simp [St.relLock, hb]
    rw [hs]
    obtain ⟨t, rfl, h1, h2⟩ := inB_nat hb
    simp only [Int.toNat_natCast]
    obtain ⟨v, hcell, hv⟩ := hA.thread t (by omega)
    have fD : Fr [] w (w).drew := fA.drew
    have hD := h.keep0 fD
    obtain ⟨u, hrun, hu⟩ := CMap.look hD.locks int_keys und_ends zero_clock k false
    have ht13 : (t : Int) < 13 := by omega
    have ht0 : (0 : Int) ≤ t := by omega
    have HC := hid (in_is t (w) true hb)
    have HJ := hid (join_any _ u v _ _ hu (hv.keep0 (Fr.refl _ _).drew))
    have H := hid hD
    have F := hid fD
    simp only [intK, Bool.false_eq_true, if_false] at hrun
    clear hb hs hv hu h h1 h2 fD hA fA hD
    go_enter Try.func39, Try.ntmps39
    go_wp2_with fail
    refine HC.out.mono ?_
    rintro e w' ⟨rfl, rfl⟩
    go_wp2_with fail
    go_region_with (go_at_call 11; refine HJ.out.mono ?_; rintro e w1 ⟨r, rfl, hr, f⟩; obtain ⟨g, rfl⟩ := hr.form; obtain ⟨w2, hrun2, hm2, f2, _⟩ := CMap.store (Watch.keepMap H.out.locks f) int_keys und_ends k hr.clk; simp only [intK] at hrun2)
    all_goals
      have hw2 := (H.out.keep0 f).putLocks f2 hm2
      have F2 := hid (((F.out.tr f).sub (S' := p.S) (by simp)).trans f2 (by simp [Ptrs.S]))
      go_wp2_with fail
      refine (ticks_any w2 p _ t (by omega) hw2).mono ?_
      rintro e w3 ⟨rfl, hw3, f3⟩
      go_wp2_with fail
      go_end0
      exact ⟨rfl, hw3, F2.out.tr f3⟩
  · have hs : s.relLock t k = s := by simp [St.relLock, hb]
    rw [hs]
    have HC := hid (in_is t (w) false (Bool.eq_false_iff.2 hb))
    clear hb hs
    go_enter Try.func39, Try.ntmps39
    go_wp2_with fail
    refine HC.out.mono ?_
    rintro e w' ⟨rfl, rfl⟩
    go_wp2_with fail
    go_end0
    exact ⟨rfl, hA, fA.sub (by simp)⟩

set_option maxHeartbeats 2000000 in
theorem releases_word (w : World) (p : Ptrs) (s : St) (t : Int) (k : Int × Int) (h : Watch w p s) :
    Calls Try.prog 37 #[.pointer (some ⟨p.b, 0, none⟩), .map (some p.wd), .int .i64 t, .agg #[.int .i64 k.1, .int .i64 k.2]] w fun e w' => e = .returned (.tuple #[]) ∧ Watch w' p (s.relWord t k) ∧ Fr p.S w w' := by
  have fA : Fr [] w (w.alloc (.cells #[.int .i64 k.1, .int .i64 k.2] 64)) := (Fr.refl _ _).alloc _
  have hA := h.keep0 fA
  by_cases hb : inB t = true
  · have hs : s.relWord t k = ({ s with words := lput s.words k (joinL ((lget s.words k).getD []) (s.th.getD t.toNat [])) } : St).tick t.toNat := by simp [St.relWord, hb]
    rw [hs]
    obtain ⟨t, rfl, h1, h2⟩ := inB_nat hb
    simp only [Int.toNat_natCast]
    obtain ⟨v, hcell, hv⟩ := hA.thread t (by omega)
    have fD : Fr [] w (w.alloc (.cells #[.int .i64 k.1, .int .i64 k.2] 64)).drew := fA.drew
    have hD := h.keep0 fD
    obtain ⟨u, hrun, hu⟩ := CMap.look hD.words word_keys und_words zero_clock k false
    have ht13 : (t : Int) < 13 := by omega
    have ht0 : (0 : Int) ≤ t := by omega
    have hb0 : ((w.alloc (.cells #[.int .i64 k.1, .int .i64 k.2] 64)).drew).cell? ⟨w.heap.size, 0, none⟩ = some (.int .i64 k.1) := by simp
    have hb1 : ((w.alloc (.cells #[.int .i64 k.1, .int .i64 k.2] 64)).drew).cell? ⟨w.heap.size, 1, none⟩ = some (.int .i64 k.2) := by simp
    have HB0 := hid hb0
    have HB1 := hid hb1
    clear hb0 hb1
    have HC := hid (in_is t (w.alloc (.cells #[.int .i64 k.1, .int .i64 k.2] 64)) true hb)
    have HJ := hid (join_any _ u v _ _ hu (hv.keep0 (Fr.refl _ _).drew))
    have H := hid hD
    have F := hid fD
    simp only [wordK, Bool.false_eq_true, if_false] at hrun
    clear hb hs hv hu h h1 h2 fD hA fA hD
    go_enter Try.func37, Try.ntmps37
    go_wp2_with fail
    refine HC.out.mono ?_
    rintro e w' ⟨rfl, rfl⟩
    go_wp2_with fail
    go_region_with (go_at_call 11; refine HJ.out.mono ?_; rintro e w1 ⟨r, rfl, hr, f⟩; obtain ⟨g, rfl⟩ := hr.form; have kb0 := f.cell HB0.out (by simp); have kb1 := f.cell HB1.out (by simp); obtain ⟨w2, hrun2, hm2, f2, _⟩ := CMap.store (Watch.keepMap H.out.words f) word_keys und_words k hr.clk; simp only [wordK] at hrun2)
    all_goals
      have hw2 := (H.out.keep0 f).putWords f2 hm2
      have F2 := hid (((F.out.tr f).sub (S' := p.S) (by simp)).trans f2 (by simp [Ptrs.S]))
      go_wp2_with fail
      refine (ticks_any w2 p _ t (by omega) hw2).mono ?_
      rintro e w3 ⟨rfl, hw3, f3⟩
      go_wp2_with fail
      go_end0
      exact ⟨rfl, hw3, F2.out.tr f3⟩
  · have hs : s.relWord t k = s := by simp [St.relWord, hb]
    rw [hs]
    have HC := hid (in_is t (w.alloc (.cells #[.int .i64 k.1, .int .i64 k.2] 64)) false (Bool.eq_false_iff.2 hb))
    clear hb hs
    go_enter Try.func37, Try.ntmps37
    go_wp2_with fail
    refine HC.out.mono ?_
    rintro e w' ⟨rfl, rfl⟩
    go_wp2_with fail
    go_end0
    exact ⟨rfl, hA, fA.sub (by simp)⟩

set_option maxHeartbeats 400000 in
theorem acquire_any (w : World) (p : Ptrs) (s : St) (t k : Int) (h : Watch w p s) :
    Calls Try.prog 16 #[.pointer (some ⟨p.b, 0, none⟩), .int .i64 t, .int .i64 k] w fun e w' => e = .returned (.tuple #[]) ∧ Watch w' p (s.acqLock t k) ∧ Fr p.S w w' := by
  obtain ⟨_, hcL, _⟩ := h.cells
  have HA := hid (acquires_int w p s p.l s.locks t k h h.locks)
  clear h
  go_enter Try.func16, Try.ntmps16
  go_wp2_with fail
  refine HA.out.mono ?_
  rintro e w' ⟨rfl, h1, h2⟩
  go_wp2_with fail
  go_end0
  exact ⟨rfl, h1, h2⟩
set_option maxHeartbeats 400000 in
theorem release_any (w : World) (p : Ptrs) (s : St) (t k : Int) (h : Watch w p s) :
    Calls Try.prog 17 #[.pointer (some ⟨p.b, 0, none⟩), .int .i64 t, .int .i64 k] w fun e w' => e = .returned (.tuple #[]) ∧ Watch w' p (s.relLock t k) ∧ Fr p.S w w' := by
  obtain ⟨_, hcL, _⟩ := h.cells
  have HA := hid (releases_int w p s t k h)
  clear h
  go_enter Try.func17, Try.ntmps17
  go_wp2_with fail
  refine HA.out.mono ?_
  rintro e w' ⟨rfl, h1, h2⟩
  go_wp2_with fail
  go_end0
  exact ⟨rfl, h1, h2⟩

/-! ### races are counted -/
def St.count (s : St) (r : Bool) : St := if r = true then { s with races := wrap64 (s.races + 1) } else s
set_option maxHeartbeats 400000 in
theorem counts_any (w : World) (p : Ptrs) (s : St) (r : Bool) (h : Watch w p s) :
    Calls Try.prog 36 #[.pointer (some ⟨p.b, 0, none⟩), .bool r] w fun e w' => e = .returned (.bool r) ∧ Watch w' p (s.count r) ∧ Fr p.S w w' := by
  obtain ⟨_, _, _, _, _, hcR⟩ := h.cells
  have hfree := h.free 18
  cases r with
  | true =>
    have H2 := hid (h.setRaces (wrap64 (s.races + 1)))
    have F := hid ((Fr.refl p.S w).setCell (p := ⟨p.b, 18, none⟩) (Or.inl (by simp [Ptrs.S])) (.int .i64 (wrap64 (s.races + 1))))
    have e : s.count true = { s with races := wrap64 (s.races + 1) } := by simp [St.count]
    rw [e]
    clear h e
    go_enter Try.func36, Try.ntmps36
    go_wp2
    go_ret
    exact ⟨rfl, H2.out, F.out⟩
  | false =>
    have e : s.count false = s := by simp [St.count]
    rw [e]
    have H := hid h
    clear h e
    go_enter Try.func36, Try.ntmps36
    go_wp2
    go_ret
    exact ⟨rfl, H.out, Fr.refl _ _⟩
set_option maxHeartbeats 400000 in
theorem races_any (w : World) (p : Ptrs) (s : St) (h : Watch w p s) :
    Calls Try.prog 18 #[.pointer (some ⟨p.b, 0, none⟩)] w fun e w' => e = .returned (.int .i64 s.races) ∧ w = w' := by
  obtain ⟨_, _, _, _, _, hcR⟩ := h.cells
  clear h
  go_enter Try.func18, Try.ntmps18
  go_wp2
  go_ret
  exact ⟨rfl, rfl⟩

/-! ### unordered -/
def unordAt (m : List (((Int × Int) × Int) × List Int)) (c : List Int) (t : Int) (x : Int × Int) (o : Int) : Bool :=
  match lget m (x, o) with | some d => decide (o ≠ t) && !leL d c | none => false
def unord (m : List (((Int × Int) × Int) × List Int)) (c : List Int) (t : Int) (x : Int × Int) : Bool := (List.range 12).any fun i => unordAt m c t x (i + 1)

theorem unord_true {m : List (((Int × Int) × Int) × List Int)} {c : List Int} {t : Int} {x : Int × Int} {k : Nat} (hk : k < 12) (h : unordAt m c t x (k + 1) = true) : unord m c t x = true :=
  List.any_eq_true.2 ⟨k, by simpa using hk, h⟩
theorem unord_false {m : List (((Int × Int) × Int) × List Int)} {c : List Int} {t : Int} {x : Int × Int} (h : ∀ k : Nat, k < 12 → unordAt m c t x (k + 1) = false) : unord m c t x = false := by
  unfold unord
  rw [List.any_eq_false]
  intro k hk
  rw [h k (by simpa using hk)]; simp

set_option maxHeartbeats 800000 in
theorem unordered_any (w : World) (p : Ptrs) (s : St) (x : Nat) (m : List (((Int × Int) × Int) × List Int)) (t : Nat) (h1 : 1 ≤ t) (h2 : t ≤ 12) (k : Int × Int) (h : Watch w p s) (hm : CMap w x accK m) :
    Calls Try.prog 35 #[.pointer (some ⟨p.b, 0, none⟩), .map (some x), .int .i64 t, .agg #[.int .i64 k.1, .int .i64 k.2]] w fun e w' => e = .returned (.bool (unord m (s.th.getD t []) t k)) ∧ Fr [] w w' := by
  have fA : Fr [] w (w.alloc (.cells #[.int .i64 k.1, .int .i64 k.2] 64)) := (Fr.refl _ _).alloc _
  have hA := h.keep0 fA
  have hmA := Watch.keepMap hm fA
  obtain ⟨v, hcell, hv⟩ := hA.thread t (by omega)
  have ht13 : (t : Int) < 13 := by omega
  have ht0 : (0 : Int) ≤ t := by omega
  have HF := hid fA
  clear h hm hA fA
  generalize s.th.getD t [] = cl at *
  go_enter Try.func35, Try.ntmps35
  go_wp2
  go_loop [9] (fun o => ∃ i : Nat, i ≤ 12 ∧ o = .int .i64 (i + 1) ∧ Hid (∀ j : Nat, j < i → unordAt m cl t k (j + 1) = false)) (fun o => 13 - (intOf o).toNat)
  case atStart => exact ⟨0, by omega, rfl, fun j hj => by omega⟩
  case round =>
    obtain ⟨i, hi, rfl, hno⟩ := hrel
    by_cases hlt : i < 12
    · have hlt' : (i : Int) + 1 ≤ 12 := by omega
      obtain ⟨u, hrun, hu⟩ := CMap.look hmA acc_keys und_accs zero_clock (k, (i : Int) + 1) true
      simp only [accK, if_true] at hrun
      cases ho : lget m (k, (i : Int) + 1) with
      | none =>
        have hN := hid (show unordAt m cl t k (i + 1) = false by unfold unordAt; rw [ho])
        rw [ho] at hrun
        simp only [Option.isSome_none] at hrun
        clear ho hu
        go_wp2_with fail
        go_round
        case rel => exact ⟨i + 1, by omega, by go_num, fun j hj => by
          by_cases e : j = i
          · subst e; exact hN.out
          · exact hno.out j (by omega)⟩
        case measure => simp [intOf]; omega
      | some d =>
        rw [ho] at hrun hu
        simp only [Option.isSome_some, Option.getD_some] at hrun hu
        by_cases het : (i : Int) + 1 = t
        · have hN := hid (show unordAt m cl t k (i + 1) = false by unfold unordAt; rw [ho]; simp [het])
          have hne : ((i : Int) + 1 != t) = false := by simp [het]
          clear ho hu het
          go_wp2_with fail
          go_round
          case rel => exact ⟨i + 1, by omega, by go_num, fun j hj => by
            by_cases e : j = i
            · subst e; exact hN.out
            · exact hno.out j (by omega)⟩
          case measure => simp [intOf]; omega
        · have hne : ((i : Int) + 1 != t) = true := by simpa using het
          have hB := before_any _ u v d cl hu hv
          cases hle : leL d cl with
          | true =>
            have hN := hid (show unordAt m cl t k (i + 1) = false by unfold unordAt; rw [ho]; simp [hle])
            rw [hle] at hB
            have HB := hid hB
            clear ho hu het hB hle
            go_wp2_with fail
            refine HB.out.mono ?_
            rintro e w' ⟨rfl, rfl⟩
            go_wp2_with fail
            go_round
            case rel => exact ⟨i + 1, by omega, by go_num, fun j hj => by
              by_cases e : j = i
              · subst e; exact hN.out
              · exact hno.out j (by omega)⟩
            case measure => simp [intOf]; omega
          | false =>
            have hY := hid (unord_true hlt (show unordAt m cl t k (i + 1) = true by unfold unordAt; rw [ho]; simp [hle, het]))
            rw [hle] at hB
            have HB := hid hB
            clear ho hu het hB hle
            go_wp2_with fail
            refine HB.out.mono ?_
            rintro e w' ⟨rfl, rfl⟩
            go_wp2_with fail
            go_ret
            exact ⟨congrArg (fun b => Ending.returned (Value.bool b)) hY.out.symm, HF.out⟩
    · obtain rfl : i = 12 := by omega
      have hY := hid (unord_false (fun j hj => hno.out j hj))
      go_wp2_with fail
      go_ret
      exact ⟨congrArg (fun b => Ending.returned (Value.bool b)) hY.out.symm, HF.out⟩

end Go.Proofs.Ytjkakhjajfpldaa
