/-
  Package race: the walks of a watch's methods, the second half.
-/
import Derived.Test.YtjkakhjajfpldaaRaceC
namespace Go.Proofs.Ytjkakhjajfpldaa
open Go.RowKit

def St.acq (s : St) (t : Int) (c : List Int) : St := if inB t = true then { s with th := s.th.set t.toNat (joinL (s.th.getD t.toNat []) c) } else s
def St.joined (s : St) (t o : Int) : St := match lget s.ends o with | some c => s.acq t c | none => s

theorem inB_nat {t : Int} (h : inB t = true) : ∃ n : Nat, t = n ∧ 1 ≤ n ∧ n ≤ 12 := by
  simp only [inB, Bool.and_eq_true, decide_eq_true_eq] at h
  exact ⟨t.toNat, by omega, by omega, by omega⟩

theorem in_is (a : Int) (w : World) (b : Bool) (h : inB a = b) : Calls Try.prog 33 #[.int .i64 a] w fun e w' => e = .returned (.bool b) ∧ w = w' := by
  rw [← h]; exact in_any a w

/-! ### acquires -/
set_option maxHeartbeats 400000 in
theorem acquires_int (w : World) (p : Ptrs) (s : St) (x : Nat) (m : List (Int × List Int)) (t k : Int) (h : Watch w p s) (hm : CMap w x intK m) :
    Calls Try.prog 38 #[.pointer (some ⟨p.b, 0, none⟩), .map (some x), .int .i64 t, .int .i64 k] w fun e w' => e = .returned (.tuple #[]) ∧ Watch w' p (s.acq t ((lget m k).getD [])) ∧ Fr p.S w w' := by
  by_cases hb : inB t = true
  · have hs : s.acq t ((lget m k).getD []) = { s with th := s.th.set t.toNat (joinL (s.th.getD t.toNat []) ((lget m k).getD [])) } := by simp [St.acq, hb]
    rw [hs]
    obtain ⟨t, rfl, h1, h2⟩ := inB_nat hb
    simp only [Int.toNat_natCast]
    obtain ⟨v, hcell, hv⟩ := h.thread t (by omega)
    obtain ⟨u, hrun, hu⟩ := CMap.look (w := w.drew) (hm.keep (Fr.refl [] _).drew (by simp) (NoInts.nil w)) int_keys und_ends zero_clock k false
    have ht13 : (t : Int) < 13 := by omega
    have ht0 : (0 : Int) ≤ t := by omega
    have hfree := h.free t
    have HC := hid (in_is t w true hb)
    have HJ := hid (join_any w.drew v u _ _ (hv.keep0 (Fr.refl _ _).drew) hu)
    have H := hid h
    simp only [intK, Bool.false_eq_true, if_false] at hrun
    clear hb hs hv hu h hm h1 h2
    go_enter Try.func38, Try.ntmps38
    go_wp2_with fail
    refine HC.out.mono ?_
    rintro e w' ⟨rfl, rfl⟩
    go_wp2_with fail
    go_region_with (go_at_call 11; refine HJ.out.mono ?_; rintro e w1 ⟨r, rfl, hr, f⟩; obtain ⟨g, rfl⟩ := hr.form; have k1 := f.cell hcell (by simp); have k3 := f.frozen hcell hfree (by simp))
    all_goals
      obtain ⟨hw2, f2⟩ := H.out.drew.join2 f t (by omega) hr.clk
      go_wp2_with fail
      go_end0
      exact ⟨rfl, hw2, ((Fr.refl p.S w).drew.tr f2)⟩
  · have hs : s.acq t ((lget m k).getD []) = s := by simp [St.acq, hb]
    rw [hs]
    have HC := hid (in_is t w false (Bool.eq_false_iff.2 hb))
    clear hb hs
    go_enter Try.func38, Try.ntmps38
    go_wp2_with fail
    refine HC.out.mono ?_
    rintro e w' ⟨rfl, rfl⟩
    go_wp2_with fail
    go_end0
    exact ⟨rfl, h, Fr.refl _ _⟩

set_option maxHeartbeats 400000 in
theorem acquires_word (w : World) (p : Ptrs) (s : St) (x : Nat) (m : List ((Int × Int) × List Int)) (t : Int) (k : Int × Int) (h : Watch w p s) (hm : CMap w x wordK m) :
    Calls Try.prog 34 #[.pointer (some ⟨p.b, 0, none⟩), .map (some x), .int .i64 t, .agg #[.int .i64 k.1, .int .i64 k.2]] w fun e w' => e = .returned (.tuple #[]) ∧ Watch w' p (s.acq t ((lget m k).getD [])) ∧ Fr p.S w w' := by
  have fA : Fr [] w (w.alloc (.cells #[.int .i64 k.1, .int .i64 k.2] 64)) := (Fr.refl _ _).alloc _
  have hA := h.keep0 fA
  by_cases hb : inB t = true
  · have hs : s.acq t ((lget m k).getD []) = { s with th := s.th.set t.toNat (joinL (s.th.getD t.toNat []) ((lget m k).getD [])) } := by simp [St.acq, hb]
    rw [hs]
    obtain ⟨t, rfl, h1, h2⟩ := inB_nat hb
    simp only [Int.toNat_natCast]
    obtain ⟨v, hcell, hv⟩ := hA.thread t (by omega)
    have fD : Fr [] w (w.alloc (.cells #[.int .i64 k.1, .int .i64 k.2] 64)).drew := fA.drew
    obtain ⟨u, hrun, hu⟩ := CMap.look (hm.keep fD (by simp) (NoInts.nil w)) word_keys und_words zero_clock k false
    have ht13 : (t : Int) < 13 := by omega
    have ht0 : (0 : Int) ≤ t := by omega
    have hfree := hA.free t
    have HC := hid (in_is t (w.alloc (.cells #[.int .i64 k.1, .int .i64 k.2] 64)) true hb)
    have HJ := hid (join_any _ v u _ _ (hv.keep0 (Fr.refl _ _).drew) hu)
    have H := hid (h.keep0 fD)
    have F := hid fD
    simp only [wordK, Bool.false_eq_true, if_false] at hrun
    clear hb hs hv hu h hm h1 h2 fD hA fA
    go_enter Try.func34, Try.ntmps34
    go_wp2_with fail
    refine HC.out.mono ?_
    rintro e w' ⟨rfl, rfl⟩
    go_wp2_with fail
    go_region_with (go_at_call 11; refine HJ.out.mono ?_; rintro e w1 ⟨r, rfl, hr, f⟩; obtain ⟨g, rfl⟩ := hr.form; have k1 := f.cell hcell (by simp); have k3 := f.frozen hcell hfree (by simp))
    all_goals
      obtain ⟨hw2, f2⟩ := H.out.join2 f t (by omega) hr.clk
      go_wp2_with fail
      go_end0
      exact ⟨rfl, hw2, (F.out.sub (S' := p.S) (by simp)).tr f2⟩
  · have hs : s.acq t ((lget m k).getD []) = s := by simp [St.acq, hb]
    rw [hs]
    have HC := hid (in_is t (w.alloc (.cells #[.int .i64 k.1, .int .i64 k.2] 64)) false (Bool.eq_false_iff.2 hb))
    clear hb hs
    go_enter Try.func34, Try.ntmps34
    go_wp2_with fail
    refine HC.out.mono ?_
    rintro e w' ⟨rfl, rfl⟩
    go_wp2_with fail
    go_end0
    exact ⟨rfl, hA, fA.sub (by simp)⟩

/-! ### Joined -/
set_option maxHeartbeats 400000 in
theorem joined_any (w : World) (p : Ptrs) (s : St) (t o : Int) (h : Watch w p s) :
    Calls Try.prog 21 #[.pointer (some ⟨p.b, 0, none⟩), .int .i64 t, .int .i64 o] w fun e w' => e = .returned (.tuple #[]) ∧ Watch w' p (s.joined t o) ∧ Fr p.S w w' := by
  obtain ⟨u, hrun, hu⟩ := CMap.look h.ends int_keys und_ends zero_clock o true
  obtain ⟨hcE, _⟩ := h.cells
  simp only [intK, if_true] at hrun
  cases ho : lget s.ends o with
  | none =>
    have hs : s.joined t o = s := by simp [St.joined, ho]
    rw [hs]
    rw [ho] at hrun
    simp only [Option.isSome_none] at hrun
    clear ho hs hu
    go_enter Try.func21, Try.ntmps21
    go_wp2_with fail
    go_end0
    exact ⟨rfl, h, Fr.refl _ _⟩
  | some c =>
    have hs : s.joined t o = s.acq t c := by simp [St.joined, ho]
    rw [hs]
    rw [ho] at hrun hu
    simp only [Option.isSome_some, Option.getD_some] at hrun hu
    by_cases hb : inB t = true
    · have hs : s.acq t c = { s with th := s.th.set t.toNat (joinL (s.th.getD t.toNat []) c) } := by simp [St.acq, hb]
      rw [hs]
      obtain ⟨t, rfl, h1, h2⟩ := inB_nat hb
      simp only [Int.toNat_natCast]
      obtain ⟨v, hcell, hv⟩ := h.thread t (by omega)
      have ht13 : (t : Int) < 13 := by omega
      have ht0 : (0 : Int) ≤ t := by omega
      have hfree := h.free t
      have HC := hid (in_is t w true hb)
      have HJ := hid (join_any w.drew v u _ _ (hv.keep0 (Fr.refl _ _).drew) (hu.keep0 (Fr.refl _ _).drew))
      have H := hid h
      clear hb hs hv hu h h1 h2 ho
      go_enter Try.func21, Try.ntmps21
      go_wp2_with fail
      refine HC.out.mono ?_
      rintro e w' ⟨rfl, rfl⟩
      go_wp2_with fail
      go_region_with (go_at_call 11; refine HJ.out.mono ?_; rintro e w1 ⟨r, rfl, hr, f⟩; obtain ⟨g, rfl⟩ := hr.form; have k1 := f.cell hcell (by simp); have k3 := f.frozen hcell hfree (by simp))
      all_goals
        obtain ⟨hw2, f2⟩ := H.out.drew.join2 f t (by omega) hr.clk
        go_wp2_with fail
        go_end0
        exact ⟨rfl, hw2, ((Fr.refl p.S w).drew.tr f2)⟩
    · have hs : s.acq t c = s := by simp [St.acq, hb]
      rw [hs]
      have HC := hid (in_is t w false (Bool.eq_false_iff.2 hb))
      clear hb hs ho hu
      go_enter Try.func21, Try.ntmps21
      go_wp2_with fail
      refine HC.out.mono ?_
      rintro e w' ⟨rfl, rfl⟩
      go_wp2_with fail
      go_end0
      exact ⟨rfl, h, Fr.refl _ _⟩

end Go.Proofs.Ytjkakhjajfpldaa
