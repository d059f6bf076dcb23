/-
  RaceLocked: the walk.
-/
import Derived.Test.YtjkakhjajfpldaaRaceQ
import Derived.Test.YtjkakhjajfpldaaRaceL2
namespace Go.Proofs.Ytjkakhjajfpldaa
open Go.RowKit

structure LockedAt (w wr : World) (p : Ptrs) (k : Nat) (wtr : Nat) : Prop where
  st : ∃ s, Watch wr p s ∧ LInv s (k + 1) wtr
  fr : Fr [] w wr

theorem acq_is {w : World} {p : Ptrs} {s s' : St} {t k : Int} (h : Watch w p s) (e : s.acqLock t k = s') :
    Calls Try.prog 16 #[.pointer (some ⟨p.b, 0, none⟩), .int .i64 t, .int .i64 k] w fun e w' => e = .returned (.tuple #[]) ∧ Watch w' p s' ∧ Fr p.S w w' := by
  rw [← e]; exact acquire_any w p s t k h
theorem rel_is {w : World} {p : Ptrs} {s s' : St} {t k : Int} (h : Watch w p s) (e : s.relLock t k = s') :
    Calls Try.prog 17 #[.pointer (some ⟨p.b, 0, none⟩), .int .i64 t, .int .i64 k] w fun e w' => e = .returned (.tuple #[]) ∧ Watch w' p s' ∧ Fr p.S w w' := by
  rw [← e]; exact release_any w p s t k h

set_option maxHeartbeats 2000000 in
theorem locked_walk (a0 : Option Addr) (len0 cap0 : Nat) (z0 : List Int) (a1 : Int) (w : World) (w0 : IsRow .u8 w a0 len0 cap0 z0) (w1 : (Lit.int .u8 a1).wf = true) :
    Calls Try.prog 6 #[.slice a0 len0 cap0, .int .u8 a1] w fun e w' => e = .returned (.bool true) ∧ Fr [] w w' := by
  have hlen := w0.len
  have hb1 := u8_bounds w1
  clear w1
  obtain ⟨i1, i2⟩ := hb1
  by_cases hbig : 60 < len0
  · go_enter Try.func6, Try.ntmps6
    go_wp2_with fail
    refine (known_any w).mono ?_
    rintro e wA ⟨rfl, f0⟩
    go_wp2_with fail
    go_ret
    exact ⟨rfl, f0⟩
  · have hsm : len0 ≤ 60 := by omega
    clear hbig
    go_enter Try.func6, Try.ntmps6
    go_wp2_with fail
    refine (known_any w).mono ?_
    rintro e wA ⟨rfl, f0⟩
    go_wp2_with fail
    refine (new_any wA).mono ?_
    rintro e wB ⟨p, rfl, h1, f1, hp⟩
    have g1 := f0.tr f1
    have HP := own_mono f0 hp
    clear hp f0 f1
    go_wp2_with fail
    go_loopw [6, 7] (fun o i wr => ∃ k : Nat, k ≤ len0 ∧ i = .int .i64 k ∧ ∃ wtr : Nat, o = .int .i64 wtr ∧ wtr ≤ 6 ∧ LockedAt w wr p k wtr) (fun _ i _ => len0 - (intOf i).toNat)
    case atStart => exact ⟨0, by omega, rfl, 0, rfl, by omega, ⟨_, h1, LInv.new⟩, g1⟩
    case round =>
      obtain ⟨k, hk, rfl, wtr, rfl, hw6, hR⟩ := hrel
      obtain ⟨⟨s, hW, hI⟩, hF⟩ := hR
      have HI := hid hI
      have HF := hid hF
      have HW := hid hW
      clear hI hF hW h1 g1
      by_cases hlt : k < len0
      · obtain ⟨b, off, rfl, hcell0, hwf⟩ := w0.cell k hlt
        have hcell := HF.out.cell hcell0 (by simp)
        have HC0 := hid hcell0
        have hxb := u8_bounds hwf
        obtain ⟨x1, x2⟩ := hxb
        generalize z0.getD k 0 = x at *
        obtain ⟨id, hid1, hid2, hid3⟩ : ∃ id : Nat, x % 6 + 1 = id ∧ 1 ≤ id ∧ id ≤ 6 := ⟨(x % 6).toNat + 1, by omega, by omega, by omega⟩
        have HID := hid hid1
        obtain ⟨n1, n2⟩ := HI.out.noRace hid2 hid3 (decide (x / 6 % 2 = 0))
        have hst := HI.out.step (by omega) (by omega) hid2 hid3 (decide (x / 6 % 2 = 0))
        clear hid1 hcell0 hwf w0
        by_cases hx : x / 6 % 2 = 0
        · have hb : (x / 6 % 2 == 0) = true := by simpa using hx
          rw [decide_eq_true hx] at n1 hst
          simp only [if_true] at hst
          have N1 := hid (n1 rfl)
          have HST := hid hst
          clear n1 n2 hst hx
          go_wp2_with fail
          rw [show x % 6 + 1 = (id : Int) from HID.out]
          refine (acq_is HW.out rfl).mono ?_
          rintro e wC ⟨rfl, h2, f2⟩
          have g2 := HF.out.own f2 HP
          have kcell := g2.cell HC0.out (by simp)
          go_wp2_with fail
          refine (write_is h2 (Prod.ext N1.out rfl)).mono ?_
          rintro e wD ⟨rfl, h3, f3⟩
          have g3 := g2.own f3 HP
          go_wp2_with fail
          refine (rel_is h3 rfl).mono ?_
          rintro e wE ⟨rfl, h4, f4⟩
          have g4 := g3.own f4 HP
          go_wp2_with fail
          go_roundw
          case rel => exact ⟨k + 1, by omega, by go_num, id, rfl, by omega, ⟨_, h4, HST.out⟩, g4⟩
          case measure => simp [intOf]; omega
        · have hb : (x / 6 % 2 == 0) = false := by simpa using hx
          rw [decide_eq_false hx] at n2 hst
          simp only [Bool.false_eq_true, if_false] at hst
          have N2 := hid (n2 rfl)
          have HST := hid hst
          clear n1 n2 hst hx
          go_wp2_with fail
          rw [show x % 6 + 1 = (id : Int) from HID.out]
          refine (acq_is HW.out rfl).mono ?_
          rintro e wC ⟨rfl, h2, f2⟩
          have g2 := HF.out.own f2 HP
          have kcell := g2.cell HC0.out (by simp)
          go_wp2_with fail
          refine (read_is h2 (Prod.ext N2.out rfl)).mono ?_
          rintro e wD ⟨rfl, h3, f3⟩
          have g3 := g2.own f3 HP
          go_wp2_with fail
          refine (rel_is h3 rfl).mono ?_
          rintro e wE ⟨rfl, h4, f4⟩
          have g4 := g3.own f4 HP
          go_wp2_with fail
          go_roundw
          case rel => exact ⟨k + 1, by omega, by go_num, wtr, rfl, by omega, ⟨_, h4, HST.out⟩, g4⟩
          case measure => simp [intOf]; omega
      · obtain rfl : k = len0 := by omega
        have hr0 := HI.out.races
        have hRc := races_any wr p s HW.out
        rw [hr0] at hRc
        have HRc := hid hRc
        clear hRc w0 hr0
        by_cases hw0 : wtr = 0
        · subst hw0
          go_wp2_with fail
          refine HRc.out.mono ?_
          rintro e wC ⟨rfl, rfl⟩
          go_wp2_with fail
          refine HRc.out.mono ?_
          rintro e wC ⟨rfl, rfl⟩
          go_wp2_with fail
          go_ret
          exact ⟨rfl, HF.out⟩
        · have hb0 : ((wtr : Int) == 0) = false := by simp; omega
          obtain ⟨id, hid1, hid2, hid3⟩ : ∃ id : Nat, a1 % 6 + 7 = id ∧ 7 ≤ id ∧ id ≤ 12 := ⟨(a1 % 6).toNat + 7, by omega, by omega, by omega⟩
          have HID := hid hid1
          obtain ⟨l1, l2⟩ := HI.out.last hw0 hid2 hid3
          have L1 := hid l1
          have L2 := hid l2
          clear hid1 l1 l2 hw0
          go_wp2_with fail
          refine HRc.out.mono ?_
          rintro e wC ⟨rfl, rfl⟩
          go_wp2_with fail
          rw [show a1 % 6 + 7 = (id : Int) from HID.out]
          refine (write_is HW.out (Prod.ext L1.out rfl)).mono ?_
          rintro e wD ⟨rfl, h3, f3⟩
          have g3 := HF.out.own f3 HP
          go_wp2_with fail
          have hR2 := races_any wD p _ h3
          rw [L2.out] at hR2
          refine hR2.mono ?_
          rintro e wC ⟨rfl, rfl⟩
          go_wp2_with fail
          go_ret
          exact ⟨rfl, g3⟩

end Go.Proofs.Ytjkakhjajfpldaa
