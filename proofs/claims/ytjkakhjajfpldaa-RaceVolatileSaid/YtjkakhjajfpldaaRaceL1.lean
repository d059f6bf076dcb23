/-
  RaceBegun and RaceVolatile: the walks.
-/
import Derived.Test.YtjkakhjajfpldaaRaceK
namespace Go.Proofs.Ytjkakhjajfpldaa
open Go.RowKit

def b1 : St := (s0.write 1 5 0 false).2
def b2 : St := b1.begins 2 1
def b3 : Bool × St := b2.write 2 5 0 false
def b4 : St := b3.2.endT 2
def b5 (j : Bool) : St := if j = true then b4.joined 1 2 else b4
theorem b3_false : b3.1 = false := by decide +kernel
theorem b_later (j : Bool) : ((b5 j).write 1 5 0 false).1 = !j := by cases j <;> decide +kernel
theorem b_read (j : Bool) : (((b5 j).begins 3 1).read 3 5 0 false).1 = !j := by cases j <;> decide +kernel

set_option maxHeartbeats 1000000 in
theorem begun_walk (later joined : Bool) (w : World) : Calls Try.prog 7 #[.bool later, .bool joined] w fun e w' => e = .returned (.bool true) ∧ Fr [] w w' := by
  go_enter Try.func7, Try.ntmps7
  go_wp2_with fail
  refine (known_any w).mono ?_
  rintro e w0 ⟨rfl, f0⟩
  go_wp2_with fail
  refine (new_any w0).mono ?_
  rintro e w1 ⟨p, rfl, h1, f1, hp⟩
  have g1 := f0.tr f1
  have HP := own_mono f0 hp
  clear hp f0 f1
  go_wp2_with fail
  refine (write_any w1 p s0 1 5 0 false h1).mono ?_
  rintro e w2 ⟨rfl, h2, f2⟩
  have g2 := g1.own f2 HP
  clear h1 g1 f2
  go_wp2_with fail
  refine (begin_any w2 p b1 2 1 h2).mono ?_
  rintro e w3 ⟨rfl, h3, f3⟩
  have g3 := g2.own f3 HP
  clear h2 g2 f3
  go_wp2_with fail
  refine (write_any w3 p b2 2 5 0 false h3).mono ?_
  rintro e w4 ⟨rfl, h4, f4⟩
  rw [show (b2.write 2 5 0 false).1 = false from b3_false]
  have g4 := g3.own f4 HP
  clear h3 g3 f4
  go_wp2_with fail
  refine (end_any w4 p b3.2 2 h4).mono ?_
  rintro e w5 ⟨rfl, h5, f5⟩
  have g5 := g4.own f5 HP
  clear h4 g4 f5
  cases joined with
  | true =>
    go_wp2_with fail
    refine (joined_any w5 p b4 1 2 h5).mono ?_
    rintro e w6 ⟨rfl, h6, f6⟩
    have g6 := g5.own f6 HP
    clear h5 g5 f6
    cases later with
    | true =>
      go_wp2_with fail
      refine (write_any w6 p (b5 true) 1 5 0 false h6).mono ?_
      rintro e w7 ⟨rfl, h7, f7⟩
      rw [b_later]
      have g7 := g6.own f7 HP
      go_wp2_with fail
      go_ret
      exact ⟨rfl, g7⟩
    | false =>
      go_wp2_with fail
      refine (begin_any w6 p (b5 true) 3 1 h6).mono ?_
      rintro e w7 ⟨rfl, h7, f7⟩
      have g7 := g6.own f7 HP
      go_wp2_with fail
      refine (read_any w7 p ((b5 true).begins 3 1) 3 5 0 false h7).mono ?_
      rintro e w8 ⟨rfl, h8, f8⟩
      rw [b_read]
      have g8 := g7.own f8 HP
      go_wp2_with fail
      go_ret
      exact ⟨rfl, g8⟩
  | false =>
    cases later with
    | true =>
      go_wp2_with fail
      refine (write_any w5 p (b5 false) 1 5 0 false h5).mono ?_
      rintro e w7 ⟨rfl, h7, f7⟩
      rw [b_later]
      have g7 := g5.own f7 HP
      go_wp2_with fail
      go_ret
      exact ⟨rfl, g7⟩
    | false =>
      go_wp2_with fail
      refine (begin_any w5 p (b5 false) 3 1 h5).mono ?_
      rintro e w7 ⟨rfl, h7, f7⟩
      have g7 := g5.own f7 HP
      go_wp2_with fail
      refine (read_any w7 p ((b5 false).begins 3 1) 3 5 0 false h7).mono ?_
      rintro e w8 ⟨rfl, h8, f8⟩
      rw [b_read]
      have g8 := g7.own f8 HP
      go_wp2_with fail
      go_ret
      exact ⟨rfl, g8⟩

def v1 (first : Bool) : St := if first = true then (s0.read 2 9 4 true).2 else s0
def v2 (first : Bool) : Bool × St := (v1 first).write 1 5 0 false
def v3 (first : Bool) : Bool × St := (v2 first).2.write 1 9 4 true
def v4 (first reads : Bool) : St := if reads = true then ((v3 first).2.read 2 9 4 true).2 else (v3 first).2
theorem v2_false (f : Bool) : ((v1 f).write 1 5 0 false).1 = false := by cases f <;> decide +kernel
theorem v3_false (f : Bool) : ((v2 f).2.write 1 9 4 true).1 = false := by cases f <;> decide +kernel
theorem v_end (f r : Bool) : ((v4 f r).read 2 5 0 false).1 = !r := by cases f <;> cases r <;> decide +kernel

set_option maxHeartbeats 1000000 in
theorem volatile_walk (reads first : Bool) (w : World) : Calls Try.prog 4 #[.bool reads, .bool first] w fun e w' => e = .returned (.bool true) ∧ Fr [] w w' := by
  go_enter Try.func4, Try.ntmps4
  go_wp2_with fail
  refine (known_any w).mono ?_
  rintro e w0 ⟨rfl, f0⟩
  go_wp2_with fail
  refine (new_any w0).mono ?_
  rintro e w1 ⟨p, rfl, h1, f1, hp⟩
  have g1 := f0.tr f1
  have HP := own_mono f0 hp
  clear hp f0 f1
  cases first with
  | true =>
    go_wp2_with fail
    refine (read_any w1 p s0 2 9 4 true h1).mono ?_
    rintro e w2 ⟨rfl, h2, f2⟩
    have g2 := g1.own f2 HP
    clear h1 g1 f2
    go_wp2_with fail
    refine (write_any w2 p (v1 true) 1 5 0 false h2).mono ?_
    rintro e w3 ⟨rfl, h3, f3⟩
    rw [v2_false]
    have g3 := g2.own f3 HP
    clear h2 g2 f3
    go_wp2_with fail
    refine (write_any w3 p (v2 true).2 1 9 4 true h3).mono ?_
    rintro e w4 ⟨rfl, h4, f4⟩
    rw [v3_false]
    have g4 := g3.own f4 HP
    clear h3 g3 f4
    cases reads with
    | true =>
      go_wp2_with fail
      refine (read_any w4 p (v3 true).2 2 9 4 true h4).mono ?_
      rintro e w5 ⟨rfl, h5, f5⟩
      have g5 := g4.own f5 HP
      go_wp2_with fail
      refine (read_any w5 p (v4 true true) 2 5 0 false h5).mono ?_
      rintro e w6 ⟨rfl, h6, f6⟩
      rw [v_end]
      have g6 := g5.own f6 HP
      go_wp2_with fail
      go_ret
      exact ⟨rfl, g6⟩
    | false =>
      go_wp2_with fail
      refine (read_any w4 p (v4 true false) 2 5 0 false h4).mono ?_
      rintro e w6 ⟨rfl, h6, f6⟩
      rw [v_end]
      have g6 := g4.own f6 HP
      go_wp2_with fail
      go_ret
      exact ⟨rfl, g6⟩
  | false =>
    go_wp2_with fail
    refine (write_any w1 p (v1 false) 1 5 0 false h1).mono ?_
    rintro e w3 ⟨rfl, h3, f3⟩
    rw [v2_false]
    have g3 := g1.own f3 HP
    clear h1 g1 f3
    go_wp2_with fail
    refine (write_any w3 p (v2 false).2 1 9 4 true h3).mono ?_
    rintro e w4 ⟨rfl, h4, f4⟩
    rw [v3_false]
    have g4 := g3.own f4 HP
    clear h3 g3 f4
    cases reads with
    | true =>
      go_wp2_with fail
      refine (read_any w4 p (v3 false).2 2 9 4 true h4).mono ?_
      rintro e w5 ⟨rfl, h5, f5⟩
      have g5 := g4.own f5 HP
      go_wp2_with fail
      refine (read_any w5 p (v4 false true) 2 5 0 false h5).mono ?_
      rintro e w6 ⟨rfl, h6, f6⟩
      rw [v_end]
      have g6 := g5.own f6 HP
      go_wp2_with fail
      go_ret
      exact ⟨rfl, g6⟩
    | false =>
      go_wp2_with fail
      refine (read_any w4 p (v4 false false) 2 5 0 false h4).mono ?_
      rintro e w6 ⟨rfl, h6, f6⟩
      rw [v_end]
      have g6 := g4.own f6 HP
      go_wp2_with fail
      go_ret
      exact ⟨rfl, g6⟩

end Go.Proofs.Ytjkakhjajfpldaa
