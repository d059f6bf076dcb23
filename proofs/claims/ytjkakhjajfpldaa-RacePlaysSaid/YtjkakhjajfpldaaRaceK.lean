/-
  The statements' own 'known', and the clocks made of lists.
-/
import Derived.Test.YtjkakhjajfpldaaRaceH
namespace Go.Proofs.Ytjkakhjajfpldaa
open Go.RowKit

def s0 : St := St.new
def k1 : Bool × St := s0.write 1 5 0 false
def k2 : Bool × St := k1.2.write 2 5 0 false
theorem k1_false : k1.1 = false := by decide +kernel
theorem k2_true : k2.1 = true := by decide +kernel
theorem k2_races : k2.2.races = 1 := by decide +kernel
theorem le_a : leL [1] [1, 2] = true := by decide +kernel
theorem le_b : leL [2] [1, 2] = false := by decide +kernel

theorem Clk.lit1 {w : World} {b : Nat} {x : Int} (h : w.heap[b]? = some (.cells #[.int .i64 x] 3 (0, 0))) : Clk w (.slice (some ⟨b, 0, none⟩) 1 1) [x] :=
  ⟨_, 1, rfl, by simp, fun _ => ⟨b, 0, _, _, rfl, h, fun k hk => by
    have : k = 0 := by simp at hk; omega
    subst this; rfl⟩⟩
theorem Clk.lit2 {w : World} {b : Nat} {x y : Int} (h : w.heap[b]? = some (.cells #[.int .i64 x, .int .i64 y] 3 (0, 0))) : Clk w (.slice (some ⟨b, 0, none⟩) 2 2) [x, y] :=
  ⟨_, 2, rfl, by simp, fun _ => ⟨b, 0, _, _, rfl, h, fun k hk => by
    have : k = 0 ∨ k = 1 := by simp at hk; omega
    rcases this with rfl | rfl <;> rfl⟩⟩

theorem before_is {w : World} {v u : Value} {c d : List Int} {b : Bool} (hv : Clk w v c) (hu : Clk w u d) (h : leL c d = b) :
    Calls Try.prog 12 #[v, u] w fun e w' => e = .returned (.bool b) ∧ w = w' := by rw [← h]; exact before_any w v u c d hv hu

set_option maxHeartbeats 1000000 in
theorem known_any (w : World) : Calls Try.prog 9 #[] w fun e w' => e = .returned (.bool true) ∧ Fr [] w w' := by
  go_enter Try.func9, Try.ntmps9
  go_wp2_with fail
  refine (new_any w).mono ?_
  rintro e w1 ⟨p, rfl, h1, f1, hp⟩
  have HP := hid hp
  clear hp
  go_wp2_with fail
  refine (write_any w1 p s0 1 5 0 false h1).mono ?_
  rintro e w2 ⟨rfl, h2, f2⟩
  rw [show (s0.write 1 5 0 false).1 = false from k1_false]
  go_wp2_with fail
  refine (write_any w2 p k1.2 2 5 0 false h2).mono ?_
  rintro e w3 ⟨rfl, h3, f3⟩
  rw [show (k1.2.write 2 5 0 false).1 = true from k2_true]
  go_wp2_with fail
  refine (races_any w3 p k2.2 h3).mono ?_
  rintro e w' ⟨rfl, rfl⟩
  rw [k2_races]
  go_wp2_with fail
  have e1 : ((w3.alloc (.cells #[.int .i64 1] 3)).alloc (.cells #[.int .i64 1, .int .i64 2] 3)).heap[w3.heap.size]? = some (.cells #[.int .i64 1] 3 (0, 0)) := heap_alloc2_old _ _ _
  have e2 : ((w3.alloc (.cells #[.int .i64 1] 3)).alloc (.cells #[.int .i64 1, .int .i64 2] 3)).heap[w3.heap.size + 1]? = some (.cells #[.int .i64 1, .int .i64 2] 3 (0, 0)) := heap_alloc2_new _ _ _
  refine (before_is (Clk.lit1 e1) (Clk.lit2 e2) le_a).mono ?_
  rintro e w' ⟨rfl, rfl⟩
  clear e1 e2
  go_wp2_with fail
  have e3 := heap_alloc2_old ((w3.alloc (.cells #[.int .i64 1] 3)).alloc (.cells #[.int .i64 1, .int .i64 2] 3)) (.cells #[.int .i64 2] 3) (.cells #[.int .i64 1, .int .i64 2] 3)
  have e4 := heap_alloc2_new ((w3.alloc (.cells #[.int .i64 1] 3)).alloc (.cells #[.int .i64 1, .int .i64 2] 3)) (.cells #[.int .i64 2] 3) (.cells #[.int .i64 1, .int .i64 2] 3)
  simp only [World.size_alloc] at e3 e4
  refine (before_is (Clk.lit1 e3) (Clk.lit2 e4) le_b).mono ?_
  rintro e w' ⟨rfl, rfl⟩
  clear e3 e4
  go_wp2_with fail
  go_ret
  have hpS : ∀ x, x ∈ p.S → x ∈ ([] : List Nat) ∨ w.heap.size ≤ x := fun x hx => Or.inr (HP.out x hx)
  exact ⟨rfl, (((((f1.trans f2 hpS).trans f3 hpS).alloc _).alloc _).alloc _).alloc _⟩

/-- a law begins so -/
theorem Fr.own {w w1 w2 : World} {p : Ptrs} (f1 : Fr [] w w1) (f2 : Fr p.S w1 w2) (hp : Hid (∀ x ∈ p.S, w.heap.size ≤ x)) : Fr [] w w2 := f1.trans f2 (fun x hx => Or.inr (hp.out x hx))
theorem own_mono {w w1 : World} {p : Ptrs} (f1 : Fr [] w w1) (hp : ∀ x ∈ p.S, w1.heap.size ≤ x) : Hid (∀ x ∈ p.S, w.heap.size ≤ x) := hid (fun x hx => Nat.le_trans f1.size (hp x hx))

end Go.Proofs.Ytjkakhjajfpldaa
