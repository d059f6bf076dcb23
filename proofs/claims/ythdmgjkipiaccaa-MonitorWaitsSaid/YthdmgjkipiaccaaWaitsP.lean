/-
  MonitorWaits: the plain run. No program in sight.
-/
import Derived.Test.YthdmgjkipiaccaaMonS
namespace Go.Proofs.Ythdmgjkipiaccaa

def wEnt (T : PT) (id : Int) : Nat → PT
  | 0 => T
  | j + 1 => ((wEnt T id j).enter 9 id).2
def wRun (d : Nat) : Nat → PT
  | 0 => PT.new
  | k + 1 => ((wEnt (wRun d k) (k + 1 : Nat) d).wait 9 (k + 1 : Nat)).2
def wE (d k : Nat) : PT := ((wRun d k).enter 9 100).2
def wN (d k : Nat) (all : Bool) : PT := ((wE d k).notify 9 100 all).2
def wWant (k : Nat) (all : Bool) : Nat := if all then k else 1
def wOwn : Nat → Int
  | 0 => 100
  | j + 1 => (j + 1 : Nat)
def wCnt (d : Nat) : Nat → Nat
  | 0 => 1
  | _ + 1 => d
def wEx (T : PT) (o : Int) : Nat → PT
  | 0 => T
  | x + 1 => ((wEx T o x).exit 9 o).2
def wX (d k : Nat) (all : Bool) : Nat → PT
  | 0 => wN d k all
  | j + 1 => wEx (wX d k all j) (wOwn j) (wCnt d j)

theorem w_enter : ∀ d, d < 4 → ∀ k, k < 8 → ∀ j, j < d → ((wEnt (wRun d k) (k + 1 : Nat) j).enter 9 (k + 1 : Nat)).1 = (true, 0) := by decide +kernel
theorem w_wait : ∀ d, d < 4 → 0 < d → ∀ k, k < 8 → ((wEnt (wRun d k) (k + 1 : Nat) d).wait 9 (k + 1 : Nat)).1 = (0, 0) ∧ ((wRun d (k + 1)).at 9).owner = 0 := by decide +kernel
theorem w_enter100 : ∀ d, d < 4 → 0 < d → ∀ k, k < 9 → ((wRun d k).enter 9 100).1 = (true, 0) := by decide +kernel
def wB (d k : Nat) (all : Bool) : Prop :=
  ((wE d k).notify 9 100 all).1 = (((wWant k all : Nat) : Int), 0) ∧ ((wN d k all).at 9).entry.length = wWant k all ∧ ((wN d k all).at 9).wait.length = k - wWant k all
instance (d k : Nat) (all : Bool) : Decidable (wB d k all) := by unfold wB; infer_instance
theorem w_notify : ∀ all ∈ [true, false], ∀ d, d < 4 → 0 < d → ∀ k, k < 9 → 0 < k → wB d k all := by decide +kernel
theorem w_exit : ∀ all ∈ [true, false], ∀ d, d < 4 → 0 < d → ∀ k, k < 9 → 0 < k → ∀ j, j < wWant k all → ∀ x, x < wCnt d j →
    ((wEx (wX d k all j) (wOwn j) x).exit 9 (wOwn j)).1 = (if x + 1 = wCnt d j then ((j + 1 : Nat) : Int) else 0, 0) := by decide +kernel
theorem w_at : ∀ all ∈ [true, false], ∀ d, d < 4 → 0 < d → ∀ k, k < 9 → 0 < k → ∀ j, j < wWant k all → ((wX d k all (j + 1)).at 9).owner = (j + 1 : Nat) ∧ ((wX d k all (j + 1)).at 9).count = d := by decide +kernel
theorem w_last : ∀ all ∈ [true, false], ∀ d, d < 4 → 0 < d → ∀ k, k < 9 → 0 < k → ((wX d k all (wWant k all)).notify 9 200 true).1 = (0, 130) ∧ (((wX d k all (wWant k all)).notify 9 200 true).2.at 9).entry.length = 0 := by decide +kernel

end Go.Proofs.Ythdmgjkipiaccaa
