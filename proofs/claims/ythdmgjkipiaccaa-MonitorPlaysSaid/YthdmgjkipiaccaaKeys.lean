/-
  Keys of maps: ints, and structures compared by '=='. Of no program.
-/
import Derived.Test.YthdmgjkipiaccaaBase
namespace Go.Proofs.Ythdmgjkipiaccaa
open Go.RowKit

/-! ### keys -/
section
variable {K : Type} [DecidableEq K] {P : Program}

theorem run_findAsking {kt : TypeId} {kv : K → Value} (hEq : ∀ (w : World) (k k' : K), (Op.equal kt (kv k) (kv k')).run P w = .ok (decide (k = k')) w) (w : World) (k : K) : ∀ (es : List (K × Value × Nat)) (i : Nat), (Instr.findAsking kt (kv k) (es.map (entOf kv)) i).run P w = .ok (findL es k i) w
  | [], i => by simp [Instr.findAsking, findL]
  | e :: r, i => by
    have h := run_findAsking hEq w k r (i + 1)
    simp only [List.map_cons, Instr.findAsking, entOf, findL]
    simp only [Sem.run_bind, hEq, Result.andThen_ok]
    by_cases he : e.1 = k
    · rw [decide_eq_true he.symm]; simp [he]
    · have he' : ¬ k = e.1 := fun x => he x.symm
      rw [decide_eq_false he']; simpa [he] using h

theorem keyRuns_struct {kt : TypeId} {kv : K → Value} {fs : Array Field} (hu : P.underlying kt = some (.struct fs))
    (hc : ∀ (w : World) (em : Bool) (k : K), (Instr.checkKey em 10000 kt (kv k)).run P w = .ok () w)
    (hEq : ∀ (w : World) (k k' : K), (Op.equal kt (kv k) (kv k')).run P w = .ok (decide (k = k')) w)
    (hs : ∀ k, Instr.sameBits 10000 (kv k) (kv k) = true) : KeyRuns P kt kv where
  check := hc
  find w k es := by
    have h := run_findAsking hEq w k es 0
    unfold Instr.findKey
    simp only [Sem.run_bind, run_underlying hu, Result.andThen_ok]
    cases es with
    | nil => simp [Instr.findNow, findL]
    | cons e r =>
      simp only [List.map_cons, Instr.findNow, Instr.sameNow] at h ⊢
      exact h
  stays w k := by
    unfold Instr.keyThatStays
    rw [if_pos (hs k)]; rfl

def intK (n : Int) : Value := .int .i64 n

theorem findNow_int (k : Int) : ∀ (es : List (Int × Value × Nat)) (i : Nat), Instr.findNow (.int .i64) (intK k) (es.map (entOf intK)) i = some (findL es k i)
  | [], i => rfl
  | e :: r, i => by
    have h := findNow_int k r (i + 1)
    simp only [List.map_cons, Instr.findNow, Instr.sameNow, intK, entOf, findL, if_true] at h ⊢
    by_cases he : e.1 = k
    · subst he; simp
    · have he' : ¬ k = e.1 := fun x => he x.symm
      have hb : (k == e.1) = false := by simpa using he'
      rw [hb, if_neg he]; simpa using h

theorem check_int {kt : TypeId} (hu : P.underlying kt = some (.int .i64)) (w : World) (em : Bool) (n : Nat) (k : Int) : (Instr.checkKey em (n + 1) kt (.int .i64 k)).run P w = .ok () w := by
  simp [Instr.checkKey, run_underlying hu]

theorem sameBits_int (n : Nat) (k : Int) : Instr.sameBits (n + 1) (.int .i64 k) (.int .i64 k) = true := by simp [Instr.sameBits]

theorem keyRuns_int {kt : TypeId} (hu : P.underlying kt = some (.int .i64)) : KeyRuns P kt intK where
  check w em k := check_int hu w em 9999 k
  find w k es := by
    unfold Instr.findKey
    simp only [Sem.run_bind, run_underlying hu, Result.andThen_ok, findNow_int]
    rfl
  stays w k := by
    unfold Instr.keyThatStays
    have h : Instr.sameBits 10000 (intK k) (intK k) = true := sameBits_int 9999 k
    rw [if_pos h]; rfl
end


theorem sameBits_two (n : Nat) (a b : Int) : Instr.sameBits (n + 2) (.agg #[.int .i64 a, .int .i64 b]) (.agg #[.int .i64 a, .int .i64 b]) = true := by simp [Instr.sameBits]

end Go.Proofs.Ythdmgjkipiaccaa
