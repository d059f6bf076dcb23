/-
  Statements about tokens: same.
-/
import Derived.Test.YtlkkekjbcaabcaaLexPr
import Derived.RegionTactic
import Derived.Deep.RegionLaw
import Derived.Deep.QuietTactic
import Derived.BigQuiet
import Derived.StillTailTactics
namespace Go.Proofs.Ytlkkekjbcaabcaa
open Go.RowKit

theorem f64bits_run (x : Nat) (w : World) : (callFunc 43 #[.float .f64 x]).run Try.prog w = .ok (.value (.int .u64 x)) w := by
  rw [run_callFunc_extern Try.func43 (by kernel_rfl) (by kernel_rfl) (by kernel_rfl) (e := Extern.MathFloatBits.float64bits) (by kernel_rfl)]
  rfl
set_option maxHeartbeats 1000000 in
theorem bits_any (x y : Nat) (w : World) : Calls Try.prog 37 #[.complex .f64 x y] w fun e w' => e = .returned (.tuple #[.int .u64 x, .int .u64 y]) ∧ w = w' := by
  have hfb := f64bits_run
  go_enter Try.func37, Try.ntmps37
  go_wp2_with fail
  go_ret2
  exact ⟨rfl, rfl⟩
theorem beq_self_u (x : Nat) : ((x : Int) == (x : Int)) = true := by simp
set_option maxHeartbeats 1000000 in
theorem same2_any (x y : Nat) (w : World) : Calls Try.prog 25 #[.complex .f64 x y, .complex .f64 x y] w fun e w' => e = .returned (.bool true) ∧ w = w' := by
  go_enter Try.func25, Try.ntmps25
  go_wp2_with fail
  refine (bits_any x y _).mono ?_
  rintro e w1 ⟨rfl, rfl⟩
  go_wp2_with fail
  refine (bits_any x y _).mono ?_
  rintro e w1 ⟨rfl, rfl⟩
  go_wp2_with fail
  go_ret
  exact ⟨rfl, rfl⟩

def noAt (ts : List Tok) : List Tok := ts.map (fun t => { t with at' := 0 })
theorem noAt_get {ts us : List Tok} (h : noAt ts = noAt us) {k : Nat} {t : Tok} (ht : ts[k]? = some t) : ∃ b, us[k]? = some { t with at' := b } := by
  have e := congrArg (fun l => l[k]?) h
  simp only [noAt, List.getElem?_map, ht, Option.map_some] at e
  cases hu : us[k]? with
  | none => rw [hu] at e; cases e
  | some u =>
    rw [hu] at e
    simp only [Option.map_some, Option.some.injEq] at e
    obtain ⟨a1, a2, a3, a4, a5, a6⟩ := u
    obtain ⟨b1, b2, b3, b4, b5, b6⟩ := t
    simp only [Tok.mk.injEq, true_and] at e
    obtain ⟨rfl, rfl, rfl, rfl, rfl⟩ := e
    exact ⟨a2, rfl⟩
set_option maxRecDepth 20000 in
set_option maxHeartbeats 4000000 in
theorem same_any (w : World) (u v : Value) (ts us : List Tok) (hu : Toks w u ts) (hv : Toks w v us) (he : noAt ts = noAt us) (hl : ts.length ≤ 100000) :
    Calls Try.prog 13 #[u, v, .bool false] w fun e w' => e = .returned (.bool true) ∧ Fr [] w w' := by
  have hsc := run_store_complex
  have hlen : us.length = ts.length := by have := congrArg List.length he; simpa [noAt] using this.symm
  obtain ⟨au, cu, eu, _, _⟩ := hu.form
  obtain ⟨av, cv, ev, _, _⟩ := hv.form
  rw [hlen] at ev
  have HU := hid hu
  have HV := hid hv
  have HE := hid he
  have HLN := hid hlen
  subst eu
  subst ev
  clear hu hv he hlen
  go_enter Try.func13, Try.ntmps13
  go_wp2_with fail
  go_loopw [7] (fun i wr => ∃ k : Nat, k ≤ ts.length ∧ i = .int .i64 k ∧ Hid (Fr [] w wr)) (fun i _ => ts.length - (intOf i).toNat)
  case atStart => exact ⟨0, Nat.zero_le _, rfl, Fr.refl _ _⟩
  case round =>
    obtain ⟨k, hk, rfl, hf⟩ := hrel
    by_cases hlt : k < ts.length
    · obtain hn | ⟨b, cap, hve, hc⟩ := (HU.out.keep0 hf.out).tok
      · exact absurd hlt (by rw [hn]; simp)
      obtain hn | ⟨b', cap', hve', hc'⟩ := (HV.out.keep0 hf.out).tok
      · exact absurd hlt (by rw [← HLN.out, hn]; simp)
      rw [HLN.out] at hve'
      injection hve with e1 e2 e3
      injection hve' with e1' e2' e3'
      subst e1
      subst e1'
      clear e2 e3 e2' e3'
      obtain ⟨⟨tk, ta, tx, ti, tr, tm⟩, ht⟩ : ∃ t, t = ts[k] := ⟨_, rfl⟩
      have hg : ts[k]? = some ⟨tk, ta, tx, ti, tr, tm⟩ := by rw [List.getElem?_eq_getElem hlt, ht]
      obtain ⟨tb, hg'⟩ := noAt_get HE.out hg
      simp only [] at hg'
      have cc : ∀ i u, (Tok.cells ⟨tk, ta, tx, ti, tr, tm⟩)[i]? = some u → wr.cell? ⟨b, k * 5 + i, none⟩ = some u := fun i u h => by rw [Nat.mul_comm k 5]; exact hc k _ hg i u h
      have dd : ∀ i u, (Tok.cells ⟨tk, tb, tx, ti, tr, tm⟩)[i]? = some u → wr.cell? ⟨b', k * 5 + i, none⟩ = some u := fun i u h => by rw [Nat.mul_comm k 5]; exact hc' k _ hg' i u h
      have c0 : wr.cell? ⟨b, k * 5, none⟩ = some (.int .i64 tk) := cc 0 _ rfl
      have c1 : wr.cell? ⟨b, k * 5 + 1, none⟩ = some (.int .i64 ta) := cc 1 _ rfl
      have c2 : wr.cell? ⟨b, k * 5 + 2, none⟩ = some (.string (bs tx)) := cc 2 _ rfl
      have c3 : wr.cell? ⟨b, k * 5 + 3, none⟩ = some (.int .i64 ti) := cc 3 _ rfl
      have c4 : wr.cell? ⟨b, k * 5 + 4, none⟩ = some (.complex .f64 tr tm) := cc 4 _ rfl
      have d0 : wr.cell? ⟨b', k * 5, none⟩ = some (.int .i64 tk) := dd 0 _ rfl
      have d1 : wr.cell? ⟨b', k * 5 + 1, none⟩ = some (.int .i64 tb) := dd 1 _ rfl
      have d2 : wr.cell? ⟨b', k * 5 + 2, none⟩ = some (.string (bs tx)) := dd 2 _ rfl
      have d3 : wr.cell? ⟨b', k * 5 + 3, none⟩ = some (.int .i64 ti) := dd 3 _ rfl
      have d4 : wr.cell? ⟨b', k * 5 + 4, none⟩ = some (.complex .f64 tr tm) := dd 4 _ rfl
      clear hc hc' hg hg' ht cc dd
      have c0a : ∀ o, (wr.alloc o).cell? ⟨b, k * 5, none⟩ = some (.int .i64 tk) := fun o => ((Fr.refl [] wr).alloc o).cell c0 (by simp)
      have c0b : ∀ o o', ((wr.alloc o).alloc o').cell? ⟨b, k * 5, none⟩ = some (.int .i64 tk) := fun o o' => (((Fr.refl [] wr).alloc o).alloc o').cell c0 (by simp)
      have c1a : ∀ o, (wr.alloc o).cell? ⟨b, k * 5 + 1, none⟩ = some (.int .i64 ta) := fun o => ((Fr.refl [] wr).alloc o).cell c1 (by simp)
      have c1b : ∀ o o', ((wr.alloc o).alloc o').cell? ⟨b, k * 5 + 1, none⟩ = some (.int .i64 ta) := fun o o' => (((Fr.refl [] wr).alloc o).alloc o').cell c1 (by simp)
      have c2a : ∀ o, (wr.alloc o).cell? ⟨b, k * 5 + 2, none⟩ = some (.string (bs tx)) := fun o => ((Fr.refl [] wr).alloc o).cell c2 (by simp)
      have c2b : ∀ o o', ((wr.alloc o).alloc o').cell? ⟨b, k * 5 + 2, none⟩ = some (.string (bs tx)) := fun o o' => (((Fr.refl [] wr).alloc o).alloc o').cell c2 (by simp)
      have c3a : ∀ o, (wr.alloc o).cell? ⟨b, k * 5 + 3, none⟩ = some (.int .i64 ti) := fun o => ((Fr.refl [] wr).alloc o).cell c3 (by simp)
      have c3b : ∀ o o', ((wr.alloc o).alloc o').cell? ⟨b, k * 5 + 3, none⟩ = some (.int .i64 ti) := fun o o' => (((Fr.refl [] wr).alloc o).alloc o').cell c3 (by simp)
      have c4a : ∀ o, (wr.alloc o).cell? ⟨b, k * 5 + 4, none⟩ = some (.complex .f64 tr tm) := fun o => ((Fr.refl [] wr).alloc o).cell c4 (by simp)
      have c4b : ∀ o o', ((wr.alloc o).alloc o').cell? ⟨b, k * 5 + 4, none⟩ = some (.complex .f64 tr tm) := fun o o' => (((Fr.refl [] wr).alloc o).alloc o').cell c4 (by simp)
      have d0a : ∀ o, (wr.alloc o).cell? ⟨b', k * 5, none⟩ = some (.int .i64 tk) := fun o => ((Fr.refl [] wr).alloc o).cell d0 (by simp)
      have d0b : ∀ o o', ((wr.alloc o).alloc o').cell? ⟨b', k * 5, none⟩ = some (.int .i64 tk) := fun o o' => (((Fr.refl [] wr).alloc o).alloc o').cell d0 (by simp)
      have d1a : ∀ o, (wr.alloc o).cell? ⟨b', k * 5 + 1, none⟩ = some (.int .i64 tb) := fun o => ((Fr.refl [] wr).alloc o).cell d1 (by simp)
      have d1b : ∀ o o', ((wr.alloc o).alloc o').cell? ⟨b', k * 5 + 1, none⟩ = some (.int .i64 tb) := fun o o' => (((Fr.refl [] wr).alloc o).alloc o').cell d1 (by simp)
      have d2a : ∀ o, (wr.alloc o).cell? ⟨b', k * 5 + 2, none⟩ = some (.string (bs tx)) := fun o => ((Fr.refl [] wr).alloc o).cell d2 (by simp)
      have d2b : ∀ o o', ((wr.alloc o).alloc o').cell? ⟨b', k * 5 + 2, none⟩ = some (.string (bs tx)) := fun o o' => (((Fr.refl [] wr).alloc o).alloc o').cell d2 (by simp)
      have d3a : ∀ o, (wr.alloc o).cell? ⟨b', k * 5 + 3, none⟩ = some (.int .i64 ti) := fun o => ((Fr.refl [] wr).alloc o).cell d3 (by simp)
      have d3b : ∀ o o', ((wr.alloc o).alloc o').cell? ⟨b', k * 5 + 3, none⟩ = some (.int .i64 ti) := fun o o' => (((Fr.refl [] wr).alloc o).alloc o').cell d3 (by simp)
      have d4a : ∀ o, (wr.alloc o).cell? ⟨b', k * 5 + 4, none⟩ = some (.complex .f64 tr tm) := fun o => ((Fr.refl [] wr).alloc o).cell d4 (by simp)
      have d4b : ∀ o o', ((wr.alloc o).alloc o').cell? ⟨b', k * 5 + 4, none⟩ = some (.complex .f64 tr tm) := fun o o' => (((Fr.refl [] wr).alloc o).alloc o').cell d4 (by simp)
      go_wp2_with fail
      go_region
      all_goals
        clear c0 c0a c0b c1 c1a c1b c2 c2a c2b c3 c3a c3b c4 c4a c4b d0 d0a d0b d1 d1a d1b d2 d2a d2b d3 d3a d3b d4 d4a d4b
        go_wp2_with fail
        refine (same2_any tr tm _).mono ?_
        rintro e w1 ⟨rfl, rfl⟩
        go_wp2_with fail
        go_roundw
        case rel => exact ⟨k + 1, by omega, by go_num, hid (by repeat (first | exact hf.out | apply Fr.drew | apply Fr.alloc | refine Fr.setCell ?_ (.inr (by have := hf.out.size; simp; omega)) _))⟩
        case measure => simp [intOf]; omega
    · obtain rfl : k = ts.length := by omega
      go_wp2_with fail
      go_ret
      exact ⟨rfl, hf.out⟩

end Go.Proofs.Ytlkkekjbcaabcaa
