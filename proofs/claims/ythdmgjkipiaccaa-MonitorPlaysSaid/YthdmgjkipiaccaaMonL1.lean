/-
  The statements' own 'known'.
-/
import Derived.Test.YthdmgjkipiaccaaMonK
namespace Go.Proofs.Ythdmgjkipiaccaa
open Go.RowKit

theorem Mon.ptr {w : World} {p : Value} {F : List Nat} {T : PT} (h : Mon w p F T) : ∃ tb, p = .pointer (some ⟨tb, 0, none⟩) := by
  obtain ⟨l, rfl, _⟩ := h
  exact ⟨l.tb, rfl⟩
/-- a call on a table that is wholly new since w0 -/
theorem Moved.own {w0 w w' : World} {p : Value} {F : List Nat} {T : PT} (h : Moved w w' p F T) (f : Fr [] w0 w) (hF : ∀ x ∈ F, w0.heap.size ≤ x) : ∃ F', Mon w' p F' T ∧ Fr [] w0 w' ∧ ∀ x ∈ F', w0.heap.size ≤ x := by
  obtain ⟨F', h1, h2, h3⟩ := h
  refine ⟨F', h1, f.trans h2 (fun x hx => .inr (hF x hx)), fun x hx => ?_⟩
  rcases h3 x hx with h | h
  · exact hF x h
  · exact Nat.le_trans f.size h
structure Own (w0 w : World) (p : Value) (T : PT) (n : Nat) : Prop where
  ex : ∃ F, Mon w p F T ∧ ∀ x ∈ F, w0.heap.size ≤ x
  fr : Fr [] w0 w
  sm : T.Small n
  n : n ≤ 100000

theorem fld0 (o c : Value) (f ve vw : Value) (w : World) : (Instr.field 33 (.agg #[o, c, f, ve, vw]) 0).run Try.prog w = .ok o w := by kernel_rfl
theorem fld1 (o c : Value) (f ve vw : Value) (w : World) : (Instr.field 33 (.agg #[o, c, f, ve, vw]) 1).run Try.prog w = .ok c w := by kernel_rfl
theorem fld2 (o c : Value) (f ve vw : Value) (w : World) : (Instr.field 33 (.agg #[o, c, f, ve, vw]) 2).run Try.prog w = .ok f w := by kernel_rfl
theorem fld3 (o c : Value) (f ve vw : Value) (w : World) : (Instr.field 33 (.agg #[o, c, f, ve, vw]) 3).run Try.prog w = .ok ve w := by kernel_rfl
theorem fld4 (o c : Value) (f ve vw : Value) (w : World) : (Instr.field 33 (.agg #[o, c, f, ve, vw]) 4).run Try.prog w = .ok vw w := by kernel_rfl

def kT1 : (Bool × Int) × PT := PT.new.enter 1 7
def kT2 : (Bool × Int) × PT := kT1.2.enter 1 8
def kT3 : (Int × Int) × PT := kT2.2.exit 1 7
def kT4 : (Int × Int) × PT := kT3.2.exit 1 7
theorem kT1_is : kT1.1 = (true, 0) := by decide +kernel
theorem kT2_is : kT2.1 = (false, 0) := by decide +kernel
theorem kT3_is : kT3.1 = (8, 0) := by decide +kernel
theorem kT4_is : kT4.1 = (0, 130) := by decide +kernel
theorem kT4_at : (kT4.2.at 1).fat = true ∧ (kT4.2.at 1).owner = 8 := by decide +kernel

theorem Own.enter {w0 w : World} {p : Value} {T : PT} {n : Nat} (h : Own w0 w p T n) (hn : n + 1 ≤ 100000) (a t : Int) {b : Bool} {e : Int} (he : (T.enter a t).1 = (b, e)) :
    Calls Try.prog 10 #[p, .int .i64 a, .int .i64 t] w fun x w' => x = .returned (.tuple #[.bool b, .int .i64 e]) ∧ Own w0 w' p (T.enter a t).2 (n + 1) := by
  obtain ⟨⟨F, h1, h2⟩, h3, h4, h5⟩ := h
  refine (enter_any h1 h4 h5 a t).mono ?_
  rintro x w' ⟨rfl, hm⟩
  obtain ⟨F', k1, k2, k3⟩ := hm.own h3 h2
  rw [he]
  exact ⟨rfl, ⟨F', k1, k3⟩, k2, PT.enter_small h4 a t, hn⟩
theorem Own.exit {w0 w : World} {p : Value} {T : PT} {n : Nat} (h : Own w0 w p T n) (hn : n + 1 ≤ 100000) (a t : Int) {b e : Int} (he : (T.exit a t).1 = (b, e)) :
    Calls Try.prog 11 #[p, .int .i64 a, .int .i64 t] w fun x w' => x = .returned (.tuple #[.int .i64 b, .int .i64 e]) ∧ Own w0 w' p (T.exit a t).2 (n + 1) := by
  obtain ⟨⟨F, h1, h2⟩, h3, h4, h5⟩ := h
  refine (exit_any h1 h4 h5 a t).mono ?_
  rintro x w' ⟨rfl, hm⟩
  obtain ⟨F', k1, k2, k3⟩ := hm.own h3 h2
  rw [he]
  exact ⟨rfl, ⟨F', k1, k3⟩, k2, PT.exit_small h4 a t, hn⟩
theorem Own.keep {w0 w w' : World} {p : Value} {T : PT} {n : Nat} (h : Own w0 w p T n) (f : Fr [] w w') : Own w0 w' p T n := by
  obtain ⟨⟨F, h1, h2⟩, h3, h4, h5⟩ := h
  exact ⟨⟨F, h1.keep0 f, h2⟩, h3.tr f, h4, h5⟩
theorem Own.lock {w0 w : World} {p : Value} {T : PT} {n : Nat} (h : Own w0 w p T n) (a : Int) :
    Calls Try.prog 12 #[p, .int .i64 a] w fun x w' => LockPost w (T.at a) x w' ∧ Own w0 w' p T n := by
  obtain ⟨F, h1, h2⟩ := h.ex
  refine (lock_any h1 h.sm h.n a).mono ?_
  rintro x w' hm
  have f : Fr [] w w' := by obtain ⟨ve, vw, _, _, _, f⟩ := hm; exact f
  exact ⟨hm, h.keep f⟩
theorem Own.new (w0 w : World) (f : Fr [] w0 w) : Calls Try.prog 9 #[] w fun x w' => ∃ tb, x = .returned (.pointer (some ⟨tb, 0, none⟩)) ∧ Own w0 w' (.pointer (some ⟨tb, 0, none⟩)) PT.new 0 := by
  refine (new_any w).mono ?_
  rintro x w' ⟨p, F, rfl, h1, h2, h3⟩
  obtain ⟨tb, rfl⟩ := h1.ptr
  exact ⟨tb, rfl, ⟨⟨F, h1, fun y hy => Nat.le_trans f.size (h3 y hy)⟩, f.tr h2, PT.new_small, by omega⟩⟩

set_option maxHeartbeats 1000000 in
theorem known_any (w : World) : Calls Try.prog 8 #[] w fun e w' => e = .returned (.bool true) ∧ Fr [] w w' := by
  go_enter Try.func8, Try.ntmps8
  go_wp2_with fail
  refine (Own.new w w (Fr.refl _ _)).mono ?_
  rintro e w1 ⟨tb, rfl, h1⟩
  have H1 := hid h1
  clear h1
  go_wp2_with fail
  refine (H1.out.enter (by omega) 1 7 kT1_is).mono ?_
  rintro e w2 ⟨rfl, h2⟩
  have H2 := hid h2
  clear h2
  go_wp2_with fail
  refine (Own.enter (T := kT1.2) H2.out (by omega) 1 8 kT2_is).mono ?_
  rintro e w3 ⟨rfl, h3⟩
  have H3 := hid h3
  clear h3
  go_wp2_with fail
  refine (Own.exit (T := kT2.2) H3.out (by omega) 1 7 kT3_is).mono ?_
  rintro e w4 ⟨rfl, h4⟩
  have H4 := hid h4
  clear h4
  go_wp2_with fail
  refine (Own.exit (T := kT3.2) H4.out (by omega) 1 7 kT4_is).mono ?_
  rintro e w5 ⟨rfl, h5⟩
  have H5 := hid h5
  clear h5
  have hf := kT4_at.1
  have ho := kT4_at.2
  have HF := hid hf
  have HO := hid ho
  clear hf ho
  go_wp2_with fail
  refine (Own.lock (T := kT4.2) H5.out 1).mono ?_
  rintro e w6 ⟨⟨ve, vw, rfl, s1, s2, _⟩, h6⟩
  obtain ⟨a1, c1, rfl, _, _⟩ := s1.form
  obtain ⟨a2, c2, rfl, _, _⟩ := s2.form
  clear s1 s2
  rw [HF.out]
  have hfl := fld2
  have H6 := hid h6
  clear h6
  go_wp2_with fail
  refine (Own.lock (T := kT4.2) H6.out 1).mono ?_
  rintro e w7 ⟨⟨ve, vw, rfl, s1, s2, _⟩, h7⟩
  obtain ⟨a1, c1, rfl, _, _⟩ := s1.form
  obtain ⟨a2, c2, rfl, _, _⟩ := s2.form
  clear s1 s2
  rw [HO.out]
  have hfl0 := fld0
  have H7 := hid h7
  clear h7
  go_wp2_with fail
  go_ret
  exact ⟨rfl, H7.out.fr⟩

end Go.Proofs.Ythdmgjkipiaccaa
