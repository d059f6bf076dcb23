/-
  MonitorFair: the walk.
-/
import Derived.Test.YthdmgjkipiaccaaMonL1
import Derived.Test.YthdmgjkipiaccaaFairP
import Derived.Test.YthdmgjkipiaccaaRowU
namespace Go.Proofs.Ythdmgjkipiaccaa
open Go.RowKit

structure FBase (W wr : World) (tb : Nat) (vq : Value) (xs : List Int) (T : PT) (n : Nat) : Prop where
  fr : Fr [] W wr
  qu : Qu wr vq xs
  own : ∃ F, Mon wr (.pointer (some ⟨tb, 0, none⟩)) F T ∧ (∀ x ∈ F, W.heap.size ≤ x) ∧ ∀ x ∈ bq vq, x ∉ F
  bq : ∀ x ∈ bq vq, W.heap.size ≤ x
  sm : T.Small n
  n : n ≤ 1000

theorem FBase.ofMoved {W w w' : World} {tb : Nat} {vq : Value} {xs : List Int} {T T' : PT} {n m : Nat} (h : FBase W w tb vq xs T n) {F : List Nat} (hm : ∀ x ∈ Go.Proofs.Ythdmgjkipiaccaa.bq vq, x ∉ F) (hF : ∀ x ∈ F, W.heap.size ≤ x) (k : Moved w w' (.pointer (some ⟨tb, 0, none⟩)) F T') (hs : T'.Small m) (hn : m ≤ 1000) : FBase W w' tb vq xs T' m := by
  obtain ⟨F', k1, k2, k3⟩ := k
  refine ⟨h.fr.trans k2 (fun x hx => .inr (hF x hx)), h.qu.keep k2 hm, ⟨F', k1, fun x hx => ?_, fun x hx hx' => ?_⟩, h.bq, hs, hn⟩
  · rcases k3 x hx with h1 | h1
    · exact hF x h1
    · exact Nat.le_trans h.fr.size h1
  · rcases k3 x hx' with h1 | h1
    · exact hm x hx h1
    · have := h.qu.lt x hx; omega
theorem FBase.enter {W w : World} {tb : Nat} {vq : Value} {xs : List Int} {T : PT} {n : Nat} (h : FBase W w tb vq xs T n) (hn : n + 1 ≤ 1000) (t : Int) {b : Bool} {e : Int} (he : (T.enter 5 t).1 = (b, e)) :
    Calls Try.prog 10 #[.pointer (some ⟨tb, 0, none⟩), .int .i64 5, .int .i64 t] w fun x w' => x = .returned (.tuple #[.bool b, .int .i64 e]) ∧ FBase W w' tb vq xs (T.enter 5 t).2 (n + 1) := by
  obtain ⟨F, h1, h2, h3⟩ := h.own
  refine (enter_any h1 h.sm (by omega) 5 t).mono ?_
  rintro x w' ⟨rfl, hm⟩
  rw [he]
  exact ⟨rfl, h.ofMoved h3 h2 hm (PT.enter_small h.sm 5 t) hn⟩
theorem FBase.exit {W w : World} {tb : Nat} {vq : Value} {xs : List Int} {T : PT} {n : Nat} (h : FBase W w tb vq xs T n) (hn : n + 1 ≤ 1000) (t : Int) {b e : Int} (he : (T.exit 5 t).1 = (b, e)) :
    Calls Try.prog 11 #[.pointer (some ⟨tb, 0, none⟩), .int .i64 5, .int .i64 t] w fun x w' => x = .returned (.tuple #[.int .i64 b, .int .i64 e]) ∧ FBase W w' tb vq xs (T.exit 5 t).2 (n + 1) := by
  obtain ⟨F, h1, h2, h3⟩ := h.own
  refine (exit_any h1 h.sm (by omega) 5 t).mono ?_
  rintro x w' ⟨rfl, hm⟩
  rw [he]
  exact ⟨rfl, h.ofMoved h3 h2 hm (PT.exit_small h.sm 5 t) hn⟩
theorem FBase.keep {W w w' : World} {tb : Nat} {vq : Value} {xs : List Int} {T : PT} {n : Nat} (h : FBase W w tb vq xs T n) (f : Fr [] w w') : FBase W w' tb vq xs T n := by
  obtain ⟨F, h1, h2, h3⟩ := h.own
  exact ⟨h.fr.tr f, h.qu.keep0 f, ⟨F, h1.keep0 f, h2, h3⟩, h.bq, h.sm, h.n⟩
theorem FBase.lock {W w : World} {tb : Nat} {vq : Value} {xs : List Int} {T : PT} {n : Nat} (h : FBase W w tb vq xs T n) :
    Calls Try.prog 12 #[.pointer (some ⟨tb, 0, none⟩), .int .i64 5] w fun x w' => LockPost w (T.at 5) x w' ∧ FBase W w' tb vq xs T n := by
  obtain ⟨F, h1, h2, h3⟩ := h.own
  refine (lock_any h1 h.sm (by have := h.n; omega) 5).mono ?_
  rintro x w' hm
  have f : Fr [] w w' := by obtain ⟨ve, vw, _, _, _, f⟩ := hm; exact f
  exact ⟨hm, h.keep f⟩
theorem FBase.push {W w w' : World} {tb : Nat} {vq v' : Value} {xs ys : List Int} {T : PT} {n : Nat} (h : FBase W w tb vq xs T n) (q : Qu w' v' ys) (f : Fr (Go.Proofs.Ythdmgjkipiaccaa.bq vq) w w') (hb : ∀ b ∈ Go.Proofs.Ythdmgjkipiaccaa.bq v', b ∈ Go.Proofs.Ythdmgjkipiaccaa.bq vq ∨ w.heap.size ≤ b) : FBase W w' tb v' ys T n := by
  obtain ⟨F, h1, h2, h3⟩ := h.own
  refine ⟨h.fr.trans f (fun x hx => .inr (h.bq x hx)), q, ⟨F, h1.keep f (fun b hb hm => h3 b hm hb), h2, fun x hx hF => ?_⟩, fun x hx => ?_, h.sm, h.n⟩
  · rcases hb x hx with k | k
    · exact h3 x k hF
    · have := h1.lt x hF; omega
  · rcases hb x hx with k | k
    · exact h.bq x k
    · exact Nat.le_trans h.fr.size k

theorem FBase.mono {W w : World} {tb : Nat} {vq : Value} {xs : List Int} {T : PT} {n m : Nat} (h : FBase W w tb vq xs T n) (hm : n ≤ m) (hn : m ≤ 1000) : FBase W w tb vq xs T m := ⟨h.fr, h.qu, h.own, h.bq, h.sm.mono hm, hn⟩
theorem contains_take {xs : List Int} {j : Nat} (h : j < xs.length) (d : Int) : (xs.take (j + 1)).contains d = ((xs.take j).contains d || (xs.getD j 0 == d)) := by
  have e : xs[j] = xs.getD j 0 := by rw [List.getD, List.getElem?_eq_getElem h]; rfl
  rw [List.take_succ_eq_append_getElem h, e]
  generalize xs.getD j 0 = y
  generalize xs.take j = l
  rw [Bool.eq_iff_iff, Bool.or_eq_true, List.contains_iff_mem, List.contains_iff_mem, List.mem_append, List.mem_singleton, beq_iff_eq, eq_comm (a := d)]
def FRel (W wr : World) (tb len0 : Nat) (o q i : Value) : Prop :=
  ∃ (k : Nat) (ow : Int) (xs : List Int) (T : PT), k ≤ len0 ∧ i = .int .i64 k ∧ o = .int .i64 ow ∧ Hid (FBase W wr tb q xs T k ∧ FInv ow xs T ∧ (∀ x ∈ xs, 1 ≤ x) ∧ xs.length ≤ k)

set_option maxRecDepth 20000 in
set_option maxHeartbeats 2000000 in
theorem fair_walk (a0 : Option Addr) (len0 cap0 : Nat) (z0 : List Int) (W : World) (w0 : IsRow .u8 W a0 len0 cap0 z0) :
    Calls Try.prog 3 #[.slice a0 len0 cap0] W fun e w' => e = .returned (.bool true) ∧ Fr [] W w' := by
  have hlen := w0.len
  by_cases hb0 : 80 < len0
  · clear w0
    go_enter Try.func3, Try.ntmps3
    go_wp2_with fail
    refine (known_any W).mono ?_
    rintro e wA ⟨rfl, f0⟩
    go_wp2_with fail
    go_ret
    exact ⟨rfl, f0⟩
  · have hb1 : len0 ≤ 80 := by omega
    clear hb0
    have W0 := hid w0
    clear w0
    go_enter Try.func3, Try.ntmps3
    go_wp2_with fail
    refine (known_any W).mono ?_
    rintro e wA ⟨rfl, f0⟩
    go_wp2_with fail
    refine (Own.new W wA f0).mono ?_
    rintro e wB ⟨tb, rfl, h1⟩
    have H1 := hid h1
    clear h1 f0
    go_wp2_with fail
    go_loopw [4, 5, 6] (fun o q i wr => FRel W wr tb len0 o q i) (fun _ _ i _ => len0 - (intOf i).toNat)
    case atStart =>
      obtain ⟨⟨F, k1, k2⟩, k3, k4, k5⟩ := H1.out
      exact ⟨0, 0, [], PT.new, by omega, rfl, rfl, ⟨k3, Qu.nil _, ⟨F, k1, k2, by simp [bq]⟩, by simp [bq], k4, by omega⟩, FInv.new, by simp, by simp⟩
    case round =>
      obtain ⟨k, ow, xs, T, hk, rfl, rfl, hf⟩ := hrel
      by_cases hlt : k < len0
      · obtain ⟨b, off, rfl, hcell0, hwf⟩ := W0.out.cell k hlt
        have hcell := hf.out.1.fr.cell hcell0 (by simp)
        obtain ⟨x1, x2⟩ := u8_bounds hwf
        generalize z0.getD k 0 = x at hcell x1 x2
        clear hcell0 hwf
        obtain ⟨aq, cq, hq, hq1, hq2⟩ := hf.out.1.qu.form
        subst hq
        unfold maxLen at hq2
        have hd1 : 1 ≤ x / 2 % 6 + 1 := by omega
        go_wp2_with fail
        generalize x / 2 % 6 + 1 = d at hd1 ⊢
        have HD1 := hid hd1
        clear hd1
        go_loop [8, 9] (fun wv i => ∃ j : Nat, j ≤ xs.length ∧ i = .int .i64 j ∧ wv = .bool ((xs.take j).contains d)) (fun _ i => xs.length - (intOf i).toNat)
        case atStart => exact ⟨0, Nat.zero_le _, rfl, by simp⟩
        case round =>
          obtain ⟨j, hj, rfl, rfl⟩ := hrel
          by_cases hjl : j < xs.length
          · obtain ⟨bb, oo, cc, hqe, hqc⟩ := hf.out.1.qu.cell j hjl
            injection hqe with e1 e2 e3
            subst e1
            clear e2 e3
            have hct := contains_take hjl d
            generalize (xs.take j).contains d = wt at hct ⊢
            have HCT := hid hct
            clear hct
            cases wt with
            | true =>
              go_wp2_with fail
              go_round
              case rel => exact ⟨j + 1, by omega, by go_num, by rw [HCT.out]; rfl⟩
              case measure => simp [intOf]; omega
            | false =>
              generalize xs.getD j 0 = y at hqc HCT
              by_cases hy : y = d
              · have hyb : (y == d) = true := by simpa using hy
                have HY := hid hyb
                clear hy
                go_wp2_with fail
                go_round
                case rel => exact ⟨j + 1, by omega, by go_num, by rw [HCT.out, HY.out]; rfl⟩
                case measure => simp [intOf]; omega
              · have hyb : (y == d) = false := by simpa using hy
                have HY := hid hyb
                clear hy
                go_wp2_with fail
                go_round
                case rel => exact ⟨j + 1, by omega, by go_num, by rw [HCT.out, HY.out]; rfl⟩
                case measure => simp [intOf]; omega
          · obtain rfl : j = xs.length := by omega
            rw [List.take_length]
            clear hjl hj
            by_cases hev : x % 2 = 0
            · have hevb : (x % 2 == 0) = true := by simpa using hev
              clear hev
              cases hct : xs.contains d with
              | true =>
                clear hct
                go_wp2_with fail
                go_roundw
                case rel => exact ⟨k + 1, ow, xs, T, by omega, by go_num, rfl, hf.out.1.mono (by omega) (by omega), hf.out.2.1, hf.out.2.2.1, by have := hf.out.2.2.2; omega⟩
                case measure => simp [intOf]; omega
              | false =>
                have HCT := hid hct
                clear hct
                by_cases hod : ow = d
                · have hodb : (ow == d) = true := by simpa using hod
                  clear hod
                  go_wp2_with fail
                  go_roundw
                  case rel => exact ⟨k + 1, ow, xs, T, by omega, by go_num, rfl, hf.out.1.mono (by omega) (by omega), hf.out.2.1, hf.out.2.2.1, by have := hf.out.2.2.2; omega⟩
                  case measure => simp [intOf]; omega
                · have hodb : (ow == d) = false := by simpa using hod
                  obtain ⟨he1, he2⟩ := hf.out.2.1.enter HD1.out HCT.out hod
                  by_cases ho0 : ow = 0
                  · have ho0b : (ow == 0) = true := by simpa using ho0
                    rw [decide_eq_true ho0] at he1
                    rw [if_pos ho0, if_pos ho0] at he2
                    have HE := hid (hf.out.1.enter (by omega) d he1)
                    have HI := hid he2
                    clear he1 he2 hod ho0
                    go_wp2_with fail
                    refine HE.out.mono ?_
                    rintro e w2 ⟨rfl, hB⟩
                    have HB := hid hB
                    clear hB
                    go_wp2_with fail
                    go_roundw
                    case rel => exact ⟨k + 1, d, xs, _, by omega, by go_num, rfl, HB.out, HI.out, hf.out.2.2.1, by have := hf.out.2.2.2; omega⟩
                    case measure => simp [intOf]; omega
                  · have ho0b : (ow == 0) = false := by simpa using ho0
                    rw [decide_eq_false ho0] at he1
                    rw [if_neg ho0, if_neg ho0] at he2
                    have HE := hid (hf.out.1.enter (by omega) d he1)
                    have HI := hid he2
                    have HLX := hid (show xs.length ≤ 1000000 by have := hf.out.2.2.2; omega)
                    clear he1 he2 hod ho0
                    go_wp2_with fail
                    refine HE.out.mono ?_
                    rintro e w2 ⟨rfl, hB⟩
                    have HB := hid hB
                    clear hB
                    go_wp2_with (at_builtin; refine wpList_append_qu rfl _ _ rfl (.slice aq xs.length cq) xs rfl (HB.out.qu.keep0 ((Fr.refl _ _).alloc _)) ⟨w2.heap.size, 0, none⟩ d rfl (cell_one_new w2 (.int .i64 d) 3 0 _ rfl) HLX.out ?_; intro v' w3 q3 f3 b3; have HB3 := hid ((HB.out.keep ((Fr.refl [] w2).alloc (.cells #[.int .i64 d] 3))).push q3 f3 b3); clear q3 f3 b3)
                    go_roundw
                    case rel => exact ⟨k + 1, ow, xs ++ [d], _, by omega, by go_num, rfl, HB3.out, HI.out, fun y hy => by
                      rcases List.mem_append.1 hy with h1 | h1
                      · exact hf.out.2.2.1 y h1
                      · rw [List.mem_singleton.1 h1]; exact HD1.out, by have := hf.out.2.2.2; simp; omega⟩
                    case measure => simp [intOf]; omega
            · have hevb : (x % 2 == 0) = false := by simpa using hev
              clear hev
              by_cases hod : ow = d
              · subst hod
                obtain ⟨he1, he2⟩ := hf.out.2.1.exit HD1.out hf.out.2.2.1
                have HE := hid (hf.out.1.exit (by omega) ow he1)
                have HI := hid he2
                clear he1 he2
                cases xs with
                | nil =>
                  go_wp2_with fail
                  refine HE.out.mono ?_
                  rintro e w2 ⟨rfl, hB⟩
                  have HB := hid hB
                  clear hB
                  go_wp2_with fail
                  refine HB.out.lock.mono ?_
                  rintro e w3 ⟨⟨ve, vw, rfl, s1, s2, f3⟩, hB3⟩
                  obtain ⟨k1, k2, k3⟩ := HI.out.at
                  rw [k1]
                  rw [k3] at s1
                  obtain ⟨a1, c1, rfl, _, _⟩ := s1.form
                  obtain ⟨a2, c2, rfl, _, _⟩ := s2.form
                  have HB3 := hid hB3
                  have S1 := hid s1
                  have hfl := fld0
                  clear s1 s2 f3 hB3 k1 k2 k3
                  go_wp2_with fail
                  refine (ints_any _ _ _ [] [] ((Qu.ofSli S1.out).1.keep0 ((Fr.refl _ _).alloc _)) (HB3.out.qu.keep0 ((Fr.refl _ _).alloc _))).mono ?_
                  rintro e w4 ⟨rfl, f4⟩
                  rw [show decide (([] : List Int) = []) = true from rfl]
                  have F4 := hid f4
                  clear f4
                  go_wp2_with fail
                  go_roundw
                  case rel => exact ⟨k + 1, 0, [], _, by omega, by go_num, rfl, (HB3.out.keep ((Fr.refl _ _).alloc _)).keep F4.out, HI.out, by simp, by simp⟩
                  case measure => simp [intOf]; omega
                | cons y r =>
                  have hy1 := hf.out.2.2.1 y (by simp)
                  have hyb : (y == 0) = false := by have : ¬ y = 0 := by omega
                                                    simpa using this
                  have hyb2 : (y != 0) = true := by
                    have : ¬ y = 0 := by omega
                    simpa using this
                  have HY1 := hid hy1
                  clear hy1
                  simp only [List.length_cons] at hq1
                  go_wp2_with fail
                  refine HE.out.mono ?_
                  rintro e w2 ⟨rfl, hB⟩
                  have HB := hid hB
                  clear hB
                  obtain ⟨qb, qo, qc, hqe, hqc⟩ := HB.out.qu.cell 0 (by simp)
                  injection hqe with e1 e2 e3
                  subst e1
                  clear e2 e3
                  have hqc : w2.cell? ⟨qb, qo, none⟩ = some (.int .i64 y) := hqc
                  by_cases hcq : cq = 1
                  · subst hcq
                    obtain rfl : r = [] := by cases r with | nil => rfl | cons z r => simp at hq1
                    have HT := hid ((HB.out.push (Qu.tail HB.out.qu ⟨qb, qo, none⟩ (by rw [if_pos rfl])).1 (Fr.refl _ _) (fun z hz => .inl (by rw [(Qu.tail HB.out.qu ⟨qb, qo, none⟩ (by rw [if_pos rfl])).2] at hz; simpa [bq] using hz))).keep ((Fr.refl [] w2).drew))
                    go_wp2_with fail
                    go_region
                    all_goals
                      go_wp2_with fail
                      refine HT.out.lock.mono ?_
                      rintro e w3 ⟨⟨ve, vw, rfl, s1, s2, f3⟩, hB3⟩
                      obtain ⟨k1, k2, k3⟩ := HI.out.at
                      have k1 : ((T.exit 5 ow).2.at 5).owner = y := k1
                      have k2 := k2 (by show y ≠ 0; have := HY1.out; omega)
                      have k3 : ((T.exit 5 ow).2.at 5).entry = [] := k3
                      rw [k1, k2]
                      rw [k3] at s1
                      obtain ⟨a1, c1, rfl, _, _⟩ := s1.form
                      obtain ⟨a2, c2, rfl, _, _⟩ := s2.form
                      have HB3 := hid hB3
                      have S1 := hid s1
                      have hfl := fld0
                      have hfl1 := fld1
                      clear s1 s2 f3 hB3 k1 k2 k3
                      go_wp2_with fail
                      refine (ints_any _ _ _ [] [] ((Qu.ofSli S1.out).1.keep0 ((Fr.refl _ _).alloc _)) (HB3.out.qu.keep0 ((Fr.refl _ _).alloc _))).mono ?_
                      rintro e w4 ⟨rfl, f4⟩
                      rw [show decide (([] : List Int) = []) = true from decide_eq_true rfl]
                      have F4 := hid f4
                      clear f4
                      go_wp2_with fail
                      go_roundw
                      case rel => exact ⟨k + 1, y, [], _, by omega, by go_num, rfl, (HB3.out.keep ((Fr.refl _ _).alloc _)).keep F4.out, HI.out, fun z hz => hf.out.2.2.1 z (by simp [hz]), by have := hf.out.2.2.2; simp only [List.length_cons, List.length_nil] at this ⊢; omega⟩
                      case measure => simp [intOf]; omega
                  · have hcq1 : 1 < cq := by omega
                    have HCQ := hid hcq
                    have HT := hid ((HB.out.push (Qu.tail HB.out.qu ⟨qb, qo + 1, none⟩ (by rw [if_neg HCQ.out])).1 (Fr.refl _ _) (fun z hz => .inl (by rw [(Qu.tail HB.out.qu ⟨qb, qo + 1, none⟩ (by rw [if_neg HCQ.out])).2] at hz; simpa [bq] using hz))).keep ((Fr.refl [] w2).drew))
                    go_wp2_with fail
                    go_region
                    all_goals
                      go_wp2_with fail
                      refine HT.out.lock.mono ?_
                      rintro e w3 ⟨⟨ve, vw, rfl, s1, s2, f3⟩, hB3⟩
                      obtain ⟨k1, k2, k3⟩ := HI.out.at
                      have k1 : ((T.exit 5 ow).2.at 5).owner = y := k1
                      have k2 := k2 (by show y ≠ 0; have := HY1.out; omega)
                      have k3 : ((T.exit 5 ow).2.at 5).entry = r := k3
                      rw [k1, k2]
                      rw [k3] at s1
                      obtain ⟨a1, c1, rfl, _, _⟩ := s1.form
                      obtain ⟨a2, c2, rfl, _, _⟩ := s2.form
                      have HB3 := hid hB3
                      have S1 := hid s1
                      have hfl := fld0
                      have hfl1 := fld1
                      clear s1 s2 f3 hB3 k1 k2 k3
                      go_wp2_with fail
                      refine (ints_any _ _ _ r r ((Qu.ofSli S1.out).1.keep0 ((Fr.refl _ _).alloc _)) (HB3.out.qu.keep0 ((Fr.refl _ _).alloc _))).mono ?_
                      rintro e w4 ⟨rfl, f4⟩
                      rw [show decide ((r : List Int) = r) = true from decide_eq_true rfl]
                      have F4 := hid f4
                      clear f4
                      go_wp2_with fail
                      go_roundw
                      case rel => exact ⟨k + 1, y, r, _, by omega, by go_num, rfl, (HB3.out.keep ((Fr.refl _ _).alloc _)).keep F4.out, HI.out, fun z hz => hf.out.2.2.1 z (by simp [hz]), by have := hf.out.2.2.2; simp only [List.length_cons] at this ⊢; omega⟩
                      case measure => simp [intOf]; omega
              · have hodb : (ow == d) = false := by simpa using hod
                have hodb2 : (ow != d) = true := by simpa using hod
                have hno := hf.out.2.1.exit_no hod
                have HNO := hid hno
                have HE := hid (hf.out.1.exit (by omega) d (b := 0) (e := 130) (by rw [hno]))
                clear hno hod
                go_wp2_with fail
                refine HE.out.mono ?_
                rintro e w2 ⟨rfl, hB⟩
                have HB := hid hB
                clear hB
                go_wp2_with fail
                go_roundw
                case rel => exact ⟨k + 1, ow, xs, _, by omega, by go_num, rfl, HB.out, by rw [HNO.out]; exact hf.out.2.1, hf.out.2.2.1, by have := hf.out.2.2.2; omega⟩
                case measure => simp [intOf]; omega
      · obtain rfl : k = len0 := by omega
        have HFR := hid hf.out.1.fr
        clear hf
        go_wp2_with fail
        go_ret
        exact ⟨rfl, HFR.out⟩

end Go.Proofs.Ythdmgjkipiaccaa
