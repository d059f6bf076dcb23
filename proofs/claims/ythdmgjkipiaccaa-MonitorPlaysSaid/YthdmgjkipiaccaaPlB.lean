/-
  MonitorPlays: both tables beside each other; a step's row.
-/
import Derived.Test.YthdmgjkipiaccaaPlP
import Derived.Test.YthdmgjkipiaccaaMonL1
import Derived.Test.YthdmgjkipiaccaaMonJ
import Derived.Test.YthdmgjkipiaccaaMonI
namespace Go.Proofs.Ythdmgjkipiaccaa
open Go.RowKit

theorem Mon.noW {w : World} {p : Value} {F : List Nat} {T : PT} (h : Mon w p F T) : NoW w F := by
  obtain ⟨l, _, rfl, _, hm⟩ := h
  intro b hb cur e
  rcases mem_fp.1 hb with rfl | rfl | rfl | ⟨g, hg, hb⟩
  · rw [hm.tbl] at e
    simp only [Option.some.injEq, Obj.cells.injEq] at e
    exact absurd e.2.1 (by decide)
  · obtain ⟨_, _, k, _⟩ := hm.lm
    rw [k] at e; simp at e
  · obtain ⟨_, _, k, _⟩ := hm.cm
    rw [k] at e; simp at e
  · have hA := hm.lks g hg
    simp only [LkG.fp, List.mem_cons, List.mem_append] at hb
    rcases hb with rfl | hb | hb
    · rw [hA.blk] at e
      simp only [Option.some.injEq, Obj.cells.injEq] at e
      exact absurd e.2.1 (by decide)
    · exact sli_noW hA.ent b hb cur e
    · exact sli_noW hA.wai b hb cur e
theorem Doc.lt {w : World} {rb : Nat} {F : List Nat} {R : List RL} (h : Doc w rb F R) : ∀ b ∈ F, b < w.heap.size := by
  obtain ⟨v, G, rfl, rfl, h⟩ := h
  exact h.lt
theorem Doc.new {w : World} {rb : Nat} (h : w.heap[rb]? = some (.cells #[.slice none 0 0] 46 (0, 0))) : Doc w rb [rb] [] :=
  ⟨.slice none 0 0, [], by simp [fpv, Value.ownBlock], rfl, h, RV.nil _ _ _, by simp⟩
def tpv (b : Nat) : Value := .pointer (some ⟨b, 0, none⟩)
structure Two (W w : World) (tb rb : Nat) (T : PT) (R : List RL) : Prop where
  ex : ∃ F1 F2, Mon w (tpv tb) F1 T ∧ Doc w rb F2 R ∧ (∀ b ∈ F1, b ∉ F2) ∧ (∀ b ∈ F1, W.heap.size ≤ b) ∧ ∀ b ∈ F2, W.heap.size ≤ b
  fr : Fr [] W w
/-- and a block g that neither touches -/
structure TwoG (W w : World) (tb rb : Nat) (T : PT) (R : List RL) (g : Nat) (o : Obj) : Prop where
  ex : ∃ F1 F2, Mon w (tpv tb) F1 T ∧ Doc w rb F2 R ∧ (∀ b ∈ F1, b ∉ F2) ∧ (∀ b ∈ F1, W.heap.size ≤ b) ∧ (∀ b ∈ F2, W.heap.size ≤ b) ∧ g ∉ F1 ∧ g ∉ F2
  fr : Fr [] W w
  gb : w.heap[g]? = some o
section
variable {W w w' : World} {tb rb g : Nat} {T T' : PT} {R R' : List RL} {o : Obj}
theorem Two.keep (h : Two W w tb rb T R) (f : Fr [] w w') : Two W w' tb rb T R := by
  obtain ⟨F1, F2, h1, h2, h3⟩ := h.ex
  exact ⟨⟨F1, F2, h1.keep0 f, h2.keep0 f, h3⟩, h.fr.tr f⟩
theorem TwoG.keep (h : TwoG W w tb rb T R g o) (f : Fr [] w w') : TwoG W w' tb rb T R g o := by
  obtain ⟨F1, F2, h1, h2, h3⟩ := h.ex
  exact ⟨⟨F1, F2, h1.keep0 f, h2.keep0 f, h3⟩, h.fr.tr f, f.obj h.gb (by simp)⟩
theorem Two.start (h : Two W w tb rb T R) (f : Fr [] w w') (hg : w.heap.size ≤ g) (hb : w'.heap[g]? = some o) : TwoG W w' tb rb T R g o := by
  obtain ⟨F1, F2, h1, h2, h3, h4, h5⟩ := h.ex
  exact ⟨⟨F1, F2, h1.keep0 f, h2.keep0 f, h3, h4, h5, fun hm => by have := h1.lt g hm; omega, fun hm => by have := h2.lt g hm; omega⟩, h.fr.tr f, hb⟩
theorem TwoG.stop (h : TwoG W w tb rb T R g o) : Two W w tb rb T R := by
  obtain ⟨F1, F2, h1, h2, h3, h4, h5, _⟩ := h.ex
  exact ⟨⟨F1, F2, h1, h2, h3, h4, h5⟩, h.fr⟩
theorem TwoG.opp (h : TwoG W w tb rb T R g o) {f : FuncId} {args : Array Value} {v : Value} (hc : ∀ F, Mon w (tpv tb) F T → Calls Try.prog f args w (OpPost w (tpv tb) F v T')) :
    Calls Try.prog f args w fun e w' => e = .returned v ∧ TwoG W w' tb rb T' R g o := by
  obtain ⟨F1, F2, h1, h2, h3, h4, h5, h6, h7⟩ := h.ex
  refine (hc F1 h1).mono ?_
  rintro e w' ⟨rfl, F', k1, f, k3⟩
  have hsz := h.fr.size
  refine ⟨rfl, ⟨F', F2, k1, h2.keep f (fun b hb hm => h3 b hm hb) h1.noW, fun b hb hm => ?_, fun b hb => ?_, h5, fun hm => ?_, h7⟩, h.fr.trans f (fun x hx => .inr (h4 x hx)), f.obj h.gb h6⟩
  · rcases k3 b hb with q | q
    · exact h3 b q hm
    · have := h2.lt b hm; omega
  · rcases k3 b hb with q | q
    · exact h4 b q
    · omega
  · rcases k3 g hm with q | q
    · exact h6 q
    · have := lt_of_block h.gb; omega
theorem TwoG.opd (h : TwoG W w tb rb T R g o) {f : FuncId} {args : Array Value} {P : Ending → World → Prop} (hc : ∀ F, Doc w rb F R → Calls Try.prog f args w fun e w' => P e w' ∧ DMv w w' rb F R') :
    Calls Try.prog f args w fun e w' => P e w' ∧ TwoG W w' tb rb T R' g o := by
  obtain ⟨F1, F2, h1, h2, h3, h4, h5, h6, h7⟩ := h.ex
  refine (hc F2 h2).mono ?_
  rintro e w' ⟨hP, F', k1, f, k3⟩
  have hsz := h.fr.size
  refine ⟨hP, ⟨F1, F', h1.keep f (fun b hb hm => h3 b hb hm), k1, fun b hb hm => ?_, h4, fun b hb => ?_, h6, fun hm => ?_⟩, h.fr.trans f (fun x hx => .inr (h5 x hx)), f.obj h.gb h7⟩
  · rcases k3 b hm with q | q
    · exact h3 b hb q
    · have := h1.lt b hb; omega
  · rcases k3 b hb with q | q
    · exact h5 b q
    · omega
  · rcases k3 g hm with q | q
    · exact h7 q
    · have := lt_of_block h.gb; omega
variable {n : Nat}
theorem TwoG.enter (h : TwoG W w tb rb T R g o) (k : PlM n T R) (hn : n ≤ 1000) (a t : Int) : Calls Try.prog 10 #[tpv tb, .int .i64 a, .int .i64 t] w fun e w' => e = .returned (.tuple #[.bool (T.enter a t).1.1, .int .i64 (T.enter a t).1.2]) ∧ TwoG W w' tb rb (T.enter a t).2 R g o :=
  h.opp (fun F hm => enter_any hm k.sm (by omega) a t)
theorem TwoG.denter (h : TwoG W w tb rb T' R g o) (k : PlM n T R) (hn : n ≤ 1000) (a t : Int) : Calls Try.prog 18 #[tpv rb, .int .i64 a, .int .i64 t] w fun e w' => e = .returned (.tuple #[.bool (rEnter R a t).1.1, .int .i64 (rEnter R a t).1.2]) ∧ TwoG W w' tb rb T' (rEnter R a t).2 g o :=
  h.opd (fun F hd => denter_any hd (k.rbd hn) a t)
theorem TwoG.exit (h : TwoG W w tb rb T R g o) (k : PlM n T R) (hn : n ≤ 1000) (a t : Int) : Calls Try.prog 11 #[tpv tb, .int .i64 a, .int .i64 t] w fun e w' => e = .returned (.tuple #[.int .i64 (T.exit a t).1.1, .int .i64 (T.exit a t).1.2]) ∧ TwoG W w' tb rb (T.exit a t).2 R g o :=
  h.opp (fun F hm => exit_any hm k.sm (by omega) a t)
theorem TwoG.dexit (h : TwoG W w tb rb T' R g o) (k : PlM n T R) (hn : n ≤ 1000) (a t : Int) : Calls Try.prog 19 #[tpv rb, .int .i64 a, .int .i64 t] w fun e w' => e = .returned (.tuple #[.int .i64 (rExit R a t).1.1, .int .i64 (rExit R a t).1.2]) ∧ TwoG W w' tb rb T' (rExit R a t).2 g o :=
  h.opd (fun F hd => dexit_any hd (k.rbd hn) a t)
theorem TwoG.wait (h : TwoG W w tb rb T R g o) (k : PlM n T R) (hn : n ≤ 1000) (a t : Int) : Calls Try.prog 14 #[tpv tb, .int .i64 a, .int .i64 t] w fun e w' => e = .returned (.tuple #[.int .i64 (T.wait a t).1.1, .int .i64 (T.wait a t).1.2]) ∧ TwoG W w' tb rb (T.wait a t).2 R g o :=
  h.opp (fun F hm => wait_any hm k.sm (by omega) a t)
theorem TwoG.dwait (h : TwoG W w tb rb T' R g o) (k : PlM n T R) (hn : n ≤ 1000) (a t : Int) : Calls Try.prog 20 #[tpv rb, .int .i64 a, .int .i64 t] w fun e w' => e = .returned (.tuple #[.int .i64 (rWait R a t).1.1, .int .i64 (rWait R a t).1.2]) ∧ TwoG W w' tb rb T' (rWait R a t).2 g o :=
  h.opd (fun F hd => dwait_any hd (k.rbd hn) a t)
theorem TwoG.notify (h : TwoG W w tb rb T R g o) (k : PlM n T R) (hn : n ≤ 1000) (a t : Int) (all : Bool) : Calls Try.prog 15 #[tpv tb, .int .i64 a, .int .i64 t, .bool all] w fun e w' => e = .returned (.tuple #[.int .i64 (T.notify a t all).1.1, .int .i64 (T.notify a t all).1.2]) ∧ TwoG W w' tb rb (T.notify a t all).2 R g o :=
  h.opp (fun F hm => notify_any hm k.sm (by omega) a t all)
theorem TwoG.dnotify (h : TwoG W w tb rb T' R g o) (k : PlM n T R) (hn : n ≤ 1000) (a t : Int) (all : Bool) : Calls Try.prog 21 #[tpv rb, .int .i64 a, .int .i64 t, .bool all] w fun e w' => (∃ vl, e = .returned (.tuple #[vl, .int .i64 (rNotify R a t all).1.2]) ∧ Sli w' vl (rNotify R a t all).1.1) ∧ TwoG W w' tb rb T' (rNotify R a t all).2 g o :=
  h.opd (fun F hd => dnotify_any hd (k.rbd hn) a t all)
theorem TwoG.forget (h : TwoG W w tb rb T R g o) (k : PlM n T R) (hn : n ≤ 1000) (a : Int) : Calls Try.prog 17 #[tpv tb, .int .i64 a] w fun e w' => e = .returned (.int .i64 (T.forget a).1) ∧ TwoG W w' tb rb (T.forget a).2 R g o :=
  h.opp (fun F hm => forget_any hm k.sm (by omega) a)
theorem TwoG.dforget (h : TwoG W w tb rb T' R g o) (k : PlM n T R) (hn : n ≤ 1000) (a : Int) : Calls Try.prog 22 #[tpv rb, .int .i64 a] w fun e w' => e = .returned (.int .i64 (rForget R a).1) ∧ TwoG W w' tb rb T' (rForget R a).2 g o :=
  h.opd (fun F hd => dforget_any hd (k.rbd hn) a)
theorem TwoG.lock (h : TwoG W w tb rb T R g o) (k : PlM n T R) (hn : n ≤ 1000) (f : Fr [] w w') (a : Int) : Calls Try.prog 12 #[tpv tb, .int .i64 a] w' (LockPost w' (T.at a)) := by
  obtain ⟨F1, F2, h1, h2, _⟩ := (h.keep f).ex
  exact lock_any h1 k.sm (by omega) a
theorem TwoG.dlock (h : TwoG W w tb rb T R g o) (k : PlM n T R) (hn : n ≤ 1000) (f : Fr [] w w') (a : Int) : Calls Try.prog 24 #[tpv rb, .int .i64 a] w' (LockPost w' (T.at a)) := by
  obtain ⟨F1, F2, h1, h2, _⟩ := (h.keep f).ex
  rw [k.sam.at a]
  exact dlock_any h2 (k.rbd hn) a
theorem TwoG.held (h : TwoG W w tb rb T R g o) (k : PlM n T R) (hn : n ≤ 1000) (f : Fr [] w w') (t : Int) : Calls Try.prog 16 #[tpv tb, .int .i64 t] w' (HeldPost w' (T.held t)) := by
  obtain ⟨F1, F2, h1, h2, _⟩ := (h.keep f).ex
  exact held_any h1 k.keys (by have := k.len; omega) t
theorem TwoG.dheld (h : TwoG W w tb rb T R g o) (k : PlM n T R) (hn : n ≤ 1000) (f : Fr [] w w') (t : Int) : Calls Try.prog 25 #[tpv rb, .int .i64 t] w' fun e w2 => ∃ vl, e = .returned vl ∧ Qu w2 vl (T.held t) ∧ Fr [] w' w2 := by
  obtain ⟨F1, F2, h1, h2, _⟩ := (h.keep f).ex
  refine (dheld_any h2 (k.rbd hn) t).mono ?_
  rintro e w2 ⟨vl, rfl, hs⟩
  rw [k.sam.held t]
  exact ⟨vl, rfl, (Qu.ofSli hs.l).1, hs.fr⟩
theorem TwoG.cells {s0 s1 s2 : Int} (h : TwoG W w tb rb T R g (.cells #[.int .i64 s0, .int .i64 s1, .int .i64 s2] 48 (0, 0))) : w.cell? ⟨g, 0, none⟩ = some (.int .i64 s0) ∧ w.cell? ⟨g, 1, none⟩ = some (.int .i64 s1) ∧ w.cell? ⟨g, 2, none⟩ = some (.int .i64 s2) := by
  refine ⟨?_, ?_, ?_⟩ <;> (rw [cell_of_row _ _ _ _ _ _ h.gb]; rfl)
end
/-- a row of steps: what, at, thread -/
def IsRows (w : World) (a : Option Addr) (len : Nat) : Prop :=
  len = 0 ∨ ∃ b off, a = some ⟨b, off, none⟩ ∧ ∃ V : Nat → Int × Int × Int, ∀ i, i < len → w.cell? ⟨b, off + i * 3, none⟩ = some (.int .i64 (V i).1) ∧ w.cell? ⟨b, off + i * 3 + 1, none⟩ = some (.int .i64 (V i).2.1) ∧ w.cell? ⟨b, off + i * 3 + 2, none⟩ = some (.int .i64 (V i).2.2) ∧ wfI (V i).2.1
theorem IsRows.cell {w w' : World} {a : Option Addr} {len : Nat} (h : IsRows w a len) (f : Fr [] w w') {i : Nat} (hi : i < len) :
    ∃ b off s0 s1 s2, a = some ⟨b, off, none⟩ ∧ w'.cell? ⟨b, off + i * 3, none⟩ = some (.int .i64 s0) ∧ w'.cell? ⟨b, off + i * 3 + 1, none⟩ = some (.int .i64 s1) ∧ w'.cell? ⟨b, off + i * 3 + 2, none⟩ = some (.int .i64 s2) ∧ wfI s1 := by
  rcases h with h0 | ⟨b, off, rfl, V, hV⟩
  · omega
  · obtain ⟨h0, h1, h2, h3⟩ := hV i hi
    exact ⟨b, off, _, _, _, rfl, f.cell h0 (by simp), f.cell h1 (by simp), f.cell h2 (by simp), h3⟩

end Go.Proofs.Ythdmgjkipiaccaa
