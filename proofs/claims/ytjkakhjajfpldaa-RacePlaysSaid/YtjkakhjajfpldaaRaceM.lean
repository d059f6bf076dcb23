/-
  RacePlays: both watches beside each other, and a step's row.
-/
import Derived.Test.YtjkakhjajfpldaaRaceN
import Derived.Test.YtjkakhjajfpldaaRaceK
namespace Go.Proofs.Ytjkakhjajfpldaa
open Go.RowKit

structure Bo0 (W w : World) (p : Ptrs) (rb : Nat) (s : St) (r : RSt) : Prop where
  ex : ∃ F, Ref w rb F r ∧ (∀ x ∈ F, W.heap.size ≤ x) ∧ ∀ x ∈ F, x ∉ p.S
  wt : Watch w p s
  pn : ∀ x ∈ p.S, W.heap.size ≤ x
  fr : Fr [] W w
/-- and a block g that neither touches -/
structure BoG (W w : World) (p : Ptrs) (rb : Nat) (s : St) (r : RSt) (g : Nat) (o : Obj) : Prop where
  ex : ∃ F, Ref w rb F r ∧ (∀ x ∈ F, W.heap.size ≤ x) ∧ (∀ x ∈ F, x ∉ p.S) ∧ g ∉ F
  wt : Watch w p s
  pn : ∀ x ∈ p.S, W.heap.size ≤ x
  fr : Fr [] W w
  gp : g ∉ p.S
  gb : w.heap[g]? = some o
section
variable {W w w' : World} {p : Ptrs} {rb g : Nat} {s s' : St} {r r' : RSt} {o : Obj}
theorem Bo0.keep (h : Bo0 W w p rb s r) (f : Fr [] w w') : Bo0 W w' p rb s r := by
  obtain ⟨F, h1, h2, h3⟩ := h.ex
  exact ⟨⟨F, h1.keep0 f, h2, h3⟩, h.wt.keep0 f, h.pn, h.fr.tr f⟩
theorem Bo0.start (h : Bo0 W w p rb s r) (f : Fr [] w w') (hg : w.heap.size ≤ g) (hb : w'.heap[g]? = some o) : BoG W w' p rb s r g o := by
  obtain ⟨F, h1, h2, h3⟩ := h.ex
  refine ⟨⟨F, h1.keep0 f, h2, h3, fun hm => ?_⟩, h.wt.keep0 f, h.pn, h.fr.tr f, fun hm => ?_, hb⟩
  · have := h1.lt g hm; omega
  · have := h.wt.lt g hm; omega
theorem BoG.stop (h : BoG W w p rb s r g o) : Bo0 W w p rb s r := by
  obtain ⟨F, h1, h2, h3, _⟩ := h.ex
  exact ⟨⟨F, h1, h2, h3⟩, h.wt, h.pn, h.fr⟩
theorem BoG.keep (h : BoG W w p rb s r g o) (f : Fr [] w w') : BoG W w' p rb s r g o := by
  obtain ⟨F, h1, h2, h3, h4⟩ := h.ex
  exact ⟨⟨F, h1.keep0 f, h2, h3, h4⟩, h.wt.keep0 f, h.pn, h.fr.tr f, h.gp, f.obj h.gb (by simp)⟩
theorem BoG.prog (h : BoG W w p rb s r g o) (hw : Watch w' p s') (f : Fr p.S w w') : BoG W w' p rb s' r g o := by
  obtain ⟨F, h1, h2, h3, h4⟩ := h.ex
  exact ⟨⟨F, h1.keep f h3, h2, h3, h4⟩, hw, h.pn, h.fr.trans f (fun x hx => .inr (h.pn x hx)), h.gp, f.obj h.gb h.gp⟩
theorem BoG.ref {F : List Nat} (h : BoG W w p rb s r g o) (h1 : Ref w rb F r) (h2 : ∀ x ∈ F, W.heap.size ≤ x) (h3 : ∀ x ∈ F, x ∉ p.S) (h4 : g ∉ F) (k : RMv w w' rb F r') : BoG W w' p rb s r' g o := by
  obtain ⟨F', k1, f, k3⟩ := k
  have hlt := h.wt.lt
  have hg := lt_of_block h.gb
  refine ⟨⟨F', k1, fun x hx => ?_, fun x hx hm => ?_, fun hm => ?_⟩, h.wt.keep f (fun x hx hm => h3 x hm hx) h1.noInts, h.pn, h.fr.trans f (fun x hx => .inr (h2 x hx)), h.gp, f.obj h.gb h4⟩
  · rcases k3 x hx with q | q
    · exact h2 x q
    · exact Nat.le_trans h.fr.size q
  · rcases k3 x hx with q | q
    · exact h3 x q hm
    · have := hlt x hm; omega
  · rcases k3 g hm with q | q
    · exact h4 q
    · omega
/-! ### each call, of the program and of the document -/
theorem BoG.pBegin (h : BoG W w p rb s r g o) (t b : Int) : Calls Try.prog 19 #[.pointer (some ⟨p.b, 0, none⟩), .int .i64 t, .int .i64 b] w fun e w' => e = .returned (.tuple #[]) ∧ BoG W w' p rb (s.begins t b) r g o :=
  (begin_any w p s t b h.wt).mono fun _ _ ⟨he, hw, f⟩ => ⟨he, h.prog hw f⟩
theorem BoG.pEnd (h : BoG W w p rb s r g o) (t : Int) : Calls Try.prog 20 #[.pointer (some ⟨p.b, 0, none⟩), .int .i64 t] w fun e w' => e = .returned (.tuple #[]) ∧ BoG W w' p rb (s.endT t) r g o :=
  (end_any w p s t h.wt).mono fun _ _ ⟨he, hw, f⟩ => ⟨he, h.prog hw f⟩
theorem BoG.pJoined (h : BoG W w p rb s r g o) (t b : Int) : Calls Try.prog 21 #[.pointer (some ⟨p.b, 0, none⟩), .int .i64 t, .int .i64 b] w fun e w' => e = .returned (.tuple #[]) ∧ BoG W w' p rb (s.joined t b) r g o :=
  (joined_any w p s t b h.wt).mono fun _ _ ⟨he, hw, f⟩ => ⟨he, h.prog hw f⟩
theorem BoG.pAcquire (h : BoG W w p rb s r g o) (t b : Int) : Calls Try.prog 16 #[.pointer (some ⟨p.b, 0, none⟩), .int .i64 t, .int .i64 b] w fun e w' => e = .returned (.tuple #[]) ∧ BoG W w' p rb (s.acqLock t b) r g o :=
  (acquire_any w p s t b h.wt).mono fun _ _ ⟨he, hw, f⟩ => ⟨he, h.prog hw f⟩
theorem BoG.pRelease (h : BoG W w p rb s r g o) (t b : Int) : Calls Try.prog 17 #[.pointer (some ⟨p.b, 0, none⟩), .int .i64 t, .int .i64 b] w fun e w' => e = .returned (.tuple #[]) ∧ BoG W w' p rb (s.relLock t b) r g o :=
  (release_any w p s t b h.wt).mono fun _ _ ⟨he, hw, f⟩ => ⟨he, h.prog hw f⟩
theorem BoG.pRead (h : BoG W w p rb s r g o) (t a i : Int) (v : Bool) : Calls Try.prog 14 #[.pointer (some ⟨p.b, 0, none⟩), .int .i64 t, .int .i64 a, .int .i64 i, .bool v] w fun e w' => e = .returned (.bool (s.read t a i v).1) ∧ BoG W w' p rb (s.read t a i v).2 r g o :=
  (read_any w p s t a i v h.wt).mono fun _ _ ⟨he, hw, f⟩ => ⟨he, h.prog hw f⟩
theorem BoG.pWrite (h : BoG W w p rb s r g o) (t a i : Int) (v : Bool) : Calls Try.prog 15 #[.pointer (some ⟨p.b, 0, none⟩), .int .i64 t, .int .i64 a, .int .i64 i, .bool v] w fun e w' => e = .returned (.bool (s.write t a i v).1) ∧ BoG W w' p rb (s.write t a i v).2 r g o :=
  (write_any w p s t a i v h.wt).mono fun _ _ ⟨he, hw, f⟩ => ⟨he, h.prog hw f⟩
/-- what the document's calls ask -/
structure Lim (r : RSt) : Prop where
  k : r.kept.length ≤ 900
  l : r.l.length ≤ 900
  now : ∀ t : Nat, t < 13 → ∀ i, 0 ≤ (r.now.getD t []).getD i 0 ∧ (r.now.getD t []).getD i 0 ≤ 1000
  rc : 0 ≤ r.races ∧ r.races ≤ 100000
theorem BoG.rBegin (h : BoG W w p rb s r g o) (hl : Lim r) (t b : Int) : Calls Try.prog 23 #[.pointer (some ⟨rb, 0, none⟩), .int .i64 t, .int .i64 b] w fun e w' => e = .returned (.tuple #[]) ∧ BoG W w' p rb s (r.begins t b) g o := by
  obtain ⟨F, h1, h2, h3, h4⟩ := h.ex
  exact (rbegin_any h1 hl.now t b).mono fun _ _ ⟨he, k⟩ => ⟨he, h.ref h1 h2 h3 h4 k⟩
theorem BoG.rEnd (h : BoG W w p rb s r g o) (t : Int) : Calls Try.prog 24 #[.pointer (some ⟨rb, 0, none⟩), .int .i64 t] w fun e w' => e = .returned (.tuple #[]) ∧ BoG W w' p rb s (r.endT t) g o := by
  obtain ⟨F, h1, h2, h3, h4⟩ := h.ex
  exact (rend_any h1 t).mono fun _ _ ⟨he, k⟩ => ⟨he, h.ref h1 h2 h3 h4 k⟩
theorem BoG.rJoined (h : BoG W w p rb s r g o) (t b : Int) : Calls Try.prog 25 #[.pointer (some ⟨rb, 0, none⟩), .int .i64 t, .int .i64 b] w fun e w' => e = .returned (.tuple #[]) ∧ BoG W w' p rb s (r.joined t b) g o := by
  obtain ⟨F, h1, h2, h3, h4⟩ := h.ex
  exact (rjoined_any h1 t b).mono fun _ _ ⟨he, k⟩ => ⟨he, h.ref h1 h2 h3 h4 k⟩
theorem BoG.rAcquire (h : BoG W w p rb s r g o) (hl : Lim r) (t a i : Int) : Calls Try.prog 26 #[.pointer (some ⟨rb, 0, none⟩), .int .i64 t, .int .i64 a, .int .i64 i] w fun e w' => e = .returned (.tuple #[]) ∧ BoG W w' p rb s (r.acquire t (a, i)) g o := by
  obtain ⟨F, h1, h2, h3, h4⟩ := h.ex
  exact (racquire_any h1 hl.k t a i).mono fun _ _ ⟨he, k⟩ => ⟨he, h.ref h1 h2 h3 h4 k⟩
theorem BoG.rRelease (h : BoG W w p rb s r g o) (hl : Lim r) (t a i : Int) : Calls Try.prog 27 #[.pointer (some ⟨rb, 0, none⟩), .int .i64 t, .int .i64 a, .int .i64 i] w fun e w' => e = .returned (.tuple #[]) ∧ BoG W w' p rb s (r.release t (a, i)) g o := by
  obtain ⟨F, h1, h2, h3, h4⟩ := h.ex
  exact (rrelease_any h1 hl.k hl.now t a i).mono fun _ _ ⟨he, k⟩ => ⟨he, h.ref h1 h2 h3 h4 k⟩
theorem BoG.rAccess (h : BoG W w p rb s r g o) (hl : Lim r) (t a i : Int) (b : Bool) : Calls Try.prog 28 #[.pointer (some ⟨rb, 0, none⟩), .int .i64 t, .int .i64 a, .int .i64 i, .bool b] w fun e w' => e = .returned (.bool (r.access t (a, i) b).1) ∧ BoG W w' p rb s (r.access t (a, i) b).2 g o := by
  obtain ⟨F, h1, h2, h3, h4⟩ := h.ex
  exact (raccess_any h1 hl.l hl.rc t a i b).mono fun _ _ ⟨he, k⟩ => ⟨he, h.ref h1 h2 h3 h4 k⟩
theorem BoG.rRaces (h : BoG W w p rb s r g o) : w.cell? ⟨rb, 353, none⟩ = some (.int .i64 r.races) := by
  obtain ⟨F, ⟨vk, vl, C, rfl, h1⟩, _⟩ := h.ex
  exact h1.slots.2.2
theorem BoG.rClock (h : BoG W w p rb s r g o) (t : Int) : Calls Try.prog 31 #[.pointer (some ⟨rb, 0, none⟩), .int .i64 t] w fun e w' => e = .returned (clkV (r.clock t)) ∧ Fr [] w w' := by
  obtain ⟨F, h1, _⟩ := h.ex
  exact rclock_any h1 t
end
/-! ### how long what is -/
def LB (k : Nat) (r : RSt) : Prop := r.kept.length ≤ k ∧ r.l.length ≤ k
section
variable {k : Nat} {r : RSt}
theorem LB.begins (h : LB k r) (t b : Int) : LB (k + 1) (r.begins t b) := by
  unfold RSt.begins; split <;> exact ⟨Nat.le_succ_of_le h.1, Nat.le_succ_of_le h.2⟩
theorem LB.endT (h : LB k r) (t : Int) : LB (k + 1) (r.endT t) := by
  unfold RSt.endT; split <;> exact ⟨Nat.le_succ_of_le h.1, Nat.le_succ_of_le h.2⟩
theorem LB.joined (h : LB k r) (t b : Int) : LB (k + 1) (r.joined t b) := by
  unfold RSt.joined; split <;> exact ⟨Nat.le_succ_of_le h.1, Nat.le_succ_of_le h.2⟩
theorem LB.acquire (h : LB k r) (t : Int) (x : Int × Int) : LB (k + 1) (r.acquire t x) := by
  unfold RSt.acquire
  split
  · exact ⟨Nat.le_trans (ffnd_len _ _) (Nat.succ_le_succ h.1), Nat.le_succ_of_le h.2⟩
  · exact ⟨Nat.le_succ_of_le h.1, Nat.le_succ_of_le h.2⟩
theorem LB.release (h : LB k r) (t : Int) (x : Int × Int) : LB (k + 1) (r.release t x) := by
  unfold RSt.release
  split
  · refine ⟨?_, Nat.le_succ_of_le h.2⟩
    show (setC _ _ _).length ≤ _
    unfold setC
    rw [List.length_set]
    exact Nat.le_trans (ffnd_len _ _) (Nat.succ_le_succ h.1)
  · exact ⟨Nat.le_succ_of_le h.1, Nat.le_succ_of_le h.2⟩
theorem LB.access (h : LB k r) (t : Int) (x : Int × Int) (b : Bool) : LB (k + 1) (r.access t x b).2 := by
  unfold RSt.access
  split
  · refine ⟨Nat.le_succ_of_le h.1, ?_⟩
    show (_ ++ [_]).length ≤ _
    rw [List.length_append]
    exact Nat.succ_le_succ h.2
  · exact ⟨Nat.le_succ_of_le h.1, Nat.le_succ_of_le h.2⟩
theorem Lim.of {s : St} {n : Int} (h : Sim s r n) (hn : n ≤ 1000) (hl : LB k r) (hk : k ≤ 900) : Lim r :=
  ⟨Nat.le_trans hl.1 hk, Nat.le_trans hl.2 hk, fun t ht i => ⟨(h.bd t ht i).1, Int.le_trans (h.bd t ht i).2 hn⟩, ⟨h.rb.1, by have := h.rb.2; omega⟩⟩
end
/-- both are as the other, behind k steps -/
def Even (W w : World) (p : Ptrs) (rb k : Nat) : Prop := ∃ s r, Sim s r (k + 1) ∧ LB k r ∧ Bo0 W w p rb s r
def EvenG (W w : World) (p : Ptrs) (rb k g : Nat) (o : Obj) : Prop := ∃ s r, Sim s r (k + 1) ∧ LB k r ∧ BoG W w p rb s r g o
theorem four {w : World} {b : Nat} {a0 a1 a2 a3 : Value} {t : TypeId} (h : w.heap[b]? = some (.cells #[a0, a1, a2, a3] t (0, 0))) :
    w.cell? ⟨b, 0, none⟩ = some a0 ∧ w.cell? ⟨b, 1, none⟩ = some a1 ∧ w.cell? ⟨b, 2, none⟩ = some a2 ∧ w.cell? ⟨b, 3, none⟩ = some a3 := by
  refine ⟨?_, ?_, ?_, ?_⟩ <;> (rw [cell_of_row _ _ _ _ _ _ h]; rfl)

/-! ### the argument -/
def IsRows (w : World) (a : Option Addr) (len : Nat) : Prop :=
  len = 0 ∨ ∃ b off, a = some ⟨b, off, none⟩ ∧ ∃ V : Nat → Int × Int × Int × Int, ∀ i, i < len → w.cell? ⟨b, off + i * 4, none⟩ = some (.int .i64 (V i).1) ∧ w.cell? ⟨b, off + i * 4 + 1, none⟩ = some (.int .i64 (V i).2.1) ∧ w.cell? ⟨b, off + i * 4 + 2, none⟩ = some (.int .i64 (V i).2.2.1) ∧ w.cell? ⟨b, off + i * 4 + 3, none⟩ = some (.int .i64 (V i).2.2.2)
theorem IsRows.cell {w w' : World} {a : Option Addr} {len : Nat} (h : IsRows w a len) (f : Fr [] w w') {i : Nat} (hi : i < len) :
    ∃ b off s0 s1 s2 s3, a = some ⟨b, off, none⟩ ∧ w'.cell? ⟨b, off + i * 4, none⟩ = some (.int .i64 s0) ∧ w'.cell? ⟨b, off + i * 4 + 1, none⟩ = some (.int .i64 s1) ∧ w'.cell? ⟨b, off + i * 4 + 2, none⟩ = some (.int .i64 s2) ∧ w'.cell? ⟨b, off + i * 4 + 3, none⟩ = some (.int .i64 s3) := by
  rcases h with h0 | ⟨b, off, rfl, V, hV⟩
  · omega
  · obtain ⟨h0, h1, h2, h3⟩ := hV i hi
    exact ⟨b, off, _, _, _, _, rfl, f.cell h0 (by simp), f.cell h1 (by simp), f.cell h2 (by simp), f.cell h3 (by simp)⟩

end Go.Proofs.Ytjkakhjajfpldaa
