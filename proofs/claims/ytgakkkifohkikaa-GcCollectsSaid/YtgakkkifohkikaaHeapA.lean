/-
  Package heap: where an arena lies; New, Size, All, Free, has, Class, Words, word, Get, Put.
-/
import Derived.Test.YtgakkkifohkikaaSlBlk
import Derived.Test.YtgakkkifohkikaaSlInt3
import Derived.Test.YtgakkkifohkikaaHeapP
import Derived.Test.YtgakkkifohkikaaShelf
import Derived.Deep.QuietTactic
import Derived.BigQuiet
import Derived.StillTailTactics
import Derived.IntWalk
namespace Go.Proofs.Ytgakkkifohkikaa
open Go.RowKit

def vi (n : Int) : Value := .int .i64 n
def vu (n : Int) : Value := .int .u64 n
def ptrV (b : Nat) : Value := .pointer (some ⟨b, 0, none⟩)
def blkL (G : List (Nat × Nat)) : List Value := G.flatMap (fun g => [vi g.1, vi g.2])
def obsL (L : List Ob) : List Value := L.map (fun o => vi o.at')
theorem blkL_nil : blkL [] = [] := rfl
theorem blkL_cons (g : Nat × Nat) (G : List (Nat × Nat)) : blkL (g :: G) = vi g.1 :: vi g.2 :: blkL G := rfl
theorem blkL_append (G H : List (Nat × Nat)) : blkL (G ++ H) = blkL G ++ blkL H := by simp [blkL]
theorem blkL_length (G : List (Nat × Nat)) : (blkL G).length = G.length * 2 := by
  induction G with
  | nil => rfl
  | cons g G ih => rw [blkL_cons, List.length_cons, List.length_cons, List.length_cons, ih]; omega
theorem blkL_one (G : List (Nat × Nat)) : ∀ u ∈ blkL G, u.oneCell' = true := by
  intro u hu
  simp only [blkL, List.mem_flatMap, List.mem_cons, List.not_mem_nil, or_false] at hu
  obtain ⟨g, _, rfl | rfl⟩ := hu <;> rfl
theorem obsL_one (L : List Ob) : ∀ u ∈ obsL L, u.oneCell' = true := by
  intro u hu
  simp only [obsL, List.mem_map] at hu
  obtain ⟨g, _, rfl⟩ := hu; rfl
theorem blkL_take (G : List (Nat × Nat)) (i : Nat) : (blkL G).take (i * 2) = blkL (G.take i) := by
  induction G generalizing i with
  | nil => simp [blkL]
  | cons g G ih =>
    cases i with
    | zero => simp [blkL]
    | succ i => rw [show (i + 1) * 2 = i * 2 + 1 + 1 by omega, blkL_cons, List.take_succ_cons, List.take_succ_cons, ih]; rfl
theorem blkL_drop (G : List (Nat × Nat)) (i : Nat) : (blkL G).drop (i * 2) = blkL (G.drop i) := by
  induction G generalizing i with
  | nil => simp [blkL]
  | cons g G ih =>
    cases i with
    | zero => simp [blkL]
    | succ i => rw [show (i + 1) * 2 = i * 2 + 1 + 1 by omega, blkL_cons, List.drop_succ_cons, List.drop_succ_cons, ih]; rfl
theorem blkL_get (G : List (Nat × Nat)) (i : Nat) (g : Nat × Nat) (h : G[i]? = some g) : (blkL G).getD (i * 2) undef = vi g.1 ∧ (blkL G).getD (i * 2 + 1) undef = vi g.2 := by
  induction G generalizing i with
  | nil => simp at h
  | cons q G ih =>
    cases i with
    | zero => simp at h; subst h; exact ⟨rfl, rfl⟩
    | succ i =>
      simp only [List.getElem?_cons_succ] at h
      obtain ⟨h1, h2⟩ := ih i h
      rw [show (i + 1) * 2 = i * 2 + 1 + 1 by omega, blkL_cons]
      exact ⟨h1, h2⟩

/-- the words of an object stand in the cells cs -/
structure Wds (cs : List Value) (o : Ob) : Prop where
  cls : cs[o.at']? = some (vu o.cls)
  len : cs[o.at' + 1]? = some (vu o.ws.length)
  at' : ∀ j, j < o.ws.length → cs[o.at' + 2 + j]? = some (vu (o.ws.getD j 0))
structure ArT (w : World) (hb : Nat) (vw vf vo : Value) (cs : List Value) (n : Nat) (L : List Ob) : Prop where
  blk : w.heap[hb]? = some (.cells #[vw, vf, vo] 83 (0, 0))
  ws : RV w 45 1 vw (n + 1) cs
  fr : RV w 36 2 vf (gaps n 1 L).length (blkL (gaps n 1 L))
  ob : RV w 3 1 vo L.length (obsL L)
  rise : Rise n 1 L
  wds : ∀ o ∈ L, Wds cs o
  cl : ∀ o ∈ L, (o.cls : Int) ≤ 9223372036854775807
  small : n ≤ 2048
  nd : (hb :: (fpv vw ++ (fpv vf ++ fpv vo))).Nodup
/-- the arena that p points to has n words and the objects L; its blocks are F -/
def Ar (w : World) (p : Value) (F : List Nat) (n : Nat) (L : List Ob) : Prop :=
  ∃ hb vw vf vo cs, p = ptrV hb ∧ F = hb :: (fpv vw ++ (fpv vf ++ fpv vo)) ∧ ArT w hb vw vf vo cs n L

theorem ArT.keep {S : List Nat} {w w' : World} {hb : Nat} {vw vf vo : Value} {cs : List Value} {n : Nat} {L : List Ob} (h : ArT w hb vw vf vo cs n L) (f : Fr S w w') (hn : ∀ b ∈ hb :: (fpv vw ++ (fpv vf ++ fpv vo)), b ∉ S) : ArT w' hb vw vf vo cs n L :=
  ⟨f.obj h.blk (hn _ (by simp)), h.ws.keep f (fun b hb => hn b (by simp [hb])), h.fr.keep f (fun b hb => hn b (by simp [hb])), h.ob.keep f (fun b hb => hn b (by simp [hb])), h.rise, h.wds, h.cl, h.small, h.nd⟩
theorem ArT.keep0 {w w' : World} {hb : Nat} {vw vf vo : Value} {cs : List Value} {n : Nat} {L : List Ob} (h : ArT w hb vw vf vo cs n L) (f : Fr [] w w') : ArT w' hb vw vf vo cs n L := h.keep f (by simp)
theorem ArT.lt {w : World} {hb : Nat} {vw vf vo : Value} {cs : List Value} {n : Nat} {L : List Ob} (h : ArT w hb vw vf vo cs n L) : ∀ b ∈ hb :: (fpv vw ++ (fpv vf ++ fpv vo)), b < w.heap.size := by
  intro b hb'
  simp only [List.mem_cons, List.mem_append] at hb'
  rcases hb' with rfl | h1 | h1 | h1
  · exact lt_of_block h.blk
  · exact h.ws.lt b h1
  · exact h.fr.lt b h1
  · exact h.ob.lt b h1
theorem Ar.keep {S : List Nat} {w w' : World} {p : Value} {F : List Nat} {n : Nat} {L : List Ob} (h : Ar w p F n L) (f : Fr S w w') (hn : ∀ b ∈ F, b ∉ S) : Ar w' p F n L := by
  obtain ⟨hb, vw, vf, vo, cs, rfl, rfl, h⟩ := h
  exact ⟨hb, vw, vf, vo, cs, rfl, rfl, h.keep f hn⟩
theorem Ar.keep0 {w w' : World} {p : Value} {F : List Nat} {n : Nat} {L : List Ob} (h : Ar w p F n L) (f : Fr [] w w') : Ar w' p F n L := h.keep f (by simp)
theorem Ar.lt {w : World} {p : Value} {F : List Nat} {n : Nat} {L : List Ob} (h : Ar w p F n L) : ∀ b ∈ F, b < w.heap.size := by
  obtain ⟨hb, vw, vf, vo, cs, rfl, rfl, h⟩ := h
  exact h.lt
theorem Ar.rise {w : World} {p : Value} {F : List Nat} {n : Nat} {L : List Ob} (h : Ar w p F n L) : Rise n 1 L := by
  obtain ⟨hb, vw, vf, vo, cs, rfl, rfl, h⟩ := h
  exact h.rise
theorem Ar.small {w : World} {p : Value} {F : List Nat} {n : Nat} {L : List Ob} (h : Ar w p F n L) : n ≤ 2048 := by
  obtain ⟨hb, vw, vf, vo, cs, rfl, rfl, h⟩ := h
  exact h.small
theorem Ar.form {w : World} {p : Value} {F : List Nat} {n : Nat} {L : List Ob} (h : Ar w p F n L) : ∃ hb, p = ptrV hb := by
  obtain ⟨hb, vw, vf, vo, cs, rfl, rfl, h⟩ := h
  exact ⟨hb, rfl⟩
/-- what a call that changes the arena leaves -/
def Moved (w w' : World) (p : Value) (F : List Nat) (n : Nat) (L : List Ob) : Prop := ∃ F', Ar w' p F' n L ∧ Fr F w w' ∧ ∀ x ∈ F', x ∈ F ∨ w.heap.size ≤ x
def OpPost (w : World) (p : Value) (F : List Nat) (n : Nat) (v : Value) (L : List Ob) (e : Ending) (w' : World) : Prop := e = .returned v ∧ Moved w w' p F n L

theorem drewN_fr (w : World) (q : Nat) : Fr [] w (w.drewN q) := ⟨rfl, rfl, rfl, Nat.le_refl _, fun _ _ _ => rfl⟩
theorem ArT.c {w : World} {hb : Nat} {vw vf vo : Value} {cs : List Value} {n : Nat} {L : List Ob} (h : ArT w hb vw vf vo cs n L) : w.cell? ⟨hb, 0, none⟩ = some vw ∧ w.cell? ⟨hb, 1, none⟩ = some vf ∧ w.cell? ⟨hb, 2, none⟩ = some vo := by
  refine ⟨?_, ?_, ?_⟩ <;> (rw [cell_of_row _ _ _ _ _ _ h.blk]; rfl)
theorem ArT.fz {w : World} {hb : Nat} {vw vf vo : Value} {cs : List Value} {n : Nat} {L : List Ob} (h : ArT w hb vw vf vo cs n L) (k : Nat) : w.frozen? ⟨hb, k, none⟩ = false := frozen_of_row _ _ _ _ _ h.blk

/-! ### searching -/
theorem Rise.sorted {n : Nat} : ∀ {a : Nat} {L : List Ob}, Rise n a L → (L.map (fun o => (o.at' : Int))).Pairwise (· < ·)
  | _, [], _ => List.Pairwise.nil
  | a, o :: r, h => by
    rw [List.map_cons, List.pairwise_cons]
    refine ⟨fun y hy => ?_, Rise.sorted h.2⟩
    obtain ⟨q, hq, rfl⟩ := List.mem_map.1 hy
    have := (Rise.obs h.2 q hq).1
    simp only [Ob.sz] at this
    omega
/-- how many begin ahead of x -/
def ahead (L : List Ob) (x : Int) : Nat := L.countP (fun o => decide ((o.at' : Int) < x))
theorem ahead_split {L1 L2 : List Ob} {x : Int} (h1 : ∀ q ∈ L1, (q.at' : Int) < x) (h2 : ∀ q ∈ L2, ¬ (q.at' : Int) < x) : ahead (L1 ++ L2) x = L1.length := by
  unfold ahead
  rw [List.countP_append, List.countP_eq_length.2 (fun q hq => by simpa using h1 q hq), List.countP_eq_zero.2 (fun q hq => by simpa using h2 q hq)]
  rfl
def has (L : List Ob) (x : Int) : Bool := (arFind L x).isSome
def BsPost (w : World) (L : List Ob) (x : Int) (e : Ending) (w' : World) : Prop := e = .returned (.tuple #[.int .i64 (ahead L x : Nat), .bool (has L x)]) ∧ ∃ q, w' = w.drewN q
theorem bs_any {w : World} {v : Value} {n a : Nat} {L : List Ob} (h : RV w 3 1 v L.length (obsL L)) (hr : Rise n a L) (hl : L.length ≤ 1000000) (x : Int) :
    Calls Try.prog 41 #[v, .int .i64 x] w (BsPost w L x) := by
  have e1 : has L x = (L.map (fun o => (o.at' : Int))).contains x := by
    unfold has arFind
    rw [Bool.eq_iff_iff, List.find?_isSome, List.contains_iff_mem, List.mem_map]
    simp
  have e2 : ahead L x = ((L.map (fun o => (o.at' : Int)))).countP (· < x) := by
    unfold ahead
    rw [List.countP_map]; rfl
  rcases h.parts with ⟨rfl, h0, _⟩ | ⟨b, cap, cur, rfl, hh, hl', hc, hs, ht⟩
  · obtain rfl : L = [] := List.length_eq_zero_iff.1 h0
    refine (Try.slices_BinarySearch_int_empty none 0 x w).mono ?_
    rintro e w' ⟨rfl, rfl⟩
    exact ⟨rfl, 0, rfl⟩
  · refine (Try.slices_BinarySearch_int b 0 L.length cap (L.map (fun o => (o.at' : Int))) x w (by simp) (by omega) (fun j hj => ?_) ?_).mono ?_
    · obtain ⟨b', cap', e, h1, _⟩ := h.cell j (by simpa using hj)
      cases e
      rw [Nat.zero_add, h1]
      simp only [List.length_map] at hj
      simp [List.getD, obsL, vi, hj]
    · rw [List.take_of_length_le (by simp)]
      exact (Rise.sorted hr).imp (fun h => Int.le_of_lt h)
    · rintro e w' ⟨rfl, q, rfl⟩
      rw [List.take_of_length_le (by simp), ← e1, ← e2]
      exact ⟨rfl, q, rfl⟩

theorem Rise.length {n : Nat} : ∀ {a : Nat} {L : List Ob}, Rise n a L → a + 2 * L.length ≤ n + 1
  | a, [], h => by have : a ≤ n + 1 := h; simpa using this
  | a, o :: r, h => by
    have h1 := Rise.length h.2
    have h2 := h.1
    simp only [Ob.sz] at h1
    simp only [List.length_cons]
    omega
theorem ArT.llen {w : World} {hb : Nat} {vw vf vo : Value} {cs : List Value} {n : Nat} {L : List Ob} (h : ArT w hb vw vf vo cs n L) : L.length ≤ 1000000 := by
  have := Rise.length h.rise
  have := h.small
  omega

/-! ### has, Class, Words, word, Get -/
def QPost (w : World) (v : Value) (e : Ending) (w' : World) : Prop := e = .returned v ∧ ∃ q, w' = w.drewN q
set_option maxHeartbeats 400000 in
theorem has_any {w : World} {p : Value} {F : List Nat} {n : Nat} {L : List Ob} (h : Ar w p F n L) (x : Int) :
    Calls Try.prog 49 #[p, .int .i64 x] w (QPost w (.bool (has L x))) := by
  obtain ⟨hb, vw, vf, vo, cs, rfl, rfl, h⟩ := h
  obtain ⟨c0, c1, c2⟩ := h.c
  have HB := hid (bs_any h.ob h.rise h.llen x)
  obtain ⟨b, hbv⟩ : ∃ b, b = has L x := ⟨_, rfl⟩
  unfold BsPost at HB
  rw [← hbv] at HB ⊢
  clear h hbv
  unfold ptrV
  go_enter Try.func49, Try.ntmps49
  go_wp2_with fail
  refine HB.out.mono ?_
  rintro e w' ⟨rfl, q, rfl⟩
  go_wp2_with fail
  go_ret
  exact ⟨rfl, q, rfl⟩

end Go.Proofs.Ytgakkkifohkikaa
