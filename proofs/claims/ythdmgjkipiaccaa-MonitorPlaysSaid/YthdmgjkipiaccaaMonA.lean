/-
  Package monitor: what its tables are (plain lists), and where they lie.
-/
import Derived.Test.YthdmgjkipiaccaaSlInt
import Derived.Test.YthdmgjkipiaccaaKeys
import Derived.RegionTactic
import Derived.Deep.QuietTactic
import Derived.BigQuiet
import Derived.StillTailTactics
namespace Go.Proofs.Ythdmgjkipiaccaa
open Go.RowKit

/-! ### the plain table -/
structure PLk where
  owner : Int
  count : Int
  fat : Bool
  entry : List Int
  wait : List Int
  deriving DecidableEq
structure PT where
  ls : List (Int × PLk)
  cs : List ((Int × Int) × Int)
  deriving DecidableEq
def PLk.zero : PLk := ⟨0, 0, false, [], []⟩
def PT.new : PT := ⟨[], []⟩
def PT.at (T : PT) (a : Int) : PLk := (lget T.ls a).getD .zero
def PLk.has (L : PLk) (t : Int) : Bool := L.entry.contains t || L.wait.contains t
def PT.stands (T : PT) (t : Int) : Bool := T.ls.any (fun p => p.2.has t)
def PLk.enter (L : PLk) (t : Int) : Bool × PLk :=
  if L.owner = 0 then (true, { L with owner := t, count := 1 })
  else if L.owner = t then (true, { L with count := L.count + 1, fat := L.fat || decide (3 < L.count + 1) })
  else (false, { L with entry := L.entry ++ [t], fat := true })
def PT.enter (T : PT) (a t : Int) : (Bool × Int) × PT :=
  if a < 1 ∨ t < 1 ∨ T.stands t = true then ((false, 130), T)
  else (((T.at a).enter t |>.1, 0), { T with ls := lput T.ls a ((T.at a).enter t).2 })
def PT.owned (T : PT) (a t : Int) : Option PLk :=
  match lget T.ls a with
  | none => none
  | some L => if t < 1 ∨ L.owner ≠ t then none else some L
/-- who has it now; the lock; the counts -/
def overL (a : Int) (L : PLk) (cs : List ((Int × Int) × Int)) : Int × PLk × List ((Int × Int) × Int) :=
  match L.entry with
  | [] => (0, { L with owner := 0, count := 0 }, cs)
  | x :: r => match lget cs (a, x) with
    | none => (x, { L with owner := x, count := 1, entry := r }, cs)
    | some n => (x, { L with owner := x, count := n, entry := r }, ldel cs (a, x))
def PT.exit (T : PT) (a t : Int) : (Int × Int) × PT :=
  match T.owned a t with
  | none => ((0, 130), T)
  | some L => if 0 < L.count - 1 then ((0, 0), { T with ls := lput T.ls a { L with count := L.count - 1 } })
    else (((overL a L T.cs).1, 0), ⟨lput T.ls a (overL a L T.cs).2.1, (overL a L T.cs).2.2⟩)
def PT.wait (T : PT) (a t : Int) : (Int × Int) × PT :=
  match T.owned a t with
  | none => ((0, 130), T)
  | some L =>
    let o := overL a { L with wait := L.wait ++ [t], fat := true } (lput T.cs (a, t) L.count)
    ((o.1, 0), ⟨lput T.ls a o.2.1, o.2.2⟩)
def PLk.notified (L : PLk) (all : Bool) : Nat × PLk :=
  if all then (L.wait.length, { L with entry := L.entry ++ L.wait, wait := [] })
  else match L.wait with
    | [] => (0, L)
    | x :: r => (1, { L with entry := L.entry ++ [x], wait := r })
def PT.notify (T : PT) (a t : Int) (all : Bool) : (Int × Int) × PT :=
  match T.owned a t with
  | none => ((0, 130), T)
  | some L => (((L.notified all).1, 0), { T with ls := lput T.ls a (L.notified all).2 })
def PT.forget (T : PT) (a : Int) : Int × PT :=
  match lget T.ls a with
  | none => (0, T)
  | some L => if L.owner ≠ 0 ∨ 0 < L.entry.length + L.wait.length then (130, T) else (0, { T with ls := ldel T.ls a })

/-- small: so many calls have been made -/
def PLk.small (L : PLk) (n : Nat) : Prop := L.entry.length + L.wait.length ≤ n ∧ 0 ≤ L.count ∧ L.count ≤ n
structure PT.Small (T : PT) (n : Nat) : Prop where
  ls : ∀ a L, (a, L) ∈ T.ls → L.small n
  cs : ∀ k c, (k, c) ∈ T.cs → 0 ≤ c ∧ c ≤ n

/-! ### where a table lies -/
def keyW (p : Int × Int) : Value := .agg #[.int .i64 p.1, .int .i64 p.2]
def ptrV (b : Nat) : Value := .pointer (some ⟨b, 0, none⟩)

theorem wk_fields : (Try.prog.fieldsOf 68).toList = [{ name := "at", type := 3, offset := 0, embedded := false, tag := "", pkgPath := "loom/monitor", byteOffset := 0 }, { name := "thread", type := 3, offset := 1, embedded := false, tag := "", pkgPath := "loom/monitor", byteOffset := 8 }] := by kernel_rfl
theorem wk_under : Try.prog.underlying 68 = some (.struct (Try.prog.fieldsOf 68)) := by kernel_rfl
theorem wk_eqd (w : World) (a b c d : Int) (n : Nat) : (Op.equalIn (n + 2) 68 (.agg #[.int .i64 a, .int .i64 b]) (.agg #[.int .i64 c, .int .i64 d])).run Try.prog w = .ok (decide (a = c ∧ b = d)) w := by
  rw [run_equalIn_struct _ _ _ _ _ wk_under (by kernel_rfl), wk_fields]
  simp [Op.eqFields, go_sem]
  by_cases h1 : a = c <;> by_cases h2 : b = d <;> simp [h1, h2]
theorem wk_check (w : World) (em : Bool) (n : Nat) (a b : Int) : (Instr.checkKey em (n + 2) 68 (.agg #[.int .i64 a, .int .i64 b])).run Try.prog w = .ok () w := by
  unfold Instr.checkKey
  simp only [Sem.run_bind, run_underlying wk_under, Result.andThen_ok]
  rw [← Array.forIn_toList, wk_fields]
  simp [go_sem, check_int]
theorem wk_keys : KeyRuns Try.prog 68 keyW :=
  keyRuns_struct wk_under (fun w em k => wk_check w em 9998 k.1 k.2)
    (fun w k k' => by
      have h := wk_eqd w k.1 k.2 k'.1 k'.2 9998
      have e : decide (k = k') = decide (k.1 = k'.1 ∧ k.2 = k'.2) := by obtain ⟨a, b⟩ := k; obtain ⟨c, d⟩ := k'; simp
      rw [e]; exact h)
    (fun k => sameBits_two 9998 k.1 k.2)
theorem ik_keys : KeyRuns Try.prog 3 intK := keyRuns_int (by kernel_rfl)

/-- a lock: its key, its block, its two lists' values -/
structure LkG where
  at' : Int
  b : Nat
  ve : Value
  vw : Value
  L : PLk
def LkG.fp (g : LkG) : List Nat := g.b :: (fpv g.ve ++ fpv g.vw)
def LkG.cells (g : LkG) : Array Value := #[vi g.L.owner, vi g.L.count, .bool g.L.fat, g.ve, g.vw]
structure LkAt (w : World) (g : LkG) : Prop where
  blk : w.heap[g.b]? = some (.cells g.cells 33 (0, 0))
  ent : Sli w g.ve g.L.entry
  wai : Sli w g.vw g.L.wait
structure Lies where
  tb : Nat
  mb : Nat
  cb : Nat
  gs : List LkG
def Lies.fp (l : Lies) : List Nat := l.tb :: l.mb :: l.cb :: l.gs.flatMap LkG.fp
structure MonT (w : World) (l : Lies) (cs : List ((Int × Int) × Int)) : Prop where
  tbl : w.heap[l.tb]? = some (.cells #[.map (some l.mb), .map (some l.cb)] 61 (0, 0))
  lm : MapL w l.mb intK (l.gs.map (fun g => (g.at', ptrV g.b)))
  cm : MapL w l.cb keyW (cs.map (fun p => (p.1, vi p.2)))
  lks : ∀ g ∈ l.gs, LkAt w g
  nd : l.fp.Nodup
/-- the table that p points to is T; its blocks are F -/
def Mon (w : World) (p : Value) (F : List Nat) (T : PT) : Prop :=
  ∃ l : Lies, p = ptrV l.tb ∧ F = l.fp ∧ T.ls = l.gs.map (fun g => (g.at', g.L)) ∧ MonT w l T.cs

theorem LkAt.keep {S : List Nat} {w w' : World} {g : LkG} (h : LkAt w g) (f : Fr S w w') (hn : ∀ b ∈ g.fp, b ∉ S) : LkAt w' g :=
  ⟨f.obj h.blk (hn _ (by simp [LkG.fp])), h.ent.keep f (fun b hb => hn b (by simp [LkG.fp, hb])), h.wai.keep f (fun b hb => hn b (by simp [LkG.fp, hb]))⟩
theorem LkAt.lt {w : World} {g : LkG} (h : LkAt w g) : ∀ b ∈ g.fp, b < w.heap.size := by
  intro b hb
  simp only [LkG.fp, List.mem_cons, List.mem_append] at hb
  rcases hb with rfl | hb | hb
  · exact lt_of_block h.blk
  · exact SlV.lt h.ent b hb
  · exact SlV.lt h.wai b hb
theorem mem_fp {l : Lies} {x : Nat} : x ∈ l.fp ↔ x = l.tb ∨ x = l.mb ∨ x = l.cb ∨ ∃ g ∈ l.gs, x ∈ g.fp := by
  simp [Lies.fp, List.mem_flatMap]
theorem MonT.lt {w : World} {l : Lies} {cs : List ((Int × Int) × Int)} (h : MonT w l cs) : ∀ b ∈ l.fp, b < w.heap.size := by
  intro b hb
  rcases mem_fp.1 hb with rfl | rfl | rfl | ⟨g, hg, hb⟩
  · exact lt_of_block h.tbl
  · exact h.lm.lt
  · exact h.cm.lt
  · exact (h.lks g hg).lt b hb
theorem MonT.keep {S : List Nat} {w w' : World} {l : Lies} {cs : List ((Int × Int) × Int)} (h : MonT w l cs) (f : Fr S w w') (hn : ∀ b ∈ l.fp, b ∉ S) : MonT w' l cs :=
  ⟨f.obj h.tbl (hn _ (by simp [Lies.fp])), h.lm.keep f (hn _ (by simp [Lies.fp])), h.cm.keep f (hn _ (by simp [Lies.fp])),
    fun g hg => (h.lks g hg).keep f (fun b hb => hn b (mem_fp.2 (.inr (.inr (.inr ⟨g, hg, hb⟩))))), h.nd⟩
theorem Mon.lt {w : World} {p : Value} {F : List Nat} {T : PT} (h : Mon w p F T) : ∀ b ∈ F, b < w.heap.size := by
  obtain ⟨l, rfl, rfl, _, h4⟩ := h
  exact h4.lt
theorem Mon.keep {S : List Nat} {w w' : World} {p : Value} {F : List Nat} {T : PT} (h : Mon w p F T) (f : Fr S w w') (hn : ∀ b ∈ F, b ∉ S) : Mon w' p F T := by
  obtain ⟨l, rfl, rfl, h3, h4⟩ := h
  exact ⟨l, rfl, rfl, h3, h4.keep f hn⟩
theorem Mon.keep0 {w w' : World} {p : Value} {F : List Nat} {T : PT} (h : Mon w p F T) (f : Fr [] w w') : Mon w' p F T := h.keep f (by simp)

/-- one lock's own blocks were changed, or new ones made -/
theorem MonT.back {w w' : World} {tb mb cb : Nat} {g1 g2 : List LkG} {g g' : LkG} {cs : List ((Int × Int) × Int)} (h : MonT w ⟨tb, mb, cb, g1 ++ g :: g2⟩ cs) (f : Fr g.fp w w') (h' : LkAt w' g')
    (ha : g'.at' = g.at') (hb : g'.b = g.b) (hfp : ∀ x ∈ g'.fp, x ∈ g.fp ∨ w.heap.size ≤ x) (hnd : g'.fp.Nodup) : MonT w' ⟨tb, mb, cb, g1 ++ g' :: g2⟩ cs := by
  have hlt := h.lt
  have hnd0 := h.nd
  have eA : (Lies.mk tb mb cb (g1 ++ g :: g2)).fp = [tb, mb, cb] ++ g1.flatMap LkG.fp ++ (g.fp ++ g2.flatMap LkG.fp) := by simp [Lies.fp]
  have eB : (Lies.mk tb mb cb (g1 ++ g' :: g2)).fp = [tb, mb, cb] ++ g1.flatMap LkG.fp ++ (g'.fp ++ g2.flatMap LkG.fp) := by simp [Lies.fp]
  rw [eA] at hnd0 hlt
  have hX : ∀ x, x ∈ [tb, mb, cb] ++ g1.flatMap LkG.fp → x ∉ g.fp := fun x hx hg => (List.nodup_append.1 hnd0).2.2 x hx x (by simp [hg]) rfl
  have hY : ∀ x, x ∈ g2.flatMap LkG.fp → x ∉ g.fp := fun x hx hg => by
    have h1 := (List.nodup_append.1 (List.nodup_append.1 hnd0).2.1).2.2 x hg x hx
    exact h1 rfl
  refine ⟨f.obj h.tbl (hX _ (by simp)), ?_, h.cm.keep f (hX _ (by simp)), ?_, ?_⟩
  · have := h.lm.keep f (hX mb (by simp))
    simp only [List.map_append, List.map_cons] at this ⊢
    rw [ha, hb]; exact this
  · intro q hq
    rcases List.mem_append.1 hq with h1 | h1
    · exact (h.lks q (by simp [h1])).keep f (fun x hx => hX x (List.mem_append.2 (.inr (List.mem_flatMap.2 ⟨q, h1, hx⟩))))
    · rcases List.mem_cons.1 h1 with rfl | h2
      · exact h'
      · exact (h.lks q (by simp [h2])).keep f (fun x hx => hY x (List.mem_flatMap.2 ⟨q, h2, hx⟩))
  · rw [eB]
    have n1 := List.nodup_append.1 hnd0
    have n2 := List.nodup_append.1 n1.2.1
    have hout : ∀ x ∈ g'.fp, x ∉ [tb, mb, cb] ++ g1.flatMap LkG.fp ∧ x ∉ g2.flatMap LkG.fp := by
      intro x hx
      rcases hfp x hx with h1 | h1
      · exact ⟨fun h2 => hX x h2 h1, fun h2 => hY x h2 h1⟩
      · exact ⟨fun h2 => absurd (hlt x (List.mem_append.2 (.inl h2))) (by omega), fun h2 => absurd (hlt x (List.mem_append.2 (.inr (List.mem_append.2 (.inr h2))))) (by omega)⟩
    refine List.nodup_append.2 ⟨n1.1, List.nodup_append.2 ⟨hnd, n2.2.1, fun a ha b hb e => ?_⟩, fun a ha b hb e => ?_⟩
    · subst e; exact (hout a ha).2 hb
    · subst e
      rcases List.mem_append.1 hb with h1 | h1
      · exact (hout a h1).1 ha
      · exact n1.2.2 a ha a (by simp [h1]) rfl

/-- a new lock -/
theorem MonT.add {w w' : World} {tb mb cb : Nat} {gs : List LkG} {g : LkG} {cs : List ((Int × Int) × Int)} (h : MonT w ⟨tb, mb, cb, gs⟩ cs) (f : Fr [mb] w w') (hm : MapL w' mb intK (gs.map (fun g => (g.at', ptrV g.b)) ++ [(g.at', ptrV g.b)])) (h' : LkAt w' g)
    (hfp : ∀ x ∈ g.fp, w.heap.size ≤ x) (hnd : g.fp.Nodup) : MonT w' ⟨tb, mb, cb, gs ++ [g]⟩ cs := by
  have hlt := h.lt
  have hnd0 := h.nd
  have e0 : (Lies.mk tb mb cb gs).fp = tb :: mb :: cb :: gs.flatMap LkG.fp := rfl
  have eA : (Lies.mk tb mb cb (gs ++ [g])).fp = (Lies.mk tb mb cb gs).fp ++ g.fp := by simp [Lies.fp]
  have n1 : tb ≠ mb ∧ mb ≠ cb := by rw [e0] at hnd0; simp at hnd0; exact ⟨hnd0.1.1, hnd0.2.1.1⟩
  have n2 : ∀ q ∈ gs, ∀ x ∈ q.fp, x ∉ [mb] := by
    intro q hq x hx hm
    rw [List.mem_singleton] at hm
    subst hm
    rw [e0] at hnd0
    have := (List.nodup_cons.1 (List.nodup_cons.1 hnd0).2).1
    exact this (by simp only [List.mem_cons]; exact .inr (List.mem_flatMap.2 ⟨q, hq, hx⟩))
  refine ⟨f.obj h.tbl (by simpa using n1.1), by simpa using hm, h.cm.keep f (by simpa using fun e => n1.2 e.symm), ?_, ?_⟩
  · intro q hq
    rcases List.mem_append.1 hq with h1 | h1
    · exact (h.lks q h1).keep f (n2 q h1)
    · rw [List.mem_singleton.1 h1]; exact h'
  · rw [eA]
    refine List.nodup_append.2 ⟨hnd0, hnd, fun a ha b hb e => ?_⟩
    subst e
    exact absurd (hlt a ha) (by have := hfp a hb; omega)

/-- other counts -/
theorem MonT.counts {w w' : World} {l : Lies} {cs cs' : List ((Int × Int) × Int)} (h : MonT w l cs) (f : Fr [l.cb] w w') (hm : MapL w' l.cb keyW (cs'.map (fun p => (p.1, vi p.2)))) : MonT w' l cs' := by
  have hnd := h.nd
  have e0 : l.fp = l.tb :: l.mb :: l.cb :: l.gs.flatMap LkG.fp := rfl
  rw [e0] at hnd
  have n1 : l.tb ≠ l.cb ∧ l.mb ≠ l.cb := by simp at hnd; exact ⟨hnd.1.2.1, hnd.2.1.1⟩
  refine ⟨f.obj h.tbl (by simpa using n1.1), h.lm.keep f (by simpa using n1.2), hm, fun g hg => (h.lks g hg).keep f (fun x hx hm => ?_), h.nd⟩
  rw [List.mem_singleton] at hm
  subst hm
  exact (List.nodup_cons.1 (List.nodup_cons.1 (List.nodup_cons.1 hnd).2).2).1 (List.mem_flatMap.2 ⟨g, hg, hx⟩)

/-! ### finding a lock -/
theorem lget_gs {gs : List LkG} {a : Int} {L : PLk} (h : lget (gs.map (fun g => (g.at', g.L))) a = some L) :
    ∃ g1 g g2, gs = g1 ++ g :: g2 ∧ g.at' = a ∧ g.L = L ∧ (∀ q ∈ g1, q.at' ≠ a) ∧ lget (gs.map (fun g => (g.at', ptrV g.b))) a = some (ptrV g.b) := by
  induction gs with
  | nil => simp [lget_nil] at h
  | cons q r ih =>
    simp only [List.map_cons, lget_cons] at h ⊢
    by_cases e : q.at' = a
    · simp only [e, if_true, Option.some.injEq] at h ⊢
      exact ⟨[], q, r, rfl, e, h, by simp, rfl⟩
    · simp only [if_neg e] at h ⊢
      obtain ⟨g1, g, g2, rfl, h2, h3, h4, h5⟩ := ih h
      exact ⟨q :: g1, g, g2, rfl, h2, h3, by simpa [e] using h4, h5⟩
theorem lget_gs_none {gs : List LkG} {a : Int} (h : lget (gs.map (fun g => (g.at', g.L))) a = none) : lget (gs.map (fun g => (g.at', ptrV g.b))) a = none ∧ ∀ q ∈ gs, q.at' ≠ a := by
  induction gs with
  | nil => simp [lget_nil]
  | cons q r ih =>
    simp only [List.map_cons, lget_cons] at h ⊢
    by_cases e : q.at' = a
    · simp [e] at h
    · simp only [if_neg e] at h ⊢
      obtain ⟨h1, h2⟩ := ih h
      exact ⟨h1, by simpa [e] using h2⟩
theorem lput_none {K V : Type} [DecidableEq K] {l : List (K × V)} {a : K} {v : V} (h : ∀ q ∈ l, q.1 ≠ a) : lput l a v = l ++ [(a, v)] := by
  unfold lput
  rw [if_neg]
  simp only [List.any_eq_true, not_exists, not_and, decide_eq_true_eq]
  exact fun p hp => h p hp
theorem lput_split {K V : Type} [DecidableEq K] {l1 l2 : List (K × V)} {a : K} {u v : V} (hn : ((l1 ++ (a, u) :: l2).map (·.1)).Nodup) : lput (l1 ++ (a, u) :: l2) a v = l1 ++ (a, v) :: l2 := by
  unfold lput
  rw [if_pos (by simp)]
  have hs : ∀ (l : List (K × V)), (∀ p ∈ l, p.1 ≠ a) → l.map (fun p => if p.1 = a then (a, v) else p) = l := by
    intro l hl
    conv => rhs; rw [← List.map_id l]
    apply List.map_congr_left
    intro p hp
    rw [if_neg (hl p hp)]; rfl
  simp only [List.map_append, List.map_cons] at hn
  have n1 := List.nodup_append.1 hn
  have n2 := List.nodup_cons.1 n1.2.1
  rw [List.map_append, List.map_cons, hs l1 (fun p hp e => n1.2.2 p.1 (List.mem_map.2 ⟨p, hp, rfl⟩) a (by simp) e), hs l2 (fun p hp e => n2.1 (e ▸ List.mem_map.2 ⟨p, hp, rfl⟩)), if_pos rfl]

end Go.Proofs.Ythdmgjkipiaccaa
