/-
  RacePlays, plainly: the document's watch, and that the program's tells the same. No program in sight.
-/
import Derived.Test.YtjkakhjajfpldaaRaceQ
namespace Go.Proofs.Ytjkakhjajfpldaa
open Go.RowKit

structure Acc where
  th : Int
  at' : Int
  i : Int
  wr : Bool
  c : List Int
structure RSt where
  now : List (List Int)
  en : List (List Int)
  ended : List Bool
  kept : List ((Int × Int) × List Int)
  l : List Acc
  races : Int
def z13 : List Int := List.replicate 13 0
def RSt.new : RSt := ⟨z13 :: (List.range 12).map (fun i => unit13 (i + 1)), List.replicate 13 z13, List.replicate 13 false, [], [], 0⟩
def RSt.nw (r : RSt) (t : Int) : List Int := r.now.getD t.toNat []
def fidx (l : List ((Int × Int) × List Int)) (k : Int × Int) : Nat := l.findIdx (fun p => decide (p.1 = k))
def ffnd (l : List ((Int × Int) × List Int)) (k : Int × Int) : List ((Int × Int) × List Int) := if fidx l k < l.length then l else l ++ [(k, z13)]
def keptC (l : List ((Int × Int) × List Int)) (j : Nat) : List Int := (l.getD j ((0, 0), [])).2
def setC (l : List ((Int × Int) × List Int)) (j : Nat) (c : List Int) : List ((Int × Int) × List Int) := l.set j ((l.getD j ((0, 0), [])).1, c)
def RSt.begins (r : RSt) (t b : Int) : RSt :=
  if inB t = true ∧ b ≠ 0 ∧ inB b = true then { r with now := (r.now.set t.toNat (joinL (r.nw t) (r.nw b))).set b.toNat (bump ((r.now.set t.toNat (joinL (r.nw t) (r.nw b))).getD b.toNat []) b.toNat) } else r
def RSt.endT (r : RSt) (t : Int) : RSt := if inB t = true then { r with en := r.en.set t.toNat (r.nw t), ended := r.ended.set t.toNat true } else r
def RSt.joined (r : RSt) (t o : Int) : RSt := if inB t = true ∧ inB o = true ∧ r.ended.getD o.toNat false = true then { r with now := r.now.set t.toNat (joinL (r.nw t) (r.en.getD o.toNat [])) } else r
def RSt.release (r : RSt) (t : Int) (k : Int × Int) : RSt :=
  if inB t = true then { r with kept := setC (ffnd r.kept k) (fidx r.kept k) (joinL (keptC (ffnd r.kept k) (fidx r.kept k)) (r.nw t)), now := r.now.set t.toNat (bump (r.nw t) t.toNat) } else r
def RSt.acquire (r : RSt) (t : Int) (k : Int × Int) : RSt :=
  if inB t = true then { r with kept := ffnd r.kept k, now := r.now.set t.toNat (joinL (r.nw t) (keptC (ffnd r.kept k) (fidx r.kept k))) } else r
def hits (c : List Int) (t : Int) (k : Int × Int) (w : Bool) (a : Acc) : Bool := decide (a.at' = k.1) && decide (a.i = k.2) && decide (a.th ≠ t) && (w || a.wr) && !leL a.c c
def RSt.race (r : RSt) (t : Int) (k : Int × Int) (w : Bool) : Bool := r.l.any (hits (r.nw t) t k w)
def RSt.access (r : RSt) (t : Int) (k : Int × Int) (w : Bool) : Bool × RSt :=
  if inB t = true then (r.race t k w, { r with l := r.l ++ [⟨t, k.1, k.2, w, r.nw t⟩], races := if r.race t k w then r.races + 1 else r.races }) else (false, r)
def RSt.clock (r : RSt) (t : Int) : List Int := if inB t = true then r.nw t else z13

/-! ### the list of what is kept -/
theorem findIdx_le {α : Type} (p : α → Bool) (l : List α) : l.findIdx p ≤ l.length := List.findIdx_le_length
theorem lget_ffnd (l : List ((Int × Int) × List Int)) (k k' : Int × Int) : (lget (ffnd l k) k').getD z13 = (lget l k').getD z13 := by
  unfold ffnd
  split
  · rfl
  · rw [lget_append]
    cases h : lget l k' with
    | some v => rfl
    | none =>
      simp only []
      split <;> rfl
theorem lget_idx (l : List ((Int × Int) × List Int)) (k : Int × Int) : (lget l k).getD z13 = keptC (ffnd l k) (fidx l k) := by
  unfold keptC ffnd fidx
  induction l with
  | nil => simp [lget]
  | cons p l ih =>
    rw [lget_cons, List.findIdx_cons]
    by_cases h : p.1 = k
    · simp [h]
    · rw [if_neg h]
      simp only [h, decide_false, cond_false]
      rw [ih]
      by_cases h2 : l.findIdx (fun p => decide (p.1 = k)) < l.length
      · rw [if_pos h2, if_pos (by simp only [List.length_cons]; omega), List.getD_cons_succ]
      · rw [if_neg h2, if_neg (by simp only [List.length_cons]; omega), List.cons_append, List.getD_cons_succ]
theorem fidx_lt (l : List ((Int × Int) × List Int)) (k : Int × Int) : fidx l k < (ffnd l k).length ∧ ((ffnd l k).getD (fidx l k) ((0, 0), [])).1 = k := by
  unfold ffnd fidx
  induction l with
  | nil => simp
  | cons p l ih =>
    rw [List.findIdx_cons]
    by_cases h : p.1 = k
    · simp [h]
    · simp only [h, decide_false, cond_false]
      by_cases h2 : l.findIdx (fun p => decide (p.1 = k)) < l.length
      · rw [if_pos h2] at ih
        rw [if_pos (by simp only [List.length_cons]; omega), List.getD_cons_succ]
        exact ⟨by simp only [List.length_cons]; omega, ih.2⟩
      · rw [if_neg h2] at ih
        rw [if_neg (by simp only [List.length_cons]; omega), List.cons_append, List.getD_cons_succ]
        exact ⟨by simp only [List.length_cons]; omega, ih.2⟩
theorem fidx_first (l : List ((Int × Int) × List Int)) (k : Int × Int) : ∀ j, j < fidx l k → (l.getD j ((0, 0), [])).1 ≠ k := by
  intro j hj
  have h1 := List.not_of_lt_findIdx hj
  have h2 : j < l.length := Nat.lt_of_lt_of_le hj (findIdx_le _ _)
  rw [List.getD, List.getElem?_eq_getElem h2]
  simpa using h1
theorem lget_setC (l : List ((Int × Int) × List Int)) (k : Int × Int) (c : List Int) (k' : Int × Int) : (lget (setC (ffnd l k) (fidx l k) c) k').getD z13 = if k' = k then c else (lget l k').getD z13 := by
  obtain ⟨h1, h2⟩ := fidx_lt l k
  have h3 : ∀ j, j < fidx l k → ((ffnd l k).getD j ((0, 0), [])).1 ≠ k := fun j hj => by
    have h4 := fidx_first l k j hj
    have h5 : j < l.length := Nat.lt_of_lt_of_le hj (findIdx_le _ _)
    unfold ffnd
    split
    · exact h4
    · rwa [List.getD, List.getElem?_append_left h5, ← List.getD]
  rw [← lget_ffnd l k k']
  unfold setC
  rw [h2]
  generalize ffnd l k = m at *
  generalize fidx l k = j at *
  induction m generalizing j with
  | nil => simp at h1
  | cons p m ih =>
    cases j with
    | zero =>
      simp only [List.getD_cons_zero] at h2
      rw [List.set_cons_zero, lget_cons, lget_cons]
      simp only []
      by_cases hk : k = k'
      · subst hk; simp
      · have hk2 : ¬ p.1 = k' := by rw [h2]; exact hk
        have hk3 : ¬ k' = k := fun e => hk e.symm
        simp only [hk, hk2, hk3, if_false]
    | succ j =>
      rw [List.set_cons_succ, lget_cons, lget_cons]
      have h0 := h3 0 (by omega)
      simp only [List.getD_cons_zero] at h0
      by_cases hk : p.1 = k'
      · rw [if_pos hk, if_pos hk, if_neg (fun e => h0 (hk.trans e))]
      · rw [if_neg hk, if_neg hk]
        exact ih j (by simp only [List.length_cons] at h1; omega) (by rw [List.getD_cons_succ] at h2; exact h2) (fun i hi => by
          have := h3 (i + 1) (by omega)
          rwa [List.getD_cons_succ] at this)
theorem mem_ffnd {l : List ((Int × Int) × List Int)} {k : Int × Int} {p : (Int × Int) × List Int} (h : p ∈ ffnd l k) : p ∈ l ∨ p.2 = z13 := by
  unfold ffnd at h
  split at h
  · exact .inl h
  · rcases List.mem_append.1 h with h | h
    · exact .inl h
    · rw [List.mem_singleton.1 h]; exact .inr rfl

/-! ### clocks -/
theorem Bd.zero {n : Int} (h : 0 ≤ n) : Bd n z13 := fun i => by
  unfold z13
  rw [List.getD, List.getElem?_replicate]
  split <;> simp [h]
theorem joinL_self {c : List Int} (hl : c.length = 13) {n : Int} (hb : Bd n c) : joinL c [] = c := by
  refine List.ext_getElem (by rw [joinL_len, hl]) (fun i h1 h2 => ?_)
  have h3 := joinL_at c [] i (by omega)
  rw [List.getD, List.getElem?_eq_getElem h1] at h3
  have h4 := (hb i).1
  simp only [Option.getD_some] at h3
  rw [h3]
  unfold mx
  rw [List.getD_nil, if_neg (by omega), List.getD, List.getElem?_eq_getElem h2]; rfl
def Zq (a b : List Int) : Prop := ∀ i, a.getD i 0 = b.getD i 0
theorem joinL_zq {a b c d : List Int} (h1 : Zq a b) (h2 : Zq c d) : joinL a c = joinL b d := by
  unfold joinL
  refine List.map_congr_left (fun i _ => ?_)
  rw [h1 i, h2 i]
theorem joinL_comm_le {a b : List Int} {n : Int} (ha : a.length = 13) : leL a (joinL a b) = true := le_joinL_l (by omega)
theorem bump_bd {c : List Int} {n : Int} (hb : Bd n c) (hl : c.length = 13) (hn : n ≤ 1000) (t : Nat) (ht : t < 13) : Bd (n + 1) (bump c t) ∧ (bump c t).length = 13 ∧ leL c (bump c t) = true := by
  have hx := hb t
  have hw : wrap64 (c.getD t 0 + 1) = c.getD t 0 + 1 := by unfold wrap64; omega
  refine ⟨fun i => ?_, by unfold bump; rw [List.length_set, hl], ?_⟩
  · rw [bump_get c t i (by omega), hw]
    have := hb i
    split <;> omega
  · rw [leL_iff]
    intro i
    rw [bump_get c t i (by omega), hw]
    split
    · next e => subst e; omega
    · omega

/-- who did it is known by one clock that is behind all others -/
def Last (m : List (((Int × Int) × Int) × List Int)) (l : List Acc) (x : Int × Int) (o : Int) (b : Bool) : Prop :=
  match lget m (x, o) with
  | none => ∀ a ∈ l, (a.at', a.i) = x → a.th = o → a.wr = b → False
  | some d => (∃ a ∈ l, (a.at', a.i) = x ∧ a.th = o ∧ a.wr = b ∧ a.c = d) ∧ ∀ a ∈ l, (a.at', a.i) = x → a.th = o → a.wr = b → leL a.c d = true
theorem Last.some_hit {m : List (((Int × Int) × Int) × List Int)} {l : List Acc} {x : Int × Int} {o : Int} {b : Bool} (h : Last m l x o b) (c : List Int) (t : Int) :
    unordAt m c t x o = true ↔ ∃ a ∈ l, (a.at', a.i) = x ∧ a.th = o ∧ a.wr = b ∧ a.th ≠ t ∧ leL a.c c = false := by
  unfold Last at h
  unfold unordAt
  cases hg : lget m (x, o) with
  | none =>
    rw [hg] at h
    simp only [] at h
    constructor
    · simp
    · rintro ⟨a, ha, h1, h2, h3, _⟩
      exact (h a ha h1 h2 h3).elim
  | some d =>
    rw [hg] at h
    simp only [] at h
    obtain ⟨⟨a, ha, h1, h2, h3, rfl⟩, hall⟩ := h
    simp only [Bool.and_eq_true, decide_eq_true_eq, Bool.not_eq_true']
    constructor
    · rintro ⟨ho, hc⟩
      exact ⟨a, ha, h1, h2, h3, by rw [h2]; exact ho, hc⟩
    · rintro ⟨a', ha', k1, k2, k3, k4, k5⟩
      refine ⟨by rw [← k2]; exact k4, ?_⟩
      rw [Bool.eq_false_iff]
      intro hle
      have := leL_trans (hall a' ha' k1 k2 k3) hle
      rw [this] at k5
      cases k5
/-- the program's watch and the document's -/
structure Sim (s : St) (r : RSt) (n : Int) : Prop where
  tl : s.th.length = 13
  nl : r.now.length = 13
  el : r.en.length = 13
  dl : r.ended.length = 13
  th : ∀ t : Nat, 1 ≤ t → t ≤ 12 → s.th.getD t [] = r.now.getD t []
  len : ∀ t : Nat, t < 13 → (r.now.getD t []).length = 13
  bd : ∀ t : Nat, t < 13 → Bd n (r.now.getD t [])
  elen : ∀ t : Nat, t < 13 → (r.en.getD t []).length = 13
  ebd : ∀ t : Nat, t < 13 → Bd n (r.en.getD t [])
  ends : ∀ o : Int, lget s.ends o = if inB o = true ∧ r.ended.getD o.toNat false = true then some (r.en.getD o.toNat []) else none
  locks : ∀ a, Zq ((lget s.locks a).getD []) ((lget r.kept (a, -1)).getD z13)
  words : ∀ a i, 0 ≤ i → Zq ((lget s.words (a, i)).getD []) ((lget r.kept (a, i)).getD z13)
  kl : ∀ p ∈ r.kept, p.2.length = 13 ∧ Bd n p.2
  wrs : ∀ x o, Last s.writes r.l x o true
  rds : ∀ x o, Last s.reads r.l x o false
  thr : ∀ a ∈ r.l, 1 ≤ a.th ∧ a.th ≤ 12
  al : ∀ a ∈ r.l, a.c.length = 13
  mono : ∀ a ∈ r.l, leL a.c (r.now.getD a.th.toNat []) = true
  races : s.races = r.races
  rb : 0 ≤ r.races ∧ r.races ≤ n
  n0 : 0 ≤ n

theorem inB_iff {t : Int} : inB t = true ↔ 1 ≤ t ∧ t ≤ 12 := by unfold inB; simp
theorem Sim.keptB {s : St} {r : RSt} {n : Int} (h : Sim s r n) (k : Int × Int) : (keptC (ffnd r.kept k) (fidx r.kept k)).length = 13 ∧ Bd n (keptC (ffnd r.kept k) (fidx r.kept k)) := by
  have h1 := (fidx_lt r.kept k).1
  have hm : (ffnd r.kept k).getD (fidx r.kept k) ((0, 0), []) ∈ ffnd r.kept k := by
    rw [List.getD, List.getElem?_eq_getElem h1]; exact List.getElem_mem h1
  unfold keptC
  rcases mem_ffnd hm with h2 | h2
  · exact h.kl _ h2
  · rw [h2]; exact ⟨by simp [z13], Bd.zero h.n0⟩
theorem Sim.keptAll {s : St} {r : RSt} {n : Int} (h : Sim s r n) (k : Int × Int) : ∀ p ∈ ffnd r.kept k, p.2.length = 13 ∧ Bd n p.2 := fun p hp => by
  rcases mem_ffnd hp with h2 | h2
  · exact h.kl _ h2
  · rw [h2]; exact ⟨by simp [z13], Bd.zero h.n0⟩
theorem Sim.weak {s : St} {r : RSt} {n : Int} (h : Sim s r n) : Sim s r (n + 1) :=
  { h with bd := fun t ht => (h.bd t ht).mono (by omega), ebd := fun t ht => (h.ebd t ht).mono (by omega), kl := fun p hp => ⟨(h.kl p hp).1, (h.kl p hp).2.mono (by omega)⟩, rb := ⟨h.rb.1, by have := h.rb.2; omega⟩, n0 := by have := h.n0; omega }
/-- one thread's clock is another one, behind the old one -/
theorem Sim.setNow {s : St} {r : RSt} {n : Int} (h : Sim s r n) {t : Nat} (h1 : 1 ≤ t) (h2 : t ≤ 12) {c : List Int} (hl : c.length = 13) (hb : Bd n c) (hle : leL (r.now.getD t []) c = true) :
    Sim { s with th := s.th.set t c } { r with now := r.now.set t c } n := by
  refine { h with tl := ?_, nl := ?_, th := ?_, len := ?_, bd := ?_, mono := ?_ }
  · simp [h.tl]
  · simp [h.nl]
  · intro u hu1 hu2
    by_cases e : t = u
    · subst e
      simp only []
      rw [getD_set_self _ _ _ (by rw [h.tl]; omega), getD_set_self _ _ _ (by rw [h.nl]; omega)]
    · simp only []
      rw [getD_set_other _ _ _ _ e, getD_set_other _ _ _ _ e]
      exact h.th u hu1 hu2
  · intro u hu
    by_cases e : t = u
    · subst e; simp only []; rw [getD_set_self _ _ _ (by rw [h.nl]; omega)]; exact hl
    · simp only []; rw [getD_set_other _ _ _ _ e]; exact h.len u hu
  · intro u hu
    by_cases e : t = u
    · subst e; simp only []; rw [getD_set_self _ _ _ (by rw [h.nl]; omega)]; exact hb
    · simp only []; rw [getD_set_other _ _ _ _ e]; exact h.bd u hu
  · intro a ha
    have hm := h.mono a ha
    by_cases e : t = a.th.toNat
    · simp only []
      rw [← e, getD_set_self _ _ _ (by rw [h.nl]; omega)]
      rw [← e] at hm
      exact leL_trans hm hle
    · simp only []; rw [getD_set_other _ _ _ _ e]; exact hm
theorem Sim.join {s : St} {r : RSt} {n : Int} (h : Sim s r n) {t : Nat} (h1 : 1 ≤ t) (h2 : t ≤ 12) {c : List Int} (hb : Bd n c) :
    Sim { s with th := s.th.set t (joinL (s.th.getD t []) c) } { r with now := r.now.set t (joinL (r.now.getD t []) c) } n := by
  rw [h.th t h1 h2]
  exact h.setNow h1 h2 (joinL_len _ _) ((h.bd t (by omega)).join hb h.n0) (le_joinL_l (by rw [h.len t (by omega)]; omega))
theorem Sim.tick {s : St} {r : RSt} {n : Int} (h : Sim s r n) (hn : n ≤ 1000) {t : Nat} (h1 : 1 ≤ t) (h2 : t ≤ 12) :
    Sim (s.tick t) { r with now := r.now.set t (bump (r.now.getD t []) t) } (n + 1) := by
  have hb := bump_bd (h.bd t (by omega)) (h.len t (by omega)) hn t (by omega)
  unfold St.tick
  rw [h.th t h1 h2, joinL_self (h.len t (by omega)) (h.bd t (by omega))]
  exact h.weak.setNow h1 h2 hb.2.1 hb.1 hb.2.2
theorem toNat_of {t : Int} (h : inB t = true) : ∃ m : Nat, t = m ∧ 1 ≤ m ∧ m ≤ 12 := by
  rw [inB_iff] at h
  exact ⟨t.toNat, by omega, by omega, by omega⟩
theorem Sim.begins {s : St} {r : RSt} {n : Int} (h : Sim s r n) (hn : n ≤ 1000) (t b : Int) : Sim (s.begins t b) (r.begins t b) (n + 1) := by
  unfold St.begins RSt.begins
  by_cases hc : inB t = true ∧ b ≠ 0 ∧ inB b = true
  · rw [if_pos hc, if_pos hc]
    obtain ⟨m, rfl, m1, m2⟩ := toNat_of hc.1
    obtain ⟨k, rfl, k1, k2⟩ := toNat_of hc.2.2
    unfold RSt.nw
    simp only [Int.toNat_natCast]
    rw [h.th k k1 k2]
    have hj := h.join m1 m2 (h.bd k (by omega))
    exact hj.tick hn k1 k2
  · rw [if_neg hc, if_neg hc]; exact h.weak
theorem Sim.endT {s : St} {r : RSt} {n : Int} (h : Sim s r n) (t : Int) : Sim (s.endT t) (r.endT t) n := by
  unfold St.endT RSt.endT
  by_cases hc : inB t = true
  · rw [if_pos hc, if_pos hc]
    obtain ⟨m, rfl, m1, m2⟩ := toNat_of hc
    unfold RSt.nw
    simp only [Int.toNat_natCast]
    refine { h with el := ?_, dl := ?_, elen := ?_, ebd := ?_, ends := ?_ }
    · simp [h.el]
    · simp [h.dl]
    · intro u hu
      by_cases e : m = u
      · subst e; simp only []; rw [getD_set_self _ _ _ (by rw [h.el]; omega)]; exact h.len m (by omega)
      · simp only []; rw [getD_set_other _ _ _ _ e]; exact h.elen u hu
    · intro u hu
      by_cases e : m = u
      · subst e; simp only []; rw [getD_set_self _ _ _ (by rw [h.el]; omega)]; exact h.bd m (by omega)
      · simp only []; rw [getD_set_other _ _ _ _ e]; exact h.ebd u hu
    · intro o
      simp only []
      rw [lget_lput, h.ends o]
      by_cases e : o = (m : Int)
      · subst e
        rw [if_pos rfl]
        simp only [Int.toNat_natCast]
        rw [getD_set_self _ _ _ (by rw [h.el]; omega), if_pos ⟨hc, by rw [List.getD, List.getElem?_set_self (by rw [h.dl]; omega)]; rfl⟩, h.th m m1 m2]
      · rw [if_neg e]
        by_cases ho : inB o = true
        · obtain ⟨k, rfl, k1, k2⟩ := toNat_of ho
          simp only [Int.toNat_natCast]
          have ek : m ≠ k := fun e' => e (by rw [e'])
          rw [getD_set_other _ _ _ _ ek]
          have : (r.ended.set m true).getD k false = r.ended.getD k false := by
            rw [List.getD, List.getElem?_set_ne ek]; rfl
          rw [this]
        · rw [if_neg (fun x => ho x.1), if_neg (fun x => ho x.1)]
  · rw [if_neg hc, if_neg hc]; exact h
theorem Sim.joined {s : St} {r : RSt} {n : Int} (h : Sim s r n) (t o : Int) : Sim (s.joined t o) (r.joined t o) n := by
  unfold St.joined RSt.joined
  rw [h.ends o]
  by_cases ho : inB o = true ∧ r.ended.getD o.toNat false = true
  · rw [if_pos ho]
    simp only []
    unfold St.acq
    by_cases hc : inB t = true
    · rw [if_pos hc, if_pos ⟨hc, ho⟩]
      obtain ⟨m, rfl, m1, m2⟩ := toNat_of hc
      obtain ⟨k, rfl, k1, k2⟩ := toNat_of ho.1
      unfold RSt.nw
      simp only [Int.toNat_natCast]
      exact h.join m1 m2 (h.ebd k (by omega))
    · rw [if_neg hc, if_neg (fun x => hc x.1)]; exact h
  · rw [if_neg ho, if_neg (fun x => ho x.2)]; exact h
/-- what is kept is found, and is there then -/
theorem Sim.found {s : St} {r : RSt} {n : Int} (h : Sim s r n) (k : Int × Int) : Sim s { r with kept := ffnd r.kept k } n :=
  { h with
    locks := fun a => by simp only []; rw [lget_ffnd]; exact h.locks a
    words := fun a i hi => by simp only []; rw [lget_ffnd]; exact h.words a i hi
    kl := h.keptAll k }
theorem Sim.keptSet {s : St} {r : RSt} {n : Int} (h : Sim s r n) (k : Int × Int) {c : List Int} (hl : c.length = 13) (hb : Bd n c) : ∀ p ∈ setC (ffnd r.kept k) (fidx r.kept k) c, p.2.length = 13 ∧ Bd n p.2 := fun p hp => by
  unfold setC at hp
  rcases List.mem_or_eq_of_mem_set hp with h1 | h1
  · exact h.keptAll k p h1
  · rw [h1]; exact ⟨hl, hb⟩
theorem Sim.acqLock {s : St} {r : RSt} {n : Int} (h : Sim s r n) (t a : Int) : Sim (s.acqLock t a) (r.acquire t (a, -1)) n := by
  unfold St.acqLock St.acq RSt.acquire
  by_cases hc : inB t = true
  · rw [if_pos hc, if_pos hc]
    obtain ⟨m, rfl, m1, m2⟩ := toNat_of hc
    unfold RSt.nw
    simp only [Int.toNat_natCast]
    have hz := h.locks a
    rw [lget_idx] at hz
    rw [joinL_zq (fun _ => rfl) hz]
    exact (h.found (a, -1)).join m1 m2 (h.keptB (a, -1)).2
  · rw [if_neg hc, if_neg hc]; exact h
theorem Sim.acqWord {s : St} {r : RSt} {n : Int} (h : Sim s r n) (t a i : Int) (hi : 0 ≤ i) : Sim (s.acqWord t (a, i)) (r.acquire t (a, i)) n := by
  unfold St.acqWord St.acq RSt.acquire
  by_cases hc : inB t = true
  · rw [if_pos hc, if_pos hc]
    obtain ⟨m, rfl, m1, m2⟩ := toNat_of hc
    unfold RSt.nw
    simp only [Int.toNat_natCast]
    have hz := h.words a i hi
    rw [lget_idx] at hz
    rw [joinL_zq (fun _ => rfl) hz]
    exact (h.found (a, i)).join m1 m2 (h.keptB (a, i)).2
  · rw [if_neg hc, if_neg hc]; exact h
theorem Sim.relLock {s : St} {r : RSt} {n : Int} (h : Sim s r n) (hn : n ≤ 1000) (t a : Int) : Sim (s.relLock t a) (r.release t (a, -1)) (n + 1) := by
  unfold St.relLock RSt.release
  by_cases hc : inB t = true
  · rw [if_pos hc, if_pos hc]
    obtain ⟨m, rfl, m1, m2⟩ := toNat_of hc
    unfold RSt.nw
    simp only [Int.toNat_natCast]
    have hz := h.locks a
    rw [lget_idx] at hz
    rw [joinL_zq hz (fun _ => rfl), h.th m m1 m2]
    obtain ⟨kl, kb⟩ := h.keptB (a, -1)
    have hb := kb.join (h.bd m (by omega)) h.n0
    refine Sim.tick (r := { r with kept := setC (ffnd r.kept (a, -1)) (fidx r.kept (a, -1)) (joinL (keptC (ffnd r.kept (a, -1)) (fidx r.kept (a, -1))) (r.now.getD m [])) }) ?_ hn m1 m2
    refine { h with locks := fun a' i => ?_, words := fun a' i hi => ?_, kl := h.keptSet _ (joinL_len _ _) hb }
    · simp only []
      rw [lget_setC, lget_lput]
      by_cases e : a' = a
      · subst e; rw [if_pos rfl, if_pos rfl]; rfl
      · rw [if_neg e, if_neg (fun e' => e (by injection e'))]; exact h.locks a' i
    · simp only []
      rw [lget_setC, if_neg (fun e' => by injection e' with _ e2; omega)]
      exact h.words a' i hi
  · rw [if_neg hc, if_neg hc]; exact h.weak
theorem Sim.relWord {s : St} {r : RSt} {n : Int} (h : Sim s r n) (hn : n ≤ 1000) (t a i : Int) (hi : 0 ≤ i) : Sim (s.relWord t (a, i)) (r.release t (a, i)) (n + 1) := by
  unfold St.relWord RSt.release
  by_cases hc : inB t = true
  · rw [if_pos hc, if_pos hc]
    obtain ⟨m, rfl, m1, m2⟩ := toNat_of hc
    unfold RSt.nw
    simp only [Int.toNat_natCast]
    have hz := h.words a i hi
    rw [lget_idx] at hz
    rw [joinL_zq hz (fun _ => rfl), h.th m m1 m2]
    obtain ⟨kl, kb⟩ := h.keptB (a, i)
    have hb := kb.join (h.bd m (by omega)) h.n0
    refine Sim.tick (r := { r with kept := setC (ffnd r.kept (a, i)) (fidx r.kept (a, i)) (joinL (keptC (ffnd r.kept (a, i)) (fidx r.kept (a, i))) (r.now.getD m [])) }) ?_ hn m1 m2
    refine { h with locks := fun a' j => ?_, words := fun a' i' hi' => ?_, kl := h.keptSet _ (joinL_len _ _) hb }
    · simp only []
      rw [lget_setC, if_neg (fun e' => by injection e' with _ e2; omega)]
      exact h.locks a' j
    · simp only []
      rw [lget_setC, lget_lput]
      by_cases e : (a', i') = (a, i)
      · rw [if_pos e, if_pos e]; exact fun _ => rfl
      · rw [if_neg e, if_neg e]; exact h.words a' i' hi'
  · rw [if_neg hc, if_neg hc]; exact h.weak

/-! ### plain accesses -/
theorem Sim.unordW {s : St} {r : RSt} {n : Int} (h : Sim s r n) (c : List Int) (t : Int) (x : Int × Int) {m : List (((Int × Int) × Int) × List Int)} {b : Bool} (hm : ∀ o, Last m r.l x o b) :
    unord m c t x = true ↔ ∃ a ∈ r.l, (a.at', a.i) = x ∧ a.wr = b ∧ a.th ≠ t ∧ leL a.c c = false := by
  unfold unord
  rw [List.any_eq_true]
  constructor
  · rintro ⟨i, _, hi⟩
    obtain ⟨a, ha, h1, _, h3, h4, h5⟩ := ((hm _).some_hit c t).1 hi
    exact ⟨a, ha, h1, h3, h4, h5⟩
  · rintro ⟨a, ha, h1, h3, h4, h5⟩
    have := h.thr a ha
    refine ⟨a.th.toNat - 1, by simp; omega, ((hm _).some_hit c t).2 ⟨a, ha, h1, by omega, h3, h4, h5⟩⟩
theorem race_iff (r : RSt) (t : Int) (k : Int × Int) (w : Bool) : r.race t k w = true ↔ ∃ a ∈ r.l, (a.at', a.i) = k ∧ (w = true ∨ a.wr = true) ∧ a.th ≠ t ∧ leL a.c (r.nw t) = false := by
  unfold RSt.race hits
  rw [List.any_eq_true]
  constructor
  · rintro ⟨a, ha, h⟩
    simp only [Bool.and_eq_true, decide_eq_true_eq, Bool.or_eq_true, Bool.not_eq_true'] at h
    obtain ⟨⟨⟨⟨h1, h2⟩, h3⟩, h4⟩, h5⟩ := h
    exact ⟨a, ha, Prod.ext h1 h2, h4, h3, h5⟩
  · rintro ⟨a, ha, h1, h4, h3, h5⟩
    refine ⟨a, ha, ?_⟩
    simp only [Bool.and_eq_true, decide_eq_true_eq, Bool.or_eq_true, Bool.not_eq_true']
    exact ⟨⟨⟨⟨by rw [← h1], by rw [← h1]⟩, h3⟩, h4⟩, h5⟩
theorem Last.more {m : List (((Int × Int) × Int) × List Int)} {l : List Acc} {x : Int × Int} {o : Int} {b : Bool} (h : Last m l x o b) {a : Acc} (hne : ¬ ((a.at', a.i) = x ∧ a.th = o ∧ a.wr = b)) : Last m (l ++ [a]) x o b := by
  unfold Last at h ⊢
  cases hg : lget m (x, o) with
  | none =>
    rw [hg] at h
    simp only [] at h ⊢
    intro a' ha' h1 h2 h3
    rcases List.mem_append.1 ha' with k | k
    · exact h a' k h1 h2 h3
    · rw [List.mem_singleton.1 k] at h1 h2 h3
      exact hne ⟨h1, h2, h3⟩
  | some d =>
    rw [hg] at h
    simp only [] at h ⊢
    obtain ⟨⟨a0, ha0, h0⟩, hall⟩ := h
    refine ⟨⟨a0, List.mem_append_left _ ha0, h0⟩, fun a' ha' h1 h2 h3 => ?_⟩
    rcases List.mem_append.1 ha' with k | k
    · exact hall a' k h1 h2 h3
    · rw [List.mem_singleton.1 k] at h1 h2 h3
      exact (hne ⟨h1, h2, h3⟩).elim
theorem Last.put {m : List (((Int × Int) × Int) × List Int)} {l : List Acc} {b : Bool} (h : ∀ x o, Last m l x o b) (a : Acc) (hb : a.wr = b) (hle : ∀ a' ∈ l, a'.th = a.th → leL a'.c a.c = true) (x : Int × Int) (o : Int) :
    Last (lput m ((a.at', a.i), a.th) a.c) (l ++ [a]) x o b := by
  by_cases e : (x, o) = ((a.at', a.i), a.th)
  · injection e with e1 e2
    subst e1
    subst e2
    unfold Last
    rw [lget_lput, if_pos rfl]
    simp only []
    refine ⟨⟨a, by simp, rfl, rfl, hb, rfl⟩, fun a' ha' h1 h2 h3 => ?_⟩
    rcases List.mem_append.1 ha' with k | k
    · exact hle a' k h2
    · rw [List.mem_singleton.1 k]; exact leL_refl _
  · have h1 := (h x o).more (a := a) (fun ⟨k1, k2, _⟩ => e (by rw [← k1, ← k2]))
    unfold Last at h1 ⊢
    rw [lget_lput, if_neg e]
    exact h1
theorem Sim.count {s : St} {r : RSt} {n : Int} (hn : n ≤ 1000) (h : Sim s r n) (b : Bool) : Sim (s.count b) { r with races := if b then r.races + 1 else r.races } (n + 1) := by
  have hb := h.rb
  cases b with
  | false =>
    have e : s.count false = s := by simp [St.count]
    rw [e]
    exact h.weak
  | true =>
    have e : s.count true = { s with races := wrap64 (s.races + 1) } := by simp [St.count]
    rw [e]
    have hw : wrap64 (s.races + 1) = r.races + 1 := by rw [h.races]; unfold wrap64; omega
    refine { h.weak with races := ?_, rb := ?_ }
    · simp only [if_true]; exact hw
    · simp only [if_true]; omega
theorem Sim.plain {s : St} {r : RSt} {n : Int} (h : Sim s r n) {t : Nat} (h1 : 1 ≤ t) (h2 : t ≤ 12) (k : Int × Int) (w : Bool) :
    Sim (if w = true then { s with writes := lput s.writes (k, (t : Int)) (s.th.getD t []) } else { s with reads := lput s.reads (k, (t : Int)) (s.th.getD t []) }) { r with l := r.l ++ [⟨t, k.1, k.2, w, r.nw t⟩] } n := by
  have hc : s.th.getD t [] = r.nw t := by rw [h.th t h1 h2]; unfold RSt.nw; simp
  obtain ⟨a, ha⟩ : ∃ a : Acc, a = ⟨t, k.1, k.2, w, r.nw t⟩ := ⟨_, rfl⟩
  have hle : ∀ a' ∈ r.l, a'.th = a.th → leL a'.c a.c = true := fun a' ha' e => by
    have := h.mono a' ha'
    rw [e] at this
    rw [ha] at this ⊢
    exact this
  have hnew : ∀ a' ∈ r.l ++ [a], a' ∈ r.l ∨ a' = a := fun a' h' => by
    rcases List.mem_append.1 h' with k | k
    · exact .inl k
    · exact .inr (List.mem_singleton.1 k)
  rw [hc, ← ha]
  have hk : (k, (t : Int)) = ((a.at', a.i), a.th) := by rw [ha]
  have hcc : r.nw t = a.c := by rw [ha]
  rw [hk, hcc]
  have ht : (1 ≤ a.th ∧ a.th ≤ 12) ∧ a.c.length = 13 ∧ leL a.c (r.now.getD a.th.toNat []) = true := by
    rw [ha]
    simp only []
    refine ⟨by omega, ?_, ?_⟩
    · unfold RSt.nw; rw [Int.toNat_natCast]; exact h.len t (by omega)
    · unfold RSt.nw; exact leL_refl _
  have thr : ∀ a' ∈ r.l ++ [a], 1 ≤ a'.th ∧ a'.th ≤ 12 := fun a' h' => by
    rcases hnew a' h' with k | rfl
    · exact h.thr a' k
    · exact ht.1
  have al : ∀ a' ∈ r.l ++ [a], a'.c.length = 13 := fun a' h' => by
    rcases hnew a' h' with k | rfl
    · exact h.al a' k
    · exact ht.2.1
  have mono : ∀ a' ∈ r.l ++ [a], leL a'.c (r.now.getD a'.th.toNat []) = true := fun a' h' => by
    rcases hnew a' h' with k | rfl
    · exact h.mono a' k
    · exact ht.2.2
  cases w with
  | true =>
    rw [if_pos rfl]
    exact { h with wrs := Last.put h.wrs a (by rw [ha]) hle, rds := fun x o => (h.rds x o).more (fun ⟨_, _, e⟩ => by rw [ha] at e; cases e), thr := thr, al := al, mono := mono }
  | false =>
    rw [if_neg (by simp)]
    exact { h with rds := Last.put h.rds a (by rw [ha]) hle, wrs := fun x o => (h.wrs x o).more (fun ⟨_, _, e⟩ => by rw [ha] at e; cases e), thr := thr, al := al, mono := mono }
theorem Sim.read {s : St} {r : RSt} {n : Int} (h : Sim s r n) (hn : n ≤ 1000) (t a i : Int) : (s.read t a i false).1 = (r.access t (a, i) false).1 ∧ Sim (s.read t a i false).2 (r.access t (a, i) false).2 (n + 1) := by
  unfold St.read RSt.access
  by_cases hc : inB t = true
  · rw [if_pos hc, if_pos hc, if_neg (by simp)]
    obtain ⟨m, rfl, m1, m2⟩ := toNat_of hc
    unfold St.readP
    simp only [Int.toNat_natCast]
    have hr : unord s.writes (s.th.getD m []) m (a, i) = r.race m (a, i) false := by
      rw [Bool.eq_iff_iff, h.unordW _ _ _ (fun o => h.wrs (a, i) o), race_iff]
      have hth := h.th m m1 m2
      unfold RSt.nw
      rw [Int.toNat_natCast, hth]
      constructor
      · rintro ⟨x, hx, k1, k2, k3, k4⟩; exact ⟨x, hx, k1, .inr k2, k3, k4⟩
      · rintro ⟨x, hx, k1, k2, k3, k4⟩
        rcases k2 with k2 | k2
        · cases k2
        · exact ⟨x, hx, k1, k2, k3, k4⟩
    rw [hr]
    refine ⟨rfl, ?_⟩
    have hp := h.plain m1 m2 (a, i) false
    rw [if_neg (by simp)] at hp
    exact hp.count hn _
  · rw [if_neg hc, if_neg hc]; exact ⟨rfl, h.weak⟩
theorem Sim.write {s : St} {r : RSt} {n : Int} (h : Sim s r n) (hn : n ≤ 1000) (t a i : Int) : (s.write t a i false).1 = (r.access t (a, i) true).1 ∧ Sim (s.write t a i false).2 (r.access t (a, i) true).2 (n + 1) := by
  unfold St.write RSt.access
  by_cases hc : inB t = true
  · rw [if_pos hc, if_pos hc, if_neg (by simp)]
    obtain ⟨m, rfl, m1, m2⟩ := toNat_of hc
    unfold St.writeP
    simp only [Int.toNat_natCast]
    have hr : (unord s.writes (s.th.getD m []) m (a, i) || unord s.reads (s.th.getD m []) m (a, i)) = r.race m (a, i) true := by
      rw [Bool.eq_iff_iff, Bool.or_eq_true, h.unordW _ _ _ (fun o => h.wrs (a, i) o), h.unordW _ _ _ (fun o => h.rds (a, i) o), race_iff]
      have hth := h.th m m1 m2
      unfold RSt.nw
      rw [Int.toNat_natCast, hth]
      constructor
      · rintro (⟨x, hx, k1, k2, k3, k4⟩ | ⟨x, hx, k1, k2, k3, k4⟩) <;> exact ⟨x, hx, k1, .inl rfl, k3, k4⟩
      · rintro ⟨x, hx, k1, _, k3, k4⟩
        cases hw : x.wr with
        | true => exact .inl ⟨x, hx, k1, hw, k3, k4⟩
        | false => exact .inr ⟨x, hx, k1, hw, k3, k4⟩
    rw [hr]
    refine ⟨rfl, ?_⟩
    have hp := h.plain m1 m2 (a, i) true
    rw [if_pos rfl] at hp
    exact hp.count hn _
  · rw [if_neg hc, if_neg hc]; exact ⟨rfl, h.weak⟩
theorem Sim.clock {s : St} {r : RSt} {n : Int} (h : Sim s r n) (t : Int) : s.clock t = r.clock t ∧ (r.clock t).length = 13 := by
  unfold St.clock RSt.clock
  by_cases hc : inB t = true
  · rw [if_pos hc, if_pos hc]
    obtain ⟨m, rfl, m1, m2⟩ := toNat_of hc
    unfold RSt.nw
    simp only [Int.toNat_natCast]
    rw [h.th m m1 m2, joinL_self (h.len m (by omega)) (h.bd m (by omega))]
    exact ⟨rfl, h.len m (by omega)⟩
  · rw [if_neg hc, if_neg hc]; exact ⟨rfl, by simp [z13]⟩
theorem Sim.new : Sim St.new RSt.new 1 where
  tl := by simp [St.new]
  nl := by simp [RSt.new]
  el := by simp [RSt.new]
  dl := by simp [RSt.new]
  th := fun t h1 h2 => by
    obtain rfl | rfl | rfl | rfl | rfl | rfl | rfl | rfl | rfl | rfl | rfl | rfl : t = 1 ∨ t = 2 ∨ t = 3 ∨ t = 4 ∨ t = 5 ∨ t = 6 ∨ t = 7 ∨ t = 8 ∨ t = 9 ∨ t = 10 ∨ t = 11 ∨ t = 12 := by omega
    all_goals rfl
  len := by decide +kernel
  bd := fun t ht => by
    have h1 : ∀ t, t < 13 → ∀ i, i < 13 → 0 ≤ (RSt.new.now.getD t []).getD i 0 ∧ (RSt.new.now.getD t []).getD i 0 ≤ 1 := by decide +kernel
    have h2 : ∀ t, t < 13 → (RSt.new.now.getD t []).length = 13 := by decide +kernel
    intro i
    by_cases hi : i < 13
    · exact h1 t ht i hi
    · rw [getD_out _ _ (by rw [h2 t ht]; omega)]; omega
  elen := by decide +kernel
  ebd := fun t ht => by
    have e : RSt.new.en.getD t [] = z13 := by
      unfold RSt.new; simp only []; rw [List.getD, List.getElem?_replicate, if_pos ht]; rfl
    rw [e]; exact Bd.zero (by omega)
  ends := fun o => by
    have e : RSt.new.ended.getD o.toNat false = false := by
      unfold RSt.new; simp only []; rw [List.getD, List.getElem?_replicate]; split <;> rfl
    rw [e]; simp [St.new, lget]
  locks := fun a i => by
    show ([] : List Int).getD i 0 = z13.getD i 0
    unfold z13; rw [List.getD_nil, List.getD, List.getElem?_replicate]; split <;> rfl
  words := fun a j _ i => by
    show ([] : List Int).getD i 0 = z13.getD i 0
    unfold z13; rw [List.getD_nil, List.getD, List.getElem?_replicate]; split <;> rfl
  kl := by simp [RSt.new]
  wrs := fun x o => by unfold Last; simp [St.new, RSt.new, lget]
  rds := fun x o => by unfold Last; simp [St.new, RSt.new, lget]
  thr := by simp [RSt.new]
  al := by simp [RSt.new]
  mono := by simp [RSt.new]
  races := rfl
  rb := by simp [RSt.new]
  n0 := by omega

end Go.Proofs.Ytjkakhjajfpldaa
