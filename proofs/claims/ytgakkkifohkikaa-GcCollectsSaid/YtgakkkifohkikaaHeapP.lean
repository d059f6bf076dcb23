/-
  The document's arena, plainly: objects that rise, the blocks between them, what making and releasing an object does to these. It speaks of no program.
-/
import Derived.Test.YtgakkkifohkikaaBase
namespace Go.Proofs.Ytgakkkifohkikaa

/-- an object: where it begins, its class, its words -/
structure Ob where
  at' : Nat
  cls : Nat
  ws : List Int
  deriving DecidableEq
def Ob.sz (o : Ob) : Nat := o.ws.length + 2

/-- the free blocks from a on -/
def gaps (n : Nat) : Nat → List Ob → List (Nat × Nat)
  | a, [] => if a ≤ n then [(a, n + 1 - a)] else []
  | a, o :: r => (if a < o.at' then [(a, o.at' - a)] else []) ++ gaps n (o.at' + o.sz) r
/-- the objects from a on rise, apart from one another, and end at n -/
def Rise (n : Nat) : Nat → List Ob → Prop
  | a, [] => a ≤ n + 1
  | a, o :: r => a ≤ o.at' ∧ Rise n (o.at' + o.sz) r

theorem Rise.le {n : Nat} : ∀ {a : Nat} {L : List Ob}, Rise n a L → a ≤ n + 1
  | _, [], h => h
  | _, o :: _, h => by
    have h1 := Rise.le h.2
    have h2 := h.1
    simp only [Ob.sz] at h1
    omega
theorem Rise.obs {n : Nat} : ∀ {a : Nat} {L : List Ob}, Rise n a L → ∀ q ∈ L, a ≤ q.at' ∧ q.at' + q.sz ≤ n + 1
  | _, [], _, q, hq => by cases hq
  | _, o :: r, h, q, hq => by
    rcases List.mem_cons.1 hq with rfl | hq
    · exact ⟨h.1, Rise.le h.2⟩
    · have h1 := Rise.obs h.2 q hq
      have h2 := h.1
      exact ⟨by omega, h1.2⟩
theorem gaps_lb {n : Nat} : ∀ {a : Nat} {L : List Ob}, Rise n a L → ∀ g ∈ gaps n a L, a ≤ g.1 ∧ 1 ≤ g.2 ∧ g.1 + g.2 ≤ n + 1
  | a, [], h, g, hg => by
    simp only [gaps] at hg
    split at hg
    · simp only [List.mem_singleton] at hg
      subst hg
      simp only []
      omega
    · cases hg
  | a, o :: r, h, g, hg => by
    have h0 := h.1
    have h1 := Rise.le h.2
    simp only [gaps, List.mem_append] at hg
    rcases hg with hg | hg
    · split at hg
      · simp only [List.mem_singleton] at hg
        subst hg
        simp only []
        omega
      · cases hg
    · have h2 := gaps_lb h.2 g hg
      exact ⟨by omega, h2.2⟩
theorem Rise.split {n : Nat} : ∀ {a : Nat} {L1 : List Ob} {o : Ob} {L2 : List Ob}, Rise n a (L1 ++ o :: L2) → (∀ q ∈ L1, q.at' + q.sz ≤ o.at') ∧ a ≤ o.at' ∧ Rise n (o.at' + o.sz) L2
  | _, [], _, _, h => ⟨by simp, h.1, h.2⟩
  | a, q :: r, o, L2, h => by
    have h0 := h.1
    obtain ⟨h1, h2, h3⟩ := Rise.split (L1 := r) h.2
    refine ⟨fun p hp => ?_, by omega, h3⟩
    rcases List.mem_cons.1 hp with rfl | hp
    · exact h2
    · exact h1 p hp
theorem Rise.drop {n : Nat} : ∀ {a : Nat} {L1 : List Ob} {o : Ob} {L2 : List Ob}, Rise n a (L1 ++ o :: L2) → Rise n a (L1 ++ L2)
  | a, [], o, L2, h => by
    have h0 := h.1
    have h1 := h.2
    cases L2 with
    | nil => simp only [List.nil_append, Rise] at h1 ⊢; omega
    | cons q r => exact ⟨by have := h1.1; omega, h1.2⟩
  | a, q :: r, o, L2, h => ⟨h.1, Rise.drop (L1 := r) h.2⟩

/-- a block that is free is taken -/
theorem gaps_take {n : Nat} : ∀ {L : List Ob} {a : Nat} {G1 G2 : List (Nat × Nat)} {x m : Nat}, Rise n a L → gaps n a L = G1 ++ (x, m) :: G2 →
    ∃ L1 L2, L = L1 ++ L2 ∧ (∀ q ∈ L1, q.at' + q.sz ≤ x) ∧ (∀ q ∈ L2, x + m ≤ q.at') ∧ ∀ o : Ob, o.at' = x → o.sz ≤ m →
      gaps n a (L1 ++ o :: L2) = G1 ++ ((if o.sz = m then [] else [(x + o.sz, m - o.sz)]) ++ G2) ∧ Rise n a (L1 ++ o :: L2)
  | [], a, G1, G2, x, m, h, e => by
    simp only [gaps] at e
    have h' : a ≤ n + 1 := h
    split at e
    · rename_i ha
      cases G1 with
      | nil =>
        simp only [List.nil_append, List.cons.injEq, Prod.mk.injEq] at e
        obtain ⟨⟨rfl, rfl⟩, rfl⟩ := e
        refine ⟨[], [], rfl, by simp, by simp, fun o ho hs => ?_⟩
        subst ho
        simp only [List.nil_append, gaps, Nat.lt_irrefl, if_false, List.append_nil, Rise]
        refine ⟨?_, by omega, by omega⟩
        by_cases hc : o.sz = n + 1 - o.at'
        · rw [if_pos hc, if_neg (by omega)]
        · rw [if_neg hc, if_pos (by omega)]
          simp only [List.cons.injEq, Prod.mk.injEq, true_and, and_true]
          omega
      | cons g G1 => simp at e
    · simp at e
  | q :: r, a, G1, G2, x, m, h, e => by
    have h0 := h.1
    simp only [gaps] at e
    by_cases ha : a < q.at'
    · rw [if_pos ha] at e
      cases G1 with
      | nil =>
        simp only [List.nil_append, List.singleton_append, List.cons.injEq, Prod.mk.injEq] at e
        obtain ⟨⟨rfl, rfl⟩, rfl⟩ := e
        refine ⟨[], q :: r, rfl, by simp, fun p hp => ?_, fun o ho hs => ?_⟩
        · rcases List.mem_cons.1 hp with rfl | hp
          · omega
          · have := (Rise.obs h.2 p hp).1
            simp only [Ob.sz] at this
            omega
        · subst ho
          simp only [List.nil_append, gaps, Nat.lt_irrefl, if_false, Rise]
          refine ⟨?_, by omega, by omega, h.2⟩
          by_cases hc : o.sz = q.at' - o.at'
          · rw [if_pos hc, if_neg (by omega)]
          · rw [if_neg hc, if_pos (by omega), show q.at' - (o.at' + o.sz) = q.at' - o.at' - o.sz by omega]
      | cons g G1 =>
        simp only [List.cons_append, List.nil_append, List.cons.injEq] at e
        obtain ⟨rfl, e⟩ := e
        obtain ⟨L1, L2, rfl, k1, k2, k3⟩ := gaps_take h.2 e
        have hx := gaps_lb h.2 (x, m) (by rw [e]; simp)
        refine ⟨q :: L1, L2, rfl, fun p hp => ?_, k2, fun o ho hs => ?_⟩
        · rcases List.mem_cons.1 hp with rfl | hp
          · exact hx.1
          · exact k1 p hp
        · obtain ⟨e1, e2⟩ := k3 o ho hs
          refine ⟨?_, h.1, e2⟩
          simp only [List.cons_append, gaps, e1, if_pos ha, List.nil_append]
    · rw [if_neg ha, List.nil_append] at e
      obtain ⟨L1, L2, rfl, k1, k2, k3⟩ := gaps_take h.2 e
      have hx := gaps_lb h.2 (x, m) (by rw [e]; simp)
      refine ⟨q :: L1, L2, rfl, fun p hp => ?_, k2, fun o ho hs => ?_⟩
      · rcases List.mem_cons.1 hp with rfl | hp
        · exact hx.1
        · exact k1 p hp
      · obtain ⟨e1, e2⟩ := k3 o ho hs
        refine ⟨?_, h.1, e2⟩
        simp only [List.cons_append, gaps, e1, if_neg ha, List.nil_append]

/-! ### releasing -/
def joinR (p : Nat × Nat) : List (Nat × Nat) → List (Nat × Nat)
  | [] => [p]
  | g :: r => if p.1 + p.2 = g.1 then (p.1, p.2 + g.2) :: r else p :: g :: r
def joinL : List (Nat × Nat) → List (Nat × Nat) → List (Nat × Nat)
  | [], X => X
  | [g], [] => [g]
  | [g], p :: r => if g.1 + g.2 = p.1 then (g.1, g.2 + p.2) :: r else g :: p :: r
  | g :: g' :: G, X => g :: joinL (g' :: G) X

theorem gaps_ext {n a b : Nat} {L : List Ob} (hab : a < b) (h : Rise n b L) : gaps n a L = joinR (a, b - a) (gaps n b L) := by
  cases L with
  | nil =>
    have h' : b ≤ n + 1 := h
    simp only [gaps]
    rw [if_pos (by omega)]
    by_cases hb : b ≤ n
    · rw [if_pos hb]
      simp only [joinR]
      rw [if_pos (by omega)]
      simp only [List.cons.injEq, Prod.mk.injEq, true_and, and_true]
      omega
    · rw [if_neg hb]
      simp only [joinR, List.cons.injEq, Prod.mk.injEq, true_and, and_true]
      omega
  | cons q r =>
    have h0 := h.1
    simp only [gaps]
    rw [if_pos (by omega)]
    by_cases hb : b < q.at'
    · rw [if_pos hb]
      simp only [joinR, List.singleton_append]
      rw [if_pos (by omega)]
      simp only [List.cons.injEq, Prod.mk.injEq, true_and, and_true]
      omega
    · rw [if_neg hb, List.nil_append]
      cases hg : gaps n (q.at' + q.sz) r with
      | nil =>
        simp only [joinR, List.append_nil, List.cons.injEq, Prod.mk.injEq, true_and, and_true]
        omega
      | cons g G =>
        have := (gaps_lb h.2 g (by rw [hg]; simp)).1
        simp only [Ob.sz] at this
        simp only [joinR, List.singleton_append]
        rw [if_neg (by omega)]
        simp only [List.cons.injEq, Prod.mk.injEq, true_and, and_true]
        omega

theorem joinR_head (p : Nat × Nat) (G : List (Nat × Nat)) : ∃ t r, joinR p G = (p.1, t) :: r := by
  cases G with
  | nil => exact ⟨p.2, [], rfl⟩
  | cons g r =>
    simp only [joinR]
    split
    · exact ⟨_, _, rfl⟩
    · exact ⟨p.2, _, rfl⟩
theorem joinL_cons {g : Nat × Nat} {G X : List (Nat × Nat)} (h : ∀ p r, G = [] → X = p :: r → g.1 + g.2 ≠ p.1) : joinL (g :: G) X = g :: joinL G X := by
  cases G with
  | nil =>
    cases X with
    | nil => rfl
    | cons p r => simp only [joinL]; rw [if_neg (h p r rfl rfl)]
  | cons g' G => rfl

theorem gaps_drop {n : Nat} : ∀ {L1 : List Ob} {a : Nat} {o : Ob} {L2 : List Ob}, Rise n a (L1 ++ o :: L2) →
    ∃ G1 G2, gaps n a (L1 ++ o :: L2) = G1 ++ G2 ∧ (∀ g ∈ G1, a ≤ g.1 ∧ 1 ≤ g.2 ∧ g.1 + g.2 ≤ o.at') ∧ (∀ g ∈ G2, o.at' + o.sz ≤ g.1) ∧ gaps n a (L1 ++ L2) = joinL G1 (joinR (o.at', o.sz) G2)
  | [], a, o, L2, h => by
    have h0 := h.1
    refine ⟨if a < o.at' then [(a, o.at' - a)] else [], gaps n (o.at' + o.sz) L2, rfl, ?_, fun g hg => (gaps_lb h.2 g hg).1, ?_⟩
    · intro g hg
      split at hg
      · simp only [List.mem_singleton] at hg; subst hg; simp only []; omega
      · cases hg
    · have e := gaps_ext (a := a) (b := o.at' + o.sz) (by simp only [Ob.sz]; omega) h.2
      rw [List.nil_append, e]
      by_cases ha : a < o.at'
      · rw [if_pos ha]
        cases hg : gaps n (o.at' + o.sz) L2 with
        | nil =>
          simp only [joinR, joinL]
          rw [if_pos (by omega)]
          simp only [List.cons.injEq, Prod.mk.injEq, true_and, and_true]
          omega
        | cons g r =>
          simp only [joinR]
          by_cases hc : o.at' + o.sz = g.1
          · rw [if_pos (by omega), if_pos hc]
            simp only [joinL]
            rw [if_pos (by omega)]
            simp only [List.cons.injEq, Prod.mk.injEq, true_and, and_true]
            omega
          · rw [if_neg (by omega), if_neg hc]
            simp only [joinL]
            rw [if_pos (by omega)]
            simp only [List.cons.injEq, Prod.mk.injEq, true_and, and_true]
            omega
      · rw [if_neg ha]
        simp only [joinL]
        rw [show a = o.at' by omega, show o.at' + o.sz - o.at' = o.sz by omega]
  | q :: r, a, o, L2, h => by
    have h0 := h.1
    obtain ⟨G1, G2, e1, k1, k2, e2⟩ := gaps_drop (L1 := r) h.2
    have hs := Rise.split (L1 := q :: r) h
    have hq := hs.1 q (by simp)
    refine ⟨(if a < q.at' then [(a, q.at' - a)] else []) ++ G1, G2, ?_, ?_, k2, ?_⟩
    · simp only [List.cons_append, gaps, e1, List.append_assoc]
    · intro g hg
      rcases List.mem_append.1 hg with hg | hg
      · split at hg
        · simp only [List.mem_singleton] at hg; subst hg; simp only []; simp only [Ob.sz] at hq; omega
        · cases hg
      · have := k1 g hg; exact ⟨by omega, this.2⟩
    · simp only [List.cons_append, gaps, e2]
      by_cases ha : a < q.at'
      · rw [if_pos ha, List.singleton_append, List.singleton_append]
        refine (joinL_cons fun p r' hG hX => ?_).symm
        obtain ⟨t, r2, e3⟩ := joinR_head (o.at', o.sz) G2
        rw [e3] at hX
        simp only [List.cons.injEq] at hX
        rw [← hX.1]
        simp only [Ob.sz] at hq ⊢
        omega
      · rw [if_neg ha, List.nil_append, List.nil_append]

/-! ### places -/
/-- the first block with room for so many words -/
def place (k : Nat) : List (Nat × Nat) → Option Nat
  | [] => none
  | g :: r => if k + 2 ≤ g.2 then some g.1 else place k r
theorem place_some {k : Nat} : ∀ {G : List (Nat × Nat)} {x : Nat}, place k G = some x → ∃ G1 m G2, G = G1 ++ (x, m) :: G2 ∧ k + 2 ≤ m ∧ ∀ g ∈ G1, g.2 < k + 2
  | [], x, h => by cases h
  | g :: r, x, h => by
    simp only [place] at h
    by_cases hc : k + 2 ≤ g.2
    · rw [if_pos hc] at h
      cases h
      exact ⟨[], g.2, r, rfl, hc, by simp⟩
    · rw [if_neg hc] at h
      obtain ⟨G1, m, G2, rfl, h1, h2⟩ := place_some h
      refine ⟨g :: G1, m, G2, rfl, h1, fun p hp => ?_⟩
      rcases List.mem_cons.1 hp with rfl | hp
      · omega
      · exact h2 p hp
theorem place_none {k : Nat} : ∀ {G : List (Nat × Nat)}, place k G = none ↔ ∀ g ∈ G, g.2 < k + 2
  | [] => by simp [place]
  | g :: r => by
    simp only [place]
    by_cases hc : k + 2 ≤ g.2
    · rw [if_pos hc]; simp; intro h; omega
    · rw [if_neg hc, place_none (G := r)]; simp; intro _; omega
def insOb (o : Ob) : List Ob → List Ob
  | [] => [o]
  | q :: r => if q.at' < o.at' then q :: insOb o r else o :: q :: r
theorem insOb_split {o : Ob} : ∀ {L1 L2 : List Ob}, (∀ q ∈ L1, q.at' < o.at') → (∀ q ∈ L2, ¬ q.at' < o.at') → insOb o (L1 ++ L2) = L1 ++ o :: L2
  | [], [], _, _ => rfl
  | [], q :: r, _, h => by simp only [List.nil_append, insOb]; rw [if_neg (h q (by simp))]
  | q :: r, L2, h1, h2 => by
    simp only [List.cons_append, insOb]
    rw [if_pos (h1 q (by simp)), insOb_split (fun p hp => h1 p (by simp [hp])) h2]
def newOb (x c k : Nat) : Ob := ⟨x, c, List.replicate k 0⟩

/-- the arena of n words with objects L: what Alloc makes of it -/
def arAlloc (n : Nat) (L : List Ob) (c k : Nat) : Option (Nat × List Ob) :=
  match place k (gaps n 1 L) with
  | none => none
  | some x => some (x, insOb (newOb x c k) L)
def arFind (L : List Ob) (x : Int) : Option Ob := L.find? (fun q => decide ((q.at' : Int) = x))
def arDrop (L : List Ob) (x : Int) : List Ob := L.filter (fun q => !decide ((q.at' : Int) = x))

theorem Rise.find_split {n a : Nat} {L : List Ob} {x : Int} {o : Ob} (h : Rise n a L) (hf : arFind L x = some o) : ∃ L1 L2, L = L1 ++ o :: L2 ∧ (o.at' : Int) = x ∧ arDrop L x = L1 ++ L2 ∧ (∀ q ∈ L1, q.at' < o.at') ∧ (∀ q ∈ L2, o.at' < q.at') := by
  unfold arFind at hf
  obtain ⟨h1, L1, L2, rfl, h2⟩ := List.find?_eq_some_iff_append.1 hf
  have h1 : (o.at' : Int) = x := by simpa using h1
  obtain ⟨s1, s2, s3⟩ := Rise.split h
  have k1 : ∀ q ∈ L1, q.at' < o.at' := fun q hq => by
    have := s1 q hq; simp only [Ob.sz] at this; omega
  have k2 : ∀ q ∈ L2, o.at' < q.at' := fun q hq => by
    have := (Rise.obs s3 q hq).1; simp only [Ob.sz] at this; omega
  refine ⟨L1, L2, rfl, h1, ?_, k1, k2⟩
  unfold arDrop
  rw [List.filter_append, List.filter_cons, h1]
  simp only [decide_true, Bool.not_true, Bool.false_eq_true, if_false]
  rw [List.filter_eq_self.2 (fun q hq => by have := k1 q hq; simp; omega), List.filter_eq_self.2 (fun q hq => by have := k2 q hq; simp; omega)]
theorem arFind_none {L : List Ob} {x : Int} : arFind L x = none ↔ ∀ q ∈ L, (q.at' : Int) ≠ x := by
  unfold arFind
  rw [List.find?_eq_none]
  simp

end Go.Proofs.Ytgakkkifohkikaa
