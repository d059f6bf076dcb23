/-
  Plain facts on a watch's lists: what RaceReads and RaceLocked lean on.
-/
import Derived.Test.YtjkakhjajfpldaaRaceK
namespace Go.Proofs.Ytjkakhjajfpldaa
open Go.RowKit

/-! ### clocks as functions -/
theorem leL_iff {a b : List Int} : leL a b = true ↔ ∀ i, a.getD i 0 ≤ b.getD i 0 := by
  unfold leL
  rw [List.all_eq_true]
  constructor
  · intro h i
    by_cases hi : i < max a.length b.length
    · simpa using h i (by simpa using hi)
    · have h1 : a.getD i 0 = 0 := by rw [List.getD, List.getElem?_eq_none (by omega)]; rfl
      have h2 : b.getD i 0 = 0 := by rw [List.getD, List.getElem?_eq_none (by omega)]; rfl
      rw [h1, h2]; omega
  · intro h i _
    simpa using h i
theorem leL_not {a b : List Int} (i : Nat) (h : b.getD i 0 < a.getD i 0) : leL a b = false := by
  rw [Bool.eq_false_iff]
  intro e
  have := leL_iff.1 e i
  omega
theorem joinL_at (a b : List Int) (i : Nat) (hi : i < 13) : (joinL a b).getD i 0 = mx (a.getD i 0) (b.getD i 0) := by
  simp [joinL, List.getD, hi]
theorem joinL_out (a b : List Int) (i : Nat) (hi : 13 ≤ i) : (joinL a b).getD i 0 = 0 := by
  rw [List.getD, List.getElem?_eq_none (by rw [joinL_len]; exact hi)]; rfl
theorem getD_out (a : List Int) (i : Nat) (hi : a.length ≤ i) : a.getD i 0 = 0 := by
  rw [List.getD, List.getElem?_eq_none hi]; rfl
theorem mx_l (a b : Int) : a ≤ mx a b := by unfold mx; split <;> omega
theorem mx_r (a b : Int) : b ≤ mx a b := by unfold mx; split <;> omega
theorem mx_le {a b c : Int} (h1 : a ≤ c) (h2 : b ≤ c) : mx a b ≤ c := by unfold mx; split <;> omega
theorem le_joinL_l {a b : List Int} (ha : a.length ≤ 13) : leL a (joinL a b) = true := by
  rw [leL_iff]
  intro i
  by_cases hi : i < 13
  · rw [joinL_at _ _ _ hi]; exact mx_l _ _
  · rw [joinL_out _ _ _ (by omega), getD_out _ _ (by omega)]; omega
theorem le_joinL_r {a b : List Int} (hb : b.length ≤ 13) : leL b (joinL a b) = true := by
  rw [leL_iff]
  intro i
  by_cases hi : i < 13
  · rw [joinL_at _ _ _ hi]; exact mx_r _ _
  · rw [joinL_out _ _ _ (by omega), getD_out _ _ (by omega)]; omega
theorem leL_trans {a b c : List Int} (h1 : leL a b = true) (h2 : leL b c = true) : leL a c = true := by
  rw [leL_iff] at *
  intro i
  exact Int.le_trans (h1 i) (h2 i)
theorem leL_refl (a : List Int) : leL a a = true := by rw [leL_iff]; intro i; omega
theorem joinL_lub {a b c : List Int} (h1 : leL a c = true) (h2 : leL b c = true) (h0 : ∀ i, 13 ≤ i → 0 ≤ c.getD i 0) : leL (joinL a b) c = true := by
  rw [leL_iff] at *
  intro i
  by_cases hi : i < 13
  · rw [joinL_at _ _ _ hi]; exact mx_le (h1 i) (h2 i)
  · rw [joinL_out _ _ _ (by omega)]; exact h0 i (by omega)

/-! ### unordered -/
theorem unord_none {m : List (((Int × Int) × Int) × List Int)} {c : List Int} {t : Int} {x : Int × Int} (h : ∀ o, lget m (x, o) = none) : unord m c t x = false :=
  unord_false (fun k _ => by unfold unordAt; rw [h])
theorem unord_le {m : List (((Int × Int) × Int) × List Int)} {c : List Int} {t : Int} {x : Int × Int} (h : ∀ o d, lget m (x, o) = some d → leL d c = true) : unord m c t x = false :=
  unord_false (fun k _ => by
    unfold unordAt
    cases hl : lget m (x, (k : Int) + 1) with
    | none => rfl
    | some d => simp [h _ d hl])
theorem unord_yes {m : List (((Int × Int) × Int) × List Int)} {c : List Int} {t : Int} {x : Int × Int} {o : Nat} (h1 : 1 ≤ o) (h2 : o ≤ 12) {d : List Int} (hl : lget m (x, (o : Int)) = some d) (hne : (o : Int) ≠ t) (hd : leL d c = false) : unord m c t x = true := by
  obtain ⟨k, rfl⟩ : ∃ k, o = k + 1 := ⟨o - 1, by omega⟩
  refine unord_true (k := k) (by omega) ?_
  have e : ((k + 1 : Nat) : Int) = (k : Int) + 1 := by omega
  rw [e] at hl hne
  unfold unordAt
  rw [hl]
  simp [hne, hd]

/-! ### a plain access -/
theorem readP_st {s : St} {t : Nat} (h : inB t = true) (a i : Int) : s.read t a i false = (unord s.writes (s.th.getD t []) t (a, i), ({ s with reads := lput s.reads ((a, i), (t : Int)) (s.th.getD t []) } : St).count (unord s.writes (s.th.getD t []) t (a, i))) := by
  simp [St.read, h, St.readP]
theorem writeP_st {s : St} {t : Nat} (h : inB t = true) (a i : Int) : s.write t a i false = (unord s.writes (s.th.getD t []) t (a, i) || unord s.reads (s.th.getD t []) t (a, i), ({ s with writes := lput s.writes ((a, i), (t : Int)) (s.th.getD t []) } : St).count (unord s.writes (s.th.getD t []) t (a, i) || unord s.reads (s.th.getD t []) t (a, i))) := by
  simp [St.write, h, St.writeP]
theorem count_false (s : St) : s.count false = s := by simp [St.count]
theorem count_th (s : St) (b : Bool) : (s.count b).th = s.th := by cases b <;> simp [St.count]
theorem count_reads (s : St) (b : Bool) : (s.count b).reads = s.reads := by cases b <;> simp [St.count]
theorem count_writes (s : St) (b : Bool) : (s.count b).writes = s.writes := by cases b <;> simp [St.count]
theorem inB_of {t : Nat} (h1 : 1 ≤ t) (h2 : t ≤ 12) : inB t = true := by simp [inB]; omega
theorem new_th (t : Nat) (h : t < 13) : St.new.th.getD t [] = unit13 t := by simp [St.new, List.getD, h]

/-! ### reads alone -/
def readsOf (ts : List Nat) : List (((Int × Int) × Int) × List Int) := ts.foldl (fun m (t : Nat) => lput m (((5 : Int), (1 : Int)), (t : Int)) (unit13 t)) []
def rS (ts : List Nat) : St := { St.new with reads := readsOf ts }
def oth (ts : List Nat) (id : Nat) : Bool := ts.any (fun t => decide (t ≠ id))

theorem snoc_ind {α : Type} {p : List α → Prop} (h0 : p []) (h1 : ∀ l a, p l → p (l ++ [a])) (l : List α) : p l := by
  have : ∀ m : List α, p m.reverse := by
    intro m
    induction m with
    | nil => exact h0
    | cons a m ih => rw [List.reverse_cons]; exact h1 _ _ ih
  have := this l.reverse
  rwa [List.reverse_reverse] at this

theorem readsOf_snoc (ts : List Nat) (t : Nat) : readsOf (ts ++ [t]) = lput (readsOf ts) (((5 : Int), (1 : Int)), (t : Int)) (unit13 t) := by simp [readsOf]
theorem readsOf_get (ts : List Nat) (x : Int × Int) (o : Nat) : lget (readsOf ts) (x, (o : Int)) = if x = (5, 1) ∧ o ∈ ts then some (unit13 o) else none := by
  induction ts using snoc_ind with
  | h0 => simp [readsOf, lget_nil]
  | h1 ts t ih =>
    rw [readsOf_snoc, lget_lput, ih]
    by_cases h1 : x = (5, 1)
    · by_cases h2 : o = t
      · subst h2; simp [h1]
      · have h3 : ¬ (((x, (o : Int)) : (Int × Int) × Int) = ((5, 1), (t : Int))) := by
          intro e
          have := congrArg Prod.snd e
          simp only at this
          omega
        rw [if_neg h3]
        simp [h1, h2]
    · have h3 : ¬ (((x, (o : Int)) : (Int × Int) × Int) = ((5, 1), (t : Int))) := fun e => h1 (congrArg Prod.fst e)
      rw [if_neg h3]
      simp [h1]
theorem readsOf_int (ts : List Nat) (x : Int × Int) (o : Int) (d : List Int) (h : lget (readsOf ts) (x, o) = some d) : x = (5, 1) ∧ ∃ n : Nat, o = n ∧ n ∈ ts := by
  induction ts using snoc_ind with
  | h0 => simp [readsOf, lget_nil] at h
  | h1 ts t ih =>
    rw [readsOf_snoc, lget_lput] at h
    by_cases h3 : (((x, o) : (Int × Int) × Int) = ((5, 1), (t : Int)))
    · exact ⟨congrArg Prod.fst h3, t, congrArg Prod.snd h3, by simp⟩
    · rw [if_neg h3] at h
      obtain ⟨h1, n, h2, h4⟩ := ih h
      exact ⟨h1, n, h2, by simp [h4]⟩

theorem rS_read (ts : List Nat) (t : Nat) (h1 : 1 ≤ t) (h2 : t ≤ 12) : (rS ts).read t 5 1 false = (false, rS (ts ++ [t])) := by
  rw [readP_st (inB_of h1 h2)]
  have hw : (rS ts).writes = [] := rfl
  have hth : (rS ts).th = St.new.th := rfl
  rw [hw, unord_none (fun o => rfl), count_false, hth, new_th t (by omega)]
  have : (rS ts).reads = readsOf ts := rfl
  rw [this]
  simp only [rS, readsOf_snoc]
  rfl

theorem unit_le : ∀ a, a < 13 → ∀ b, b < 13 → a ≠ b → leL (unit13 a) (unit13 b) = false := by decide +kernel

theorem rS_unord (ts : List Nat) (hts : ∀ t ∈ ts, 1 ≤ t ∧ t ≤ 12) (id : Nat) (h1 : 1 ≤ id) (h2 : id ≤ 12) : unord (readsOf ts) (unit13 id) id (5, 1) = oth ts id := by
  cases ho : oth ts id with
  | true =>
    obtain ⟨t, ht, hne⟩ := List.any_eq_true.1 ho
    simp only [ne_eq, decide_not, Bool.not_eq_true', decide_eq_false_iff_not] at hne
    obtain ⟨b1, b2⟩ := hts t ht
    exact unord_yes b1 b2 (d := unit13 t) (by rw [readsOf_get]; simp [ht]) (by omega) (unit_le t (by omega) id (by omega) hne)
  | false =>
    refine unord_le (fun o d hl => ?_)
    obtain ⟨_, n, rfl, hn⟩ := readsOf_int ts _ _ _ hl
    have hall := List.any_eq_false.1 ho n hn
    simp only [ne_eq, decide_not, Bool.not_eq_true', decide_eq_false_iff_not, Decidable.not_not] at hall
    subst hall
    rw [readsOf_get] at hl
    simp only [hn, and_true, if_true, Option.some.injEq] at hl
    rw [← hl]; exact leL_refl _

def rW1 (ts : List Nat) (id : Nat) : Bool × St := (rS ts).write id 5 1 false
def rW2 (ts : List Nat) (id : Nat) : Bool × St := (rW1 ts id).2.write id 5 2 false
theorem rW1_is (ts : List Nat) (hts : ∀ t ∈ ts, 1 ≤ t ∧ t ≤ 12) (id : Nat) (h1 : 1 ≤ id) (h2 : id ≤ 12) : ((rS ts).write id 5 1 false).1 = oth ts id := by
  rw [writeP_st (inB_of h1 h2)]
  have hw : (rS ts).writes = [] := rfl
  have hr : (rS ts).reads = readsOf ts := rfl
  have hth : (rS ts).th = St.new.th := rfl
  simp only [hw, hr, hth, new_th id (by omega : id < 13)]
  rw [unord_none (fun o => rfl), rS_unord ts hts id h1 h2]; rfl
theorem rW1_st (ts : List Nat) (id : Nat) (h1 : 1 ≤ id) (h2 : id ≤ 12) : (rW1 ts id).2.writes = [(((5, 1), (id : Int)), unit13 id)] ∧ (rW1 ts id).2.reads = readsOf ts ∧ (rW1 ts id).2.th = St.new.th := by
  unfold rW1
  rw [writeP_st (inB_of h1 h2)]
  have hw : (rS ts).writes = [] := rfl
  have hr : (rS ts).reads = readsOf ts := rfl
  have hth : (rS ts).th = St.new.th := rfl
  simp only [count_writes, count_reads, count_th]
  rw [hw, hth, new_th id (by omega)]
  exact ⟨rfl, rfl, rfl⟩
theorem readsOf_other (ts : List Nat) (x : Int × Int) (hx : x ≠ (5, 1)) (o : Int) : lget (readsOf ts) (x, o) = none := by
  cases h : lget (readsOf ts) (x, o) with
  | none => rfl
  | some d => exact absurd (readsOf_int ts x o d h).1 hx
theorem rW2_is (ts : List Nat) (id : Nat) (h1 : 1 ≤ id) (h2 : id ≤ 12) : ((rW1 ts id).2.write id 5 2 false).1 = false := by
  obtain ⟨e1, e2, e3⟩ := rW1_st ts id h1 h2
  rw [writeP_st (inB_of h1 h2), e1, e2, unord_none, unord_none (fun o => readsOf_other ts _ (by decide) o)]; rfl
  intro o
  rw [lget_cons, if_neg (by intro e; have := congrArg (fun x => x.1.2) e; simp at this), lget_nil]
theorem rW2_st (ts : List Nat) (id : Nat) (h1 : 1 ≤ id) (h2 : id ≤ 12) : (rW2 ts id).2.writes = [(((5, 1), (id : Int)), unit13 id), (((5, 2), (id : Int)), unit13 id)] ∧ (rW2 ts id).2.reads = readsOf ts := by
  obtain ⟨e1, e2, e3⟩ := rW1_st ts id h1 h2
  unfold rW2
  rw [writeP_st (inB_of h1 h2)]
  simp only [count_writes, count_reads]
  rw [e1, e3, new_th id (by omega)]
  refine ⟨?_, e2⟩
  simp [lput]
theorem rW3_is (ts : List Nat) (id : Nat) (h1 : 1 ≤ id) (h2 : id ≤ 12) : ((rW2 ts id).2.write id 6 1 false).1 = false := by
  obtain ⟨e1, e2⟩ := rW2_st ts id h1 h2
  rw [writeP_st (inB_of h1 h2), e1, e2, unord_none, unord_none (fun o => readsOf_other ts _ (by decide) o)]; rfl
  intro o
  rw [lget_cons, if_neg (by intro e; have := congrArg (fun x => x.1.1) e; simp at this), lget_cons, if_neg (by intro e; have := congrArg (fun x => x.1.1) e; simp at this), lget_nil]

end Go.Proofs.Ytjkakhjajfpldaa
