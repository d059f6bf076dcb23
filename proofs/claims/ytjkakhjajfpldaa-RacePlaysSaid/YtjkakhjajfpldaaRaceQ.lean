/-
  Plain facts on a watch's lists: threads under one lock.
-/
import Derived.Test.YtjkakhjajfpldaaRaceP
namespace Go.Proofs.Ytjkakhjajfpldaa
open Go.RowKit

/-- the lock's clock -/
def lk (s : St) : List Int := (lget s.locks 9).getD []
def Bd (n : Int) (c : List Int) : Prop := ∀ i, 0 ≤ c.getD i 0 ∧ c.getD i 0 ≤ n

structure LInv (s : St) (n : Int) (wr : Nat) : Prop where
  th13 : s.th.length = 13
  len : ∀ t, t < 13 → (s.th.getD t []).length = 13
  bd : ∀ t, t < 13 → Bd n (s.th.getD t [])
  own : ∀ t, 1 ≤ t → t ≤ 12 → 1 ≤ (s.th.getD t []).getD t 0
  lkl : (lk s).length ≤ 13
  lkb : Bd n (lk s)
  rd : ∀ x d, lget s.reads x = some d → leL d (lk s) = true
  wrt : ∀ x d, lget s.writes x = some d → leL d (lk s) = true
  high : ∀ t, 7 ≤ t → t ≤ 12 → s.th.getD t [] = unit13 t
  writer : wr ≠ 0 → 1 ≤ wr ∧ wr ≤ 6 ∧ ∃ d, lget s.writes ((3, 1), (wr : Int)) = some d ∧ 1 ≤ d.getD wr 0
  races : s.races = 0

theorem unit13_len (t : Nat) : (unit13 t).length = 13 := by simp [unit13]
theorem unit13_get (t i : Nat) (ht : t < 13) : (unit13 t).getD i 0 = if i = t then 1 else 0 := by
  unfold unit13
  by_cases e : i = t
  · subst e
    rw [List.getD, List.getElem?_set_self (by simpa using ht)]; simp
  · rw [List.getD, List.getElem?_set_ne (fun x => e x.symm), if_neg e]
    by_cases hi : i < 13
    · rw [List.getElem?_replicate, if_pos hi]; rfl
    · rw [List.getElem?_replicate, if_neg hi]; rfl

theorem LInv.new : LInv St.new 1 0 where
  th13 := by simp [St.new]
  len t ht := by rw [new_th t ht]; exact unit13_len t
  bd t ht := by rw [new_th t ht]; intro i; rw [unit13_get t i ht]; split <;> omega
  own t h1 h2 := by rw [new_th t (by omega), unit13_get t t (by omega), if_pos rfl]; omega
  lkl := by simp [lk, St.new, lget_nil]
  lkb := by intro i; simp [lk, St.new, lget_nil]
  rd x d h := by simp [St.new, lget_nil] at h
  wrt x d h := by simp [St.new, lget_nil] at h
  high t h1 h2 := new_th t (by omega)
  writer h := absurd rfl h
  races := rfl

theorem Bd.join {n : Int} {a b : List Int} (ha : Bd n a) (hb : Bd n b) (h0 : 0 ≤ n) : Bd n (joinL a b) := by
  intro i
  by_cases hi : i < 13
  · rw [joinL_at _ _ _ hi]
    have h1 := ha i; have h2 := hb i
    unfold mx; split <;> omega
  · rw [joinL_out _ _ _ (by omega)]; omega
theorem Bd.nil {n : Int} (h0 : 0 ≤ n) : Bd n [] := by intro i; simp; exact h0
theorem Bd.mono {n m : Int} {a : List Int} (h : Bd n a) (hm : n ≤ m) : Bd m a := fun i => ⟨(h i).1, by have := (h i).2; omega⟩

theorem getD_set_self (l : List (List Int)) (t : Nat) (c : List Int) (h : t < l.length) : (l.set t c).getD t [] = c := by
  rw [List.getD, List.getElem?_set_self h]; rfl
theorem getD_set_other (l : List (List Int)) (t u : Nat) (c : List Int) (h : t ≠ u) : (l.set t c).getD u [] = l.getD u [] := by
  rw [List.getD, List.getElem?_set_ne h]; rfl
theorem bump_get (c : List Int) (t i : Nat) (ht : t < c.length) : (bump c t).getD i 0 = if i = t then wrap64 (c.getD t 0 + 1) else c.getD i 0 := by
  unfold bump
  by_cases e : i = t
  · subst e; rw [List.getD, List.getElem?_set_self ht, if_pos rfl]; rfl
  · rw [List.getD, List.getElem?_set_ne (fun x => e x.symm), if_neg e]; rfl

/-- what one access under the lock leaves: 'a thread's round' -/
def roundSt (s : St) (id : Nat) (wr : Bool) : St :=
  let s1 := s.acqLock id 9
  let s2 := if wr = true then (s1.write id 3 1 false).2 else (s1.read id 3 1 false).2
  s2.relLock id 9

theorem acq_lock (s : St) (id : Nat) (h : inB id = true) : s.acqLock id 9 = { s with th := s.th.set id (joinL (s.th.getD id []) (lk s)) } := by
  simp [St.acqLock, St.acq, h, lk]

theorem LInv.noRace {s : St} {n : Int} {wr : Nat} (h : LInv s n wr) {id : Nat} (h1 : 1 ≤ id) (h2 : id ≤ 6) (w : Bool) :
    (w = true → ((s.acqLock id 9).write id 3 1 false).1 = false) ∧ (w = false → ((s.acqLock id 9).read id 3 1 false).1 = false) := by
  have hi : inB id = true := inB_of h1 (by omega)
  have hle : leL (lk s) (joinL (s.th.getD id []) (lk s)) = true := le_joinL_r h.lkl
  have hth : (s.acqLock id 9).th.getD id [] = joinL (s.th.getD id []) (lk s) := by
    rw [acq_lock s id hi]; exact getD_set_self _ _ _ (by rw [h.th13]; omega)
  have hw : (s.acqLock id 9).writes = s.writes := by rw [acq_lock s id hi]
  have hr : (s.acqLock id 9).reads = s.reads := by rw [acq_lock s id hi]
  constructor
  · intro _
    rw [writeP_st hi, hth, hw, hr, unord_le (fun o d hl => leL_trans (h.wrt _ d hl) hle), unord_le (fun o d hl => leL_trans (h.rd _ d hl) hle)]; rfl
  · intro _
    rw [readP_st hi, hth, hw, unord_le (fun o d hl => leL_trans (h.wrt _ d hl) hle)]

theorem round_is {s : St} {n : Int} {wr : Nat} (h : LInv s n wr) {id : Nat} (h1 : 1 ≤ id) (h2 : id ≤ 6) (w : Bool) :
    roundSt s id w = { s with
      th := (s.th.set id (joinL (s.th.getD id []) (lk s))).set id (bump (joinL (joinL (s.th.getD id []) (lk s)) []) id)
      locks := lput s.locks 9 (joinL (lk s) (joinL (s.th.getD id []) (lk s)))
      reads := if w = true then s.reads else lput s.reads ((3, 1), (id : Int)) (joinL (s.th.getD id []) (lk s))
      writes := if w = true then lput s.writes ((3, 1), (id : Int)) (joinL (s.th.getD id []) (lk s)) else s.writes } := by
  have hi : inB id = true := inB_of h1 (by omega)
  obtain ⟨n1, n2⟩ := h.noRace h1 h2 w
  have hth : (s.th.set id (joinL (s.th.getD id []) (lk s))).getD id [] = joinL (s.th.getD id []) (lk s) := getD_set_self _ _ _ (by rw [h.th13]; omega)
  cases w with
  | true =>
    have e := n1 rfl
    unfold roundSt
    simp only [if_true]
    rw [writeP_st hi] at e ⊢
    simp only at e
    simp only [e, count_false]
    rw [acq_lock s id hi]
    simp only [St.relLock, hi, if_true, St.tick, Int.toNat_natCast, hth]
    rfl
  | false =>
    have e := n2 rfl
    unfold roundSt
    simp only [Bool.false_eq_true, if_false]
    rw [readP_st hi] at e ⊢
    simp only at e
    simp only [e, count_false]
    rw [acq_lock s id hi]
    simp only [St.relLock, hi, if_true, St.tick, Int.toNat_natCast, hth]
    rfl

theorem LInv.step {s : St} {n : Int} {wr : Nat} (h : LInv s n wr) (hn0 : 1 ≤ n) (hn : n ≤ 1000) {id : Nat} (h1 : 1 ≤ id) (h2 : id ≤ 6) (w : Bool) :
    LInv (roundSt s id w) (n + 1) (if w = true then id else wr) := by
  have hL : id < s.th.length := by rw [h.th13]; omega
  have hJ : Bd n (joinL (s.th.getD id []) (lk s)) := (h.bd id (by omega)).join h.lkb (by omega)
  have hJl : (joinL (s.th.getD id []) (lk s)).length = 13 := joinL_len _ _
  have hJJ : ∀ i, (joinL (joinL (s.th.getD id []) (lk s)) []).getD i 0 = (joinL (s.th.getD id []) (lk s)).getD i 0 := by
    intro i
    by_cases hi : i < 13
    · rw [joinL_at _ [] _ hi]
      have := (hJ i).1
      have e0 : ([] : List Int).getD i 0 = 0 := rfl
      rw [e0]; unfold mx; split <;> omega
    · rw [joinL_out _ _ _ (by omega), joinL_out _ _ _ (by omega)]
  have hB : ∀ i, (bump (joinL (joinL (s.th.getD id []) (lk s)) []) id).getD i 0 = if i = id then (joinL (s.th.getD id []) (lk s)).getD id 0 + 1 else (joinL (s.th.getD id []) (lk s)).getD i 0 := by
    intro i
    rw [bump_get _ _ _ (by rw [joinL_len]; omega), hJJ, hJJ]
    have := hJ id
    have hw : wrap64 ((joinL (s.th.getD id []) (lk s)).getD id 0 + 1) = (joinL (s.th.getD id []) (lk s)).getD id 0 + 1 := by unfold wrap64; omega
    rw [hw]
  have hOwn : 1 ≤ (joinL (s.th.getD id []) (lk s)).getD id 0 := by
    rw [joinL_at _ _ _ (by omega)]
    exact Int.le_trans (h.own id h1 (by omega)) (mx_l _ _)
  rw [round_is h h1 h2 w]
  have hth : ∀ t, t < 13 → ((s.th.set id (joinL (s.th.getD id []) (lk s))).set id (bump (joinL (joinL (s.th.getD id []) (lk s)) []) id)).getD t [] = if t = id then bump (joinL (joinL (s.th.getD id []) (lk s)) []) id else s.th.getD t [] := by
    intro t ht
    by_cases e : t = id
    · subst e; rw [getD_set_self _ _ _ (by simpa using hL), if_pos rfl]
    · rw [getD_set_other _ _ _ _ (fun x => e x.symm), getD_set_other _ _ _ _ (fun x => e x.symm), if_neg e]
  generalize hc : joinL (s.th.getD id []) (lk s) = c at *
  have hlk : ∀ (a : List (List Int)) (b d : List (((Int × Int) × Int) × List Int)), lk { s with th := a, locks := lput s.locks 9 (joinL (lk s) c), reads := b, writes := d } = joinL (lk s) c := by
    intro a b d
    unfold lk
    simp only [lget_lput, if_true, Option.getD_some]
  have hup : leL (lk s) (joinL (lk s) c) = true := le_joinL_l h.lkl
  have hcu : leL c (joinL (lk s) c) = true := le_joinL_r (by omega)
  have hput : ∀ (m : List (((Int × Int) × Int) × List Int)), (∀ x d, lget m x = some d → leL d (lk s) = true) → ∀ x d, lget (lput m ((3, 1), (id : Int)) c) x = some d → leL d (joinL (lk s) c) = true := by
    intro m hm x d hx
    rw [lget_lput] at hx
    split at hx
    · cases hx; exact hcu
    · exact leL_trans (hm x d hx) hup
  refine ⟨by simp [h.th13], ?_, ?_, ?_, ?_, ?_, ?_, ?_, ?_, ?_, h.races⟩
  · intro t ht
    rw [hth t ht]
    split
    · simp [bump, joinL_len]
    · exact h.len t ht
  · intro t ht
    rw [hth t ht]
    split
    · intro i
      rw [hB i]
      have a1 := hJ i; have a2 := hJ id
      split <;> omega
    · exact (h.bd t ht).mono (by omega)
  · intro t a1 a2
    rw [hth t (by omega)]
    split
    · rename_i e; subst e; rw [hB t, if_pos rfl]; omega
    · exact h.own t a1 a2
  · rw [hlk]; rw [joinL_len]; omega
  · rw [hlk]; exact (h.lkb.join hJ (by omega)).mono (by omega)
  · intro x d hx
    rw [hlk]
    cases w with
    | true => exact leL_trans (h.rd x d hx) hup
    | false => exact hput _ h.rd x d hx
  · intro x d hx
    rw [hlk]
    cases w with
    | true => exact hput _ h.wrt x d hx
    | false => exact leL_trans (h.wrt x d hx) hup
  · intro t a1 a2
    rw [hth t (by omega), if_neg (by omega)]
    exact h.high t a1 a2
  · cases w with
    | true =>
      intro _
      exact ⟨h1, h2, c, by simp only [if_true]; rw [lget_lput, if_pos rfl], hOwn⟩
    | false =>
      intro hw
      simpa using h.writer hw

theorem LInv.last {s : St} {n : Int} {wr : Nat} (h : LInv s n wr) (hw : wr ≠ 0) {id : Nat} (h1 : 7 ≤ id) (h2 : id ≤ 12) : (s.write id 3 1 false).1 = true ∧ (s.write id 3 1 false).2.races = 1 := by
  obtain ⟨w1, w2, d, hl, hd⟩ := h.writer hw
  have hi : inB id = true := inB_of (by omega) h2
  have hu : unord s.writes (s.th.getD id []) id (3, 1) = true := by
    rw [h.high id h1 h2]
    refine unord_yes w1 (by omega) hl (by omega) (leL_not wr ?_)
    rw [unit13_get id wr (by omega), if_neg (by omega)]
    omega
  rw [writeP_st hi, hu, Bool.true_or]
  refine ⟨rfl, ?_⟩
  simp only [St.count, if_true, h.races]
  decide +kernel

end Go.Proofs.Ytjkakhjajfpldaa
