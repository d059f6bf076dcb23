/-
  MonitorPlays, plain: the document's table, and that both go alike.
  MonitorPlays, plain: each call of the one table and of the other.
  MonitorPlays, plain: exit, wait, notify, forget, lock, held.
  MonitorPlays, plain: who holds what.
-/
import Derived.Test.YthdmgjkipiaccaaHeld
import Derived.Test.YthdmgjkipiaccaaMonM
namespace Go.Proofs.Ythdmgjkipiaccaa

structure RL where
  at' : Int
  owner : Int
  count : Int
  fat : Bool
  entry : List (Int × Int)
  wait : List (Int × Int)
def RL.zero (a : Int) : RL := ⟨a, 0, 0, false, [], []⟩
def RL.pl (x : RL) : PLk := ⟨x.owner, x.count, x.fat, x.entry.map (·.1), x.wait.map (·.1)⟩
def hasT (l : List (Int × Int)) (t : Int) : Bool := l.any (fun p => decide (p.1 = t))
def RL.has (x : RL) (t : Int) : Bool := hasT x.entry t || hasT x.wait t
/-- where the first of a is, or how many there are -/
def rix : List RL → Int → Nat
  | [], _ => 0
  | x :: r, a => if x.at' = a then 0 else rix r a + 1
def RL.enter (x : RL) (t : Int) : Bool × RL :=
  if x.owner = 0 then (true, { x with owner := t, count := 1 })
  else if x.owner = t then (true, { x with count := x.count + 1, fat := x.fat || decide (3 < x.count + 1) })
  else (false, { x with fat := true, entry := x.entry ++ [(t, 1)] })
def rput (R : List RL) (a : Int) : List RL := if rix R a < R.length then R else R ++ [RL.zero a]
def rEnter (R : List RL) (a t : Int) : (Bool × Int) × List RL :=
  if R.any (·.has t) = true ∨ a < 1 ∨ t < 1 then ((false, 130), R)
  else ((((rput R a).getD (rix R a) (RL.zero a)).enter t |>.1, 0), (rput R a).set (rix R a) (((rput R a).getD (rix R a) (RL.zero a)).enter t).2)
def RL.over (x : RL) : RL :=
  match x.entry with
  | [] => { x with owner := 0, count := 0 }
  | (u, c) :: r => { x with owner := u, count := c, entry := r }
def rOwned (R : List RL) (a t : Int) : Option Nat :=
  if rix R a < R.length ∧ 1 ≤ t ∧ (R.getD (rix R a) (RL.zero a)).owner = t then some (rix R a) else none
def rExit (R : List RL) (a t : Int) : (Int × Int) × List RL :=
  match rOwned R a t with
  | none => ((0, 130), R)
  | some i =>
    let x := R.getD i (RL.zero a)
    if 0 < x.count - 1 then ((0, 0), R.set i { x with count := x.count - 1 })
    else let y := ({ x with count := x.count - 1 } : RL).over; ((y.owner, 0), R.set i y)
def rWait (R : List RL) (a t : Int) : (Int × Int) × List RL :=
  match rOwned R a t with
  | none => ((0, 130), R)
  | some i =>
    let x := R.getD i (RL.zero a)
    let y := ({ x with fat := true, wait := x.wait ++ [(t, x.count)] } : RL).over; ((y.owner, 0), R.set i y)
def RL.notified (x : RL) (all : Bool) : List Int × RL :=
  if all then (x.wait.map (·.1), { x with entry := x.entry ++ x.wait, wait := [] })
  else match x.wait with
    | [] => ([], x)
    | p :: r => ([p.1], { x with entry := x.entry ++ [p], wait := r })
def rNotify (R : List RL) (a t : Int) (all : Bool) : (List Int × Int) × List RL :=
  match rOwned R a t with
  | none => (([], 130), R)
  | some i =>
    let x := R.getD i (RL.zero a)
    (((x.notified all).1, 0), R.set i (x.notified all).2)
def rForget (R : List RL) (a : Int) : Int × List RL :=
  if rix R a < R.length then
    let x := R.getD (rix R a) (RL.zero a)
    if x.owner ≠ 0 ∨ x.entry ≠ [] ∨ x.wait ≠ [] then (130, R) else (0, R.take (rix R a) ++ R.drop (rix R a + 1))
  else (0, R)
def rLock (R : List RL) (a : Int) : PLk := if rix R a < R.length then (R.getD (rix R a) (RL.zero a)).pl else .zero
def insI (l : List Int) (v : Int) : List Int := l.takeWhile (fun u => decide (u < v)) ++ v :: l.dropWhile (fun u => decide (u < v))
def rHeld (R : List RL) (t : Int) : List Int := R.foldl (fun l x => if t < 1 ∨ x.owner ≠ t then l else insI l x.at') []

/-! ### where what is -/
theorem rix_spec (R : List RL) (a : Int) : (rix R a = R.length ∧ ∀ x ∈ R, x.at' ≠ a) ∨ ∃ R1 x R2, R = R1 ++ x :: R2 ∧ x.at' = a ∧ (∀ y ∈ R1, y.at' ≠ a) ∧ rix R a = R1.length := by
  induction R with
  | nil => exact .inl ⟨rfl, by simp⟩
  | cons x r ih =>
    unfold rix
    by_cases h : x.at' = a
    · rw [if_pos h]; exact .inr ⟨[], x, r, rfl, h, by simp, rfl⟩
    · rw [if_neg h]
      rcases ih with ⟨h1, h2⟩ | ⟨R1, y, R2, rfl, h1, h2, h3⟩
      · exact .inl ⟨by rw [h1]; rfl, by intro y hy; rcases List.mem_cons.1 hy with rfl | hy; exact h; exact h2 y hy⟩
      · exact .inr ⟨x :: R1, y, R2, rfl, h1, by intro z hz; rcases List.mem_cons.1 hz with rfl | hz; exact h; exact h2 z hz, by rw [h3]; rfl⟩
def gT (x : RL) : Int × PLk := (x.at', x.pl)
theorem lget_gT_none {R : List RL} {a : Int} (h : ∀ x ∈ R, x.at' ≠ a) : lget (R.map gT) a = none := by
  induction R with
  | nil => rfl
  | cons x r ih => rw [List.map_cons, lget_cons, if_neg (show ¬ (gT x).1 = a from h x (by simp))]; exact ih (fun y hy => h y (by simp [hy]))
theorem lget_gT_some {R1 R2 : List RL} {x : RL} (h : ∀ y ∈ R1, y.at' ≠ x.at') : lget ((R1 ++ x :: R2).map gT) x.at' = some x.pl := by
  induction R1 with
  | nil => rw [List.nil_append, List.map_cons, lget_cons, if_pos (show (gT x).1 = x.at' from rfl)]; rfl
  | cons y r ih => rw [List.cons_append, List.map_cons, lget_cons, if_neg (show ¬ (gT y).1 = x.at' from h y (by simp))]; exact ih (fun z hz => h z (by simp [hz]))
theorem hasT_map (l : List (Int × Int)) (t : Int) : hasT l t = (l.map (·.1)).contains t := by
  unfold hasT
  induction l with
  | nil => rfl
  | cons p r ih =>
    rw [List.any_cons, List.map_cons, List.contains_cons, ih]
    congr 1
    by_cases h : p.1 = t
    · simp [h]
    · have h2 : ¬ t = p.1 := fun e => h e.symm
      simp [h, h2]
theorem has_pl (x : RL) (t : Int) : x.has t = x.pl.has t := by
  unfold RL.has PLk.has RL.pl
  rw [hasT_map, hasT_map]
theorem hasT_iff (l : List (Int × Int)) (t : Int) : hasT l t = true ↔ t ∈ l.map (·.1) := by rw [hasT_map, List.contains_iff_mem]

/-! ### both alike -/
def RL.ths (x : RL) : List Int := x.entry.map (·.1) ++ x.wait.map (·.1)
structure RL.Ok (x : RL) (cs : List ((Int × Int) × Int)) : Prop where
  nd : x.ths.Nodup
  pos : ∀ t ∈ x.ths, 1 ≤ t
  ce : ∀ p ∈ x.entry, p.2 = (lget cs (x.at', p.1)).getD 1
  cw : ∀ p ∈ x.wait, p.2 = (lget cs (x.at', p.1)).getD 1
structure Sam (T : PT) (R : List RL) : Prop where
  ls : T.ls = R.map gT
  nd : (R.map RL.at').Nodup
  ok : ∀ x ∈ R, x.Ok T.cs
  own : ∀ x ∈ R, x.owner ∉ x.ths
  non : ∀ a t, (∀ x ∈ R, x.at' = a → t ∉ x.ths) → lget T.cs (a, t) = none
theorem Sam.new : Sam .new [] := ⟨rfl, by simp, by simp, by simp, fun _ _ _ => rfl⟩
theorem Sam.stands {T : PT} {R : List RL} (h : Sam T R) (t : Int) : T.stands t = R.any (·.has t) := by
  unfold PT.stands
  rw [h.ls, List.any_map]
  congr 1
  funext x
  exact (has_pl x t).symm
theorem Sam.at {T : PT} {R : List RL} (h : Sam T R) (a : Int) : T.at a = rLock R a := by
  unfold PT.at rLock
  rw [h.ls]
  rcases rix_spec R a with ⟨e, hn⟩ | ⟨R1, x, R2, rfl, rfl, hn, e⟩
  · rw [lget_gT_none hn, if_neg (by omega)]; rfl
  · rw [lget_gT_some hn, e, if_pos (by simp)]
    simp [List.getD, List.getElem?_append_right]
/-- one lock is another now -/
theorem Sam.turn {T : PT} {R1 R2 : List RL} {x x' : RL} {cs' : List ((Int × Int) × Int)} (h : Sam T (R1 ++ x :: R2)) (ha : x'.at' = x.at') (hok : x'.Ok cs') (hown : x'.owner ∉ x'.ths)
    (hcs : ∀ a t, a ≠ x.at' → lget cs' (a, t) = lget T.cs (a, t)) (hnon : ∀ t, t ∉ x'.ths → lget cs' (x.at', t) = none) :
    Sam ⟨lput T.ls x.at' x'.pl, cs'⟩ (R1 ++ x' :: R2) := by
  have hnd := h.nd
  have hne : ∀ y ∈ R1 ++ R2, y.at' ≠ x.at' := by
    intro y hy e
    rw [List.map_append, List.map_cons, List.nodup_append] at hnd
    obtain ⟨_, h2, h3⟩ := hnd
    rcases List.mem_append.1 hy with hy | hy
    · exact h3 _ (List.mem_map_of_mem hy) _ (List.mem_cons_self) e
    · exact (List.nodup_cons.1 h2).1 (by rw [← e]; exact List.mem_map_of_mem hy)
  have hk : (R1 ++ x' :: R2).map RL.at' = (R1 ++ x :: R2).map RL.at' := by simp [ha]
  refine ⟨?_, by rw [hk]; exact hnd, ?_, ?_, ?_⟩
  · show lput T.ls x.at' x'.pl = _
    rw [h.ls, List.map_append, List.map_cons, List.map_append, List.map_cons]
    have e1 : gT x' = (x.at', x'.pl) := by unfold gT; rw [ha]
    rw [e1]
    refine lput_split (u := x.pl) ?_
    have e2 : (List.map gT R1 ++ (x.at', x.pl) :: List.map gT R2).map (·.1) = (R1 ++ x :: R2).map RL.at' := by
      rw [List.map_append, List.map_cons, List.map_append, List.map_cons, List.map_map, List.map_map]; rfl
    rw [e2]; exact hnd
  · intro y hy
    rcases List.mem_append.1 hy with hy1 | hy1
    · have k := h.ok y (by simp [hy1])
      have n := hne y (by simp [hy1])
      exact ⟨k.nd, k.pos, fun p hp => by rw [k.ce p hp, hcs _ _ n], fun p hp => by rw [k.cw p hp, hcs _ _ n]⟩
    · rcases List.mem_cons.1 hy1 with rfl | hy1
      · exact hok
      · have k := h.ok y (by simp [hy1])
        have n := hne y (by simp [hy1])
        exact ⟨k.nd, k.pos, fun p hp => by rw [k.ce p hp, hcs _ _ n], fun p hp => by rw [k.cw p hp, hcs _ _ n]⟩
  · intro y hy
    rcases List.mem_append.1 hy with hy1 | hy1
    · exact h.own y (by simp [hy1])
    · rcases List.mem_cons.1 hy1 with rfl | hy1
      · exact hown
      · exact h.own y (by simp [hy1])
  · intro a t hn
    by_cases e : a = x.at'
    · rw [e]; exact hnon t (hn x' (by simp) (by rw [ha, e]))
    · rw [hcs a t e]
      refine h.non a t (fun y hy hya => ?_)
      rcases List.mem_append.1 hy with hy1 | hy1
      · exact hn y (by simp [hy1]) hya
      · rcases List.mem_cons.1 hy1 with rfl | hy1
        · exact absurd hya.symm e
        · exact hn y (by simp [hy1]) hya

end Go.Proofs.Ythdmgjkipiaccaa

namespace Go.Proofs.Ythdmgjkipiaccaa

theorem RL.over_at (x : RL) : x.over.at' = x.at' := by unfold RL.over; split <;> rfl
theorem not_has {x : RL} {t : Int} (h : x.has t = false) : t ∉ x.ths := by
  unfold RL.has at h
  rw [Bool.or_eq_false_iff] at h
  intro hm
  rcases List.mem_append.1 hm with hm | hm
  · rw [(hasT_iff _ _).2 hm] at h; exact absurd h.1 (by simp)
  · rw [(hasT_iff _ _).2 hm] at h; exact absurd h.2 (by simp)
theorem over_same {x : RL} {cs : List ((Int × Int) × Int)} (hok : x.Ok cs) (hnon : ∀ t, t ∉ x.ths → lget cs (x.at', t) = none) :
    ∃ cs', overL x.at' x.pl cs = (x.over.owner, x.over.pl, cs') ∧ x.over.Ok cs' ∧ x.over.owner ∉ x.over.ths ∧ (∀ a t, a ≠ x.at' → lget cs' (a, t) = lget cs (a, t)) ∧ ∀ t, t ∉ x.over.ths → lget cs' (x.at', t) = none := by
  obtain ⟨at', owner, count, fat, entry, wait⟩ := x
  cases entry with
  | nil =>
    refine ⟨cs, rfl, ⟨hok.nd, hok.pos, hok.ce, hok.cw⟩, fun hm => ?_, fun _ _ _ => rfl, hnon⟩
    have := hok.pos 0 hm
    omega
  | cons p r =>
    obtain ⟨u, c⟩ := p
    have hc : c = (lget cs (at', u)).getD 1 := hok.ce (u, c) (by simp)
    have hnd : (u :: (r.map (·.1) ++ wait.map (·.1))).Nodup := hok.nd
    obtain ⟨n1, n2⟩ := List.nodup_cons.1 hnd
    have hnu : ∀ p ∈ r ++ wait, p.1 ≠ u := by
      intro p hp e
      apply n1
      rw [← e, ← List.map_append]
      exact List.mem_map_of_mem hp
    have hpos : ∀ t ∈ (r.map (·.1) ++ wait.map (·.1)), 1 ≤ t := fun t ht => hok.pos t (List.mem_cons_of_mem _ ht)
    cases hl : lget cs (at', u) with
    | none =>
      have hc1 : c = 1 := by rw [hc, hl]; rfl
      subst hc1
      refine ⟨cs, ?_, ⟨n2, hpos, fun p hp => hok.ce p (List.mem_cons_of_mem _ hp), hok.cw⟩, n1, fun _ _ _ => rfl, fun t ht => ?_⟩
      · simp only [overL, RL.pl, List.map_cons, hl]; rfl
      · by_cases e : t = u
        · rw [e]; exact hl
        · exact hnon t (fun hm => by
            rcases List.mem_cons.1 hm with h | h
            · exact e h
            · exact ht h)
    | some n =>
      have hc1 : c = n := by rw [hc, hl]; rfl
      subst hc1
      have hk : ∀ k : Int × Int, k ≠ (at', u) → lget (ldel cs (at', u)) k = lget cs k := fun k hk => by rw [lget_ldel, if_neg hk]
      refine ⟨ldel cs (at', u), ?_, ⟨n2, hpos, fun p hp => ?_, fun p hp => ?_⟩, n1, fun a t ha => hk _ (fun e => ha (congrArg Prod.fst e)), fun t ht => ?_⟩
      · simp only [overL, RL.pl, List.map_cons, hl]; rfl
      · show p.2 = (lget (ldel cs (at', u)) (at', p.1)).getD 1
        rw [hk _ (fun e => hnu p (List.mem_append_left _ hp) (congrArg Prod.snd e))]
        exact hok.ce p (List.mem_cons_of_mem _ hp)
      · show p.2 = (lget (ldel cs (at', u)) (at', p.1)).getD 1
        rw [hk _ (fun e => hnu p (List.mem_append_right _ hp) (congrArg Prod.snd e))]
        exact hok.cw p hp
      · show lget (ldel cs (at', u)) (at', t) = none
        by_cases e : t = u
        · rw [e, lget_ldel, if_pos rfl]
        · rw [hk _ (fun e' => e (congrArg Prod.snd e'))]
          exact hnon t (fun hm => by
            rcases List.mem_cons.1 hm with h | h
            · exact e h
            · exact ht h)
theorem getD_mid {R1 R2 : List RL} {x d : RL} : (R1 ++ x :: R2).getD R1.length d = x := by simp [List.getD]
theorem set_mid {R1 R2 : List RL} {x y : RL} : (R1 ++ x :: R2).set R1.length y = R1 ++ y :: R2 := by simp
theorem Sam.mid {T : PT} {R1 R2 : List RL} {x : RL} (h : Sam T (R1 ++ x :: R2)) (hn : ∀ y ∈ R1, y.at' ≠ x.at') : lget T.ls x.at' = some x.pl := by rw [h.ls]; exact lget_gT_some hn
theorem Sam.nonx {T : PT} {R1 R2 : List RL} {x : RL} (h : Sam T (R1 ++ x :: R2)) (t : Int) (ht : t ∉ x.ths) : lget T.cs (x.at', t) = none := by
  refine h.non _ _ (fun y hy e => ?_)
  have hnd := h.nd
  rw [List.map_append, List.map_cons, List.nodup_append] at hnd
  obtain ⟨_, h2, h3⟩ := hnd
  rcases List.mem_append.1 hy with hy | hy
  · exact absurd e (h3 _ (List.mem_map_of_mem hy) _ (List.mem_cons_self))
  · rcases List.mem_cons.1 hy with rfl | hy
    · exact ht
    · exact absurd (by rw [← e]; exact List.mem_map_of_mem hy) (List.nodup_cons.1 h2).1
theorem Sam.okx {T : PT} {R1 R2 : List RL} {x : RL} (h : Sam T (R1 ++ x :: R2)) : x.Ok T.cs := h.ok x (by simp)
/-- a lock more -/
theorem Sam.add {T : PT} {R : List RL} {x : RL} (h : Sam T R) (hn : ∀ y ∈ R, y.at' ≠ x.at') (he : x.entry = []) (hw : x.wait = []) : Sam ⟨lput T.ls x.at' x.pl, T.cs⟩ (R ++ [x]) := by
  have hth : x.ths = [] := by unfold RL.ths; rw [he, hw]; rfl
  refine ⟨?_, ?_, ?_, ?_, ?_⟩
  · show lput T.ls x.at' x.pl = _
    rw [h.ls, lput_none, List.map_append]
    · rfl
    · intro q hq
      obtain ⟨y, hy, rfl⟩ := List.mem_map.1 hq
      exact hn y hy
  · rw [List.map_append, List.nodup_append]
    refine ⟨h.nd, by simp, ?_⟩
    intro u hu v hv e
    obtain ⟨y, hy, rfl⟩ := List.mem_map.1 hu
    simp only [List.map_cons, List.map_nil, List.mem_singleton] at hv
    exact hn y hy (e.trans hv)
  · intro y hy
    rcases List.mem_append.1 hy with hy | hy
    · exact h.ok y hy
    · obtain rfl := List.mem_singleton.1 hy
      exact ⟨by rw [hth]; simp, by rw [hth]; simp, by rw [he]; simp, by rw [hw]; simp⟩
  · intro y hy
    rcases List.mem_append.1 hy with hy | hy
    · exact h.own y hy
    · obtain rfl := List.mem_singleton.1 hy
      rw [hth]; simp
  · intro a t ht
    exact h.non a t (fun y hy e => ht y (by simp [hy]) e)
theorem Sam.enter {T : PT} {R : List RL} (h : Sam T R) (a t : Int) : (T.enter a t).1 = (rEnter R a t).1 ∧ Sam (T.enter a t).2 (rEnter R a t).2 := by
  unfold PT.enter rEnter
  rw [h.stands]
  by_cases hc : R.any (·.has t) = true ∨ a < 1 ∨ t < 1
  · rw [if_pos (by rcases hc with h | h | h <;> simp [h]), if_pos hc]
    exact ⟨rfl, h⟩
  · have hc2 : ¬ (a < 1 ∨ t < 1 ∨ R.any (·.has t) = true) := by
      intro h'; apply hc; rcases h' with h' | h' | h'
      · exact .inr (.inl h')
      · exact .inr (.inr h')
      · exact .inl h'
    rw [if_neg hc2, if_neg hc]
    have hst : ∀ y ∈ R, t ∉ y.ths := by
      intro y hy
      apply not_has
      cases hh : y.has t with
      | false => rfl
      | true => exact absurd (.inl (List.any_eq_true.2 ⟨y, hy, hh⟩)) hc
    have ht1 : 1 ≤ t := by have : ¬ t < 1 := fun h' => hc (.inr (.inr h')); omega
    rcases rix_spec R a with ⟨e, hn⟩ | ⟨R1, x, R2, rfl, rfl, hn, e⟩
    · have e1 : rput R a = R ++ [RL.zero a] := by unfold rput; rw [if_neg (by omega)]
      have e2 : T.at a = .zero := by unfold PT.at; rw [h.ls, lget_gT_none hn]; rfl
      rw [e1, e2, e, getD_mid, set_mid]
      refine ⟨rfl, ?_⟩
      exact h.add (x := ⟨a, t, 1, false, [], []⟩) hn rfl rfl
    · have e1 : rput (R1 ++ x :: R2) x.at' = R1 ++ x :: R2 := by unfold rput; rw [if_pos (by rw [e]; simp)]
      have e2 : T.at x.at' = x.pl := by unfold PT.at; rw [h.mid hn]; rfl
      rw [e1, e2, e, getD_mid, set_mid]
      have htx := hst x (by simp)
      have hok := h.okx
      have hno := h.nonx
      have hox := h.own x (by simp)
      have e3 : (x.pl.enter t).1 = (x.enter t).1 ∧ (x.pl.enter t).2 = (x.enter t).2.pl := by
        unfold PLk.enter RL.enter
        by_cases c0 : x.owner = 0
        · rw [if_pos (show x.pl.owner = 0 from c0), if_pos c0]; exact ⟨rfl, rfl⟩
        · rw [if_neg (show ¬ x.pl.owner = 0 from c0), if_neg c0]
          by_cases c1 : x.owner = t
          · rw [if_pos (show x.pl.owner = t from c1), if_pos c1]; exact ⟨rfl, rfl⟩
          · rw [if_neg (show ¬ x.pl.owner = t from c1), if_neg c1]
            refine ⟨rfl, ?_⟩
            simp [RL.pl]
      rw [e3.1, e3.2]
      refine ⟨rfl, ?_⟩
      unfold RL.enter
      by_cases c0 : x.owner = 0
      · rw [if_pos c0]
        exact h.turn (x' := { x with owner := t, count := 1 }) rfl ⟨hok.nd, hok.pos, hok.ce, hok.cw⟩ htx (fun _ _ _ => rfl) hno
      · rw [if_neg c0]
        by_cases c1 : x.owner = t
        · rw [if_pos c1]
          exact h.turn (x' := { x with count := x.count + 1, fat := x.fat || decide (3 < x.count + 1) }) rfl ⟨hok.nd, hok.pos, hok.ce, hok.cw⟩ hox (fun _ _ _ => rfl) hno
        · rw [if_neg c1]
          have hp : ({ x with fat := true, entry := x.entry ++ [(t, 1)] } : RL).ths = x.entry.map (·.1) ++ ([t] ++ x.wait.map (·.1)) := by simp [RL.ths]
          have hmem : ∀ u, u ∈ ({ x with fat := true, entry := x.entry ++ [(t, 1)] } : RL).ths ↔ u = t ∨ u ∈ x.ths := by
            intro u; rw [hp]; simp only [RL.ths, List.mem_append, List.mem_singleton]
            constructor
            · rintro (h1 | h1 | h1)
              · exact .inr (.inl h1)
              · exact .inl h1
              · exact .inr (.inr h1)
            · rintro (h1 | h1 | h1)
              · exact .inr (.inl h1)
              · exact .inl h1
              · exact .inr (.inr h1)
          refine h.turn (x' := { x with fat := true, entry := x.entry ++ [(t, 1)] }) rfl ⟨?_, ?_, ?_, hok.cw⟩ ?_ (fun _ _ _ => rfl) ?_
          · rw [hp]
            have hperm : (x.entry.map (·.1) ++ ([t] ++ x.wait.map (·.1))).Perm (t :: (x.entry.map (·.1) ++ x.wait.map (·.1))) := by
              rw [List.singleton_append]; exact List.perm_middle
            rw [hperm.nodup_iff]
            exact List.nodup_cons.2 ⟨htx, hok.nd⟩
          · intro u hu
            rcases (hmem u).1 hu with rfl | hu
            · exact ht1
            · exact hok.pos u hu
          · intro p hp'
            rcases List.mem_append.1 hp' with hp' | hp'
            · exact hok.ce p hp'
            · obtain rfl := List.mem_singleton.1 hp'
              show (1 : Int) = (lget T.cs (x.at', t)).getD 1
              rw [hno t htx]; rfl
          · intro hu
            rcases (hmem _).1 hu with hu | hu
            · exact c1 hu
            · exact hox hu
          · intro u hu
            exact hno u (fun hm => hu ((hmem u).2 (.inr hm)))

end Go.Proofs.Ythdmgjkipiaccaa

namespace Go.Proofs.Ythdmgjkipiaccaa

theorem Sam.owned {T : PT} {R : List RL} (h : Sam T R) (a t : Int) :
    (T.owned a t = none ∧ rOwned R a t = none) ∨ ∃ R1 x R2, R = R1 ++ x :: R2 ∧ x.at' = a ∧ (∀ y ∈ R1, y.at' ≠ x.at') ∧ x.owner = t ∧ 1 ≤ t ∧ T.owned a t = some x.pl ∧ rOwned R a t = some R1.length := by
  unfold PT.owned rOwned
  rcases rix_spec R a with ⟨e, hn⟩ | ⟨R1, x, R2, rfl, rfl, hn, e⟩
  · left
    rw [h.ls, lget_gT_none hn, if_neg (by omega)]
    exact ⟨rfl, rfl⟩
  · rw [h.mid hn, e, getD_mid]
    have hl : R1.length < (R1 ++ x :: R2).length := by simp
    by_cases c : 1 ≤ t ∧ x.owner = t
    · right
      refine ⟨R1, x, R2, rfl, rfl, hn, c.2, c.1, ?_, ?_⟩
      · show (if t < 1 ∨ x.pl.owner ≠ t then none else some x.pl) = _
        rw [if_neg]
        rintro (h1 | h1)
        · have := c.1; omega
        · exact h1 c.2
      · rw [if_pos ⟨hl, c⟩]
    · left
      constructor
      · show (if t < 1 ∨ x.pl.owner ≠ t then none else some x.pl) = _
        rw [if_pos]
        by_cases h1 : t < 1
        · exact .inl h1
        · exact .inr (fun h2 => c ⟨by omega, h2⟩)
      · rw [if_neg (fun h1 => c h1.2)]
/-- a lock is handed over, behind a change that leaves who stands there -/
theorem Sam.hand {T : PT} {R1 R2 : List RL} {x x1 : RL} {cs1 : List ((Int × Int) × Int)} (h : Sam T (R1 ++ x :: R2)) (ha : x1.at' = x.at') (hok : x1.Ok cs1) (hcs : ∀ a t, a ≠ x.at' → lget cs1 (a, t) = lget T.cs (a, t))
    (hnon : ∀ t, t ∉ x1.ths → lget cs1 (x1.at', t) = none) :
    (overL x.at' x1.pl cs1).1 = x1.over.owner ∧ Sam ⟨lput T.ls x.at' (overL x.at' x1.pl cs1).2.1, (overL x.at' x1.pl cs1).2.2⟩ (R1 ++ x1.over :: R2) := by
  obtain ⟨cs', e, k1, k2, k3, k4⟩ := over_same hok hnon
  rw [← ha, e]
  refine ⟨rfl, ?_⟩
  have := h.turn (x' := x1.over) (cs' := cs') (by rw [RL.over_at, ha]) k1 k2 (fun a t hne => by rw [k3 a t (by rw [ha]; exact hne), hcs a t hne]) (fun t ht => by rw [← ha]; exact k4 t ht)
  rw [← ha] at this
  exact this
theorem Sam.exit {T : PT} {R : List RL} (h : Sam T R) (a t : Int) : (T.exit a t).1 = (rExit R a t).1 ∧ Sam (T.exit a t).2 (rExit R a t).2 := by
  unfold PT.exit rExit
  rcases h.owned a t with ⟨e1, e2⟩ | ⟨R1, x, R2, rfl, rfl, hn, ho, ht, e1, e2⟩
  · rw [e1, e2]; exact ⟨rfl, h⟩
  · rw [e1, e2]
    simp only [getD_mid, set_mid]
    have hok := h.okx
    by_cases c : 0 < x.count - 1
    · rw [if_pos (show 0 < x.pl.count - 1 from c), if_pos c]
      exact ⟨rfl, h.turn (x' := { x with count := x.count - 1 }) rfl ⟨hok.nd, hok.pos, hok.ce, hok.cw⟩ (h.own x (by simp)) (fun _ _ _ => rfl) h.nonx⟩
    · rw [if_neg (show ¬ 0 < x.pl.count - 1 from c), if_neg c]
      have k := h.hand (x1 := { x with count := x.count - 1 }) (cs1 := T.cs) rfl ⟨hok.nd, hok.pos, hok.ce, hok.cw⟩ (fun _ _ _ => rfl) h.nonx
      have eo : overL x.at' ({ x with count := x.count - 1 } : RL).pl T.cs = overL x.at' x.pl T.cs := by
        obtain ⟨at', owner, count, fat, entry, wait⟩ := x
        cases entry with
        | nil => rfl
        | cons p r => simp only [overL, RL.pl, List.map_cons]
      rw [eo] at k
      exact ⟨Prod.ext k.1 rfl, k.2⟩
theorem Sam.wait {T : PT} {R : List RL} (h : Sam T R) (a t : Int) : (T.wait a t).1 = (rWait R a t).1 ∧ Sam (T.wait a t).2 (rWait R a t).2 := by
  unfold PT.wait rWait
  rcases h.owned a t with ⟨e1, e2⟩ | ⟨R1, x, R2, rfl, rfl, hn, rfl, ht, e1, e2⟩
  · rw [e1, e2]; exact ⟨rfl, h⟩
  · rw [e1, e2]
    simp only [getD_mid, set_mid]
    have hok := h.okx
    have hox := h.own x (by simp)
    have hp : ({ x with fat := true, wait := x.wait ++ [(x.owner, x.count)] } : RL).ths = x.ths ++ [x.owner] := by simp [RL.ths]
    have hk : ∀ k : Int × Int, k ≠ (x.at', x.owner) → lget (lput T.cs (x.at', x.owner) x.count) k = lget T.cs k := fun k hk => by rw [lget_lput, if_neg hk]
    have hm : ∀ p : Int × Int, p.1 ∈ x.ths → lget (lput T.cs (x.at', x.owner) x.count) (x.at', p.1) = lget T.cs (x.at', p.1) := fun p hp => hk _ (fun e => hox (by have e' : p.1 = x.owner := congrArg Prod.snd e; rw [← e']; exact hp))
    have k := h.hand (x1 := { x with fat := true, wait := x.wait ++ [(x.owner, x.count)] }) (cs1 := lput T.cs (x.at', x.owner) x.count) rfl ?_ ?_ ?_
    · have ep : ({ x with fat := true, wait := x.wait ++ [(x.owner, x.count)] } : RL).pl = { x.pl with wait := x.pl.wait ++ [x.owner], fat := true } := by simp [RL.pl]
      rw [ep] at k
      exact ⟨Prod.ext k.1 rfl, k.2⟩
    · refine ⟨?_, ?_, ?_, ?_⟩
      · rw [hp, List.nodup_append]
        refine ⟨hok.nd, by simp, ?_⟩
        intro u hu v hv e
        rw [List.mem_singleton] at hv
        exact hox (by rw [← hv, ← e]; exact hu)
      · intro u hu
        rw [hp] at hu
        rcases List.mem_append.1 hu with hu | hu
        · exact hok.pos u hu
        · rw [List.mem_singleton] at hu; omega
      · intro p hp'
        show p.2 = (lget (lput T.cs (x.at', x.owner) x.count) (x.at', p.1)).getD 1
        rw [hm p (List.mem_append_left _ (List.mem_map_of_mem hp'))]
        exact hok.ce p hp'
      · intro p hp'
        show p.2 = (lget (lput T.cs (x.at', x.owner) x.count) (x.at', p.1)).getD 1
        rcases List.mem_append.1 hp' with hp' | hp'
        · rw [hm p (List.mem_append_right _ (List.mem_map_of_mem hp'))]
          exact hok.cw p hp'
        · obtain rfl := List.mem_singleton.1 hp'
          rw [lget_lput, if_pos rfl]; rfl
    · intro a' t' ha
      exact hk _ (fun e => ha (congrArg Prod.fst e))
    · intro t' ht'
      rw [hp] at ht'
      show lget (lput T.cs (x.at', x.owner) x.count) (x.at', t') = none
      rw [hk _ (fun e => ht' (by have e' : t' = x.owner := congrArg Prod.snd e; rw [e']; simp))]
      exact h.nonx t' (fun hm' => ht' (List.mem_append_left _ hm'))
theorem notified_same (x : RL) (all : Bool) : ((x.pl.notified all).1 = (x.notified all).1.length) ∧ (x.pl.notified all).2 = (x.notified all).2.pl ∧ (x.notified all).2.at' = x.at' ∧ (x.notified all).2.owner = x.owner ∧
    (x.notified all).2.entry ++ (x.notified all).2.wait = x.entry ++ x.wait := by
  unfold PLk.notified RL.notified
  cases all with
  | true => simp [RL.pl]
  | false =>
    obtain ⟨at', owner, count, fat, entry, wait⟩ := x
    cases wait with
    | nil => simp [RL.pl]
    | cons p r => simp [RL.pl]
theorem Sam.notify {T : PT} {R : List RL} (h : Sam T R) (a t : Int) (all : Bool) : (T.notify a t all).1 = (((rNotify R a t all).1.1.length : Int), (rNotify R a t all).1.2) ∧ Sam (T.notify a t all).2 (rNotify R a t all).2 := by
  unfold PT.notify rNotify
  rcases h.owned a t with ⟨e1, e2⟩ | ⟨R1, x, R2, rfl, rfl, hn, rfl, ht, e1, e2⟩
  · rw [e1, e2]; exact ⟨rfl, h⟩
  · rw [e1, e2]
    simp only [getD_mid, set_mid]
    have hok := h.okx
    obtain ⟨n1, n2, n3, n4, n5⟩ := notified_same x all
    obtain ⟨y, hy⟩ : ∃ y, y = x.notified all := ⟨_, rfl⟩
    rw [← hy] at n1 n2 n3 n4 n5 ⊢
    have hth : y.2.ths = x.ths := by unfold RL.ths; rw [← List.map_append, n5, List.map_append]
    have hmem : ∀ p, (p ∈ y.2.entry ∨ p ∈ y.2.wait) → p.2 = (lget T.cs (y.2.at', p.1)).getD 1 := by
      intro p hp
      have : p ∈ x.entry ++ x.wait := by rw [← n5]; exact List.mem_append.2 hp
      rw [n3]
      rcases List.mem_append.1 this with h1 | h1
      · exact hok.ce p h1
      · exact hok.cw p h1
    rw [n1, n2]
    refine ⟨rfl, ?_⟩
    exact h.turn (x' := y.2) n3 ⟨by rw [hth]; exact hok.nd, by rw [hth]; exact hok.pos, fun p hp => hmem p (.inl hp), fun p hp => hmem p (.inr hp)⟩ (by rw [hth, n4]; exact h.own x (by simp)) (fun _ _ _ => rfl) (fun t' ht' => h.nonx t' (by rw [← hth]; exact ht'))
theorem Sam.forget {T : PT} {R : List RL} (h : Sam T R) (a : Int) : (T.forget a).1 = (rForget R a).1 ∧ Sam (T.forget a).2 (rForget R a).2 := by
  unfold PT.forget rForget
  rcases rix_spec R a with ⟨e, hn⟩ | ⟨R1, x, R2, rfl, rfl, hn, e⟩
  · rw [h.ls, lget_gT_none hn, if_neg (by omega)]
    refine ⟨rfl, ?_⟩
    exact h
  · rw [h.mid hn, e, if_pos (by simp)]
    simp only [getD_mid]
    by_cases c : x.owner ≠ 0 ∨ x.entry ≠ [] ∨ x.wait ≠ []
    · rw [if_pos c, if_pos]
      · exact ⟨rfl, h⟩
      · rcases c with c | c | c
        · exact .inl c
        · right
          have : 0 < x.entry.length := List.length_pos_iff.2 c
          simp only [RL.pl, List.length_map]; omega
        · right
          have : 0 < x.wait.length := List.length_pos_iff.2 c
          simp only [RL.pl, List.length_map]; omega
    · have c0 : x.owner = 0 := Classical.byContradiction fun h' => c (.inl h')
      have c1 : x.entry = [] := Classical.byContradiction fun h' => c (.inr (.inl h'))
      have c2 : x.wait = [] := Classical.byContradiction fun h' => c (.inr (.inr h'))
      rw [if_neg c, if_neg (by simp [RL.pl, c0, c1, c2])]
      have e3 : (R1 ++ x :: R2).take R1.length ++ (R1 ++ x :: R2).drop (R1.length + 1) = R1 ++ R2 := by
        rw [List.take_left, List.drop_append]; simp
      rw [e3]
      refine ⟨rfl, ?_⟩
      have hnd := h.nd
      have hsub : ∀ y ∈ R1 ++ R2, y ∈ R1 ++ x :: R2 := by
        intro y hy; rcases List.mem_append.1 hy with hy | hy
        · simp [hy]
        · simp [hy]
      refine ⟨?_, ?_, fun y hy => h.ok y (hsub y hy), fun y hy => h.own y (hsub y hy), ?_⟩
      · show ldel T.ls x.at' = _
        rw [h.ls, List.map_append, List.map_cons, List.map_append]
        refine ldel_split (u := x.pl) ?_
        have e2 : (List.map gT R1 ++ (x.at', x.pl) :: List.map gT R2).map (·.1) = (R1 ++ x :: R2).map RL.at' := by
          rw [List.map_append, List.map_cons, List.map_append, List.map_cons, List.map_map, List.map_map]; rfl
        rw [e2]; exact hnd
      · rw [List.map_append] at hnd ⊢
        exact hnd.sublist (List.Sublist.append_left (by rw [List.map_cons]; exact List.sublist_cons_self _ _) _)
      · intro a' t' ht
        refine h.non a' t' (fun y hy e' => ?_)
        rcases List.mem_append.1 hy with hy | hy
        · exact ht y (by simp [hy]) e'
        · rcases List.mem_cons.1 hy with rfl | hy
          · unfold RL.ths; rw [c1, c2]; simp
          · exact ht y (by simp [hy]) e'

end Go.Proofs.Ythdmgjkipiaccaa

namespace Go.Proofs.Ythdmgjkipiaccaa

theorem insI_mem (l : List Int) (v a : Int) : a ∈ insI l v ↔ a = v ∨ a ∈ l := by
  unfold insI
  rw [List.mem_append, List.mem_cons]
  have h : a ∈ l ↔ a ∈ l.takeWhile (fun u => decide (u < v)) ∨ a ∈ l.dropWhile (fun u => decide (u < v)) := by
    rw [← List.mem_append, List.takeWhile_append_dropWhile]
  rw [h]
  constructor
  · rintro (h | h | h)
    · exact .inr (.inl h)
    · exact .inl h
    · exact .inr (.inr h)
  · rintro (h | h | h)
    · exact .inr (.inl h)
    · exact .inl h
    · exact .inr (.inr h)
theorem insI_sorted {l : List Int} {v : Int} (h : l.Pairwise (· < ·)) (hv : v ∉ l) : (insI l v).Pairwise (· < ·) := by
  induction l with
  | nil => simp [insI]
  | cons x r ih =>
    obtain ⟨h1, h2⟩ := List.pairwise_cons.1 h
    by_cases c : x < v
    · have e : insI (x :: r) v = x :: insI r v := by simp [insI, c]
      rw [e]
      refine List.pairwise_cons.2 ⟨fun y hy => ?_, ih h2 (fun hm => hv (List.mem_cons_of_mem _ hm))⟩
      rcases (insI_mem r v y).1 hy with rfl | hy
      · exact c
      · exact h1 y hy
    · have e : insI (x :: r) v = v :: x :: r := by simp [insI, c]
      have hne : v ≠ x := fun e => hv (by simp [e])
      rw [e]
      refine List.pairwise_cons.2 ⟨fun y hy => ?_, h⟩
      rcases List.mem_cons.1 hy with rfl | hy
      · omega
      · have := h1 y hy; omega
theorem held_fold (t : Int) (ht : 1 ≤ t) : ∀ (R : List RL) (l : List Int), (R.map RL.at').Nodup → l.Pairwise (· < ·) → (∀ x ∈ R, x.at' ∉ l) →
    (R.foldl (fun l x => if t < 1 ∨ x.owner ≠ t then l else insI l x.at') l).Pairwise (· < ·) ∧
    ∀ a, a ∈ R.foldl (fun l x => if t < 1 ∨ x.owner ≠ t then l else insI l x.at') l ↔ a ∈ l ∨ ∃ x ∈ R, x.at' = a ∧ x.owner = t := by
  intro R
  induction R with
  | nil => intro l _ h _; exact ⟨h, by simp⟩
  | cons x r ih =>
    intro l hn hl hx
    rw [List.map_cons] at hn
    obtain ⟨n1, n2⟩ := List.nodup_cons.1 hn
    rw [List.foldl_cons]
    by_cases c : x.owner = t
    · rw [if_neg (by intro h; rcases h with h | h; omega; exact h c)]
      obtain ⟨k1, k2⟩ := ih (insI l x.at') n2 (insI_sorted hl (hx x (by simp))) (fun y hy hm => by
        rcases (insI_mem _ _ _).1 hm with h | h
        · exact n1 (by rw [← h]; exact List.mem_map_of_mem hy)
        · exact hx y (by simp [hy]) h)
      refine ⟨k1, fun a => ?_⟩
      rw [k2, insI_mem]
      constructor
      · rintro ((rfl | h) | ⟨y, hy, h⟩)
        · exact .inr ⟨x, by simp, rfl, c⟩
        · exact .inl h
        · exact .inr ⟨y, by simp [hy], h⟩
      · rintro (h | ⟨y, hy, h, h'⟩)
        · exact .inl (.inr h)
        · rcases List.mem_cons.1 hy with rfl | hy
          · exact .inl (.inl h.symm)
          · exact .inr ⟨y, hy, h, h'⟩
    · rw [if_pos (.inr c)]
      obtain ⟨k1, k2⟩ := ih l n2 hl (fun y hy => hx y (by simp [hy]))
      refine ⟨k1, fun a => ?_⟩
      rw [k2]
      constructor
      · rintro (h | ⟨y, hy, h⟩)
        · exact .inl h
        · exact .inr ⟨y, by simp [hy], h⟩
      · rintro (h | ⟨y, hy, h, h'⟩)
        · exact .inl h
        · rcases List.mem_cons.1 hy with rfl | hy
          · exact absurd h' c
          · exact .inr ⟨y, hy, h, h'⟩
theorem held_none (R : List RL) (t : Int) (ht : t < 1) : ∀ l, R.foldl (fun l x => if t < 1 ∨ x.owner ≠ t then l else insI l x.at') l = l := by
  induction R with
  | nil => intro l; rfl
  | cons x r ih => intro l; rw [List.foldl_cons, if_pos (.inl ht)]; exact ih l
theorem sorted_eq {l m : List Int} (h1 : l.Pairwise (· < ·)) (h2 : m.Pairwise (· < ·)) (h : ∀ a, a ∈ l ↔ a ∈ m) : l = m := by
  induction l generalizing m with
  | nil =>
    cases m with
    | nil => rfl
    | cons y r => exact absurd ((h y).2 (by simp)) (by simp)
  | cons x r ih =>
    cases m with
    | nil => exact absurd ((h x).1 (by simp)) (by simp)
    | cons y s =>
      obtain ⟨a1, a2⟩ := List.pairwise_cons.1 h1
      obtain ⟨b1, b2⟩ := List.pairwise_cons.1 h2
      have hxy : x = y := by
        rcases List.mem_cons.1 ((h x).1 (by simp)) with e | e
        · exact e
        · rcases List.mem_cons.1 ((h y).2 (by simp)) with e' | e'
          · exact e'.symm
          · have := a1 y e'; have := b1 x e; omega
      subst hxy
      rw [ih a2 b2 (fun a => ?_)]
      constructor
      · intro ha
        rcases List.mem_cons.1 ((h a).1 (List.mem_cons_of_mem _ ha)) with e | e
        · have := a1 a ha; omega
        · exact e
      · intro ha
        rcases List.mem_cons.1 ((h a).2 (List.mem_cons_of_mem _ ha)) with e | e
        · have := b1 a ha; omega
        · exact e
theorem Sam.held {T : PT} {R : List RL} (h : Sam T R) (t : Int) : T.held t = rHeld R t := by
  have hk : T.ls.map (·.1) = R.map RL.at' := by rw [h.ls, List.map_map]; rfl
  unfold PT.held rHeld
  rw [hk]
  by_cases c : t < 1
  · rw [held_none R t c]
    refine List.filter_eq_nil_iff.2 (fun a _ => ?_)
    unfold PT.holds
    have : ¬ 0 < t := by omega
    simp [this]
  · obtain ⟨k1, k2⟩ := held_fold t (by omega) R [] h.nd (by simp) (by simp)
    refine sorted_eq ?_ k1 (fun a => ?_)
    · refine List.Pairwise.filter _ ?_
      have hp : (sortI (R.map RL.at')).Perm (R.map RL.at') := List.mergeSort_perm _ _
      have hs : (sortI (R.map RL.at')).Pairwise (fun a b => decide (a ≤ b) = true) := List.pairwise_mergeSort (fun a b c h1 h2 => by simp at *; omega) (fun a b => by simp; omega) _
      have hn : (sortI (R.map RL.at')).Nodup := hp.nodup_iff.2 h.nd
      refine (hs.and hn).imp ?_
      intro a b hab
      have h1 : a ≤ b := by simpa using hab.1
      have h2 : a ≠ b := hab.2
      omega
    · have hp : (sortI (R.map RL.at')).Perm (R.map RL.at') := List.mergeSort_perm _ _
      rw [List.mem_filter, hp.mem_iff, k2]
      unfold PT.holds
      rw [h.at]
      constructor
      · rintro ⟨ha, hb⟩
        right
        rcases rix_spec R a with ⟨e, hn⟩ | ⟨R1, x, R2, rfl, rfl, hn, e⟩
        · obtain ⟨x, hx, e'⟩ := List.mem_map.1 ha
          exact absurd e' (hn x hx)
        · refine ⟨x, by simp, rfl, ?_⟩
          unfold rLock at hb
          rw [e, if_pos (by simp), getD_mid] at hb
          simp only [Bool.and_eq_true, decide_eq_true_eq] at hb
          exact hb.1
      · rintro (h' | ⟨x, hx, rfl, ho⟩)
        · exact absurd h' (by simp)
        · refine ⟨List.mem_map_of_mem hx, ?_⟩
          rw [← h.at]
          have hl : T.at x.at' = x.pl := by
            obtain ⟨R1, R2, rfl⟩ := List.append_of_mem hx
            have hnd := h.nd
            rw [List.map_append, List.map_cons, List.nodup_append] at hnd
            unfold PT.at
            rw [h.mid (fun y hy e => hnd.2.2 _ (List.mem_map_of_mem hy) _ List.mem_cons_self e)]; rfl
          rw [hl]
          have : 0 < t := by omega
          simp [RL.pl, ho, this]

end Go.Proofs.Ythdmgjkipiaccaa
