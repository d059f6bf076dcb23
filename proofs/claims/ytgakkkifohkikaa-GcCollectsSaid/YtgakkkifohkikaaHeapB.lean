/-
  Package heap: New, Size, All, Free, Class, Words, word, Get, Put.
-/
import Derived.Test.YtgakkkifohkikaaHeapA
namespace Go.Proofs.Ytgakkkifohkikaa
open Go.RowKit

theorem has_some {L : List Ob} {x : Int} {o : Ob} (h : arFind L x = some o) : has L x = true := by unfold has; rw [h]; rfl
theorem has_none {L : List Ob} {x : Int} (h : arFind L x = none) : has L x = false := by unfold has; rw [h]; rfl
theorem arFind_mem {L : List Ob} {x : Int} {o : Ob} (h : arFind L x = some o) : o ∈ L ∧ (o.at' : Int) = x := by
  unfold arFind at h
  exact ⟨List.mem_of_find?_eq_some h, by simpa using List.find?_some h⟩
/-- the words' row, and a cell of it -/
theorem ArT.wcell {w : World} {hb : Nat} {vw vf vo : Value} {cs : List Value} {n : Nat} {L : List Ob} (h : ArT w hb vw vf vo cs n L) :
    ∃ b cap, vw = .slice (some ⟨b, 0, none⟩) (n + 1) cap ∧ n + 1 ≤ cap ∧ cap ≤ maxLen ∧ cs.length = n + 1 ∧ ∀ j u, cs[j]? = some u → w.cell? ⟨b, j, none⟩ = some u ∧ w.frozen? ⟨b, j, none⟩ = false := by
  have hlen := h.ws.len
  rcases h.ws.parts with ⟨_, h0, _⟩ | ⟨b, cap, cur, rfl, hh, hl', hc, hs, ht⟩
  · omega
  · refine ⟨b, cap, rfl, hl', hc, by omega, fun j u hj => ?_⟩
    have hjl := (List.getElem?_eq_some_iff.1 hj).1
    obtain ⟨b', cap', e, h1, h2⟩ := h.ws.cell j (by omega)
    cases e
    refine ⟨?_, h2⟩
    rw [h1, List.getD, hj]; rfl

def clsV (L : List Ob) (x : Int) : Value := match arFind L x with | none => .tuple #[.int .i64 0, .int .i64 111] | some o => .tuple #[.int .i64 o.cls, .int .i64 0]
def wdsV (L : List Ob) (x : Int) : Value := match arFind L x with | none => .tuple #[.int .i64 0, .int .i64 111] | some o => .tuple #[.int .i64 o.ws.length, .int .i64 0]
set_option maxHeartbeats 400000 in
theorem class_any {w : World} {p : Value} {F : List Nat} {n : Nat} {L : List Ob} (h : Ar w p F n L) (x : Int) :
    Calls Try.prog 22 #[p, .int .i64 x] w (QPost w (clsV L x)) := by
  have HH := hid (has_any h x)
  obtain ⟨hb, vw, vf, vo, cs, rfl, rfl, h⟩ := h
  obtain ⟨c0, c1, c2⟩ := h.c
  unfold QPost at HH
  cases hf : arFind L x with
  | none =>
    rw [has_none hf] at HH
    have e : clsV L x = .tuple #[.int .i64 0, .int .i64 111] := by unfold clsV; rw [hf]
    rw [e]
    clear h hf e
    unfold ptrV at HH ⊢
    go_enter Try.func22, Try.ntmps22
    go_wp2_with fail
    refine HH.out.mono ?_
    rintro e w' ⟨rfl, q, rfl⟩
    go_wp2_with fail
    go_ret2
    exact ⟨rfl, q, rfl⟩
  | some o =>
    rw [has_some hf] at HH
    have e : clsV L x = .tuple #[.int .i64 o.cls, .int .i64 0] := by unfold clsV; rw [hf]
    rw [e]
    obtain ⟨hm, rfl⟩ := arFind_mem hf
    obtain ⟨b, cap, rfl, hc1, hc2, hcl, hcell⟩ := h.wcell
    have k0 := (hcell _ _ (h.wds o hm).cls).1
    have hcc := h.cl o hm
    have hob := (Rise.obs h.rise o hm).2
    simp only [Ob.sz] at hob
    have hsm := h.small
    have hlt : (o.at' : Int) < (n : Int) + 1 := by omega
    unfold vu at k0
    unfold maxLen at hc2
    obtain ⟨c, hce⟩ : ∃ c : Nat, c = o.cls := ⟨_, rfl⟩
    obtain ⟨y, hy⟩ : ∃ y : Nat, y = o.at' := ⟨_, rfl⟩
    rw [← hy] at k0 HH hlt ⊢
    rw [← hce] at k0 hcc ⊢
    clear h hf e hcell hm hob hce hcl hy
    unfold ptrV at HH ⊢
    go_enter Try.func22, Try.ntmps22
    go_wp2_with fail
    refine HH.out.mono ?_
    rintro e w' ⟨rfl, q, rfl⟩
    go_wp2_with fail
    go_ret2
    exact ⟨rfl, q, rfl⟩
set_option maxHeartbeats 400000 in
theorem words_any {w : World} {p : Value} {F : List Nat} {n : Nat} {L : List Ob} (h : Ar w p F n L) (x : Int) :
    Calls Try.prog 19 #[p, .int .i64 x] w (QPost w (wdsV L x)) := by
  have HH := hid (has_any h x)
  obtain ⟨hb, vw, vf, vo, cs, rfl, rfl, h⟩ := h
  obtain ⟨c0, c1, c2⟩ := h.c
  unfold QPost at HH
  cases hf : arFind L x with
  | none =>
    rw [has_none hf] at HH
    have e : wdsV L x = .tuple #[.int .i64 0, .int .i64 111] := by unfold wdsV; rw [hf]
    rw [e]
    clear h hf e
    unfold ptrV at HH ⊢
    go_enter Try.func19, Try.ntmps19
    go_wp2_with fail
    refine HH.out.mono ?_
    rintro e w' ⟨rfl, q, rfl⟩
    go_wp2_with fail
    go_ret2
    exact ⟨rfl, q, rfl⟩
  | some o =>
    rw [has_some hf] at HH
    have e : wdsV L x = .tuple #[.int .i64 o.ws.length, .int .i64 0] := by unfold wdsV; rw [hf]
    rw [e]
    obtain ⟨hm, rfl⟩ := arFind_mem hf
    obtain ⟨b, cap, rfl, hc1, hc2, hcl, hcell⟩ := h.wcell
    have k0 := (hcell _ _ (h.wds o hm).len).1
    have hob := (Rise.obs h.rise o hm).2
    simp only [Ob.sz] at hob
    have hsm := h.small
    have hlt : (o.at' : Int) + 1 < (n : Int) + 1 := by omega
    have hcc : (o.ws.length : Int) ≤ 9223372036854775807 := by omega
    unfold vu at k0
    unfold maxLen at hc2
    obtain ⟨c, hce⟩ : ∃ c : Nat, c = o.ws.length := ⟨_, rfl⟩
    obtain ⟨y, hy⟩ : ∃ y : Nat, y = o.at' := ⟨_, rfl⟩
    rw [← hy] at k0 HH hlt ⊢
    rw [← hce] at k0 hcc ⊢
    clear h hf e hcell hm hob hce hcl hy
    have htn : ((y : Int) + 1).toNat = y + 1 := by omega
    unfold ptrV at HH ⊢
    go_enter Try.func19, Try.ntmps19
    go_wp2_with fail
    refine HH.out.mono ?_
    rintro e w' ⟨rfl, q, rfl⟩
    go_wp2_with fail
    go_ret2
    exact ⟨rfl, q, rfl⟩

/-- where an object's word is -/
def wordOf (L : List Ob) (x i : Int) : Option (Nat × Nat × Int) :=
  match arFind L x with
  | none => none
  | some o => if 0 ≤ i ∧ i < o.ws.length then some (o.at' + 2 + i.toNat, i.toNat, o.ws.getD i.toNat 0) else none
def wordV (L : List Ob) (x i : Int) : Value := match wordOf L x i with | none => .tuple #[.int .i64 0, .int .i64 111] | some q => .tuple #[.int .i64 q.1, .int .i64 0]
set_option maxHeartbeats 1000000 in
theorem word_any {w : World} {p : Value} {F : List Nat} {n : Nat} {L : List Ob} (h : Ar w p F n L) (x i : Int) :
    Calls Try.prog 50 #[p, .int .i64 x, .int .i64 i] w (QPost w (wordV L x i)) := by
  have HH := hid (words_any h x)
  unfold QPost at HH
  have hri := h.rise
  have hsm := h.small
  obtain ⟨hb, rfl⟩ := h.form
  clear h
  cases hf : arFind L x with
  | none =>
    have e1 : wdsV L x = .tuple #[.int .i64 0, .int .i64 111] := by unfold wdsV; rw [hf]
    have e2 : wordV L x i = .tuple #[.int .i64 0, .int .i64 111] := by unfold wordV wordOf; rw [hf]
    rw [e1] at HH
    rw [e2]
    clear hf e1 e2 hri hsm
    unfold ptrV at HH ⊢
    go_enter Try.func50, Try.ntmps50
    go_wp2_with fail
    refine HH.out.mono ?_
    rintro e w' ⟨rfl, q, rfl⟩
    go_wp2_with fail
    go_ret2
    exact ⟨rfl, q, rfl⟩
  | some o =>
    have e1 : wdsV L x = .tuple #[.int .i64 o.ws.length, .int .i64 0] := by unfold wdsV; rw [hf]
    rw [e1] at HH
    obtain ⟨hm, rfl⟩ := arFind_mem hf
    have hob := (Rise.obs hri o hm).2
    simp only [Ob.sz] at hob
    obtain ⟨c, hce⟩ : ∃ c : Nat, c = o.ws.length := ⟨_, rfl⟩
    obtain ⟨y, hy⟩ : ∃ y : Nat, y = o.at' := ⟨_, rfl⟩
    have e2 : wordOf L (o.at' : Int) i = if 0 ≤ i ∧ i < o.ws.length then some (o.at' + 2 + i.toNat, i.toNat, o.ws.getD i.toNat 0) else none := by unfold wordOf; rw [hf]
    by_cases hi0 : i < 0
    · have e3 : wordV L (o.at' : Int) i = .tuple #[.int .i64 0, .int .i64 111] := by
        unfold wordV; rw [e2, if_neg (by omega)]
      rw [e3]
      rw [← hy, ← hce] at HH
      rw [← hy]
      clear e1 e2 e3 hf hm hri hob hy hce
      unfold ptrV at HH ⊢
      go_enter Try.func50, Try.ntmps50
      go_wp2_with fail
      refine HH.out.mono ?_
      rintro e w' ⟨rfl, q, rfl⟩
      go_wp2_with fail
      go_ret2
      exact ⟨rfl, q, rfl⟩
    · have hi1 : decide (i < 0) = false := by simpa using hi0
      by_cases hi2 : (c : Int) ≤ i
      · have e3 : wordV L (o.at' : Int) i = .tuple #[.int .i64 0, .int .i64 111] := by
          unfold wordV; rw [e2, if_neg (by omega)]
        rw [e3]
        rw [← hy, ← hce] at HH
        rw [← hy]
        have HI := hid hi0
        clear e1 e2 e3 hf hm hri hob hy hce hi0
        unfold ptrV at HH ⊢
        go_enter Try.func50, Try.ntmps50
        go_wp2_with fail
        refine HH.out.mono ?_
        rintro e w' ⟨rfl, q, rfl⟩
        go_wp2_with fail
        go_ret2
        exact ⟨rfl, q, rfl⟩
      · have hi3 : decide ((c : Int) ≤ i) = false := by simpa using hi2
        obtain ⟨k, rfl⟩ : ∃ k : Nat, i = k := ⟨i.toNat, by omega⟩
        have e3 : wordV L (o.at' : Int) k = .tuple #[.int .i64 ((o.at' + 2 + k : Nat) : Int), .int .i64 0] := by
          unfold wordV; rw [e2, if_pos (by omega)]; rfl
        rw [e3]
        rw [← hy, ← hce] at HH
        have hb1 : (o.at' : Int) ≤ 100000 := by omega
        have hb2 : (k : Int) ≤ 100000 := by omega
        rw [← hy] at hb1 ⊢
        have hi4 : decide (c ≤ k) = false := by rw [decide_eq_false_iff_not]; omega
        have HI := hid (And.intro hi0 hi2)
        clear e1 e2 e3 hf hm hri hob hy hce hi0 hi2
        unfold ptrV at HH ⊢
        go_enter Try.func50, Try.ntmps50
        go_wp2_with fail
        refine HH.out.mono ?_
        rintro e w' ⟨rfl, q, rfl⟩
        go_wp2_with fail
        go_ret2
        exact ⟨rfl, q, rfl⟩

def getV (L : List Ob) (x i : Int) : Value := match wordOf L x i with | none => .tuple #[.int .u64 0, .int .i64 111] | some q => .tuple #[.int .u64 q.2.2, .int .i64 0]
/-- what is known where there is such a word -/
theorem wordOf_some {L : List Ob} {x i : Int} {q : Nat × Nat × Int} (h : wordOf L x i = some q) : ∃ o, arFind L x = some o ∧ i = q.2.1 ∧ q.2.1 < o.ws.length ∧ q.1 = o.at' + 2 + q.2.1 ∧ q.2.2 = o.ws.getD q.2.1 0 := by
  unfold wordOf at h
  cases hf : arFind L x with
  | none => rw [hf] at h; cases h
  | some o =>
    rw [hf] at h
    simp only [] at h
    split at h
    · rename_i hc
      cases h
      exact ⟨o, rfl, by simp only []; omega, by simp only []; omega, rfl, rfl⟩
    · cases h
set_option maxHeartbeats 1000000 in
theorem get_any {w : World} {p : Value} {F : List Nat} {n : Nat} {L : List Ob} (h : Ar w p F n L) (x i : Int) :
    Calls Try.prog 21 #[p, .int .i64 x, .int .i64 i] w (QPost w (getV L x i)) := by
  have HH := hid (word_any h x i)
  unfold QPost at HH
  obtain ⟨hb, vw, vf, vo, cs, rfl, rfl, h⟩ := h
  obtain ⟨c0, c1, c2⟩ := h.c
  cases hf : wordOf L x i with
  | none =>
    have e1 : wordV L x i = .tuple #[.int .i64 0, .int .i64 111] := by unfold wordV; rw [hf]
    have e2 : getV L x i = .tuple #[.int .u64 0, .int .i64 111] := by unfold getV; rw [hf]
    rw [e1] at HH
    rw [e2]
    clear hf e1 e2 h
    unfold ptrV at HH ⊢
    go_enter Try.func21, Try.ntmps21
    go_wp2_with fail
    refine HH.out.mono ?_
    rintro e w' ⟨rfl, q, rfl⟩
    go_wp2_with fail
    go_ret2
    exact ⟨rfl, q, rfl⟩
  | some q =>
    have e1 : wordV L x i = .tuple #[.int .i64 q.1, .int .i64 0] := by unfold wordV; rw [hf]
    have e2 : getV L x i = .tuple #[.int .u64 q.2.2, .int .i64 0] := by unfold getV; rw [hf]
    rw [e1] at HH
    rw [e2]
    obtain ⟨o, ho, hi, hq, hq1, hq2⟩ := wordOf_some hf
    obtain ⟨hm, rfl⟩ := arFind_mem ho
    obtain ⟨b, cap, rfl, hc1, hc2, hcl, hcell⟩ := h.wcell
    have k0 := (hcell _ _ ((h.wds o hm).at' _ hq)).1
    rw [← hq1, ← hq2] at k0
    have hob := (Rise.obs h.rise o hm).2
    simp only [Ob.sz] at hob
    have hsm := h.small
    have hlt : (q.1 : Int) < (n : Int) + 1 := by omega
    unfold vu at k0
    unfold maxLen at hc2
    obtain ⟨a, k, v⟩ := q
    simp only [] at HH hlt k0 hi ⊢
    clear h hf e1 e2 hcell hm hob hcl ho hq hq1 hq2
    subst hi
    obtain ⟨y, hy⟩ : ∃ y : Nat, y = o.at' := ⟨_, rfl⟩
    rw [← hy] at HH ⊢
    clear hy
    unfold ptrV at HH ⊢
    go_enter Try.func21, Try.ntmps21
    go_wp2_with fail
    refine HH.out.mono ?_
    rintro e w' ⟨rfl, q, rfl⟩
    go_wp2_with fail
    go_ret2
    exact ⟨rfl, q, rfl⟩

/-! ### Put -/
def Ob.put (o : Ob) (k : Nat) (v : Int) : Ob := { o with ws := o.ws.set k v }
def putObs (L : List Ob) (x : Int) (k : Nat) (v : Int) : List Ob := L.map (fun o => if (o.at' : Int) = x then o.put k v else o)
theorem Ob.put_sz (o : Ob) (k : Nat) (v : Int) : (o.put k v).sz = o.sz := by simp [Ob.put, Ob.sz]
theorem putObs_gaps (n : Nat) (x : Int) (k : Nat) (v : Int) : ∀ (a : Nat) (L : List Ob), gaps n a (putObs L x k v) = gaps n a L ∧ (Rise n a (putObs L x k v) ↔ Rise n a L)
  | _, [] => ⟨rfl, Iff.rfl⟩
  | a, o :: r => by
    have e : putObs (o :: r) x k v = (if (o.at' : Int) = x then o.put k v else o) :: putObs r x k v := rfl
    rw [e]
    have h1 : (if (o.at' : Int) = x then o.put k v else o).at' = o.at' := by split <;> rfl
    have h2 : (if (o.at' : Int) = x then o.put k v else o).sz = o.sz := by split; exact Ob.put_sz _ _ _; rfl
    obtain ⟨i1, i2⟩ := putObs_gaps n x k v (o.at' + o.sz) r
    simp only [gaps, Rise, h1, h2, i1, i2, and_self]
theorem putObs_obsL (L : List Ob) (x : Int) (k : Nat) (v : Int) : obsL (putObs L x k v) = obsL L ∧ (putObs L x k v).length = L.length := by
  refine ⟨?_, by simp [putObs]⟩
  unfold obsL putObs
  rw [List.map_map]
  apply List.map_congr_left
  intro o _
  simp only [Function.comp]
  split <;> rfl
theorem Rise.apart {n : Nat} : ∀ {a : Nat} {L : List Ob}, Rise n a L → ∀ o ∈ L, ∀ q ∈ L, o = q ∨ o.at' + o.sz ≤ q.at' ∨ q.at' + q.sz ≤ o.at'
  | _, [], _, o, ho, _, _ => by cases ho
  | a, p :: r, h, o, ho, q, hq => by
    rcases List.mem_cons.1 ho with h1 | h1
    · rcases List.mem_cons.1 hq with h2 | h2
      · exact .inl (by rw [h1, h2])
      · right; left; rw [h1]; exact (Rise.obs h.2 q h2).1
    · rcases List.mem_cons.1 hq with h2 | h2
      · right; right; rw [h2]; exact (Rise.obs h.2 o h1).1
      · exact Rise.apart h.2 o h1 q h2
/-- a word is written -/
theorem ArT.put {w w' : World} {hb : Nat} {b cap : Nat} {vf vo : Value} {cs : List Value} {n : Nat} {L : List Ob} (h : ArT w hb (.slice (some ⟨b, 0, none⟩) (n + 1) cap) vf vo cs n L) {o : Ob} (ho : o ∈ L) {k : Nat} (hk : k < o.ws.length) (v : Int)
    (hw : w' = w.setCell ⟨b, o.at' + 2 + k, none⟩ (vu v)) : ArT w' hb (.slice (some ⟨b, 0, none⟩) (n + 1) cap) vf vo (cs.set (o.at' + 2 + k) (vu v)) n (putObs L o.at' k v) ∧ Fr [b] w w' := by
  have f : Fr [b] w w' := by rw [hw]; exact (Fr.refl _ _).setCell (.inl (by simp)) _
  have hnd := h.nd
  simp only [fpv, Value.ownBlock, Option.toList, List.cons_append, List.nil_append, List.nodup_cons, List.mem_cons, List.mem_append, not_or] at hnd
  obtain ⟨⟨n1, n2, n3⟩, ⟨n4, n5⟩, _⟩ := hnd
  obtain ⟨e1, e2⟩ := putObs_gaps n o.at' k v 1 L
  obtain ⟨e3, e4⟩ := putObs_obsL L o.at' k v
  have hcsl := h.ws.len
  have hob := (Rise.obs h.rise o ho).2
  simp only [Ob.sz] at hob
  have hb1 : ∀ (V : Value), b ∉ V.ownBlock.toList → ∀ x ∈ fpv V, x ∉ [b] := fun V hV x hx hxb => by
    rw [List.mem_singleton.1 hxb] at hx; exact hV hx
  refine ⟨⟨f.obj h.blk (by simp; exact n1), ?_, by rw [e1]; exact h.fr.keep f (hb1 vf n4), by rw [e3, e4]; exact h.ob.keep f (hb1 vo n5), e2.2 h.rise, ?_, ?_, h.small, h.nd⟩, f⟩
  · rcases h.ws.parts with ⟨e, _⟩ | ⟨b', cap', cur, e, hh, hl', hc, hs, ht⟩
    · cases e
    cases e
    refine RV.mk (cur := cur.setIfInBounds (o.at' + 2 + k) (vu v)) ?_ hl' hc (by simpa using hs) ?_
    · rw [hw]; exact heap_setCell_same _ _ _ _ _ _ hh
    · rw [Array.toList_setIfInBounds, List.take_set, ht]
  · intro q hq
    simp only [putObs, List.mem_map] at hq
    obtain ⟨p, hp, rfl⟩ := hq
    have W := h.wds p hp
    by_cases hpo : (p.at' : Int) = o.at'
    · rw [if_pos hpo]
      have hp' : p.at' = o.at' := by omega
      have hpe : p = o := by
        rcases Rise.apart h.rise p hp o ho with e | e | e
        · exact e
        · simp only [Ob.sz] at e; omega
        · simp only [Ob.sz] at e; omega
      subst hpe
      refine ⟨?_, ?_, fun j hj => ?_⟩
      · show (cs.set (p.at' + 2 + k) (vu v))[p.at']? = _
        rw [List.getElem?_set_ne (by omega)]; exact W.cls
      · show (cs.set (p.at' + 2 + k) (vu v))[p.at' + 1]? = some (vu ((p.ws.set k v).length : Nat))
        rw [List.getElem?_set_ne (by omega), List.length_set]; exact W.len
      · show (cs.set (p.at' + 2 + k) (vu v))[p.at' + 2 + j]? = some (vu ((p.ws.set k v).getD j 0))
        have hj' : j < p.ws.length := by simpa [Ob.put] using hj
        by_cases hjk : j = k
        · subst hjk
          rw [List.getElem?_set_self (by omega)]
          simp [List.getD, hj']
        · rw [List.getElem?_set_ne (by omega), W.at' j hj']
          simp [List.getD, List.getElem?_set_ne (fun e => hjk e.symm)]
    · rw [if_neg hpo]
      have hne : ∀ j, j < p.ws.length + 2 → p.at' + j ≠ o.at' + 2 + k := by
        intro j hj e
        rcases Rise.apart h.rise p hp o ho with e1 | e1 | e1
        · rw [e1] at hpo; exact hpo rfl
        · simp only [Ob.sz] at e1; omega
        · simp only [Ob.sz] at e1; omega
      refine ⟨?_, ?_, fun j hj => ?_⟩
      · rw [List.getElem?_set_ne (by have := hne 0 (by omega); omega)]; exact W.cls
      · rw [List.getElem?_set_ne (by have := hne 1 (by omega); omega)]; exact W.len
      · rw [List.getElem?_set_ne (by have := hne (2 + j) (by omega); omega)]; exact W.at' j hj
  · intro q hq
    simp only [putObs, List.mem_map] at hq
    obtain ⟨p, hp, rfl⟩ := hq
    split
    · exact h.cl p hp
    · exact h.cl p hp
def putL (L : List Ob) (x i v : Int) : List Ob := match wordOf L x i with | none => L | some q => putObs L x q.2.1 v
def putE (L : List Ob) (x i : Int) : Int := match wordOf L x i with | none => 111 | some _ => 0
set_option maxHeartbeats 1000000 in
theorem put_any {w : World} {p : Value} {F : List Nat} {n : Nat} {L : List Ob} (h : Ar w p F n L) (x i v : Int) :
    Calls Try.prog 20 #[p, .int .i64 x, .int .i64 i, .int .u64 v] w (OpPost w p F n (.int .i64 (putE L x i)) (putL L x i v)) := by
  have HH := hid (word_any h x i)
  have H0 := hid h
  unfold QPost at HH
  obtain ⟨hb, vw, vf, vo, cs, rfl, rfl, h⟩ := h
  cases hf : wordOf L x i with
  | none =>
    have e1 : wordV L x i = .tuple #[.int .i64 0, .int .i64 111] := by unfold wordV; rw [hf]
    have e2 : putL L x i v = L := by unfold putL; rw [hf]
    have e3 : putE L x i = 111 := by unfold putE; rw [hf]
    rw [e1] at HH
    rw [e2, e3]
    clear hf e1 e2 e3 h
    unfold ptrV at *
    go_enter Try.func20, Try.ntmps20
    go_wp2_with fail
    refine HH.out.mono ?_
    rintro e w' ⟨rfl, q, rfl⟩
    go_wp2_with fail
    go_ret
    exact ⟨rfl, _, H0.out.keep0 (drewN_fr _ _), (drewN_fr _ _).sub (by simp), fun x hx => .inl hx⟩
  | some q =>
    have e1 : wordV L x i = .tuple #[.int .i64 q.1, .int .i64 0] := by unfold wordV; rw [hf]
    have e2 : putL L x i v = putObs L x q.2.1 v := by unfold putL; rw [hf]
    have e3 : putE L x i = 0 := by unfold putE; rw [hf]
    rw [e1] at HH
    rw [e2, e3]
    obtain ⟨o, ho, hi, hq, hq1, hq2⟩ := wordOf_some hf
    obtain ⟨hm, rfl⟩ := arFind_mem ho
    obtain ⟨b, cap, rfl, hc1, hc2, hcl, hcell⟩ := h.wcell
    have HA := hid h
    have hob := (Rise.obs h.rise o hm).2
    simp only [Ob.sz] at hob
    have hsm := h.small
    have hlt : (q.1 : Int) < (n : Int) + 1 := by omega
    unfold maxLen at hc2
    obtain ⟨a, k, y⟩ := q
    simp only [] at HH hlt hi hq hq1 ⊢
    have HM := hid hm
    have HQ := hid hq
    have HQ1 := hid hq1
    have HC := hid (fun w' (f : Fr [] w w') => (h.keep0 f).c)
    have HW := hid (fun w' (f : Fr [] w w') => (hcell _ _ ((h.wds o hm).at' _ hq)))
    have k1 := (hcell _ _ ((h.wds o hm).at' _ hq)).1
    have k2 := (hcell _ _ ((h.wds o hm).at' _ hq)).2
    rw [← hq1] at k1 k2
    obtain ⟨c0, c1, c2⟩ := h.c
    clear h hf e1 e2 e3 hcell hm hob hcl ho hq hq1 hq2 HC HW
    subst hi
    unfold ptrV vu at *
    obtain ⟨z, hz⟩ : ∃ z, z = o.ws.getD k 0 := ⟨_, rfl⟩
    rw [← hz] at k1
    clear hz
    go_enter Try.func20, Try.ntmps20
    go_wp2_with fail
    refine HH.out.mono ?_
    rintro e w' ⟨rfl, q, rfl⟩
    go_wp2_with fail
    go_ret
    obtain ⟨p1, p2⟩ := (HA.out.keep0 (drewN_fr w q)).put HM.out HQ.out v rfl
    rw [← HQ1.out] at p1 p2
    refine ⟨rfl, _, ⟨hb, _, vf, vo, _, rfl, rfl, p1⟩, ?_, fun x hx => .inl hx⟩
    exact ((drewN_fr w q).sub (by simp)).tr (p2.sub (fun x hx => .inl (by rw [List.mem_singleton.1 hx]; simp [fpv, Value.ownBlock])))

end Go.Proofs.Ytgakkkifohkikaa
