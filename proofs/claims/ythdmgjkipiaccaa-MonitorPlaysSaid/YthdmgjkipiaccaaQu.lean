/-
  A slice of ints that may begin anywhere in its row: what is read, appended, cut off in front.
-/
import Derived.Test.YthdmgjkipiaccaaSlInt
import Derived.ArgAppend
namespace Go.Proofs.Ythdmgjkipiaccaa
open Go.RowKit

/-- the block that a slice lies in -/
def bq (v : Value) : List Nat := match v with | .slice (some a) _ _ => [a.block] | _ => []
def Qu (w : World) (v : Value) (xs : List Int) : Prop :=
  ∃ (a : Option Addr) (cap : Nat), v = .slice a xs.length cap ∧ xs.length ≤ cap ∧ cap ≤ maxLen ∧
    ((a = none ∧ cap = 0) ∨ ∃ b off cur, a = some ⟨b, off, none⟩ ∧ w.heap[b]? = some (.cells cur 3 (0, 0)) ∧ off + cap ≤ cur.size ∧ ∀ j, j < xs.length → cur[off + j]? = some (vi (xs.getD j 0)))

theorem Qu.nil (w : World) : Qu w (.slice none 0 0) [] := ⟨none, 0, rfl, by simp, by unfold maxLen; omega, .inl ⟨rfl, rfl⟩⟩
theorem Qu.keep {S : List Nat} {w w' : World} {v : Value} {xs : List Int} (h : Qu w v xs) (f : Fr S w w') (hn : ∀ b ∈ bq v, b ∉ S) : Qu w' v xs := by
  obtain ⟨a, cap, rfl, h1, h2, h3⟩ := h
  refine ⟨a, cap, rfl, h1, h2, ?_⟩
  rcases h3 with h3 | ⟨b, off, cur, rfl, h4, h5, h6⟩
  · exact .inl h3
  · exact .inr ⟨b, off, cur, rfl, f.obj h4 (hn b (by simp [bq])), h5, h6⟩
theorem Qu.keep0 {w w' : World} {v : Value} {xs : List Int} (h : Qu w v xs) (f : Fr [] w w') : Qu w' v xs := h.keep f (by simp)
theorem Qu.lt {w : World} {v : Value} {xs : List Int} (h : Qu w v xs) : ∀ b ∈ bq v, b < w.heap.size := by
  obtain ⟨a, cap, rfl, h1, h2, h3⟩ := h
  rcases h3 with ⟨rfl, _⟩ | ⟨b, off, cur, rfl, h4, h5, h6⟩
  · simp [bq]
  · intro b' hb
    simp only [bq, List.mem_singleton] at hb
    subst hb
    exact lt_of_block h4
theorem Qu.form {w : World} {v : Value} {xs : List Int} (h : Qu w v xs) : ∃ a cap, v = .slice a xs.length cap ∧ xs.length ≤ cap ∧ cap ≤ maxLen := by
  obtain ⟨a, cap, rfl, h1, h2, h3⟩ := h
  exact ⟨a, cap, rfl, h1, h2⟩
theorem Qu.cell {w : World} {v : Value} {xs : List Int} (h : Qu w v xs) (k : Nat) (hk : k < xs.length) :
    ∃ b off cap, v = .slice (some ⟨b, off, none⟩) xs.length cap ∧ w.cell? ⟨b, off + k, none⟩ = some (.int .i64 (xs.getD k 0)) := by
  obtain ⟨a, cap, rfl, h1, h2, h3⟩ := h
  rcases h3 with ⟨rfl, h3⟩ | ⟨b, off, cur, rfl, h4, h5, h6⟩
  · omega
  · exact ⟨b, off, cap, rfl, by rw [cell_of_row _ _ _ _ _ _ h4]; exact h6 k hk⟩
theorem Qu.ofSli {w : World} {v : Value} {xs : List Int} (h : Sli w v xs) : Qu w v xs ∧ ∀ b ∈ bq v, b ∈ fpv v := by
  rcases h.parts with ⟨rfl, rfl⟩ | ⟨b, cap, cur, rfl, hh, hl, hm, hs, ht⟩
  · exact ⟨Qu.nil w, by simp [bq]⟩
  · refine ⟨⟨_, cap, rfl, hl, hm, .inr ⟨b, 0, cur, rfl, hh, by omega, fun j hj => ?_⟩⟩, by simp [bq, fpv, Value.ownBlock]⟩
    have e1 := congrArg (fun l => l[j]?) ht
    simp only [List.getElem?_take, if_pos hj, Array.getElem?_toList] at e1
    rw [Nat.zero_add, e1]
    simp [List.getD, hj]

/-- q[1:] -/
theorem Qu.tail {w : World} {b off cap : Nat} {x : Int} {r : List Int} (h : Qu w (.slice (some ⟨b, off, none⟩) (r.length + 1) cap) (x :: r)) (a : Addr) (ha : a = if cap = 1 then ⟨b, off, none⟩ else ⟨b, off + 1, none⟩) : Qu w (.slice (some a) r.length (cap - 1)) r ∧ bq (.slice (some a) r.length (cap - 1)) = [b] := by
  obtain ⟨a', cap', e, h1, h2, h3⟩ := h
  simp only [List.length_cons, Value.slice.injEq] at e
  obtain ⟨rfl, _, rfl⟩ := e
  rcases h3 with ⟨e, _⟩ | ⟨b', off', cur, e, h4, h5, h6⟩
  · cases e
  · cases e
    simp only [List.length_cons] at h1 h6
    by_cases hc : cap = 1
    · rw [if_pos hc] at ha
      subst ha
      obtain rfl : r = [] := by cases r with | nil => rfl | cons y r => simp at h1; omega
      exact ⟨⟨_, cap - 1, rfl, by simp, by omega, .inr ⟨b, off, cur, rfl, h4, by omega, fun j hj => by simp at hj⟩⟩, by simp [bq]⟩
    · rw [if_neg hc] at ha
      subst ha
      refine ⟨⟨_, cap - 1, rfl, by omega, by omega, .inr ⟨b, off + 1, cur, rfl, h4, by omega, fun j hj => ?_⟩⟩, by simp [bq]⟩
      have := h6 (j + 1) (by omega)
      rw [show off + 1 + j = off + (j + 1) by omega, this]
      simp [List.getD]

theorem wpList_append_qu {w : World} {ops : Array Oper} {rest : List Oper} {o : Oper} {a : Act} {Q : Exit → Act → World → Prop} (hgd : o.guard = none) (s x : Operand)
    (ho : o.op = .call { callee := .builtin .append, args := #[s, x], argTypes := #[26, 26] })
    (v : Value) (xs : List Int) (hs : a.eval s = v) (hown : Qu w v xs) (ad : Addr) (y : Int) (hx : a.eval x = .slice (some ad) 1 1) (hnew : w.cell? ad = some (.int .i64 y)) (hlen : xs.length ≤ 1000000)
    (h : ∀ v' w', Qu w' v' (xs ++ [y]) → Fr (bq v) w w' → (∀ b ∈ bq v', b ∈ bq v ∨ w.heap.size ≤ b) → wpList Try.prog ops Q rest (a.put o.dst v') w') :
    wpList Try.prog ops Q (o :: rest) a w := by
  have hown0 := hown
  obtain ⟨a0, cap, rfl, h1, h2, h3⟩ := hown
  rcases h3 with ⟨rfl, rfl⟩ | ⟨b, off, cur, rfl, h4, h5, h6⟩
  · obtain rfl : xs = [] := List.length_eq_zero_iff.1 (by omega)
    refine wpList_append_sli hgd s x ho _ [] hs (Sli.nil w) ad y hx hnew (by simp) (fun v' w' k1 k2 k3 => ?_)
    obtain ⟨q1, q2⟩ := Qu.ofSli k1
    exact h v' w' q1 (by simpa [fpv, Value.ownBlock, bq] using k2) (fun b hb => by
      rcases k3 b (q2 b hb) with k | k
      · simp [fpv, Value.ownBlock] at k
      · exact .inr k)
  · obtain ⟨i0, hi, hz0, hz1, hz2⟩ := info_parts info_int
    have hfz : ∀ k, w.frozen? ⟨b, k, none⟩ = false := fun k => frozen_of_row _ _ _ _ _ h4
    refine wpList_append_arg w hgd s x 26 ho 3 i0 (.int .i64 0) 1 8 Try.underlying26 hi hz0 hz1 hz2 rfl (by decide) b off xs.length cap (xs.map vi) hs (by simp) ?_ ad 1 1 [.int .i64 y] hx rfl ?_ (ints_oneCell .i64 [y]) ?_ (by unfold maxLen; omega) (by omega) ?_ ?_
    · intro j u hu
      obtain ⟨hj, rfl⟩ := List.getElem?_eq_some_iff.1 hu
      simp only [List.length_map] at hj
      rw [cell_of_row _ _ _ _ _ _ h4, h6 j hj]
      simp [List.getD, hj]
    · intro j u hu
      cases j with
      | zero =>
        simp only [List.getElem?_cons_zero, Option.some.injEq] at hu
        subst hu
        exact hnew
      | succ j => simp at hu
    · intro hr j hj
      simp only [List.length_singleton] at hj
      obtain rfl : j = 0 := by omega
      refine ⟨?_, hfz _⟩
      rw [cell_of_row _ _ _ _ _ _ h4, Array.getElem?_eq_getElem (by omega)]; rfl
    · intro hr
      have hh : ((w.setCells b (off + xs.length * 1) [.int .i64 y])).heap[b]? = some (.cells (cur.setIfInBounds (off + xs.length) (.int .i64 y)) 3 (0, 0)) := by
        rw [Nat.mul_one]
        exact heap_setCell_same _ _ _ _ _ _ h4
      refine h _ _ ⟨_, cap, by simp, by simpa using hr, h2, .inr ⟨b, off, _, rfl, hh, by simpa using h5, fun j hj => ?_⟩⟩ ?_ (fun b' hb => .inl hb)
      · simp only [List.length_append, List.length_singleton] at hj
        by_cases hjn : j = xs.length
        · subst hjn
          rw [Array.getElem?_setIfInBounds_self_of_lt (by omega)]
          simp [List.getD, vi]
        · rw [Array.getElem?_setIfInBounds_ne (by omega), h6 j (by omega)]
          simp [List.getD, List.getElem?_append_left (show j < xs.length by omega)]
      · exact setCells_fr (by simp [bq]) _ _ _ _ (Fr.refl _ _)
    · intro hg v' w' k1 k2
      have hs1 : Sli w' v' (xs ++ [y]) := ⟨by simp, by
        rcases k1.2 with h2 | ⟨b', cap', cur', e1, _, h3, h4, h5, h6, h7⟩
        · exact .inl ⟨h2.1, by simpa using h2.2⟩
        · exact .inr ⟨b', cap', cur', by simpa using e1, Nat.zero_le _, h3, by simpa using h4, h5, by simpa using h6, by rw [List.length_map, List.length_append, List.length_singleton, List.map_append]; exact h7⟩⟩
      obtain ⟨q1, q2⟩ := Qu.ofSli hs1
      refine h v' w' q1 ((grownFr k2).sub (by simp)) (fun b' hb => .inr ?_)
      have hb' := q2 b' hb
      rw [mem_fpv] at hb'
      rcases k1.2 with ⟨rfl, _⟩ | ⟨b'', cap', cur', rfl, k, _⟩
      · cases hb'
      · cases hb'; exact k

end Go.Proofs.Ythdmgjkipiaccaa
