/-
  MonitorPlays: one number put into a slice of ints (append, copy, store); the document's Held, plain.
-/
import Derived.Test.YthdmgjkipiaccaaRdL
namespace Go.Proofs.Ythdmgjkipiaccaa
open Go.RowKit

theorem insI_at {l : List Int} {v : Int} {k : Nat} (hk : k ≤ l.length) (hlt : ∀ j, (hj : j < k) → l.getD j 0 < v) (hs : k = l.length ∨ ¬ l.getD k 0 < v) : insI l v = l.take k ++ v :: l.drop k := by
  unfold insI
  have h1 : l.takeWhile (fun u => decide (u < v)) = l.take k ∧ l.dropWhile (fun u => decide (u < v)) = l.drop k := by
    induction l generalizing k with
    | nil => simp
    | cons x r ih =>
      cases k with
      | zero =>
        rcases hs with hs | hs
        · simp at hs
        · have hx : ¬ x < v := by simpa using hs
          rw [List.takeWhile_cons, List.dropWhile_cons]
          simp [hx]
      | succ k =>
        have hx : x < v := by have := hlt 0 (by omega); simpa using this
        obtain ⟨e1, e2⟩ := ih (k := k) (by simpa using hk) (fun j hj => by have := hlt (j + 1) (by omega); simpa using this) (by
          rcases hs with hs | hs
          · left; simpa using hs
          · right; simpa using hs)
        rw [List.takeWhile_cons, List.dropWhile_cons]
        simp [hx, e1, e2]
  rw [h1.1, h1.2]
theorem insI_len (l : List Int) (v : Int) : (insI l v).length = l.length + 1 := by
  unfold insI
  have := congrArg List.length (List.takeWhile_append_dropWhile (p := fun u => decide (u < v)) (l := l))
  rw [List.length_append] at this
  rw [List.length_append, List.length_cons]
  omega
theorem rHeld_nil (t : Int) : rHeld [] t = [] := rfl
theorem rHeld_step {G : List RG} {t : Int} {i : Nat} (hi : i < G.length) : rHeld ((G.take (i + 1)).map RG.x) t = if t < 1 ∨ G[i].x.owner ≠ t then rHeld ((G.take i).map RG.x) t else insI (rHeld ((G.take i).map RG.x) t) G[i].x.at' := by
  rw [← List.take_append_getElem hi]
  unfold rHeld
  rw [List.map_append, List.foldl_append]
  rfl
theorem rHeld_len (R : List RL) (t : Int) : (rHeld R t).length ≤ R.length := by
  have key : ∀ (R : List RL) (l : List Int), (R.foldl (fun l x => if t < 1 ∨ x.owner ≠ t then l else insI l x.at') l).length ≤ l.length + R.length := by
    intro R
    induction R with
    | nil => intro l; simp
    | cons x r ih =>
      intro l
      rw [List.foldl_cons]
      refine Nat.le_trans (ih _) ?_
      split
      · simp
      · rw [insI_len]; simp; omega
  have := key R []
  simpa [rHeld] using this
theorem size_int : (Try.prog.info? 3).map (·.size) = some 1 := by kernel_rfl
/-- copy(l[k+1:], l[k:]) -/
theorem copy_ins {w : World} {b cap n : Nat} {xs : List Int} (h : Sli w (.slice (some ⟨b, 0, none⟩) n cap) xs) (hn : n = xs.length) {k : Nat} (hk : k + 1 ≤ n) (o : Nat) (ho : o = if cap = k + 1 then 0 else k + 1) :
    ∃ W', (∀ ty c c', (Builtin.copy_ #[26, 26] ty #[.slice (some ⟨b, o, none⟩) (n - (k + 1)) c, .slice (some ⟨b, k, none⟩) (n - k) c']).run Try.prog w = .ok (goInt (Nat.min (n - k) (n - (k + 1)))) W') ∧
      Sli W' (.slice (some ⟨b, 0, none⟩) n cap) (xs.take (k + 1) ++ (xs.drop k).take (n - (k + 1))) ∧ Fr [b] w W' := by
  subst hn
  rcases h.parts with ⟨e, _⟩ | ⟨b', cap', cur, e, hh, hl, hc, hs, ht⟩
  · cases e
  · simp only [Value.slice.injEq, Option.some.injEq, Addr.mk.injEq, true_and, and_true] at e
    obtain ⟨rfl, rfl⟩ := e
    have hcl : (((xs.drop k).take (xs.length - (k + 1))).map vi).length = xs.length - (k + 1) := by simp; omega
    have hfit : o + (((xs.drop k).take (xs.length - (k + 1))).map vi).length ≤ cur.size := by
      rw [hcl, ho, hs]
      split <;> omega
    obtain ⟨W', hr, hg, hf, _⟩ := copyK (P := Try.prog) (w := w) 26 26 3 1 b o (xs.length - (k + 1)) ⟨b, k, none⟩ (xs.length - k) cur 3 (((xs.drop k).take (xs.length - (k + 1))).map vi) Try.underlying26 size_int hh
      (by rw [hcl, Nat.mul_one]; show _ = min _ _; omega)
      (fun j u hu => by
        rw [Addr.add_lit, cell_of_row _ _ _ _ _ _ hh]
        have h2 := congrArg (fun l => l[k + j]?) ht
        simp only [List.getElem?_take, Array.getElem?_toList, List.getElem?_map] at h2
        have hj : j < xs.length - (k + 1) := by rw [← hcl]; exact (List.getElem?_eq_some_iff.1 hu).1
        rw [if_pos (by omega)] at h2
        rw [h2]
        rw [List.getElem?_map, List.getElem?_take, if_pos hj, List.getElem?_drop] at hu
        exact hu) hfit (ints_oneCell .i64 _)
    refine ⟨W', hr, ?_, hf⟩
    have hln : (xs.take (k + 1) ++ (xs.drop k).take (xs.length - (k + 1))).length = xs.length := by simp; omega
    have hov : (overw cur.toList o (((xs.drop k).take (xs.length - (k + 1))).map vi)).take (xs.length) = (xs.take (k + 1) ++ (xs.drop k).take (xs.length - (k + 1))).map vi := by
      have hcur : cur.toList.length = cap := by rw [Array.length_toList, hs]
      by_cases hcap : cap = k + 1
      · have hx : xs.length - (k + 1) = 0 := by omega
        rw [hx]
        simp only [List.take_zero, List.map_nil, List.append_nil, overw, List.length_nil, Nat.add_zero, List.take_append_drop]
        rw [ht]
        rw [List.take_of_length_le (by omega)]
      · rw [if_neg hcap] at ho
        subst ho
        unfold overw
        rw [List.append_assoc, List.take_append, List.length_take, hcur, Nat.min_eq_left (by omega), List.take_take, Nat.min_eq_right (by omega), List.map_append]
        congr 1
        · rw [List.map_take, ← ht, List.take_take, Nat.min_eq_left (by omega)]
        · rw [List.take_append, hcl, Nat.sub_self, List.take_zero, List.append_nil, List.take_of_length_le (by rw [hcl]; exact Nat.le_refl _)]
    have hm := SlV.mk (w := W') (e := 3) (b := b) (cap := cap) (cur := (overw cur.toList o (((xs.drop k).take (xs.length - (k + 1))).map vi)).toArray) (xs := (xs.take (k + 1) ++ (xs.drop k).take (xs.length - (k + 1))).map vi) hg (by rw [List.length_map, hln]; exact hl) hc (by rw [List.size_toArray, overw_length (by rw [Array.length_toList]; exact hfit), Array.length_toList, hs]) (by rw [List.length_map, hln]; exact hov)
    rw [List.length_map, hln] at hm
    exact hm
/-- l[k] = v -/
theorem Sli.setAt {w : World} {b cap n : Nat} {xs : List Int} (h : Sli w (.slice (some ⟨b, 0, none⟩) n cap) xs) (hn : n = xs.length) (k : Nat) (v : Int) : Sli (w.setCell ⟨b, k, none⟩ (.int .i64 v)) (.slice (some ⟨b, 0, none⟩) n cap) (xs.set k v) := by
  subst hn
  rcases h.parts with ⟨e, _⟩ | ⟨b', cap', cur, e, hh, hl, hc, hs, ht⟩
  · cases e
  · simp only [Value.slice.injEq, Option.some.injEq, Addr.mk.injEq, true_and, and_true] at e
    obtain ⟨rfl, rfl⟩ := e
    have hh' := heap_setCell_same w b k cur _ (.int .i64 v) hh
    have hm := SlV.mk (w := w.setCell ⟨b, k, none⟩ (.int .i64 v)) (e := 3) (b := b) (cap := cap) (xs := (xs.set k v).map vi) hh' (by simpa using hl) hc (by rw [Array.size_setIfInBounds]; exact hs) (by
      rw [Array.toList_setIfInBounds, List.take_set, List.length_map, List.length_set, ht, List.map_set]
      rfl)
    rw [List.length_map, List.length_set] at hm
    exact hm
theorem ins_list {l : List Int} {v : Int} {k : Nat} (hk : k ≤ l.length) : ((l ++ [0]).take (k + 1) ++ ((l ++ [0]).drop k).take (l.length + 1 - (k + 1))).set k v = l.take k ++ v :: l.drop k := by
  apply List.ext_getElem?
  intro j
  rw [List.getElem?_set]
  by_cases h1 : k = j
  · subst h1
    rw [if_pos rfl, if_pos (by simp; omega), List.getElem?_append_right (by simp; omega)]
    simp
    rw [Nat.min_eq_left hk]
    simp
  · rw [if_neg h1]
    by_cases h2 : j < k
    · rw [List.getElem?_append_left (by simp; omega), List.getElem?_append_left (by simp; omega), List.getElem?_take, List.getElem?_take, if_pos (by omega), if_pos h2, List.getElem?_append_left (by omega)]
    · rw [List.getElem?_append_right (by simp; omega), List.getElem?_append_right (by simp; omega)]
      have hlt : ((l ++ [0]).take (k + 1)).length = k + 1 := by simp; omega
      have hlt2 : (l.take k).length = k := by simp; omega
      rw [hlt, hlt2, show j - k = (j - (k + 1)) + 1 by omega, List.getElem?_cons_succ, List.getElem?_take, List.getElem?_drop, List.getElem?_drop]
      by_cases h3 : j - (k + 1) < l.length + 1 - (k + 1)
      · rw [if_pos h3, List.getElem?_append_left (by omega)]
      · rw [if_neg h3, List.getElem?_eq_none (by omega)]

end Go.Proofs.Ythdmgjkipiaccaa
