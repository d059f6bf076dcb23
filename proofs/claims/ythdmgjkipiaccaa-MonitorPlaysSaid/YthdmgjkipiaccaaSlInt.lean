/-
  The library's slices.Contains, Index, Clone, Delete at []int: what they do to a slice that owns its row.
-/
import Derived.Test.YthdmgjkipiaccaaRows
import Derived.Test.YthdmgjkipiaccaaBase2
import Derived.Test.YthdmgjkipiaccaaShelf
import Derived.Deep.RegionLaw
import Derived.Lib.SliceRun
import Derived.Maps.AppendAt
namespace Go.Proofs.Ythdmgjkipiaccaa
open Go.RowKit

def vi (n : Int) : Value := .int .i64 n
/-- a slice of ints that owns its row -/
def Sli (w : World) (v : Value) (xs : List Int) : Prop := SlV w 3 v (xs.map vi)

theorem info_int : (Try.prog.info? 3).map (fun i => (i.zero, i.size, i.bytes)) = some (some (.int .i64 0), 1, 8) := by kernel_rfl

theorem Sli.nil (w : World) : Sli w (.slice none 0 0) [] := SlV.nil _ _
theorem Sli.keep {S : List Nat} {w w' : World} {v : Value} {xs : List Int} (h : Sli w v xs) (f : Fr S w w') (hn : ∀ b ∈ fpv v, b ∉ S) : Sli w' v xs := SlV.keep h f hn
theorem Sli.keep0 {w w' : World} {v : Value} {xs : List Int} (h : Sli w v xs) (f : Fr [] w w') : Sli w' v xs := SlV.keep h f (by simp)
theorem Sli.form {w : World} {v : Value} {xs : List Int} (h : Sli w v xs) : ∃ a cap, v = .slice a xs.length cap ∧ xs.length ≤ cap ∧ cap ≤ maxLen := by
  obtain ⟨a, cap, e, h1, h2⟩ := SlV.form h
  exact ⟨a, cap, by simpa using e, by simpa using h1, h2⟩
theorem Sli.cell {w : World} {v : Value} {xs : List Int} (h : Sli w v xs) (k : Nat) (hk : k < xs.length) :
    ∃ b cap, v = .slice (some ⟨b, 0, none⟩) xs.length cap ∧ w.cell? ⟨b, k, none⟩ = some (.int .i64 (xs.getD k 0)) ∧ w.frozen? ⟨b, k, none⟩ = false := by
  obtain ⟨b, cap, e, h1, h2⟩ := SlV.cell h k (by simpa using hk)
  refine ⟨b, cap, by simpa using e, ?_, h2⟩
  rw [h1]; simp [List.getD, hk, vi]
theorem Sli.parts {w : World} {v : Value} {xs : List Int} (h : Sli w v xs) :
    (v = .slice none 0 0 ∧ xs = []) ∨ ∃ b cap cur, v = .slice (some ⟨b, 0, none⟩) xs.length cap ∧ w.heap[b]? = some (.cells cur 3 (0, 0)) ∧ xs.length ≤ cap ∧ cap ≤ maxLen ∧ cur.size = cap ∧ cur.toList.take xs.length = xs.map vi := by
  rcases SlV.parts h with ⟨e, h1⟩ | ⟨b, cap, cur, e, h1, h2, h3, h4, h5⟩
  · exact .inl ⟨e, by simpa using h1⟩
  · simp only [List.length_map] at e h2 h5
    exact .inr ⟨b, cap, cur, e, h1, h2, h3, h4, h5⟩

def IdxPost (w : World) (xs : List Int) (x : Int) (e : Ending) (w' : World) : Prop := (∃ r : Int, e = .returned (.int .i64 r) ∧ (decide (0 ≤ r)) = xs.contains x) ∧ w = w'

set_option maxHeartbeats 400000 in
theorem index_any (w : World) (v : Value) (xs : List Int) (x : Int) (h : Sli w v xs) :
    Calls Try.prog 43 #[v, .int .i64 x] w (IdxPost w xs x) := by
  obtain ⟨a, cap, rfl, hl, hm⟩ := h.form
  unfold maxLen at hm
  have H := hid h
  clear h
  go_enter Try.func43, Try.ntmps43
  go_wp2
  go_loop [8] (fun i => ∃ k : Nat, k ≤ xs.length ∧ i = .int .i64 k ∧ Hid (∀ j, j < k → xs.getD j 0 ≠ x)) (fun i => xs.length - (intOf i).toNat)
  case atStart => exact ⟨0, Nat.zero_le _, rfl, fun j hj => by omega⟩
  case round =>
    obtain ⟨k, hk, rfl, hno⟩ := hrel
    by_cases hlt : k < xs.length
    · obtain ⟨b, cap', e, hcell, _⟩ := H.out.cell k hlt
      cases e
      by_cases hx : x = xs.getD k 0
      · have hb : (x == xs.getD k 0) = true := by simpa using hx
        have HX := hid hx
        have HM := hid (show xs.contains x = true by
          rw [List.contains_iff_mem, hx, List.getD, List.getElem?_eq_getElem hlt]; exact List.getElem_mem hlt)
        clear hx
        generalize xs.getD k 0 = y at *
        go_wp2
        go_ret
        exact ⟨⟨k, rfl, by rw [HM.out]; simp⟩, rfl⟩
      · have hb : (x == xs.getD k 0) = false := by simpa using hx
        have HX := hid hx
        clear hx
        have hno' := hno.out
        generalize hy : xs.getD k 0 = y at *
        have HY := hid hy
        clear hy hno'
        go_wp2
        go_round
        case rel => exact ⟨k + 1, by omega, by go_num, fun j hj => by
          by_cases e : j = k
          · subst e; rw [HY.out]; exact fun h => HX.out h.symm
          · exact hno.out j (by omega)⟩
        case measure => simp [intOf]; omega
    · obtain rfl : k = xs.length := by omega
      have HM := hid (show xs.contains x = false by
        rw [Bool.eq_false_iff]; intro hc
        rw [List.contains_iff_mem] at hc
        obtain ⟨j, hj, he⟩ := List.getElem_of_mem hc
        exact hno.out j hj (by rw [List.getD, List.getElem?_eq_getElem hj]; exact he))
      go_wp2
      go_ret
      exact ⟨⟨-1, rfl, by rw [HM.out]; rfl⟩, rfl⟩

set_option maxHeartbeats 400000 in
theorem contains_any (w : World) (v : Value) (xs : List Int) (x : Int) (h : Sli w v xs) :
    Calls Try.prog 39 #[v, .int .i64 x] w fun e w' => e = .returned (.bool (xs.contains x)) ∧ w = w' := by
  have H := hid (index_any w v xs x h)
  clear h
  generalize hcx : xs.contains x = c
  have HCX := hid hcx
  clear hcx
  go_enter Try.func39, Try.ntmps39
  go_wp2_with fail
  refine H.out.mono ?_
  rintro e w' ⟨⟨r, rfl, hr⟩, rfl⟩
  rw [HCX.out] at hr
  cases c with
  | true =>
    have h0 : 0 ≤ r := by simpa using hr
    clear hr
    go_wp2_with fail
    go_ret
    exact ⟨rfl, rfl⟩
  | false =>
    have h0 : r < 0 := by simpa using hr
    have h00 : decide (0 ≤ r) = false := by simpa using hr
    clear hr
    go_wp2_with fail
    go_ret
    exact ⟨rfl, rfl⟩

/-! ### Clone, Delete: the shelf's contracts, of slices that own their rows -/
theorem belowFr {w w' : World} (h : Below w.heap.size w w') : Fr [] w w' :=
  ⟨h.os, h.tape, h.output, h.size, fun k hk _ => h.block k hk⟩

def ClonePost (w : World) (xs : List Int) (e : Ending) (w' : World) : Prop := ∃ v', e = .returned v' ∧ Sli w' v' xs ∧ Fr [] w w' ∧ ∀ b ∈ fpv v', w.heap.size ≤ b
theorem clone_any (w : World) (v : Value) (xs : List Int) (h : Sli w v xs) (hb : xs.length ≤ 1000000) :
    Calls Try.prog 29 #[v] w (ClonePost w xs) := by
  rcases h.parts with ⟨rfl, rfl⟩ | ⟨b, cap, cur, rfl, hh, hl, hm, hs, ht⟩
  · refine (Try.slices_Clone_int_nil 0 0 w).mono ?_
    rintro e w' ⟨rfl, rfl⟩
    exact ⟨_, rfl, Sli.nil _, Fr.refl _ _, by simp [fpv, Value.ownBlock]⟩
  · refine (Try.slices_Clone_int b 0 xs.length cap xs w (Nat.le_refl _) (by omega) (fun j hj => ?_)).mono ?_
    · obtain ⟨b', cap', e, h1, _⟩ := h.cell j hj
      cases e
      rw [Nat.zero_add]; exact h1
    · rintro e w' ⟨v', rfl, hown, _, hbel⟩
      rw [List.take_length] at hown
      have hs1 : Sli w' v' xs := ⟨by simp, by
        rcases hown.2 with h2 | ⟨b', cap', cur', e1, _, h3, h4, h5, h6, h7⟩
        · exact .inl (by simpa using h2)
        · exact .inr ⟨b', cap', cur', by simpa using e1, Nat.zero_le _, h3, by simpa using h4, h5, by simpa using h6, by rw [List.length_map, h7]; rfl⟩⟩
      refine ⟨v', rfl, hs1, belowFr hbel, fun b' hb' => ?_⟩
      rw [mem_fpv] at hb'
      rcases hown.2 with ⟨rfl, _⟩ | ⟨b'', cap', cur', rfl, h2, _⟩
      · cases hb'
      · cases hb'; exact h2

def DelPost (w : World) (v : Value) (xs : List Int) (e : Ending) (w' : World) : Prop := ∃ v', e = .returned v' ∧ Sli w' v' xs ∧ Fr (fpv v) w w' ∧ fpv v' = fpv v ∧ w'.heap.size = w.heap.size
theorem delete_any (w : World) (v : Value) (xs : List Int) (i j : Nat) (h : Sli w v xs) (hij : i < j) (hj : j ≤ xs.length) :
    Calls Try.prog 30 #[v, .int .i64 i, .int .i64 j] w (DelPost w v (xs.take i ++ xs.drop j)) := by
  rcases h.parts with ⟨rfl, rfl⟩ | ⟨b, cap, cur, rfl, hh, hl, hm, hs, ht⟩
  · simp at hj; omega
  · have hf : w.frozen? ⟨b, 0, none⟩ = false := frozen_of_row _ _ _ _ _ hh
    refine (Try.slices_Delete_int_cells b 0 xs.length cap i j xs w (Nat.le_refl _) hl (by unfold maxLen at hm; omega) (by omega) hj (fun k hk => ?_) (fun k hk => ?_)).mono ?_
    · obtain ⟨b', cap', e, h1, _⟩ := h.cell k hk
      cases e
      rw [Nat.zero_add]; exact h1
    · exact frozen_of_row _ _ _ _ _ hh
    · rintro e w' ⟨rfl, q, rfl⟩
      rw [List.take_length]
      generalize hz : (xs.take i ++ xs.drop j ++ List.replicate (j - i) 0).map (Value.int .i64) = zs
      have hzl : zs.length = xs.length := by rw [← hz]; simp; omega
      have hh1 : (w.drewN q).heap[b]? = some (.cells cur 3 (0, 0)) := hh
      have hh2 := heap_setCells zs 0 cur (w.drewN q) hh1 (by omega)
      have hsz : cur.toList.length = cap := by rw [Array.length_toList, hs]
      have hlen : (xs.take i ++ xs.drop j).length = xs.length - (j - i) := by simp; omega
      refine ⟨_, rfl, ?_, ?_, rfl, ?_⟩
      · have := SlV.mk (xs := (xs.take i ++ xs.drop j).map vi) hh2 (cap := cap) (by simp; omega) hm (by rw [List.size_toArray, overw_length (by omega), hsz]) (by
          simp only [overw, List.take_zero, List.nil_append, Nat.zero_add, List.length_map]
          rw [List.take_append_of_le_length (by rw [hlen, hzl]; omega), ← hz, List.map_append, List.take_left' (by rw [List.length_map])]
          rfl)
        rw [List.length_map, hlen] at this
        exact this
      · refine setCells_fr (by simp [fpv, Value.ownBlock]) _ _ _ _ ⟨rfl, rfl, rfl, Nat.le_refl _, fun _ _ _ => rfl⟩
      · rw [setCells_size]; rfl

/-! ### append of one int -/
theorem wpList_append_sli {w : World} {ops : Array Oper} {rest : List Oper} {o : Oper} {a : Act} {Q : Exit → Act → World → Prop} (hgd : o.guard = none) (s x : Operand)
    (ho : o.op = .call { callee := .builtin .append, args := #[s, x], argTypes := #[26, 26] })
    (v : Value) (xs : List Int) (hs : a.eval s = v) (hown : Sli w v xs) (ad : Addr) (y : Int) (hx : a.eval x = .slice (some ad) 1 1) (hnew : w.cell? ad = some (.int .i64 y)) (hlen : xs.length ≤ 1000000)
    (h : ∀ v' w', Sli w' v' (xs ++ [y]) → Fr (fpv v) w w' → (∀ b ∈ fpv v', b ∈ fpv v ∨ w.heap.size ≤ b) → wpList Try.prog ops Q rest (a.put o.dst v') w') :
    wpList Try.prog ops Q (o :: rest) a w := by
  obtain ⟨i0, hi, hz0, hz1, hz2⟩ := info_parts info_int
  refine wpList_append_own_at _ hgd s x 26 ho 0 3 i0 (.int .i64 0) 1 8 Try.underlying26 hi hz0 hz1 hz2 rfl (by decide) v _ _ hs hown ad 1 1 [.int .i64 y] hx rfl ?_ (ints_oneCell .i64 [y]) (by unfold maxLen; simp; omega) (by simp; omega) (by omega) ?_
  · intro j u hu
    cases j with
    | zero =>
      simp only [List.getElem?_cons_zero, Option.some.injEq] at hu
      subst hu
      exact hnew
    | succ j => simp at hu
  · intro v' w' h1 h2 _ h4
    refine h v' w' ?_ (grownFr h2) (fun b hb => ?_)
    · have e : (xs.map vi).length + 1 = ((xs ++ [y]).map vi).length := by simp
      unfold Sli SlV
      rw [← e, List.map_append]
      exact h1
    · rw [mem_fpv] at hb
      rcases h4 with h4 | h4
      · exact .inl (mem_fpv.2 (by rw [← h4]; exact hb))
      · right; rw [h4] at hb; cases hb; exact Nat.le_refl _

end Go.Proofs.Ythdmgjkipiaccaa
