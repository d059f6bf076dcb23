/-
  The document's watch: New; loomlaw17.same; both watches beside each other.
-/
import Derived.Test.YtjkakhjajfpldaaRaceZ
namespace Go.Proofs.Ytjkakhjajfpldaa
open Go.RowKit

def zW : Array Value := (List.replicate 338 (vi 0) ++ (List.replicate 13 (Value.bool false) ++ [Value.slice none 0 0, Value.slice none 0 0, vi 0])).toArray
/-- k threads have their number -/
def nowK (k : Nat) : List (List Int) := (List.range 13).map fun t => if 1 ≤ t ∧ t < k then unit13 t else z13
def rK (k : Nat) : RSt := ⟨nowK k, List.replicate 13 z13, List.replicate 13 false, [], [], 0⟩
theorem nowK_get (k t : Nat) (ht : t < 13) : (nowK k).getD t [] = if 1 ≤ t ∧ t < k then unit13 t else z13 := by
  unfold nowK
  rw [List.getD, List.getElem?_map, List.getElem?_range ht]; rfl
theorem nowK_succ {k : Nat} (h1 : 1 ≤ k) (hk : k < 13) : (nowK k).set k (((nowK k).getD k []).set k 1) = nowK (k + 1) := by
  have h2 : (nowK k).getD k [] = z13 := by rw [nowK_get k k hk, if_neg (by omega)]
  rw [h2]
  refine List.ext_getElem (by simp [nowK]) (fun i hi1 hi2 => ?_)
  have hi : i < 13 := by simpa [nowK] using hi2
  rw [List.getElem_set]
  have h3 := nowK_get (k + 1) i hi
  rw [List.getD, List.getElem?_eq_getElem hi2] at h3
  have h4 := nowK_get k i hi
  rw [List.getD, List.getElem?_eq_getElem (by simpa using hi1)] at h4
  simp only [Option.getD_some] at h3 h4
  rw [h3]
  by_cases e : k = i
  · subst e
    rw [if_pos rfl, if_pos ⟨h1, by omega⟩]; rfl
  · rw [if_neg e, h4]
    by_cases hh : 1 ≤ i ∧ i < k
    · rw [if_pos hh, if_pos ⟨hh.1, by omega⟩]
    · rw [if_neg hh, if_neg (by omega)]
theorem nowK_done : rK 13 = RSt.new := by
  have e : nowK 13 = z13 :: (List.range 12).map (fun i => unit13 (i + 1)) := by decide +kernel
  unfold rK RSt.new
  rw [e]
theorem z13_get (i : Nat) : z13.getD i 0 = 0 := by
  unfold z13
  rw [List.getD, List.getElem?_replicate]; split <;> rfl
theorem zW_lo (j : Nat) (h : j < 338) : zW[j]? = some (vi 0) := by
  unfold zW
  rw [List.getElem?_toArray, List.getElem?_append_left (by rw [List.length_replicate]; exact h), List.getElem?_replicate, if_pos h]
theorem zW_mid (j : Nat) (h : j < 13) : zW[338 + j]? = some (.bool false) := by
  unfold zW
  rw [List.getElem?_toArray, List.getElem?_append_right (by rw [List.length_replicate]; omega), List.length_replicate, Nat.add_sub_cancel_left, List.getElem?_append_left (by rw [List.length_replicate]; exact h), List.getElem?_replicate, if_pos h]
theorem zW_hi (j : Nat) : zW[338 + (13 + j)]? = [Value.slice none 0 0, Value.slice none 0 0, vi 0][j]? := by
  unfold zW
  rw [List.getElem?_toArray, List.getElem?_append_right (by rw [List.length_replicate]; omega), List.length_replicate, Nat.add_sub_cancel_left, List.getElem?_append_right (by rw [List.length_replicate]; omega), List.length_replicate, Nat.add_sub_cancel_left]
theorem rK_zero (t : Nat) (ht : t < 13) : (rK 1).now.getD t [] = z13 := by
  show (nowK 1).getD t [] = z13
  rw [nowK_get 1 t ht, if_neg (by omega)]
theorem rep_get13 (t : Nat) (ht : t < 13) : (List.replicate 13 z13).getD t [] = z13 := by
  rw [List.getD, List.getElem?_replicate, if_pos ht]; rfl
theorem zW_rc : RC zW (rK 1) (.slice none 0 0) (.slice none 0 0) := by
  refine ⟨by unfold zW; rw [List.size_toArray, List.length_append, List.length_append, List.length_replicate, List.length_replicate]; rfl, fun t i ht hi => ?_, fun t i ht hi => ?_, fun t ht => ?_, ?_, ?_, ?_⟩
  · rw [rK_zero t ht, z13_get, zW_lo _ (by omega)]
  · show _ = some (vi (((List.replicate 13 z13).getD t []).getD i 0))
    rw [rep_get13 t ht, z13_get, zW_lo _ (by omega)]
  · rw [zW_mid t ht]
    show _ = some (Value.bool ((List.replicate 13 false).getD t false))
    rw [List.getD, List.getElem?_replicate, if_pos ht]; rfl
  · exact zW_hi 0
  · exact zW_hi 1
  · exact zW_hi 2
theorem rK_len (k : Nat) : RLen (rK k) := by
  refine ⟨by simp [rK, nowK], fun t ht => ?_, by simp [rK], fun t ht => ?_, by simp [rK], by simp [rK], by simp [rK]⟩
  · show ((nowK k).getD t []).length = 13
    rw [nowK_get k t ht]; split <;> simp [unit13, z13]
  · show ((List.replicate 13 z13).getD t []).length = 13
    rw [rep_get13 t ht]; simp [z13]
structure NwW (w wr : World) (k : Nat) : Prop where
  ref : ∃ C, RefT wr w.heap.size (.slice none 0 0) (.slice none 0 0) C (rK k)
  fr : Fr [] w wr
theorem NwW.step {w wr : World} {k : Nat} (h : NwW w wr k) (h1 : 1 ≤ k) (hk : k < 13) : NwW w (wr.setCell ⟨w.heap.size, k * 13 + k, none⟩ (.int .i64 1)) (k + 1) := by
  obtain ⟨C, hc⟩ := h.ref
  have h2 := hc.setOne hk hk 1
  have e : ({ rK k with now := (rK k).now.set k (((rK k).now.getD k []).set k 1) } : RSt) = rK (k + 1) := by
    show (⟨(nowK k).set k (((nowK k).getD k []).set k 1), _, _, _, _, _⟩ : RSt) = _
    rw [nowK_succ h1 hk]; rfl
  rw [e] at h2
  exact ⟨⟨_, h2⟩, h.fr.setCell (.inr (Nat.le_refl _)) _⟩

def NewPost (w : World) (e : Ending) (w' : World) : Prop := ∃ rb F, e = .returned (.pointer (some ⟨rb, 0, none⟩)) ∧ Ref w' rb F RSt.new ∧ (∀ x ∈ F, w.heap.size ≤ x) ∧ Fr [] w w'
set_option maxRecDepth 20000 in
set_option maxHeartbeats 1000000 in
theorem rnew_any (w : World) : Calls Try.prog 22 #[] w (NewPost w) := by
  go_enter Try.func22, Try.ntmps22
  go_upto_region 1 with (fail)
  refine wp_region_lit (wpList_plain rfl fun K hK => ?_)
  refine Eq.mpr (congrArg (Oper.upon _ _ _ _ _) (show _ = Result.ok (.value (.agg zW)) w by kernel_rfl)) ?_
  rw [Oper.upon_value]
  refine hK _ _ ?_
  clear hK K
  have HR0 := hid (show NwW w (w.alloc (.cells zW 51)) 1 from ⟨⟨zW, heap_alloc_new w _, zW_rc, RV.nil _ _ _, RV.nil _ _ _, rK_len 1, by simp [fpv, Value.ownBlock]⟩, (Fr.refl _ _).alloc _⟩)
  generalize zW = zw at HR0 ⊢
  try simp only [Act.put, List.setIfInBounds_toArray, List.set_cons_zero, List.set_cons_succ]
  go_wp2_with fail
  obtain ⟨g, hg⟩ : ∃ g, g = w.heap.size := ⟨_, rfl⟩
  have HG := hid hg
  generalize w.alloc (.cells zw 51) = w1 at HR0 ⊢
  rw [← hg]
  clear hg
  go_loopw [2] (fun i wr => ∃ k : Nat, i = .int .i64 k ∧ 1 ≤ k ∧ k ≤ 13 ∧ Hid (NwW w wr k)) (fun i _ => 13 - (intOf i).toNat)
  case atStart => exact ⟨1, rfl, by omega, by omega, HR0⟩
  case round =>
    obtain ⟨k, rfl, hk1, hk, hr⟩ := hrel
    have HR := hid hr.out
    clear hr HR0
    by_cases hlt : k < 13
    · have hlt2 : (k : Int) ≤ 12 := by omega
      have hlt3 : (k : Int) < 13 := by omega
      have hk0 : (0 : Int) ≤ k := by omega
      obtain ⟨C, hC⟩ := HR.out.ref
      have c0 := hC.nowCell hlt hlt
      have f0 := hC.free (k * 13 + k)
      rw [← HG.out] at c0 f0
      have HS := hid (HR.out.step hk1 hlt)
      rw [← HG.out] at HS
      clear hC hlt
      go_wp2_with fail
      go_roundw
      case rel => exact ⟨k + 1, by go_num, by omega, by omega, HS⟩
      case measure => simp [intOf]; omega
    · obtain rfl : k = 13 := by omega
      have hlt2 : ¬ ((13 : Nat) : Int) ≤ 12 := by omega
      go_wp2_with fail
      go_ret
      obtain ⟨C, hC⟩ := HR.out.ref
      rw [nowK_done] at hC
      refine ⟨g, g :: (fpv (.slice none 0 0) ++ fpv (.slice none 0 0)), rfl, ⟨.slice none 0 0, .slice none 0 0, C, rfl, by rw [HG.out]; exact hC⟩, fun x hx => ?_, HR.out.fr⟩
      simp [fpv, Value.ownBlock] at hx
      rw [hx, HG.out]; exact Nat.le_refl _

/-! ### same -/
set_option maxHeartbeats 1000000 in
theorem same_any {w : World} {v : Value} {c : List Int} (h : Clk w v c) (hc : c.length = 13) : Calls Try.prog 29 #[v, clkV c] w fun e w' => e = .returned (.bool true) ∧ Fr [] w w' := by
  obtain ⟨a, cap, hv, _⟩ := h.form
  have H := hid h
  have HC := hid hc
  rw [hc] at hv
  subst hv
  unfold clkV
  obtain ⟨cb, hcb⟩ : ∃ cb, cb = (c.map vi).toArray := ⟨_, rfl⟩
  rw [← hcb]
  have HCB := hid hcb
  clear hcb h hc
  go_enter Try.func29, Try.ntmps29
  go_upto_region 1 with (fail)
  have HW := hid (show (w.alloc (.cells cb 45)).heap[w.heap.size]? = some (.cells (c.map vi).toArray 45 (0, 0)) ∧ Fr [] w (w.alloc (.cells cb 45)) from ⟨by rw [← HCB.out]; exact heap_alloc_new w _, (Fr.refl _ _).alloc _⟩)
  generalize w.alloc (.cells cb 45) = w1 at HW ⊢
  obtain ⟨g, hg⟩ : ∃ g, g = w.heap.size := ⟨_, rfl⟩
  rw [← hg] at HW ⊢
  clear hg
  go_wp2_with fail
  go_loopw [5] (fun i wr => ∃ k : Nat, i = .int .i64 k ∧ k ≤ 13 ∧ Hid (Fr [] w1 wr)) (fun i _ => 13 - (intOf i).toNat)
  case atStart => exact ⟨0, rfl, by omega, hid (Fr.refl _ _)⟩
  case round =>
    obtain ⟨k, rfl, hk, hr⟩ := hrel
    have HF := hid hr.out
    have HF2 := hid (HW.out.2.tr hr.out)
    clear hr
    by_cases hlt : k < 13
    · have hlt2 : (k : Int) < 13 := by omega
      have hk0 : (0 : Int) ≤ k := by omega
      have c1 := clk_cell (HF.out.obj HW.out.1 (by simp)) (i := k) (by rw [HC.out]; exact hlt)
      obtain ⟨b, o, cap', e, c0⟩ := (H.out.keep0 HF2.out).cell k (by rw [HC.out]; exact hlt)
      injection e with e1 e2 e3
      subst e1
      clear e2 e3
      generalize c.getD k 0 = x at c0 c1
      clear hlt
      go_wp2_with fail
      go_region
      all_goals
        go_wp2_with fail
        exact ⟨⟨k + 1, by go_num, by omega, hid HF.out.drew⟩, by simp [intOf]; omega⟩
    · obtain rfl : k = 13 := by omega
      have hlt2 : ¬ ((13 : Nat) : Int) < 13 := by omega
      go_wp2_with fail
      go_ret
      exact ⟨rfl, HF2.out⟩

end Go.Proofs.Ytjkakhjajfpldaa
