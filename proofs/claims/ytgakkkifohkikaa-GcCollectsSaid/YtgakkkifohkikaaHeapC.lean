/-
  Package heap: New, Size, All, Free; loomhelp.Blocks.
-/
import Derived.Test.YtgakkkifohkikaaHeapB
import Derived.Laws.NewBlocks
import Derived.Laws.OwnMore
namespace Go.Proofs.Ytgakkkifohkikaa
open Go.RowKit

theorem info_u64 : (Try.prog.info? 45).map (fun i => (i.zero, i.size, i.bytes)) = some (some (.int .u64 0), 1, 8) := by kernel_rfl
def sizeN (words : Int) : Nat := (min (max words 0) 2048).toNat
def NewPost (w : World) (n : Nat) (e : Ending) (w' : World) : Prop := ∃ p F, e = .returned p ∧ Ar w' p F n [] ∧ Fr [] w w' ∧ ∀ x ∈ F, w.heap.size ≤ x
set_option maxHeartbeats 1000000 in
set_option maxRecDepth 20000 in
theorem new_any (w : World) (words : Int) : Calls Try.prog 13 #[.int .i64 words] w (NewPost w (sizeN words)) := by
  obtain ⟨n, hn⟩ : ∃ n, n = sizeN words := ⟨_, rfl⟩
  rw [← hn]
  unfold sizeN at hn
  have hmm : min (max words 0) 2048 = (n : Int) := by omega
  have hn2 : n ≤ 2048 := by omega
  obtain ⟨i0, hi0, hz0, hzs, hzb⟩ := info_parts info_u64
  obtain ⟨w1, hmk, hown, hg⟩ := run_make_full (P := Try.prog) w 0 43 45 i0 (.int .u64 0) 1 Try.underlying43 hi0 hz0 hzs .i64 .i64 (n + 1) (by rw [hzb]; omega) (by unfold maxLen; omega) (Nat.zero_le _)
  have hws : RV w1 45 1 (.slice (some ⟨w.heap.size, 0, none⟩) (n + 1) (n + 1)) (n + 1) (madeCells (Value.int .u64 0).cells ((n + 1) * 1)).toList := hown
  have hb1 := hws.lt w.heap.size (by simp [fpv, Value.ownBlock])
  have f1 : Fr [] w w1 := grownFr hg
  have HW := hid hws
  have HF := hid f1
  have HB := hid hb1
  have HN2 := hid hn2
  obtain ⟨cs, hcs⟩ : ∃ cs, cs = (madeCells (Value.int .u64 0).cells ((n + 1) * 1)).toList := ⟨_, rfl⟩
  rw [← hcs] at HW
  rw [Int.natCast_add, Int.natCast_one] at hmk
  obtain ⟨g, hge⟩ : ∃ g, g = w.heap.size := ⟨_, rfl⟩
  have HGE := hid hge
  rw [← hge] at HW HB hmk
  clear hn hi0 hz0 hzs hzb hown hg hws hb1 f1 hcs hge
  by_cases hz : 0 < n
  · have hz2 : decide (0 < n) = true := by simpa using hz
    go_enter Try.func13, Try.ntmps13
    go_wp2_with fail
    go_ret
    have hs1 := HF.out.size
    have hgw := HGE.out
    have hgb := HB.out
    refine ⟨_, _, rfl, ⟨w1.heap.size, .slice (some ⟨g, 0, none⟩) (n + 1) (n + 1), .slice (some ⟨w1.heap.size + 1, 0, none⟩) 1 1, .slice none 0 0, cs, rfl, rfl, ?_⟩, (HF.out.alloc _).alloc _, ?_⟩
    · have e : gaps n 1 [] = [(1, n)] := by simp only [gaps]; rw [if_pos (by omega)]; simp
      refine ⟨heap_alloc2_old _ _ _, HW.out.keep0 (((Fr.refl [] w1).alloc _).alloc _), ?_, RV.nil _ _ _, by simp [Rise], by simp, by simp, HN2.out, ?_⟩
      · rw [e]
        exact RV.mk (k := 2) (n := 1) (heap_alloc2_new _ _ _) (Nat.le_refl _) (by unfold maxLen; omega) rfl rfl
      · simp [fpv, Value.ownBlock]
        omega
    · intro x hx
      simp [fpv, Value.ownBlock] at hx
      omega
  · have hz2 : decide (0 < n) = false := by simpa using hz
    have HZ := hid hz
    clear hz
    go_enter Try.func13, Try.ntmps13
    go_wp2_with fail
    go_ret
    have hs1 := HF.out.size
    have hgw := HGE.out
    have hgb := HB.out
    refine ⟨_, _, rfl, ⟨w1.heap.size, .slice (some ⟨g, 0, none⟩) (n + 1) (n + 1), .slice none 0 0, .slice none 0 0, cs, rfl, rfl, ?_⟩, HF.out.alloc _, ?_⟩
    · have hz := HZ.out
      have e : gaps n 1 [] = [] := by simp only [gaps]; rw [if_neg (by omega)]
      refine ⟨heap_alloc_new _ _, HW.out.keep0 ((Fr.refl [] w1).alloc _), by rw [e]; exact RV.nil _ _ _, RV.nil _ _ _, by simp [Rise], by simp, by simp, HN2.out, ?_⟩
      simp [fpv, Value.ownBlock]
      omega
    · intro x hx
      simp [fpv, Value.ownBlock] at hx
      omega

/-! ### Size, All, Free -/
def AllPost (w : World) (L : List Ob) (e : Ending) (w' : World) : Prop := ∃ v', e = .returned v' ∧ RV w' 3 1 v' L.length (obsL L) ∧ Fr [] w w' ∧ ∀ b ∈ fpv v', w.heap.size ≤ b
theorem all_any {w : World} {p : Value} {F : List Nat} {n : Nat} {L : List Ob} (h : Ar w p F n L) : Calls Try.prog 18 #[p] w (AllPost w L) := by
  obtain ⟨hb, vw, vf, vo, cs, rfl, rfl, h⟩ := h
  obtain ⟨c0, c1, c2⟩ := h.c
  have HC := hid (clone_Int w vo L.length (obsL L) h.ob h.llen (obsL_one L))
  clear h c0 c1
  unfold ptrV
  go_enter Try.func18, Try.ntmps18
  go_wp2_with fail
  refine HC.out.mono ?_
  rintro e w' ⟨v', rfl, h1, h2, h3⟩
  have H1 := hid h1
  have H2 := hid h2
  have H3 := hid h3
  clear h1 h2 h3
  go_wp2_with fail
  go_ret
  exact ⟨v', rfl, H1.out, H2.out, H3.out⟩
theorem ArT.glen {w : World} {hb : Nat} {vw vf vo : Value} {cs : List Value} {n : Nat} {L : List Ob} (h : ArT w hb vw vf vo cs n L) : (gaps n 1 L).length ≤ 3000 := by
  have key : ∀ (a : Nat) (L : List Ob), Rise n a L → (gaps n a L).length ≤ L.length + 1 := by
    intro a L
    induction L generalizing a with
    | nil => intro _; simp only [gaps]; split <;> simp
    | cons o r ih =>
      intro h
      have := ih _ h.2
      simp only [gaps, List.length_append, List.length_cons]
      split <;> simp <;> omega
  have h1 := key 1 L h.rise
  have h2 := Rise.length h.rise
  have h3 := h.small
  omega
def FreePost (w : World) (G : List (Nat × Nat)) (e : Ending) (w' : World) : Prop := ∃ v', e = .returned v' ∧ RV w' 36 2 v' G.length (blkL G) ∧ Fr [] w w' ∧ ∀ b ∈ fpv v', w.heap.size ≤ b
theorem free_any {w : World} {p : Value} {F : List Nat} {n : Nat} {L : List Ob} (h : Ar w p F n L) : Calls Try.prog 17 #[p] w (FreePost w (gaps n 1 L)) := by
  obtain ⟨hb, vw, vf, vo, cs, rfl, rfl, h⟩ := h
  obtain ⟨c0, c1, c2⟩ := h.c
  have HC := hid (clone_Blk w vf (gaps n 1 L).length (blkL (gaps n 1 L)) h.fr (by have := h.glen; omega) (blkL_one _))
  obtain ⟨G, hG⟩ : ∃ G, G = gaps n 1 L := ⟨_, rfl⟩
  rw [← hG] at HC ⊢
  clear h c0 c2 hG
  unfold ptrV
  go_enter Try.func17, Try.ntmps17
  go_wp2_with fail
  refine HC.out.mono ?_
  rintro e w' ⟨v', rfl, h1, h2, h3⟩
  have H1 := hid h1
  have H2 := hid h2
  have H3 := hid h3
  clear h1 h2 h3
  go_wp2_with fail
  go_ret
  exact ⟨v', rfl, H1.out, H2.out, H3.out⟩
theorem heapsize_any {w : World} {p : Value} {F : List Nat} {n : Nat} {L : List Ob} (h : Ar w p F n L) : Calls Try.prog 52 #[p] w (fun e w' => e = .returned (.int .i64 n) ∧ w = w') := by
  obtain ⟨hb, vw, vf, vo, cs, rfl, rfl, h⟩ := h
  obtain ⟨c0, c1, c2⟩ := h.c
  obtain ⟨b, cap, rfl, hc1, hc2, hcl, hcell⟩ := h.wcell
  have hsm := h.small
  unfold maxLen at hc2
  clear h c1 c2 hcell hcl
  unfold ptrV
  go_enter Try.func52, Try.ntmps52
  go_wp2_with fail
  go_ret
  exact ⟨rfl, rfl⟩

end Go.Proofs.Ytgakkkifohkikaa
