/-
  Package gc: Fits.
-/
import Derived.Test.YtgakkkifohkikaaGcB
namespace Go.Proofs.Ytgakkkifohkikaa
open Go.RowKit

def roomy (G : List (Nat × Nat)) (words : Int) : Bool := G.any (fun g => decide (words + 2 ≤ (g.2 : Int)))
def fitsB (n : Nat) (L : List Ob) (words : Int) : Bool := decide (0 ≤ words) && roomy (gaps n 1 L) words
theorem roomy_place (G : List (Nat × Nat)) (k : Nat) : roomy G (k : Int) = (place k G).isSome := by
  unfold roomy
  induction G with
  | nil => rfl
  | cons g r ih =>
    rw [List.any_cons, ih]
    rw [show place k (g :: r) = if k + 2 ≤ g.2 then some g.1 else place k r from rfl]
    by_cases h : k + 2 ≤ g.2
    · rw [if_pos h]
      have : decide ((k : Int) + 2 ≤ (g.2 : Int)) = true := by simp only [decide_eq_true_eq]; omega
      rw [this]; rfl
    · rw [if_neg h]
      have : decide ((k : Int) + 2 ≤ (g.2 : Int)) = false := by simp only [decide_eq_false_iff_not]; omega
      rw [this, Bool.false_or]

set_option maxHeartbeats 400000 in
theorem fits1_any (w : World) (a m words : Int) (wb : Nat) (hc : w.cell? ⟨wb, 0, none⟩ = some (.int .i64 words)) (hm : 0 ≤ m) (hm2 : m ≤ 10000) : Calls Try.prog 56 #[.agg #[.int .i64 a, .int .i64 m], .pointer (some ⟨wb, 0, none⟩)] w fun e w' => e = .returned (.bool (decide (words + 2 ≤ m))) ∧ Fr [] w w' := by
  have F : Hid (∀ o, Fr [] w (w.alloc o)) := hid (fun o => (Fr.refl _ _).alloc o)
  have hc2 := fun o => ((Fr.refl [] w).alloc o).cell hc (by simp)
  have hd : decide (words ≤ m - 2) = decide (words + 2 ≤ m) := by
    rw [decide_eq_decide]; omega
  have hw : IntKind.i64.wrap (m - 2) = m - 2 := by rw [IntKind.wrap_i64]; omega
  have HD := hid hd
  clear hc hd
  go_enter Try.func56, Try.ntmps56
  go_wp2_with fail
  go_ret
  exact ⟨by rw [← HD.out]; rfl, F.out _⟩

def IdxPost (w : World) (G : List (Nat × Nat)) (words : Int) (e : Ending) (w' : World) : Prop := (∃ r : Int, e = .returned (.int .i64 r) ∧ decide (0 ≤ r) = roomy G words) ∧ Fr [] w w'
set_option maxHeartbeats 1000000 in
set_option maxRecDepth 20000 in
theorem index_any {w : World} {v : Value} {G : List (Nat × Nat)} (h : RV w 36 2 v G.length (blkL G)) (words : Int) (wb : Nat) (hc : w.cell? ⟨wb, 0, none⟩ = some (.int .i64 words)) (hs : ∀ g ∈ G, g.2 ≤ 10000) (hl : G.length ≤ 10000) :
    Calls Try.prog 66 #[v, .func (.func 56) #[] #[.pointer (some ⟨wb, 0, none⟩)]] w (IdxPost w G words) := by
  obtain ⟨a, cap, rfl, hc1, hc2⟩ := h.form
  obtain ⟨n, hn⟩ : ∃ n, n = G.length := ⟨_, rfl⟩
  rw [← hn] at h hl hc1 ⊢
  have HN := hid hn
  have HH := hid h
  have HS := hid hs
  have HC := hid hc
  unfold maxLen at hc2
  clear hn h hs hc
  go_enter Try.func66, Try.ntmps66
  go_wp2_with fail
  go_loopw [8] (fun vi wr => ∃ i : Nat, vi = .int .i64 i ∧ i ≤ n ∧ Hid ((∀ g ∈ G.take i, ¬ words + 2 ≤ (g.2 : Int)) ∧ Fr [] w wr)) (fun vi _ => n - (intOf vi).toNat)
  case atStart => exact ⟨0, rfl, by omega, hid ⟨by simp, Fr.refl _ _⟩⟩
  case round =>
    obtain ⟨i, rfl, hi, hf⟩ := hrel
    by_cases hlt : i < n
    · have hlt2 : (i : Int) < n := by omega
      have hib : (i : Int) ≤ 10000 := by omega
      have hiG : i < G.length := by rw [← HN.out]; exact hlt
      obtain ⟨b, cap', e, k0, _⟩ := (HH.out.keep0 hf.out.2).cell (i * 2) (by omega)
      cases e
      obtain ⟨b', cap'', e, k1, _⟩ := (HH.out.keep0 hf.out.2).cell (i * 2 + 1) (by omega)
      cases e
      obtain ⟨⟨y, s⟩, hg⟩ : ∃ g, G[i]? = some g := ⟨_, List.getElem?_eq_getElem hiG⟩
      obtain ⟨r0, r1⟩ := blkL_get _ _ _ hg
      rw [r0] at k0
      rw [r1] at k1
      have hy := HS.out (y, s) (List.mem_of_getElem? hg)
      simp only [] at hy k0 k1
      unfold vi at k0 k1
      have HF := hid hf.out
      have HG := hid hg
      have hw := HF.out.2.cell HC.out (by simp)
      have E := hid (fits1_any wr y s words wb hw (by omega) (by omega))
      have hst := fun hno : ¬ words + 2 ≤ (s : Int) => show ∀ g ∈ G.take (i + 1), ¬ words + 2 ≤ (g.2 : Int) from fun g hg' => by
        rw [List.take_add_one, HG.out] at hg'
        rcases List.mem_append.1 hg' with h1 | h1
        · exact HF.out.1 g h1
        · simp only [Option.toList, List.mem_singleton] at h1
          rw [h1]; exact hno
      have HST := hid hst
      have hyes := fun h : words + 2 ≤ (s : Int) => show roomy G words = true from List.any_eq_true.2 ⟨(y, s), List.mem_of_getElem? HG.out, by simpa using h⟩
      have HYES := hid hyes
      clear hf r0 r1 hg hw hst hyes
      by_cases hw : words + 2 ≤ (s : Int)
      · rw [decide_eq_true hw] at E
        have HR := hid (HYES.out hw)
        clear hw
        go_wp2_with fail
        refine E.out.mono ?_
        rintro e w1 ⟨rfl, f1⟩
        have F1 : Hid (Fr [] w w1) := hid (HF.out.2.tr f1)
        clear f1
        go_wp2_with fail
        go_ret
        exact ⟨⟨_, rfl, by rw [HR.out]; simp⟩, F1.out⟩
      · rw [decide_eq_false hw] at E
        have HR := hid (HST.out hw)
        clear hw
        go_wp2_with fail
        refine E.out.mono ?_
        rintro e w1 ⟨rfl, f1⟩
        have F1 : Hid (Fr [] w w1) := hid (HF.out.2.tr f1)
        clear f1
        go_wp2_with fail
        go_roundw
        case rel => exact ⟨i + 1, by go_num, by omega, hid ⟨fun g hg => by have := HR.out g hg; omega, F1.out⟩⟩
        case measure => simp [intOf]; omega
    · obtain rfl : i = n := by omega
      have hlt2 : ¬ (i : Int) < i := by omega
      have HF := hid hf.out
      have HR : Hid (roomy G words = false) := hid (by
        unfold roomy
        rw [List.any_eq_false]
        intro g hg
        have := HF.out.1 g (by rw [HN.out, List.take_length]; exact hg)
        simpa using this)
      clear hf hlt
      go_wp2_with fail
      go_ret
      exact ⟨⟨_, rfl, by rw [HR.out]; rfl⟩, HF.out.2⟩

set_option maxHeartbeats 400000 in
theorem contains_any {w : World} {v : Value} {G : List (Nat × Nat)} (h : RV w 36 2 v G.length (blkL G)) (words : Int) (wb : Nat) (hc : w.cell? ⟨wb, 0, none⟩ = some (.int .i64 words)) (hs : ∀ g ∈ G, g.2 ≤ 10000) (hl : G.length ≤ 10000) :
    Calls Try.prog 55 #[v, .func (.func 56) #[] #[.pointer (some ⟨wb, 0, none⟩)]] w fun e w' => e = .returned (.bool (roomy G words)) ∧ Fr [] w w' := by
  have E := hid (index_any h words wb hc hs hl)
  obtain ⟨a, cap, rfl, hc1, hc2⟩ := h.form
  clear h hc hs hl
  go_enter Try.func55, Try.ntmps55
  go_wp2_with fail
  refine E.out.mono ?_
  rintro e w1 ⟨⟨r, rfl, hr⟩, f1⟩
  have HR := hid hr
  have F1 := hid f1
  clear hr f1
  go_wp2_with fail
  go_ret
  exact ⟨by rw [← HR.out]; rfl, F1.out⟩

set_option maxHeartbeats 400000 in
theorem fits_any {w : World} {p : Value} {F : List Nat} {n : Nat} {L : List Ob} (h : Ar w p F n L) (words : Int) :
    Calls Try.prog 30 #[p, .int .i64 words] w fun e w' => e = .returned (.bool (fitsB n L words)) ∧ Fr [] w w' := by
  have HB : Hid (∀ g ∈ gaps n 1 L, g.2 ≤ 10000) := hid (fun g hg => by have := gaps_lb h.rise g hg; have := h.small; omega)
  have HL : Hid ((gaps n 1 L).length ≤ 10000) := hid (by obtain ⟨_, _, _, _, _, _, _, k⟩ := h; have := k.glen; omega)
  obtain ⟨hb, rfl⟩ := h.form
  have HA := hid h
  clear h
  unfold ptrV at *
  unfold fitsB
  by_cases hw : (0 : Int) ≤ words
  · have hd : decide (0 ≤ words) = true := by simpa using hw
    rw [hd, Bool.true_and]
    go_enter Try.func30, Try.ntmps30
    go_wp2_with fail
    refine (free_any (HA.out.keep0 ((Fr.refl _ _).alloc _))).mono ?_
    rintro e w1 ⟨v1, rfl, hv, f1, n1⟩
    have hc := f1.cell (cell_one_new w (.int .i64 words) 3 0 _ rfl) (by simp)
    have HV := hid hv
    have F1 : Hid (Fr [] w w1) := hid (((Fr.refl _ _).alloc _).tr f1)
    have HC := hid hc
    clear hv f1 n1 hc
    go_wp2_with fail
    refine (contains_any HV.out words w.heap.size HC.out HB.out HL.out).mono ?_
    rintro e w2 ⟨rfl, f2⟩
    have F2 := hid f2
    clear f2
    go_wp2_with fail
    go_ret
    exact ⟨rfl, F1.out.tr F2.out⟩
  · have hd : decide (0 ≤ words) = false := by simpa using hw
    go_enter Try.func30, Try.ntmps30
    go_wp2_with fail
    go_ret
    exact ⟨rfl, (Fr.refl _ _).alloc _⟩

end Go.Proofs.Ytgakkkifohkikaa
