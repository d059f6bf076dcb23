/-
  An arena that is wholly new since some world; the statements' own 'known'; loomhelp.Blocks.
-/
import Derived.Test.YtgakkkifohkikaaHeapF
import Derived.Test.YtgakkkifohkikaaRowU
namespace Go.Proofs.Ytgakkkifohkikaa
open Go.RowKit

/-- an arena of n words with objects L, new since w0 -/
structure Own (w0 w : World) (p : Value) (n : Nat) (L : List Ob) : Prop where
  ex : ∃ F, Ar w p F n L ∧ ∀ x ∈ F, w0.heap.size ≤ x
  fr : Fr [] w0 w
section
variable {w0 w w' : World} {p : Value} {n : Nat} {L L' : List Ob}
theorem Own.keep (h : Own w0 w p n L) (f : Fr [] w w') : Own w0 w' p n L := by
  obtain ⟨⟨F, h1, h2⟩, h3⟩ := h
  exact ⟨⟨F, h1.keep0 f, h2⟩, h3.tr f⟩
theorem Own.moved {F : List Nat} (h : Moved w w' p F n L') (h3 : Fr [] w0 w) (h2 : ∀ x ∈ F, w0.heap.size ≤ x) : Own w0 w' p n L' := by
  obtain ⟨F', k1, k2, k3⟩ := h
  refine ⟨⟨F', k1, fun x hx => ?_⟩, h3.trans k2 (fun x hx => .inr (h2 x hx))⟩
  rcases k3 x hx with h | h
  · exact h2 x h
  · exact Nat.le_trans h3.size h
theorem Own.rise (h : Own w0 w p n L) : Rise n 1 L := by obtain ⟨⟨F, h1, _⟩, _⟩ := h; exact h1.rise
theorem Own.small (h : Own w0 w p n L) : n ≤ 2048 := by obtain ⟨⟨F, h1, _⟩, _⟩ := h; exact h1.small
theorem Own.form (h : Own w0 w p n L) : ∃ hb, p = .pointer (some ⟨hb, 0, none⟩) := by obtain ⟨⟨F, h1, _⟩, _⟩ := h; exact h1.form
theorem Own.new (w0 w : World) (f : Fr [] w0 w) (words : Int) : Calls Try.prog 13 #[.int .i64 words] w fun e w' => ∃ hb, e = .returned (.pointer (some ⟨hb, 0, none⟩)) ∧ Own w0 w' (.pointer (some ⟨hb, 0, none⟩)) (sizeN words) [] := by
  refine (new_any w words).mono ?_
  rintro e w' ⟨p, F, rfl, h1, h2, h3⟩
  obtain ⟨hb, rfl⟩ := h1.form
  exact ⟨hb, rfl, ⟨⟨F, h1, fun x hx => Nat.le_trans f.size (h3 x hx)⟩, f.tr h2⟩⟩
theorem Own.alloc (h : Own w0 w p n L) (c k : Nat) (hc : (c : Int) ≤ 9223372036854775807) {x : Nat} (e : arAlloc n L c k = some (x, L')) :
    Calls Try.prog 14 #[p, .int .i64 c, .int .i64 k] w fun e w' => e = .returned (.tuple #[.int .i64 x, .int .i64 0]) ∧ Own w0 w' p n L' := by
  obtain ⟨⟨F, h1, h2⟩, h3⟩ := h
  refine (alloc_any h1 c k hc).mono ?_
  intro e' w' hp
  unfold AllocPost at hp
  rw [e] at hp
  exact ⟨hp.1, Own.moved hp.2 h3 h2⟩
theorem Own.alloc_no (h : Own w0 w p n L) (c k : Nat) (hc : (c : Int) ≤ 9223372036854775807) (e : arAlloc n L c k = none) :
    Calls Try.prog 14 #[p, .int .i64 c, .int .i64 k] w fun e w' => e = .returned (.tuple #[.int .i64 0, .int .i64 110]) ∧ Own w0 w' p n L := by
  obtain ⟨⟨F, h1, h2⟩, h3⟩ := h
  refine (alloc_any h1 c k hc).mono ?_
  intro e' w' hp
  unfold AllocPost at hp
  rw [e] at hp
  exact ⟨hp.1, Own.moved hp.2 h3 h2⟩
theorem Own.alloc_bad (h : Own w0 w p n L) (c k : Int) (hck : c < 0 ∨ k < 0) :
    Calls Try.prog 14 #[p, .int .i64 c, .int .i64 k] w fun e w' => e = .returned (.tuple #[.int .i64 0, .int .i64 111]) ∧ Own w0 w' p n L := by
  obtain ⟨⟨F, h1, h2⟩, h3⟩ := h
  refine (_root_.Go.Proofs.Ytgakkkifohkikaa.alloc_bad h1 c k hck).mono ?_
  intro e' w' hp
  exact ⟨hp.1, Own.moved hp.2 h3 h2⟩
theorem Own.release (h : Own w0 w p n L) (x : Int) :
    Calls Try.prog 15 #[p, .int .i64 x] w fun e w' => e = .returned (.int .i64 (relE L x)) ∧ Own w0 w' p n (relL L x) := by
  obtain ⟨⟨F, h1, h2⟩, h3⟩ := h
  refine (release_any h1 x).mono ?_
  intro e' w' hp
  exact ⟨hp.1, Own.moved hp.2 h3 h2⟩
theorem Own.put (h : Own w0 w p n L) (x i v : Int) :
    Calls Try.prog 20 #[p, .int .i64 x, .int .i64 i, .int .u64 v] w fun e w' => e = .returned (.int .i64 (putE L x i)) ∧ Own w0 w' p n (putL L x i v) := by
  obtain ⟨⟨F, h1, h2⟩, h3⟩ := h
  refine (put_any h1 x i v).mono ?_
  intro e' w' hp
  exact ⟨hp.1, Own.moved hp.2 h3 h2⟩
theorem Own.free (h : Own w0 w p n L) : Calls Try.prog 17 #[p] w fun e w' => FreePost w (gaps n 1 L) e w' ∧ Own w0 w' p n L := by
  obtain ⟨F, h1, h2⟩ := h.ex
  refine (free_any h1).mono ?_
  intro e' w' hp
  have f : Fr [] w w' := by obtain ⟨v', _, _, f, _⟩ := hp; exact f
  exact ⟨hp, h.keep f⟩
theorem Own.all (h : Own w0 w p n L) : Calls Try.prog 18 #[p] w fun e w' => AllPost w L e w' ∧ Own w0 w' p n L := by
  obtain ⟨F, h1, h2⟩ := h.ex
  refine (all_any h1).mono ?_
  intro e' w' hp
  have f : Fr [] w w' := by obtain ⟨v', _, _, f, _⟩ := hp; exact f
  exact ⟨hp, h.keep f⟩
theorem Own.get (h : Own w0 w p n L) (x i : Int) : Calls Try.prog 21 #[p, .int .i64 x, .int .i64 i] w (QPost w (getV L x i)) := by
  obtain ⟨F, h1, h2⟩ := h.ex
  exact get_any h1 x i
theorem Own.class (h : Own w0 w p n L) (x : Int) : Calls Try.prog 22 #[p, .int .i64 x] w (QPost w (clsV L x)) := by
  obtain ⟨F, h1, h2⟩ := h.ex
  exact class_any h1 x
theorem Own.words (h : Own w0 w p n L) (x : Int) : Calls Try.prog 19 #[p, .int .i64 x] w (QPost w (wdsV L x)) := by
  obtain ⟨F, h1, h2⟩ := h.ex
  exact words_any h1 x
theorem Own.drewN (h : Own w0 w p n L) (q : Nat) : Own w0 (w.drewN q) p n L := h.keep (drewN_fr _ _)
end

/-! ### the statements' own 'known' -/
def kL1 : List Ob := [newOb 1 5 3]
def kL2 : List Ob := [newOb 1 5 3, newOb 6 5 3]
theorem kA1 : arAlloc 10 [] 5 3 = some (1, kL1) := by decide +kernel
theorem kA2 : arAlloc 10 kL1 5 3 = some (6, kL2) := by decide +kernel
theorem kA3 : arAlloc 10 kL2 5 0 = none := by decide +kernel
theorem kA4 : gaps 10 1 kL2 = [] := by decide +kernel
theorem kA5 : relE kL2 2 = 111 ∧ relL kL2 2 = kL2 ∧ relE kL2 1 = 0 := by decide +kernel

set_option maxHeartbeats 1000000 in
theorem known_any (w : World) : Calls Try.prog 12 #[] w fun e w' => e = .returned (.bool true) ∧ Fr [] w w' := by
  go_enter Try.func12, Try.ntmps12
  go_wp2_with fail
  refine (Own.new w w (Fr.refl _ _) 10).mono ?_
  rintro e w1 ⟨hb, rfl, h1⟩
  have H1 := hid h1
  clear h1
  go_wp2_with fail
  refine (Own.alloc (n := 10) H1.out 5 3 (by omega) kA1).mono ?_
  rintro e w2 ⟨rfl, h2⟩
  have H2 := hid h2
  clear h2
  go_wp2_with fail
  refine (H2.out.alloc 5 3 (by omega) kA2).mono ?_
  rintro e w3 ⟨rfl, h3⟩
  have H3 := hid h3
  clear h3
  go_wp2_with fail
  refine (H3.out.alloc_no 5 0 (by omega) kA3).mono ?_
  rintro e w4 ⟨rfl, h4⟩
  have H4 := hid h4
  clear h4
  go_wp2_with fail
  refine H4.out.free.mono ?_
  rintro e w5 ⟨⟨v5, rfl, hr, _, _⟩, h5⟩
  rw [kA4] at hr
  obtain ⟨a5, c5, rfl, _, _⟩ := hr.form
  have H5 := hid h5
  clear h5 hr
  go_wp2_with fail
  refine (H5.out.release 2).mono ?_
  rintro e w6 ⟨rfl, h6⟩
  rw [kA5.2.1] at h6
  have H6 := hid h6
  clear h6
  rw [kA5.1]
  go_wp2_with fail
  refine (H6.out.release 1).mono ?_
  rintro e w7 ⟨rfl, h7⟩
  have H7 := hid h7
  clear h7
  rw [kA5.2.2]
  go_wp2_with fail
  go_ret
  exact ⟨rfl, H7.out.fr⟩

end Go.Proofs.Ytgakkkifohkikaa
