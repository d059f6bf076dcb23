/-
  GcFits: the walk.
-/
import Derived.Test.YtgakkkifohkikaaMadeW
import Derived.Test.YtgakkkifohkikaaBlocks
namespace Go.Proofs.Ytgakkkifohkikaa
open Go.RowKit

/-- who is made and released at once leaves all as it was -/
theorem rel_new {n : Nat} {L L' : List Ob} {c k x : Nat} (hr : Rise n 1 L) (h : arAlloc n L c k = some (x, L')) : relE L' x = 0 ∧ relL L' x = L := by
  unfold arAlloc at h
  cases hp : place k (gaps n 1 L) with
  | none => rw [hp] at h; cases h
  | some x' =>
    rw [hp] at h
    simp only [Option.some.injEq, Prod.mk.injEq] at h
    obtain ⟨rfl, rfl⟩ := h
    obtain ⟨G1, mm, G2, hg, hkm, _⟩ := place_some hp
    obtain ⟨L1, L2, rfl, l1, l2, l3⟩ := gaps_take hr hg
    have hnew := (l3 (newOb x' c k) rfl (by simp [newOb, Ob.sz]; omega)).2
    have hins : insOb (newOb x' c k) (L1 ++ L2) = L1 ++ newOb x' c k :: L2 := insOb_split (fun o ho => by have := l1 o ho; have e : (newOb x' c k).at' = x' := rfl; rw [e]; simp only [Ob.sz] at this; omega) (fun o ho => by have := l2 o ho; have e : (newOb x' c k).at' = x' := rfl; rw [e]; omega)
    rw [hins]
    have hi : L1.length < (L1 ++ newOb x' c k :: L2).length := by rw [List.length_append, List.length_cons]; omega
    have he : (L1 ++ newOb x' c k :: L2)[L1.length] = newOb x' c k := by simp
    obtain ⟨e1, e2⟩ := find_split hnew hi (x := (x' : Int)) (by rw [he]; rfl)
    refine ⟨e1, e2.trans ?_⟩
    rw [List.take_left, List.drop_append, List.drop_eq_nil_of_le (by omega), List.nil_append, show L1.length + 1 - L1.length = 1 by omega]
    rfl
theorem fits_alloc {n : Nat} {L : List Ob} (k : Nat) (c : Nat) : fitsB n L (k : Int) = (arAlloc n L c k).isSome := by
  unfold fitsB
  rw [roomy_place, decide_eq_true (by omega : (0 : Int) ≤ (k : Int)), Bool.true_and]
  unfold arAlloc
  cases place k (gaps n 1 L) <;> rfl

set_option maxRecDepth 20000 in
set_option maxHeartbeats 2000000 in
theorem fits_walk (a0 : Option Addr) (len0 cap0 : Nat) (z0 : List Int) (a1 : Option Addr) (len1 cap1 : Nat) (z1 : List Int) (words : Int) (W : World) (w0 : IsRow .u8 W a0 len0 cap0 z0) (w1 : IsRow .u8 W a1 len1 cap1 z1) (_w2 : (Lit.int .i64 words).wf = true) :
    Calls Try.prog 8 #[.slice a0 len0 cap0, .slice a1 len1 cap1, .int .i64 words] W fun e w' => e = .returned (.bool true) ∧ Fr [] W w' := by
  have H0 := hid w0
  have H1 := hid w1
  clear w0 w1 _w2
  go_enter Try.func8, Try.ntmps8
  go_wp2_with fail
  refine (known12_any W).mono ?_
  rintro e wA ⟨rfl, fA⟩
  have FA := hid fA
  clear fA
  by_cases g1 : (30 : Int) < len0
  · go_wp2_with fail
    go_ret
    exact ⟨rfl, FA.out⟩
  by_cases g2 : (10 : Int) < len1
  · have g1' : decide ((30 : Int) < len0) = false := by simpa using g1
    clear g1
    go_wp2_with fail
    go_ret
    exact ⟨rfl, FA.out⟩
  by_cases g3 : words < 0
  · have g1' : decide ((30 : Int) < len0) = false := by simpa using g1
    have g2' : decide ((10 : Int) < len1) = false := by simpa using g2
    clear g1 g2
    go_wp2_with fail
    go_ret
    exact ⟨rfl, FA.out⟩
  by_cases g4 : 3000 < words
  · have g1' : decide ((30 : Int) < len0) = false := by simpa using g1
    have g2' : decide ((10 : Int) < len1) = false := by simpa using g2
    have g3' : decide (words < 0) = false := by simpa using g3
    clear g1 g2 g3
    go_wp2_with fail
    go_ret
    exact ⟨rfl, FA.out⟩
  obtain ⟨k, rfl⟩ : ∃ k : Nat, words = (k : Int) := ⟨words.toNat, by omega⟩
  have hkb : (k : Int) ≤ 3000 := by omega
  have HM := hid (made_any (w := wA) FA.out H0.out H1.out (by omega) (by omega))
  have g1' : decide ((30 : Int) < len0) = false := by simpa using g1
  have g2' : decide ((10 : Int) < len1) = false := by simpa using g2
  have g3' : decide ((k : Int) < 0) = false := by simp
  have g4' : decide ((3000 : Int) < k) = false := by simpa using g4
  clear g1 g2 g3 g4
  go_wp2_with fail
  refine HM.out.mono ?_
  rintro e w2 ⟨hb, rb, v, l, L, rfl, hB, _, _⟩
  have HO := hid hB.own
  clear hB
  go_wp2_with fail
  refine HO.out.free.mono ?_
  rintro e w3 ⟨⟨v3, rfl, hv3, f3, n3⟩, h3⟩
  have A3 : Hid (OwnF W w3 (.pointer (some ⟨hb, 0, none⟩)) 600 L (fpv v3)) := hid (HO.out.ownF.other f3 (by simp) (fun a ha => ⟨.inr (n3 a ha), hv3.lt a ha⟩))
  have V3 := hid hv3
  clear hv3 f3 n3 h3
  go_wp2_with fail
  refine (A3.out.own.fits k).mono ?_
  rintro e w4 ⟨rfl, _, f4⟩
  have A4 := hid (A3.out.keep f4)
  have V4 := hid (V3.out.keep0 f4)
  clear f4
  rw [fits_alloc k 1]
  cases har : arAlloc 600 L 1 k with
  | none =>
    have E := hid (A4.out.alloc_no 1 k (by omega) har)
    clear har
    go_wp2_with fail
    refine E.out.mono ?_
    rintro e w5 ⟨rfl, h5, kp⟩
    have H5 := hid h5.own
    have V5 := hid (RV.kp V4.out kp (fun _ h => h))
    clear h5 kp
    go_wp2_with fail
    refine H5.out.free.mono ?_
    rintro e w6 ⟨⟨v6, rfl, hv6, f6, _⟩, h6⟩
    have B := hid (blocks_any hv6 (V5.out.keep0 f6))
    have H6 := hid h6
    clear hv6 f6 h6
    rw [decide_eq_true rfl] at B
    go_wp2_with fail
    refine B.out.mono ?_
    rintro e w7 ⟨rfl, f7⟩
    have F7 := hid (H6.out.fr.tr f7)
    clear f7
    go_wp2_with fail
    go_ret
    exact ⟨rfl, F7.out⟩
  | some xl =>
    obtain ⟨x, L'⟩ := xl
    have E := hid (A4.out.alloc 1 k (by omega) har)
    obtain ⟨e1, e2⟩ := rel_new A4.out.own.rise har
    have HE := hid (And.intro e1 e2)
    clear har e1 e2
    go_wp2_with fail
    refine E.out.mono ?_
    rintro e w5 ⟨rfl, h5, kp⟩
    have H5 := hid h5
    have V5 := hid (RV.kp V4.out kp (fun _ h => h))
    clear h5 kp
    go_wp2_with fail
    refine (H5.out.release x).mono ?_
    rintro e w6 ⟨rfl, h6, kp⟩
    rw [HE.out.1]
    rw [HE.out.2] at h6
    have H6 := hid h6.own
    have V6 := hid (RV.kp V5.out kp (fun _ h => h))
    clear h6 kp
    go_wp2_with fail
    refine H6.out.free.mono ?_
    rintro e w7 ⟨⟨v7, rfl, hv7, f7, _⟩, h7⟩
    have B := hid (blocks_any hv7 (V6.out.keep0 f7))
    have H7 := hid h7
    clear hv7 f7 h7
    rw [decide_eq_true rfl] at B
    go_wp2_with fail
    refine B.out.mono ?_
    rintro e w8 ⟨rfl, f8⟩
    have F8 := hid (H7.out.fr.tr f8)
    clear f8
    go_wp2_with fail
    go_ret
    exact ⟨rfl, F8.out⟩

end Go.Proofs.Ytgakkkifohkikaa
