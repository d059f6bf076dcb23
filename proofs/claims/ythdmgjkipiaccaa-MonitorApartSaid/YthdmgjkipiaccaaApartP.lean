/-
  MonitorApart, MonitorCounts: the plain runs. No program in sight.
-/
import Derived.Test.YthdmgjkipiaccaaHeld
namespace Go.Proofs.Ythdmgjkipiaccaa

def apT (x y : Int) (L M : PLk) : PT := ⟨[(x, L), (y, M)], []⟩
def apY : PLk := ⟨2, 1, false, [], []⟩

theorem ap1 (x : Int) (h : 1 ≤ x) : PT.new.enter x 1 = ((true, 0), ⟨[(x, ⟨1, 1, false, [], []⟩)], []⟩) := by
  have : ¬ x < 1 := by omega
  simp [PT.enter, PT.new, this, PT.stands, PT.at, lget, PLk.enter, PLk.zero, lput]
theorem ap2 (x y : Int) (h : 1 ≤ y) (hxy : x ≠ y) : (PT.mk [(x, ⟨1, 1, false, [], []⟩)] []).enter y 2 = ((true, 0), apT x y ⟨1, 1, false, [], []⟩ apY) := by
  have : ¬ y < 1 := by omega
  simp [PT.enter, this, PT.stands, PT.at, lget, PLk.enter, PLk.zero, lput, PLk.has, hxy, apT, apY]
theorem ap3 (x y : Int) (h : 1 ≤ x) (hxy : x ≠ y) : (apT x y ⟨1, 1, false, [], []⟩ apY).enter x 3 = ((false, 0), apT x y ⟨1, 1, true, [3], []⟩ apY) := by
  have : ¬ x < 1 := by omega
  simp [PT.enter, this, PT.stands, PT.at, lget, PLk.enter, lput, PLk.has, hxy.symm, apT, apY]
theorem ap4 (x y : Int) (hxy : x ≠ y) : (apT x y ⟨1, 1, true, [3], []⟩ apY).exit y 1 = ((0, 130), apT x y ⟨1, 1, true, [3], []⟩ apY) := by
  simp [PT.exit, PT.owned, lget, hxy, apT, apY]
theorem ap5 (x y : Int) : (apT x y ⟨1, 1, true, [3], []⟩ apY).enter y 3 = ((false, 130), apT x y ⟨1, 1, true, [3], []⟩ apY) := by
  simp [PT.enter, PT.stands, PLk.has, apT, apY]
theorem ap6 (x y : Int) (hxy : x ≠ y) : (apT x y ⟨1, 1, true, [3], []⟩ apY).exit x 1 = ((3, 0), apT x y ⟨3, 1, true, [], []⟩ apY) := by
  simp [PT.exit, PT.owned, lget, lput, overL, hxy.symm, apT, apY]
theorem sort2 (x y : Int) (h : x ≤ y) : sortI [x, y] = [x, y] := by
  unfold sortI
  refine List.mergeSort_of_pairwise ?_
  simpa using h
theorem sort1 (x : Int) : sortI [x] = [x] := by unfold sortI; simp
theorem ap_held (x y : Int) (hxy : x < y) : (apT x y ⟨3, 1, true, [], []⟩ apY).held 2 = [y] := by
  have e : (apT x y ⟨3, 1, true, [], []⟩ apY).ls.map (·.1) = [x, y] := rfl
  have hne : x ≠ y := by omega
  unfold PT.held
  rw [e, sort2 x y (by omega)]
  have h1 : (apT x y ⟨3, 1, true, [], []⟩ apY).holds 2 x = false := by simp [PT.holds, PT.at, lget, apT]
  have h2 : (apT x y ⟨3, 1, true, [], []⟩ apY).holds 2 y = true := by simp [PT.holds, PT.at, lget, apT, hne, apY]
  simp [h1, h2]
theorem ap_at (x y : Int) (hxy : x ≠ y) (L : PLk) : ((apT x y L apY).at y).fat = false := by simp [PT.at, lget, apT, hxy, apY]
theorem ap_no (x y z : Int) (hx : x ≠ z) (hy : y ≠ z) (L : PLk) : ((apT x y L apY).at z).owner = 0 := by simp [PT.at, lget, apT, hx, hy, PLk.zero]

def coT (a b i : Int) (f : Bool) : PT := ⟨[(a, ⟨b, i, f, [], []⟩)], []⟩
theorem co1 (a b : Int) (ha : 1 ≤ a) (hb : 1 ≤ b) : PT.new.enter a b = ((true, 0), coT a b 1 false) := by
  have h1 : ¬ a < 1 := by omega
  have h2 : ¬ b < 1 := by omega
  simp [PT.enter, PT.new, h1, h2, PT.stands, PT.at, lget, PLk.enter, PLk.zero, lput, coT]
theorem co2 (a b i : Int) (ha : 1 ≤ a) (hb : 1 ≤ b) : (coT a b i (decide (3 < i))).enter a b = ((true, 0), coT a b (i + 1) (decide (3 < i + 1))) := by
  have h1 : ¬ a < 1 := by omega
  have h2 : ¬ b < 1 := by omega
  have h3 : ¬ b = 0 := by omega
  have h4 : (decide (3 < i) || decide (3 < i + 1)) = decide (3 < i + 1) := by
    by_cases h : 3 < i
    · have : 3 < i + 1 := by omega
      simp [h, this]
    · simp [h]
  simp [PT.enter, h1, h2, h3, PT.stands, PT.at, lget, PLk.enter, lput, coT, PLk.has]
  intro h; omega
theorem co3 (a b i : Int) (f : Bool) (hb : 1 ≤ b) (hi : 1 ≤ i) : (coT a b i f).exit a b = ((0, 0), coT a (if i = 1 then 0 else b) (i - 1) f) := by
  have h2 : ¬ b < 1 := by omega
  by_cases h : i = 1
  · subst h
    simp [PT.exit, PT.owned, lget, lput, overL, coT, h2]
  · have h3 : 0 < i - 1 := by omega
    simp [PT.exit, PT.owned, lget, lput, coT, h2, h]
    intro h'; omega
theorem co4 (a b : Int) (f : Bool) (hb : 1 ≤ b) : (coT a 0 0 f).exit a b = ((0, 130), coT a 0 0 f) := by
  have h2 : ¬ b < 1 := by omega
  have h3 : (0 : Int) ≠ b := by omega
  simp [PT.exit, PT.owned, lget, coT, h3]
theorem co_held (a b i : Int) (f : Bool) (hb : 1 ≤ b) : (coT a b i f).held b = [a] := by
  have e : (coT a b i f).ls.map (·.1) = [a] := rfl
  unfold PT.held
  rw [e, sort1]
  have h1 : (coT a b i f).holds b a = true := by simp [PT.holds, PT.at, lget, coT]; omega
  simp [h1]
theorem co_none (a b : Int) (f : Bool) (hb : 1 ≤ b) : (coT a 0 0 f).held b = [] := by
  have e : (coT a 0 0 f).ls.map (·.1) = [a] := rfl
  unfold PT.held
  rw [e, sort1]
  have h1 : (coT a 0 0 f).holds b a = false := by simp [PT.holds, PT.at, lget, coT]; omega
  simp [h1]
theorem co_at (a b i : Int) (f : Bool) : (coT a b i f).at a = ⟨b, i, f, [], []⟩ := by simp [PT.at, lget, coT]
theorem co_forget (a : Int) (f : Bool) : (coT a 0 0 f).forget a = (0, ⟨[], []⟩) := by simp [PT.forget, lget, coT, ldel]
theorem co_gone (a : Int) : (PT.mk [] []).at a = PLk.zero := rfl

/-- behind so many entries -/
def cT (a b : Int) (j : Nat) : PT := if j = 0 then PT.new else coT a b j (decide (3 < (j : Int)))
theorem cT_enter (a b : Int) (ha : 1 ≤ a) (hb : 1 ≤ b) (j : Nat) : (cT a b j).enter a b = ((true, 0), cT a b (j + 1)) := by
  unfold cT
  rw [if_neg (Nat.succ_ne_zero j)]
  by_cases h : j = 0
  · subst h
    rw [if_pos rfl, co1 a b ha hb]
    rfl
  · rw [if_neg h, co2 a b j ha hb]
    rfl
theorem cT_at (a b : Int) (j : Nat) : (cT a b (j + 1)).at a = ⟨b, (j + 1 : Nat), decide (3 < ((j + 1 : Nat) : Int)), [], []⟩ := by
  unfold cT
  rw [if_neg (Nat.succ_ne_zero j), co_at]
/-- behind the exits that leave so many -/
def dT (a b : Int) (f : Bool) (j : Nat) : PT := coT a (if j = 0 then 0 else b) j f
theorem dT_exit (a b : Int) (f : Bool) (hb : 1 ≤ b) (j : Nat) : (dT a b f (j + 1)).exit a b = ((0, 0), dT a b f j) := by
  unfold dT
  rw [if_neg (Nat.succ_ne_zero j), co3 a b _ f hb (by omega)]
  have e : ((j + 1 : Nat) : Int) - 1 = j := by omega
  rw [e]
  by_cases h : j = 0
  · subst h; rfl
  · rw [if_neg h, if_neg (by omega)]
theorem dT_held (a b : Int) (f : Bool) (hb : 1 ≤ b) (j : Nat) : (dT a b f (j + 1)).held b = [a] := by
  unfold dT
  rw [if_neg (Nat.succ_ne_zero j), co_held a b _ f hb]

end Go.Proofs.Ythdmgjkipiaccaa
