/-
  The reference's arena (loomref11): Reached.
-/
import Derived.Test.YtgakkkifohkikaaRefD
import Derived.Deep.Cut
import Derived.Deep.CutRange
import Derived.BigQuiet
namespace Go.Proofs.Ytgakkkifohkikaa
open Go.RowKit

/-- where edges lead to -/
def edR (fs ts : List Int) (a : Int) : List Int := ((fs.zip ts).filter (fun p => p.1 == a)).map (·.2)
theorem mem_edR {fs ts : List Int} (hl : fs.length = ts.length) {a b : Int} : b ∈ edR fs ts a ↔ ∃ t, t < fs.length ∧ fs.getD t 0 = a ∧ ts.getD t 0 = b := by
  unfold edR
  simp only [List.mem_map, List.mem_filter, beq_iff_eq]
  constructor
  · rintro ⟨⟨x, y⟩, ⟨hm, rfl⟩, rfl⟩
    obtain ⟨t, ht, e⟩ := List.getElem_of_mem hm
    rw [List.length_zip] at ht
    rw [List.getElem_zip] at e
    injection e with e1 e2
    refine ⟨t, by omega, ?_, ?_⟩
    · rw [List.getD, List.getElem?_eq_getElem (by omega)]; exact e1
    · rw [List.getD, List.getElem?_eq_getElem (by omega)]; exact e2
  · rintro ⟨t, ht, rfl, rfl⟩
    refine ⟨(fs.getD t 0, ts.getD t 0), ⟨?_, rfl⟩, rfl⟩
    have h1 : (fs.zip ts)[t]'(by rw [List.length_zip]; omega) = (fs.getD t 0, ts.getD t 0) := by
      rw [List.getElem_zip, List.getD, List.getD, List.getElem?_eq_getElem (by omega), List.getElem?_eq_getElem (by omega)]; rfl
    rw [← h1]
    exact List.getElem_mem _
def nF (s : List Bool) : Nat := s.countP (fun b => !b)
theorem nF_set {s : List Bool} {i : Nat} (h : s[i]? = some false) : nF (s.set i true) + 1 = nF s := by
  induction s generalizing i with
  | nil => simp at h
  | cons b r ih =>
    cases i with
    | zero =>
      simp only [List.getElem?_cons_zero, Option.some.injEq] at h
      subst h
      simp [nF]
    | succ i =>
      have := ih (i := i) (by simpa using h)
      unfold nF at *
      rw [List.set_cons_succ, List.countP_cons, List.countP_cons]
      omega
/-- where the object at x stands; -1 -/
def IdxOf (L : List Ob) (x r : Int) : Prop := (r = -1 ∧ has L x = false) ∨ ∃ (i : Nat) (h : i < L.length), r = i ∧ (L[i].at' : Int) = x
/-- the search is under way: s tells who was seen -/
structure SeenT (L : List Ob) (roots fs ts : List Int) (s : List Bool) : Prop where
  len : s.length = L.length
  snd : ∀ i, (h : i < L.length) → s[i]? = some true → Reach L roots (edR fs ts) (L[i].at' : Int)
def RootsIn (L : List Ob) (roots : List Int) (s : List Bool) : Prop := ∀ x ∈ roots, ∀ i, (h : i < L.length) → (L[i].at' : Int) = x → s[i]? = some true
def EdgeIn (L : List Ob) (x y : Int) (s : List Bool) : Prop := ∀ i j, (hi : i < L.length) → (hj : j < L.length) → (L[i].at' : Int) = x → (L[j].at' : Int) = y → s[i]? = some true → s[j]? = some true
theorem SeenT.set {L : List Ob} {roots fs ts : List Int} {s : List Bool} (h : SeenT L roots fs ts s) {i : Nat} (hi : i < L.length) (hr : Reach L roots (edR fs ts) (L[i].at' : Int)) : SeenT L roots fs ts (s.set i true) := by
  refine ⟨by rw [List.length_set]; exact h.len, fun j hj e => ?_⟩
  by_cases hij : i = j
  · subst hij; exact hr
  · rw [List.getElem?_set_ne hij] at e
    exact h.snd j hj e
theorem set_true {s : List Bool} {i j : Nat} (h : s[j]? = some true) : (s.set i true)[j]? = some true := by
  have hj := (List.getElem?_eq_some_iff.1 h).1
  by_cases hij : i = j
  · subst hij; rw [List.getElem?_set_self hj]
  · rw [List.getElem?_set_ne hij]; exact h
theorem SeenT.done {n a : Nat} {L : List Ob} (hr : Rise n a L) {roots fs ts : List Int} {s : List Bool} (h : SeenT L roots fs ts s) (hl : fs.length = ts.length) (h1 : RootsIn L roots s) (h2 : ∀ t, t < fs.length → EdgeIn L (fs.getD t 0) (ts.getD t 0) s) (i : Nat) (hi : i < L.length) :
    s[i]? = some true ↔ Reach L roots (edR fs ts) (L[i].at' : Int) := by
  refine ⟨h.snd i hi, fun hR => ?_⟩
  have key : ∀ x, Reach L roots (edR fs ts) x → ∀ j, (hj : j < L.length) → (L[j].at' : Int) = x → s[j]? = some true := by
    intro x hx
    induction hx with
    | root k1 k2 => exact fun j hj e => h1 _ k1 j hj e
    | step k1 k2 k3 ih =>
      intro j hj e
      obtain ⟨t, ht, e1, e2⟩ := (mem_edR hl).1 k2
      obtain ⟨o, ho, e3⟩ := List.mem_map.1 (has_mem.1 k1.has)
      obtain ⟨ia, hia, e4⟩ := List.getElem_of_mem ho
      have e5 : (L[ia].at' : Int) = fs.getD t 0 := by rw [e4, e1]; exact e3
      exact h2 t ht ia j hia hj e5 (e.trans e2.symm) (ih ia hia (e5.trans e1))
  exact key _ hR i hi rfl
theorem Rise.inj {n a : Nat} {L : List Ob} (hr : Rise n a L) {i j : Nat} (hi : i < L.length) (hj : j < L.length) (e : (L[i].at' : Int) = L[j].at') : i = j := by
  have hs := hr.neq
  rw [List.pairwise_iff_getElem] at hs
  rcases Nat.lt_trichotomy i j with h | h | h
  · have := hs i j hi hj h; omega
  · exact h
  · have := hs j i hj hi h; omega

theorem IdxOf.uniq {n a : Nat} {L : List Ob} (hr : Rise n a L) {x r r' : Int} (h : IdxOf L x r) (h' : IdxOf L x r') : r = r' := by
  have key : ∀ (i : Nat) (hi : i < L.length), (L[i].at' : Int) = x → has L x = true := fun i hi e => has_mem.2 (List.mem_map.2 ⟨L[i], List.getElem_mem hi, e⟩)
  rcases h with ⟨rfl, hn⟩ | ⟨i, hi, rfl, hx⟩
  · rcases h' with ⟨rfl, _⟩ | ⟨j, hj, rfl, hy⟩
    · rfl
    · rw [key j hj hy] at hn; cases hn
  · rcases h' with ⟨rfl, hn⟩ | ⟨j, hj, rfl, hy⟩
    · rw [key i hi hx] at hn; cases hn
    · rw [hr.inj hi hj (hx.trans hy.symm)]
theorem idx_ex (L : List Ob) (x : Int) : ∃ r, IdxOf L x r := by
  cases hh : has L x with
  | false => exact ⟨-1, .inl ⟨rfl, hh⟩⟩
  | true =>
    obtain ⟨o, ho, e⟩ := List.mem_map.1 (has_mem.1 hh)
    obtain ⟨i, hi, e2⟩ := List.getElem_of_mem ho
    exact ⟨i, .inr ⟨i, hi, rfl, by rw [e2]; exact e⟩⟩
noncomputable def idxI (L : List Ob) (x : Int) : Int := Classical.choose (idx_ex L x)
theorem idxI_of (L : List Ob) (x : Int) : IdxOf L x (idxI L x) := Classical.choose_spec (idx_ex L x)
set_option maxHeartbeats 400000 in
theorem rfind_quiet {w : World} {q : Value} {F : List Nat} {n : Nat} {L : List Ob} (h : Ref w q F n L) (x : Int) :
    Calls Try.prog 26 #[q, .int .i64 x] w (QPost w (.int .i64 (idxI L x))) := by
  have HID : Hid (∀ r, IdxOf L x r → r = idxI L x) := hid (fun r hr => hr.uniq h.rise (idxI_of L x))
  obtain ⟨rb, vl, G, rfl, hLG, rfl, h⟩ := h
  have hgl := h.glen
  obtain ⟨a, cap, hv, hc1, hc2⟩ := h.ob.form
  obtain ⟨m, hm⟩ : ∃ m, m = G.length := ⟨_, rfl⟩
  have HH := hid h
  have HM := hid hm
  have HLG := hid hLG
  rw [← hm] at hgl hc1 hv
  unfold maxLen at hc2
  subst hv
  clear h hm hLG
  unfold ptrV
  go_enter Try.func26, Try.ntmps26
  go_wp2_with fail
  go_loopw [5] (fun i wr => wr = w ∧ ∃ k : Nat, i = .int .i64 k ∧ k ≤ m ∧ Hid (∀ g ∈ G.take k, (g.1.at' : Int) ≠ x)) (fun i _ => m - (intOf i).toNat)
  case atStart => first | exact ⟨rfl, 0, rfl, by omega, hid (by simp)⟩ | exact ⟨trivial, 0, rfl, by omega, hid (by simp)⟩
  case round =>
    obtain ⟨rfl, k, rfl, hk, hr⟩ := hrel
    have HR := hid hr.out
    clear hr
    have hc := HH.out.c.2
    by_cases hlt : k < m
    · have hlt2 : (k : Int) < m := by omega
      have hkG : k < G.length := by rw [← HM.out]; exact hlt
      obtain ⟨g, hg⟩ : ∃ g, G[k]? = some g := ⟨_, List.getElem?_eq_getElem hkG⟩
      obtain ⟨b, cap', e, k0, _⟩ := HH.out.ob.cell (k * 3) (by omega)
      rw [← HM.out] at e
      cases e
      rw [(refL_get G k g hg).1] at k0
      unfold vi at k0
      have HG := hid hg
      obtain ⟨y, hy⟩ : ∃ y : Nat, y = g.1.at' := ⟨_, rfl⟩
      rw [← hy] at k0
      have HY := hid hy
      clear hg hy
      by_cases hx : (y : Int) = x
      · have hb : ((y : Int) == x) = true := by simpa using hx
        have HP := hid (HID.out (k : Int) (.inr ⟨k, by rw [HLG.out, List.length_map]; exact hkG, rfl, by
          have e2 : G[k] = g := Option.some.inj ((List.getElem?_eq_getElem hkG).symm.trans HG.out)
          simp only [HLG.out, List.getElem_map, e2, ← HY.out]
          exact hx⟩))
        clear hx
        go_wp2_with fail
        go_ret
        exact ⟨by rw [← HP.out]; rfl, 0, rfl⟩
      · have hb : ((y : Int) == x) = false := by simpa using hx
        have HX := hid hx
        clear hx
        go_wp2_with fail
        go_roundw
        case rel => exact ⟨by trivial, k + 1, by go_num, by omega, hid (fun g' hg' => by
          rw [List.take_add_one, HG.out] at hg'
          rcases List.mem_append.1 hg' with h1 | h1
          · exact HR.out g' h1
          · simp only [Option.toList, List.mem_singleton] at h1
            rw [h1, ← HY.out]; exact HX.out)⟩
        case measure => simp [intOf]; omega
    · obtain rfl : k = m := by omega
      have hlt2 : ¬ (k : Int) < k := by omega
      have HP := hid (HID.out (-1) (.inl ⟨rfl, by
        rw [HLG.out]
        exact has_none (arFind_none.2 (fun o ho => by
          obtain ⟨g, hg, rfl⟩ := List.mem_map.1 ho
          exact HR.out g (by rw [HM.out, List.take_length]; exact hg)))⟩))
      clear hlt
      go_wp2_with fail
      go_ret
      exact ⟨by rw [← HP.out]; rfl, 0, rfl⟩

def bvs (s : List Bool) : List Value := s.map Value.bool
theorem info_bool : (Try.prog.info? 4).map (fun i => (i.zero, i.size, i.bytes)) = some (some (.bool false), 1, 1) := by kernel_rfl
def ReachedPost (w : World) (L : List Ob) (roots fs ts : List Int) (e : Ending) (w' : World) : Prop :=
  ∃ v s, e = .returned v ∧ RV w' 4 1 v L.length (bvs s) ∧ s.length = L.length ∧ (∀ b ∈ fpv v, w.heap.size ≤ b) ∧ Fr [] w w' ∧ ∀ i, (h : i < L.length) → (s[i]? = some true ↔ Reach L roots (edR fs ts) (L[i].at' : Int))
/-- the row of what was seen, new since w -/
structure SeW (w wr : World) (L : List Ob) (sb m : Nat) (s : List Bool) : Prop where
  row : wr.heap[sb]? = some (.cells (bvs s).toArray 4 (0, 0))
  nw : w.heap.size ≤ sb
  fr : Fr [] w wr

def nFW (sb : Nat) (w : World) : Nat := match w.heap[sb]? with | some (.cells cs _ _) => cs.toList.countP (fun v => match v with | .bool b => !b | _ => false) | _ => 0
theorem SeW.count {w wr : World} {L : List Ob} {sb m : Nat} {s : List Bool} (h : SeW w wr L sb m s) : nFW sb wr = nF s := by
  unfold nFW nF
  rw [h.row]
  simp only [bvs, List.toList_toArray, List.countP_map]
  rfl
theorem SeW.keep {w wr wr' : World} {L : List Ob} {sb m : Nat} {s : List Bool} (h : SeW w wr L sb m s) (f : Fr [] wr wr') : SeW w wr' L sb m s := ⟨f.obj h.row (by simp), h.nw, h.fr.tr f⟩
theorem SeW.set {w wr : World} {L : List Ob} {sb m : Nat} {s : List Bool} (h : SeW w wr L sb m s) (i : Nat) : SeW w (wr.setCell ⟨sb, i, none⟩ (.bool true)) L sb m (s.set i true) := by
  refine ⟨?_, h.nw, h.fr.setCell (.inr h.nw) _⟩
  rw [heap_setCell_same wr sb i _ _ (.bool true) h.row]
  unfold bvs
  rw [List.map_set, List.setIfInBounds_toArray]
theorem SeW.cell {w wr : World} {L : List Ob} {sb m : Nat} {s : List Bool} (h : SeW w wr L sb m s) {i : Nat} (hi : i < s.length) : wr.cell? ⟨sb, i, none⟩ = some (.bool (s.getD i false)) ∧ wr.frozen? ⟨sb, i, none⟩ = false := by
  refine ⟨?_, frozen_of_row _ _ _ _ _ h.row⟩
  rw [cell_of_row _ _ _ _ _ _ h.row]
  unfold bvs
  rw [List.getElem?_toArray, List.getElem?_map, List.getElem?_eq_getElem hi, List.getD, List.getElem?_eq_getElem hi]; rfl
theorem RootsIn.more {L : List Ob} {roots : List Int} {s : List Bool} {k : Nat} (hk : k < roots.length) (h : RootsIn L (roots.take k) s) (hx : ∀ i, (hi : i < L.length) → (L[i].at' : Int) = roots.getD k 0 → s[i]? = some true) : RootsIn L (roots.take (k + 1)) s := by
  intro x hm i hi e
  have h1 : roots[k]? = some (roots.getD k 0) := by rw [List.getD, List.getElem?_eq_getElem hk]; rfl
  rw [List.take_add_one, h1] at hm
  rcases List.mem_append.1 hm with h2 | h2
  · exact h x h2 i hi e
  · simp only [Option.toList, List.mem_singleton] at h2
    exact hx i hi (e.trans h2)

set_option maxHeartbeats 4000000 in
set_option maxRecDepth 20000 in
theorem rreached_any {w : World} {q : Value} {F : List Nat} {n : Nat} {L : List Ob} (h : Ref w q F n L) {vr vf vt : Value} {roots fs ts : List Int} (hr : RI w vr roots) (hf : RI w vf fs) (ht : RI w vt ts) (hl : fs.length = ts.length) (hb1 : roots.length ≤ 1000) (hb2 : fs.length ≤ 1000) :
    Calls Try.prog 39 #[q, vr, vf, vt] w (ReachedPost w L roots fs ts) := by
  have HREF := hid h
  have HRISE := hid h.rise
  obtain ⟨rb, vl, G, hq, hLG, _, hrt⟩ := h
  have hgl := hrt.glen
  obtain ⟨m, hm⟩ : ∃ m, m = L.length := ⟨_, rfl⟩
  have hmG : G.length = m := by rw [hm, hLG, List.length_map]
  rw [hmG] at hgl
  have HM := hid hm
  obtain ⟨ao, co, hvl, _, _⟩ := hrt.ob.form
  rw [hmG] at hvl
  subst hvl
  have c1 := hrt.c.2
  obtain ⟨ar, cr, rfl, _, _⟩ := hr.form
  obtain ⟨af, cf, rfl, _, _⟩ := hf.form
  obtain ⟨at', ct, rfl, _, _⟩ := ht.form
  have HR := hid hr
  have HF := hid hf
  have HT := hid ht
  obtain ⟨lr, hlr⟩ : ∃ m, m = roots.length := ⟨_, rfl⟩
  obtain ⟨lf, hlf⟩ : ∃ m, m = fs.length := ⟨_, rfl⟩
  have HLR := hid hlr
  have HLF := hid hlf
  have HLT := hid (show lf = ts.length by rw [hlf]; exact hl)
  rw [← hl, ← hlf] at HT ⊢
  rw [← hlf] at HF hb2 
  rw [← hlr] at HR hb1 ⊢
  obtain ⟨ib, hib, hzb, hsb, hbb⟩ := info_parts info_bool
  have hmk := fun (W : World) => run_make (P := Try.prog) (w := W) 79 4 ib (.bool false) Try.underlying79 hib hzb .i64 .i64 (m : Int) (m : Int) (by omega) (Int.le_refl _) (by rw [hbb]; omega) (by omega)
  simp only [Int.toNat_natCast, hsb, Nat.mul_one] at hmk
  have hmade : madeCells (Value.bool false).cells m = (bvs (List.replicate m false)).toArray := by
    apply Array.ext
    · simp [madeCells, bvs]
    · intro i h1 h2
      simp [madeCells, bvs, Value.cells, Nat.mod_one]
  rw [hmade] at hmk
  unfold ptrV at hq
  subst hq
  clear hr hf ht hl hrt hLG hmG hm hlr hlf hib hzb hsb hbb hmade
  go_enter Try.func39, Try.ntmps39
  go_wp2_with fail
  have H0 : Hid (∃ s, SeW w (w.alloc (.cells (bvs (List.replicate m false)).toArray 4)) L w.heap.size m s ∧ SeenT L roots fs ts s ∧ RootsIn L (roots.take 0) s) := hid
    ⟨List.replicate m false, ⟨heap_alloc_new _ _, Nat.le_refl _, (Fr.refl _ _).alloc _⟩, ⟨by rw [List.length_replicate, HM.out], fun i hi e => by rw [List.getElem?_replicate] at e; split at e <;> cases e⟩, fun x hx => by simp at hx⟩
  go_loopw [10, 11] (fun v _ wr => ∃ k : Nat, v = .int .i64 k ∧ k ≤ lr ∧ Hid (∃ s, SeW w wr L w.heap.size m s ∧ SeenT L roots fs ts s ∧ RootsIn L (roots.take k) s)) (fun v _ _ => lr - (intOf v).toNat)
  case atStart => exact ⟨0, rfl, by omega, H0⟩
  case round =>
    obtain ⟨k, rfl, hk, hr⟩ := hrel
    obtain ⟨s, hse, hst, hri⟩ := hr.out
    have HSE := hid hse
    have HST := hid hst
    have HRI := hid hri
    clear hr hse hst hri
    by_cases hlt : k < lr
    · have hlt2 : (k : Int) < lr := by omega
      have hkb : (k : Int) ≤ 1000 := by omega
      have hkr : k < roots.length := by rw [← HLR.out]; exact hlt
      obtain ⟨b, c', e, hc⟩ := RI.cell (RV.keep0 HR.out HSE.out.fr) k hkr
      rw [← HLR.out] at e
      injection e with e1 e2 e3
      subst e1
      clear e2 e3
      have E := hid (rfind_any (HREF.out.keep0 HSE.out.fr) (roots.getD k 0))
      have HXR : Hid (roots.getD k 0 ∈ roots) := hid (List.mem_of_getElem? (i := k) (by rw [List.getD, List.getElem?_eq_getElem hkr]; rfl))
      have HMORE := hid (fun (s' : List Bool) (h : RootsIn L (roots.take k) s') => h.more hkr)
      generalize roots.getD k 0 = x at hc E HXR HMORE
      clear hlt hkr
      go_wp2_with fail
      refine E.out.mono ?_
      rintro e w2 ⟨⟨r, rfl, hr⟩, f2⟩
      have H2 := hid (HSE.out.keep f2)
      rcases hr with ⟨rfl, hno⟩ | ⟨i, hi, rfl, hx⟩
      · have HNO := hid hno
        clear f2 hno
        go_wp2_with fail
        go_roundw
        case rel => exact ⟨k + 1, by go_num, by omega, hid ⟨s, H2.out, HST.out, HMORE.out s HRI.out (fun i hi e => by
          have : has L x = true := has_mem.2 (List.mem_map.2 ⟨L[i], List.getElem_mem hi, e⟩)
          rw [HNO.out] at this; cases this)⟩⟩
        case measure => simp [intOf]; omega
      · have HI := hid hi
        have HX := hid hx
        obtain ⟨y1, y2⟩ := H2.out.cell (i := i) (by rw [HST.out.len]; exact hi)
        have him : (i : Int) < m := by rw [HM.out]; omega
        have hib : (i : Int) ≤ 1024 := by omega
        clear f2 hx
        go_wp2_with fail
        go_roundw
        case rel => exact ⟨k + 1, by go_num, by omega, hid ⟨s.set i true, H2.out.set i, HST.out.set HI.out (.root (by rw [HX.out]; exact HXR.out) (has_mem.2 (List.mem_map.2 ⟨L[i]'HI.out, List.getElem_mem HI.out, rfl⟩))), HMORE.out _ (fun z hz j hj e => set_true (HRI.out z hz j hj e)) (fun j hj e => by
          have : j = i := HRISE.out.inj hj HI.out (e.trans HX.out.symm)
          subst this
          rw [List.getElem?_set_self (by rw [HST.out.len]; exact hj)])⟩⟩
        case measure => simp [intOf]; omega
    · obtain rfl : k = lr := by omega
      have hlt2 : ¬ (k : Int) < k := by omega
      have hri2 := HRI.out
      rw [HLR.out, List.take_length] at hri2
      have HRI2 := hid hri2
      clear hlt hri2
      go_wp2_with fail
      go_loopw [12, 13, 14, 15] (fun v _ _ _ wr => ∃ mo : Bool, v = .bool mo ∧ Hid (∃ s, SeW w wr L w.heap.size m s ∧ SeenT L roots fs ts s ∧ RootsIn L roots s ∧ nF s ≤ 1024 ∧ (mo = false → ∀ t, t < lf → EdgeIn L (fs.getD t 0) (ts.getD t 0) s))) (fun v _ _ _ wr => match v with | .bool true => 1 + nFW w.heap.size wr | _ => 0)
      case atStart =>
        refine ⟨true, rfl, hid ⟨s, HSE.out, HST.out, HRI2.out, ?_, fun h => by cases h⟩⟩
        have h1 : nF s ≤ s.length := List.countP_le_length
        rw [HST.out.len, ← HM.out] at h1
        omega
      case round =>
        obtain ⟨mo, rfl, hr⟩ := hrel
        obtain ⟨s2, hse, hst, hri, hnf, hed⟩ := hr.out
        have HSE2 := hid hse
        have HST2 := hid hst
        have HRI3 := hid hri
        have HNF := hid hnf
        have HED := hid hed
        clear hr hse hst hri hnf hed
        cases mo with
        | false =>
          have HP : Hid (ReachedPost w L roots fs ts (.returned (.slice (some ⟨w.heap.size, 0, none⟩) m m)) wr) := hid (by
            refine ⟨_, s2, rfl, ?_, HST2.out.len, fun b hb => ?_, HSE2.out.fr, fun i hi => HST2.out.done HRISE.out (by rw [← HLF.out]; exact HLT.out) HRI3.out (fun t ht => HED.out rfl t (by rw [HLF.out]; exact ht)) i hi⟩
            · rw [HM.out]
              refine RV.mk HSE2.out.row (Nat.le_refl _) (by unfold maxLen; rw [← HM.out]; omega) ?_ ?_
              · unfold bvs; simp [HST2.out.len]
              · rw [Nat.mul_one, List.toList_toArray, List.take_of_length_le (by unfold bvs; rw [List.length_map, HST2.out.len]; exact Nat.le_refl _)]
            · simp [fpv, Value.ownBlock] at hb; omega)
          go_wp2_with fail
          go_ret
          exact HP.out
        | true =>
          have hnw : nFW w.heap.size wr = nF s2 := HSE2.out.count
          have HNW := hid hnw
          clear hnw
          go_wp2_with fail
          obtain ⟨wo, hwo⟩ : ∃ w, w = wr := ⟨_, rfl⟩
          subst hwo
          go_loopw [12, 13, 14, 15] (fun v i _ _ wr => ∃ (j : Nat) (mo : Bool), i = .int .i64 j ∧ j ≤ lf ∧ v = .bool mo ∧ Hid (∃ s, SeW w wr L w.heap.size m s ∧ SeenT L roots fs ts s ∧ RootsIn L roots s ∧ nF s ≤ 1024 ∧ (mo = true → nF s < nF s2) ∧ (mo = false → nF s ≤ nF s2 ∧ ∀ t, t < j → EdgeIn L (fs.getD t 0) (ts.getD t 0) s))) (fun _ i _ _ _ => lf - (intOf i).toNat)
          case atStart => exact ⟨0, false, rfl, by omega, rfl, hid ⟨s2, HSE2.out, HST2.out, HRI3.out, HNF.out, fun h => (by cases h), fun _ => ⟨Nat.le_refl _, fun t ht => by omega⟩⟩⟩
          case round =>
            obtain ⟨j, mo, rfl, hj, rfl, hr⟩ := hrel
            obtain ⟨s3, hse, hst, hri, hnf, hmo, hed⟩ := hr.out
            have HSE3 := hid hse
            have HST3 := hid hst
            have HRI4 := hid hri
            have HNF3 := hid hnf
            have HMO := hid hmo
            have HED3 := hid hed
            clear hr hse hst hri hnf hmo hed
            by_cases hjl : j < lf
            · have hjl2 : (j : Int) < lf := by omega
              have hjb : (j : Int) ≤ 1000 := by omega
              have HFC : Hid (∀ w', Fr [] w w' → ∃ b, af = some ⟨b, 0, none⟩ ∧ w'.cell? ⟨b, j, none⟩ = some (.int .i64 (fs.getD j 0))) := hid (fun w' f => by
                obtain ⟨b, c, e, h1⟩ := RI.cell (RV.keep0 HF.out f) j (by rw [← HLF.out]; exact hjl)
                injection e with e1 _ _
                exact ⟨b, e1, h1⟩)
              have HTC : Hid (∀ w', Fr [] w w' → ∃ b, at' = some ⟨b, 0, none⟩ ∧ w'.cell? ⟨b, j, none⟩ = some (.int .i64 (ts.getD j 0))) := hid (fun w' f => by
                obtain ⟨b, c, e, h1⟩ := RI.cell (RV.keep0 HT.out f) j (by rw [← HLT.out]; exact hjl)
                injection e with e1 _ _
                exact ⟨b, e1, h1⟩)
              obtain ⟨bf, haf, hcf⟩ := HFC.out wr HSE3.out.fr
              obtain ⟨bt, hat, hct⟩ := HTC.out wr HSE3.out.fr
              subst haf
              subst hat
              have HFD : Hid (∀ w', Fr [] wr w' → w'.cell? ⟨bf, j, none⟩ = some (.int .i64 (fs.getD j 0)) ∧ w'.cell? ⟨bt, j, none⟩ = some (.int .i64 (ts.getD j 0))) := hid (fun w' f => ⟨f.cell hcf (by simp), f.cell hct (by simp)⟩)
              have HFQ := hid (fun (x : Int) (w' : World) (f : Fr [] wr w') => rfind_quiet (HREF.out.keep0 (HSE3.out.fr.tr f)) x)
              unfold QPost at HFQ
              obtain ⟨x, hx⟩ : ∃ x, x = fs.getD j 0 := ⟨_, rfl⟩
              obtain ⟨y, hy⟩ : ∃ x, x = ts.getD j 0 := ⟨_, rfl⟩
              rw [← hx, ← hy] at HFD
              rw [← hx] at hcf
              rw [← hy] at hct
              have HXY := hid (And.intro hx hy)
              have HJL := hid hjl
              clear hx hy HFC HTC hjl
              go_upto_region 14 with (fail)
              go_cut [14, 15] from 40 to 85 (fun va vb wx => ∃ ia ib : Int, va = .int .i64 ia ∧ vb = .int .i64 ib ∧ Hid (IdxOf L x ia ∧ IdxOf L y ib ∧ Fr [] wr wx))
              case first =>
                go_quiet ((go_at_call 26; exact Calls.quiet_of (HFQ.out _ _ (drewN_fr _ _))))
                go_wp2_with fail
                go_meet
                case rel => exact ⟨_, _, rfl, rfl, hid ⟨idxI_of L x, idxI_of L y, drewN_fr _ _⟩⟩
              case rest =>
              obtain ⟨ia, ib, rfl, rfl, hcut⟩ := hcut
              have HIA := hid hcut.out.1
              have HIB := hid hcut.out.2.1
              have HSE4 := hid (HSE3.out.keep hcut.out.2.2)
              have HNEXT : Hid (EdgeIn L x y s3 → (mo = false → nF s3 ≤ nF s2 ∧ ∀ t, t < j + 1 → EdgeIn L (fs.getD t 0) (ts.getD t 0) s3)) := hid (fun he h => ⟨(HED3.out h).1, fun t ht => by
                by_cases htj : t = j
                · subst htj; rw [← HXY.out.1, ← HXY.out.2]; exact he
                · exact (HED3.out h).2 t (by omega)⟩)
              have hjlf : j + 1 ≤ lf := HJL.out
              clear hcut
              rcases HIA.out with ⟨rfl, hna⟩ | ⟨i, hi, rfl, hx⟩
              · have HE := hid (HNEXT.out (fun i _ hi _ e _ _ => by
                  have : has L x = true := has_mem.2 (List.mem_map.2 ⟨L[i], List.getElem_mem hi, e⟩)
                  rw [hna] at this; cases this))
                clear hna
                go_wp2_with fail
                go_roundw
                case rel => exact ⟨j + 1, mo, by go_num, hjlf, rfl, hid ⟨s3, HSE4.out, HST3.out, HRI4.out, HNF3.out, HMO.out, HE.out⟩⟩
                case measure => simp [intOf]; omega
              · rcases HIB.out with ⟨rfl, hnb⟩ | ⟨i2, hi2, rfl, hy⟩
                · have HE := hid (HNEXT.out (fun _ i _ hi _ e _ => by
                    have : has L y = true := has_mem.2 (List.mem_map.2 ⟨L[i], List.getElem_mem hi, e⟩)
                    rw [hnb] at this; cases this))
                  clear hnb hx
                  go_wp2_with fail
                  go_roundw
                  case rel => exact ⟨j + 1, mo, by go_num, hjlf, rfl, hid ⟨s3, HSE4.out, HST3.out, HRI4.out, HNF3.out, HMO.out, HE.out⟩⟩
                  case measure => simp [intOf]; omega
                · obtain ⟨y1, _⟩ := HSE4.out.cell (i := i) (by rw [HST3.out.len]; exact hi)
                  obtain ⟨y2, y3⟩ := HSE4.out.cell (i := i2) (by rw [HST3.out.len]; exact hi2)
                  have g1 : s3[i]? = some (s3.getD i false) := by rw [List.getD, List.getElem?_eq_getElem (by rw [HST3.out.len]; exact hi)]; rfl
                  have g2 : s3[i2]? = some (s3.getD i2 false) := by rw [List.getD, List.getElem?_eq_getElem (by rw [HST3.out.len]; exact hi2)]; rfl
                  have him : (i : Int) < m := by rw [HM.out]; omega
                  have hib : (i : Int) ≤ 1024 := by omega
                  have hi2m : (i2 : Int) < m := by rw [HM.out]; omega
                  have hi2b : (i2 : Int) ≤ 1024 := by omega
                  have HX := hid hx
                  have HY := hid hy
                  have HI1 := hid hi
                  have HI2 := hid hi2
                  obtain ⟨b1, hb1'⟩ : ∃ b, b = s3.getD i false := ⟨_, rfl⟩
                  obtain ⟨b2, hb2'⟩ : ∃ b, b = s3.getD i2 false := ⟨_, rfl⟩
                  rw [← hb1'] at y1 g1
                  rw [← hb2'] at y2 g2
                  have HG1 := hid g1
                  have HG2 := hid g2
                  clear hb1' hb2' g1 g2 hx hy
                  cases b1 with
                  | false =>
                    have HE := hid (HNEXT.out (fun k1 k2 h1 h2 e1 e2 e3 => by
                      have : k1 = i := HRISE.out.inj h1 HI1.out (e1.trans HX.out.symm)
                      subst this
                      rw [HG1.out] at e3; cases e3))
                    go_wp2_with fail
                    go_roundw
                    case rel => exact ⟨j + 1, mo, by go_num, hjlf, rfl, hid ⟨s3, HSE4.out, HST3.out, HRI4.out, HNF3.out, HMO.out, HE.out⟩⟩
                    case measure => simp [intOf]; omega
                  | true =>
                    cases b2 with
                    | true =>
                      have HE := hid (HNEXT.out (fun k1 k2 h1 h2 e1 e2 e3 => by
                        have : k2 = i2 := HRISE.out.inj h2 HI2.out (e2.trans HY.out.symm)
                        subst this
                        exact HG2.out))
                      go_wp2_with fail
                      go_roundw
                      case rel => exact ⟨j + 1, mo, by go_num, hjlf, rfl, hid ⟨s3, HSE4.out, HST3.out, HRI4.out, HNF3.out, HMO.out, HE.out⟩⟩
                      case measure => simp [intOf]; omega
                    | false =>
                      have hre : Reach L roots (edR fs ts) (L[i2].at' : Int) := by
                        have h1 := HST3.out.snd i hi HG1.out
                        rw [HX.out] at h1
                        refine .step h1 ((mem_edR (by rw [← HLF.out]; exact HLT.out)).2 ⟨j, by rw [← HLF.out]; exact HJL.out, HXY.out.1.symm, ?_⟩) (has_mem.2 (List.mem_map.2 ⟨L[i2], List.getElem_mem hi2, rfl⟩))
                        rw [← HXY.out.2]; exact HY.out.symm
                      have HRE := hid hre
                      have hnf := nF_set HG2.out
                      have hle : nF s3 ≤ nF s2 := by
                        cases mo with
                        | true => exact Nat.le_of_lt (HMO.out rfl)
                        | false => exact (HED3.out rfl).1
                      have HNF5 := hid (show nF (s3.set i2 true) < nF s2 by omega)
                      have hnf3 := HNF3.out
                      have HNF6 := hid (show nF (s3.set i2 true) ≤ 1024 by omega)
                      clear hre hnf hle hnf3
                      go_wp2_with fail
                      go_roundw
                      case rel => exact ⟨j + 1, true, by go_num, hjlf, rfl, hid ⟨s3.set i2 true, HSE4.out.set i2, HST3.out.set HI2.out HRE.out, fun z hz k hk e => set_true (HRI4.out z hz k hk e), HNF6.out, fun _ => HNF5.out, fun h => by cases h⟩⟩
                      case measure => simp [intOf]; omega
            · obtain rfl : j = lf := by omega
              have hjl2 : decide (j < j) = false := by simp
              have hjl3 : ¬ (j : Int) < j := by omega
              clear hjl
              go_wp2_with fail
              go_roundw
              case rel => exact ⟨mo, rfl, hid ⟨s3, HSE3.out, HST3.out, HRI4.out, HNF3.out, fun h => (HED3.out h).2⟩⟩
              case measure =>
                have h1 := HSE3.out.count
                have h2 := HNW.out
                cases mo with
                | true =>
                  have := HMO.out rfl
                  simp only [h1, h2]
                  omega
                | false => simp only [h2]; omega

end Go.Proofs.Ytgakkkifohkikaa
