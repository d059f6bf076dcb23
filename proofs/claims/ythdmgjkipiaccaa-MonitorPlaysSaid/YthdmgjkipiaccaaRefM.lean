/-
  MonitorPlays: the document's find.
  MonitorPlays: the document's has.
  MonitorPlays: the document's ints.
  MonitorPlays: the document's Same, at two that are the same.
-/
import Derived.Test.YthdmgjkipiaccaaRefJ
import Derived.RegionTactic
import Derived.Deep.QuietTactic
import Derived.BigQuiet
import Derived.StillTailTactics
import Derived.Test.YthdmgjkipiaccaaMonK
namespace Go.Proofs.Ythdmgjkipiaccaa
open Go.RowKit

def rixI (R : List RL) (a : Int) : Int := if rix R a < R.length then rix R a else -1
theorem rix_here {R : List RL} {a : Int} {j : Nat} (hj : j < R.length) (he : (R[j]).at' = a) (hno : ∀ i, (hi : i < j) → (hl : i < R.length) → (R[i]).at' ≠ a) : rixI R a = j := by
  have key : rix R a = j := by
    induction R generalizing j with
    | nil => simp at hj
    | cons x r ih =>
      unfold rix
      cases j with
      | zero => rw [if_pos (show x.at' = a from he)]
      | succ j =>
        rw [if_neg (show ¬ x.at' = a from hno 0 (by omega) (by simp)), ih (j := j) (by simpa using hj) he (fun i hi hl => hno (i + 1) (by omega) (by simpa using hl))]
  unfold rixI
  rw [key, if_pos hj]
theorem rix_no {R : List RL} {a : Int} (hno : ∀ i, (hi : i < R.length) → (R[i]).at' ≠ a) : rixI R a = -1 := by
  unfold rixI
  rcases rix_spec R a with ⟨e, _⟩ | ⟨R1, x, R2, rfl, rfl, hn, e⟩
  · rw [if_neg (by omega)]
  · exact absurd (by simp) (hno R1.length (by simp))
set_option maxHeartbeats 1000000 in
theorem dfind_any {w : World} {tb : Nat} {v : Value} {G : List RG} (h : DocT w tb v G) (hk : G.length ≤ 1000) (a : Int) : Calls Try.prog 34 #[.pointer (some ⟨tb, 0, none⟩), .int .i64 a] w fun e w' => e = .returned (.int .i64 (rixI (G.map RG.x) a)) ∧ Fr [] w w' := by
  obtain ⟨ak, ck, hvk, _, _⟩ := h.form
  obtain ⟨n, hn⟩ : ∃ n, n = G.length := ⟨_, rfl⟩
  rw [← hn] at hvk hk
  have HN := hid hn
  have HD := hid h
  have c1 := h.tbl
  rw [hvk] at c1
  have HVK := hid hvk
  clear h hn hvk
  go_enter Try.func34, Try.ntmps34
  go_wp2_with fail
  go_loop [5] (fun v => ∃ j : Nat, v = .int .i64 j ∧ j ≤ n ∧ Hid (∀ i', (hi : i' < j) → (hl : i' < G.length) → (G[i']).x.at' ≠ a)) (fun v => n - (intOf v).toNat)
  case atStart => exact ⟨0, rfl, by omega, hid (fun i' hi => by omega)⟩
  case round =>
    obtain ⟨j, rfl, hj, hno⟩ := hrel
    by_cases hlt : j < n
    · have hlt2 : (j : Int) < n := by omega
      have hjl : j < G.length := by rw [← HN.out]; exact hlt
      obtain ⟨b, cap, e, q0, qr⟩ := HD.out.lock hjl
      clear qr
      rw [HVK.out, ← HN.out] at e
      injection e with e1 e2 e3
      subst e1
      clear e2 e3
      have HJL := hid hjl
      obtain ⟨pa, hp⟩ : ∃ p, p = (G[j]'HJL.out).x.at' := ⟨_, rfl⟩
      rw [← hp] at q0
      have HP := hid hp
      have hjb : (j : Int) ≤ 1000 := by omega
      clear hp hjl
      by_cases ha : pa = a
      · subst ha
        have hh : rixI (G.map RG.x) pa = j := by
          refine rix_here (by rw [List.length_map]; exact HJL.out) (by rw [List.getElem_map]; exact HP.out.symm) (fun i hi hl => ?_)
          rw [List.getElem_map]
          exact hno.out i hi (by simpa using hl)
        have HH := hid hh
        clear hh
        clear hlt hno
        go_wp2_with fail
        go_ret
        exact ⟨by rw [HH.out]; rfl, by first | exact Fr.refl _ _ | exact (Fr.refl _ _).drew⟩
      · have e1 : (pa == a) = false := by simpa using ha
        have hno2 := hid (show ∀ i', (hi : i' < j + 1) → (hl : i' < G.length) → (G[i']).x.at' ≠ a from fun i' hi hl e => by
            by_cases h1 : i' = j
            · subst h1
              exact ha (HP.out.trans e)
            · exact hno.out i' (by omega) hl e)
        clear hlt hno ha
        go_wp2_with fail
        go_round
        case rel => exact ⟨j + 1, by go_num, by omega, hno2⟩
        case measure => simp [intOf]; omega
    · obtain rfl : j = n := by omega
      have hlt2 : ¬ (j : Int) < j := by omega
      have hh : rixI (G.map RG.x) a = -1 := by
        refine rix_no (fun i hi => ?_)
        have hi' : i < G.length := by simpa using hi
        rw [List.getElem_map]
        exact hno.out i (by have := HN.out; omega) hi'
      have HH := hid hh
      clear hh
      clear hlt hno
      go_wp2_with fail
      go_ret
      exact ⟨by rw [HH.out]; rfl, by first | exact Fr.refl _ _ | exact (Fr.refl _ _).drew⟩

end Go.Proofs.Ythdmgjkipiaccaa

namespace Go.Proofs.Ythdmgjkipiaccaa
open Go.RowKit

theorem hasT_here {l : List (Int × Int)} {t : Int} {j : Nat} (hj : j < l.length) (he : (l[j]).1 = t) : hasT l t = true := by
  rw [hasT_iff, ← he]; exact List.mem_map_of_mem (List.getElem_mem hj)
theorem hasT_no {l : List (Int × Int)} {t : Int} (hno : ∀ i, (hi : i < l.length) → (l[i]).1 ≠ t) : hasT l t = false := by
  cases h : hasT l t with
  | false => rfl
  | true =>
    rw [hasT_iff] at h
    obtain ⟨p, hp, e⟩ := List.mem_map.1 h
    obtain ⟨i, hi, rfl⟩ := List.mem_iff_getElem.1 hp
    exact absurd e (hno i hi)
set_option maxHeartbeats 1000000 in
theorem dhas_any {w : World} {v : Value} {l : List (Int × Int)} (h : WQ w v l) (hk : l.length ≤ 1000) (t : Int) : Calls Try.prog 33 #[v, .int .i64 t] w fun e w' => e = .returned (.bool (hasT l t)) ∧ Fr [] w w' := by
  obtain ⟨ak, ck, hvk, _, _⟩ := h.form
  obtain ⟨n, hn⟩ : ∃ n, n = l.length := ⟨_, rfl⟩
  rw [← hn] at hvk hk
  have HN := hid hn
  have HD := hid h
  have HVK := hid hvk
  subst hvk
  clear h hn
  go_enter Try.func33, Try.ntmps33
  go_wp2_with fail
  go_loop [5] (fun v => ∃ j : Nat, v = .int .i64 j ∧ j ≤ n ∧ Hid (∀ i', (hi : i' < j) → (hl : i' < l.length) → (l[i']).1 ≠ t)) (fun v => n - (intOf v).toNat)
  case atStart => exact ⟨0, rfl, by omega, hid (fun i' hi => by omega)⟩
  case round =>
    obtain ⟨j, rfl, hj, hno⟩ := hrel
    by_cases hlt : j < n
    · have hlt2 : (j : Int) < n := by omega
      have hjl : j < l.length := by rw [← HN.out]; exact hlt
      obtain ⟨b, off, cap, e, q0, qr⟩ := HD.out.cell j hjl
      clear qr
      rw [← HN.out] at e
      injection e with e1 e2 e3
      subst e1
      clear e2 e3
      have HJL := hid hjl
      obtain ⟨pa, hp⟩ : ∃ p, p = (l[j]'HJL.out).1 := ⟨_, rfl⟩
      rw [List.getD, List.getElem?_eq_getElem hjl] at q0
      simp only [Option.getD_some] at q0
      rw [← hp] at q0
      have HP := hid hp
      have hjb : (j : Int) ≤ 1000 := by omega
      clear hp hjl
      by_cases ha : pa = t
      · subst ha
        have HH := hid (hasT_here HJL.out HP.out.symm)
        clear hlt hno
        go_wp2_with fail
        go_ret
        exact ⟨by rw [HH.out]; rfl, by first | exact Fr.refl _ _ | exact (Fr.refl _ _).drew⟩
      · have e1 : (pa == t) = false := by simpa using ha
        have hno2 := hid (show ∀ i', (hi : i' < j + 1) → (hl : i' < l.length) → (l[i']).1 ≠ t from fun i' hi hl e => by
            by_cases h1 : i' = j
            · subst h1
              exact ha (HP.out.trans e)
            · exact hno.out i' (by omega) hl e)
        clear hlt hno ha
        go_wp2_with fail
        go_round
        case rel => exact ⟨j + 1, by go_num, by omega, hno2⟩
        case measure => simp [intOf]; omega
    · obtain rfl : j = n := by omega
      have hlt2 : ¬ (j : Int) < j := by omega
      have hh : hasT l t = false := hasT_no (fun i hi => hno.out i (by have := HN.out; omega) hi)
      have HH := hid hh
      clear hlt hno hh
      go_wp2_with fail
      go_ret
      exact ⟨by rw [HH.out]; rfl, by first | exact Fr.refl _ _ | exact (Fr.refl _ _).drew⟩

end Go.Proofs.Ythdmgjkipiaccaa

namespace Go.Proofs.Ythdmgjkipiaccaa
open Go.RowKit

set_option maxHeartbeats 400000 in
theorem dints_any (w : World) (v u : Value) (xs ys : List Int) (hv : Qu w v xs) (hu : Qu w u ys) :
    Calls Try.prog 37 #[v, u] w fun e w' => e = .returned (.bool (decide (xs = ys))) ∧ Fr [] w w' := by
  obtain ⟨a1, c1, e1, l1, m1⟩ := hv.form
  obtain ⟨a2, c2, e2, l2, m2⟩ := hu.form
  have HV := hid hv
  have HU := hid hu
  have E1 := hid e1
  have E2 := hid e2
  subst e1
  subst e2
  clear hv hu
  unfold maxLen at m1 m2
  by_cases hl : xs.length = ys.length
  · have HL := hid hl
    rw [← hl] at HU E2 l2
    clear hl
    go_enter Try.func37, Try.ntmps37
    rw [← HL.out]
    go_wp2
    go_loopw [5] (fun i wr => ∃ k : Nat, k ≤ xs.length ∧ i = .int .i64 k ∧ Hid (∀ j, j < k → xs.getD j 0 = ys.getD j 0) ∧ Hid (Fr [] w wr)) (fun i _ => xs.length - (intOf i).toNat)
    case atStart => exact ⟨0, Nat.zero_le _, rfl, fun j hj => by omega, Fr.refl _ _⟩
    case round =>
      obtain ⟨k, hk, rfl, hno, hf⟩ := hrel
      by_cases hlt : k < xs.length
      · obtain ⟨b1, o1, cc1, e1, hcell1⟩ := (HV.out.keep0 hf.out).cell k hlt
        injection e1 with e1 e3' e3
        subst e1
        have hUs := HU.out.keep0 hf.out
        obtain ⟨b2, o2, cc2, e2, hcell2⟩ := hUs.cell k (by rw [← HL.out]; exact hlt)
        injection e2 with e2 e4' e4
        subst e2
        clear hUs e3 e4 e3' e4'
        have hk0 : (0 : Int) ≤ k := by omega
        have hk1 : (k : Int) < xs.length := by omega
        by_cases hx : xs.getD k 0 = ys.getD k 0
        · have HX := hid hx
          have HXY := hid hx
          have hb : (xs.getD k 0 != ys.getD k 0) = false := by simpa using hx
          have hb2 : (xs.getD k 0 == ys.getD k 0) = true := by simpa using hx
          clear hx
          have HNO := hid hno.out
          clear hno
          generalize xs.getD k 0 = x at hcell1 hb hb2 HX
          generalize ys.getD k 0 = y at hcell2 hb hb2 HX
          have hxy := HX.out
          subst hxy
          go_wp2_with fail
          go_region
          all_goals
            go_wp2_with fail
            go_roundw
            case rel => exact ⟨k + 1, by omega, by go_num, hid (fun j hj => by
              by_cases e : j = k
              · subst e; exact HXY.out
              · exact HNO.out j (by omega)), hid hf.out.drew⟩
            case measure => simp [intOf]; omega
        · have HNE := hid (show decide (xs = ys) = false from decide_eq_false (fun e => hx (by rw [e])))
          have hb : (xs.getD k 0 == ys.getD k 0) = false := by simpa using hx
          have hb2 : (xs.getD k 0 != ys.getD k 0) = true := by simpa using hx
          clear hx hno
          generalize xs.getD k 0 = x at hcell1 hb hb2
          generalize ys.getD k 0 = y at hcell2 hb hb2
          go_wp2_with fail
          go_region
          all_goals
            go_wp2_with fail
            go_ret
            exact ⟨congrArg (fun b => Ending.returned (Value.bool b)) HNE.out.symm, hf.out.drew⟩
      · obtain rfl : k = xs.length := by omega
        have HEQ := hid (show decide (xs = ys) = true from decide_eq_true (List.ext_getElem (HL.out) (fun j h1 h2 => by
          have := hno.out j h1
          simpa [List.getD, h1, h2] using this)))
        go_wp2
        go_ret
        exact ⟨congrArg (fun b => Ending.returned (Value.bool b)) HEQ.out.symm, hf.out⟩
  · have hlc : ((xs.length : Int) == (ys.length : Int)) = false := by
      have : ¬ (xs.length : Int) = (ys.length : Int) := by omega
      simpa using this
    have hlc2 : ((xs.length : Int) != (ys.length : Int)) = true := by
      have : ¬ (xs.length : Int) = (ys.length : Int) := by omega
      simpa using this
    have HNE := hid (show decide (xs = ys) = false from decide_eq_false (fun e => hl (by rw [e])))
    have HL := hid hl
    clear hl
    generalize xs.length = k1 at *
    generalize ys.length = k2 at *
    go_enter Try.func37, Try.ntmps37
    go_wp2
    go_ret
    exact ⟨congrArg (fun b => Ending.returned (Value.bool b)) HNE.out.symm, Fr.refl _ _⟩

end Go.Proofs.Ythdmgjkipiaccaa

namespace Go.Proofs.Ythdmgjkipiaccaa
open Go.RowKit

set_option maxHeartbeats 1000000 in
theorem dsame_any (w : World) (o c : Int) (ft : Bool) (ve vw ue uw : Value) (xs ys : List Int) (h1 : Qu w ve xs) (h2 : Qu w vw ys) (h3 : Qu w ue xs) (h4 : Qu w uw ys) :
    Calls Try.prog 23 #[.agg #[.int .i64 o, .int .i64 c, .bool ft, ve, vw], .agg #[.int .i64 o, .int .i64 c, .bool ft, ue, uw]] w fun e w' => e = .returned (.bool true) ∧ Fr [] w w' := by
  have E1 := hid (fun w' (f : Fr [] w w') => dints_any w' ve ue xs xs (h1.keep0 f) (h3.keep0 f))
  have E2 := hid (fun w' (f : Fr [] w w') => dints_any w' vw uw ys ys (h2.keep0 f) (h4.keep0 f))
  clear h1 h2 h3 h4
  go_enter Try.func23, Try.ntmps23
  go_wp2_with fail
  obtain ⟨wB, hB⟩ : ∃ wB, wB = (w.alloc (.cells #[.int .i64 o, .int .i64 c, .bool ft, ve, vw] 33)).alloc (.cells #[.int .i64 o, .int .i64 c, .bool ft, ue, uw] 33) := ⟨_, rfl⟩
  rw [← hB]
  have fB : Fr [] w wB := by rw [hB]; exact ((Fr.refl _ _).alloc _).alloc _
  have hA : (w.alloc (.cells #[.int .i64 o, .int .i64 c, .bool ft, ve, vw] 33)).heap.size = w.heap.size + 1 := by simp
  have q1 : wB.heap[w.heap.size]? = some (.cells #[.int .i64 o, .int .i64 c, .bool ft, ve, vw] 33 (0, 0)) := by
    rw [hB]; exact ((Fr.refl [] _).alloc _).obj (heap_alloc_new w _) (by simp)
  have q2 : wB.heap[w.heap.size + 1]? = some (.cells #[.int .i64 o, .int .i64 c, .bool ft, ue, uw] 33 (0, 0)) := by
    rw [hB, ← hA]; exact heap_alloc_new _ _
  clear hB hA
  have HB := hid fB
  refine (E1.out wB HB.out).mono ?_
  rintro e w1 ⟨rfl, f1⟩
  have k1 : w1.cell? ⟨w.heap.size, 4, none⟩ = some vw := by rw [cell_of_row _ _ _ _ _ _ (f1.obj q1 (by simp))]; rfl
  have k2 : w1.cell? ⟨w.heap.size + 1, 4, none⟩ = some uw := by rw [cell_of_row _ _ _ _ _ _ (f1.obj q2 (by simp))]; rfl
  have H1 := hid (HB.out.tr f1)
  clear q1 q2 f1 fB
  go_wp2_with fail
  refine (E2.out w1 H1.out).mono ?_
  rintro e w2 ⟨rfl, f2⟩
  have H2 := hid (H1.out.tr f2)
  clear f2
  go_wp2_with fail
  go_ret
  exact ⟨rfl, H2.out⟩

end Go.Proofs.Ythdmgjkipiaccaa
