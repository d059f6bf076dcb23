/-
  MonitorPlays: the document's Forget.
-/
import Derived.Test.YthdmgjkipiaccaaRdH
namespace Go.Proofs.Ythdmgjkipiaccaa
open Go.RowKit

theorem cellsG_len (G : List RG) : (cellsG G).length = G.length * 6 := by
  induction G with
  | nil => rfl
  | cons g r ih => rw [show g :: r = [g] ++ r by rfl, cellsG_app, List.length_append, ih, cellsG_one]; simp [RG.cells]; omega
theorem DocT.ones {w : World} {tb : Nat} {v : Value} {G G' : List RG} (h : DocT w tb v G) (hs : ∀ g ∈ G', g ∈ G) : ∀ u ∈ cellsG G', u.oneCell' = true := by
  intro u hu
  obtain ⟨g, hg, hu⟩ := List.mem_flatMap.1 hu
  exact RG.one (h.wq g (hs g hg)) u hu
theorem cellsG_split (G : List RG) (i : Nat) : cellsG (G.take i) ++ cellsG (G.drop i) = cellsG G := by rw [← cellsG_app, List.take_append_drop]
theorem cellsG_takelen {G : List RG} {i : Nat} (h : i ≤ G.length) : (cellsG (G.take i)).length = i * 6 := by rw [cellsG_len, List.length_take, Nat.min_eq_left h]
theorem cellsG_take (G : List RG) (i : Nat) : cellsG (G.take i) = (cellsG G).take (i * 6) := by
  by_cases h : i ≤ G.length
  · have hl := cellsG_takelen h
    rw [← cellsG_split G i]
    generalize cellsG (G.take i) = A at hl
    rw [List.take_append, hl, Nat.sub_self, List.take_zero, List.append_nil, List.take_of_length_le (by rw [hl]; exact Nat.le_refl _)]
  · rw [List.take_of_length_le (by omega), List.take_of_length_le (by rw [cellsG_len]; omega)]
theorem cellsG_drop (G : List RG) (i : Nat) : cellsG (G.drop i) = (cellsG G).drop (i * 6) := by
  by_cases h : i ≤ G.length
  · have hl := cellsG_takelen h
    rw [← cellsG_split G i]
    generalize cellsG (G.take i) = A at hl
    generalize cellsG (G.drop i) = B
    rw [List.drop_append, hl, Nat.sub_self, List.drop_zero, List.drop_eq_nil_of_le (by rw [hl]; exact Nat.le_refl _), List.nil_append]
  · rw [List.drop_eq_nil_of_le (by omega), List.drop_eq_nil_of_le (by rw [cellsG_len]; omega)]
    rfl
/-- the cells of the table's row -/
theorem DocT.at' {w : World} {tb b n cap : Nat} {G : List RG} (h : DocT w tb (.slice (some ⟨b, 0, none⟩) n cap) G) {j : Nat} {u : Value} (hu : (cellsG G)[j]? = some u) : w.cell? ⟨b, j, none⟩ = some u := by
  have hj : j < G.length * 6 := by rw [← cellsG_len]; exact (List.getElem?_eq_some_iff.1 hu).1
  rcases h.row.parts with ⟨e, _⟩ | ⟨b', cap', cur, e, hh, hl, hc, hs, ht⟩
  · cases e
  · cases e
    rw [cell_of_row _ _ _ _ _ _ hh]
    have e3 := congrArg (fun l => l[j]?) ht
    simp only [List.getElem?_take, Array.getElem?_toList] at e3
    rw [if_pos (by omega)] at e3
    rw [e3]; exact hu
/-- append([]Lock(nil), t.l[:i]...) -/
theorem run_head {w : World} {tb b n cap : Nat} {G : List RG} (h : DocT w tb (.slice (some ⟨b, 0, none⟩) n cap) G) (hG : G.length ≤ 1000) {i : Nat} (hi : i ≤ G.length) :
    ∃ a1 c1 w1, (Builtin.append_ #[44, 44] 44 #[.slice none 0 0, .slice (some ⟨b, 0, none⟩) i cap]).run Try.prog w = .ok (.slice a1 i c1) w1 ∧ RV w1 77 6 (.slice a1 i c1) i (cellsG (G.take i)) ∧ Fr [] w w1 ∧ ∀ x ∈ fpv (.slice a1 i c1), w.heap.size ≤ x := by
  obtain ⟨i0, hi', hz0, hz1, hz2⟩ := info_parts info_lck
  have hlen : (cellsG (G.take i)).length = i * 6 := by rw [cellsG_len, List.length_take, Nat.min_eq_left hi]
  obtain ⟨v', w', hr, k1, k2, k3⟩ := run_append_rv (P := Try.prog) (w := w) 44 77 i0 _ 6 80 Try.underlying44 hi' hz0 hz1 hz2 rfl (by decide) (.slice none 0 0) 0 [] (RV.nil _ _ _) ⟨b, 0, none⟩ i (cellsG (G.take i)) hlen
    (fun j u hu => by
      rw [Addr.add_lit, Nat.zero_add]
      rw [cellsG_take, List.getElem?_take] at hu
      split at hu
      · exact h.at' hu
      · cases hu) (h.ones (fun g hg => List.mem_of_mem_take hg)) (by unfold maxLen; omega) (by omega) 44 cap
  rw [Nat.zero_add, List.nil_append] at k1
  obtain ⟨a1, c1, e, _, _⟩ := k1.form
  subst e
  refine ⟨a1, c1, w', hr, k1, by simpa [fpv, Value.ownBlock] using k2, fun x hx => ?_⟩
  rcases k3 x hx with k | k
  · simp [fpv, Value.ownBlock] at k
  · exact k
/-- append(.., t.l[i+1:]...) -/
theorem run_rest {w w1 : World} {tb b n cap : Nat} {G : List RG} (h : DocT w tb (.slice (some ⟨b, 0, none⟩) n cap) G) (hn : n = G.length) (hG : G.length ≤ 1000) {i : Nat} (hi : i < G.length) {a1 : Option Addr} {c1 : Nat} (hr1 : RV w1 77 6 (.slice a1 i c1) i (cellsG (G.take i))) (f1 : Fr [] w w1)
    (hx1 : ∀ x ∈ fpv (.slice a1 i c1), w.heap.size ≤ x) (o c : Nat) (ho : n - (i + 1) = 0 ∨ o = (i + 1) * 6) :
    ∃ a2 c2 w2, (Builtin.append_ #[44, 44] 44 #[.slice a1 i c1, .slice (some ⟨b, o, none⟩) (n - (i + 1)) c]).run Try.prog w1 = .ok (.slice a2 (n - 1) c2) w2 ∧ RV w2 77 6 (.slice a2 (n - 1) c2) (n - 1) (cellsG (G.take i ++ G.drop (i + 1))) ∧ Fr [] w w2 ∧ ∀ x ∈ fpv (.slice a2 (n - 1) c2), w.heap.size ≤ x := by
  subst hn
  obtain ⟨i0, hi', hz0, hz1, hz2⟩ := info_parts info_lck
  have hlen : (cellsG (G.drop (i + 1))).length = (G.length - (i + 1)) * 6 := by rw [cellsG_len, List.length_drop]
  obtain ⟨v', w', hr, k1, k2, k3⟩ := run_append_rv (P := Try.prog) (w := w1) 44 77 i0 _ 6 80 Try.underlying44 hi' hz0 hz1 hz2 rfl (by decide) (.slice a1 i c1) i (cellsG (G.take i)) hr1 ⟨b, o, none⟩ (G.length - (i + 1)) (cellsG (G.drop (i + 1))) hlen
    (fun j u hu => by
      rw [Addr.add_lit]
      have hj : j < (G.length - (i + 1)) * 6 := by rw [← hlen]; exact (List.getElem?_eq_some_iff.1 hu).1
      have ho : o = (i + 1) * 6 := by
        rcases ho with h0 | h0
        · rw [h0] at hj; omega
        · exact h0
      subst ho
      rw [cellsG_drop, List.getElem?_drop] at hu
      exact f1.cell (h.at' hu) (by simp)) (h.ones (fun g hg => List.mem_of_mem_drop hg)) (by unfold maxLen; omega) (by omega) 44 c
  rw [← cellsG_app, show i + (G.length - (i + 1)) = G.length - 1 by omega] at k1
  obtain ⟨a2, c2, e, _, _⟩ := k1.form
  subst e
  refine ⟨a2, c2, w', hr, k1, f1.trans k2 (fun x hx => .inr (hx1 x hx)), fun x hx => ?_⟩
  rcases k3 x hx with k | k
  · exact hx1 x k
  · have := f1.size; omega
theorem rForget_no {R : List RL} {a : Int} (h : ¬ rix R a < R.length) : rForget R a = (0, R) := by unfold rForget; rw [if_neg h]
theorem rForget_at {G : List RG} {a : Int} {i : Nat} (hi : i < G.length) (he : i = rix (G.map RG.x) a) : rForget (G.map RG.x) a = if G[i].x.owner ≠ 0 ∨ G[i].x.entry ≠ [] ∨ G[i].x.wait ≠ [] then (130, G.map RG.x) else (0, (G.take i ++ G.drop (i + 1)).map RG.x) := by
  subst he
  unfold rForget
  rw [if_pos (by rw [List.length_map]; exact hi), gx hi, List.map_append, List.map_take, List.map_drop]

set_option maxRecDepth 20000 in
set_option maxHeartbeats 2000000 in
theorem dforget_any {w : World} {tb : Nat} {F : List Nat} {R : List RL} (h : Doc w tb F R) (hk : RBd R 1000) (a : Int) : Calls Try.prog 22 #[.pointer (some ⟨tb, 0, none⟩), .int .i64 a] w fun e w' => e = .returned (.int .i64 (rForget R a).1) ∧ DMv w w' tb F (rForget R a).2 := by
  obtain ⟨v, G, rfl, rfl, h⟩ := h
  have HC := hid (dfind_any h hk.glen a)
  obtain ⟨i, hi⟩ : ∃ i, i = rix (G.map RG.x) a := ⟨_, rfl⟩
  by_cases hl : i < G.length
  · have hr : rixI (G.map RG.x) a = (i : Int) := by rw [rixI_at (by rw [← hi, List.length_map]; exact hl), ← hi]
    rw [hr] at HC
    have HFO := hid (rForget_at hl hi)
    have HD := hid h
    obtain ⟨x, hx⟩ : ∃ x, x = (G[i]'hl).x := ⟨_, rfl⟩
    have hlen := hk.glen
    rw [← hx] at HFO
    have HX := hid hx
    have hi0 : (0 : Int) ≤ i := by omega
    clear h hi hr hk hx
    go_enter Try.func22, Try.ntmps22
    go_wp2_with fail
    refine HC.out.mono ?_
    rintro e w2 ⟨rfl, f2⟩
    have d2 := HD.out.keep0 f2
    obtain ⟨b, cap, e, q0, q1, q2, q3, q4, q5, fz⟩ := d2.lock hl
    have c2 := d2.tbl
    have z2 := d2.tblz
    obtain ⟨wq1, wq2⟩ := d2.wqat hl
    rw [← HX.out] at q1 wq1 wq2
    obtain ⟨ae, ce, hve, _, _⟩ := wq1.form
    obtain ⟨aw, cw, hvw, _, _⟩ := wq2.form
    obtain ⟨n1, hn1⟩ : ∃ n1, n1 = x.entry.length := ⟨_, rfl⟩
    obtain ⟨n2, hn2⟩ : ∃ n1, n1 = x.wait.length := ⟨_, rfl⟩
    rw [hve, ← hn1] at q4
    rw [hvw, ← hn2] at q5
    have HE := hid e
    obtain ⟨n, hn⟩ : ∃ n, n = G.length := ⟨_, rfl⟩
    rw [e, ← hn] at c2
    have hin : (i : Int) < n := by omega
    have hib : (i : Int) ≤ 1000 := by omega
    obtain ⟨ow, how⟩ : ∃ z, z = x.owner := ⟨_, rfl⟩
    rw [← how] at q1
    rw [← how] at HFO
    have HOW := hid how
    have HN1 := hid hn1
    have HN2 := hid hn2
    have HN := hid hn
    have F2 := hid f2
    have D2 := hid d2
    clear f2 d2 q0 q2 q3 wq1 wq2 hve hvw fz how hn1 hn2 hn
    subst e
    by_cases ho : ow = 0
    · subst ho
      by_cases h1 : n1 = 0
      · subst h1
        by_cases h2 : n2 = 0
        · subst h2
          have he : x.entry = [] := List.length_eq_zero_iff.1 HN1.out.symm
          have hw : x.wait = [] := List.length_eq_zero_iff.1 HN2.out.symm
          have HFO2 := HFO.out
          rw [he, hw] at HFO2
          simp only [ne_eq, not_true_eq_false, or_self, if_false] at HFO2
          have HFO3 := hid HFO2
          clear HFO2 he hw HFO
          go_upto_region 6 with (fail)
          have hlc : n ≤ cap := by
            obtain ⟨_, _, e, h1, _⟩ := D2.out.row.form
            injection e with _ _ e3
            rw [HN.out, e3]; exact h1
          have hlc2 : (n : Int) ≤ cap := by omega
          have hinat : i + 1 ≤ n := by omega
          have hin1 : (i : Int) + 1 ≤ n := by omega
          have hic : (i : Int) ≤ cap := by omega
          have hi00 : (0 : Int) ≤ i := by omega
          clear q1 q4 q5
          have hw1 : IntKind.i64.wrap ((i : Int) + 1) = (i : Int) + 1 := by rw [IntKind.wrap_i64]; omega
          have hb1 : (0 : Int) ≤ (i : Int) + 1 := by omega
          have htn : ((i : Int) + 1).toNat = i + 1 := by omega
          by_cases hck : cap = i + 1
          · subst hck
            obtain rfl : n = i + 1 := by omega
            have hii : (i : Int) ≤ (i : Int) + 1 := by omega
            refine wp_region_T (fun w' => w'.cell? ⟨tb, 0, none⟩ = some (.slice (some ⟨b, 0, none⟩) (i + 1) (i + 1))) 18 (by kernel_rfl) (by go_simp) (fun hHeld => ?_)
            refine wpAnyT_take [0] (i := 0) (v := ?va0) rfl (by kernel_rfl) (by kernel_rfl) (by kernel_rfl) (by kernel_rfl) (fun _ _ _ h => h) (Or.inl ⟨by rfl, ?ya0⟩) hHeld ?ra0
            case ya0 => ((intro w hSw; (try dsimp only at hSw); go_simp) <;> with_reducible rfl)
            try simp only [Act.put, List.getElem_toArray, List.getElem_cons_zero, List.getElem_cons_succ, List.setIfInBounds_toArray, List.set_cons_zero, List.set_cons_succ]
            refine wpAnyT_take [1] (i := 1) (v := ?va1) rfl (by kernel_rfl) (by kernel_rfl) (by kernel_rfl) (by kernel_rfl) (fun _ _ _ h => h) (Or.inl ⟨by rfl, ?ya1⟩) hHeld ?ra1
            case ya1 => ((intro w hSw; (try dsimp only at hSw); go_simp) <;> with_reducible rfl)
            try simp only [Act.put, List.getElem_toArray, List.getElem_cons_zero, List.getElem_cons_succ, List.setIfInBounds_toArray, List.set_cons_zero, List.set_cons_succ]
            refine wpAnyT_take [2] (i := 2) (v := ?va2) rfl (by kernel_rfl) (by kernel_rfl) (by kernel_rfl) (by kernel_rfl) (fun _ _ _ h => h) (Or.inl ⟨by rfl, ?ya2⟩) hHeld ?ra2
            case ya2 => ((intro w hSw; (try dsimp only at hSw); go_simp) <;> with_reducible rfl)
            try simp only [Act.put, List.getElem_toArray, List.getElem_cons_zero, List.getElem_cons_succ, List.setIfInBounds_toArray, List.set_cons_zero, List.set_cons_succ]
            refine wpAnyT_take [3] (i := 3) (v := ?va3) rfl (by kernel_rfl) (by kernel_rfl) (by kernel_rfl) (by kernel_rfl) (fun _ _ _ h => h) (Or.inl ⟨by rfl, ?ya3⟩) hHeld ?ra3
            case ya3 => ((intro w hSw; (try dsimp only at hSw); go_simp) <;> with_reducible rfl)
            try simp only [Act.put, List.getElem_toArray, List.getElem_cons_zero, List.getElem_cons_succ, List.setIfInBounds_toArray, List.set_cons_zero, List.set_cons_succ]
            refine wpAnyT_take [4] (i := 4) (v := ?va4) rfl (by kernel_rfl) (by kernel_rfl) (by kernel_rfl) (by kernel_rfl) (fun _ _ _ h => h) (Or.inl ⟨by rfl, ?ya4⟩) hHeld ?ra4
            case ya4 => ((intro w hSw; (try dsimp only at hSw); go_simp) <;> with_reducible rfl)
            try simp only [Act.put, List.getElem_toArray, List.getElem_cons_zero, List.getElem_cons_succ, List.setIfInBounds_toArray, List.set_cons_zero, List.set_cons_succ]
            refine wpAnyT_take [5] (i := 5) (v := ?va5) rfl (by kernel_rfl) (by kernel_rfl) (by kernel_rfl) (by kernel_rfl) (fun _ _ _ h => h) (Or.inl ⟨by rfl, ?ya5⟩) hHeld ?ra5
            case ya5 => ((intro w hSw; (try dsimp only at hSw); go_simp) <;> with_reducible rfl)
            try simp only [Act.put, List.getElem_toArray, List.getElem_cons_zero, List.getElem_cons_succ, List.setIfInBounds_toArray, List.set_cons_zero, List.set_cons_succ]
            refine wpAnyT_take [6] (i := 6) (v := ?va6) rfl (by kernel_rfl) (by kernel_rfl) (by kernel_rfl) (by kernel_rfl) (fun _ _ _ h => h) (Or.inl ⟨by rfl, ?ya6⟩) hHeld ?ra6
            case ya6 => ((intro w hSw; (try dsimp only at hSw); go_simp) <;> with_reducible rfl)
            try simp only [Act.put, List.getElem_toArray, List.getElem_cons_zero, List.getElem_cons_succ, List.setIfInBounds_toArray, List.set_cons_zero, List.set_cons_succ]
            refine wpAnyT_take [8] (i := 8) (v := ?va8) rfl (by kernel_rfl) (by kernel_rfl) (by kernel_rfl) (by kernel_rfl) (fun _ _ _ h => h) (Or.inl ⟨by rfl, ?ya8⟩) hHeld ?ra8
            case ya8 => ((intro w hSw; (try dsimp only at hSw); go_simp) <;> with_reducible rfl)
            try simp only [Act.put, List.getElem_toArray, List.getElem_cons_zero, List.getElem_cons_succ, List.setIfInBounds_toArray, List.set_cons_zero, List.set_cons_succ]
            refine wpAnyT_take [9] (i := 9) (v := ?va9) rfl (by kernel_rfl) (by kernel_rfl) (by kernel_rfl) (by kernel_rfl) (fun _ _ _ h => h) (Or.inl ⟨by rfl, ?ya9⟩) hHeld ?ra9
            case ya9 => ((intro w hSw; (try dsimp only at hSw); go_simp) <;> with_reducible rfl)
            try simp only [Act.put, List.getElem_toArray, List.getElem_cons_zero, List.getElem_cons_succ, List.setIfInBounds_toArray, List.set_cons_zero, List.set_cons_succ]
            refine wpAnyT_take [10] (i := 10) (v := ?va10) rfl (by kernel_rfl) (by kernel_rfl) (by kernel_rfl) (by kernel_rfl) (fun _ _ _ h => h) (Or.inl ⟨by rfl, ?ya10⟩) hHeld ?ra10
            case ya10 => ((intro w hSw; (try dsimp only at hSw); go_simp) <;> with_reducible rfl)
            try simp only [Act.put, List.getElem_toArray, List.getElem_cons_zero, List.getElem_cons_succ, List.setIfInBounds_toArray, List.set_cons_zero, List.set_cons_succ]
            refine wpAnyT_take [11] (i := 11) (v := ?va11) rfl (by kernel_rfl) (by kernel_rfl) (by kernel_rfl) (by kernel_rfl) (fun _ _ _ h => h) (Or.inl ⟨by rfl, ?ya11⟩) hHeld ?ra11
            case ya11 => ((intro w hSw; (try dsimp only at hSw); go_simp) <;> with_reducible rfl)
            try simp only [Act.put, List.getElem_toArray, List.getElem_cons_zero, List.getElem_cons_succ, List.setIfInBounds_toArray, List.set_cons_zero, List.set_cons_succ]
            refine wpAnyT_take [12] (i := 12) (v := ?va12) rfl (by kernel_rfl) (by kernel_rfl) (by kernel_rfl) (by kernel_rfl) (fun _ _ _ h => h) (Or.inl ⟨by rfl, ?ya12⟩) hHeld ?ra12
            case ya12 => ((intro w hSw; (try dsimp only at hSw); go_simp) <;> with_reducible rfl)
            try simp only [Act.put, List.getElem_toArray, List.getElem_cons_zero, List.getElem_cons_succ, List.setIfInBounds_toArray, List.set_cons_zero, List.set_cons_succ]
            refine wpAnyT_take [13] (i := 13) (v := ?va13) rfl (by kernel_rfl) (by kernel_rfl) (by kernel_rfl) (by kernel_rfl) (fun _ _ _ h => h) (Or.inl ⟨by rfl, ?ya13⟩) hHeld ?ra13
            case ya13 => ((intro w hSw; (try dsimp only at hSw); go_simp) <;> with_reducible rfl)
            try simp only [Act.put, List.getElem_toArray, List.getElem_cons_zero, List.getElem_cons_succ, List.setIfInBounds_toArray, List.set_cons_zero, List.set_cons_succ]
            refine wpAnyT_take [14] (i := 14) (v := ?va14) rfl (by kernel_rfl) (by kernel_rfl) (by kernel_rfl) (by kernel_rfl) (fun _ _ _ h => h) (Or.inl ⟨by rfl, ?ya14⟩) hHeld ?ra14
            case ya14 => ((intro w hSw; (try dsimp only at hSw); go_simp) <;> with_reducible rfl)
            try simp only [Act.put, List.getElem_toArray, List.getElem_cons_zero, List.getElem_cons_succ, List.setIfInBounds_toArray, List.set_cons_zero, List.set_cons_succ]
            obtain ⟨a1, c1, w3, hr1, hv1, f3, hx1⟩ := run_head (w := w2.drew) (D2.out.keep0 (Fr.refl _ _).drew) hlen (i := i) (by omega)
            obtain ⟨a2, c2', w4, hr2, hv2, f4, hx2⟩ := run_rest (w := w2.drew) (w1 := w3) (n := (i + 1)) (by rw [HN.out]; exact D2.out.keep0 (Fr.refl _ _).drew) HN.out hlen hl hv1 f3 hx1 0 0 (.inl (Nat.sub_self _))
            rw [Nat.sub_self] at hr2
            refine wpAnyT_ready (rs := [7]) (by kernel_rfl) (by simp) ?_
            refine AllReadyT.cons rfl (fun K hK => ?_) AllReadyT.nil
            refine stepBi .append Builtin.append_ (fun _ _ _ _ => rfl) rfl _ _ _ _ rfl _ _ rfl rfl hr1 ?_
            refine hK.out _ _ (f3.cell hHeld (by simp)) (fun hHeld => ?_)
            clear hK K
            try simp only [Act.put, List.getElem_toArray, List.getElem_cons_zero, List.getElem_cons_succ, List.setIfInBounds_toArray, List.set_cons_zero, List.set_cons_succ]
            refine wpAnyT_ready (rs := [15]) (by kernel_rfl) (by simp) ?_
            refine AllReadyT.cons rfl (fun K hK => ?_) AllReadyT.nil
            refine stepBi .append Builtin.append_ (fun _ _ _ _ => rfl) rfl _ _ _ _ rfl _ _ rfl rfl hr2 ?_
            refine hK.out _ _ (f4.cell (by go_simp) (by simp)) (fun hHeld => ?_)
            clear hK K
            try simp only [Act.put, List.getElem_toArray, List.getElem_cons_zero, List.getElem_cons_succ, List.setIfInBounds_toArray, List.set_cons_zero, List.set_cons_succ]
            have z4 : w4.frozen? ⟨tb, 0, none⟩ = false := f4.frozen (v := .slice (some ⟨b, 0, none⟩) (i + 1) (i + 1)) (by go_simp) (by go_simp) (by simp)
            refine wpAnyT_take [17, 16] (i := 16) (v := ?va16) rfl (by kernel_rfl) (by kernel_rfl) (by kernel_rfl) (by kernel_rfl) (fun _ _ _ h => h) (Or.inl ⟨by rfl, ?ya16⟩) hHeld ?ra16
            case ya16 => ((intro w hSw; (try dsimp only at hSw); go_simp) <;> with_reducible rfl)
            try simp only [Act.put, List.getElem_toArray, List.getElem_cons_zero, List.getElem_cons_succ, List.setIfInBounds_toArray, List.set_cons_zero, List.set_cons_succ]
            refine wpAnyT_take [17] (i := 17) (v := ?va17) rfl (by kernel_rfl) (by kernel_rfl) (by kernel_rfl) (by kernel_rfl) (fun _ _ _ h => h) (Or.inl ⟨by rfl, ?ya17⟩) hHeld ?ra17
            case ya17 => ((intro w hSw; (try dsimp only at hSw); go_simp) <;> with_reducible rfl)
            try simp only [Act.put, List.getElem_toArray, List.getElem_cons_zero, List.getElem_cons_succ, List.setIfInBounds_toArray, List.set_cons_zero, List.set_cons_succ]
            refine wpAnyT_ready (rs := [18]) (by kernel_rfl) (by simp) ?_
            refine AllReadyT.last rfl (by kernel_rfl) (fun K hK => ?_) AllReadyT.nil
            go_simp
            refine hK.out _ _ ?_
            clear hK K
            try simp only [Act.put, List.getElem_toArray, List.getElem_cons_zero, List.getElem_cons_succ, List.setIfInBounds_toArray, List.set_cons_zero, List.set_cons_succ]
            refine wpAnyT_done (by kernel_rfl) ?_ _
            go_wp2_with fail
            go_ret
            rw [HFO3.out]
            have fw : Fr [] w2 w4 := ((Fr.refl [] w2).drew).tr f4
            have hln : (G.take i ++ G.drop (i + 1)).length = (i + 1) - 1 := by have := HN.out; rw [List.length_append, List.length_take, List.length_drop, Nat.min_eq_left (by omega)]; omega
            have hd := D2.out.row' fw (fun z hz => by simp at hz) (by rw [hln]; exact hv2) (fun g hg => by
              have hg2 : g ∈ G := by
                rcases List.mem_append.1 hg with k | k
                · exact List.mem_of_mem_take k
                · exact List.mem_of_mem_drop k
              exact ⟨(D2.out.wq g hg2).1.keep0 fw, (D2.out.wq g hg2).2.keep0 fw⟩)
            have fz : Fr (tb :: fpv (.slice (some ⟨b, 0, none⟩) G.length (i + 1))) w (w4.setCell ⟨tb, 0, none⟩ (.slice a2 ((i + 1) - 1) c2')) := ((F2.out.sub (by simp)).tr0 fw).setCell (.inl (by simp)) _
            have hnew : ∀ z ∈ tb :: fpv (.slice a2 ((i + 1) - 1) c2'), z ∈ tb :: fpv (.slice (some ⟨b, 0, none⟩) G.length (i + 1)) ∨ w.heap.size ≤ z := by
              intro z hz
              rcases List.mem_cons.1 hz with rfl | hz
              · exact .inl (by simp)
              · right; have h1 := hx2 z hz; have h2 := F2.out.size; exact Nat.le_trans h2 h1
            refine ⟨rfl, ?_⟩
            first
            | exact ⟨_, ⟨_, _, rfl, rfl, hd⟩, fz, hnew⟩
            | exact ⟨_, ⟨_, _, rfl, rfl, hd.keep0 (Fr.refl _ _).drew⟩, fz.drew, hnew⟩
          · have hck2 : i + 1 < cap := by omega
            refine wp_region_T (fun w' => w'.cell? ⟨tb, 0, none⟩ = some (.slice (some ⟨b, 0, none⟩) n cap)) 18 (by kernel_rfl) (by go_simp) (fun hHeld => ?_)
            refine wpAnyT_take [0] (i := 0) (v := ?vb0) rfl (by kernel_rfl) (by kernel_rfl) (by kernel_rfl) (by kernel_rfl) (fun _ _ _ h => h) (Or.inl ⟨by rfl, ?yb0⟩) hHeld ?rb0
            case yb0 => ((intro w hSw; (try dsimp only at hSw); go_simp) <;> with_reducible rfl)
            try simp only [Act.put, List.getElem_toArray, List.getElem_cons_zero, List.getElem_cons_succ, List.setIfInBounds_toArray, List.set_cons_zero, List.set_cons_succ]
            refine wpAnyT_take [1] (i := 1) (v := ?vb1) rfl (by kernel_rfl) (by kernel_rfl) (by kernel_rfl) (by kernel_rfl) (fun _ _ _ h => h) (Or.inl ⟨by rfl, ?yb1⟩) hHeld ?rb1
            case yb1 => ((intro w hSw; (try dsimp only at hSw); go_simp) <;> with_reducible rfl)
            try simp only [Act.put, List.getElem_toArray, List.getElem_cons_zero, List.getElem_cons_succ, List.setIfInBounds_toArray, List.set_cons_zero, List.set_cons_succ]
            refine wpAnyT_take [2] (i := 2) (v := ?vb2) rfl (by kernel_rfl) (by kernel_rfl) (by kernel_rfl) (by kernel_rfl) (fun _ _ _ h => h) (Or.inl ⟨by rfl, ?yb2⟩) hHeld ?rb2
            case yb2 => ((intro w hSw; (try dsimp only at hSw); go_simp) <;> with_reducible rfl)
            try simp only [Act.put, List.getElem_toArray, List.getElem_cons_zero, List.getElem_cons_succ, List.setIfInBounds_toArray, List.set_cons_zero, List.set_cons_succ]
            refine wpAnyT_take [3] (i := 3) (v := ?vb3) rfl (by kernel_rfl) (by kernel_rfl) (by kernel_rfl) (by kernel_rfl) (fun _ _ _ h => h) (Or.inl ⟨by rfl, ?yb3⟩) hHeld ?rb3
            case yb3 => ((intro w hSw; (try dsimp only at hSw); go_simp) <;> with_reducible rfl)
            try simp only [Act.put, List.getElem_toArray, List.getElem_cons_zero, List.getElem_cons_succ, List.setIfInBounds_toArray, List.set_cons_zero, List.set_cons_succ]
            refine wpAnyT_take [4] (i := 4) (v := ?vb4) rfl (by kernel_rfl) (by kernel_rfl) (by kernel_rfl) (by kernel_rfl) (fun _ _ _ h => h) (Or.inl ⟨by rfl, ?yb4⟩) hHeld ?rb4
            case yb4 => ((intro w hSw; (try dsimp only at hSw); go_simp) <;> with_reducible rfl)
            try simp only [Act.put, List.getElem_toArray, List.getElem_cons_zero, List.getElem_cons_succ, List.setIfInBounds_toArray, List.set_cons_zero, List.set_cons_succ]
            refine wpAnyT_take [5] (i := 5) (v := ?vb5) rfl (by kernel_rfl) (by kernel_rfl) (by kernel_rfl) (by kernel_rfl) (fun _ _ _ h => h) (Or.inl ⟨by rfl, ?yb5⟩) hHeld ?rb5
            case yb5 => ((intro w hSw; (try dsimp only at hSw); go_simp) <;> with_reducible rfl)
            try simp only [Act.put, List.getElem_toArray, List.getElem_cons_zero, List.getElem_cons_succ, List.setIfInBounds_toArray, List.set_cons_zero, List.set_cons_succ]
            refine wpAnyT_take [6] (i := 6) (v := ?vb6) rfl (by kernel_rfl) (by kernel_rfl) (by kernel_rfl) (by kernel_rfl) (fun _ _ _ h => h) (Or.inl ⟨by rfl, ?yb6⟩) hHeld ?rb6
            case yb6 => ((intro w hSw; (try dsimp only at hSw); go_simp) <;> with_reducible rfl)
            try simp only [Act.put, List.getElem_toArray, List.getElem_cons_zero, List.getElem_cons_succ, List.setIfInBounds_toArray, List.set_cons_zero, List.set_cons_succ]
            refine wpAnyT_take [8] (i := 8) (v := ?vb8) rfl (by kernel_rfl) (by kernel_rfl) (by kernel_rfl) (by kernel_rfl) (fun _ _ _ h => h) (Or.inl ⟨by rfl, ?yb8⟩) hHeld ?rb8
            case yb8 => ((intro w hSw; (try dsimp only at hSw); go_simp) <;> with_reducible rfl)
            try simp only [Act.put, List.getElem_toArray, List.getElem_cons_zero, List.getElem_cons_succ, List.setIfInBounds_toArray, List.set_cons_zero, List.set_cons_succ]
            refine wpAnyT_take [9] (i := 9) (v := ?vb9) rfl (by kernel_rfl) (by kernel_rfl) (by kernel_rfl) (by kernel_rfl) (fun _ _ _ h => h) (Or.inl ⟨by rfl, ?yb9⟩) hHeld ?rb9
            case yb9 => ((intro w hSw; (try dsimp only at hSw); go_simp) <;> with_reducible rfl)
            try simp only [Act.put, List.getElem_toArray, List.getElem_cons_zero, List.getElem_cons_succ, List.setIfInBounds_toArray, List.set_cons_zero, List.set_cons_succ]
            refine wpAnyT_take [10] (i := 10) (v := ?vb10) rfl (by kernel_rfl) (by kernel_rfl) (by kernel_rfl) (by kernel_rfl) (fun _ _ _ h => h) (Or.inl ⟨by rfl, ?yb10⟩) hHeld ?rb10
            case yb10 => ((intro w hSw; (try dsimp only at hSw); go_simp) <;> with_reducible rfl)
            try simp only [Act.put, List.getElem_toArray, List.getElem_cons_zero, List.getElem_cons_succ, List.setIfInBounds_toArray, List.set_cons_zero, List.set_cons_succ]
            refine wpAnyT_take [11] (i := 11) (v := ?vb11) rfl (by kernel_rfl) (by kernel_rfl) (by kernel_rfl) (by kernel_rfl) (fun _ _ _ h => h) (Or.inl ⟨by rfl, ?yb11⟩) hHeld ?rb11
            case yb11 => ((intro w hSw; (try dsimp only at hSw); go_simp) <;> with_reducible rfl)
            try simp only [Act.put, List.getElem_toArray, List.getElem_cons_zero, List.getElem_cons_succ, List.setIfInBounds_toArray, List.set_cons_zero, List.set_cons_succ]
            refine wpAnyT_take [12] (i := 12) (v := ?vb12) rfl (by kernel_rfl) (by kernel_rfl) (by kernel_rfl) (by kernel_rfl) (fun _ _ _ h => h) (Or.inl ⟨by rfl, ?yb12⟩) hHeld ?rb12
            case yb12 => ((intro w hSw; (try dsimp only at hSw); go_simp) <;> with_reducible rfl)
            try simp only [Act.put, List.getElem_toArray, List.getElem_cons_zero, List.getElem_cons_succ, List.setIfInBounds_toArray, List.set_cons_zero, List.set_cons_succ]
            refine wpAnyT_take [13] (i := 13) (v := ?vb13) rfl (by kernel_rfl) (by kernel_rfl) (by kernel_rfl) (by kernel_rfl) (fun _ _ _ h => h) (Or.inl ⟨by rfl, ?yb13⟩) hHeld ?rb13
            case yb13 => ((intro w hSw; (try dsimp only at hSw); go_simp) <;> with_reducible rfl)
            try simp only [Act.put, List.getElem_toArray, List.getElem_cons_zero, List.getElem_cons_succ, List.setIfInBounds_toArray, List.set_cons_zero, List.set_cons_succ]
            refine wpAnyT_take [14] (i := 14) (v := ?vb14) rfl (by kernel_rfl) (by kernel_rfl) (by kernel_rfl) (by kernel_rfl) (fun _ _ _ h => h) (Or.inl ⟨by rfl, ?yb14⟩) hHeld ?rb14
            case yb14 => ((intro w hSw; (try dsimp only at hSw); go_simp) <;> with_reducible rfl)
            try simp only [Act.put, List.getElem_toArray, List.getElem_cons_zero, List.getElem_cons_succ, List.setIfInBounds_toArray, List.set_cons_zero, List.set_cons_succ]
            obtain ⟨a1, c1, w3, hr1, hv1, f3, hx1⟩ := run_head (w := w2.drew) (D2.out.keep0 (Fr.refl _ _).drew) hlen (i := i) (by omega)
            obtain ⟨a2, c2', w4, hr2, hv2, f4, hx2⟩ := run_rest (w := w2.drew) (w1 := w3) (n := n) (by rw [HN.out]; exact D2.out.keep0 (Fr.refl _ _).drew) HN.out hlen hl hv1 f3 hx1 ((i + 1) * 6) (cap - (i + 1)) (.inr rfl)
            refine wpAnyT_ready (rs := [7]) (by kernel_rfl) (by simp) ?_
            refine AllReadyT.cons rfl (fun K hK => ?_) AllReadyT.nil
            refine stepBi .append Builtin.append_ (fun _ _ _ _ => rfl) rfl _ _ _ _ rfl _ _ rfl rfl hr1 ?_
            refine hK.out _ _ (f3.cell hHeld (by simp)) (fun hHeld => ?_)
            clear hK K
            try simp only [Act.put, List.getElem_toArray, List.getElem_cons_zero, List.getElem_cons_succ, List.setIfInBounds_toArray, List.set_cons_zero, List.set_cons_succ]
            refine wpAnyT_ready (rs := [15]) (by kernel_rfl) (by simp) ?_
            refine AllReadyT.cons rfl (fun K hK => ?_) AllReadyT.nil
            refine stepBi .append Builtin.append_ (fun _ _ _ _ => rfl) rfl _ _ _ _ rfl _ _ rfl rfl hr2 ?_
            refine hK.out _ _ (f4.cell (by go_simp) (by simp)) (fun hHeld => ?_)
            clear hK K
            try simp only [Act.put, List.getElem_toArray, List.getElem_cons_zero, List.getElem_cons_succ, List.setIfInBounds_toArray, List.set_cons_zero, List.set_cons_succ]
            have z4 : w4.frozen? ⟨tb, 0, none⟩ = false := f4.frozen (v := .slice (some ⟨b, 0, none⟩) n cap) (by go_simp) (by go_simp) (by simp)
            refine wpAnyT_take [17, 16] (i := 16) (v := ?vb16) rfl (by kernel_rfl) (by kernel_rfl) (by kernel_rfl) (by kernel_rfl) (fun _ _ _ h => h) (Or.inl ⟨by rfl, ?yb16⟩) hHeld ?rb16
            case yb16 => ((intro w hSw; (try dsimp only at hSw); go_simp) <;> with_reducible rfl)
            try simp only [Act.put, List.getElem_toArray, List.getElem_cons_zero, List.getElem_cons_succ, List.setIfInBounds_toArray, List.set_cons_zero, List.set_cons_succ]
            refine wpAnyT_take [17] (i := 17) (v := ?vb17) rfl (by kernel_rfl) (by kernel_rfl) (by kernel_rfl) (by kernel_rfl) (fun _ _ _ h => h) (Or.inl ⟨by rfl, ?yb17⟩) hHeld ?rb17
            case yb17 => ((intro w hSw; (try dsimp only at hSw); go_simp) <;> with_reducible rfl)
            try simp only [Act.put, List.getElem_toArray, List.getElem_cons_zero, List.getElem_cons_succ, List.setIfInBounds_toArray, List.set_cons_zero, List.set_cons_succ]
            refine wpAnyT_ready (rs := [18]) (by kernel_rfl) (by simp) ?_
            refine AllReadyT.last rfl (by kernel_rfl) (fun K hK => ?_) AllReadyT.nil
            go_simp
            refine hK.out _ _ ?_
            clear hK K
            try simp only [Act.put, List.getElem_toArray, List.getElem_cons_zero, List.getElem_cons_succ, List.setIfInBounds_toArray, List.set_cons_zero, List.set_cons_succ]
            refine wpAnyT_done (by kernel_rfl) ?_ _
            go_wp2_with fail
            go_ret
            rw [HFO3.out]
            have fw : Fr [] w2 w4 := ((Fr.refl [] w2).drew).tr f4
            have hln : (G.take i ++ G.drop (i + 1)).length = n - 1 := by have := HN.out; rw [List.length_append, List.length_take, List.length_drop, Nat.min_eq_left (by omega)]; omega
            have hd := D2.out.row' fw (fun z hz => by simp at hz) (by rw [hln]; exact hv2) (fun g hg => by
              have hg2 : g ∈ G := by
                rcases List.mem_append.1 hg with k | k
                · exact List.mem_of_mem_take k
                · exact List.mem_of_mem_drop k
              exact ⟨(D2.out.wq g hg2).1.keep0 fw, (D2.out.wq g hg2).2.keep0 fw⟩)
            have fz : Fr (tb :: fpv (.slice (some ⟨b, 0, none⟩) G.length cap)) w (w4.setCell ⟨tb, 0, none⟩ (.slice a2 (n - 1) c2')) := ((F2.out.sub (by simp)).tr0 fw).setCell (.inl (by simp)) _
            have hnew : ∀ z ∈ tb :: fpv (.slice a2 (n - 1) c2'), z ∈ tb :: fpv (.slice (some ⟨b, 0, none⟩) G.length cap) ∨ w.heap.size ≤ z := by
              intro z hz
              rcases List.mem_cons.1 hz with rfl | hz
              · exact .inl (by simp)
              · right; have h1 := hx2 z hz; have h2 := F2.out.size; exact Nat.le_trans h2 h1
            refine ⟨rfl, ?_⟩
            first
            | exact ⟨_, ⟨_, _, rfl, rfl, hd⟩, fz, hnew⟩
            | exact ⟨_, ⟨_, _, rfl, rfl, hd.keep0 (Fr.refl _ _).drew⟩, fz.drew, hnew⟩
        · have hp : (0 : Int) < n2 := by omega
          go_wp2_with fail
          go_ret
          rw [HFO.out, if_pos (.inr (.inr (fun k => h2 (by rw [HN2.out, k]; rfl))))]
          exact ⟨rfl, DMv.same HD.out (by first | exact F2.out | exact F2.out.tr0 (Fr.refl _ _).drew)⟩
      · have hp : (0 : Int) < n1 := by omega
        go_wp2_with fail
        go_ret
        rw [HFO.out, if_pos (.inr (.inl (fun k => h1 (by rw [HN1.out, k]; rfl))))]
        exact ⟨rfl, DMv.same HD.out (by first | exact F2.out | exact F2.out.tr0 (Fr.refl _ _).drew)⟩
    · have ho2 : (ow != 0) = true := by simpa using ho
      go_wp2_with fail
      go_ret
      rw [HFO.out, if_pos (.inl ho)]
      exact ⟨rfl, DMv.same HD.out (by first | exact F2.out | exact F2.out.tr0 (Fr.refl _ _).drew)⟩
  · have hr : rixI (G.map RG.x) a = -1 := rixI_no (by rw [← hi, List.length_map]; exact hl)
    rw [hr] at HC
    rw [rForget_no (by rw [← hi, List.length_map]; exact hl)]
    have HD := hid h
    clear h hi hr hl hk
    go_enter Try.func22, Try.ntmps22
    go_wp2_with fail
    refine HC.out.mono ?_
    rintro e w2 ⟨rfl, f2⟩
    have F2 := hid f2
    clear f2
    go_wp2_with fail
    go_ret
    exact ⟨rfl, DMv.same HD.out (by first | exact F2.out | exact F2.out.tr0 (Fr.refl _ _).drew)⟩

end Go.Proofs.Ythdmgjkipiaccaa
