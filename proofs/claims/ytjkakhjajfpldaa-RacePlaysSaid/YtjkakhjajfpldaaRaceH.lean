/-
  Package race: Write.
-/
import Derived.Test.YtjkakhjajfpldaaRaceG
namespace Go.Proofs.Ytjkakhjajfpldaa
open Go.RowKit

set_option maxHeartbeats 2000000 in
theorem write_any (w : World) (p : Ptrs) (s : St) (t a i : Int) (vol : Bool) (h : Watch w p s) :
    Calls Try.prog 15 #[.pointer (some ⟨p.b, 0, none⟩), .int .i64 t, .int .i64 a, .int .i64 i, .bool vol] w fun e w' => e = .returned (.bool (s.write t a i vol).1) ∧ Watch w' p (s.write t a i vol).2 ∧ Fr p.S w w' := by
  have fA : Fr [] w (w.alloc (.cells #[.int .i64 a, .int .i64 i] 64)) := (Fr.refl _ _).alloc _
  have hA := h.keep0 fA
  by_cases hb : inB t = true
  · cases vol with
    | true =>
      have hs : s.write t a i true = (false, s.relWord t (a, i)) := by simp [St.write, hb]
      rw [hs]
      obtain ⟨_, _, hcW, _⟩ := hA.cells
      have HC := hid (in_is t (w.alloc (.cells #[.int .i64 a, .int .i64 i] 64)) true hb)
      have HA := hid (releases_word _ p s t (a, i) hA.drew)
      have HF := hid fA
      clear hs hb hA h fA
      go_enter Try.func15, Try.ntmps15
      go_wp2_with fail
      refine HC.out.mono ?_
      rintro e w' ⟨rfl, rfl⟩
      go_wp2_with fail
      go_region_with (go_at_call 37; refine HA.out.mono ?_; rintro e w1 ⟨rfl, hw1, f1⟩)
      all_goals
        go_wp2_with fail
        go_ret
        exact ⟨rfl, hw1, ((HF.out.drew.sub (S' := p.S) (by simp)).tr f1)⟩
    | false =>
      have hs : s.write t a i false = s.writeP t (a, i) := by simp [St.write, hb]
      rw [hs]
      obtain ⟨t, rfl, h1, h2⟩ := inB_nat hb
      unfold St.writeP
      simp only [Int.toNat_natCast]
      obtain ⟨_, _, hcW, hcR, hcWr, _⟩ := hA.cells
      obtain ⟨v, hcell, hv⟩ := hA.thread t (by omega)
      have ht13 : (t : Int) < 13 := by omega
      have ht0 : (0 : Int) ≤ t := by omega
      have HC := hid (in_is t (w.alloc (.cells #[.int .i64 a, .int .i64 i] 64)) true hb)
      have hU := unordered_any _ p s p.wr s.writes t h1 h2 (a, i) hA.drew hA.drew.writes
      have hU2 : ∀ w1, Fr [] (w.alloc (.cells #[.int .i64 a, .int .i64 i] 64)).drew w1 → _ := fun w1 f => unordered_any w1 p s p.rd s.reads t h1 h2 (a, i) (hA.drew.keep0 f) (hA.drew.keep0 f).reads
      have HU2 := hid hU2
      have HF := hid fA
      have hb0 : (w.alloc (.cells #[.int .i64 a, .int .i64 i] 64)).drew.cell? ⟨w.heap.size, 0, none⟩ = some (.int .i64 a) := by simp
      have hb1 : (w.alloc (.cells #[.int .i64 a, .int .i64 i] 64)).drew.cell? ⟨w.heap.size, 1, none⟩ = some (.int .i64 i) := by simp
      have HB0 := hid hb0
      have HB1 := hid hb1
      have H := hid hA.drew
      clear hs hb hA h fA hb0 hb1 hv hU2
      cases hr1 : unord s.writes (s.th.getD t []) t (a, i) with
      | true =>
        rw [hr1] at hU
        have HU := hid hU
        clear hU hr1 HU2
        simp only [Bool.true_or]
        go_enter Try.func15, Try.ntmps15
        go_wp2_with fail
        refine HC.out.mono ?_
        rintro e w' ⟨rfl, rfl⟩
        go_wp2_with fail
        refine wp_region_held_drew (S := (fun w' => w'.cell? ⟨p.b, 16, none⟩ = some (.map (some p.rd)) ∧ w'.cell? ⟨p.b, 17, none⟩ = some (.map (some p.wr)) ∧ w'.cell? ⟨w.heap.size, 0, none⟩ = some (.int .i64 a) ∧ w'.cell? ⟨w.heap.size, 1, none⟩ = some (.int .i64 i) ∧ Fr [] (w.alloc (.cells #[.int .i64 a, .int .i64 i] 64)).drew w')) (by kernel_rfl) ⟨hcR, hcWr, HB0.out, HB1.out, Fr.refl _ _⟩ (fun hHeld => ?_)
        refine wpAnyH_take (i := 0) (v := ?v0) rfl (by kernel_rfl) (by kernel_rfl) (by kernel_rfl) (fun _ _ _ h => h) (Or.inl ⟨by rfl, ?y0⟩) hHeld ?r0
        case y0 => ((intro w hSw; (try dsimp only at hSw); go_simp) <;> with_reducible rfl)
        try simp only [Act.put, List.getElem_toArray, List.getElem_cons_zero, List.setIfInBounds_toArray, List.set_cons_zero, List.set_cons_succ]
        refine wpAnyH_take (i := 1) (v := ?v1) rfl (by kernel_rfl) (by kernel_rfl) (by kernel_rfl) (fun _ _ _ h => h) (Or.inl ⟨by rfl, ?y1⟩) hHeld ?r1
        case y1 => ((intro w hSw; (try dsimp only at hSw); go_simp) <;> with_reducible rfl)
        try simp only [Act.put, List.getElem_toArray, List.getElem_cons_zero, List.getElem_cons_succ, List.setIfInBounds_toArray, List.set_cons_zero, List.set_cons_succ]
        refine wpAnyH_take (i := 2) (v := ?v2) rfl (by kernel_rfl) (by kernel_rfl) (by kernel_rfl) (fun _ _ _ h => h) (Or.inl ⟨by rfl, ?y2⟩) hHeld ?r2
        case y2 => ((intro w hSw; (try dsimp only at hSw); go_simp) <;> with_reducible rfl)
        try simp only [Act.put, List.getElem_toArray, List.getElem_cons_zero, List.getElem_cons_succ, List.setIfInBounds_toArray, List.set_cons_zero, List.set_cons_succ]
        refine wpAnyH_take (i := 3) (v := ?v3) rfl (by kernel_rfl) (by kernel_rfl) (by kernel_rfl) (fun _ _ _ h => h) (Or.inl ⟨by rfl, ?y3⟩) hHeld ?r3
        case y3 => ((intro w hSw; (try dsimp only at hSw); go_simp) <;> with_reducible rfl)
        try simp only [Act.put, List.getElem_toArray, List.getElem_cons_zero, List.getElem_cons_succ, List.setIfInBounds_toArray, List.set_cons_zero, List.set_cons_succ]
        refine wpAnyH_take (i := 4) (v := ?v4) rfl (by kernel_rfl) (by kernel_rfl) (by kernel_rfl) (fun _ _ _ h => h) (Or.inl ⟨by rfl, ?y4⟩) hHeld ?r4
        case y4 => ((intro w hSw; (try dsimp only at hSw); go_simp) <;> with_reducible rfl)
        try simp only [Act.put, List.getElem_toArray, List.getElem_cons_zero, List.getElem_cons_succ, List.setIfInBounds_toArray, List.set_cons_zero, List.set_cons_succ]
        refine wpAnyH_take (i := 5) (v := ?v5) rfl (by kernel_rfl) (by kernel_rfl) (by kernel_rfl) (fun _ _ _ h => h) (Or.inl ⟨by rfl, ?y5⟩) hHeld ?r5
        case y5 => ((intro w hSw; (try dsimp only at hSw); go_simp) <;> with_reducible rfl)
        try simp only [Act.put, List.getElem_toArray, List.getElem_cons_zero, List.getElem_cons_succ, List.setIfInBounds_toArray, List.set_cons_zero, List.set_cons_succ]
        refine wpAnyH_take (i := 6) (v := ?v6) rfl (by kernel_rfl) (by kernel_rfl) (by kernel_rfl) (fun _ _ _ h => h) (Or.inl ⟨by rfl, ?y6⟩) hHeld ?r6
        case y6 => ((intro w hSw; (try dsimp only at hSw); go_simp) <;> with_reducible rfl)
        try simp only [Act.put, List.getElem_toArray, List.getElem_cons_zero, List.getElem_cons_succ, List.setIfInBounds_toArray, List.set_cons_zero, List.set_cons_succ]
        refine wpAnyH_ready (rs := [7]) (by kernel_rfl) (by simp) ?_
        refine AllReadyH.cons rfl (fun K hK => ?_) AllReadyH.nil
        go_simp
        refine HU.out.mono ?_; rintro e w1 ⟨rfl, f1⟩
        refine hK.out _ _ ⟨(H.out.keep0 f1).cells.2.2.2.1, (H.out.keep0 f1).cells.2.2.2.2.1, f1.cell HB0.out (by simp), f1.cell HB1.out (by simp), f1⟩ (fun hHeld => ?_)
        clear hK K
        try simp only [Act.put, List.getElem_toArray, List.getElem_cons_zero, List.getElem_cons_succ, List.setIfInBounds_toArray, List.set_cons_zero, List.set_cons_succ]
        refine wpAnyH_take (i := 8) (v := ?v8) rfl (by kernel_rfl) (by kernel_rfl) (by kernel_rfl) (fun _ _ _ h => h) (Or.inl ⟨by rfl, ?y8⟩) hHeld ?r8
        case y8 => ((intro w hSw; (try dsimp only at hSw); go_simp) <;> with_reducible rfl)
        try simp only [Act.put, List.getElem_toArray, List.getElem_cons_zero, List.getElem_cons_succ, List.setIfInBounds_toArray, List.set_cons_zero, List.set_cons_succ]
        refine wpAnyH_take (i := 9) (v := undef) rfl (by kernel_rfl) (by kernel_rfl) (by kernel_rfl) (fun _ _ _ h => h) (Or.inr ⟨by rfl, rfl⟩) hHeld ?_
        try simp only [Act.put, List.getElem_toArray, List.getElem_cons_zero, List.getElem_cons_succ, List.setIfInBounds_toArray, List.set_cons_zero, List.set_cons_succ]
        refine wpAnyH_take (i := 10) (v := undef) rfl (by kernel_rfl) (by kernel_rfl) (by kernel_rfl) (fun _ _ _ h => h) (Or.inr ⟨by rfl, rfl⟩) hHeld ?_
        try simp only [Act.put, List.getElem_toArray, List.getElem_cons_zero, List.getElem_cons_succ, List.setIfInBounds_toArray, List.set_cons_zero, List.set_cons_succ]
        refine wpAnyH_take (i := 11) (v := undef) rfl (by kernel_rfl) (by kernel_rfl) (by kernel_rfl) (fun _ _ _ h => h) (Or.inr ⟨by rfl, rfl⟩) hHeld ?_
        try simp only [Act.put, List.getElem_toArray, List.getElem_cons_zero, List.getElem_cons_succ, List.setIfInBounds_toArray, List.set_cons_zero, List.set_cons_succ]
        refine wpAnyH_take (i := 12) (v := undef) rfl (by kernel_rfl) (by kernel_rfl) (by kernel_rfl) (fun _ _ _ h => h) (Or.inr ⟨by rfl, rfl⟩) hHeld ?_
        try simp only [Act.put, List.getElem_toArray, List.getElem_cons_zero, List.getElem_cons_succ, List.setIfInBounds_toArray, List.set_cons_zero, List.set_cons_succ]
        refine wpAnyH_take (i := 13) (v := undef) rfl (by kernel_rfl) (by kernel_rfl) (by kernel_rfl) (fun _ _ _ h => h) (Or.inr ⟨by rfl, rfl⟩) hHeld ?_
        try simp only [Act.put, List.getElem_toArray, List.getElem_cons_zero, List.getElem_cons_succ, List.setIfInBounds_toArray, List.set_cons_zero, List.set_cons_succ]
        refine wpAnyH_take (i := 14) (v := undef) rfl (by kernel_rfl) (by kernel_rfl) (by kernel_rfl) (fun _ _ _ h => h) (Or.inr ⟨by rfl, rfl⟩) hHeld ?_
        try simp only [Act.put, List.getElem_toArray, List.getElem_cons_zero, List.getElem_cons_succ, List.setIfInBounds_toArray, List.set_cons_zero, List.set_cons_succ]
        refine wpAnyH_take (i := 15) (v := undef) rfl (by kernel_rfl) (by kernel_rfl) (by kernel_rfl) (fun _ _ _ h => h) (Or.inr ⟨by rfl, rfl⟩) hHeld ?_
        try simp only [Act.put, List.getElem_toArray, List.getElem_cons_zero, List.getElem_cons_succ, List.setIfInBounds_toArray, List.set_cons_zero, List.set_cons_succ]
        refine wpAnyH_take (i := 16) (v := undef) rfl (by kernel_rfl) (by kernel_rfl) (by kernel_rfl) (fun _ _ _ h => h) (Or.inr ⟨by rfl, rfl⟩) hHeld ?_
        try simp only [Act.put, List.getElem_toArray, List.getElem_cons_zero, List.getElem_cons_succ, List.setIfInBounds_toArray, List.set_cons_zero, List.set_cons_succ]
        refine wpAnyH_take (i := 17) (v := ?v17) rfl (by kernel_rfl) (by kernel_rfl) (by kernel_rfl) (fun _ _ _ h => h) (Or.inl ⟨by rfl, ?y17⟩) hHeld ?r17
        case y17 => ((intro w hSw; (try dsimp only at hSw); go_simp) <;> with_reducible rfl)
        try simp only [Act.put, List.getElem_toArray, List.getElem_cons_zero, List.getElem_cons_succ, List.setIfInBounds_toArray, List.set_cons_zero, List.set_cons_succ]
        refine wpAnyH_take (i := 18) (v := ?v18) rfl (by kernel_rfl) (by kernel_rfl) (by kernel_rfl) (fun _ _ _ h => h) (Or.inl ⟨by rfl, ?y18⟩) hHeld ?r18
        case y18 => ((intro w hSw; (try dsimp only at hSw); go_simp) <;> with_reducible rfl)
        try simp only [Act.put, List.getElem_toArray, List.getElem_cons_zero, List.getElem_cons_succ, List.setIfInBounds_toArray, List.set_cons_zero, List.set_cons_succ]
        refine wpAnyH_done (by kernel_rfl) ?_ _
        have h1 := H.out.keep0 f1
        have kb0 := f1.cell HB0.out (by simp)
        have kb1 := f1.cell HB1.out (by simp)
        obtain ⟨v1, kc, hv1⟩ := h1.thread t (by omega)
        obtain ⟨_, _, kcW, kcR, kcWr, _⟩ := h1.cells
        obtain ⟨w2, hrun, hm2, f2, _⟩ := CMap.store h1.drew.writes acc_keys und_accs ((a, i), (t : Int)) (hv1.keep0 (Fr.refl _ _).drew)
        have H2 := hid (h1.drew.putWrites f2 hm2)
        have F2 := hid ((((HF.out.drew.tr0 f1).drew).sub (S' := p.S) (by simp)).trans f2 (by simp [Ptrs.S]))
        simp only [accK] at hrun
        clear hm2 f2 hv1 h1 f1
        go_wp2_with fail
        go_region
        all_goals
          go_wp2_with fail
          refine (counts_any w2 p _ true H2.out).mono ?_
          rintro e w3 ⟨rfl, h3, f3⟩
          go_wp2_with fail
          go_ret
          exact ⟨rfl, h3, F2.out.tr f3⟩
      | false =>
        rw [hr1] at hU
        have HU := hid hU
        clear hU hr1
        simp only [Bool.false_or]
        generalize unord s.reads (s.th.getD t []) t (a, i) = r at *
        go_enter Try.func15, Try.ntmps15
        go_wp2_with fail
        refine HC.out.mono ?_
        rintro e w' ⟨rfl, rfl⟩
        go_wp2_with fail
        go_region_held3 (fun w' => w'.cell? ⟨p.b, 16, none⟩ = some (.map (some p.rd)) ∧ w'.cell? ⟨p.b, 17, none⟩ = some (.map (some p.wr)) ∧ w'.cell? ⟨w.heap.size, 0, none⟩ = some (.int .i64 a) ∧ w'.cell? ⟨w.heap.size, 1, none⟩ = some (.int .i64 i) ∧ Fr [] (w.alloc (.cells #[.int .i64 a, .int .i64 i] 64)).drew w')
          (first | exact ⟨hcR, hcWr, HB0.out, HB1.out, Fr.refl _ _⟩ | exact ⟨(H.out.keep0 f1).cells.2.2.2.1, (H.out.keep0 f1).cells.2.2.2.2.1, f1.cell HB0.out (by simp), f1.cell HB1.out (by simp), f1⟩ | exact ⟨(H.out.keep0 (f1.tr f2)).cells.2.2.2.1, (H.out.keep0 (f1.tr f2)).cells.2.2.2.2.1, (f1.tr f2).cell HB0.out (by simp), (f1.tr f2).cell HB1.out (by simp), f1.tr f2⟩)
          (first
            | (go_at_call 35; ((with_reducible refine HU.out.mono ?_); rintro e w1 ⟨rfl, f1⟩))
            | (go_at_call 35; refine (HU2.out _ f1).mono ?_; rintro e w2 ⟨rfl, f2⟩))
        have h1 := H.out.keep0 (f1.tr f2)
        have kb0 := (f1.tr f2).cell HB0.out (by simp)
        have kb1 := (f1.tr f2).cell HB1.out (by simp)
        obtain ⟨v1, kc, hv1⟩ := h1.thread t (by omega)
        obtain ⟨_, _, kcW, kcR, kcWr, _⟩ := h1.cells
        obtain ⟨w3, hrun, hm2, f3, _⟩ := CMap.store h1.drew.writes acc_keys und_accs ((a, i), (t : Int)) (hv1.keep0 (Fr.refl _ _).drew)
        have H2 := hid (h1.drew.putWrites f3 hm2)
        have F2 := hid ((((HF.out.drew.tr0 (f1.tr f2)).drew).sub (S' := p.S) (by simp)).trans f3 (by simp [Ptrs.S]))
        simp only [accK] at hrun
        clear hm2 f3 hv1 h1 f1 f2
        go_wp2_with fail
        go_region
        all_goals
          go_wp2_with fail
          refine (counts_any w3 p _ r H2.out).mono ?_
          rintro e w4 ⟨rfl, h3, f4⟩
          go_wp2_with fail
          go_ret
          exact ⟨rfl, h3, F2.out.tr f4⟩
  · have hs : s.write t a i vol = (false, s) := by simp [St.write, hb]
    rw [hs]
    have HC := hid (in_is t (w.alloc (.cells #[.int .i64 a, .int .i64 i] 64)) false (Bool.eq_false_iff.2 hb))
    have H := hid hA
    have HF := hid fA
    clear hs hb hA h fA
    go_enter Try.func15, Try.ntmps15
    go_wp2_with fail
    refine HC.out.mono ?_
    rintro e w' ⟨rfl, rfl⟩
    go_wp2_with fail
    go_ret
    exact ⟨rfl, H.out, HF.out.sub (by simp)⟩

end Go.Proofs.Ytjkakhjajfpldaa
