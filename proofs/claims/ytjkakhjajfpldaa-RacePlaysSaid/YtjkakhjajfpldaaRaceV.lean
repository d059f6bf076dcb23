/-
  The document's watch: Clock, Begin, End, Joined.
-/
import Derived.Test.YtjkakhjajfpldaaOrdU
namespace Go.Proofs.Ytjkakhjajfpldaa
open Go.RowKit

section
variable {w w' : World} {rb : Nat} {F : List Nat} {r : RSt}
theorem RMv.refl (h : Ref w rb F r) : RMv w w rb F r := ⟨F, h, Fr.refl _ _, fun _ hb => .inl hb⟩
theorem RefT.rmv {w1 w2 : World} {vk vl : Value} {C : Array Value} {r' : RSt} (h : RefT w2 rb vk vl C r') (f : Fr [] w w1) (g : Fr [rb] w1 w2) : RMv w w2 rb (rb :: (fpv vk ++ fpv vl)) r' :=
  ⟨_, ⟨vk, vl, C, rfl, h⟩, (f.sub (by simp)).tr (g.sub (fun x hx => .inl (by simp at hx; simp [hx]))), fun _ hb => .inl hb⟩
end
/-- one number more -/
theorem RefT.bump {w : World} {rb : Nat} {vk vl : Value} {C : Array Value} {r : RSt} (h : RefT w rb vk vl C r) {k : Nat} (hk : k < 13) {x : Int} (hx : x = (r.now.getD k []).getD k 0) (hb : 0 ≤ x ∧ x ≤ 100000) :
    ∃ C', RefT (w.setCell ⟨rb, k * 13 + k, none⟩ (.int .i64 (x + 1))) rb vk vl C' { r with now := r.now.set k (bump (r.now.getD k []) k) } := by
  have h1 := h.setOne hk hk (x + 1)
  have hw : wrap64 (x + 1) = x + 1 := by unfold wrap64; omega
  unfold Go.Proofs.Ytjkakhjajfpldaa.bump
  rw [← hx, hw]
  exact ⟨_, h1⟩
theorem RefT.nowCell {w : World} {rb : Nat} {vk vl : Value} {C : Array Value} {r : RSt} (h : RefT w rb vk vl C r) {t i : Nat} (ht : t < 13) (hi : i < 13) : w.cell? ⟨rb, t * 13 + i, none⟩ = some (.int .i64 ((r.now.getD t []).getD i 0)) := by
  rw [h.cell, h.rc.now t i ht hi]; rfl
theorem mx_bd {a b n : Int} (ha : 0 ≤ a ∧ a ≤ n) (hb : 0 ≤ b ∧ b ≤ n) : 0 ≤ mx a b ∧ mx a b ≤ n := by unfold mx; split <;> omega
set_option maxHeartbeats 400000 in
theorem rclock_any {w : World} {rb : Nat} {F : List Nat} {r : RSt} (h : Ref w rb F r) (t : Int) : Calls Try.prog 31 #[.pointer (some ⟨rb, 0, none⟩), .int .i64 t] w fun e w' => e = .returned (clkV (r.clock t)) ∧ Fr [] w w' := by
  obtain ⟨vk, vl, C, rfl, h⟩ := h
  by_cases hb : inB t = true
  · have hs : r.clock t = r.nw t := by simp [RSt.clock, hb]
    rw [hs]
    obtain ⟨m, rfl, m1, m2⟩ := toNat_of hb
    have ht13 : (m : Int) < 13 := by omega
    have ht0 : (0 : Int) ≤ m := by omega
    have hm : m < 13 := by omega
    have HB := hid hb
    unfold RSt.nw
    rw [Int.toNat_natCast]
    obtain ⟨c, hc⟩ : ∃ c, c = r.now.getD m [] := ⟨_, rfl⟩
    have HL : Hid (∀ w', Fr [] w w' → (Instr.loadAt 45 (.pointer (some ⟨rb, m * 13, none⟩))).run Try.prog w' = .ok (clkV c) w') := hid (fun w' f => by rw [hc]; exact (h.keep0 f).loadNow hm)
    have HLN : Hid (c.length = 13) := hid (by rw [hc]; exact h.ln.now m hm)
    rw [← hc]
    clear hs hb h hm m1 m2 hc
    go_enter Try.func31, Try.ntmps31
    go_wp2_with fail
    refine (ris_is m _ true HB.out).mono ?_
    rintro e w1 ⟨rfl, hw1⟩
    obtain ⟨z, hz⟩ : ∃ z : Array Value, z = #[.int .i64 0, .int .i64 0, .int .i64 0, .int .i64 0, .int .i64 0, .int .i64 0, .int .i64 0, .int .i64 0, .int .i64 0, .int .i64 0, .int .i64 0, .int .i64 0, .int .i64 0] := ⟨_, rfl⟩
    rw [← hz] at hw1
    have HZ := hid (show w1.heap[w.heap.size]? = some (.cells z 45 (0, 0)) by rw [← hw1]; exact heap_alloc_new w _)
    have HF1 := hid (show Fr [] w w1 by rw [← hw1]; exact (Fr.refl _ _).alloc _)
    have HST := hid (store_clk (o := 0) HLN.out HZ.out (by rw [hz]; decide))
    obtain ⟨ne, hne⟩ : ∃ ne : Array Value, ne = (z.toList.take 0 ++ c.map vi ++ z.toList.drop (0 + 13)).toArray := ⟨_, rfl⟩
    have HNE : Hid (ne = (c.map vi).toArray) := hid (by rw [hne, hz]; simp)
    rw [← hne] at HST
    have HLD := hid (HL.out w1 HF1.out)
    clear hne hz hw1 HL
    go_upto_region 3 with (fail)
    refine wp_region_lit ?_
    refine wpList_plain rfl fun K hK => ?_
    go_simp
    refine hK _ _ ?_
    clear hK K
    try simp only [Act.put, List.getElem_toArray, List.getElem_cons_zero, List.getElem_cons_succ, List.setIfInBounds_toArray, List.set_cons_zero, List.set_cons_succ]
    refine wpList_plain rfl fun K hK => ?_
    go_simp
    refine hK _ _ ?_
    clear hK K
    try simp only [Act.put, List.getElem_toArray, List.getElem_cons_zero, List.getElem_cons_succ, List.setIfInBounds_toArray, List.set_cons_zero, List.set_cons_succ]
    refine wpList_plain rfl fun K hK => ?_
    go_simp
    refine hK _ _ ?_
    clear hK K
    try simp only [Act.put, List.getElem_toArray, List.getElem_cons_zero, List.getElem_cons_succ, List.setIfInBounds_toArray, List.set_cons_zero, List.set_cons_succ]
    refine wpList_plain rfl fun K hK => ?_
    go_simp
    refine hK _ _ ?_
    clear hK K
    try simp only [Act.put, List.getElem_toArray, List.getElem_cons_zero, List.getElem_cons_succ, List.setIfInBounds_toArray, List.set_cons_zero, List.set_cons_succ]
    refine wpList_plain rfl fun K hK => ?_
    go_simp
    refine hK _ _ ?_
    clear hK K
    try simp only [Act.put, List.getElem_toArray, List.getElem_cons_zero, List.getElem_cons_succ, List.setIfInBounds_toArray, List.set_cons_zero, List.set_cons_succ]
    refine wpList_plain rfl fun K hK => ?_
    refine Eq.mpr (congrArg (Oper.upon _ _ _ _ _) (exec_load rfl (HLD.out))) ?_
    rw [Oper.upon_value]
    refine hK _ _ ?_
    clear hK K
    try simp only [Act.put, List.setIfInBounds_toArray, List.set_cons_zero, List.set_cons_succ]
    refine wpList_plain rfl fun K hK => ?_
    refine Eq.mpr (congrArg (Oper.upon _ _ _ _ _) (exec_store rfl (HST.out))) ?_
    rw [Oper.upon_skip]
    refine hK _ _ ?_
    clear hK K
    try simp only [Act.put]
    refine wpList_nil ?_
    have HF := hid (HF1.out.trans (fr_setRow w.heap.size ne) (fun x hx => .inr (by rw [List.mem_singleton.1 hx]; exact Nat.le_refl _)))
    have HB2 := hid (setRow_at (cs := ne) HZ.out)
    generalize w1.setRow w.heap.size ne = w2 at HF HB2 ⊢
    go_wp2_with fail
    refine bodyPost_ret (results_cell_row (fn := Try.f31) rfl _ _ w.heap.size _ _ _ _ rfl HB2.out und_clk rfl (by rw [HNE.out, List.size_toArray, List.length_map, HLN.out]; exact size_clk)) rfl ⟨?_, HF.out⟩
    rw [HNE.out]; rfl
  · have hs : r.clock t = z13 := by simp [RSt.clock, hb]
    rw [hs]
    have HC := hid (fun w => ris_is t w false (Bool.eq_false_iff.2 hb))
    clear hs hb h
    go_enter Try.func31, Try.ntmps31
    go_wp2_with fail
    refine (HC.out _).mono ?_
    rintro e w1 ⟨rfl, rfl⟩
    go_wp2_with fail
    refine bodyPost_ret (results_cell_row (fn := Try.f31) rfl _ _ w.heap.size _ _ _ _ rfl (heap_alloc_new w _) und_clk rfl size_clk) rfl ⟨rfl, (Fr.refl _ _).alloc _⟩

/-! ### Begin -/
set_option maxHeartbeats 1000000 in
theorem rbegin_any {w : World} {rb : Nat} {F : List Nat} {r : RSt} (h : Ref w rb F r) (hr : ∀ t : Nat, t < 13 → ∀ i, 0 ≤ (r.now.getD t []).getD i 0 ∧ (r.now.getD t []).getD i 0 ≤ 1000) (t b : Int) : Calls Try.prog 23 #[.pointer (some ⟨rb, 0, none⟩), .int .i64 t, .int .i64 b] w fun e w' => e = .returned (.tuple #[]) ∧ RMv w w' rb F (r.begins t b) := by
  have H0 := hid h
  by_cases ht : inB t = true
  · have CT := hid (ris_is t w true ht)
    by_cases h0 : b = 0
    · subst h0
      have hs : r.begins t 0 = r := by simp [RSt.begins]
      rw [hs]
      clear h hs ht hr
      go_enter Try.func23, Try.ntmps23
      go_wp2_with fail
      refine CT.out.mono ?_
      rintro e w1 ⟨rfl, rfl⟩
      go_wp2_with fail
      go_end0
      exact ⟨rfl, RMv.refl H0.out⟩
    · have hb0 : (b != 0) = true := by simpa using h0
      by_cases hb : inB b = true
      · have CB := hid (ris_is b w true hb)
        have HMB := hid ht
        have HKB := hid hb
        obtain ⟨m, rfl, m1, m2⟩ := toNat_of ht
        obtain ⟨k, rfl, k1, k2⟩ := toNat_of hb
        obtain ⟨vk, vl, C, rfl, h⟩ := h
        have hm13 : (m : Int) < 13 := by omega
        have hm0 : (0 : Int) ≤ m := by omega
        have hk13 : (k : Int) < 13 := by omega
        have hk0 : (0 : Int) ≤ k := by omega
        have HM := hid (show m < 13 by omega)
        have HK := hid (show k < 13 by omega)
        have HD := hid (h.keep0 (Fr.refl _ _).drew)
        clear ht hb h m1 m2 k1 k2 h0
        go_enter Try.func23, Try.ntmps23
        go_wp2_with fail
        refine CT.out.mono ?_
        rintro e w1 ⟨rfl, rfl⟩
        go_wp2_with fail
        refine CB.out.mono ?_
        rintro e w1 ⟨rfl, rfl⟩
        go_upto_region 2 with (fail)
        refine wp_region_T (fun w' => RefT w' rb vk vl C r) 18 (by kernel_rfl) HD.out (fun hHeld => ?_)
        refine wpAnyT_take [17, 0] (i := 0) (v := ?va0) rfl (by kernel_rfl) (by kernel_rfl) (by kernel_rfl) (by kernel_rfl) (fun _ _ _ h => h) (Or.inl ⟨by rfl, ?ya0⟩) hHeld ?ra0
        case ya0 => ((intro w hSw; (try dsimp only at hSw); go_simp) <;> with_reducible rfl)
        try simp only [Act.put, List.getElem_toArray, List.getElem_cons_zero, List.setIfInBounds_toArray, List.set_cons_zero, List.set_cons_succ]
        refine wpAnyT_take [17, 1] (i := 1) (v := ?va1) rfl (by kernel_rfl) (by kernel_rfl) (by kernel_rfl) (by kernel_rfl) (fun _ _ _ h => h) (Or.inl ⟨by rfl, ?ya1⟩) hHeld ?ra1
        case ya1 => ((intro w hSw; (try dsimp only at hSw); go_simp) <;> with_reducible rfl)
        try simp only [Act.put, List.getElem_toArray, List.getElem_cons_zero, List.getElem_cons_succ, List.setIfInBounds_toArray, List.set_cons_zero, List.set_cons_succ]
        refine wpAnyT_take [17, 2] (i := 2) (v := ?va2) rfl (by kernel_rfl) (by kernel_rfl) (by kernel_rfl) (by kernel_rfl) (fun _ _ _ h => h) (Or.inl ⟨by rfl, ?ya2⟩) hHeld ?ra2
        case ya2 => ((intro w hSw; (try dsimp only at hSw); go_simp) <;> with_reducible rfl)
        try simp only [Act.put, List.getElem_toArray, List.getElem_cons_zero, List.getElem_cons_succ, List.setIfInBounds_toArray, List.set_cons_zero, List.set_cons_succ]
        refine wpAnyT_take [17, 3] (i := 3) (v := ?va3) rfl (by kernel_rfl) (by kernel_rfl) (by kernel_rfl) (by kernel_rfl) (fun _ _ _ h => h) (Or.inl ⟨by rfl, ?ya3⟩) hHeld ?ra3
        case ya3 => ((intro w hSw; (try dsimp only at hSw); go_simp) <;> with_reducible rfl)
        try simp only [Act.put, List.getElem_toArray, List.getElem_cons_zero, List.getElem_cons_succ, List.setIfInBounds_toArray, List.set_cons_zero, List.set_cons_succ]
        refine wpAnyT_take [17, 4] (i := 4) (v := ?va4) rfl (by kernel_rfl) (by kernel_rfl) (by kernel_rfl) (by kernel_rfl) (fun _ _ _ h => h) (Or.inl ⟨by rfl, ?ya4⟩) hHeld ?ra4
        case ya4 => ((intro w hSw; (try dsimp only at hSw); go_simp) <;> with_reducible rfl)
        try simp only [Act.put, List.getElem_toArray, List.getElem_cons_zero, List.getElem_cons_succ, List.setIfInBounds_toArray, List.set_cons_zero, List.set_cons_succ]
        refine wpAnyT_take [17, 5] (i := 5) (v := ?va5) rfl (by kernel_rfl) (by kernel_rfl) (by kernel_rfl) (by kernel_rfl) (fun _ _ _ h => h) (Or.inl ⟨by rfl, ?ya5⟩) hHeld ?ra5
        case ya5 => ((intro w hSw; (try dsimp only at hSw); go_simp) <;> with_reducible rfl)
        try simp only [Act.put, List.getElem_toArray, List.getElem_cons_zero, List.getElem_cons_succ, List.setIfInBounds_toArray, List.set_cons_zero, List.set_cons_succ]
        refine wpAnyT_take [17, 6] (i := 6) (v := ?va6) rfl (by kernel_rfl) (by kernel_rfl) (by kernel_rfl) (by kernel_rfl) (fun _ _ _ h => h) (Or.inl ⟨by rfl, ?ya6⟩) hHeld ?ra6
        case ya6 => ((intro w hSw; (try dsimp only at hSw); go_simp) <;> with_reducible rfl)
        try simp only [Act.put, List.getElem_toArray, List.getElem_cons_zero, List.getElem_cons_succ, List.setIfInBounds_toArray, List.set_cons_zero, List.set_cons_succ]
        refine wpAnyT_take [17, 7] (i := 7) (v := (clkV (r.now.getD m []))) rfl (by kernel_rfl) (by kernel_rfl) (by kernel_rfl) (by kernel_rfl) (fun _ _ _ h => h) (Or.inl ⟨by rfl, ?ya7⟩) hHeld ?ra7
        case ya7 => exact fun w hSw => exec_load rfl (hSw.loadNow HM.out)
        try simp only [Act.put, List.getElem_toArray, List.getElem_cons_zero, List.getElem_cons_succ, List.setIfInBounds_toArray, List.set_cons_zero, List.set_cons_succ]
        refine wpAnyT_take [17, 8] (i := 8) (v := ?va8) rfl (by kernel_rfl) (by kernel_rfl) (by kernel_rfl) (by kernel_rfl) (fun _ _ _ h => h) (Or.inl ⟨by rfl, ?ya8⟩) hHeld ?ra8
        case ya8 => ((intro w hSw; (try dsimp only at hSw); go_simp) <;> with_reducible rfl)
        try simp only [Act.put, List.getElem_toArray, List.getElem_cons_zero, List.getElem_cons_succ, List.setIfInBounds_toArray, List.set_cons_zero, List.set_cons_succ]
        refine wpAnyT_take [17, 9] (i := 9) (v := ?va9) rfl (by kernel_rfl) (by kernel_rfl) (by kernel_rfl) (by kernel_rfl) (fun _ _ _ h => h) (Or.inl ⟨by rfl, ?ya9⟩) hHeld ?ra9
        case ya9 => ((intro w hSw; (try dsimp only at hSw); go_simp) <;> with_reducible rfl)
        try simp only [Act.put, List.getElem_toArray, List.getElem_cons_zero, List.getElem_cons_succ, List.setIfInBounds_toArray, List.set_cons_zero, List.set_cons_succ]
        refine wpAnyT_take [17, 10] (i := 10) (v := ?va10) rfl (by kernel_rfl) (by kernel_rfl) (by kernel_rfl) (by kernel_rfl) (fun _ _ _ h => h) (Or.inl ⟨by rfl, ?ya10⟩) hHeld ?ra10
        case ya10 => ((intro w hSw; (try dsimp only at hSw); go_simp) <;> with_reducible rfl)
        try simp only [Act.put, List.getElem_toArray, List.getElem_cons_zero, List.getElem_cons_succ, List.setIfInBounds_toArray, List.set_cons_zero, List.set_cons_succ]
        refine wpAnyT_take [17, 11] (i := 11) (v := ?va11) rfl (by kernel_rfl) (by kernel_rfl) (by kernel_rfl) (by kernel_rfl) (fun _ _ _ h => h) (Or.inl ⟨by rfl, ?ya11⟩) hHeld ?ra11
        case ya11 => ((intro w hSw; (try dsimp only at hSw); go_simp) <;> with_reducible rfl)
        try simp only [Act.put, List.getElem_toArray, List.getElem_cons_zero, List.getElem_cons_succ, List.setIfInBounds_toArray, List.set_cons_zero, List.set_cons_succ]
        refine wpAnyT_take [17, 12] (i := 12) (v := ?va12) rfl (by kernel_rfl) (by kernel_rfl) (by kernel_rfl) (by kernel_rfl) (fun _ _ _ h => h) (Or.inl ⟨by rfl, ?ya12⟩) hHeld ?ra12
        case ya12 => ((intro w hSw; (try dsimp only at hSw); go_simp) <;> with_reducible rfl)
        try simp only [Act.put, List.getElem_toArray, List.getElem_cons_zero, List.getElem_cons_succ, List.setIfInBounds_toArray, List.set_cons_zero, List.set_cons_succ]
        refine wpAnyT_take [17, 13] (i := 13) (v := (clkV (r.now.getD k []))) rfl (by kernel_rfl) (by kernel_rfl) (by kernel_rfl) (by kernel_rfl) (fun _ _ _ h => h) (Or.inl ⟨by rfl, ?ya13⟩) hHeld ?ra13
        case ya13 => exact fun w hSw => exec_load rfl (hSw.loadNow HK.out)
        try simp only [Act.put, List.getElem_toArray, List.getElem_cons_zero, List.getElem_cons_succ, List.setIfInBounds_toArray, List.set_cons_zero, List.set_cons_succ]
        refine wpAnyT_take [17, 16, 15] (i := 15) (v := ?va15) rfl (by kernel_rfl) (by kernel_rfl) (by kernel_rfl) (by kernel_rfl) (fun _ _ _ h => h) (Or.inl ⟨by rfl, ?ya15⟩) hHeld ?ra15
        case ya15 => ((intro w hSw; (try dsimp only at hSw); go_simp) <;> with_reducible rfl)
        try simp only [Act.put, List.getElem_toArray, List.getElem_cons_zero, List.getElem_cons_succ, List.setIfInBounds_toArray, List.set_cons_zero, List.set_cons_succ]
        refine wpAnyT_take [17, 16] (i := 16) (v := ?va16) rfl (by kernel_rfl) (by kernel_rfl) (by kernel_rfl) (by kernel_rfl) (fun _ _ _ h => h) (Or.inl ⟨by rfl, ?ya16⟩) hHeld ?ra16
        case ya16 => ((intro w hSw; (try dsimp only at hSw); go_simp) <;> with_reducible rfl)
        try simp only [Act.put, List.getElem_toArray, List.getElem_cons_zero, List.getElem_cons_succ, List.setIfInBounds_toArray, List.set_cons_zero, List.set_cons_succ]
        refine wpAnyT_ready (rs := [14]) (by kernel_rfl) (by simp) ?_
        refine AllReadyT.cons rfl (fun K hK => ?_) AllReadyT.nil
        go_simp
        refine (rjoin_any _ _ (HD.out.ln.now m HM.out) (HD.out.ln.now k HK.out) _).mono ?_
        rintro e w1 ⟨rfl, f1⟩
        have F1 := hid f1
        clear f1
        refine hK.out _ _ (HD.out.keep0 F1.out) (fun hHeld => ?_)
        clear hK K
        try simp only [Act.put, List.getElem_toArray, List.getElem_cons_zero, List.getElem_cons_succ, List.setIfInBounds_toArray, List.set_cons_zero, List.set_cons_succ]
        refine wpAnyT_take [17] (i := 17) (v := ?va17) rfl (by kernel_rfl) (by kernel_rfl) (by kernel_rfl) (by kernel_rfl) (fun _ _ _ h => h) (Or.inl ⟨by rfl, ?ya17⟩) hHeld ?ra17
        case ya17 => ((intro w hSw; (try dsimp only at hSw); go_simp) <;> with_reducible rfl)
        try simp only [Act.put, List.getElem_toArray, List.getElem_cons_zero, List.getElem_cons_succ, List.setIfInBounds_toArray, List.set_cons_zero, List.set_cons_succ]
        refine wpAnyT_ready (rs := [18]) (by kernel_rfl) (by simp) ?_
        refine AllReadyT.last rfl (by kernel_rfl) (fun K hK => ?_) AllReadyT.nil
        refine step_exec rfl (exec_store rfl (store_clk (joinL_len _ _) hHeld.blk (by have := hHeld.rc.sz; have := HM.out; omega))) ?_
        refine hK.out _ _ ?_
        clear hK K
        try simp only [Act.put, List.getElem_toArray, List.getElem_cons_zero, List.getElem_cons_succ]
        refine wpAnyT_done (by kernel_rfl) ?_ _
        have H1 := hHeld.setNow HM.out (joinL_len (r.now.getD m []) (r.now.getD k []))
        obtain ⟨n1, hn1⟩ : ∃ n1, n1 = r.now.set m (joinL (r.now.getD m []) (r.now.getD k [])) := ⟨_, rfl⟩
        have HF2 := hid (fr_setRow (w := w1) rb (C.toList.take (m * 13) ++ (joinL (r.now.getD m []) (r.now.getD k [])).map vi ++ C.toList.drop (m * 13 + 13)).toArray)
        obtain ⟨C2, hC2⟩ : ∃ C2, C2 = (C.toList.take (m * 13) ++ (joinL (r.now.getD m []) (r.now.getD k [])).map vi ++ C.toList.drop (m * 13 + 13)).toArray := ⟨_, rfl⟩
        rw [← hC2] at H1 HF2 ⊢
        rw [← hn1] at H1
        obtain ⟨x, hx⟩ : ∃ x, x = (n1.getD k []).getD k 0 := ⟨_, rfl⟩
        have hxb : 0 ≤ x ∧ x ≤ 1000 := by
          rw [hx, hn1, getD_set _ _ _ _ _ (by rw [HD.out.ln.nl]; exact HM.out)]
          have q1 := hr m HM.out k
          have q2 := hr k HK.out k
          split
          · rw [joinL_at _ _ _ HK.out]; exact mx_bd q1 q2
          · exact q2
        have HS : Hid (r.begins m k = { r with now := n1.set k (bump (n1.getD k []) k) }) := hid (by
          have hmB : inB (m : Int) = true := HMB.out
          have hkB : inB (k : Int) = true := HKB.out
          unfold RSt.begins RSt.nw
          rw [if_pos ⟨hmB, by simpa using hb0, hkB⟩]
          simp only [Int.toNat_natCast]
          rw [← hn1])
        have H2 := hid H1
        have HX := hid hx
        generalize w1.setRow rb C2 = w2 at H2 HF2 ⊢
        clear hr hn1 hC2 H1 hHeld hx
        obtain ⟨x0, x1⟩ := hxb
        go_upto_region 3 with (fail)
        have c0 := H2.out.nowCell HK.out HK.out
        simp only [] at c0
        rw [← HX.out] at c0
        have f0 := H2.out.free (k * 13 + k)
        go_region
        all_goals
          obtain ⟨C3, H3⟩ := H2.out.bump HK.out HX.out ⟨x0, by omega⟩
          have H4 := hid H3
          have HF3 : Hid (Fr [rb] w1 (w2.setCell ⟨rb, k * 13 + k, none⟩ (.int .i64 (x + 1)))) := hid (HF2.out.setCell (.inl (by simp)) _)
          clear H3 c0 f0
          go_wp2_with fail
          go_end0
          refine ⟨rfl, ?_⟩
          rw [HS.out]
          exact RefT.rmv (H4.out.keep0 (Fr.refl _ _).drew) ((Fr.refl [] w).drew.tr F1.out) HF3.out.drew
      · have CB := hid (ris_is b w false (Bool.eq_false_iff.2 hb))
        have hs : r.begins t b = r := by unfold RSt.begins; rw [if_neg (fun x => hb x.2.2)]
        rw [hs]
        clear h hs ht hr hb h0
        go_enter Try.func23, Try.ntmps23
        go_wp2_with fail
        refine CT.out.mono ?_
        rintro e w1 ⟨rfl, rfl⟩
        go_wp2_with fail
        refine CB.out.mono ?_
        rintro e w1 ⟨rfl, rfl⟩
        go_wp2_with fail
        refine bodyPost_ret (results_none rfl _ _ _) rfl ?_
        exact ⟨rfl, RMv.refl H0.out⟩
  · have CT := hid (ris_is t w false (Bool.eq_false_iff.2 ht))
    have hs : r.begins t b = r := by unfold RSt.begins; rw [if_neg (fun x => ht x.1)]
    rw [hs]
    clear h hs ht hr
    go_enter Try.func23, Try.ntmps23
    go_wp2_with fail
    refine CT.out.mono ?_
    rintro e w1 ⟨rfl, rfl⟩
    go_wp2_with fail
    refine bodyPost_ret (results_none rfl _ _ _) rfl ?_
    exact ⟨rfl, RMv.refl H0.out⟩

end Go.Proofs.Ytjkakhjajfpldaa
