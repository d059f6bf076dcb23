/-
  The document's watch: End, Joined.
-/
import Derived.Test.YtjkakhjajfpldaaRaceV
namespace Go.Proofs.Ytjkakhjajfpldaa
open Go.RowKit

set_option maxHeartbeats 1000000 in
theorem rend_any {w : World} {rb : Nat} {F : List Nat} {r : RSt} (h : Ref w rb F r) (t : Int) : Calls Try.prog 24 #[.pointer (some ⟨rb, 0, none⟩), .int .i64 t] w fun e w' => e = .returned (.tuple #[]) ∧ RMv w w' rb F (r.endT t) := by
  have H0 := hid h
  by_cases ht : inB t = true
  · have CT := hid (ris_is t w true ht)
    obtain ⟨m, rfl, m1, m2⟩ := toNat_of ht
    obtain ⟨vk, vl, C, rfl, h⟩ := h
    have hm13 : (m : Int) < 13 := by omega
    have hm0 : (0 : Int) ≤ m := by omega
    have HM := hid (show m < 13 by omega)
    have HD := hid (h.keep0 (Fr.refl _ _).drew)
    have HS : Hid (r.endT m = { r with en := r.en.set m (r.now.getD m []), ended := r.ended.set m true }) := hid (by
      unfold RSt.endT RSt.nw
      rw [if_pos ht]
      simp only [Int.toNat_natCast])
    clear ht h m1 m2
    go_enter Try.func24, Try.ntmps24
    go_wp2_with fail
    refine CT.out.mono ?_
    rintro e w1 ⟨rfl, rfl⟩
    go_upto_region 1 with (fail)
    refine wp_region_held_drew (S := (fun w' => ∃ C r', RefT w' rb vk vl C r' ∧ r'.now = r.now)) (by kernel_rfl) ⟨C, r, HD.out, rfl⟩ (fun hHeld => ?_)
    refine wpAnyH_take (i := 0) (v := ?va0) rfl (by kernel_rfl) (by kernel_rfl) (by kernel_rfl) (fun _ _ _ h => h) (Or.inl ⟨by rfl, ?ya0⟩) hHeld ?ra0
    case ya0 => ((intro w hSw; (try dsimp only at hSw); go_simp) <;> with_reducible rfl)
    try simp only [Act.put, List.getElem_toArray, List.getElem_cons_zero, List.setIfInBounds_toArray, List.set_cons_zero, List.set_cons_succ]
    refine wpAnyH_take (i := 1) (v := ?va1) rfl (by kernel_rfl) (by kernel_rfl) (by kernel_rfl) (fun _ _ _ h => h) (Or.inl ⟨by rfl, ?ya1⟩) hHeld ?ra1
    case ya1 => ((intro w hSw; (try dsimp only at hSw); go_simp) <;> with_reducible rfl)
    try simp only [Act.put, List.getElem_toArray, List.getElem_cons_zero, List.getElem_cons_succ, List.setIfInBounds_toArray, List.set_cons_zero, List.set_cons_succ]
    refine wpAnyH_take (i := 2) (v := ?va2) rfl (by kernel_rfl) (by kernel_rfl) (by kernel_rfl) (fun _ _ _ h => h) (Or.inl ⟨by rfl, ?ya2⟩) hHeld ?ra2
    case ya2 => ((intro w hSw; (try dsimp only at hSw); go_simp) <;> with_reducible rfl)
    try simp only [Act.put, List.getElem_toArray, List.getElem_cons_zero, List.getElem_cons_succ, List.setIfInBounds_toArray, List.set_cons_zero, List.set_cons_succ]
    refine wpAnyH_take (i := 3) (v := ?va3) rfl (by kernel_rfl) (by kernel_rfl) (by kernel_rfl) (fun _ _ _ h => h) (Or.inl ⟨by rfl, ?ya3⟩) hHeld ?ra3
    case ya3 => ((intro w hSw; (try dsimp only at hSw); go_simp) <;> with_reducible rfl)
    try simp only [Act.put, List.getElem_toArray, List.getElem_cons_zero, List.getElem_cons_succ, List.setIfInBounds_toArray, List.set_cons_zero, List.set_cons_succ]
    refine wpAnyH_take (i := 4) (v := ?va4) rfl (by kernel_rfl) (by kernel_rfl) (by kernel_rfl) (fun _ _ _ h => h) (Or.inl ⟨by rfl, ?ya4⟩) hHeld ?ra4
    case ya4 => ((intro w hSw; (try dsimp only at hSw); go_simp) <;> with_reducible rfl)
    try simp only [Act.put, List.getElem_toArray, List.getElem_cons_zero, List.getElem_cons_succ, List.setIfInBounds_toArray, List.set_cons_zero, List.set_cons_succ]
    refine wpAnyH_take (i := 5) (v := ?va5) rfl (by kernel_rfl) (by kernel_rfl) (by kernel_rfl) (fun _ _ _ h => h) (Or.inl ⟨by rfl, ?ya5⟩) hHeld ?ra5
    case ya5 => ((intro w hSw; (try dsimp only at hSw); go_simp) <;> with_reducible rfl)
    try simp only [Act.put, List.getElem_toArray, List.getElem_cons_zero, List.getElem_cons_succ, List.setIfInBounds_toArray, List.set_cons_zero, List.set_cons_succ]
    refine wpAnyH_take (i := 6) (v := ?va6) rfl (by kernel_rfl) (by kernel_rfl) (by kernel_rfl) (fun _ _ _ h => h) (Or.inl ⟨by rfl, ?ya6⟩) hHeld ?ra6
    case ya6 => ((intro w hSw; (try dsimp only at hSw); go_simp) <;> with_reducible rfl)
    try simp only [Act.put, List.getElem_toArray, List.getElem_cons_zero, List.getElem_cons_succ, List.setIfInBounds_toArray, List.set_cons_zero, List.set_cons_succ]
    refine wpAnyH_take (i := 7) (v := ?va7) rfl (by kernel_rfl) (by kernel_rfl) (by kernel_rfl) (fun _ _ _ h => h) (Or.inl ⟨by rfl, ?ya7⟩) hHeld ?ra7
    case ya7 => ((intro w hSw; (try dsimp only at hSw); go_simp) <;> with_reducible rfl)
    try simp only [Act.put, List.getElem_toArray, List.getElem_cons_zero, List.getElem_cons_succ, List.setIfInBounds_toArray, List.set_cons_zero, List.set_cons_succ]
    refine wpAnyH_take (i := 8) (v := ?va8) rfl (by kernel_rfl) (by kernel_rfl) (by kernel_rfl) (fun _ _ _ h => h) (Or.inl ⟨by rfl, ?ya8⟩) hHeld ?ra8
    case ya8 => ((intro w hSw; (try dsimp only at hSw); go_simp) <;> with_reducible rfl)
    try simp only [Act.put, List.getElem_toArray, List.getElem_cons_zero, List.getElem_cons_succ, List.setIfInBounds_toArray, List.set_cons_zero, List.set_cons_succ]
    refine wpAnyH_take (i := 9) (v := (clkV (r.now.getD m []))) rfl (by kernel_rfl) (by kernel_rfl) (by kernel_rfl) (fun _ _ _ h => h) (Or.inl ⟨by rfl, ?ya9⟩) hHeld ?ra9
    case ya9 => exact fun w hSw => exec_load rfl ((by obtain ⟨C', r', h1, h2⟩ := hSw; rw [← h2]; exact h1.loadNow HM.out))
    try simp only [Act.put, List.getElem_toArray, List.getElem_cons_zero, List.getElem_cons_succ, List.setIfInBounds_toArray, List.set_cons_zero, List.set_cons_succ]
    refine wpAnyH_take (i := 10) (v := ?va10) rfl (by kernel_rfl) (by kernel_rfl) (by kernel_rfl) (fun _ _ _ h => h) (Or.inl ⟨by rfl, ?ya10⟩) hHeld ?ra10
    case ya10 => ((intro w hSw; (try dsimp only at hSw); go_simp) <;> with_reducible rfl)
    try simp only [Act.put, List.getElem_toArray, List.getElem_cons_zero, List.getElem_cons_succ, List.setIfInBounds_toArray, List.set_cons_zero, List.set_cons_succ]
    refine wpAnyH_take (i := 11) (v := ?va11) rfl (by kernel_rfl) (by kernel_rfl) (by kernel_rfl) (fun _ _ _ h => h) (Or.inl ⟨by rfl, ?ya11⟩) hHeld ?ra11
    case ya11 => ((intro w hSw; (try dsimp only at hSw); go_simp) <;> with_reducible rfl)
    try simp only [Act.put, List.getElem_toArray, List.getElem_cons_zero, List.getElem_cons_succ, List.setIfInBounds_toArray, List.set_cons_zero, List.set_cons_succ]
    refine wpAnyH_take (i := 14) (v := ?va14) rfl (by kernel_rfl) (by kernel_rfl) (by kernel_rfl) (fun _ _ _ h => h) (Or.inl ⟨by rfl, ?ya14⟩) hHeld ?ra14
    case ya14 => ((intro w hSw; (try dsimp only at hSw); go_simp) <;> with_reducible rfl)
    try simp only [Act.put, List.getElem_toArray, List.getElem_cons_zero, List.getElem_cons_succ, List.setIfInBounds_toArray, List.set_cons_zero, List.set_cons_succ]
    refine wpAnyH_take (i := 15) (v := ?va15) rfl (by kernel_rfl) (by kernel_rfl) (by kernel_rfl) (fun _ _ _ h => h) (Or.inl ⟨by rfl, ?ya15⟩) hHeld ?ra15
    case ya15 => ((intro w hSw; (try dsimp only at hSw); go_simp) <;> with_reducible rfl)
    try simp only [Act.put, List.getElem_toArray, List.getElem_cons_zero, List.getElem_cons_succ, List.setIfInBounds_toArray, List.set_cons_zero, List.set_cons_succ]
    refine wpAnyH_take (i := 12) (v := ?va12) rfl (by kernel_rfl) (by kernel_rfl) (by kernel_rfl) (fun _ _ _ h => h) (Or.inl ⟨by rfl, ?ya12⟩) hHeld ?ra12
    case ya12 => ((intro w hSw; (try dsimp only at hSw); go_simp) <;> with_reducible rfl)
    try simp only [Act.put, List.getElem_toArray, List.getElem_cons_zero, List.getElem_cons_succ, List.setIfInBounds_toArray, List.set_cons_zero, List.set_cons_succ]
    refine wpAnyH_ready (rs := [13]) (by kernel_rfl) (by simp) ?_
    refine AllReadyH.cons rfl (fun K hK => ?_) AllReadyH.nil
    refine step_exec rfl (exec_store rfl (store_clk (HD.out.ln.now m HM.out) HD.out.blk (by have := HD.out.rc.sz; have := HM.out; omega))) ?_
    refine hK.out _ _ ⟨_, _, HD.out.setEn HM.out (HD.out.ln.now m HM.out), rfl⟩ (fun hHeld => ?_)
    clear hK K
    try simp only [Act.put, List.getElem_toArray, List.getElem_cons_zero, List.getElem_cons_succ]
    have HF2 := hid (fr_setRow (w := w.drew) rb (C.toList.take (169 + m * 13) ++ (r.now.getD m []).map vi ++ C.toList.drop (169 + m * 13 + 13)).toArray)
    have H1 := hid (HD.out.setEn HM.out (HD.out.ln.now m HM.out))
    obtain ⟨C2, hC2⟩ : ∃ C2, C2 = (C.toList.take (169 + m * 13) ++ (r.now.getD m []).map vi ++ C.toList.drop (169 + m * 13 + 13)).toArray := ⟨_, rfl⟩
    rw [← hC2] at HF2 H1 hHeld ⊢
    obtain ⟨w2, hw2⟩ : ∃ w2, w2 = w.drew.setRow rb C2 := ⟨_, rfl⟩
    rw [← hw2] at HF2 H1 hHeld ⊢
    clear hw2 hC2
    refine wpAnyH_take (i := 16) (v := ?va16) rfl (by kernel_rfl) (by kernel_rfl) (by kernel_rfl) (fun _ _ _ h => h) (Or.inl ⟨by rfl, ?ya16⟩) hHeld ?ra16
    case ya16 => ((intro w hSw; (try dsimp only at hSw); go_simp) <;> with_reducible rfl)
    try simp only [Act.put, List.getElem_toArray, List.getElem_cons_zero, List.getElem_cons_succ, List.setIfInBounds_toArray, List.set_cons_zero, List.set_cons_succ]
    have H3 := hid (H1.out.setEnded HM.out true)
    have HF3 : Hid (Fr [rb] w.drew (w2.setCell ⟨rb, 338 + m, none⟩ (.bool true))) := hid (HF2.out.setCell (.inl (by simp)) _)
    have c0 : w2.cell? ⟨rb, 338 + m, none⟩ = some (.bool (r.ended.getD m false)) := by rw [H1.out.cell, H1.out.rc.ended m HM.out]
    have f0 := H1.out.free (338 + m)
    refine wpAnyH_ready (rs := [17]) (by kernel_rfl) (by simp) ?_
    refine AllReadyH.cons rfl (fun K hK => ?_) AllReadyH.nil
    go_simp
    clear c0 f0
    refine hK.out _ _ ⟨_, _, H3.out, rfl⟩ (fun hHeld => ?_)
    clear hK K
    try simp only [Act.put, List.getElem_toArray, List.getElem_cons_zero, List.getElem_cons_succ, List.setIfInBounds_toArray, List.set_cons_zero, List.set_cons_succ]
    refine wpAnyH_done (by kernel_rfl) ?_ _
    go_wp2_with fail
    go_end0
    refine ⟨rfl, ?_⟩
    rw [HS.out]
    exact RefT.rmv H3.out (Fr.refl [] w).drew HF3.out
  · have CT := hid (ris_is t w false (Bool.eq_false_iff.2 ht))
    have hs : r.endT t = r := by unfold RSt.endT; rw [if_neg ht]
    rw [hs]
    clear h hs ht
    go_enter Try.func24, Try.ntmps24
    go_wp2_with fail
    refine CT.out.mono ?_
    rintro e w1 ⟨rfl, rfl⟩
    go_wp2_with fail
    go_end0
    exact ⟨rfl, RMv.refl H0.out⟩

/-! ### Joined -/
set_option maxHeartbeats 1000000 in
theorem rjoined_any {w : World} {rb : Nat} {F : List Nat} {r : RSt} (h : Ref w rb F r) (t o : Int) : Calls Try.prog 25 #[.pointer (some ⟨rb, 0, none⟩), .int .i64 t, .int .i64 o] w fun e w' => e = .returned (.tuple #[]) ∧ RMv w w' rb F (r.joined t o) := by
  have H0 := hid h
  by_cases ht : inB t = true
  · have CT := hid (ris_is t w true ht)
    by_cases ho : inB o = true
    · have CB := hid (ris_is o w true ho)
      have HTB := hid ht
      have HOB := hid ho
      obtain ⟨m, rfl, m1, m2⟩ := toNat_of ht
      obtain ⟨k, rfl, k1, k2⟩ := toNat_of ho
      obtain ⟨vk, vl, C, rfl, h⟩ := h
      have hm13 : (m : Int) < 13 := by omega
      have hm0 : (0 : Int) ≤ m := by omega
      have hk13 : (k : Int) < 13 := by omega
      have hk0 : (0 : Int) ≤ k := by omega
      have HM := hid (show m < 13 by omega)
      have HK := hid (show k < 13 by omega)
      have HD := hid (h.keep0 (Fr.refl _ _).drew)
      have c0 : w.cell? ⟨rb, 338 + k, none⟩ = some (.bool (r.ended.getD k false)) := by rw [h.cell, h.rc.ended k HK.out]
      obtain ⟨eb, heb⟩ : ∃ eb, eb = r.ended.getD k false := ⟨_, rfl⟩
      rw [← heb] at c0
      have HEB := hid heb
      clear ht ho h m1 m2 k1 k2 heb
      cases eb with
      | true =>
        have HS : Hid (r.joined m k = { r with now := r.now.set m (joinL (r.now.getD m []) (r.en.getD k [])) }) := hid (by
          unfold RSt.joined RSt.nw
          rw [if_pos ⟨HTB.out, HOB.out, by rw [Int.toNat_natCast]; exact HEB.out.symm⟩]
          simp only [Int.toNat_natCast])
        go_enter Try.func25, Try.ntmps25
        go_wp2_with fail
        refine CT.out.mono ?_
        rintro e w1 ⟨rfl, rfl⟩
        go_wp2_with fail
        refine CB.out.mono ?_
        rintro e w1 ⟨rfl, rfl⟩
        go_upto_region 1 with (fail)
        refine wp_region_T (fun w' => RefT w' rb vk vl C r) 18 (by kernel_rfl) HD.out (fun hHeld => ?_)
        refine wpAnyT_take [17, 0] (i := 0) (v := ?va0) rfl (by kernel_rfl) (by kernel_rfl) (by kernel_rfl) (by kernel_rfl) (fun _ _ _ h => h) (Or.inl ⟨by rfl, ?ya0⟩) hHeld ?ra0
        case ya0 => ((intro w hSw; (try dsimp only at hSw); go_simp) <;> with_reducible rfl)
        try simp only [Act.put, List.getElem_toArray, List.getElem_cons_zero, List.setIfInBounds_toArray, List.set_cons_zero, List.set_cons_succ]
        refine wpAnyT_take [17, 1] (i := 1) (v := ?va1) rfl (by kernel_rfl) (by kernel_rfl) (by kernel_rfl) (by kernel_rfl) (fun _ _ _ h => h) (Or.inl ⟨by rfl, ?ya1⟩) hHeld ?ra1
        case ya1 => ((intro w hSw; (try dsimp only at hSw); go_simp) <;> with_reducible rfl)
        try simp only [Act.put, List.getElem_toArray, List.getElem_cons_zero, List.getElem_cons_succ, List.setIfInBounds_toArray, List.set_cons_zero, List.set_cons_succ]
        refine wpAnyT_take [17, 2] (i := 2) (v := ?va2) rfl (by kernel_rfl) (by kernel_rfl) (by kernel_rfl) (by kernel_rfl) (fun _ _ _ h => h) (Or.inl ⟨by rfl, ?ya2⟩) hHeld ?ra2
        case ya2 => ((intro w hSw; (try dsimp only at hSw); go_simp) <;> with_reducible rfl)
        try simp only [Act.put, List.getElem_toArray, List.getElem_cons_zero, List.getElem_cons_succ, List.setIfInBounds_toArray, List.set_cons_zero, List.set_cons_succ]
        refine wpAnyT_take [17, 3] (i := 3) (v := ?va3) rfl (by kernel_rfl) (by kernel_rfl) (by kernel_rfl) (by kernel_rfl) (fun _ _ _ h => h) (Or.inl ⟨by rfl, ?ya3⟩) hHeld ?ra3
        case ya3 => ((intro w hSw; (try dsimp only at hSw); go_simp) <;> with_reducible rfl)
        try simp only [Act.put, List.getElem_toArray, List.getElem_cons_zero, List.getElem_cons_succ, List.setIfInBounds_toArray, List.set_cons_zero, List.set_cons_succ]
        refine wpAnyT_take [17, 4] (i := 4) (v := ?va4) rfl (by kernel_rfl) (by kernel_rfl) (by kernel_rfl) (by kernel_rfl) (fun _ _ _ h => h) (Or.inl ⟨by rfl, ?ya4⟩) hHeld ?ra4
        case ya4 => ((intro w hSw; (try dsimp only at hSw); go_simp) <;> with_reducible rfl)
        try simp only [Act.put, List.getElem_toArray, List.getElem_cons_zero, List.getElem_cons_succ, List.setIfInBounds_toArray, List.set_cons_zero, List.set_cons_succ]
        refine wpAnyT_take [17, 5] (i := 5) (v := ?va5) rfl (by kernel_rfl) (by kernel_rfl) (by kernel_rfl) (by kernel_rfl) (fun _ _ _ h => h) (Or.inl ⟨by rfl, ?ya5⟩) hHeld ?ra5
        case ya5 => ((intro w hSw; (try dsimp only at hSw); go_simp) <;> with_reducible rfl)
        try simp only [Act.put, List.getElem_toArray, List.getElem_cons_zero, List.getElem_cons_succ, List.setIfInBounds_toArray, List.set_cons_zero, List.set_cons_succ]
        refine wpAnyT_take [17, 6] (i := 6) (v := ?va6) rfl (by kernel_rfl) (by kernel_rfl) (by kernel_rfl) (by kernel_rfl) (fun _ _ _ h => h) (Or.inl ⟨by rfl, ?ya6⟩) hHeld ?ra6
        case ya6 => ((intro w hSw; (try dsimp only at hSw); go_simp) <;> with_reducible rfl)
        try simp only [Act.put, List.getElem_toArray, List.getElem_cons_zero, List.getElem_cons_succ, List.setIfInBounds_toArray, List.set_cons_zero, List.set_cons_succ]
        refine wpAnyT_take [17, 7] (i := 7) (v := (clkV (r.now.getD m []))) rfl (by kernel_rfl) (by kernel_rfl) (by kernel_rfl) (by kernel_rfl) (fun _ _ _ h => h) (Or.inl ⟨by rfl, ?ya7⟩) hHeld ?ra7
        case ya7 => exact fun w hSw => exec_load rfl (hSw.loadNow HM.out)
        try simp only [Act.put, List.getElem_toArray, List.getElem_cons_zero, List.getElem_cons_succ, List.setIfInBounds_toArray, List.set_cons_zero, List.set_cons_succ]
        refine wpAnyT_take [17, 8] (i := 8) (v := ?va8) rfl (by kernel_rfl) (by kernel_rfl) (by kernel_rfl) (by kernel_rfl) (fun _ _ _ h => h) (Or.inl ⟨by rfl, ?ya8⟩) hHeld ?ra8
        case ya8 => ((intro w hSw; (try dsimp only at hSw); go_simp) <;> with_reducible rfl)
        try simp only [Act.put, List.getElem_toArray, List.getElem_cons_zero, List.getElem_cons_succ, List.setIfInBounds_toArray, List.set_cons_zero, List.set_cons_succ]
        refine wpAnyT_take [17, 9] (i := 9) (v := ?va9) rfl (by kernel_rfl) (by kernel_rfl) (by kernel_rfl) (by kernel_rfl) (fun _ _ _ h => h) (Or.inl ⟨by rfl, ?ya9⟩) hHeld ?ra9
        case ya9 => ((intro w hSw; (try dsimp only at hSw); go_simp) <;> with_reducible rfl)
        try simp only [Act.put, List.getElem_toArray, List.getElem_cons_zero, List.getElem_cons_succ, List.setIfInBounds_toArray, List.set_cons_zero, List.set_cons_succ]
        refine wpAnyT_take [17, 10] (i := 10) (v := ?va10) rfl (by kernel_rfl) (by kernel_rfl) (by kernel_rfl) (by kernel_rfl) (fun _ _ _ h => h) (Or.inl ⟨by rfl, ?ya10⟩) hHeld ?ra10
        case ya10 => ((intro w hSw; (try dsimp only at hSw); go_simp) <;> with_reducible rfl)
        try simp only [Act.put, List.getElem_toArray, List.getElem_cons_zero, List.getElem_cons_succ, List.setIfInBounds_toArray, List.set_cons_zero, List.set_cons_succ]
        refine wpAnyT_take [17, 11] (i := 11) (v := ?va11) rfl (by kernel_rfl) (by kernel_rfl) (by kernel_rfl) (by kernel_rfl) (fun _ _ _ h => h) (Or.inl ⟨by rfl, ?ya11⟩) hHeld ?ra11
        case ya11 => ((intro w hSw; (try dsimp only at hSw); go_simp) <;> with_reducible rfl)
        try simp only [Act.put, List.getElem_toArray, List.getElem_cons_zero, List.getElem_cons_succ, List.setIfInBounds_toArray, List.set_cons_zero, List.set_cons_succ]
        refine wpAnyT_take [17, 12] (i := 12) (v := ?va12) rfl (by kernel_rfl) (by kernel_rfl) (by kernel_rfl) (by kernel_rfl) (fun _ _ _ h => h) (Or.inl ⟨by rfl, ?ya12⟩) hHeld ?ra12
        case ya12 => ((intro w hSw; (try dsimp only at hSw); go_simp) <;> with_reducible rfl)
        try simp only [Act.put, List.getElem_toArray, List.getElem_cons_zero, List.getElem_cons_succ, List.setIfInBounds_toArray, List.set_cons_zero, List.set_cons_succ]
        refine wpAnyT_take [17, 13] (i := 13) (v := (clkV (r.en.getD k []))) rfl (by kernel_rfl) (by kernel_rfl) (by kernel_rfl) (by kernel_rfl) (fun _ _ _ h => h) (Or.inl ⟨by rfl, ?ya13⟩) hHeld ?ra13
        case ya13 => exact fun w hSw => exec_load rfl (hSw.loadEn HK.out)
        try simp only [Act.put, List.getElem_toArray, List.getElem_cons_zero, List.getElem_cons_succ, List.setIfInBounds_toArray, List.set_cons_zero, List.set_cons_succ]
        refine wpAnyT_take [17, 16, 15] (i := 15) (v := ?va15) rfl (by kernel_rfl) (by kernel_rfl) (by kernel_rfl) (by kernel_rfl) (fun _ _ _ h => h) (Or.inl ⟨by rfl, ?ya15⟩) hHeld ?ra15
        case ya15 => ((intro w hSw; (try dsimp only at hSw); go_simp) <;> with_reducible rfl)
        try simp only [Act.put, List.getElem_toArray, List.getElem_cons_zero, List.getElem_cons_succ, List.setIfInBounds_toArray, List.set_cons_zero, List.set_cons_succ]
        refine wpAnyT_take [17, 16] (i := 16) (v := ?va16) rfl (by kernel_rfl) (by kernel_rfl) (by kernel_rfl) (by kernel_rfl) (fun _ _ _ h => h) (Or.inl ⟨by rfl, ?ya16⟩) hHeld ?ra16
        case ya16 => ((intro w hSw; (try dsimp only at hSw); go_simp) <;> with_reducible rfl)
        try simp only [Act.put, List.getElem_toArray, List.getElem_cons_zero, List.getElem_cons_succ, List.setIfInBounds_toArray, List.set_cons_zero, List.set_cons_succ]
        refine wpAnyT_ready (rs := [14]) (by kernel_rfl) (by simp) ?_
        refine AllReadyT.cons rfl (fun K hK => ?_) AllReadyT.nil
        go_simp
        refine (rjoin_any _ _ (HD.out.ln.now m HM.out) (HD.out.ln.en k HK.out) _).mono ?_
        rintro e w1 ⟨rfl, f1⟩
        have F1 := hid f1
        clear f1
        refine hK.out _ _ (HD.out.keep0 F1.out) (fun hHeld => ?_)
        clear hK K
        try simp only [Act.put, List.getElem_toArray, List.getElem_cons_zero, List.getElem_cons_succ, List.setIfInBounds_toArray, List.set_cons_zero, List.set_cons_succ]
        refine wpAnyT_take [17] (i := 17) (v := ?va17) rfl (by kernel_rfl) (by kernel_rfl) (by kernel_rfl) (by kernel_rfl) (fun _ _ _ h => h) (Or.inl ⟨by rfl, ?ya17⟩) hHeld ?ra17
        case ya17 => ((intro w hSw; (try dsimp only at hSw); go_simp) <;> with_reducible rfl)
        try simp only [Act.put, List.getElem_toArray, List.getElem_cons_zero, List.getElem_cons_succ, List.setIfInBounds_toArray, List.set_cons_zero, List.set_cons_succ]
        refine wpAnyT_ready (rs := [18]) (by kernel_rfl) (by simp) ?_
        refine AllReadyT.last rfl (by kernel_rfl) (fun K hK => ?_) AllReadyT.nil
        refine step_exec rfl (exec_store rfl (store_clk (joinL_len _ _) hHeld.blk (by have := hHeld.rc.sz; have := HM.out; omega))) ?_
        refine hK.out _ _ ?_
        clear hK K
        try simp only [Act.put, List.getElem_toArray, List.getElem_cons_zero, List.getElem_cons_succ]
        refine wpAnyT_done (by kernel_rfl) ?_ _
        have H1 := hid (hHeld.setNow HM.out (joinL_len (r.now.getD m []) (r.en.getD k [])))
        have HF2 := hid (fr_setRow (w := w1) rb (C.toList.take (m * 13) ++ (joinL (r.now.getD m []) (r.en.getD k [])).map vi ++ C.toList.drop (m * 13 + 13)).toArray)
        generalize w1.setRow rb (C.toList.take (m * 13) ++ (joinL (r.now.getD m []) (r.en.getD k [])).map vi ++ C.toList.drop (m * 13 + 13)).toArray = w2 at H1 HF2 ⊢
        clear hHeld c0
        go_wp2_with fail
        go_end0
        refine ⟨rfl, ?_⟩
        rw [HS.out]
        exact RefT.rmv H1.out ((Fr.refl [] w).drew.tr F1.out) HF2.out
      | false =>
        have HS : Hid (r.joined m k = r) := hid (by
          unfold RSt.joined
          rw [if_neg (fun x => by have := x.2.2; rw [Int.toNat_natCast, ← HEB.out] at this; cases this)])
        go_enter Try.func25, Try.ntmps25
        go_wp2_with fail
        refine CT.out.mono ?_
        rintro e w1 ⟨rfl, rfl⟩
        go_wp2_with fail
        refine CB.out.mono ?_
        rintro e w1 ⟨rfl, rfl⟩
        go_wp2_with fail
        go_end0
        exact ⟨rfl, by rw [HS.out]; exact RMv.refl H0.out⟩
    · have CB := hid (ris_is o w false (Bool.eq_false_iff.2 ho))
      have hs : r.joined t o = r := by unfold RSt.joined; rw [if_neg (fun x => ho x.2.1)]
      rw [hs]
      clear h hs ht ho
      go_enter Try.func25, Try.ntmps25
      go_wp2_with fail
      refine CT.out.mono ?_
      rintro e w1 ⟨rfl, rfl⟩
      go_wp2_with fail
      refine CB.out.mono ?_
      rintro e w1 ⟨rfl, rfl⟩
      go_wp2_with fail
      go_end0
      exact ⟨rfl, RMv.refl H0.out⟩
  · have CT := hid (ris_is t w false (Bool.eq_false_iff.2 ht))
    have hs : r.joined t o = r := by unfold RSt.joined; rw [if_neg (fun x => ht x.1)]
    rw [hs]
    clear h hs ht
    go_enter Try.func25, Try.ntmps25
    go_wp2_with fail
    refine CT.out.mono ?_
    rintro e w1 ⟨rfl, rfl⟩
    go_wp2_with fail
    go_end0
    exact ⟨rfl, RMv.refl H0.out⟩

end Go.Proofs.Ytjkakhjajfpldaa
