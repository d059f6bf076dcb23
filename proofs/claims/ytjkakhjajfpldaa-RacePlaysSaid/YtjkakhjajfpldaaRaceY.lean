/-
  The document's watch: Acquire, Release.
-/
import Derived.Test.YtjkakhjajfpldaaRaceX
namespace Go.Proofs.Ytjkakhjajfpldaa
open Go.RowKit

theorem flat_set {α : Type} (f : α → List Value) (k o : Nat) (l : List α) (hl : ∀ p ∈ l, (f p).length = k) {j : Nat} (hj : j < l.length) (p' : α) (vs : List Value) (h1 : o + vs.length ≤ k) (h2 : f p' = (f l[j]).take o ++ vs ++ (f l[j]).drop (o + vs.length)) :
    (l.flatMap f).take (j * k + o) ++ vs ++ (l.flatMap f).drop (j * k + o + vs.length) = (l.set j p').flatMap f := by
  induction l generalizing j with
  | nil => simp at hj
  | cons p l ih =>
    have hp := hl p (by simp)
    cases j with
    | zero =>
      simp only [List.getElem_cons_zero] at h2
      rw [List.set_cons_zero, List.flatMap_cons, List.flatMap_cons, Nat.zero_mul, Nat.zero_add, h2]
      rw [List.take_append_of_le_length (by omega), List.drop_append_of_le_length (by omega)]
      simp only [List.append_assoc]
    | succ j =>
      simp only [List.getElem_cons_succ] at h2
      have h3 := ih (fun p hp => hl p (by simp [hp])) (j := j) (by simpa using hj) h2
      rw [List.set_cons_succ, List.flatMap_cons, List.flatMap_cons, ← h3]
      have e1 : (j + 1) * k + o = (f p).length + (j * k + o) := by rw [hp, Nat.succ_mul]; omega
      have e2 : (j + 1) * k + o + vs.length = (f p).length + (j * k + o + vs.length) := by rw [e1]; omega
      rw [e2, e1, List.take_length_add_append, List.drop_length_add_append]
      simp only [List.append_assoc]
section
variable {w : World} {rb : Nat} {vk vl : Value} {C : Array Value} {r : RSt}
/-- a clock that is kept is another one -/
theorem RefT.setKept (h : RefT w rb vk vl C r) {j : Nat} (hj : j < r.kept.length) {c : List Int} (hc : c.length = 13) : ∃ b cap cur, vk = .slice (some ⟨b, 0, none⟩) r.kept.length cap ∧ w.heap[b]? = some (.cells cur 76 (0, 0)) ∧ j * 15 + 2 + 13 ≤ cur.size ∧
    RefT (w.setRow b (cur.toList.take (j * 15 + 2) ++ c.map vi ++ cur.toList.drop (j * 15 + 2 + 13)).toArray) rb vk vl C { r with kept := setC r.kept j c } := by
  have hl : ∀ p ∈ r.kept, (keptF p).length = 15 := fun p hp => keptF_len (h.ln.kept p hp)
  rcases h.kept.parts with ⟨_, h0⟩ | ⟨b, cap, cur, e, hh, hcap, hcm, hcs, ht⟩
  · have := h0.1
    omega
  · have hsz : r.kept.length * 15 ≤ cap * 15 := Nat.mul_le_mul_right 15 hcap
    have hj15 : j * 15 + 15 ≤ r.kept.length * 15 := by omega
    have hle : j * 15 + 2 + 13 ≤ cur.size := by rw [hcs]; omega
    refine ⟨b, cap, cur, e, hh, hle, ?_⟩
    have nd := h.nd
    rw [List.nodup_cons, List.nodup_append] at nd
    obtain ⟨n1, n2, n3, n4⟩ := nd
    have hbk : b ∈ fpv vk := by rw [e]; simp [fpv, Value.ownBlock]
    have f := fr_setRow (w := w) b (cur.toList.take (j * 15 + 2) ++ c.map vi ++ cur.toList.drop (j * 15 + 2 + 13)).toArray
    have hlen : (setC r.kept j c).length = r.kept.length := by unfold setC; rw [List.length_set]
    refine ⟨f.obj h.blk (fun hm => n1 (by rw [List.mem_singleton.1 hm]; simp [hbk])), h.rc.kl (k := setC r.kept j c) (l := r.l), ?_, h.accs.keep f (fun x hx hm => n4 b hbk x hx (List.mem_singleton.1 hm).symm), ?_, h.nd⟩
    · simp only []
      rw [hlen, e]
      have hvl : (c.map vi).length = 13 := by rw [List.length_map, hc]
      refine RV.mk (setRow_at hh) hcap hcm ?_ ?_
      · have := splice_size (C := cur) (o := j * 15 + 2) (vs := c.map vi) (by rw [hvl]; exact hle)
        rw [hvl] at this
        rw [this, hcs]
      · have hset : keptL (setC r.kept j c) = (keptL r.kept).take (j * 15 + 2) ++ c.map vi ++ (keptL r.kept).drop (j * 15 + 2 + 13) := by
          have := flat_set keptF 15 2 r.kept hl hj (r.kept[j].1, c) (c.map vi) (by rw [hvl]; omega) (by
            unfold keptF
            simp only [List.take_succ_cons, List.take_zero, List.cons_append, List.nil_append]
            rw [List.drop_eq_nil_of_le (by simp [h.ln.kept _ (List.getElem_mem hj), hc]), List.append_nil])
          rw [hvl] at this
          rw [keptL_eq, keptL_eq, this]
          unfold setC
          rw [List.getD, List.getElem?_eq_getElem hj]; rfl
        rw [hset, ← ht]
        simp only
        rw [List.take_append, List.take_append, List.take_take, List.length_append, List.length_take, hvl, Array.length_toList, List.drop_take]
        have e1 : min (j * 15 + 2) cur.size = j * 15 + 2 := by omega
        have e2 : min (r.kept.length * 15) (j * 15 + 2) = j * 15 + 2 := by omega
        rw [e1, e2, List.take_take, Nat.min_eq_left (by omega : j * 15 + 2 ≤ r.kept.length * 15), List.take_of_length_le (l := c.map vi) (by rw [hvl]; omega)]
    · refine { h.ln with kept := fun p hp => ?_ }
      unfold setC at hp
      rcases List.mem_or_eq_of_mem_set hp with h1 | h1
      · exact h.ln.kept p h1
      · rw [h1]; exact hc
end
theorem RMv.trans {w w1 w2 : World} {rb : Nat} {F F1 : List Nat} {r' : RSt} (f : Fr F w w1) (hF : ∀ b ∈ F1, b ∈ F ∨ w.heap.size ≤ b) (h : RMv w1 w2 rb F1 r') : RMv w w2 rb F r' := by
  obtain ⟨F2, h1, h2, h3⟩ := h
  refine ⟨F2, h1, f.trans h2 hF, fun b hb => ?_⟩
  rcases h3 b hb with h4 | h4
  · exact hF b h4
  · exact .inr (Nat.le_trans f.size h4)
theorem ffnd_len (l : List ((Int × Int) × List Int)) (k : Int × Int) : (ffnd l k).length ≤ l.length + 1 := by
  unfold ffnd
  split
  · omega
  · simp

set_option maxHeartbeats 1000000 in
theorem racquire_any {w : World} {rb : Nat} {F : List Nat} {r : RSt} (h : Ref w rb F r) (hk : r.kept.length ≤ 900) (t a i : Int) : Calls Try.prog 26 #[.pointer (some ⟨rb, 0, none⟩), .int .i64 t, .int .i64 a, .int .i64 i] w fun e w' => e = .returned (.tuple #[]) ∧ RMv w w' rb F (r.acquire t (a, i)) := by
  have H0 := hid h
  have HKL := hid hk
  by_cases ht : inB t = true
  · have CT := hid (ris_is t w true ht)
    have HTB := hid ht
    obtain ⟨m, rfl, m1, m2⟩ := toNat_of ht
    have hm13 : (m : Int) < 13 := by omega
    have hm0 : (0 : Int) ≤ m := by omega
    have HM := hid (show m < 13 by omega)
    have HFI := hid (rfind_any h (by omega) a i)
    clear h hk ht m1 m2
    go_enter Try.func26, Try.ntmps26
    go_wp2_with fail
    refine CT.out.mono ?_
    rintro e w1 ⟨rfl, rfl⟩
    go_wp2_with fail
    refine HFI.out.mono ?_
    rintro e w1 ⟨rfl, F1, ⟨vk, vl, C, rfl, h1⟩, f1, hF1⟩
    obtain ⟨j, hj⟩ : ∃ j, j = fidx r.kept (a, i) := ⟨_, rfl⟩
    obtain ⟨r1, hr1⟩ : ∃ r1 : RSt, r1 = { r with kept := ffnd r.kept (a, i) } := ⟨_, rfl⟩
    have hjl : j < r1.kept.length := by rw [hj, hr1]; exact (fidx_lt r.kept (a, i)).1
    have hkl : r1.kept.length ≤ 1000 := by rw [hr1]; have := ffnd_len r.kept (a, i); have := HKL.out; simp only []; omega
    have HS : Hid (r.acquire m (a, i) = { r1 with now := r1.now.set m (joinL (r1.now.getD m []) (keptC r1.kept j)) }) := hid (by
      unfold RSt.acquire RSt.nw
      rw [if_pos HTB.out]
      simp only [Int.toNat_natCast]
      rw [hr1, hj])
    rw [← hr1] at h1
    rw [← hj]
    have hjb : (j : Int) ≤ 1000 := by omega
    have hj0 : (0 : Int) ≤ j := by omega
    have HD := hid (h1.keep0 (Fr.refl _ _).drew)
    have HJL := hid hjl
    have HF1 := hid (And.intro f1 hF1)
    obtain ⟨b, cap, e, -⟩ := HD.out.keptRow hjl
    obtain ⟨nk, hnk⟩ : ∃ nk, nk = r1.kept.length := ⟨_, rfl⟩
    rw [← hnk] at e
    have HNK := hid hnk
    have HVK := hid e
    have hjn : (j : Int) < nk := by omega
    have HS1 : Hid (∀ w', RefT w' rb vk vl C r1 → w'.cell? ⟨rb, 351, none⟩ = some (.slice (some ⟨b, 0, none⟩) nk cap)) := hid (fun w' h => by rw [h.slots.1, HVK.out])
    have HLK : Hid (∀ w', RefT w' rb vk vl C r1 → (Instr.loadAt 45 (.pointer (some ⟨b, j * 15 + 2, none⟩))).run Try.prog w' = .ok (clkV (keptC r1.kept j)) w') := hid (fun w' h => h.loadKept HJL.out (by rw [HVK.out, HNK.out]))
    have HKC : Hid ((keptC r1.kept j).length = 13) := hid (by unfold keptC; rw [List.getD, List.getElem?_eq_getElem hjl]; exact HD.out.ln.kept _ (List.getElem_mem hjl))
    obtain ⟨kc, hkc⟩ : ∃ kc, kc = keptC r1.kept j := ⟨_, rfl⟩
    rw [← hkc] at HS HLK HKC
    clear h1 f1 hF1 e hnk hjl hkl hj hr1 hkc
    go_upto_region 2 with (fail)
    refine wp_region_T (fun w' => RefT w' rb vk vl C r1) 20 (by kernel_rfl) HD.out (fun hHeld => ?_)
    refine wpAnyT_take [19, 0] (i := 0) (v := ?va0) rfl (by kernel_rfl) (by kernel_rfl) (by kernel_rfl) (by kernel_rfl) (fun _ _ _ h => h) (Or.inl ⟨by rfl, ?ya0⟩) hHeld ?ra0
    case ya0 => ((intro w hSw; (try dsimp only at hSw); go_simp) <;> with_reducible rfl)
    try simp only [Act.put, List.getElem_toArray, List.getElem_cons_zero, List.setIfInBounds_toArray, List.set_cons_zero, List.set_cons_succ]
    refine wpAnyT_take [19, 1] (i := 1) (v := ?va1) rfl (by kernel_rfl) (by kernel_rfl) (by kernel_rfl) (by kernel_rfl) (fun _ _ _ h => h) (Or.inl ⟨by rfl, ?ya1⟩) hHeld ?ra1
    case ya1 => ((intro w hSw; (try dsimp only at hSw); go_simp) <;> with_reducible rfl)
    try simp only [Act.put, List.getElem_toArray, List.getElem_cons_zero, List.getElem_cons_succ, List.setIfInBounds_toArray, List.set_cons_zero, List.set_cons_succ]
    refine wpAnyT_take [19, 2] (i := 2) (v := ?va2) rfl (by kernel_rfl) (by kernel_rfl) (by kernel_rfl) (by kernel_rfl) (fun _ _ _ h => h) (Or.inl ⟨by rfl, ?ya2⟩) hHeld ?ra2
    case ya2 => ((intro w hSw; (try dsimp only at hSw); go_simp) <;> with_reducible rfl)
    try simp only [Act.put, List.getElem_toArray, List.getElem_cons_zero, List.getElem_cons_succ, List.setIfInBounds_toArray, List.set_cons_zero, List.set_cons_succ]
    refine wpAnyT_take [19, 3] (i := 3) (v := ?va3) rfl (by kernel_rfl) (by kernel_rfl) (by kernel_rfl) (by kernel_rfl) (fun _ _ _ h => h) (Or.inl ⟨by rfl, ?ya3⟩) hHeld ?ra3
    case ya3 => ((intro w hSw; (try dsimp only at hSw); go_simp) <;> with_reducible rfl)
    try simp only [Act.put, List.getElem_toArray, List.getElem_cons_zero, List.getElem_cons_succ, List.setIfInBounds_toArray, List.set_cons_zero, List.set_cons_succ]
    refine wpAnyT_take [19, 4] (i := 4) (v := ?va4) rfl (by kernel_rfl) (by kernel_rfl) (by kernel_rfl) (by kernel_rfl) (fun _ _ _ h => h) (Or.inl ⟨by rfl, ?ya4⟩) hHeld ?ra4
    case ya4 => ((intro w hSw; (try dsimp only at hSw); go_simp) <;> with_reducible rfl)
    try simp only [Act.put, List.getElem_toArray, List.getElem_cons_zero, List.getElem_cons_succ, List.setIfInBounds_toArray, List.set_cons_zero, List.set_cons_succ]
    refine wpAnyT_take [19, 5] (i := 5) (v := ?va5) rfl (by kernel_rfl) (by kernel_rfl) (by kernel_rfl) (by kernel_rfl) (fun _ _ _ h => h) (Or.inl ⟨by rfl, ?ya5⟩) hHeld ?ra5
    case ya5 => ((intro w hSw; (try dsimp only at hSw); go_simp) <;> with_reducible rfl)
    try simp only [Act.put, List.getElem_toArray, List.getElem_cons_zero, List.getElem_cons_succ, List.setIfInBounds_toArray, List.set_cons_zero, List.set_cons_succ]
    refine wpAnyT_take [19, 6] (i := 6) (v := ?va6) rfl (by kernel_rfl) (by kernel_rfl) (by kernel_rfl) (by kernel_rfl) (fun _ _ _ h => h) (Or.inl ⟨by rfl, ?ya6⟩) hHeld ?ra6
    case ya6 => ((intro w hSw; (try dsimp only at hSw); go_simp) <;> with_reducible rfl)
    try simp only [Act.put, List.getElem_toArray, List.getElem_cons_zero, List.getElem_cons_succ, List.setIfInBounds_toArray, List.set_cons_zero, List.set_cons_succ]
    refine wpAnyT_take [19, 7] (i := 7) (v := (clkV (r1.now.getD m []))) rfl (by kernel_rfl) (by kernel_rfl) (by kernel_rfl) (by kernel_rfl) (fun _ _ _ h => h) (Or.inl ⟨by rfl, ?ya7⟩) hHeld ?ra7
    case ya7 => exact fun w hSw => exec_load rfl (hSw.loadNow HM.out)
    try simp only [Act.put, List.getElem_toArray, List.getElem_cons_zero, List.getElem_cons_succ, List.setIfInBounds_toArray, List.set_cons_zero, List.set_cons_succ]
    refine wpAnyT_take [19, 8] (i := 8) (v := ?va8) rfl (by kernel_rfl) (by kernel_rfl) (by kernel_rfl) (by kernel_rfl) (fun _ _ _ h => h) (Or.inl ⟨by rfl, ?ya8⟩) hHeld ?ra8
    case ya8 => ((intro w hSw; (try dsimp only at hSw); go_simp) <;> with_reducible rfl)
    try simp only [Act.put, List.getElem_toArray, List.getElem_cons_zero, List.getElem_cons_succ, List.setIfInBounds_toArray, List.set_cons_zero, List.set_cons_succ]
    refine wpAnyT_take [19, 9] (i := 9) (v := ?va9) rfl (by kernel_rfl) (by kernel_rfl) (by kernel_rfl) (by kernel_rfl) (fun _ _ _ h => h) (Or.inl ⟨by rfl, ?ya9⟩) hHeld ?ra9
    case ya9 => ((intro w hSw; (try dsimp only at hSw); go_simp) <;> with_reducible rfl)
    try simp only [Act.put, List.getElem_toArray, List.getElem_cons_zero, List.getElem_cons_succ, List.setIfInBounds_toArray, List.set_cons_zero, List.set_cons_succ]
    refine wpAnyT_take [19, 10] (i := 10) (v := ?va10) rfl (by kernel_rfl) (by kernel_rfl) (by kernel_rfl) (by kernel_rfl) (fun _ _ _ h => h) (Or.inl ⟨by rfl, ?ya10⟩) hHeld ?ra10
    case ya10 => ((intro w hSw; (try dsimp only at hSw); go_simp) <;> with_reducible rfl)
    try simp only [Act.put, List.getElem_toArray, List.getElem_cons_zero, List.getElem_cons_succ, List.setIfInBounds_toArray, List.set_cons_zero, List.set_cons_succ]
    refine wpAnyT_take [19, 11] (i := 11) (v := .slice (some ⟨b, 0, none⟩) nk cap) rfl (by kernel_rfl) (by kernel_rfl) (by kernel_rfl) (by kernel_rfl) (fun _ _ _ h => h) (Or.inl ⟨by rfl, ?ysl⟩) hHeld ?rsl
    case ysl => (intro w hSw; have q := HS1.out w hSw; clear hHeld hSw; go_simp)
    try simp only [Act.put, List.getElem_toArray, List.getElem_cons_zero, List.getElem_cons_succ, List.setIfInBounds_toArray, List.set_cons_zero, List.set_cons_succ]
    refine wpAnyT_take [19, 12] (i := 12) (v := ?va12) rfl (by kernel_rfl) (by kernel_rfl) (by kernel_rfl) (by kernel_rfl) (fun _ _ _ h => h) (Or.inl ⟨by rfl, ?ya12⟩) hHeld ?ra12
    case ya12 => ((intro w hSw; (try dsimp only at hSw); go_simp) <;> with_reducible rfl)
    try simp only [Act.put, List.getElem_toArray, List.getElem_cons_zero, List.getElem_cons_succ, List.setIfInBounds_toArray, List.set_cons_zero, List.set_cons_succ]
    refine wpAnyT_take [19, 13] (i := 13) (v := ?va13) rfl (by kernel_rfl) (by kernel_rfl) (by kernel_rfl) (by kernel_rfl) (fun _ _ _ h => h) (Or.inl ⟨by rfl, ?ya13⟩) hHeld ?ra13
    case ya13 => ((intro w hSw; (try dsimp only at hSw); go_simp) <;> with_reducible rfl)
    try simp only [Act.put, List.getElem_toArray, List.getElem_cons_zero, List.getElem_cons_succ, List.setIfInBounds_toArray, List.set_cons_zero, List.set_cons_succ]
    refine wpAnyT_take [19, 14] (i := 14) (v := ?va14) rfl (by kernel_rfl) (by kernel_rfl) (by kernel_rfl) (by kernel_rfl) (fun _ _ _ h => h) (Or.inl ⟨by rfl, ?ya14⟩) hHeld ?ra14
    case ya14 => ((intro w hSw; (try dsimp only at hSw); go_simp) <;> with_reducible rfl)
    try simp only [Act.put, List.getElem_toArray, List.getElem_cons_zero, List.getElem_cons_succ, List.setIfInBounds_toArray, List.set_cons_zero, List.set_cons_succ]
    refine wpAnyT_take [19, 15] (i := 15) (v := (clkV kc)) rfl (by kernel_rfl) (by kernel_rfl) (by kernel_rfl) (by kernel_rfl) (fun _ _ _ h => h) (Or.inl ⟨by rfl, ?ya15⟩) hHeld ?ra15
    case ya15 => exact fun w hSw => exec_load rfl (HLK.out _ hSw)
    try simp only [Act.put, List.getElem_toArray, List.getElem_cons_zero, List.getElem_cons_succ, List.setIfInBounds_toArray, List.set_cons_zero, List.set_cons_succ]
    refine wpAnyT_take [19, 18, 17] (i := 17) (v := ?va17) rfl (by kernel_rfl) (by kernel_rfl) (by kernel_rfl) (by kernel_rfl) (fun _ _ _ h => h) (Or.inl ⟨by rfl, ?ya17⟩) hHeld ?ra17
    case ya17 => ((intro w hSw; (try dsimp only at hSw); go_simp) <;> with_reducible rfl)
    try simp only [Act.put, List.getElem_toArray, List.getElem_cons_zero, List.getElem_cons_succ, List.setIfInBounds_toArray, List.set_cons_zero, List.set_cons_succ]
    refine wpAnyT_take [19, 18] (i := 18) (v := ?va18) rfl (by kernel_rfl) (by kernel_rfl) (by kernel_rfl) (by kernel_rfl) (fun _ _ _ h => h) (Or.inl ⟨by rfl, ?ya18⟩) hHeld ?ra18
    case ya18 => ((intro w hSw; (try dsimp only at hSw); go_simp) <;> with_reducible rfl)
    try simp only [Act.put, List.getElem_toArray, List.getElem_cons_zero, List.getElem_cons_succ, List.setIfInBounds_toArray, List.set_cons_zero, List.set_cons_succ]
    refine wpAnyT_ready (rs := [16]) (by kernel_rfl) (by simp) ?_
    refine AllReadyT.cons rfl (fun K hK => ?_) AllReadyT.nil
    go_simp
    refine (rjoin_any _ _ (HD.out.ln.now m HM.out) HKC.out _).mono ?_
    rintro e w2 ⟨rfl, f2⟩
    have F2 := hid f2
    clear f2
    refine hK.out _ _ (HD.out.keep0 F2.out) (fun hHeld => ?_)
    clear hK K
    try simp only [Act.put, List.getElem_toArray, List.getElem_cons_zero, List.getElem_cons_succ, List.setIfInBounds_toArray, List.set_cons_zero, List.set_cons_succ]
    refine wpAnyT_take [19] (i := 19) (v := ?va19) rfl (by kernel_rfl) (by kernel_rfl) (by kernel_rfl) (by kernel_rfl) (fun _ _ _ h => h) (Or.inl ⟨by rfl, ?ya19⟩) hHeld ?ra19
    case ya19 => ((intro w hSw; (try dsimp only at hSw); go_simp) <;> with_reducible rfl)
    try simp only [Act.put, List.getElem_toArray, List.getElem_cons_zero, List.getElem_cons_succ, List.setIfInBounds_toArray, List.set_cons_zero, List.set_cons_succ]
    refine wpAnyT_ready (rs := [20]) (by kernel_rfl) (by simp) ?_
    refine AllReadyT.last rfl (by kernel_rfl) (fun K hK => ?_) AllReadyT.nil
    refine step_exec rfl (exec_store rfl (store_clk (joinL_len _ _) hHeld.blk (by have := hHeld.rc.sz; have := HM.out; omega))) ?_
    refine hK.out _ _ ?_
    clear hK K
    try simp only [Act.put, List.getElem_toArray, List.getElem_cons_zero, List.getElem_cons_succ]
    refine wpAnyT_done (by kernel_rfl) ?_ _
    have H1 := hid (hHeld.setNow HM.out (joinL_len (r1.now.getD m []) kc))
    have HF2 := hid (fr_setRow (w := w2) rb (C.toList.take (m * 13) ++ (joinL (r1.now.getD m []) kc).map vi ++ C.toList.drop (m * 13 + 13)).toArray)
    generalize w2.setRow rb (C.toList.take (m * 13) ++ (joinL (r1.now.getD m []) kc).map vi ++ C.toList.drop (m * 13 + 13)).toArray = w3 at H1 HF2 ⊢
    clear hHeld
    go_wp2_with fail
    go_end0
    refine ⟨rfl, ?_⟩
    rw [HS.out]
    exact RMv.trans HF1.out.1 HF1.out.2 (RefT.rmv H1.out ((Fr.refl [] w1).drew.tr F2.out) HF2.out)
  · have CT := hid (ris_is t w false (Bool.eq_false_iff.2 ht))
    have hs : r.acquire t (a, i) = r := by unfold RSt.acquire; rw [if_neg ht]
    rw [hs]
    clear h hs ht
    go_enter Try.func26, Try.ntmps26
    go_wp2_with fail
    refine CT.out.mono ?_
    rintro e w1 ⟨rfl, rfl⟩
    go_wp2_with fail
    refine bodyPost_ret (results_none rfl _ _ _) rfl ?_
    exact ⟨rfl, RMv.refl H0.out⟩

/-! ### Release -/
set_option maxHeartbeats 1000000 in
theorem rrelease_any {w : World} {rb : Nat} {F : List Nat} {r : RSt} (h : Ref w rb F r) (hk : r.kept.length ≤ 900) (hr : ∀ t : Nat, t < 13 → ∀ i, 0 ≤ (r.now.getD t []).getD i 0 ∧ (r.now.getD t []).getD i 0 ≤ 1000) (t a i : Int) : Calls Try.prog 27 #[.pointer (some ⟨rb, 0, none⟩), .int .i64 t, .int .i64 a, .int .i64 i] w fun e w' => e = .returned (.tuple #[]) ∧ RMv w w' rb F (r.release t (a, i)) := by
  have H0 := hid h
  have HKL := hid hk
  by_cases ht : inB t = true
  · have CT := hid (ris_is t w true ht)
    have HTB := hid ht
    obtain ⟨m, rfl, m1, m2⟩ := toNat_of ht
    have hm13 : (m : Int) < 13 := by omega
    have hm0 : (0 : Int) ≤ m := by omega
    have HM := hid (show m < 13 by omega)
    have HB := hid (hr m HM.out m)
    have HFI := hid (rfind_any h (by omega) a i)
    clear h hk ht m1 m2 hr
    go_enter Try.func27, Try.ntmps27
    go_wp2_with fail
    refine CT.out.mono ?_
    rintro e w1 ⟨rfl, rfl⟩
    go_wp2_with fail
    refine HFI.out.mono ?_
    rintro e w1 ⟨rfl, F1, ⟨vk, vl, C, rfl, h1⟩, f1, hF1⟩
    obtain ⟨j, hj⟩ : ∃ j, j = fidx r.kept (a, i) := ⟨_, rfl⟩
    obtain ⟨r1, hr1⟩ : ∃ r1 : RSt, r1 = { r with kept := ffnd r.kept (a, i) } := ⟨_, rfl⟩
    have hjl : j < r1.kept.length := by rw [hj, hr1]; exact (fidx_lt r.kept (a, i)).1
    have hkl : r1.kept.length ≤ 1000 := by rw [hr1]; have := ffnd_len r.kept (a, i); have := HKL.out; simp only []; omega
    have HS : Hid (r.release m (a, i) = { r1 with kept := setC r1.kept j (joinL (keptC r1.kept j) (r1.now.getD m [])), now := r1.now.set m (bump (r1.now.getD m []) m) }) := hid (by
      unfold RSt.release RSt.nw
      rw [if_pos HTB.out]
      simp only [Int.toNat_natCast]
      rw [hr1, hj])
    rw [← hr1] at h1
    rw [← hj]
    have HNOW := hid (show r1.now = r.now by rw [hr1])
    have hjb : (j : Int) ≤ 1000 := by omega
    have hj0 : (0 : Int) ≤ j := by omega
    have HD := hid (h1.keep0 (Fr.refl _ _).drew)
    have HJL := hid hjl
    have HF1 := hid (And.intro f1 hF1)
    obtain ⟨b, cap, e, -⟩ := HD.out.keptRow hjl
    obtain ⟨nk, hnk⟩ : ∃ nk, nk = r1.kept.length := ⟨_, rfl⟩
    rw [← hnk] at e
    have HNK := hid hnk
    have HVK := hid e
    have hjn : (j : Int) < nk := by omega
    have HS1 : Hid (∀ w', RefT w' rb vk vl C r1 → w'.cell? ⟨rb, 351, none⟩ = some (.slice (some ⟨b, 0, none⟩) nk cap)) := hid (fun w' h => by rw [h.slots.1, HVK.out])
    have HLK : Hid (∀ w', RefT w' rb vk vl C r1 → (Instr.loadAt 45 (.pointer (some ⟨b, j * 15 + 2, none⟩))).run Try.prog w' = .ok (clkV (keptC r1.kept j)) w') := hid (fun w' h => h.loadKept HJL.out (by rw [HVK.out, HNK.out]))
    have HKC : Hid ((keptC r1.kept j).length = 13) := hid (by unfold keptC; rw [List.getD, List.getElem?_eq_getElem hjl]; exact HD.out.ln.kept _ (List.getElem_mem hjl))
    obtain ⟨kc, hkc⟩ : ∃ kc, kc = keptC r1.kept j := ⟨_, rfl⟩
    rw [← hkc] at HS HLK HKC
    clear h1 f1 hF1 e hnk hjl hkl hj hr1 hkc
    have HNB : Hid (r1.now = r.now) := hid HNOW.out
    go_upto_region 2 with (fail)
    refine wp_region_T (fun w' => RefT w' rb vk vl C r1) 22 (by kernel_rfl) HD.out (fun hHeld => ?_)
    refine wpAnyT_take [21, 20, 0] (i := 0) (v := ?va0) rfl (by kernel_rfl) (by kernel_rfl) (by kernel_rfl) (by kernel_rfl) (fun _ _ _ h => h) (Or.inl ⟨by rfl, ?ya0⟩) hHeld ?ra0
    case ya0 => ((intro w hSw; (try dsimp only at hSw); go_simp) <;> with_reducible rfl)
    try simp only [Act.put, List.getElem_toArray, List.getElem_cons_zero, List.setIfInBounds_toArray, List.set_cons_zero, List.set_cons_succ]
    refine wpAnyT_take [21, 20, 1] (i := 1) (v := ?va1) rfl (by kernel_rfl) (by kernel_rfl) (by kernel_rfl) (by kernel_rfl) (fun _ _ _ h => h) (Or.inl ⟨by rfl, ?ya1⟩) hHeld ?ra1
    case ya1 => ((intro w hSw; (try dsimp only at hSw); go_simp) <;> with_reducible rfl)
    try simp only [Act.put, List.getElem_toArray, List.getElem_cons_zero, List.getElem_cons_succ, List.setIfInBounds_toArray, List.set_cons_zero, List.set_cons_succ]
    refine wpAnyT_take [21, 20, 2] (i := 2) (v := ?va2) rfl (by kernel_rfl) (by kernel_rfl) (by kernel_rfl) (by kernel_rfl) (fun _ _ _ h => h) (Or.inl ⟨by rfl, ?ya2⟩) hHeld ?ra2
    case ya2 => ((intro w hSw; (try dsimp only at hSw); go_simp) <;> with_reducible rfl)
    try simp only [Act.put, List.getElem_toArray, List.getElem_cons_zero, List.getElem_cons_succ, List.setIfInBounds_toArray, List.set_cons_zero, List.set_cons_succ]
    refine wpAnyT_take [21, 20, 3] (i := 3) (v := .slice (some ⟨b, 0, none⟩) nk cap) rfl (by kernel_rfl) (by kernel_rfl) (by kernel_rfl) (by kernel_rfl) (fun _ _ _ h => h) (Or.inl ⟨by rfl, ?ysl⟩) hHeld ?rsl
    case ysl => (intro w hSw; have q := HS1.out w hSw; clear hHeld hSw; go_simp)
    try simp only [Act.put, List.getElem_toArray, List.getElem_cons_zero, List.getElem_cons_succ, List.setIfInBounds_toArray, List.set_cons_zero, List.set_cons_succ]
    refine wpAnyT_take [21, 20, 4] (i := 4) (v := ?va4) rfl (by kernel_rfl) (by kernel_rfl) (by kernel_rfl) (by kernel_rfl) (fun _ _ _ h => h) (Or.inl ⟨by rfl, ?ya4⟩) hHeld ?ra4
    case ya4 => ((intro w hSw; (try dsimp only at hSw); go_simp) <;> with_reducible rfl)
    try simp only [Act.put, List.getElem_toArray, List.getElem_cons_zero, List.getElem_cons_succ, List.setIfInBounds_toArray, List.set_cons_zero, List.set_cons_succ]
    refine wpAnyT_take [21, 20, 5] (i := 5) (v := ?va5) rfl (by kernel_rfl) (by kernel_rfl) (by kernel_rfl) (by kernel_rfl) (fun _ _ _ h => h) (Or.inl ⟨by rfl, ?ya5⟩) hHeld ?ra5
    case ya5 => ((intro w hSw; (try dsimp only at hSw); go_simp) <;> with_reducible rfl)
    try simp only [Act.put, List.getElem_toArray, List.getElem_cons_zero, List.getElem_cons_succ, List.setIfInBounds_toArray, List.set_cons_zero, List.set_cons_succ]
    refine wpAnyT_take [21, 20, 6] (i := 6) (v := ?va6) rfl (by kernel_rfl) (by kernel_rfl) (by kernel_rfl) (by kernel_rfl) (fun _ _ _ h => h) (Or.inl ⟨by rfl, ?ya6⟩) hHeld ?ra6
    case ya6 => ((intro w hSw; (try dsimp only at hSw); go_simp) <;> with_reducible rfl)
    try simp only [Act.put, List.getElem_toArray, List.getElem_cons_zero, List.getElem_cons_succ, List.setIfInBounds_toArray, List.set_cons_zero, List.set_cons_succ]
    refine wpAnyT_take [21, 20, 7] (i := 7) (v := ?va7) rfl (by kernel_rfl) (by kernel_rfl) (by kernel_rfl) (by kernel_rfl) (fun _ _ _ h => h) (Or.inl ⟨by rfl, ?ya7⟩) hHeld ?ra7
    case ya7 => ((intro w hSw; (try dsimp only at hSw); go_simp) <;> with_reducible rfl)
    try simp only [Act.put, List.getElem_toArray, List.getElem_cons_zero, List.getElem_cons_succ, List.setIfInBounds_toArray, List.set_cons_zero, List.set_cons_succ]
    refine wpAnyT_take [21, 20, 8] (i := 8) (v := .slice (some ⟨b, 0, none⟩) nk cap) rfl (by kernel_rfl) (by kernel_rfl) (by kernel_rfl) (by kernel_rfl) (fun _ _ _ h => h) (Or.inl ⟨by rfl, ?ysm⟩) hHeld ?rsm
    case ysm => (intro w hSw; have q := HS1.out w hSw; clear hHeld hSw; go_simp)
    try simp only [Act.put, List.getElem_toArray, List.getElem_cons_zero, List.getElem_cons_succ, List.setIfInBounds_toArray, List.set_cons_zero, List.set_cons_succ]
    refine wpAnyT_take [21, 20, 9] (i := 9) (v := ?va9) rfl (by kernel_rfl) (by kernel_rfl) (by kernel_rfl) (by kernel_rfl) (fun _ _ _ h => h) (Or.inl ⟨by rfl, ?ya9⟩) hHeld ?ra9
    case ya9 => ((intro w hSw; (try dsimp only at hSw); go_simp) <;> with_reducible rfl)
    try simp only [Act.put, List.getElem_toArray, List.getElem_cons_zero, List.getElem_cons_succ, List.setIfInBounds_toArray, List.set_cons_zero, List.set_cons_succ]
    refine wpAnyT_take [21, 20, 10] (i := 10) (v := ?va10) rfl (by kernel_rfl) (by kernel_rfl) (by kernel_rfl) (by kernel_rfl) (fun _ _ _ h => h) (Or.inl ⟨by rfl, ?ya10⟩) hHeld ?ra10
    case ya10 => ((intro w hSw; (try dsimp only at hSw); go_simp) <;> with_reducible rfl)
    try simp only [Act.put, List.getElem_toArray, List.getElem_cons_zero, List.getElem_cons_succ, List.setIfInBounds_toArray, List.set_cons_zero, List.set_cons_succ]
    refine wpAnyT_take [21, 20, 11] (i := 11) (v := ?va11) rfl (by kernel_rfl) (by kernel_rfl) (by kernel_rfl) (by kernel_rfl) (fun _ _ _ h => h) (Or.inl ⟨by rfl, ?ya11⟩) hHeld ?ra11
    case ya11 => ((intro w hSw; (try dsimp only at hSw); go_simp) <;> with_reducible rfl)
    try simp only [Act.put, List.getElem_toArray, List.getElem_cons_zero, List.getElem_cons_succ, List.setIfInBounds_toArray, List.set_cons_zero, List.set_cons_succ]
    refine wpAnyT_take [19, 12] (i := 12) (v := (clkV kc)) rfl (by kernel_rfl) (by kernel_rfl) (by kernel_rfl) (by kernel_rfl) (fun _ _ _ h => h) (Or.inl ⟨by rfl, ?ya12⟩) hHeld ?ra12
    case ya12 => exact fun w hSw => exec_load rfl (HLK.out _ hSw)
    try simp only [Act.put, List.getElem_toArray, List.getElem_cons_zero, List.getElem_cons_succ, List.setIfInBounds_toArray, List.set_cons_zero, List.set_cons_succ]
    refine wpAnyT_take [21, 20, 13] (i := 13) (v := ?va13) rfl (by kernel_rfl) (by kernel_rfl) (by kernel_rfl) (by kernel_rfl) (fun _ _ _ h => h) (Or.inl ⟨by rfl, ?ya13⟩) hHeld ?ra13
    case ya13 => ((intro w hSw; (try dsimp only at hSw); go_simp) <;> with_reducible rfl)
    try simp only [Act.put, List.getElem_toArray, List.getElem_cons_zero, List.getElem_cons_succ, List.setIfInBounds_toArray, List.set_cons_zero, List.set_cons_succ]
    refine wpAnyT_take [21, 20, 14] (i := 14) (v := ?va14) rfl (by kernel_rfl) (by kernel_rfl) (by kernel_rfl) (by kernel_rfl) (fun _ _ _ h => h) (Or.inl ⟨by rfl, ?ya14⟩) hHeld ?ra14
    case ya14 => ((intro w hSw; (try dsimp only at hSw); go_simp) <;> with_reducible rfl)
    try simp only [Act.put, List.getElem_toArray, List.getElem_cons_zero, List.getElem_cons_succ, List.setIfInBounds_toArray, List.set_cons_zero, List.set_cons_succ]
    refine wpAnyT_take [21, 20, 15] (i := 15) (v := ?va15) rfl (by kernel_rfl) (by kernel_rfl) (by kernel_rfl) (by kernel_rfl) (fun _ _ _ h => h) (Or.inl ⟨by rfl, ?ya15⟩) hHeld ?ra15
    case ya15 => ((intro w hSw; (try dsimp only at hSw); go_simp) <;> with_reducible rfl)
    try simp only [Act.put, List.getElem_toArray, List.getElem_cons_zero, List.getElem_cons_succ, List.setIfInBounds_toArray, List.set_cons_zero, List.set_cons_succ]
    refine wpAnyT_take [21, 20, 16] (i := 16) (v := ?va16) rfl (by kernel_rfl) (by kernel_rfl) (by kernel_rfl) (by kernel_rfl) (fun _ _ _ h => h) (Or.inl ⟨by rfl, ?ya16⟩) hHeld ?ra16
    case ya16 => ((intro w hSw; (try dsimp only at hSw); go_simp) <;> with_reducible rfl)
    try simp only [Act.put, List.getElem_toArray, List.getElem_cons_zero, List.getElem_cons_succ, List.setIfInBounds_toArray, List.set_cons_zero, List.set_cons_succ]
    refine wpAnyT_take [21, 20, 17] (i := 17) (v := ?va17) rfl (by kernel_rfl) (by kernel_rfl) (by kernel_rfl) (by kernel_rfl) (fun _ _ _ h => h) (Or.inl ⟨by rfl, ?ya17⟩) hHeld ?ra17
    case ya17 => ((intro w hSw; (try dsimp only at hSw); go_simp) <;> with_reducible rfl)
    try simp only [Act.put, List.getElem_toArray, List.getElem_cons_zero, List.getElem_cons_succ, List.setIfInBounds_toArray, List.set_cons_zero, List.set_cons_succ]
    refine wpAnyT_take [19, 18] (i := 18) (v := (clkV (r1.now.getD m []))) rfl (by kernel_rfl) (by kernel_rfl) (by kernel_rfl) (by kernel_rfl) (fun _ _ _ h => h) (Or.inl ⟨by rfl, ?ya18⟩) hHeld ?ra18
    case ya18 => exact fun w hSw => exec_load rfl (hSw.loadNow HM.out)
    try simp only [Act.put, List.getElem_toArray, List.getElem_cons_zero, List.getElem_cons_succ, List.setIfInBounds_toArray, List.set_cons_zero, List.set_cons_succ]
    refine wpAnyT_ready (rs := [19]) (by kernel_rfl) (by simp) ?_
    refine AllReadyT.cons rfl (fun K hK => ?_) AllReadyT.nil
    go_simp
    refine (rjoin_any _ _ HKC.out (HD.out.ln.now m HM.out) _).mono ?_
    rintro e w2 ⟨rfl, f2⟩
    have F2 := hid f2
    clear f2
    refine hK.out _ _ (HD.out.keep0 F2.out) (fun hHeld => ?_)
    clear hK K
    try simp only [Act.put, List.getElem_toArray, List.getElem_cons_zero, List.getElem_cons_succ, List.setIfInBounds_toArray, List.set_cons_zero, List.set_cons_succ]
    refine wpAnyT_take [21, 20] (i := 20) (v := ?va20) rfl (by kernel_rfl) (by kernel_rfl) (by kernel_rfl) (by kernel_rfl) (fun _ _ _ h => h) (Or.inl ⟨by rfl, ?ya20⟩) hHeld ?ra20
    case ya20 => ((intro w hSw; (try dsimp only at hSw); go_simp) <;> with_reducible rfl)
    try simp only [Act.put, List.getElem_toArray, List.getElem_cons_zero, List.getElem_cons_succ, List.setIfInBounds_toArray, List.set_cons_zero, List.set_cons_succ]
    refine wpAnyT_take [21] (i := 21) (v := ?va21) rfl (by kernel_rfl) (by kernel_rfl) (by kernel_rfl) (by kernel_rfl) (fun _ _ _ h => h) (Or.inl ⟨by rfl, ?ya21⟩) hHeld ?ra21
    case ya21 => ((intro w hSw; (try dsimp only at hSw); go_simp) <;> with_reducible rfl)
    try simp only [Act.put, List.getElem_toArray, List.getElem_cons_zero, List.getElem_cons_succ, List.setIfInBounds_toArray, List.set_cons_zero, List.set_cons_succ]
    obtain ⟨b', cap', cur, e', hh, hle, hk1⟩ := hHeld.setKept HJL.out (joinL_len kc (r1.now.getD m []))
    rw [HVK.out] at e'
    injection e' with e' _ _
    injection e' with e'
    injection e' with e' _ _
    subst e'
    refine wpAnyT_ready (rs := [22]) (by kernel_rfl) (by simp) ?_
    refine AllReadyT.last rfl (by kernel_rfl) (fun K hK => ?_) AllReadyT.nil
    refine step_exec rfl (exec_store rfl (store_clk (joinL_len _ _) hh hle)) ?_
    refine hK.out _ _ ?_
    clear hK K
    try simp only [Act.put, List.getElem_toArray, List.getElem_cons_zero, List.getElem_cons_succ]
    refine wpAnyT_done (by kernel_rfl) ?_ _
    have HF2 := hid (fr_setRow (w := w2) b (cur.toList.take (j * 15 + 2) ++ (joinL kc (r1.now.getD m [])).map vi ++ cur.toList.drop (j * 15 + 2 + 13)).toArray)
    have H2 := hid hk1
    generalize w2.setRow b (cur.toList.take (j * 15 + 2) ++ (joinL kc (r1.now.getD m [])).map vi ++ cur.toList.drop (j * 15 + 2 + 13)).toArray = w3 at H2 HF2 ⊢
    clear hHeld hk1 hh hle
    obtain ⟨x, hx⟩ : ∃ x, x = (r1.now.getD m []).getD m 0 := ⟨_, rfl⟩
    have hxb : 0 ≤ x ∧ x ≤ 1000 := by rw [hx, HNB.out]; exact HB.out
    obtain ⟨x0, x1⟩ := hxb
    have HX := hid hx
    clear hx
    go_upto_region 3 with (fail)
    have c0 := H2.out.nowCell HM.out HM.out
    simp only [] at c0
    rw [← HX.out] at c0
    have f0 := H2.out.free (m * 13 + m)
    go_region
    all_goals
      obtain ⟨C3, H3⟩ := H2.out.bump HM.out HX.out ⟨x0, by omega⟩
      have H4 := hid H3
      have hbk : b ∈ fpv vk := by rw [HVK.out]; simp [fpv, Value.ownBlock]
      have HF3 : Hid (Fr (rb :: (fpv vk ++ fpv vl)) w2 (w3.setCell ⟨rb, m * 13 + m, none⟩ (.int .i64 (x + 1)))) := hid ((HF2.out.sub (fun y hy => .inl (by rw [List.mem_singleton.1 hy]; simp [hbk]))).setCell (.inl (by simp)) _)
      clear H3 c0 f0
      go_wp2_with fail
      go_end0
      refine ⟨rfl, ?_⟩
      rw [HS.out]
      exact RMv.trans HF1.out.1 HF1.out.2 ⟨_, ⟨vk, vl, C3, rfl, H4.out.keep0 (Fr.refl _ _).drew⟩, (((Fr.refl [] w1).drew.tr F2.out).sub (by simp)).tr HF3.out.drew, fun _ hb => .inl hb⟩
  · have CT := hid (ris_is t w false (Bool.eq_false_iff.2 ht))
    have hs : r.release t (a, i) = r := by unfold RSt.release; rw [if_neg ht]
    rw [hs]
    clear h hs ht hr
    go_enter Try.func27, Try.ntmps27
    go_wp2_with fail
    refine CT.out.mono ?_
    rintro e w1 ⟨rfl, rfl⟩
    go_wp2_with fail
    refine bodyPost_ret (results_none rfl _ _ _) rfl ?_
    exact ⟨rfl, RMv.refl H0.out⟩

end Go.Proofs.Ytjkakhjajfpldaa
