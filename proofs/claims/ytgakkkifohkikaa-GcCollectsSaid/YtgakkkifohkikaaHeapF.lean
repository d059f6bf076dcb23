/-
  Package heap: Release.
-/
import Derived.Test.YtgakkkifohkikaaHeapE
namespace Go.Proofs.Ytgakkkifohkikaa
open Go.RowKit

/-- two free blocks that touch are made one -/
def merge (F : List (Nat × Nat)) (k : Nat) : List (Nat × Nat) :=
  if 0 < k ∧ k < F.length ∧ (F.getD (k - 1) (0, 0)).1 + (F.getD (k - 1) (0, 0)).2 = (F.getD k (0, 0)).1 then
    F.take (k - 1) ++ ((F.getD (k - 1) (0, 0)).1, (F.getD (k - 1) (0, 0)).2 + (F.getD k (0, 0)).2) :: F.drop (k + 1)
  else F
theorem merge_R (G1 : List (Nat × Nat)) (p : Nat × Nat) (G2 : List (Nat × Nat)) : merge (G1 ++ p :: G2) (G1.length + 1) = G1 ++ joinR p G2 := by
  have e0 : (G1 ++ p :: G2).getD G1.length (0, 0) = p := by simp [List.getD]
  unfold merge
  rw [Nat.add_sub_cancel, e0]
  cases G2 with
  | nil =>
    rw [if_neg (by simp)]
    rfl
  | cons g r =>
    have e1 : (G1 ++ p :: g :: r).getD (G1.length + 1) (0, 0) = g := by simp [List.getD]
    have e2 : (G1 ++ p :: g :: r).drop (G1.length + 1 + 1) = r := by
      rw [List.drop_append, List.drop_eq_nil_of_le (by omega), show G1.length + 1 + 1 - G1.length = 2 by omega]; rfl
    rw [e1, List.take_left, e2]
    simp only [joinR]
    by_cases h : p.1 + p.2 = g.1
    · rw [if_pos ⟨by omega, by simp, h⟩, if_pos h]
    · rw [if_neg (fun hc => h hc.2.2), if_neg h]
theorem joinL_snoc (G : List (Nat × Nat)) (g : Nat × Nat) (X : List (Nat × Nat)) : joinL (G ++ [g]) X = G ++ joinL [g] X := by
  induction G with
  | nil => rfl
  | cons q r ih =>
    cases r with
    | nil => rfl
    | cons q' r' => rw [List.cons_append, List.cons_append]; simp only [joinL]; rw [← List.cons_append, ih]; rfl
theorem merge_L (G1 X : List (Nat × Nat)) (hX : X ≠ []) : merge (G1 ++ X) G1.length = joinL G1 X := by
  cases X with
  | nil => exact absurd rfl hX
  | cons p r =>
    rcases List.eq_nil_or_concat G1 with rfl | ⟨G, g, rfl⟩
    · unfold merge
      rw [if_neg (by simp)]
      rfl
    · rw [List.concat_eq_append, joinL_snoc]
      have e0 : (G ++ [g] ++ p :: r).getD (G ++ [g]).length (0, 0) = p := by simp [List.getD]
      have e1 : (G ++ [g] ++ p :: r).getD ((G ++ [g]).length - 1) (0, 0) = g := by simp [List.getD]
      have e2 : (G ++ [g] ++ p :: r).take ((G ++ [g]).length - 1) = G := by simp
      have e3 : (G ++ [g] ++ p :: r).drop ((G ++ [g]).length + 1) = r := by
        rw [List.drop_append, List.drop_eq_nil_of_le (by omega), show (G ++ [g]).length + 1 - (G ++ [g]).length = 1 by omega]; rfl
      unfold merge
      rw [e0, e1, e2, e3]
      simp only [joinL]
      by_cases h : g.1 + g.2 = p.1
      · rw [if_pos ⟨by simp, by simp, h⟩, if_pos h]
      · rw [if_neg (fun hc => h hc.2.2), if_neg h]; simp
theorem merge_all (G1 : List (Nat × Nat)) (p : Nat × Nat) (G2 : List (Nat × Nat)) : merge (merge (G1 ++ p :: G2) (G1.length + 1)) G1.length = joinL G1 (joinR p G2) := by
  rw [merge_R]
  refine merge_L _ _ ?_
  obtain ⟨t, r, e⟩ := joinR_head p G2
  rw [e]
  simp

/-- blocks that are in their bounds -/
def OkF (F : List (Nat × Nat)) : Prop := (∀ g ∈ F, g.1 + g.2 ≤ 3000) ∧ F.length ≤ 4000
theorem merge_ok {F : List (Nat × Nat)} {k : Nat} (h : OkF F) : OkF (merge F k) := by
  unfold merge
  split
  · rename_i hc
    obtain ⟨h1, h2, h3⟩ := hc
    have m1 : F.getD (k - 1) (0, 0) ∈ F := by rw [List.getD, List.getElem?_eq_getElem (show k - 1 < F.length by omega)]; exact List.getElem_mem _
    have m2 : F.getD k (0, 0) ∈ F := by rw [List.getD, List.getElem?_eq_getElem h2]; exact List.getElem_mem _
    refine ⟨fun g hg => ?_, ?_⟩
    · rcases List.mem_append.1 hg with hg | hg
      · exact h.1 g (List.mem_of_mem_take hg)
      · rcases List.mem_cons.1 hg with rfl | hg
        · have := h.1 _ m2
          simp only []
          omega
        · exact h.1 g (List.mem_of_mem_drop hg)
    · rw [List.length_append, List.length_cons, List.length_take, List.length_drop]
      have := h.2
      omega
  · exact h
def seqF (F0 : List (Nat × Nat)) (gl : Nat) : Nat → List (Nat × Nat)
  | 0 => F0
  | 1 => merge F0 (gl + 1)
  | _ => merge (merge F0 (gl + 1)) gl
def AtR (w wr : World) (hb : Nat) (vw vf vo v4 : Value) (n : Nat) (cs : List Value) (F : List (Nat × Nat)) (O : List Value) : Prop :=
  OkF F ∧ ∃ v', Pt wr hb vw v' v4 n cs F O ∧ Fr (hb :: (fpv vw ++ (fpv vf ++ fpv vo))) w wr ∧ ∀ z ∈ fpv v', z ∈ fpv vf ∨ w.heap.size ≤ z

theorem AtR.keep0 {w wr wr' : World} {hb : Nat} {vw vf vo v4 : Value} {n : Nat} {cs : List Value} {F : List (Nat × Nat)} {O : List Value} (h : AtR w wr hb vw vf vo v4 n cs F O) (f : Fr [] wr wr') : AtR w wr' hb vw vf vo v4 n cs F O := by
  obtain ⟨h1, v', h2, h3, h4⟩ := h
  exact ⟨h1, v', h2.keep0 f, h3.tr (f.sub (by simp)), h4⟩

def relE (L : List Ob) (x : Int) : Int := if has L x then 0 else 111
def relL (L : List Ob) (x : Int) : List Ob := if has L x then arDrop L x else L
set_option maxHeartbeats 4000000 in
set_option maxRecDepth 100000 in
theorem release_any {w : World} {p : Value} {F : List Nat} {n : Nat} {L : List Ob} (h : Ar w p F n L) (x : Int) :
    Calls Try.prog 15 #[p, .int .i64 x] w (OpPost w p F n (.int .i64 (relE L x)) (relL L x)) := by
  have H0 := hid h
  obtain ⟨hb, vw, vf, vo, cs, rfl, rfl, h⟩ := h
  have HA := hid h
  cases hf : arFind L x with
  | none =>
    have hh := has_none hf
    have e1 : relE L x = 111 := by unfold relE; rw [hh]; rfl
    have e2 : relL L x = L := by unfold relL; rw [hh]; rfl
    rw [e1, e2]
    have hB := bs_any h.ob h.rise h.llen x
    unfold BsPost at hB
    rw [hh] at hB
    have HB := hid hB
    obtain ⟨c0, c1, c2⟩ := h.c
    obtain ⟨ah, hah⟩ : ∃ a, a = ahead L x := ⟨_, rfl⟩
    rw [← hah] at HB
    clear hah h hf hh e1 e2 hB c0 c1
    unfold ptrV at *
    go_enter Try.func15, Try.ntmps15
    go_wp2_with fail
    refine HB.out.mono ?_
    rintro e w1 ⟨rfl, q, rfl⟩
    go_wp2_with fail
    go_ret
    exact ⟨rfl, _, H0.out.keep0 (drewN_fr _ _), (drewN_fr _ _).sub (by simp), fun x hx => .inl hx⟩
  | some o =>
    have hh := has_some hf
    have e1 : relE L x = 0 := by unfold relE; rw [hh]; rfl
    have e2 : relL L x = arDrop L x := by unfold relL; rw [hh]; rfl
    rw [e1, e2]
    obtain ⟨L1, L2, rfl, rfl, hdr, hL1, hL2⟩ := h.rise.find_split hf
    rw [hdr]
    have hB := bs_any h.ob h.rise h.llen (o.at' : Int)
    unfold BsPost at hB
    have hahd : ahead (L1 ++ o :: L2) (o.at' : Int) = L1.length := ahead_split (fun q hq => by have := hL1 q hq; omega) (fun q hq => by
      rcases List.mem_cons.1 hq with rfl | hq
      · omega
      · have := hL2 q hq; omega)
    rw [hh, hahd] at hB
    have HB := hid hB
    obtain ⟨G1, G2, hg1, hg2, hg3, hg4⟩ := gaps_drop h.rise
    have hmem : o ∈ L1 ++ o :: L2 := by simp
    obtain ⟨b, cap, hvw, hc1, hc2, hcl, hcell⟩ := h.wcell
    have k0 := (hcell _ _ (h.wds o hmem).len).1
    have hob := (Rise.obs h.rise o hmem)
    have hsm := h.small
    simp only [Ob.sz] at hob
    obtain ⟨y, hy⟩ : ∃ y, y = o.at' := ⟨_, rfl⟩
    obtain ⟨s, hs⟩ : ∃ s, s = o.ws.length := ⟨_, rfl⟩
    obtain ⟨l1, hl1⟩ : ∃ l, l = L1.length := ⟨_, rfl⟩
    have hP := h.pt
    rw [hg1] at hP
    obtain ⟨c0, c1, c2⟩ := h.c
    rw [hvw] at c0
    have hz2 := hP.fz 2
    have hD := fun (W : World) (f : Fr [] w W) => delete_Int W vo L1.length L2.length (obsL (L1 ++ o :: L2)) (by
      have := (hP.keep0 f).ob
      have e : (obsL (L1 ++ o :: L2)).length = L1.length + 1 + L2.length := by simp [obsL]; omega
      rw [e] at this; exact this) (by have := h.llen; simp at this; omega) (obsL_one _)
    have hdo : (obsL (L1 ++ o :: L2)).take (L1.length * 1) ++ (obsL (L1 ++ o :: L2)).drop ((L1.length + 1) * 1) = obsL (L1 ++ L2) := by
      have e : obsL (L1 ++ o :: L2) = obsL L1 ++ vi o.at' :: obsL L2 := by simp [obsL]
      have e2 : obsL (L1 ++ L2) = obsL L1 ++ obsL L2 := by simp [obsL]
      have hl : (obsL L1).length = L1.length := by simp [obsL]
      rw [e, e2, Nat.mul_one, Nat.mul_one, List.take_left' hl, ← hl, List.drop_append, List.drop_eq_nil_of_le (by omega), show (obsL L1).length + 1 - (obsL L1).length = 1 by omega]
      rfl
    rw [hdo] at hD
    rw [← hy, ← hl1] at HB
    rw [← hl1] at hD
    rw [← hy, ← hs] at hob
    rw [← hy]
    rw [← hy, ← hs] at k0
    have HD := hid hD
    have HP := hid hP
    have HY := hid hy
    have HS := hid hs
    have hl1b : (l1 : Int) ≤ 10000 := by
      have h1 := Rise.length h.rise
      simp at h1
      omega
    have HL1 := hid hl1
    have HG := hid (And.intro hg1 (And.intro hg2 (And.intro hg3 hg4)))
    have hlt : (y : Int) + 1 < (n : Int) + 1 := by omega
    have hcc : (s : Int) ≤ 10000 := by omega
    have htn : ((y : Int) + 1).toNat = y + 1 := by omega
    have HVW := hid hvw
    have HOB := hid hob
    have HSM := hid hsm
    unfold vu at k0
    unfold maxLen at hc2
    clear h hf hh e1 e2 hB hL1 hL2 hahd hg1 hg2 hg3 hg4 hmem hvw hcell hob hy hs hl1 hP hD hdo hdr hcl hsm
    unfold ptrV at *
    go_enter Try.func15, Try.ntmps15
    go_wp2_with fail
    refine HB.out.mono ?_
    rintro e w1 ⟨rfl, q, rfl⟩
    go_wp2_with fail
    refine (HD.out _ (drewN_fr w q)).mono ?_
    rintro e w3 ⟨v3, rfl, hr3, f3, hfp3, _⟩
    obtain ⟨a3, cap3, rfl, _, _⟩ := hr3.form
    have hll : l1 + L2.length = (obsL (L1 ++ L2)).length := by rw [HL1.out]; simp [obsL]
    have hr3' := hr3
    rw [hll] at hr3'
    have f03 : Fr (fpv vo) w w3 := ((drewN_fr w q).sub (by simp)).tr f3
    obtain ⟨P4, F4⟩ := HP.out.setObj f03 hr3' (fun y hy => .inl (by rw [← hfp3, hll]; exact hy))
    have hho := HP.out.apart.1.2.2
    have d2 := f03.cell c2 hho
    have ez := f03.frozen c2 hz2 hho
    rw [← hll] at P4 F4
    obtain ⟨w4, hw4⟩ : ∃ q, w3.setCell ⟨hb, 2, none⟩ (.slice a3 (l1 + L2.length) cap3) = q := ⟨_, rfl⟩
    rw [hw4] at P4 F4
    obtain ⟨v4, hv4⟩ : ∃ v, v = Value.slice a3 (l1 + L2.length) cap3 := ⟨_, rfl⟩
    rw [← hv4] at P4
    have HV4 := hid hv4
    have HP4 := hid P4
    have HF4 := hid F4
    have HFP := hid (show fpv v4 = fpv vo by rw [hv4]; exact hfp3)
    have HF3 := hid f03
    obtain ⟨_, g1, _⟩ := P4.c
    have gz := P4.fz 1
    have hFI := fun (W : World) (f : Fr [] w4 W) => find_any (P4.keep0 f).fr y (by have := HOB.out; have := HSM.out; omega) (fun g hg => by
      have := (HG.out.2.1 g hg).2; rw [← HY.out] at this; omega) (fun g hg => by
      have := HG.out.2.2.1 g hg; rw [← HY.out] at this; omega) (fun g hg => by
      have h1 := gaps_lb HA.out.rise g (by rw [HG.out.1]; exact hg); have := HSM.out; omega) (by
      have := HA.out.glen; rw [HG.out.1] at this; omega)
    have HFI := hid hFI
    obtain ⟨gl, hgl⟩ : ∃ g, g = G1.length := ⟨_, rfl⟩
    rw [← hgl] at HFI
    have hglb : (gl : Int) ≤ 10000 := by
      have := HA.out.glen; rw [HG.out.1] at this; simp at this; omega
    have HGL := hid hgl
    clear hr3 hr3' f3 hfp3 hll f03 P4 F4 hho hv4 hFI hgl c1
    go_wp2_with fail
    refine (HFI.out _ (Fr.refl _ _)).mono ?_
    rintro e w5 ⟨⟨fb, rfl⟩, f45⟩
    have HF45 := hid f45
    have P5 := HP4.out.keep0 f45
    have g5 := f45.cell g1 (by simp)
    have gz5 := f45.frozen g1 gz (by simp)
    obtain ⟨vb, hvb⟩ : ∃ vb, w5.heap.size = vb := ⟨_, rfl⟩
    have hyb : (y : Int) ≤ 10000 := by have := HOB.out; have := HSM.out; omega
    have hIN := insert_Blk (w5.alloc (.cells #[.int .i64 y, .int .i64 ((s : Int) + 2)] 36)) vf (G1 ++ G2).length gl (blkL (G1 ++ G2)) (P5.fr.keep0 ((Fr.refl [] w5).alloc _)) (by rw [HGL.out]; simp) (by
      have := HA.out.glen; rw [HG.out.1] at this; omega) (blkL_one _) vb [.int .i64 y, .int .i64 ((s : Int) + 2)] _ (by rw [← hvb]; exact heap_alloc_new _ _) rfl (by intro u hu; simp at hu; rcases hu with rfl | rfl <;> rfl) (fun h => by
      have := P5.lt vb (by simp [h]); omega)
    have hbl : (blkL (G1 ++ G2)).take (gl * 2) ++ ([.int .i64 y, .int .i64 ((s : Int) + 2)] ++ (blkL (G1 ++ G2)).drop (gl * 2)) = blkL (G1 ++ (y, s + 2) :: G2) := by
      rw [blkL_take, blkL_drop, HGL.out, List.take_left, List.drop_left, blkL_append, blkL_cons]
      rfl
    rw [hbl] at hIN
    have HIN := hid hIN
    have HP5 := hid P5
    have HVB := hid hvb
    clear f45 P5 hIN hbl g1 gz
    go_wp2_with fail
    refine HIN.out.mono ?_
    rintro e w6 ⟨v6, rfl, hr6, f6, hn6⟩
    rw [List.length_append] at hr6
    obtain ⟨a6, cap6, rfl, _, _⟩ := hr6.form
    have f56 : Fr (fpv vf) w5 w6 := ((Fr.refl (fpv vf) w5).alloc _).tr f6
    have hll : G1.length + G2.length + 1 = (G1 ++ (y, s + 2) :: G2).length := by simp; omega
    obtain ⟨P7, F7⟩ := HP5.out.setFree f56 (by rw [← hll]; exact hr6) (fun y hy => by
      rcases hn6 y hy with h1 | h1
      · exact .inl h1
      · right; simp at h1; omega)
    have hhf := HP5.out.apart.1.2.1
    have d1 := f56.cell g5 hhf
    have dz1 := f56.frozen g5 gz5 hhf
    obtain ⟨w7, hw7⟩ : ∃ q, w6.setCell ⟨hb, 1, none⟩ (.slice a6 (G1.length + G2.length + 1) cap6) = q := ⟨_, rfl⟩
    rw [hw7] at P7 F7
    obtain ⟨F0, hF0⟩ : ∃ F0, F0 = G1 ++ (y, s + 2) :: G2 := ⟨_, rfl⟩
    rw [← hF0] at P7
    obtain ⟨v7, hv7⟩ : ∃ v, v = Value.slice a6 (G1.length + G2.length + 1) cap6 := ⟨_, rfl⟩
    rw [← hv7] at P7
    have HV7 := hid hv7
    have HP7 := hid P7
    have HF0 := hid hF0
    have hn7 : ∀ z ∈ fpv v7, z ∈ fpv vf ∨ w.heap.size ≤ z := fun z hz => by
      rw [hv7] at hz
      rcases hn6 z hz with h1 | h1
      · exact .inl h1
      · right
        have e1 := HF4.out.size
        have e2 := HF45.out.size
        simp at h1
        omega
    have f07 : Fr (hb :: (fpv vw ++ (fpv vf ++ fpv vo))) w w7 := ((HF4.out.sub (fun z hz => .inl (by
      rcases List.mem_cons.1 hz with rfl | hz
      · simp
      · simp [hz]))).tr (HF45.out.sub (by simp))).tr (F7.sub (fun z hz => .inl (by
      rcases List.mem_cons.1 hz with rfl | hz
      · simp
      · simp [hz])))
    have HN7 := hid hn7
    have HF7 := hid f07
    clear hr6 f6 hn6 f56 hll P7 F7 hhf hF0 hv7 hn7 f07 g5 gz5
    go_wp2_with fail
    have hok : OkF F0 := by
      rw [HF0.out]
      have h0 : ∀ g ∈ G1 ++ G2, g.1 + g.2 ≤ 3000 := fun g hg => by
        have h1 := gaps_lb HA.out.rise g (by rw [HG.out.1]; exact hg); have := HSM.out; omega
      refine ⟨fun g hg => ?_, ?_⟩
      · rcases List.mem_append.1 hg with hg | hg
        · exact h0 g (by simp [hg])
        · rcases List.mem_cons.1 hg with rfl | hg
          · have h1 := HOB.out.2; have := HSM.out; simp only []; omega
          · exact h0 g (by simp [hg])
      · have := HA.out.glen
        rw [HG.out.1] at this
        simp at this ⊢
        omega
    have hat : AtR w w7 hb vw vf vo v4 n cs F0 (obsL (L1 ++ L2)) := ⟨hok, v7, HP7.out, HF7.out, HN7.out⟩
    have HAT := hid hat
    clear hok hat hw7 d1 dz1 c2 hz2 c0 k0 d2 ez hw4 hvb hlt htn hcc hyb
    go_loopw [70] (fun v wr => ∃ t : Nat, t ≤ 2 ∧ v = .int .i64 t ∧ Hid (AtR w wr hb vw vf vo v4 n cs (seqF F0 gl t) (obsL (L1 ++ L2)))) (fun v _ => 2 - (intOf v).toNat)
    case atStart => exact ⟨0, by omega, rfl, HAT⟩
    case round =>
      obtain ⟨t, ht, rfl, hrt⟩ := hrel
      by_cases ht2 : t < 2
      · obtain ⟨kk, hkk, hidx, hnext⟩ : ∃ kk : Nat, (kk : Int) ≤ 10001 ∧ (∀ w, (Instr.index 92 (.agg #[.int .i64 ((gl : Int) + 1), .int .i64 gl]) (.int .i64 t)).run Try.prog w = .ok (.int .i64 kk) w) ∧ seqF F0 gl (t + 1) = merge (seqF F0 gl t) kk := by
          rcases (show t = 0 ∨ t = 1 by omega) with rfl | rfl
          · exact ⟨gl + 1, by omega, fun _ => by kernel_rfl, rfl⟩
          · exact ⟨gl, by omega, fun _ => by kernel_rfl, rfl⟩
        have ht3 : (t : Int) < 2 := by omega
        obtain ⟨Fq, hFq⟩ : ∃ Fq, Fq = seqF F0 gl t := ⟨_, rfl⟩
        rw [← hFq] at hrt hnext
        obtain ⟨hok, vq, Pq, fq, hnq⟩ := hrt.out
        have HRT := hid hrt.out
        have HNX := hid hnext
        clear hFq hrt hnext
        by_cases hk0 : kk = 0
        · subst hk0
          have hst : Hid (AtR w wr hb vw vf vo v4 n cs (seqF F0 gl (t + 1)) (obsL (L1 ++ L2))) := by
            rw [HNX.out, show merge Fq 0 = Fq from by unfold merge; rw [if_neg (by simp)]]
            exact hid HRT.out
          clear hok Pq fq hnq
          go_wp2_with fail
          go_quiet (fail)
          go_wp2_with fail
          go_roundw
          case rel => exact ⟨t + 1, by omega, by go_num, hid (hst.out.keep0 (drewN_fr _ _))⟩
          case measure => simp [intOf]; omega
        · have hk1 : decide (0 < kk) = true := by rw [decide_eq_true_eq]; omega
          have hk2 : (0 : Int) < kk := by omega
          obtain ⟨aq, cq, hvq, hcq1, hcq2⟩ := Pq.fr.form
          obtain ⟨q0, q1, q2⟩ := Pq.c
          rw [hvq] at q1
          obtain ⟨nf, hnf⟩ : ∃ nf, nf = Fq.length := ⟨_, rfl⟩
          rw [← hnf] at q1 hcq1
          have HNF := hid hnf
          have HVQ := hid hvq
          have hnfb : (nf : Int) ≤ 4000 := by have := hok.2; omega
          by_cases hlen : nf ≤ kk
          · have hl1 : decide (kk < nf) = false := by rw [decide_eq_false_iff_not]; omega
            have hl2 : ¬ (kk : Int) < nf := by omega
            have hst : Hid (AtR w wr hb vw vf vo v4 n cs (seqF F0 gl (t + 1)) (obsL (L1 ++ L2))) := by
              rw [HNX.out, show merge Fq kk = Fq from by unfold merge; rw [if_neg (by omega)]]
              exact hid HRT.out
            have HL2 := hid hl2
            clear hok Pq fq hnq hnf hvq hlen hl2 hk0
            go_wp2_with fail
            go_quiet (fail)
            go_wp2_with fail
            go_roundw
            case rel => exact ⟨t + 1, by omega, by go_num, hid (hst.out.keep0 (drewN_fr _ _))⟩
            case measure => simp [intOf]; omega
          · obtain ⟨j, rfl⟩ : ∃ j, kk = j + 1 := ⟨kk - 1, by omega⟩
            obtain ⟨⟨a, sa⟩, hga⟩ : ∃ g, Fq[j]? = some g := ⟨_, List.getElem?_eq_getElem (by rw [← hnf]; omega)⟩
            obtain ⟨⟨b', sb⟩, hgb⟩ : ∃ g, Fq[j + 1]? = some g := ⟨_, List.getElem?_eq_getElem (by rw [← hnf]; omega)⟩
            obtain ⟨bq, cap1, e, ka0, _⟩ := Pq.fr.cell (j * 2) (by rw [← hnf]; omega)
            rw [hvq, ← hnf] at e
            cases e
            obtain ⟨bq', cap2, e, ka1, _⟩ := Pq.fr.cell (j * 2 + 1) (by rw [← hnf]; omega)
            rw [hvq, ← hnf] at e
            cases e
            obtain ⟨bq', cap2, e, kb0, _⟩ := Pq.fr.cell ((j + 1) * 2) (by rw [← hnf]; omega)
            rw [hvq, ← hnf] at e
            cases e
            obtain ⟨bq', cap2, e, kb1, _⟩ := Pq.fr.cell ((j + 1) * 2 + 1) (by rw [← hnf]; omega)
            rw [hvq, ← hnf] at e
            cases e
            obtain ⟨r0, r1⟩ := blkL_get _ _ _ hga
            obtain ⟨r2, r3⟩ := blkL_get _ _ _ hgb
            rw [r0] at ka0
            rw [r1] at ka1
            rw [r2] at kb0
            rw [r3] at kb1
            simp only [vi] at ka0 ka1 kb0 kb1
            have hya := hok.1 _ (List.mem_of_getElem? hga)
            have hyb := hok.1 _ (List.mem_of_getElem? hgb)
            simp only [] at hya hyb
            have hjn : (j : Int) + 1 < nf := by omega
            have hjn2 : decide ((j : Int) + 1 < nf) = true := by simpa using hjn
            have hjn3 : (j : Int) < nf := by omega
            have hj0 : (0 : Int) < (j : Int) + 1 := by omega
            have hj1 : (0 : Int) ≤ (j : Int) + 1 := by omega
            have hj2 : ((j : Int) + 1).toNat = j + 1 := by omega
            have hj3 : (j : Int) + 1 - 1 = j := by omega
            have hya2 : (a : Int) + sa ≤ 3000 := by omega
            have hyb2 : (b' : Int) + sb ≤ 3000 := by omega
            have hgd1 : Fq.getD j (0, 0) = (a, sa) := by rw [List.getD, hga]; rfl
            have hgd2 : Fq.getD (j + 1) (0, 0) = (b', sb) := by rw [List.getD, hgb]; rfl
            have hmg : merge Fq (j + 1) = if a + sa = b' then Fq.take j ++ (a, sa + sb) :: Fq.drop (j + 2) else Fq := by
              unfold merge
              rw [Nat.add_sub_cancel, hgd1, hgd2]
              simp only []
              by_cases h : a + sa = b'
              · rw [if_pos ⟨by omega, by omega, h⟩, if_pos h]
              · rw [if_neg (fun hc => h hc.2.2), if_neg h]
            by_cases htc : a + sa = b'
            · have htc2 : ((a : Int) + sa == b') = true := by
                have : (a : Int) + sa = b' := by omega
                simpa using this
              have HOKM := hid (merge_ok (k := j + 1) hok)
              have HMG := hid (hmg.trans (if_pos htc))
              rw [hmg, if_pos htc] at HOKM
              have HPQ := hid Pq
              have HFQ := hid fq
              have HNQ := hid hnq
              have HHOK := hid hok
              have HGA := hid (And.intro hga hgb)
              clear hok Pq fq hnq hnf hvq hlen hk0 htc hga hgb r0 r1 r2 r3 hgd1 hgd2 hmg hya hyb
              go_wp2_with fail
              go_quiet (fail)
              go_wp2_with fail
              obtain ⟨w2, hw2⟩ : ∃ q, wr.drewN nq = q := ⟨_, rfl⟩
              rw [hw2]
              have f2 : Fr [] wr w2 := by rw [← hw2]; exact drewN_fr _ _
              have P2 := HPQ.out.keep0 f2
              obtain ⟨cur, hrow, hcs, hct⟩ : ∃ cur, w2.heap[bq]? = some (.cells cur 36 (0, 0)) ∧ cur.size = cq * 2 ∧ cur.toList.take (nf * 2) = blkL Fq := by
                rcases P2.fr.parts with ⟨e, _⟩ | ⟨b, cap, cur, e, hh, _, _, hs, ht⟩
                · rw [HVQ.out] at e; cases e
                · rw [HVQ.out] at e
                  cases e
                  exact ⟨cur, hh, hs, by rw [HNF.out]; exact ht⟩
              have u0 := f2.cell q0 (by simp)
              have u1 := f2.cell q1 (by simp)
              have uz := P2.fz 1
              have ya0 := f2.cell ka0 (by simp)
              have ya1 := f2.cell ka1 (by simp)
              have yb0 := f2.cell kb0 (by simp)
              have yb1 := f2.cell kb1 (by simp)
              have yz : w2.frozen? ⟨bq, j * 2 + 1, none⟩ = false := frozen_of_row _ _ _ _ _ hrow
              have hwj : IntKind.i64.wrap (j : Int) = j := by rw [IntKind.wrap_i64]; omega
              have hwj1 : IntKind.i64.wrap ((j : Int) + 1 - 1) = j := by rw [IntKind.wrap_i64]; omega
              have hwss : IntKind.i64.wrap ((sa : Int) + sb) = (sa : Int) + sb := by rw [IntKind.wrap_i64]; omega
              have HROW := hid (And.intro hrow (And.intro hcs hct))
              have HP2 := hid P2
              have HF2 := hid f2
              clear hw2 f2 P2 hrow hcs hct q0 q1 q2 ka0 ka1 kb0 kb1
              go_wp2_with fail
              go_still_tail 20, (by kernel_rfl)
              obtain ⟨hrow, hcs, hct⟩ := HROW.out
              obtain ⟨hga, hgb⟩ := HGA.out
              obtain ⟨w3, hw3⟩ : ∃ q, (w2.setCell ⟨bq, j * 2 + 1, none⟩ (.int .i64 ((sa : Int) + sb))).drew = q := ⟨_, rfl⟩
              have hrow3 : w3.heap[bq]? = some (.cells (cur.setIfInBounds (j * 2 + 1) (.int .i64 ((sa : Int) + sb))) 36 (0, 0)) := by
                rw [← hw3]
                exact heap_setCell_same _ _ _ _ _ _ hrow
              have f23 : Fr [bq] w2 w3 := by
                rw [← hw3]
                exact ((Fr.refl [bq] w2).setCell (.inl (by simp)) _).drew
              have hfv : fpv vq = [bq] := by rw [HVQ.out]; simp [fpv, Value.ownBlock]
              have hjl : j + 1 < Fq.length := by rw [← HNF.out]; omega
              obtain ⟨F3, hF3⟩ : ∃ F3, F3 = Fq.take j ++ (a, sa + sb) :: Fq.drop (j + 1) := ⟨_, rfl⟩
              have hl3 : F3.length = nf := by
                rw [hF3, HNF.out, List.length_append, List.length_cons, List.length_take, List.length_drop]; omega
              have hrv3 : RV w3 36 2 vq F3.length (blkL F3) := by
                rw [hl3, HVQ.out, ← HNF.out]
                refine RV.mk hrow3 hcq1 hcq2 (by rw [Array.size_setIfInBounds, hcs]) ?_
                rw [Array.toList_setIfInBounds, List.take_set, hct, hF3, ← blkL_set Fq j a (sa + sb) (by omega)]
                have e0 : (blkL Fq).set (j * 2) (vi a) = blkL Fq := by
                  have e1 := (blkL_get Fq j (a, sa) hga).1
                  have hlt : j * 2 < (blkL Fq).length := by rw [blkL_length]; omega
                  rw [List.getD, List.getElem?_eq_getElem hlt] at e1
                  have e2 : vi (a : Int) = (blkL Fq)[j * 2] := e1.symm
                  rw [e2, List.set_getElem_self]
                rw [e0]
                rfl
              have P3 := HP2.out.setRow (by rw [hfv]; exact f23) hrv3
              have hD := delete_Blk w3 vq (j + 1) (nf - (j + 2)) (blkL F3) (by
                have := P3.fr
                rw [hl3] at this
                rw [show j + 1 + 1 + (nf - (j + 2)) = nf by rw [HNF.out]; omega]; exact this) (by omega) (blkL_one _)
              have hdl : (blkL F3).take ((j + 1) * 2) ++ (blkL F3).drop ((j + 1 + 1) * 2) = blkL (Fq.take j ++ (a, sa + sb) :: Fq.drop (j + 2)) := by
                have hlt : (Fq.take j).length = j := by rw [List.length_take]; omega
                have e1 : F3.take (j + 1) = Fq.take j ++ [(a, sa + sb)] := by
                  rw [hF3, List.take_append, hlt, List.take_of_length_le (by omega), show j + 1 - j = 1 by omega]; rfl
                have e2 : F3.drop (j + 1 + 1) = Fq.drop (j + 2) := by
                  rw [hF3, List.drop_append, hlt, List.drop_eq_nil_of_le (by omega), show j + 1 + 1 - j = 2 by omega, List.nil_append, List.drop_succ_cons, List.drop_drop]
                rw [blkL_take, blkL_drop, ← blkL_append, e1, e2]
                simp
              rw [hdl, Int.natCast_add, Int.natCast_one] at hD
              have HD2 := hid hD
              rw [HVQ.out, ← HNF.out] at HD2
              obtain ⟨u0', u1', _⟩ := P3.c
              have uz' := P3.fz 1
              rw [HVQ.out, ← HNF.out] at u1'
              have HP3 := hid P3
              have HF23 := hid f23
              have HFV := hid hfv
              have HJL := hid hjl
              clear hrow hcs hct hga hgb hrow3 f23 hfv hjl hF3 hl3 hrv3 P3 hD hdl
              go_wp2_with fail
              refine HD2.out.mono ?_
              rintro e w5 ⟨v5, rfl, hr5, f5, hfp5, _⟩
              obtain ⟨a5, cap5, rfl, _, _⟩ := hr5.form
              have hvf5 : fpv vq = fpv (.slice (some ⟨bq, 0, none⟩) nf cq) := by rw [HVQ.out, ← HNF.out]
              have hl5 : (Fq.take j ++ (a, sa + sb) :: Fq.drop (j + 2)).length = j + 1 + (nf - (j + 2)) := by
                have := HJL.out
                rw [HNF.out, List.length_append, List.length_cons, List.length_take, List.length_drop]; omega
              obtain ⟨P6, F6⟩ := HP3.out.setFree (G' := Fq.take j ++ (a, sa + sb) :: Fq.drop (j + 2)) (by rw [hvf5]; exact f5) (by rw [hl5]; exact hr5) (fun z hz => .inl (by rw [hvf5, ← hfp5]; exact hz))
              have hhq := HP3.out.apart.1.2.1
              have x1 := (show Fr (fpv vq) w3 w5 from by rw [hvf5]; exact f5).cell u1' hhq
              have xz := (show Fr (fpv vq) w3 w5 from by rw [hvf5]; exact f5).frozen u1' uz' hhq
              have hst : Hid (AtR w (w5.setCell ⟨hb, 1, none⟩ (.slice a5 (j + 1 + (nf - (j + 2))) cap5)) hb vw vf vo v4 n cs (seqF F0 gl (t + 1)) (obsL (L1 ++ L2))) := by
                rw [HNX.out, HMG.out]
                refine hid ⟨HOKM.out, _, P6, ?_, ?_⟩
                · refine ((HFQ.out.tr (HF2.out.sub (by simp))).trans HF23.out ?_).trans F6 ?_
                  · intro z hz
                    rw [← HFV.out] at hz
                    rcases HNQ.out z hz with h1 | h1
                    · exact .inl (by simp [h1])
                    · exact .inr h1
                  · intro z hz
                    rcases List.mem_cons.1 hz with rfl | hz
                    · exact .inl (by simp)
                    · rcases HNQ.out z hz with h1 | h1
                      · exact .inl (by simp [h1])
                      · exact .inr h1
                · intro z hz
                  rw [hfp5, ← hvf5] at hz
                  exact HNQ.out z hz
              clear hr5 f5 hfp5 hvf5 hl5 P6 F6 hhq u0' u1' uz' hw3 u0 u1 uz ya0 ya1 yb0 yb1 yz hwj hwj1 hwss
              go_wp2_with fail
              go_roundw
              case rel => exact ⟨t + 1, by omega, by go_num, hst⟩
              case measure => simp [intOf]; omega
            · have htc2 : ((a : Int) + sa == b') = false := by
                have : ¬ (a : Int) + sa = b' := by omega
                simpa using this
              have hst : Hid (AtR w wr hb vw vf vo v4 n cs (seqF F0 gl (t + 1)) (obsL (L1 ++ L2))) := by
                rw [HNX.out, hmg, if_neg htc]
                exact hid HRT.out
              have HTC := hid htc
              clear hok Pq fq hnq hnf hvq hlen hk0 htc hga hgb r0 r1 r2 r3 hgd1 hgd2 hmg hya hyb
              go_wp2_with fail
              go_quiet (fail)
              go_wp2_with fail
              go_roundw
              case rel => exact ⟨t + 1, by omega, by go_num, hid (hst.out.keep0 (drewN_fr _ _))⟩
              case measure => simp [intOf]; omega
      · obtain rfl : t = 2 := by omega
        go_wp2_with fail
        go_ret
        obtain ⟨_, v', P, f, hn'⟩ := hrt.out
        have hsq : seqF F0 gl 2 = gaps n 1 (L1 ++ L2) := by
          rw [HG.out.2.2.2, ← HY.out]
          show merge (merge F0 (gl + 1)) gl = _
          rw [HF0.out, HGL.out, merge_all]
          have e : o.sz = s + 2 := by rw [HS.out]; rfl
          rw [e]
        rw [hsq] at P
        have hA := HA.out
        refine ⟨rfl, _, ⟨hb, vw, v', v4, cs, rfl, rfl, ⟨P.blk, P.ws, P.fr, ?_, hA.rise.drop, fun q hq => hA.wds q ?_, fun q hq => hA.cl q ?_, hA.small, P.nd⟩⟩, f, fun z hz => ?_⟩
        · have := P.ob
          simp only [obsL, List.length_map] at this ⊢
          exact this
        · rcases List.mem_append.1 hq with h | h <;> simp [h]
        · rcases List.mem_append.1 hq with h | h <;> simp [h]
        · simp only [List.mem_cons, List.mem_append] at hz ⊢
          rcases hz with h | h | h | h
          · exact .inl (.inl h)
          · exact .inl (.inr (.inl h))
          · rcases hn' z h with h | h
            · exact .inl (.inr (.inr (.inl h)))
            · exact .inr h
          · rw [HFP.out] at h
            exact .inl (.inr (.inr (.inr h)))

end Go.Proofs.Ytgakkkifohkikaa
