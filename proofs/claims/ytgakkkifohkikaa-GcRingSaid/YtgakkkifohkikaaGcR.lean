/-
  GcRing: the plain law; the walk.
-/
import Derived.Test.YtgakkkifohkikaaGcD
namespace Go.Proofs.Ytgakkkifohkikaa
open Go.RowKit

def ringL (k : Nat) : List Ob := (List.range k).map (fun i => newOb (3 * i + 1) 1 1)
theorem ring_alloc : ∀ i, i < 21 → arAlloc 400 (ringL i) 1 1 = some (3 * i + 1, ringL (i + 1)) := by decide +kernel
theorem ring_has (k : Nat) (a : Int) : has (ringL k) a = true ↔ ∃ i : Nat, i < k ∧ a = 3 * (i : Int) + 1 := by
  rw [has_mem]
  unfold ringL newOb
  rw [List.map_map, List.mem_map]
  simp only [List.mem_range, Function.comp_apply]
  constructor
  · rintro ⟨i, hi, rfl⟩
    exact ⟨i, hi, by omega⟩
  · rintro ⟨i, hi, rfl⟩
    exact ⟨i, hi, by omega⟩
def ringR (k : Nat) (a : Int) : List Int := [((a - 1) / 3 + 1) % (k : Int) * 3 + 1]
theorem ringR_at (k i : Nat) : ringR k (3 * (i : Int) + 1) = [3 * (((i + 1) % k : Nat) : Int) + 1] := by
  unfold ringR
  rw [show (3 * (i : Int) + 1 - 1) / 3 = (i : Int) by omega, Int.natCast_emod]
  simp only [Int.natCast_add, Int.cast_ofNat_Int, List.cons.injEq, and_true]
  omega
theorem ring_all {k r : Nat} (hr : r < k) : ∀ i, i < k → Reach (ringL k) [3 * (r : Int) + 1] (ringR k) (3 * (i : Int) + 1) := by
  have hk : 0 < k := by omega
  have key : ∀ j, Reach (ringL k) [3 * (r : Int) + 1] (ringR k) (3 * (((r + j) % k : Nat) : Int) + 1) := by
    intro j
    induction j with
    | zero =>
      rw [Nat.add_zero, Nat.mod_eq_of_lt hr]
      exact .root (by simp) ((ring_has _ _).2 ⟨r, hr, rfl⟩)
    | succ j ih =>
      refine .step ih ?_ ((ring_has _ _).2 ⟨_, Nat.mod_lt _ hk, rfl⟩)
      rw [ringR_at]
      have : ((r + j) % k + 1) % k = (r + (j + 1)) % k := by rw [Nat.mod_add_mod]; rfl
      rw [this]
      simp
  intro i hi
  have := key (i + k - r)
  rwa [show r + (i + k - r) = i + k by omega, Nat.add_mod_right, Nat.mod_eq_of_lt hi] at this
theorem ring_none {L : List Ob} {R : Int → List Int} {a : Int} (h : Reach L [] R a) : False := by
  induction h with
  | root h _ => cases h
  | step _ _ _ ih => exact ih
theorem ringL_length (k : Nat) : (ringL k).length = k := by unfold ringL; simp
theorem ring_kept {k r : Nat} (hr : r < k) {met : List Int} (h : ∀ a, a ∈ met ↔ Reach (ringL k) [3 * (r : Int) + 1] (ringR k) a) : kept met (ringL k) = ringL k ∧ unmet met (ringL k) (ringL k).length = 0 := by
  have e : kept met (ringL k) = ringL k := by
    unfold kept
    refine List.filter_eq_self.2 (fun o ho => ?_)
    rw [List.contains_iff_mem, h]
    obtain ⟨i, hi, e⟩ := (ring_has k (o.at' : Int)).1 (has_mem.2 (List.mem_map.2 ⟨o, ho, rfl⟩))
    rw [e]
    exact ring_all hr i hi
  refine ⟨e, ?_⟩
  have := unmet_kept met (ringL k)
  rw [e] at this
  omega
theorem ring_gone {k : Nat} {R : Int → List Int} {met : List Int} (h : ∀ a, a ∈ met ↔ Reach (ringL k) [] R a) : kept met (ringL k) = [] ∧ unmet met (ringL k) (ringL k).length = k := by
  have e : kept met (ringL k) = [] := by
    unfold kept
    refine List.filter_eq_nil_iff.2 (fun o ho hc => ?_)
    rw [List.contains_iff_mem, h] at hc
    exact ring_none hc
  refine ⟨e, ?_⟩
  have := unmet_kept met (ringL k)
  rw [e, ringL_length] at this
  rw [ringL_length]
  simpa using this

set_option maxHeartbeats 400000 in
theorem ring_any (w : World) (i k : Nat) (hi : i < k) (hk : k ≤ 20) : Calls Try.prog 32 #[.int .i64 (3 * (i : Int) + 1), .int .i64 k] w fun e w' => e = .returned (.int .i64 (3 * (((i + 1) % k : Nat) : Int) + 1)) ∧ w = w' := by
  have hk0 : ((k : Int) == 0) = false := by
    have : ¬ (k : Int) = 0 := by omega
    simpa using this
  obtain ⟨m, hm⟩ : ∃ m, m = (i + 1) % k := ⟨_, rfl⟩
  have hmk : m < k := by rw [hm]; exact Nat.mod_lt _ (by omega)
  have h1 : Int.tdiv (3 * (i : Int)) 3 = (i : Int) := by rw [Int.tdiv_eq_ediv_of_nonneg (by omega)]; omega
  have h2 : Int.tmod ((i : Int) + 1) (k : Int) = (m : Int) := by rw [Int.tmod_eq_emod_of_nonneg (by omega), hm, Int.natCast_emod]; rfl
  have hk1 : ¬ k = 0 := by omega
  have hib : (i : Int) ≤ 20 := by omega
  have hmb : (m : Int) ≤ 20 := by omega
  rw [← hm]
  clear hm hmk hi hk
  go_enter Try.func32, Try.ntmps32
  go_wp2_with fail
  go_ret
  exact ⟨by rw [Int.mul_comm 3 (m : Int)]; rfl, rfl⟩

def RingC (kb k : Nat) (_ : List Int) (w : World) (O : List Nat) : Prop := O = [kb] ∧ w.cell? ⟨kb, 0, none⟩ = some (.int .i64 k)
set_option maxHeartbeats 400000 in
theorem ring1_any (w : World) (i k kb : Nat) (hi : i < k) (hk : k ≤ 20) (hc : w.cell? ⟨kb, 0, none⟩ = some (.int .i64 k)) : Calls Try.prog 31 #[.int .i64 (3 * (i : Int) + 1), .pointer (some ⟨kb, 0, none⟩)] w fun e w' => ∃ v, e = .returned v ∧ RI w' v (ringR k (3 * (i : Int) + 1)) ∧ Fr [] w w' ∧ ∀ b ∈ fpv v, w.heap.size ≤ b := by
  rw [ringR_at]
  have HR := hid (RI.made (w := w) [3 * (((i + 1) % k : Nat) : Int) + 1] (by simp))
  have E := hid (ring_any w i k hi hk)
  obtain ⟨m, hm⟩ : ∃ m, m = (i + 1) % k := ⟨_, rfl⟩
  rw [← hm] at HR E ⊢
  clear hm hi hk
  go_enter Try.func31, Try.ntmps31
  go_wp2_with fail
  refine E.out.mono ?_
  rintro e w' ⟨rfl, rfl⟩
  go_wp2_with fail
  go_ret
  exact ⟨_, rfl, HR.out, (Fr.refl _ _).alloc _, fun b hb => by simp [fpv, Value.ownBlock] at hb; omega⟩
theorem ring_clo (k kb : Nat) (hk : k ≤ 20) : Clo 31 #[.pointer (some ⟨kb, 0, none⟩)] (ringL k) (ringR k) (RingC kb k) where
  en := enters_of Try.func31 (by kernel_rfl) rfl
  keep := fun {s w w' S O} h f hS => ⟨h.1, f.cell h.2 (hS kb (by rw [h.1]; simp))⟩
  lt := fun {s w O} h b hb => by
    rw [h.1, List.mem_singleton] at hb
    rw [hb]
    exact World.block_lt_of_cell? _ _ h.2
  call := fun {s w O} a ha _ hc => by
    obtain ⟨i, hi, rfl⟩ := (ring_has k a).1 ha
    refine (ring1_any w i k kb hi hk hc.2).mono ?_
    rintro e w' ⟨v, rfl, h1, h2, h3⟩
    obtain ⟨rfl, hc⟩ := hc
    have hl : kb < w.heap.size := World.block_lt_of_cell? _ _ hc
    exact ⟨v, [kb], rfl, h1, ⟨rfl, h2.cell hc (by simp)⟩, h2.sub (by simp), fun b hb => .inl hb, fun b hb => ⟨h3 b hb, by rw [List.mem_singleton]; have := h3 b hb; omega⟩⟩

set_option maxRecDepth 20000 in
set_option maxHeartbeats 2000000 in
theorem ring_walk (a0 a1 : Int) (a2 : Bool) (W : World) (w0 : (Lit.int .u8 a0).wf = true) (w1 : (Lit.int .u8 a1).wf = true) :
    Calls Try.prog 9 #[.int .u8 a0, .int .u8 a1, .bool a2] W fun e w' => e = .returned (.bool true) ∧ Fr [] W w' := by
  obtain ⟨b0, b1⟩ := u8_bounds w0
  obtain ⟨b2, b3⟩ := u8_bounds w1
  clear w0 w1
  obtain ⟨k, hk, hk1, hk2⟩ : ∃ k : Nat, a0 % 20 + 1 = (k : Int) ∧ 1 ≤ k ∧ k ≤ 20 := ⟨(a0 % 20 + 1).toNat, by omega, by omega, by omega⟩
  have HK := hid (And.intro hk1 hk2)
  have hkb : (k : Int) ≤ 20 := by omega
  have hk0 : ¬ k = 0 := by omega
  have F0 : Hid (Fr [] W W) := hid (Fr.refl _ _)
  go_enter Try.func9, Try.ntmps9
  go_wp2_with fail
  refine (known12_any W).mono ?_
  rintro e wA ⟨rfl, fA⟩
  have FA := hid fA
  clear fA
  go_wp2_with fail
  refine (new_any _ 400).mono ?_
  rintro e wB ⟨p, F, rfl, h1, fB, hF⟩
  obtain ⟨hb, rfl⟩ := h1.form
  have hcell := fB.cell (cell_one_new wA (.int .i64 k) 3 0 _ rfl) (by simp)
  have HB : Hid (OwnF W wB (.pointer (some ⟨hb, 0, none⟩)) 400 (ringL 0) [wA.heap.size]) := hid (by
    have hs1 := FA.out.size
    refine ⟨⟨F, h1, fun x hx => ?_, fun a ha hf => ?_⟩, (FA.out.alloc _).tr fB, fun a ha => ?_⟩
    · have := hF x hx; rw [World.size_alloc] at this; omega
    · rw [List.mem_singleton.1 ha] at hf; have := hF _ hf; rw [World.size_alloc] at this; omega
    · rw [List.mem_singleton.1 ha]; have := fB.size; rw [World.size_alloc] at this; omega)
  obtain ⟨kb, hkbe⟩ : ∃ kb, kb = wA.heap.size := ⟨_, rfl⟩
  have HKB := hid (show W.heap.size ≤ kb by rw [hkbe]; exact FA.out.size)
  have hcell2 : wB.cell? ⟨kb, 0, none⟩ = some (.int .i64 k) := by rw [hkbe]; exact hcell
  rw [← hkbe] at HB ⊢
  clear h1 fB hF hcell hkbe
  unfold ptrV
  go_wp2_with fail
  go_loopw [9] (fun i wr => ∃ j : Nat, i = .int .i64 j ∧ j ≤ k ∧ wr.cell? ⟨kb, 0, none⟩ = some (.int .i64 k) ∧ Hid (OwnF W wr (.pointer (some ⟨hb, 0, none⟩)) 400 (ringL j) [kb])) (fun i _ => k - (intOf i).toNat)
  case atStart => exact ⟨0, rfl, by omega, hcell2, HB⟩
  case round =>
    obtain ⟨j, rfl, hj, hc, hown⟩ := hrel
    clear hcell2
    by_cases hlt : j < k
    · have E := hid (hown.out.alloc 1 1 (by omega) (ring_alloc j (by omega)))
      have hlt2 : (j : Int) < k := by omega
      have hjb : (j : Int) ≤ 20 := by omega
      have HC := hid hc
      clear hown
      go_wp2_with fail
      refine E.out.mono ?_
      rintro e w2 ⟨rfl, hB, kp⟩
      have H2 := hid hB
      have hc2 : w2.cell? ⟨kb, 0, none⟩ = some (.int .i64 k) := by
        obtain ⟨S, f, hS⟩ := kp
        exact f.cell hc (hS kb (by simp))
      clear hB kp
      go_wp2_with fail
      go_roundw
      case rel => exact ⟨j + 1, by go_num, by omega, hc2, H2⟩
      case measure => simp [intOf]; omega
    · obtain rfl : j = k := by omega
      have hlt2 : ¬ (j : Int) < j := by omega
      have HO := hid hown.out
      clear hown hlt
      cases a2 with
      | true =>
        obtain ⟨x, hx⟩ : ∃ x : Nat, a1 % (j : Int) = (x : Int) := ⟨(a1 % (j : Int)).toNat, by rw [Int.toNat_of_nonneg (Int.emod_nonneg _ (by omega))]⟩
        have hxj : x < j := by have := Int.emod_lt_of_pos a1 (show (0 : Int) < j by omega); omega
        have hx' : Int.tmod a1 (j : Int) = (x : Int) := by rw [Int.tmod_eq_emod_of_nonneg b2]; exact hx
        have hxb : (x : Int) ≤ 20 := by omega
        have HX := hid hxj
        clear hx hxj hj
        go_wp2_with fail
        have fx : Fr [] wr (wr.alloc (.cells #[.int .i64 ((x : Int) * 3 + 1)] 3)) := (Fr.refl _ _).alloc _
        refine (collect_any (C := RingC kb j) (R := ringR j) (O := [kb]) (A := []) (s := []) (roots := [(x : Int) * 3 + 1]) (HO.out.keep fx) (ring_clo j kb hk2) (RI.made (w := wr) [(x : Int) * 3 + 1] (by simp)) ⟨rfl, fx.cell hc (by simp)⟩ (fun b hb => by rw [List.mem_singleton.1 hb]; exact HKB.out) (by simp) (fun a _ => by unfold ringR; simp) (by simp) (by simp)).mono ?_
        rintro e w5 ⟨met, O', rfl, h5, _, _, hm, hC, _, _, _⟩
        rw [Int.mul_comm (x : Int) 3] at hm
        obtain ⟨e1, e2⟩ := ring_kept HX.out hm
        rw [e1] at h5
        rw [e2]
        have H5 := hid h5.own
        have hc5 := hC.2
        clear hm h5 hC e1 e2 hc fx hx'
        have HALL := hid (fun (w' : World) (f : Fr [] w5 w') => (H5.out.keep f).all)
        go_wp2_with fail
        go_region_with (go_at_call 18; refine (HALL.out _ (by first | exact Fr.refl _ _ | exact (Fr.refl _ _).drew)).mono ?_; rintro e w6 ⟨⟨v6, rfl, hv6, f6, _⟩, h6⟩; have hc6 := f6.cell hc5 (by simp); rw [ringL_length] at hv6; obtain ⟨a6, c6, rfl, _, _⟩ := hv6.form)
        all_goals
          have H6 := hid h6
          clear h6 hv6
          go_wp2_with fail
          go_ret
          exact ⟨rfl, by first | exact H6.out.fr | exact H6.out.fr.drew⟩
      | false =>
        go_wp2_with fail
        refine (collect_any (C := RingC kb j) (R := ringR j) (O := [kb]) (A := []) (s := []) (roots := []) HO.out (ring_clo j kb hk2) (RI.nil wr) ⟨rfl, hc⟩ (fun b hb => by rw [List.mem_singleton.1 hb]; exact HKB.out) (by simp) (fun a _ => by unfold ringR; simp) (by simp) (by simp)).mono ?_
        rintro e w5 ⟨met, O', rfl, h5, _, _, hm, hC, _, _, _⟩
        obtain ⟨e1, e2⟩ := ring_gone hm
        rw [e1] at h5
        rw [e2]
        have H5 := hid h5.own
        have hc5 := hC.2
        clear hm h5 hC e1 e2 hc
        go_wp2_with fail
        refine H5.out.all.mono ?_
        rintro e w6 ⟨⟨v6, rfl, hv6, f6, _⟩, h6⟩
        have H6 := hid h6
        obtain ⟨a6, c6, rfl, _, _⟩ := hv6.form
        clear h6 hv6 f6
        simp only [List.length_nil]
        go_wp2_with fail
        refine (H6.out.fits 398).mono ?_
        rintro e w7 ⟨rfl, h7, _⟩
        have H7 := hid h7
        clear h7
        rw [show fitsB 400 [] 398 = true by decide +kernel]
        go_wp2_with fail
        refine (H7.out.fits 399).mono ?_
        rintro e w8 ⟨rfl, h8, _⟩
        have H8 := hid h8
        clear h8
        rw [show fitsB 400 [] 399 = false by decide +kernel]
        go_wp2_with fail
        go_ret
        exact ⟨rfl, H8.out.fr⟩

end Go.Proofs.Ytgakkkifohkikaa
