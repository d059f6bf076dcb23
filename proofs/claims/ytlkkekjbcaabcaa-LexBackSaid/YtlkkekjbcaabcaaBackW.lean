/-
  LexBack: the walk.
-/
import Derived.Test.YtlkkekjbcaabcaaBackL
namespace Go.Proofs.Ytlkkekjbcaabcaa
open Go.RowKit

theorem ext_mid (s : ByteArray) (a n : Nat) (x : List UInt8) (h : (s.data.toList.drop a).take n = x) : s.extract a (a + n) = bs x := by
  refine bs_of ?_
  rw [Lib.extract_data, ← h]
  congr 1
  omega

set_option maxRecDepth 20000 in
set_option maxHeartbeats 8000000 in
theorem back_walk (s : ByteArray) (W : World) (_w0 : s.size ≤ maxLen) :
    Calls Try.prog 6 #[.string s] W fun e w' => e = .returned (.bool true) ∧ Fr [] W w' := by
  by_cases hbig : 3000 < s.size
  · have hb : (3000 : Int) < s.size := by omega
    clear _w0
    go_enter Try.func6, Try.ntmps6
    go_wp2_with fail
    refine (known_any W).mono ?_
    rintro e wA ⟨rfl, f0⟩
    go_wp2_with fail
    go_ret
    exact ⟨rfl, f0⟩
  · have hb : ¬ (3000 : Int) < s.size := by omega
    have hs3 : s.size ≤ 3000 := by omega
    clear _w0
    have hlen := len_eq s
    have cA := fun w => all_any s (by omega) w
    obtain ⟨⟨ts, ta, te⟩, ht⟩ : ∃ r, r = lexAll s.data.toList := ⟨_, rfl⟩
    rw [← ht] at cA
    have CA := hid cA
    have HLEN := hid hlen
    have hsm := lexAll_small (l := s.data.toList) (by omega)
    by_cases hte : te = 0
    · subst hte
      have hbk := back_law (l := s.data.toList) (by omega) (by rw [← ht])
      rw [← ht] at hbk
      simp only [] at hbk
      obtain ⟨⟨us, ua, ue⟩, hu⟩ : ∃ r, r = lexAll (printOf ts) := ⟨_, rfl⟩
      rw [← hu] at hbk
      have hue : ue = 0 := hbk.ok
      subst hue
      have cB := fun w => all_any (bs (printOf ts)) (by rw [bs_size]; have := hbk.short; omega) w
      rw [bs_list, ← hu] at cB
      obtain ⟨init, k1, k2, k3⟩ := hbk.read.ex
      obtain ⟨n, hn⟩ : ∃ n, n = init.length := ⟨_, rfl⟩
      have hcnt : ts.length = n + 1 := by rw [k1, hn]; simp
      have hinit : n ≤ 3000 := by
        have hx : ∀ l : List Tok, (∀ t ∈ l, Good t) → l.length * 2 ≤ (l.map (fun t => t.text.length + 1)).sum := by
          intro l
          induction l with
          | nil => intro _; simp
          | cons t r ih =>
            intro h
            have h1 := (h t (by simp)).pos
            have h2 := ih (fun u hu => h u (by simp [hu]))
            simp only [List.length_cons, List.map_cons, List.sum_cons]
            omega
        have := hx init k2
        omega
      have hlast : ts[n]? = some (endTok s.size) := by
        rw [k1, hn, List.getElem?_append_right (Nat.le_refl _), Nat.sub_self, hlen]
        rfl
      have hno := hbk.no
      have hcu : us.length = n + 1 := by
        have := congrArg List.length hno
        simp only [noAt, List.length_map] at this
        omega
      have CB := hid cB
      have HBK := hid hbk
      have HCNT := hid hcnt
      have HCU := hid hcu
      have HLAST := hid hlast
      have HPE := hid (printOf_noAt hno)
      clear cA cB ht hu hbk k1 k2 k3 hn hcnt hcu hlast hno hsm hlen hbig
      have hn0 : ((n : Int) + 1 == 0) = false := by
        have : ¬ (n : Int) + 1 = 0 := by omega
        simpa using this
      go_enter Try.func6, Try.ntmps6
      go_wp2_with fail
      refine (known_any W).mono ?_
      rintro e wA ⟨rfl, f0⟩
      have F0 := hid f0
      clear f0
      go_wp2_with fail
      refine (CA.out _).mono ?_
      rintro e w1 ⟨v1, rfl, hv1, _, f1⟩
      have F1 := hid (F0.out.tr f1)
      have HV1 := hid hv1
      obtain ⟨a1, c1, e1, _, _⟩ := hv1.form
      simp only [] at e1
      rw [HCNT.out] at e1
      subst e1
      clear hv1 f1
      go_wp2_with fail
      refine (print_any w1 _ ts HV1.out (by have := HCNT.out; omega) (by have := HBK.out.short; omega)).mono ?_
      rintro e w2 ⟨rfl, f2⟩
      have F2 := hid (F1.out.tr f2)
      have HV2 := hid (HV1.out.keep0 f2)
      clear f2
      go_wp2_with fail
      refine (CB.out _).mono ?_
      rintro e w3 ⟨v3, rfl, hv3, _, f3⟩
      have F3 := hid (F2.out.tr f3)
      have HV3 := hid (HV2.out.keep0 f3)
      have HU3 := hid hv3
      obtain ⟨a3, c3, e3, _, _⟩ := hv3.form
      simp only [] at e3
      rw [HCU.out] at e3
      subst e3
      clear hv3 f3
      go_wp2_with fail
      refine (same_any w3 _ _ ts us HV3.out HU3.out HBK.out.no (by have := HCNT.out; omega)).mono ?_
      rintro e w4 ⟨rfl, f4⟩
      have F4 := hid (F3.out.tr f4)
      have HV4 := hid (HV3.out.keep0 f4)
      have HU4 := hid (HU3.out.keep0 f4)
      clear f4
      go_wp2_with fail
      refine (print_any w4 _ us HU4.out (by have := HCU.out; omega) (by rw [← HPE.out]; have := HBK.out.short; omega)).mono ?_
      rintro e w5 ⟨rfl, f5⟩
      rw [← HPE.out]
      have F5 := hid (F4.out.tr f5)
      have HV5 := hid (HV4.out.keep0 f5)
      clear f5
      obtain hnn | ⟨b, cap, hve, hc⟩ := HV5.out.tok
      · exact absurd HCNT.out (by rw [hnn]; simp)
      rw [HCNT.out] at hve
      injection hve with e1 e2 e3
      subst e1
      clear e2 e3
      have l0 : w5.cell? ⟨b, n * 5, none⟩ = some (.int .i64 6) := by
        have := hc n _ HLAST.out 0 _ rfl
        rw [Nat.mul_comm] at this; exact this
      have l1 : w5.cell? ⟨b, n * 5 + 1, none⟩ = some (.int .i64 s.size) := by
        have := hc n _ HLAST.out 1 _ rfl
        rw [Nat.mul_comm] at this; exact this
      have HC := hid hc
      clear hc
      go_wp2_with fail
      clear l0 l1
      go_loopw [10] (fun i wr => ∃ k : Nat, k ≤ n ∧ i = .int .i64 k ∧ Hid (Fr [] w5 wr)) (fun i _ => n - (intOf i).toNat)
      case atStart => exact ⟨0, Nat.zero_le _, rfl, Fr.refl _ _⟩
      case round =>
        obtain ⟨k, hk, rfl, hf⟩ := hrel
        by_cases hlt : k < n
        · obtain ⟨t, ht⟩ : ∃ t, ts[k]? = some t := ⟨_, List.getElem?_eq_getElem (by rw [HCNT.out]; omega)⟩
          obtain ⟨t', ht'⟩ : ∃ t, ts[k + 1]? = some t := ⟨_, List.getElem?_eq_getElem (by rw [HCNT.out]; omega)⟩
          obtain ⟨q, q', e1, e2, e3, e4, e5⟩ := placed_get ts 0 HBK.out.read.placed k t t' ht ht'
          obtain ⟨tk, ta', x, ti, tr, tm⟩ := t
          obtain ⟨tk', tb', x', ti', tr', tm'⟩ := t'
          simp only [] at e1 e2 e3 e4 e5
          subst e1
          subst e2
          rw [HLEN.out] at e3
          have c1' : wr.cell? ⟨b, k * 5 + 1, none⟩ = some (.int .i64 q) := hf.out.cell (by rw [Nat.mul_comm]; exact HC.out k _ ht 1 _ rfl) (by simp)
          have c2' : wr.cell? ⟨b, k * 5 + 2, none⟩ = some (.string (bs x)) := hf.out.cell (by rw [Nat.mul_comm]; exact HC.out k _ ht 2 _ rfl) (by simp)
          have c3' : wr.cell? ⟨b, (k + 1) * 5 + 1, none⟩ = some (.int .i64 q') := hf.out.cell (by rw [Nat.mul_comm]; exact HC.out (k + 1) _ ht' 1 _ rfl) (by simp)
          have hbs : (bs x).size = x.length := bs_size x
          have hex : s.extract q (q + x.length) = bs x := ext_mid s q x.length x e4
          have i1 : (k : Int) < (n : Int) + 1 := by omega
          have i2 : k < n + 1 := by omega
          have i3 : (k : Int) + 1 < (n : Int) + 1 := by omega
          have i4 : k + 1 < n + 1 := by omega
          have i5 : (0 : Int) ≤ (k : Int) := by omega
          have i6 : (0 : Int) ≤ (k : Int) + 1 := by omega
          have g1 : ¬ (s.size : Int) < (q : Int) + x.length := by omega
          have g2 : decide ((s.size : Int) < (q : Int) + x.length) = false := by rw [decide_eq_false_iff_not]; exact g1
          have g3 : ¬ (q' : Int) < (q : Int) + x.length := by omega
          have g4 : decide ((q' : Int) < (q : Int) + x.length) = false := by rw [decide_eq_false_iff_not]; exact g3
          have g5 : (q : Int) + x.length ≤ s.size := by omega
          have g6 : ¬ (q : Int) < 0 := by omega
          have g7 : decide ((q : Int) < 0) = false := by rw [decide_eq_false_iff_not]; exact g6
          have hw1 : IntKind.i64.wrap ((q : Int) + x.length) = (q : Int) + x.length := by rw [IntWalk.i64_left, IntWalk.wrap64_in _ (by omega)]
          have hw2 : IntKind.i64.wrap ((k : Int) + 1) = (k : Int) + 1 := by rw [IntWalk.i64_left, IntWalk.wrap64_in _ (by omega)]
          clear ht ht' e4
          go_wp2_with fail
          go_quiet (fail)
          have HFQ := hid (hf.out.drewN nq)
          clear c1' c2' c3' hbs hex
          go_wp2_with fail
          go_roundw
          case rel => exact ⟨k + 1, by omega, by go_num, HFQ.out⟩
          case measure => simp [intOf]; omega
        · obtain rfl : k = n := by omega
          have HF := hid (F5.out.tr hf.out)
          clear hf
          go_wp2_with fail
          go_ret
          exact ⟨rfl, HF.out⟩
    · have her := err_of s.data.toList (s.data.toList.length + 1) 0 (by omega) (by rw [List.drop_zero, ← hsm, ← ht]; exact hte)
      rw [List.drop_zero, ← hsm, ← ht] at her
      obtain ⟨hnil, q, hq, hqs⟩ := her
      simp only [] at hnil hq
      subst hnil
      subst hq
      rw [hlen] at hqs
      have hte2 : (te != 0) = true := by simpa using hte
      have HTE := hid hte
      clear cA ht hsm hte hlen hbig
      go_enter Try.func6, Try.ntmps6
      go_wp2_with fail
      refine (known_any W).mono ?_
      rintro e wA ⟨rfl, f0⟩
      have F0 := hid f0
      clear f0
      go_wp2_with fail
      refine (CA.out _).mono ?_
      rintro e w1 ⟨v1, rfl, hv1, _, f1⟩
      have F1 := hid (F0.out.tr f1)
      obtain ⟨a1, c1, e1, _, _⟩ := hv1.form
      simp only [List.length_nil] at e1
      subst e1
      clear hv1 f1
      go_wp2_with fail
      go_ret
      exact ⟨rfl, F1.out⟩

end Go.Proofs.Ytlkkekjbcaabcaa
