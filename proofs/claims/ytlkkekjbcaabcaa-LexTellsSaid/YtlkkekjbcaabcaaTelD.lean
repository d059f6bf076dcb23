/-
  The document's tokens: numbers.
-/
import Derived.Test.YtlkkekjbcaabcaaTelC
namespace Go.Proofs.Ytlkkekjbcaabcaa
open Go.RowKit

def RNumPost (w : World) (a : Nat) (r : Tok × Int) (e : Ending) (w' : World) : Prop :=
  ∃ (t : Tok) (en : Int), e = .returned (.tuple #[t.val, .int .i64 en, .int .i64 r.2]) ∧ (r.2 = 0 → t = { r.1 with at' := a } ∧ en = a + r.1.text.length) ∧ Fr [] w w'
theorem results_row_tmp2 {P : Program} {fn : Func} {p u v : Tmp} {ty : TypeId} (h : fn.results = #[.cell p ty, .tmp u, .tmp v]) (tmps : Array Value) (w : World) (g : Nat) (t : TypeId) (cs : Array Value) (fr : Nat × Nat) (d : TypeDesc)
    (hp : tmps.getD p undef = .pointer (some ⟨g, 0, none⟩)) (hg : w.heap[g]? = some (.cells cs t fr))
    (hu : P.underlying ty = some d) (hd : (match d with | .struct _ | .array _ _ => true | _ => false) = true) (hi : (P.info? ty).map (·.size) = some cs.size) :
    (results fn tmps).run P w = .ok (.tuple #[.agg cs, tmps.getD u undef, tmps.getD v undef]) w := by
  have hp' : tmps[p]?.getD undef = .pointer (some ⟨g, 0, none⟩) := by simpa using hp
  simp [results, h, hp', asAddr, run_loadVar_row w g t ty cs fr d hg hu hd hi]
theorem rnum_fin {w wz : World} {g a : Nat} {A : Act} {r : Tok × Int} {k at0 i e en : Int} {re im : Nat} {l : List UInt8} {x : ByteArray} (he : r.2 = e) (hr : e = 0 → (⟨k, at0, l, i, re, im⟩ : Tok) = { r.1 with at' := a } ∧ en = a + r.1.text.length) (hx : x = bs l) (hz : wz.heap[g]? = some (.cells zc 31 (0, 0))) (f : Fr [] w wz) (hg : w.heap.size ≤ g)
    (hp : A.tmps.getD 4 undef = .pointer (some ⟨g, 0, none⟩)) (h5 : A.tmps.getD 5 undef = .int .i64 en) (h6 : A.tmps.getD 6 undef = .int .i64 e) (hd : A.defers = []) :
    bodyPost Try.prog Try.f23 (RNumPost w a r) .ret A (set5 wz g (.int .i64 k) (.int .i64 at0) (.string x) (.int .i64 i) (.complex .f64 re im)) := by
  refine bodyPost_ret (results_row_tmp2 (fn := Try.f23) rfl _ _ g _ _ _ _ hp (set5_tok hz _ _ _ _ _) tok_under rfl tok_size) hd ⟨⟨k, at0, l, i, re, im⟩, en, ?_, ?_, ?_⟩
  · rw [h5, h6, he, hx]; rfl
  · rw [he]; exact hr
  · refine ((((((f).setCell ?_ _).setCell ?_ _).setCell ?_ _).setCell ?_ _).setCell ?_ _) <;> exact .inr hg
theorem rnum_finA {w wz : World} {ob : Obj} {g a : Nat} {A : Act} {r : Tok × Int} {k at0 i e en : Int} {re im : Nat} {l : List UInt8} {x : ByteArray} (he : r.2 = e) (hr : e = 0 → (⟨k, at0, l, i, re, im⟩ : Tok) = { r.1 with at' := a } ∧ en = a + r.1.text.length) (hx : x = bs l) (hz : wz.heap[g]? = some (.cells zc 31 (0, 0))) (f : Fr [] w wz) (hg : w.heap.size ≤ g)
    (hp : A.tmps.getD 4 undef = .pointer (some ⟨g, 0, none⟩)) (h5 : A.tmps.getD 5 undef = .int .i64 en) (h6 : A.tmps.getD 6 undef = .int .i64 e) (hd : A.defers = []) :
    bodyPost Try.prog Try.f23 (RNumPost w a r) .ret A ((set5 wz g (.int .i64 k) (.int .i64 at0) (.string x) (.int .i64 i) (.complex .f64 re im)).alloc ob) := by
  refine bodyPost_ret (results_row_tmp2 (fn := Try.f23) rfl _ _ g _ _ _ _ hp (((Fr.refl [] _).alloc _).obj (set5_tok hz _ _ _ _ _) (by simp)) tok_under rfl tok_size) hd ⟨⟨k, at0, l, i, re, im⟩, en, ?_, ?_, ?_⟩
  · rw [h5, h6, he, hx]; rfl
  · rw [he]; exact hr
  · refine Fr.alloc ?_ _
    refine ((((((f).setCell ?_ _).setCell ?_ _).setCell ?_ _).setCell ?_ _).setCell ?_ _) <;> exact .inr hg
theorem ext_mid2 (s : ByteArray) (a n : Nat) : s.extract a (a + n) = bs ((s.data.toList.drop a).take n) := by
  refine bs_of ?_
  rw [Lib.extract_data]
  congr 1
  omega
theorem drop_get (s : ByteArray) (a m : Nat) (ha : a ≤ m) (h : m < s.size) : s[m] = (s.data.toList.drop a).getD (m - a) 0 := by
  rw [get_at s m h, List.getD, List.getD, List.getElem?_drop]
  congr 2
  omega

theorem letterB_name (b : UInt8) : letterB false b = isName b := by unfold letterB isName; simp
set_option maxRecDepth 20000 in
set_option maxHeartbeats 8000000 in
theorem rnum_any (s : ByteArray) (hs : s.size ≤ 1000000) (a : Nat) (ha : a ≤ s.size) (w : World) : Calls Try.prog 23 #[.string s, .int .i64 a] w (RNumPost w a (numTok (s.data.toList.drop a))) := by
  have hsc := run_store_complex
  obtain ⟨d, hd⟩ : ∃ d, d = s.data.toList.drop a := ⟨_, rfl⟩
  obtain ⟨n, hn⟩ : ∃ n, n = runLen isDigit d := ⟨_, rfl⟩
  have hdl : d.length = s.size - a := by rw [hd, List.length_drop, len_eq]
  have hl1 := runLen_le isDigit d
  rw [← hn, hdl] at hl1
  rw [← hd]
  have HG := hid (show ∀ m, a ≤ m → ∀ h : m < s.size, s[m] = d.getD (m - a) 0 by rw [hd]; exact fun m h h2 => drop_get s a m h h2)
  have HX := hid (show ∀ n, s.extract a (a + n) = bs (d.take n) by rw [hd]; exact ext_mid2 s a)
  have HN := hid hn
  have HDL := hid hdl
  clear hd hn hdl
  obtain ⟨r, hr⟩ : ∃ r, r = numTok d := ⟨_, rfl⟩
  rw [← hr]
  have HR := hid hr
  clear hr
  go_enter Try.func23, Try.ntmps23
  go_wp2_with fail
  obtain ⟨w1, hw1⟩ : ∃ w1, w1 = w.alloc (.cells zc 31) := ⟨_, rfl⟩
  have F1 := hid (show Fr [] w w1 by rw [hw1]; exact (Fr.refl _ _).alloc _)
  have hz1 : w1.heap[w.heap.size]? = some (.cells zc 31 (0, 0)) := by rw [hw1]; exact heap_alloc_new w _
  have hs1 : w1.heap.size = w.heap.size + 1 := by rw [hw1]; simp
  unfold zc at hw1
  rw [← hw1]
  have HZ1 := hid hz1
  clear hz1 hw1
  go_loop [7, 8] (fun i v => ∃ m : Nat, a ≤ m ∧ m ≤ a + n ∧ m ≤ a + 18 ∧ i = .int .i64 m ∧ v = .int .i64 (digits (d.take (m - a)))) (fun i _ => a + n - (intOf i).toNat)
  case atStart => exact ⟨a, Nat.le_refl _, by omega, by omega, rfl, by rw [Nat.sub_self]; rfl⟩
  case round =>
    obtain ⟨m, h1, h2, h3, rfl, rfl⟩ := hrel
    by_cases hlt : m < s.size
    · have HGET := hid (HG.out m h1 hlt)
      have HST := hid (runLen_step isDigit d (m - a) (by rw [← HN.out]; omega) (by rw [HDL.out]; omega))
      obtain ⟨z0, z1, z2, z3, z4⟩ := five HZ1.out
      have fz0 := fun off => frozen_of_row _ _ off _ _ HZ1.out
      go_wp2_with fail
      rw [HGET.out]
      refine (rdigit_any _ _).mono ?_
      rintro e w' ⟨rfl, rfl⟩
      cases hdg : isDigit (d.getD (m - a) 0) with
      | true =>
        have hlt2 := HST.out.1 hdg
        rw [← HN.out] at hlt2
        by_cases h18 : m = a + 18
        · subst h18
          have HE := hid (show (numTok d).2 = 32 by unfold numTok; simp only []; rw [← HN.out, if_pos (by omega)])
          have hb : (18 : Int) ≤ ((a + 18 : Nat) : Int) - a := by omega
          clear hdg hlt2
          go_wp2_with fail
          exact rnum_fin (by rw [HR.out, HE.out]) (fun h => absurd h (by decide)) rfl HZ1.out F1.out (Nat.le_refl _) rfl rfl rfl rfl
        · have hb : ¬ (18 : Int) ≤ (m : Int) - a := by omega
          have hbd := digits_bound d (m - a) (by rw [← HN.out]; omega)
          have hdt := digits_take d (m - a) (by rw [HDL.out]; omega)
          simp only [isDigit, Bool.and_eq_true, decide_eq_true_eq] at hdg
          rw [← HGET.out] at hdg hdt
          obtain ⟨c, hc⟩ : ∃ c : Nat, s[m].toNat = c + 48 := ⟨s[m].toNat - 48, by omega⟩
          rw [hc] at hdg hdt
          have hc9 : c ≤ 9 := by omega
          have hp17 : 10 ^ (m - a) ≤ 10 ^ 17 := Nat.pow_le_pow_right (by omega) (by omega)
          have HDT := hid hdt
          obtain ⟨acc, hacc⟩ : ∃ acc, acc = digits (d.take (m - a)) := ⟨_, rfl⟩
          rw [← hacc] at hbd HDT ⊢
          obtain ⟨g0, g1⟩ := hbd
          have g2 : acc < 100000000000000000 := by omega
          clear hdg hdt hp17 hacc g1 z0 z1 z2 z3 z4 fz0
          go_wp2_with fail
          go_round
          case rel => exact ⟨m + 1, by omega, by omega, by omega, by go_num, by rw [show m + 1 - a = m - a + 1 by omega, HDT.out]; congr 1; omega⟩
          case measure => simp [intOf]; omega
      | false =>
        have hmn := HST.out.2 hdg
        rw [← HN.out] at hmn
        obtain rfl : m = a + n := by omega
        have e0 : a + n - a = n := by omega
        rw [e0] at HGET ⊢
        have HXN := hid (HX.out n)
        have HL1 := hid hl1
        have hget := HGET.out
        rw [e0] at hdg
        have hnd : restName d n = isName (d.getD n 0) := by
          unfold restName
          rw [decide_eq_true (by rw [HDL.out]; omega), Bool.true_and]
        have hlen : (d.take n).length = n := by rw [List.length_take, HDL.out]; omega
        clear HST hdg hmn e0 hl1
        by_cases hci : isCI d n = true
        · have hgx : s[a + n].toNat = (d.getD n 0).toNat := by rw [hget]
          have hbb : s[a + n].toNat = 99 ∨ s[a + n].toNat = 105 := by
            have hci2 := hci
            unfold isCI at hci2
            simp only [Bool.and_eq_true, decide_eq_true_eq, Bool.or_eq_true, beq_iff_eq] at hci2
            rw [hgx]
            rcases hci2.2 with h | h <;> rw [h]
            · exact .inl rfl
            · exact .inr rfl
          have HGX := hid hgx
          clear hgx
          by_cases h15 : 15 < n
          · have HE := hid (show (numTok d).2 = 32 by unfold numTok; simp only []; rw [← HN.out, if_neg (by omega), if_pos hci, if_pos h15])
            have hb : (15 : Int) < (a : Int) + n - a := by omega
            clear hci hnd hlen h15 hget
            rcases hbb with b99 | b99
            · have e1 : ((s[a + n].toNat : Int) == 99) = true := by rw [b99]; rfl
              clear b99
              go_wp2_with fail
              exact rnum_finA (by rw [HR.out, HE.out]) (fun h => absurd h (by decide)) rfl HZ1.out F1.out (Nat.le_refl _) rfl rfl rfl rfl
            · have e1 : ((s[a + n].toNat : Int) == 99) = false := by rw [b99]; rfl
              have e2 : ((s[a + n].toNat : Int) == 105) = true := by rw [b99]; rfl
              clear b99
              go_wp2_with fail
              exact rnum_finA (by rw [HR.out, HE.out]) (fun h => absurd h (by decide)) rfl HZ1.out F1.out (Nat.le_refl _) rfl rfl rfl rfl
          · have hb : ¬ (15 : Int) < (a : Int) + n - a := by omega
            have HLEN := hid (show (d.take (n + 1)).length = n + 1 by rw [List.length_take, HDL.out]; omega)
            have HXN1 := hid (HX.out (n + 1))
            obtain ⟨v, hv⟩ : ∃ v, v = digits (d.take n) := ⟨_, rfl⟩
            have HNT := hid (show numTok d = if restName d (n + 1) then (Tok.zero, 180) else if s[a + n].toNat = 105 then (⟨4, 0, d.take (n + 1), 0, 0, fl v⟩, 0) else (⟨4, 0, d.take (n + 1), 0, fl v, 0⟩, 0) by
              have : (d.getD n 0 = 105) = (s[a + n].toNat = 105) := by rw [HGX.out, ← UInt8.toNat_inj]; rfl
              unfold numTok
              simp only []
              rw [← HN.out, if_neg (by omega), if_pos hci, if_neg h15, hv]
              simp only [this])
            rw [← hv]
            clear hci hnd hlen h15 hv hget
            have hrest : (a + n + 1 < s.size ∧ restName d (n + 1) = isName (d.getD (n + 1) 0)) ∨ (s.size = a + n + 1 ∧ restName d (n + 1) = false) := by
              by_cases h : a + n + 1 < s.size
              · exact .inl ⟨h, by unfold restName; rw [decide_eq_true (by rw [HDL.out]; omega), Bool.true_and]⟩
              · exact .inr ⟨by omega, by unfold restName; rw [decide_eq_false (by rw [HDL.out]; omega), Bool.false_and]⟩
            rcases hbb with b99 | b99
            ·
              have e1 : ((s[a + n].toNat : Int) == 99) = true := by rw [b99]; rfl
              have HN2 := hid HNT.out
              rw [if_neg (c := s[a + n].toNat = 105) (by rw [b99]; decide)] at HN2
              clear b99
              rcases hrest with ⟨hlt1, hrn⟩ | ⟨hlt1, hrn⟩
              · rw [hrn] at HN2
                have HGET1 := hid (HG.out (a + n + 1) (by omega) hlt1)
                rw [show a + n + 1 - a = n + 1 by omega] at HGET1
                clear hrn
                go_wp2_with fail
                rw [HGET1.out]
                refine (rletter_any false _ _).mono ?_
                rintro e w' ⟨rfl, rfl⟩
                rw [letterB_name]
                cases hl : isName (d.getD (n + 1) 0) with
                | true =>
                  have HE := hid HN2.out
                  rw [hl, if_pos rfl] at HE
                  clear hl
                  go_wp2_with fail
                  exact rnum_finA (by rw [HR.out, HE.out]) (fun h => absurd h (by decide)) rfl HZ1.out F1.out (Nat.le_refl _) rfl rfl rfl rfl
                | false =>
                  have HE := hid HN2.out
                  rw [hl, if_neg (by simp)] at HE
                  clear hl
                  go_wp2_with fail
                  exact rnum_finA (by rw [HR.out, HE.out]) (fun _ => by rw [HR.out, HE.out]; exact ⟨rfl, by simp only []; rw [HLEN.out]; go_num⟩) HXN1.out HZ1.out F1.out (Nat.le_refl _) rfl rfl rfl rfl
              · rw [hrn, if_neg (by simp)] at HN2
                clear hrn
                go_wp2_with fail
                exact rnum_finA (by rw [HR.out, HN2.out]) (fun _ => by rw [HR.out, HN2.out]; exact ⟨rfl, by simp only []; rw [HLEN.out]; go_num⟩) HXN1.out HZ1.out F1.out (Nat.le_refl _) rfl rfl rfl rfl
            ·
              have e1 : ((s[a + n].toNat : Int) == 99) = false := by rw [b99]; rfl
              have e2 : ((s[a + n].toNat : Int) == 105) = true := by rw [b99]; rfl
              have HN2 := hid HNT.out
              rw [if_pos (c := s[a + n].toNat = 105) b99] at HN2
              clear b99
              rcases hrest with ⟨hlt1, hrn⟩ | ⟨hlt1, hrn⟩
              · rw [hrn] at HN2
                have HGET1 := hid (HG.out (a + n + 1) (by omega) hlt1)
                rw [show a + n + 1 - a = n + 1 by omega] at HGET1
                clear hrn
                go_wp2_with fail
                rw [HGET1.out]
                refine (rletter_any false _ _).mono ?_
                rintro e w' ⟨rfl, rfl⟩
                rw [letterB_name]
                cases hl : isName (d.getD (n + 1) 0) with
                | true =>
                  have HE := hid HN2.out
                  rw [hl, if_pos rfl] at HE
                  clear hl
                  go_wp2_with fail
                  exact rnum_finA (by rw [HR.out, HE.out]) (fun h => absurd h (by decide)) rfl HZ1.out F1.out (Nat.le_refl _) rfl rfl rfl rfl
                | false =>
                  have HE := hid HN2.out
                  rw [hl, if_neg (by simp)] at HE
                  clear hl
                  go_wp2_with fail
                  exact rnum_finA (by rw [HR.out, HE.out]) (fun _ => by rw [HR.out, HE.out]; exact ⟨rfl, by simp only []; rw [HLEN.out]; go_num⟩) HXN1.out HZ1.out F1.out (Nat.le_refl _) rfl rfl rfl rfl
              · rw [hrn, if_neg (by simp)] at HN2
                clear hrn
                go_wp2_with fail
                exact rnum_finA (by rw [HR.out, HN2.out]) (fun _ => by rw [HR.out, HN2.out]; exact ⟨rfl, by simp only []; rw [HLEN.out]; go_num⟩) HXN1.out HZ1.out F1.out (Nat.le_refl _) rfl rfl rfl rfl
        · have hci : isCI d n = false := by simpa using hci
          have hgx : s[a + n].toNat = (d.getD n 0).toNat := by rw [hget]
          have b99 : ¬ s[a + n].toNat = 99 := by
            intro e
            unfold isCI at hci
            rw [← hget, decide_eq_true (by rw [HDL.out]; omega)] at hci
            simp [← UInt8.toNat_inj, e] at hci
          have b105 : ¬ s[a + n].toNat = 105 := by
            intro e
            unfold isCI at hci
            rw [← hget, decide_eq_true (by rw [HDL.out]; omega)] at hci
            simp [← UInt8.toNat_inj, e] at hci
          have e1 : ((s[a + n].toNat : Int) == 99) = false := eqb b99
          have e2 : ((s[a + n].toNat : Int) == 105) = false := eqb b105
          have HNT := hid (show numTok d = if isName (d.getD n 0) then (Tok.zero, 180) else (⟨3, 0, d.take n, digits (d.take n), 0, 0⟩, 0) by
            unfold numTok
            simp only []
            rw [← HN.out, if_neg (by omega), hci, hnd]
            rfl)
          have HLEN := hid hlen
          clear b99 b105 hget hci hnd hgx hlen
          go_wp2_with fail
          rw [HGET.out]
          refine (rletter_any false _ _).mono ?_
          rintro e w' ⟨rfl, rfl⟩
          rw [letterB_name]
          cases hl : isName (d.getD n 0) with
          | true =>
            have HE := hid HNT.out
            rw [hl, if_pos rfl] at HE
            clear hl
            go_wp2_with fail
            exact rnum_finA (by rw [HR.out, HE.out]) (fun h => absurd h (by decide)) rfl HZ1.out F1.out (Nat.le_refl _) rfl rfl rfl rfl
          | false =>
            have HE := hid HNT.out
            rw [hl, if_neg (by simp)] at HE
            clear hl
            go_wp2_with fail
            exact rnum_finA (by rw [HR.out, HE.out]) (fun _ => by rw [HR.out, HE.out]; exact ⟨rfl, by simp only []; rw [HLEN.out] <;> omega⟩) HXN.out HZ1.out F1.out (Nat.le_refl _) rfl rfl rfl rfl
    · obtain rfl : m = s.size := by omega
      have hsn : s.size = a + n := by omega
      have HNT := hid (show numTok d = (⟨3, 0, d.take n, digits (d.take n), 0, 0⟩, 0) by
        unfold numTok
        simp only []
        rw [← HN.out, if_neg (by omega)]
        have e1 : isCI d n = false := by unfold isCI; rw [decide_eq_false (by rw [HDL.out]; omega), Bool.false_and]
        have e2 : restName d n = false := by unfold restName; rw [decide_eq_false (by rw [HDL.out]; omega), Bool.false_and]
        rw [e1, e2]
        rfl)
      have HXN := hid (HX.out n)
      have HLEN := hid (show (d.take n).length = n by rw [List.length_take, HDL.out]; omega)
      have hsa : s.size - a = n := by omega
      rw [hsa]
      have HSN := hid hsn
      clear hsn hsa hlt
      obtain ⟨z0, z1, z2, z3, z4⟩ := five HZ1.out
      have fz0 := fun off => frozen_of_row _ _ off _ _ HZ1.out
      go_wp2_with fail
      rw [HSN.out]
      exact rnum_finA (by rw [HR.out, HNT.out]) (fun _ => by rw [HR.out, HNT.out]; exact ⟨rfl, by simp only []; rw [HLEN.out] <;> omega⟩) HXN.out HZ1.out F1.out (Nat.le_refl _) rfl rfl rfl rfl
end Go.Proofs.Ytlkkekjbcaabcaa
