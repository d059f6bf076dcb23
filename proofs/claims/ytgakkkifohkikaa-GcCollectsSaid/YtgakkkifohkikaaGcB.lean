/-
  Package gc: Collect, Fits.
-/
import Derived.Test.YtgakkkifohkikaaGcA
namespace Go.Proofs.Ytgakkkifohkikaa
open Go.RowKit

theorem MapL.kp {A : List Nat} {w w' : World} {b : Nat} {K : Type} [DecidableEq K] {kv : K → Value} {l : List (K × Value)} (h : MapL w b kv l) (f : Kp A w w') (hb : b ∈ A) : MapL w' b kv l := by
  obtain ⟨S, f, hS⟩ := f
  exact h.keep f (hS b hb)
theorem Kp.tr {A : List Nat} {a b c : World} (h : Kp A a b) (k : Kp A b c) : Kp A a c := by
  obtain ⟨S, f, hS⟩ := h
  obtain ⟨T, g, hT⟩ := k
  refine ⟨S ++ T, (f.sub (fun x hx => .inl (List.mem_append_left _ hx))).trans g (fun x hx => .inl (List.mem_append_right _ hx)), fun x hx hm => ?_⟩
  rcases List.mem_append.1 hm with h1 | h1
  · exact hS x hx h1
  · exact hT x hx h1
theorem Kp.sub {A A' : List Nat} {w w' : World} (h : Kp A w w') (hA : ∀ a ∈ A', a ∈ A) : Kp A' w w' := by
  obtain ⟨S, f, hS⟩ := h
  exact ⟨S, f, fun a ha => hS a (hA a ha)⟩

def CollPost (C : List Int → World → List Nat → Prop) (L : List Ob) (roots : List Int) (R : Int → List Int) (w0 w : World) (p : Value) (n : Nat) (O A : List Nat) (s : List Int) (e : Ending) (w' : World) : Prop :=
  ∃ met O', e = .returned (.int .i64 (unmet met L L.length : Nat)) ∧ OwnF w0 w' p n (kept met L) (O' ++ A) ∧ Kp A w w' ∧ met.Nodup ∧ (∀ a, a ∈ met ↔ Reach L roots R a) ∧ C (s ++ met) w' O' ∧ (∀ b ∈ O', b ∈ O ∨ w.heap.size ≤ b) ∧ (∀ a ∈ A, a ∉ O') ∧ w.heap.size ≤ w'.heap.size

set_option maxHeartbeats 2000000 in
set_option maxRecDepth 20000 in
theorem collect_any {C : List Int → World → List Nat → Prop} {f : Nat} {cp : Array Value} {R : Int → List Int} {w0 w : World} {p : Value} {n : Nat} {L : List Ob} {O A : List Nat} (h : OwnF w0 w p n L (O ++ A)) (K : Clo f cp L R C) {vr : Value} {roots : List Int} (hr : RI w vr roots)
    {s : List Int} (hc : C s w O) (hO : ∀ b ∈ O, w0.heap.size ≤ b) (hOA : ∀ a ∈ A, a ∉ O) (hB : ∀ a, has L a = true → (R a).length ≤ 100) (hrl : roots.length ≤ 1000) (hsl : s.length ≤ 1000) :
    Calls Try.prog 33 #[p, vr, .func (.func f) #[] cp] w (CollPost C L roots R w0 w p n O A s) := by
  obtain ⟨hb, hpb⟩ := h.own.form
  have hL : L.length ≤ 1024 := by have h1 := Rise.length h.own.rise; have h2 := h.own.small; omega
  have HL := hid hL
  have H0 := hid h
  obtain ⟨F, k1, k2, k3⟩ := h.ex
  have HRC := hid (reached_any k1 K hr hc (fun b hb hf => k3 b (List.mem_append_left _ hb) hf) hB hrl hsl)
  obtain ⟨ar, cr, rfl, _, _⟩ := hr.form
  have HK := hid K
  have HO := hid hO
  have HOA := hid hOA
  clear h K hr hc hO hOA hB hrl hsl hL k1 k2 k3
  subst hpb
  go_enter Try.func33, Try.ntmps33
  go_wp2_with fail
  refine HRC.out.mono ?_
  rintro e w1 ⟨mb, met, O', rfl, m1, m2, m3, m4, m5, m6, m7, m8⟩
  have H1 : Hid (OwnF w0 w1 (.pointer (some ⟨hb, 0, none⟩)) n L (mb :: (O' ++ A))) := hid (by
    refine H0.out.other m5 (fun x hx => ⟨.inl (List.mem_append_left _ hx), HO.out x hx⟩) (fun a ha => ?_)
    rcases List.mem_cons.1 ha with rfl | ha
    · exact ⟨.inr m8, m1.lt⟩
    · rcases List.mem_append.1 ha with ha | ha
      · refine ⟨?_, HK.out.lt m4 a ha⟩
        rcases m6 a ha with h1 | h1
        · exact .inl (List.mem_append_left _ h1)
        · exact .inr h1
      · exact ⟨.inl (List.mem_append_right _ ha), Nat.lt_of_lt_of_le (H0.out.lt a (List.mem_append_right _ ha)) m5.size⟩)
  have K1 : Hid (Kp A w w1) := hid ⟨O, m5, HOA.out⟩
  have M1 := hid m1
  have M2 := hid (And.intro m2 m3)
  have M4 := hid m4
  have M6 := hid (And.intro m6 (And.intro m7 m8))
  clear m1 m2 m3 m4 m5 m6 m7 m8
  go_wp2_with fail
  refine H1.out.own.all.mono ?_
  rintro e w2 ⟨⟨va, rfl, hv, f2, n2⟩, _⟩
  have A2 : Hid (OwnF w0 w2 (.pointer (some ⟨hb, 0, none⟩)) n L (fpv va ++ (mb :: (O' ++ A)))) := hid (by
    refine H1.out.other f2 (by simp) (fun a ha => ?_)
    rcases List.mem_append.1 ha with ha | ha
    · exact ⟨.inr (n2 a ha), hv.lt a ha⟩
    · exact ⟨.inl ha, Nat.lt_of_lt_of_le (H1.out.lt a ha) f2.size⟩)
  have M1b := hid (M1.out.keep f2 (by simp))
  have C2 := hid (HK.out.keep M4.out f2 (by simp))
  have K2 := hid (K1.out.tr (Kp.of0 f2))
  have HV := hid hv
  obtain ⟨av, cv, rfl, hcv, hcv2⟩ := hv.form
  obtain ⟨ln, hln⟩ : ∃ n, n = L.length := ⟨_, rfl⟩
  have HLN := hid hln
  rw [← hln] at HV hcv HL ⊢
  have hlb := HL.out
  unfold maxLen at hcv2
  clear hv f2 n2 hln
  go_wp2_with fail
  go_loopw [8, 20] (fun v i wr => ∃ k : Nat, i = .int .i64 k ∧ k ≤ ln ∧ v = .int .i64 (unmet met L k : Nat) ∧ Hid (OwnF w0 wr (.pointer (some ⟨hb, 0, none⟩)) n (swept met L k) (fpv (.slice av ln cv) ++ (mb :: (O' ++ A))) ∧ Kp (fpv (.slice av ln cv) ++ (mb :: (O' ++ A))) w2 wr)) (fun _ i _ => ln - (intOf i).toNat)
  case atStart => exact ⟨0, rfl, by omega, rfl, hid ⟨by rw [HLN.out]; exact A2.out, Kp.refl _ _⟩⟩
  case round =>
    obtain ⟨k, rfl, hk, rfl, hr⟩ := hrel
    by_cases hlt : k < ln
    · have hkL : k < L.length := by rw [← HLN.out]; exact hlt
      have hlt2 : (k : Int) < ln := by omega
      obtain ⟨bv, cv', hve, hcell, _⟩ := (RV.kp HV.out hr.out.2 (fun b hb => List.mem_append_left _ hb)).cell k (by omega)
      injection hve with e1 e2 e3
      subst e1
      clear e2 e3
      have hget : (obsL L).getD k undef = .int .i64 (L[k].at' : Nat) := by
        unfold obsL
        rw [List.getD, List.getElem?_map, List.getElem?_eq_getElem hkL]; rfl
      rw [hget] at hcell
      have hlook : (Instr.lookup 99 (.map (some mb)) (.int .i64 (L[k].at' : Nat)) true).run Try.prog wr = .ok (.tuple #[.agg #[], .bool (met.contains ((L[k].at' : Nat) : Int))]) wr := by
        have := (MapL.kp M1b.out hr.out.2 (by simp)).look ik_keys und_met unit_zero ((L[k].at' : Nat) : Int) true
        rw [metL_get] at this
        by_cases hm : ((L[k].at' : Nat) : Int) ∈ met
        · rw [if_pos hm] at this; rw [List.contains_iff_mem.2 hm]; exact this
        · rw [if_neg hm] at this; rw [show met.contains ((L[k].at' : Nat) : Int) = false by rw [Bool.eq_false_iff, ne_eq, List.contains_iff_mem]; exact hm]; exact this
      have hus := unmet_succ (met := met) hkL
      have hsw := fun hm => swept_keep (met := met) hkL hm
      have hsd := fun hm => swept_drop (met := met) H0.out.own.rise hkL hm
      obtain ⟨x, hx⟩ : ∃ x : Nat, x = L[k].at' := ⟨_, rfl⟩
      rw [← hx] at hcell hlook hus hsw hsd
      have HR := hid hr.out
      have hul := unmet_le met L k
      rw [← HLN.out] at hul
      obtain ⟨u, hu⟩ : ∃ u, u = unmet met L k := ⟨_, rfl⟩
      rw [← hu] at hus hul ⊢
      have hub : (u : Int) ≤ 2000 := by omega
      have hkb : (k : Int) ≤ 2000 := by omega
      have HUS := hid hus
      have HSW := hid hsw
      have HSD := hid hsd
      clear hr hget hx hu hus hsw hsd hul
      cases hm : met.contains (x : Int) with
      | true =>
        rw [hm] at hlook HUS
        have E := hid (HSW.out hm)
        clear hm
        go_wp2_with fail
        go_roundw
        case rel => exact ⟨k + 1, by go_num, by omega, by rw [HUS.out]; rfl, hid (by rw [E.out]; have fa : Fr [] wr (wr.alloc (.cells #[] 101)) := (Fr.refl _ _).alloc _; exact ⟨HR.out.1.keep fa, HR.out.2.tr (Kp.of0 fa)⟩)⟩
        case measure => simp [intOf]; omega
      | false =>
        rw [hm] at hlook HUS
        have E := hid (HSD.out hm)
        clear hm
        go_wp2_with fail
        refine ((HR.out.1.keep ((Fr.refl _ _).alloc (.cells #[] 101))).release x).mono ?_
        rintro e w3 ⟨rfl, h3⟩
        have H3 := hid h3
        clear h3
        rw [E.out] at H3
        go_wp2_with fail
        go_roundw
        case rel => exact ⟨k + 1, by go_num, by omega, by rw [HUS.out]; go_num, hid ⟨H3.out.1, (HR.out.2.tr (Kp.of0 ((Fr.refl _ _).alloc _))).tr H3.out.2⟩⟩
        case measure => simp [intOf]; omega
    · obtain rfl : k = ln := by omega
      have hlt2 : ¬ (k : Int) < k := by omega
      have HR := hid hr.out
      clear hr hlt
      go_wp2_with fail
      go_ret
      refine ⟨met, O', by rw [HLN.out]; rfl, ?_, ?_, M2.out.1, M2.out.2, ?_, M6.out.1, fun a ha ho => ?_, ?_⟩
      · have := HR.out.1
        rw [HLN.out, swept_all] at this
        exact this.sub (fun a ha => List.mem_append_right _ (List.mem_cons_of_mem _ ha))
      · exact K2.out.tr (HR.out.2.sub (fun a ha => by simp [ha]))
      · obtain ⟨S, fS, hS⟩ := HR.out.2
        exact HK.out.keep C2.out fS (fun b hb => hS b (by simp [hb]))
      · rcases M6.out.1 a ho with h1 | h1
        · exact HOA.out a ha h1
        · have := H0.out.lt a (List.mem_append_right _ ha); omega
      · exact Nat.le_trans K2.out.size HR.out.2.size

end Go.Proofs.Ytgakkkifohkikaa
