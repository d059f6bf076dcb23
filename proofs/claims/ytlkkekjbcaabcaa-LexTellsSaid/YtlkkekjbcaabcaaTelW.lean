/-
  LexTells: the walk.
-/
import Derived.Test.YtlkkekjbcaabcaaTelI
import Derived.Test.YtlkkekjbcaabcaaRowU
namespace Go.Proofs.Ytlkkekjbcaabcaa
open Go.RowKit

set_option maxRecDepth 20000 in
set_option maxHeartbeats 4000000 in
theorem tells_walk (s t : ByteArray) (W : World) (w0 : s.size ≤ maxLen) (w1 : t.size ≤ maxLen) :
    Calls Try.prog 5 #[.string s, .string t] W fun e w' => e = .returned (.bool true) ∧ Fr [] W w' := by
  clear w0 w1
  by_cases hbig : 9000 < s.size
  · have hb : (9000 : Int) < s.size := by omega
    go_enter Try.func5, Try.ntmps5
    go_wp2_with fail
    refine (known_any W).mono ?_
    rintro e wA ⟨rfl, f0⟩
    go_wp2_with fail
    go_ret
    exact ⟨rfl, f0⟩
  have hb : decide ((9000 : Int) < s.size) = false := by simp; omega
  by_cases hbig2 : 100 < t.size
  · have hb2 : (100 : Int) < t.size := by omega
    go_enter Try.func5, Try.ntmps5
    go_wp2_with fail
    refine (known_any W).mono ?_
    rintro e wA ⟨rfl, f0⟩
    go_wp2_with fail
    go_ret
    exact ⟨rfl, f0⟩
  have hb2 : decide ((100 : Int) < t.size) = false := by simp; omega
  have CA := hid (fun w => all_any s (by omega) w)
  have CB := hid (fun w => rall_any s (by omega) w)
  have CW := hid (fun w => word_any t w)
  have CV := hid (fun w => rword_any t w)
  have HSH := hid (shows_all s.data.toList)
  obtain ⟨⟨ts, ta, te⟩, ht⟩ : ∃ r, r = lexAll s.data.toList := ⟨_, rfl⟩
  rw [← ht] at CA CB HSH
  obtain ⟨b, hbw⟩ : ∃ b, b = isWord t.data.toList := ⟨_, rfl⟩
  rw [← hbw] at CW CV
  simp only [] at HSH
  clear ht hbw hbig hbig2
  go_enter Try.func5, Try.ntmps5
  go_wp2_with fail
  refine (known_any W).mono ?_
  rintro e wA ⟨rfl, f0⟩
  have F0 := hid f0
  clear f0
  go_wp2_with fail
  refine (CA.out _).mono ?_
  rintro e w1 ⟨u, rfl, hu, -, f1⟩
  obtain ⟨au, cu, hue, _, _⟩ := hu.form
  have HU1 := hid hu
  have F1 := hid (F0.out.tr f1)
  subst hue
  clear hu f1 hb hb2
  go_wp2_with fail
  refine (CB.out _).mono ?_
  rintro e w2 ⟨v, rfl, hv, -, f2⟩
  obtain ⟨av, cv, hve, _, _⟩ := hv.form
  have HV2 := hid hv
  have HU2 := hid (HU1.out.keep0 f2)
  have F2 := hid (F1.out.tr f2)
  subst hve
  clear hv f2
  go_wp2_with fail
  refine (same_pl w2 _ _ ts ts HU2.out HV2.out rfl (by have := HSH.out.len; omega)).mono ?_
  rintro e w3 ⟨rfl, f3⟩
  have HV3 := hid (HV2.out.keep0 f3)
  have F3 := hid (F2.out.tr f3)
  clear f3
  go_wp2_with fail
  refine (CW.out _).mono ?_
  rintro e w4 ⟨rfl, f4⟩
  have HV4 := hid (HV3.out.keep0 f4)
  have F4 := hid (F3.out.tr f4)
  clear f4
  go_wp2_with fail
  refine (CV.out _).mono ?_
  rintro e w5 ⟨rfl, f5⟩
  have HV5 := hid (HV4.out.keep0 f5)
  have F5 := hid (F4.out.tr f5)
  clear f5
  go_wp2_with fail
  refine (print_any w5 _ ts HV5.out (by have := HSH.out.len; omega) (by have := HSH.out.pr; omega)).mono ?_
  rintro e w6 ⟨rfl, f6⟩
  have HV6 := hid (HV5.out.keep0 f6)
  have F6 := hid (F5.out.tr f6)
  clear f6
  go_wp2_with fail
  refine (rprint_any w6 _ ts HV6.out HSH.out).mono ?_
  rintro e w7 ⟨rfl, f7⟩
  have F7 := hid (F6.out.tr f7)
  clear f7
  go_wp2_with fail
  go_ret
  exact ⟨by simp, F7.out⟩

end Go.Proofs.Ytlkkekjbcaabcaa
