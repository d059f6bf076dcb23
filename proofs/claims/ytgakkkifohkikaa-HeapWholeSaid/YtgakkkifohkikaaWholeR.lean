/-
  HeapWhole: the walk of the part behind the step of a round (what is taken and what is free), as a theorem of its own.
-/
import Derived.Test.YtgakkkifohkikaaWholeP
import Derived.Test.YtgakkkifohkikaaHeapD
import Derived.Deep.Cut
import Derived.Deep.CutRange
namespace Go.Proofs.Ytgakkkifohkikaa
open Go.RowKit

structure WR (W wr : World) (p : Value) (n : Nat) (v : Value) (l : List Int) (L : List Ob) : Prop where
  own : OwnL W wr p n L v l
  m : Match l L
def WRx (W : World) (hb n : Nat) (v : Value) (wx : World) : Prop := ∃ l L, WR W wx (.pointer (some ⟨hb, 0, none⟩)) n v l L
/-- the code from region i on, as far as it is one sequence -/
def codeAt (i : Nat) : Code → Option Code
  | .seq a b => match a with
    | .region j _ _ => if j == i then some (.seq a b) else codeAt i b
    | _ => match codeAt i a with
      | some c => some c
      | none => codeAt i b
  | .cond _ a b => match codeAt i a with
      | some c => some c
      | none => codeAt i b
  | .block _ b => codeAt i b
  | .loop b => codeAt i b
  | .scope b => codeAt i b
  | _ => none
noncomputable def rest26 : Code := (Try.f5.body.bind (codeAt 26)).getD .skip
/-- the slots that the part leaves alone -/
structure Lay (c : List Value) (a : Act) : Prop where
  d : a.defers = []
  n : a.tmps.size = 241
  s : [a.tmps.getD 0 undef, a.tmps.getD 1 undef, a.tmps.getD 2 undef, a.tmps.getD 3 undef, a.tmps.getD 5 undef, a.tmps.getD 6 undef, a.tmps.getD 7 undef, a.tmps.getD 8 undef, a.tmps.getD 22 undef, a.tmps.getD 23 undef, a.tmps.getD 24 undef, a.tmps.getD 25 undef, a.tmps.getD 26 undef, a.tmps.getD 27 undef, a.tmps.getD 28 undef, a.tmps.getD 29 undef, a.tmps.getD 30 undef, a.tmps.getD 31 undef] = c
set_option maxRecDepth 100000 in
theorem Lay.lit {c0 c1 c2 c3 c5 c6 c7 c8 c22 c23 c24 c25 c26 c27 c28 c29 c30 c31 : Value} {a : Act} (h : Lay [c0, c1, c2, c3, c5, c6, c7, c8, c22, c23, c24, c25, c26, c27, c28, c29, c30, c31] a) : ∃ f : Nat → Value, a = { tmps := #[c0, c1, c2, c3, f 4, c5, c6, c7, c8, f 9, f 10, f 11, f 12, f 13, f 14, f 15, f 16, f 17, f 18, f 19, f 20, f 21, c22, c23, c24, c25, c26, c27, c28, c29, c30, c31, f 32, f 33, f 34, f 35, f 36, f 37, f 38, f 39, f 40, f 41, f 42, f 43, f 44, f 45, f 46, f 47, f 48, f 49, f 50, f 51, f 52, f 53, f 54, f 55, f 56, f 57, f 58, f 59, f 60, f 61, f 62, f 63, f 64, f 65, f 66, f 67, f 68, f 69, f 70, f 71, f 72, f 73, f 74, f 75, f 76, f 77, f 78, f 79, f 80, f 81, f 82, f 83, f 84, f 85, f 86, f 87, f 88, f 89, f 90, f 91, f 92, f 93, f 94, f 95, f 96, f 97, f 98, f 99, f 100, f 101, f 102, f 103, f 104, f 105, f 106, f 107, f 108, f 109, f 110, f 111, f 112, f 113, f 114, f 115, f 116, f 117, f 118, f 119, f 120, f 121, f 122, f 123, f 124, f 125, f 126, f 127, f 128, f 129, f 130, f 131, f 132, f 133, f 134, f 135, f 136, f 137, f 138, f 139, f 140, f 141, f 142, f 143, f 144, f 145, f 146, f 147, f 148, f 149, f 150, f 151, f 152, f 153, f 154, f 155, f 156, f 157, f 158, f 159, f 160, f 161, f 162, f 163, f 164, f 165, f 166, f 167, f 168, f 169, f 170, f 171, f 172, f 173, f 174, f 175, f 176, f 177, f 178, f 179, f 180, f 181, f 182, f 183, f 184, f 185, f 186, f 187, f 188, f 189, f 190, f 191, f 192, f 193, f 194, f 195, f 196, f 197, f 198, f 199, f 200, f 201, f 202, f 203, f 204, f 205, f 206, f 207, f 208, f 209, f 210, f 211, f 212, f 213, f 214, f 215, f 216, f 217, f 218, f 219, f 220, f 221, f 222, f 223, f 224, f 225, f 226, f 227, f 228, f 229, f 230, f 231, f 232, f 233, f 234, f 235, f 236, f 237, f 238, f 239, f 240], defers := [] } := by
  obtain ⟨h1, h2, h3⟩ := h
  have e := act_fn a 241 h2 h1
  obtain ⟨g, hg⟩ : ∃ g : Nat → Value, g = fun j => a.tmps.getD j undef := ⟨_, rfl⟩
  rw [← hg] at e
  refine ⟨g, e.trans ?_⟩
  have h4 : [g 0, g 1, g 2, g 3, g 5, g 6, g 7, g 8, g 22, g 23, g 24, g 25, g 26, g 27, g 28, g 29, g 30, g 31] = [c0, c1, c2, c3, c5, c6, c7, c8, c22, c23, c24, c25, c26, c27, c28, c29, c30, c31] := by rw [hg]; exact h3
  clear hg e h3
  simp only [List.cons.injEq, and_true] at h4
  obtain ⟨k0, k1, k2, k3, k5, k6, k7, k8, k22, k23, k24, k25, k26, k27, k28, k29, k30, k31⟩ := h4
  show ({ tmps := #[g 0, g 1, g 2, g 3, g 4, g 5, g 6, g 7, g 8, g 9, g 10, g 11, g 12, g 13, g 14, g 15, g 16, g 17, g 18, g 19, g 20, g 21, g 22, g 23, g 24, g 25, g 26, g 27, g 28, g 29, g 30, g 31, g 32, g 33, g 34, g 35, g 36, g 37, g 38, g 39, g 40, g 41, g 42, g 43, g 44, g 45, g 46, g 47, g 48, g 49, g 50, g 51, g 52, g 53, g 54, g 55, g 56, g 57, g 58, g 59, g 60, g 61, g 62, g 63, g 64, g 65, g 66, g 67, g 68, g 69, g 70, g 71, g 72, g 73, g 74, g 75, g 76, g 77, g 78, g 79, g 80, g 81, g 82, g 83, g 84, g 85, g 86, g 87, g 88, g 89, g 90, g 91, g 92, g 93, g 94, g 95, g 96, g 97, g 98, g 99, g 100, g 101, g 102, g 103, g 104, g 105, g 106, g 107, g 108, g 109, g 110, g 111, g 112, g 113, g 114, g 115, g 116, g 117, g 118, g 119, g 120, g 121, g 122, g 123, g 124, g 125, g 126, g 127, g 128, g 129, g 130, g 131, g 132, g 133, g 134, g 135, g 136, g 137, g 138, g 139, g 140, g 141, g 142, g 143, g 144, g 145, g 146, g 147, g 148, g 149, g 150, g 151, g 152, g 153, g 154, g 155, g 156, g 157, g 158, g 159, g 160, g 161, g 162, g 163, g 164, g 165, g 166, g 167, g 168, g 169, g 170, g 171, g 172, g 173, g 174, g 175, g 176, g 177, g 178, g 179, g 180, g 181, g 182, g 183, g 184, g 185, g 186, g 187, g 188, g 189, g 190, g 191, g 192, g 193, g 194, g 195, g 196, g 197, g 198, g 199, g 200, g 201, g 202, g 203, g 204, g 205, g 206, g 207, g 208, g 209, g 210, g 211, g 212, g 213, g 214, g 215, g 216, g 217, g 218, g 219, g 220, g 221, g 222, g 223, g 224, g 225, g 226, g 227, g 228, g 229, g 230, g 231, g 232, g 233, g 234, g 235, g 236, g 237, g 238, g 239, g 240], defers := [] } : Act) = _
  rw [k0, k1, k2, k3, k5, k6, k7, k8, k22, k23, k24, k25, k26, k27, k28, k29, k30, k31]

set_option maxRecDepth 100000 in
set_option maxHeartbeats 4000000 in
theorem whole_rest {W : World} {hb n : Nat} {v7 c0 c1 c2 c3 c4 c8 c22 c23 c24 c25 c26 c27 c28 c29 c30 c31 u9 u10 u11 u12 u13 u14 u15 u16 u17 u18 u19 u20 u21 u32 u33 u34 u35 u36 u37 u38 u39 u40 u41 u42 u43 u44 u45 u46 u47 u48 u49 u50 u51 u52 u53 u54 u55 u56 u57 u58 u59 u60 u61 u62 u63 u64 u65 u66 u67 u68 u69 u70 u71 u72 u73 u74 u75 u76 u77 u78 u79 u80 u81 u82 u83 u84 u85 u86 u87 u88 u89 u90 u91 u92 u93 u94 u95 u96 u97 u98 u99 u100 u101 u102 u103 u104 u105 u106 u107 u108 u109 u110 u111 u112 u113 u114 u115 u116 u117 u118 u119 u120 u121 u122 u123 u124 u125 u126 u127 u128 u129 u130 u131 u132 u133 u134 u135 u136 u137 u138 u139 u140 u141 u142 u143 u144 u145 u146 u147 u148 u149 u150 u151 u152 u153 u154 u155 u156 u157 u158 u159 u160 u161 u162 u163 u164 u165 u166 u167 u168 u169 u170 u171 u172 u173 u174 u175 u176 u177 u178 u179 u180 u181 u182 u183 u184 u185 u186 u187 u188 u189 u190 u191 u192 u193 u194 u195 u196 u197 u198 u199 u200 u201 u202 u203 u204 u205 u206 u207 u208 u209 u210 u211 u212 u213 u214 u215 u216 u217 u218 u219 u220 u221 u222 u223 u224 u225 u226 u227 u228 u229 u230 u231 u232 u233 u234 u235 u236 u237 u238 u239 u240 : Value} {wx : World} (hcut : Hid (WRx W hb n v7 wx)) (hnb : (n : Int) ≤ 300) :
    Code.wp Try.prog rest26 (OnNormal fun a' w' => Lay [c0, c1, c2, c3, .int .i64 n, .pointer (some ⟨hb, 0, none⟩), v7, c8, c22, c23, c24, c25, c26, c27, c28, c29, c30, c31] a' ∧ Hid (WRx W hb n v7 w')) { tmps := #[c0, c1, c2, c3, c4, .int .i64 n, .pointer (some ⟨hb, 0, none⟩), v7, c8, u9, u10, u11, u12, u13, u14, u15, u16, u17, u18, u19, u20, u21, c22, c23, c24, c25, c26, c27, c28, c29, c30, c31, u32, u33, u34, u35, u36, u37, u38, u39, u40, u41, u42, u43, u44, u45, u46, u47, u48, u49, u50, u51, u52, u53, u54, u55, u56, u57, u58, u59, u60, u61, u62, u63, u64, u65, u66, u67, u68, u69, u70, u71, u72, u73, u74, u75, u76, u77, u78, u79, u80, u81, u82, u83, u84, u85, u86, u87, u88, u89, u90, u91, u92, u93, u94, u95, u96, u97, u98, u99, u100, u101, u102, u103, u104, u105, u106, u107, u108, u109, u110, u111, u112, u113, u114, u115, u116, u117, u118, u119, u120, u121, u122, u123, u124, u125, u126, u127, u128, u129, u130, u131, u132, u133, u134, u135, u136, u137, u138, u139, u140, u141, u142, u143, u144, u145, u146, u147, u148, u149, u150, u151, u152, u153, u154, u155, u156, u157, u158, u159, u160, u161, u162, u163, u164, u165, u166, u167, u168, u169, u170, u171, u172, u173, u174, u175, u176, u177, u178, u179, u180, u181, u182, u183, u184, u185, u186, u187, u188, u189, u190, u191, u192, u193, u194, u195, u196, u197, u198, u199, u200, u201, u202, u203, u204, u205, u206, u207, u208, u209, u210, u211, u212, u213, u214, u215, u216, u217, u218, u219, u220, u221, u222, u223, u224, u225, u226, u227, u228, u229, u230, u231, u232, u233, u234, u235, u236, u237, u238, u239, u240], defers := [] } wx := by
  conv =>
    arg 2
    whnf
  obtain ⟨l', L', hwr⟩ := hcut.out
  obtain ⟨av', cv', hv', hcv', hcv2'⟩ := hwr.own.sl.form
  subst hv'
  obtain ⟨ln', hln'⟩ : ∃ n, n = l'.length := ⟨_, rfl⟩
  have hlL := hwr.m.length hwr.own.own.rise
  have hL2 := Rise.length hwr.own.own.rise
  have hsum := gaps_sum hwr.own.own.rise
  have hgl := hwr.own.own.glen
  have hri := hwr.own.own.rise
  rw [← hln'] at hwr hcv' hlL ⊢
  obtain ⟨m1, hm1⟩ : ∃ m, m = L'.length := ⟨_, rfl⟩
  obtain ⟨G, hG⟩ : ∃ G, G = gaps n 1 L' := ⟨_, rfl⟩
  obtain ⟨gl, hgle⟩ : ∃ g, g = G.length := ⟨_, rfl⟩
  rw [← hm1] at hlL hL2
  rw [← hG] at hsum hgl
  rw [← hgle] at hgl
  have hm1b : (m1 : Int) ≤ 300 := by omega
  have hglb : (gl : Int) ≤ 3000 := by omega
  have hln2 : ln' = m1 := hlL
  have HW := hid hwr.own
  have HMM := hid hwr.m
  have HRI := hid hri
  have HSUM := hid hsum
  have HM1 := hid hm1
  have HG := hid hG
  have HGL := hid hgle
  have HLN2 := hid hln2
  unfold maxLen at hcv2'
  clear hwr hcut hri hsum hm1 hG hgle hlL hL2 hgl hln2 hln'
  go_wp2_with fail
  refine HW.out.own.own.all.mono ?_
  rintro e w2 ⟨⟨va, rfl, hra, fa, _⟩, _⟩
  rw [← HM1.out] at hra
  obtain ⟨aa, ca, rfl, hca, hca2⟩ := hra.form
  have HRA := hid hra
  have H2 := hid (HW.out.keep fa)
  clear hra fa
  go_wp2_with fail
  refine H2.out.own.own.free.mono ?_
  rintro e w3 ⟨⟨vf, rfl, hrf, ff, _⟩, _⟩
  rw [← HG.out, ← HGL.out] at hrf
  obtain ⟨af, cf, rfl, hcf, hcf2⟩ := hrf.form
  have HRF := hid hrf
  have HRA3 := hid (HRA.out.keep0 ff)
  have H3 := hid (H2.out.keep ff)
  unfold maxLen at hca2 hcf2
  clear hrf ff
  go_wp2_with fail
  go_loopw [15, 18] (fun sv k wr2 => ∃ kk : Nat, k = .int .i64 kk ∧ kk ≤ m1 ∧ sv = .int .i64 ((sumO (L'.take kk) : Nat) : Int) ∧ Hid (Fr [] w3 wr2)) (fun _ k _ => m1 - (intOf k).toNat)
  case atStart => exact ⟨0, rfl, by omega, rfl, hid (Fr.refl _ _)⟩
  case round =>
    obtain ⟨kk, rfl, hk, rfl, hf⟩ := hrel
    by_cases hkl : kk < m1
    · have hkl2 : (kk : Int) < m1 := by omega
      obtain ⟨o, ho⟩ : ∃ o, L'[kk]? = some o := ⟨_, List.getElem?_eq_getElem (by rw [← HM1.out]; exact hkl)⟩
      obtain ⟨ba, ca', e, k0, _⟩ := (HRA3.out.keep0 hf.out).cell kk (by omega)
      cases e
      have hk0 : (obsL L').getD kk undef = vi o.at' := by simp [List.getD, obsL, ho]
      rw [hk0] at k0
      have hmem := List.mem_of_getElem? ho
      have hobb := (Rise.obs HRI.out o hmem).2
      simp only [Ob.sz] at hobb
      have hst := sumO_take L' kk o ho
      have hsl := sumO_le L' (kk + 1)
      have hsn := HSUM.out
      have E := hid ((H3.out.keep hf.out).own.own.words (o.at' : Int))
      rw [show wdsV L' (o.at' : Int) = .tuple #[.int .i64 o.ws.length, .int .i64 0] from by unfold wdsV; rw [arFind_at HRI.out hmem]] at E
      unfold QPost at E
      obtain ⟨x, hx⟩ : ∃ x, x = o.at' := ⟨_, rfl⟩
      obtain ⟨t, ht⟩ : ∃ x, x = o.ws.length := ⟨_, rfl⟩
      obtain ⟨sm, hsm⟩ : ∃ x, x = sumO (L'.take kk) := ⟨_, rfl⟩
      rw [← hx, ← ht] at E
      rw [← hx] at k0
      rw [← ht, ← hsm] at hst
      rw [← hsm]
      rw [← hx, ← ht] at hobb
      simp only [vi] at k0
      have hxb : (x : Int) ≤ 3000 := by omega
      have htb : (t : Int) ≤ 3000 := by omega
      have hsmb : (sm : Int) ≤ 3000 := by omega
      have HST := hid hst
      by_cases hk0' : kk = 0
      · have hz : decide (0 < kk) = false := by rw [decide_eq_false_iff_not]; omega
        have HX := hid (And.intro hx ho)
        clear hk0 hmem hst hsl hsn hsm hx ht hk0' ho hobb
        go_wp2_with fail
        refine E.out.mono ?_
        rintro e w4 ⟨rfl, q4, rfl⟩
        go_wp2_with fail
        go_quiet (fail)
        go_wp2_with fail
        go_roundw
        case rel => exact ⟨kk + 1, by go_num, by omega, by rw [HST.out]; go_num, hid (hf.out.tr (drewN_fr _ _))⟩
        case measure => simp [intOf]; omega
      · obtain ⟨j, rfl⟩ : ∃ j, kk = j + 1 := ⟨kk - 1, by omega⟩
        obtain ⟨o', ho'⟩ : ∃ o, L'[j]? = some o := ⟨_, List.getElem?_eq_getElem (by rw [← HM1.out]; omega)⟩
        obtain ⟨ba', ca'', e, k1, _⟩ := (HRA3.out.keep0 hf.out).cell j (by omega)
        cases e
        have hk1 : (obsL L').getD j undef = vi o'.at' := by simp [List.getD, obsL, ho']
        rw [hk1] at k1
        have hlt : o'.at' < o.at' := by
          have hp := Rise.sorted HRI.out
          have hj : j < (L'.map (fun o => (o.at' : Int))).length := by rw [List.length_map, ← HM1.out]; omega
          have hj1 : j + 1 < (L'.map (fun o => (o.at' : Int))).length := by rw [List.length_map, ← HM1.out]; omega
          have := List.pairwise_iff_getElem.1 hp j (j + 1) hj hj1 (by omega)
          rw [List.getElem_map, List.getElem_map] at this
          have e1 : L'[j]'(by simpa using hj) = o' := (List.getElem?_eq_some_iff.1 ho').2
          have e2 : L'[j + 1]'(by simpa using hj1) = o := (List.getElem?_eq_some_iff.1 ho).2
          rw [e1, e2] at this
          omega
        obtain ⟨x', hx'⟩ : ∃ x, x = o'.at' := ⟨_, rfl⟩
        rw [← hx'] at k1 hlt
        rw [← hx] at hlt
        simp only [vi] at k1
        have hle : decide (x ≤ x') = false := by rw [decide_eq_false_iff_not]; omega
        have hle2 : decide ((x : Int) ≤ x') = false := by rw [decide_eq_false_iff_not]; omega
        have hz : (0 : Int) < (j : Int) + 1 := by omega
        have hz1 : (0 : Int) ≤ (j : Int) + 1 := by omega
        have hz2 : ((j : Int) + 1).toNat = j + 1 := by omega
        have hz3 : (j : Int) + 1 - 1 = j := by omega
        have hz4 : (j : Int) < m1 := by omega
        have hz5 : (j : Int) + 1 < m1 := by omega
        have hz6 : IntKind.i64.wrap (j : Int) = j := by rw [IntKind.wrap_i64]; omega
        have hz7 : (j : Int) + 1 ≤ 300 := by omega
        clear hk0 hmem hst hsl hsn hsm hx ht hk0' ho hobb hk1 ho' hx' hlt
        go_wp2_with fail
        refine E.out.mono ?_
        rintro e w4 ⟨rfl, q4, rfl⟩
        go_wp2_with fail
        go_quiet (fail)
        go_wp2_with fail
        go_roundw
        case rel => exact ⟨j + 1 + 1, by go_num, by omega, by rw [HST.out]; go_num, hid (hf.out.tr (drewN_fr _ _))⟩
        case measure => simp [intOf]; omega
    · obtain rfl : kk = m1 := by omega
      have hkl2 : ¬ (kk : Int) < kk := by omega
      have hst : sumO (L'.take kk) = sumO L' := by rw [HM1.out, List.take_length]
      obtain ⟨so, hso⟩ : ∃ x, x = sumO L' := ⟨_, rfl⟩
      rw [hst, ← hso]
      have hsn := HSUM.out
      rw [← hso] at hsn
      have HSN := hid hsn
      have hsob : (so : Int) ≤ 3000 := by omega
      clear hkl hst hso hsn
      go_wp2_with fail
      clear hkl2
      go_loopw [15, 21] (fun sv k wr3 => ∃ j : Nat, k = .int .i64 j ∧ j ≤ gl ∧ sv = .int .i64 ((so + sumG (G.take j) : Nat) : Int) ∧ Hid (Fr [] w3 wr3)) (fun _ k _ => gl - (intOf k).toNat)
      case atStart => exact ⟨0, rfl, by omega, by simp [sumG], hf⟩
      case round =>
        obtain ⟨j, rfl, hj, rfl, hf2⟩ := hrel
        by_cases hjl : j < gl
        · have hjl2 : (j : Int) < gl := by omega
          obtain ⟨⟨gx, gs⟩, hg⟩ : ∃ g, G[j]? = some g := ⟨_, List.getElem?_eq_getElem (by rw [← HGL.out]; exact hjl)⟩
          obtain ⟨bq, cq, e, k0, _⟩ := (HRF.out.keep0 hf2.out).cell (j * 2) (by omega)
          cases e
          obtain ⟨bq', cq', e, k1, _⟩ := (HRF.out.keep0 hf2.out).cell (j * 2 + 1) (by omega)
          cases e
          rw [(blkL_get _ _ _ hg).1] at k0
          rw [(blkL_get _ _ _ hg).2] at k1
          simp only [vi] at k0 k1
          have hlb := gaps_lb HRI.out (gx, gs) (by rw [← HG.out]; exact List.mem_of_getElem? hg)
          simp only [] at hlb
          have hst := sumG_take G j (gx, gs) hg
          have hsl := sumG_le G (j + 1)
          simp only [] at hst
          obtain ⟨sg, hsg⟩ : ∃ x, x = sumG (G.take j) := ⟨_, rfl⟩
          rw [← hsg] at hst
          rw [← hsg]
          have hsn := HSN.out
          have c1 : ¬ ((gs : Int) < 1) := by omega
          have c1' : decide ((gs : Int) < 1) = false := by simpa using c1
          have c2 : ¬ ((gx : Int) < 1) := by omega
          have c2' : decide ((gx : Int) < 1) = false := by simpa using c2
          have c3 : ¬ ((n : Int) + 1 < (gx : Int) + gs) := by omega
          have c3' : decide ((n : Int) + 1 < (gx : Int) + gs) = false := by simpa using c3
          have c4 : IntKind.i64.wrap ((n : Int) + 1) = (n : Int) + 1 := by rw [IntKind.wrap_i64]; omega
          have c5 : IntKind.i64.wrap ((gx : Int) + gs) = (gx : Int) + gs := by rw [IntKind.wrap_i64]; omega
          have hgxb : (gx : Int) ≤ 3000 := by omega
          have hgsb : (gs : Int) ≤ 3000 := by omega
          have hsgb : (sg : Int) ≤ 3000 := by omega
          have HST := hid hst
          by_cases hj0 : j = 0
          · have hz : decide (0 < j) = false := by rw [decide_eq_false_iff_not]; omega
            clear hst hsl hsg hsn hlb c1 c2 c3 hj0 hg
            go_wp2_with fail
            go_quiet (fail)
            clear c4 c5
            go_wp2_with fail
            go_roundw
            case rel => exact ⟨j + 1, by go_num, by omega, by rw [HST.out]; go_num, hid (hf2.out.tr (drewN_fr _ _))⟩
            case measure => simp [intOf]; omega
          · obtain ⟨i, rfl⟩ : ∃ i, j = i + 1 := ⟨j - 1, by omega⟩
            obtain ⟨⟨hx, hs'⟩, hg'⟩ : ∃ g, G[i]? = some g := ⟨_, List.getElem?_eq_getElem (by rw [← HGL.out]; omega)⟩
            obtain ⟨bq2, cq2, e, m0, _⟩ := (HRF.out.keep0 hf2.out).cell (i * 2) (by omega)
            cases e
            obtain ⟨bq2', cq2', e, m1', _⟩ := (HRF.out.keep0 hf2.out).cell (i * 2 + 1) (by omega)
            cases e
            rw [(blkL_get _ _ _ hg').1] at m0
            rw [(blkL_get _ _ _ hg').2] at m1'
            simp only [vi] at m0 m1'
            have hap : hx + hs' < gx := by
              have hp := gaps_apart HRI.out
              rw [← HG.out] at hp
              have h1 : i < G.length := by rw [← HGL.out]; omega
              have h2 : i + 1 < G.length := by rw [← HGL.out]; omega
              have := List.pairwise_iff_getElem.1 hp i (i + 1) h1 h2 (by omega)
              rw [(List.getElem?_eq_some_iff.1 hg').2, (List.getElem?_eq_some_iff.1 hg).2] at this
              exact this
            have c6 : IntKind.i64.wrap ((hx : Int) + hs') = (hx : Int) + hs' := by rw [IntKind.wrap_i64]; omega
            have c7 : ¬ ((gx : Int) ≤ (hx : Int) + hs') := by omega
            have c7' : decide ((gx : Int) ≤ (hx : Int) + hs') = false := by simpa using c7
            have hz : (0 : Int) < (i : Int) + 1 := by omega
            have hz1 : (0 : Int) ≤ (i : Int) + 1 := by omega
            have hz2 : ((i : Int) + 1).toNat = i + 1 := by omega
            have hz3 : (i : Int) + 1 - 1 = i := by omega
            have hz4 : (i : Int) < gl := by omega
            have hz5 : (i : Int) + 1 < gl := by omega
            have hz6 : IntKind.i64.wrap (i : Int) = i := by rw [IntKind.wrap_i64]; omega
            have hz7 : (i : Int) + 1 ≤ 3000 := by omega
            clear hst hsl hsg hsn hlb c1 c2 c3 hj0 hg hg' hap c7
            go_wp2_with fail
            go_quiet (fail)
            clear c4 c5 c6
            go_wp2_with fail
            go_roundw
            case rel => exact ⟨i + 1 + 1, by go_num, by omega, by rw [HST.out]; go_num, hid (hf2.out.tr (drewN_fr _ _))⟩
            case measure => simp [intOf]; omega
        · obtain rfl : j = gl := by omega
          have hjl2 : ¬ (j : Int) < j := by omega
          have hst : so + sumG (G.take j) = n := by
            have hsn := HSN.out
            rw [HGL.out, List.take_length]
            omega
          rw [hst]
          have hne : ((n : Int) != n) = false := by simp
          have hlm : ((kk : Int) != ln') = false := by
            have : (kk : Int) = ln' := by have := HLN2.out; omega
            simpa using this
          clear hjl hst
          go_wp2_with fail
          exact ⟨⟨rfl, rfl, rfl⟩, hid ⟨l', L', H3.out.keep hf2.out, HMM.out⟩⟩

end Go.Proofs.Ytgakkkifohkikaa
