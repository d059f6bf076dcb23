/-
  HeapPlays: a round that speaks of a word that there isn't.
-/
import Derived.Test.YtgakkkifohkikaaPlayS
import Derived.Deep.Cut
import Derived.Deep.CutRange
import Derived.BigQuiet
namespace Go.Proofs.Ytgakkkifohkikaa
open Go.RowKit

theorem word_none {L : List Ob} {x i u : Int} (h : wordOf L x i = none) : putE L x i = 111 ∧ putL L x i u = L ∧ getV L x i = .tuple #[.int .u64 0, .int .i64 111] := by
  unfold putE putL getV
  rw [h]
  exact ⟨rfl, rfl, rfl⟩
set_option maxRecDepth 100000 in
set_option maxHeartbeats 8000000 in
theorem sw_none' {W wo : World} {hb rb n sb : Nat} {L : List Ob} {c0 c1 c2 c3 c4 c7 c9 c10 c11 c12 c13 c14 c15 c16 c17 c18 c19 c20 c21 c22 c23 c24 c25 c26 c27 c28 c29 c30 c31 c32 c33 c34 c35 c36 c37 c38 c39 c40 c41 c42 c43 c44 c45 c46 c47 c48 c49 c50 c51 c52 c53 c54 c55 c56 c57 c58 c59 c60 c61 c62 c63 c64 c65 c66 c67 c68 c69 c70 c71 c72 c73 c74 c75 c76 c77 c78 c79 c80 c81 c82 c83 c84 c85 c86 c87 c88 c89 c90 c91 c92 c93 c94 c95 c96 c97 c98 c99 c100 c101 c102 c103 c104 c105 c106 c107 c108 c109 c110 c111 c112 c113 c114 c115 c116 c117 c118 c119 c120 c121 c122 c123 c124 c125 c126 c127 c128 c129 c130 c131 c132 c133 c134 c135 c136 c137 c138 c139 c140 c141 c142 c143 c144 c145 c146 c147 c148 c149 c150 c151 c152 c153 c154 c155 c156 c157 c158 c159 c160 c161 c162 c163 c164 c165 c166 c167 c168 c169 c170 c171 c172 c173 c174 c175 c176 c177 c178 c179 c180 c181 c182 c183 c184 c185 c186 c187 c188 c189 c190 c191 c192 c193 c194 c195 c196 c197 c198 c199 c200 c201 c202 c203 c204 c205 c206 c207 c208 c209 c210 c211 c212 c213 c214 c215 c216 c217 c218 c219 c220 c221 c222 c223 c224 c225 c226 c227 c228 c229 c230 c231 c232 c233 c234 c235 c236 c237 c238 c239 c240 c241 c242 c243 c244 c245 c246 c247 c248 c249 : Value} {s0 s1 s2 s3 : Int} (HV : Hid (StepAt wo sb s0 s1 s2 s3)) (HB1 : Hid (PlW W wo hb rb n L L [sb])) (h3 : decide (s0 ≤ 3) = false) (h5 : decide (s0 ≤ 5) = false) (HWN : Hid (wordOf L s1 s2 = none)) (HNO : Hid (has L s1 = false)) (h6 : (s0 == 6) = false) :
    Code.wp Try.prog sw (OnNormal fun a' w' => LayP [c0, c1, c2, c3, c4, .pointer (some ⟨hb, 0, none⟩), .pointer (some ⟨rb, 0, none⟩), c7, .pointer (some ⟨sb, 0, none⟩), c17, c18, c19, c20, c21, c22, c23, c24, c25, c26, c27, c28, c29, c30] a' ∧ Hid (SwPost W hb rb n sb wo w')) { tmps := #[c0, c1, c2, c3, c4, .pointer (some ⟨hb, 0, none⟩), .pointer (some ⟨rb, 0, none⟩), c7, .pointer (some ⟨sb, 0, none⟩), c9, c10, c11, c12, c13, c14, c15, c16, c17, c18, c19, c20, c21, c22, c23, c24, c25, c26, c27, c28, c29, c30, c31, c32, c33, c34, c35, c36, c37, c38, c39, c40, c41, c42, c43, c44, c45, c46, c47, c48, c49, c50, c51, c52, c53, c54, c55, c56, c57, c58, c59, c60, c61, c62, c63, c64, c65, c66, c67, c68, c69, c70, c71, c72, c73, c74, c75, c76, c77, c78, c79, c80, c81, c82, c83, c84, c85, c86, c87, c88, c89, c90, c91, c92, c93, c94, c95, c96, c97, c98, c99, c100, c101, c102, c103, c104, c105, c106, c107, c108, c109, c110, c111, c112, c113, c114, c115, c116, c117, c118, c119, c120, c121, c122, c123, c124, c125, c126, c127, c128, c129, c130, c131, c132, c133, c134, c135, c136, c137, c138, c139, c140, c141, c142, c143, c144, c145, c146, c147, c148, c149, c150, c151, c152, c153, c154, c155, c156, c157, c158, c159, c160, c161, c162, c163, c164, c165, c166, c167, c168, c169, c170, c171, c172, c173, c174, c175, c176, c177, c178, c179, c180, c181, c182, c183, c184, c185, c186, c187, c188, c189, c190, c191, c192, c193, c194, c195, c196, c197, c198, c199, c200, c201, c202, c203, c204, c205, c206, c207, c208, c209, c210, c211, c212, c213, c214, c215, c216, c217, c218, c219, c220, c221, c222, c223, c224, c225, c226, c227, c228, c229, c230, c231, c232, c233, c234, c235, c236, c237, c238, c239, c240, c241, c242, c243, c244, c245, c246, c247, c248, c249], defers := [] } wo := by
  conv =>
    arg 2
    whnf
  obtain ⟨v0, v1, v2, v3⟩ := HV.out.cells (Kp.refl _ _)
  have E := hid (HB1.out.rfind s1)
  go_wp2_with fail
  refine E.out.mono ?_
  rintro e w5 ⟨⟨r, rfl, hr⟩, f5⟩
  obtain ⟨u0, u1, u2, u3⟩ := HV.out.cells (Kp.of0 f5)
  have H5 := hid (HB1.out.keep f5)
  have K5 : Hid (Kp [sb] wo w5) := hid (Kp.of0 f5)
  obtain rfl : r = -1 := by
    rcases hr with ⟨h, _⟩ | ⟨i, hi, _, hx⟩
    · exact h
    · exact absurd (has_mem.2 (List.mem_map.2 ⟨L[i], List.getElem_mem hi, hx⟩)) (by rw [HNO.out]; exact Bool.false_ne_true)
  clear f5 hr
  go_wp2_with fail
  go_quiet (fail)
  go_wp2_with fail
  have EG := hid ((H5.out.keep (drewN_fr w5 nq)).own.get s1 s2)
  rw [(word_none (u := s3) HWN.out).2.2] at EG
  refine EG.out.mono ?_
  rintro e w7 ⟨rfl, q7, rfl⟩
  have HF : Hid (∀ w', Fr [] w5 w' → SwPost W hb rb n sb wo w') := hid (fun w' f => ⟨L, H5.out.keep f, K5.out.tr (Kp.of0 f)⟩)
  go_wp2_with fail
  first | (go_quiet (fail); go_wp2_with fail) | skip
  exact ⟨⟨rfl, rfl, rfl⟩, hid (HF.out _ (by repeat (first | exact Fr.refl _ _ | exact drewN_fr _ _ | refine Fr.tr ?_ (drewN_fr _ _))))⟩

set_option maxRecDepth 100000 in
set_option maxHeartbeats 8000000 in
theorem sw_none6 {W wo : World} {hb rb n sb : Nat} {L : List Ob} {c0 c1 c2 c3 c4 c7 c9 c10 c11 c12 c13 c14 c15 c16 c17 c18 c19 c20 c21 c22 c23 c24 c25 c26 c27 c28 c29 c30 c31 c32 c33 c34 c35 c36 c37 c38 c39 c40 c41 c42 c43 c44 c45 c46 c47 c48 c49 c50 c51 c52 c53 c54 c55 c56 c57 c58 c59 c60 c61 c62 c63 c64 c65 c66 c67 c68 c69 c70 c71 c72 c73 c74 c75 c76 c77 c78 c79 c80 c81 c82 c83 c84 c85 c86 c87 c88 c89 c90 c91 c92 c93 c94 c95 c96 c97 c98 c99 c100 c101 c102 c103 c104 c105 c106 c107 c108 c109 c110 c111 c112 c113 c114 c115 c116 c117 c118 c119 c120 c121 c122 c123 c124 c125 c126 c127 c128 c129 c130 c131 c132 c133 c134 c135 c136 c137 c138 c139 c140 c141 c142 c143 c144 c145 c146 c147 c148 c149 c150 c151 c152 c153 c154 c155 c156 c157 c158 c159 c160 c161 c162 c163 c164 c165 c166 c167 c168 c169 c170 c171 c172 c173 c174 c175 c176 c177 c178 c179 c180 c181 c182 c183 c184 c185 c186 c187 c188 c189 c190 c191 c192 c193 c194 c195 c196 c197 c198 c199 c200 c201 c202 c203 c204 c205 c206 c207 c208 c209 c210 c211 c212 c213 c214 c215 c216 c217 c218 c219 c220 c221 c222 c223 c224 c225 c226 c227 c228 c229 c230 c231 c232 c233 c234 c235 c236 c237 c238 c239 c240 c241 c242 c243 c244 c245 c246 c247 c248 c249 : Value} {s0 s1 s2 s3 : Int} (HV : Hid (StepAt wo sb s0 s1 s2 s3)) (HB1 : Hid (PlW W wo hb rb n L L [sb])) (h3 : decide (s0 ≤ 3) = false) (h5 : decide (s0 ≤ 5) = false) (HWN : Hid (wordOf L s1 s2 = none)) (HNO : Hid (has L s1 = false)) (h6 : s0 = 6) :
    Code.wp Try.prog sw (OnNormal fun a' w' => LayP [c0, c1, c2, c3, c4, .pointer (some ⟨hb, 0, none⟩), .pointer (some ⟨rb, 0, none⟩), c7, .pointer (some ⟨sb, 0, none⟩), c17, c18, c19, c20, c21, c22, c23, c24, c25, c26, c27, c28, c29, c30] a' ∧ Hid (SwPost W hb rb n sb wo w')) { tmps := #[c0, c1, c2, c3, c4, .pointer (some ⟨hb, 0, none⟩), .pointer (some ⟨rb, 0, none⟩), c7, .pointer (some ⟨sb, 0, none⟩), c9, c10, c11, c12, c13, c14, c15, c16, c17, c18, c19, c20, c21, c22, c23, c24, c25, c26, c27, c28, c29, c30, c31, c32, c33, c34, c35, c36, c37, c38, c39, c40, c41, c42, c43, c44, c45, c46, c47, c48, c49, c50, c51, c52, c53, c54, c55, c56, c57, c58, c59, c60, c61, c62, c63, c64, c65, c66, c67, c68, c69, c70, c71, c72, c73, c74, c75, c76, c77, c78, c79, c80, c81, c82, c83, c84, c85, c86, c87, c88, c89, c90, c91, c92, c93, c94, c95, c96, c97, c98, c99, c100, c101, c102, c103, c104, c105, c106, c107, c108, c109, c110, c111, c112, c113, c114, c115, c116, c117, c118, c119, c120, c121, c122, c123, c124, c125, c126, c127, c128, c129, c130, c131, c132, c133, c134, c135, c136, c137, c138, c139, c140, c141, c142, c143, c144, c145, c146, c147, c148, c149, c150, c151, c152, c153, c154, c155, c156, c157, c158, c159, c160, c161, c162, c163, c164, c165, c166, c167, c168, c169, c170, c171, c172, c173, c174, c175, c176, c177, c178, c179, c180, c181, c182, c183, c184, c185, c186, c187, c188, c189, c190, c191, c192, c193, c194, c195, c196, c197, c198, c199, c200, c201, c202, c203, c204, c205, c206, c207, c208, c209, c210, c211, c212, c213, c214, c215, c216, c217, c218, c219, c220, c221, c222, c223, c224, c225, c226, c227, c228, c229, c230, c231, c232, c233, c234, c235, c236, c237, c238, c239, c240, c241, c242, c243, c244, c245, c246, c247, c248, c249], defers := [] } wo := by
  conv =>
    arg 2
    whnf
  obtain ⟨v0, v1, v2, v3⟩ := HV.out.cells (Kp.refl _ _)
  subst h6
  have E := hid (HB1.out.rfind s1)
  go_wp2_with fail
  refine E.out.mono ?_
  rintro e w5 ⟨⟨r, rfl, hr⟩, f5⟩
  obtain ⟨u0, u1, u2, u3⟩ := HV.out.cells (Kp.of0 f5)
  have H5 := hid (HB1.out.keep f5)
  have K5 : Hid (Kp [sb] wo w5) := hid (Kp.of0 f5)
  obtain rfl : r = -1 := by
    rcases hr with ⟨h, _⟩ | ⟨i, hi, _, hx⟩
    · exact h
    · exact absurd (has_mem.2 (List.mem_map.2 ⟨L[i], List.getElem_mem hi, hx⟩)) (by rw [HNO.out]; exact Bool.false_ne_true)
  clear f5 hr
  go_wp2_with fail
  go_quiet (fail)
  go_wp2_with fail
  have EP := hid ((H5.out.keep (drewN_fr w5 nq)).hput s1 s2 s3)
  rw [(word_none (u := s3) HWN.out).1, (word_none (u := s3) HWN.out).2.1] at EP
  refine EP.out.mono ?_
  rintro e w6 ⟨rfl, h6, kp6⟩
  have K6 : Hid (Kp [sb] wo w6) := hid (K5.out.tr ((Kp.of0 (drewN_fr w5 nq)).tr kp6))
  obtain ⟨t0, t1, t2, t3⟩ := HV.out.cells K6.out
  have H6 := hid h6
  have EG := hid (h6.own.get s1 s2)
  rw [(word_none (u := s3) HWN.out).2.2] at EG
  clear h6 kp6
  go_wp2_with fail
  refine EG.out.mono ?_
  rintro e w7 ⟨rfl, q7, rfl⟩
  have HF : Hid (∀ w', Fr [] w6 w' → SwPost W hb rb n sb wo w') := hid (fun w' f => ⟨L, H6.out.keep f, K6.out.tr (Kp.of0 f)⟩)
  go_wp2_with fail
  first | (go_quiet (fail); go_wp2_with fail) | skip
  exact ⟨⟨rfl, rfl, rfl⟩, hid (HF.out _ (by repeat (first | exact Fr.refl _ _ | exact drewN_fr _ _ | refine Fr.tr ?_ (drewN_fr _ _))))⟩

set_option maxRecDepth 100000 in
set_option maxHeartbeats 8000000 in
theorem sw_neg {W wo : World} {hb rb n sb : Nat} {L : List Ob} {c0 c1 c2 c3 c4 c7 c9 c10 c11 c12 c13 c14 c15 c16 c17 c18 c19 c20 c21 c22 c23 c24 c25 c26 c27 c28 c29 c30 c31 c32 c33 c34 c35 c36 c37 c38 c39 c40 c41 c42 c43 c44 c45 c46 c47 c48 c49 c50 c51 c52 c53 c54 c55 c56 c57 c58 c59 c60 c61 c62 c63 c64 c65 c66 c67 c68 c69 c70 c71 c72 c73 c74 c75 c76 c77 c78 c79 c80 c81 c82 c83 c84 c85 c86 c87 c88 c89 c90 c91 c92 c93 c94 c95 c96 c97 c98 c99 c100 c101 c102 c103 c104 c105 c106 c107 c108 c109 c110 c111 c112 c113 c114 c115 c116 c117 c118 c119 c120 c121 c122 c123 c124 c125 c126 c127 c128 c129 c130 c131 c132 c133 c134 c135 c136 c137 c138 c139 c140 c141 c142 c143 c144 c145 c146 c147 c148 c149 c150 c151 c152 c153 c154 c155 c156 c157 c158 c159 c160 c161 c162 c163 c164 c165 c166 c167 c168 c169 c170 c171 c172 c173 c174 c175 c176 c177 c178 c179 c180 c181 c182 c183 c184 c185 c186 c187 c188 c189 c190 c191 c192 c193 c194 c195 c196 c197 c198 c199 c200 c201 c202 c203 c204 c205 c206 c207 c208 c209 c210 c211 c212 c213 c214 c215 c216 c217 c218 c219 c220 c221 c222 c223 c224 c225 c226 c227 c228 c229 c230 c231 c232 c233 c234 c235 c236 c237 c238 c239 c240 c241 c242 c243 c244 c245 c246 c247 c248 c249 : Value} {s0 s1 s2 s3 : Int} (HV : Hid (StepAt wo sb s0 s1 s2 s3)) (HB1 : Hid (PlW W wo hb rb n L L [sb])) (h3 : decide (s0 ≤ 3) = false) (h5 : decide (s0 ≤ 5) = false) (HWN : Hid (wordOf L s1 s2 = none)) (HYES : Hid (has L s1 = true)) (HNEG : Hid (¬ 0 ≤ s2)) (h6 : (s0 == 6) = false) :
    Code.wp Try.prog sw (OnNormal fun a' w' => LayP [c0, c1, c2, c3, c4, .pointer (some ⟨hb, 0, none⟩), .pointer (some ⟨rb, 0, none⟩), c7, .pointer (some ⟨sb, 0, none⟩), c17, c18, c19, c20, c21, c22, c23, c24, c25, c26, c27, c28, c29, c30] a' ∧ Hid (SwPost W hb rb n sb wo w')) { tmps := #[c0, c1, c2, c3, c4, .pointer (some ⟨hb, 0, none⟩), .pointer (some ⟨rb, 0, none⟩), c7, .pointer (some ⟨sb, 0, none⟩), c9, c10, c11, c12, c13, c14, c15, c16, c17, c18, c19, c20, c21, c22, c23, c24, c25, c26, c27, c28, c29, c30, c31, c32, c33, c34, c35, c36, c37, c38, c39, c40, c41, c42, c43, c44, c45, c46, c47, c48, c49, c50, c51, c52, c53, c54, c55, c56, c57, c58, c59, c60, c61, c62, c63, c64, c65, c66, c67, c68, c69, c70, c71, c72, c73, c74, c75, c76, c77, c78, c79, c80, c81, c82, c83, c84, c85, c86, c87, c88, c89, c90, c91, c92, c93, c94, c95, c96, c97, c98, c99, c100, c101, c102, c103, c104, c105, c106, c107, c108, c109, c110, c111, c112, c113, c114, c115, c116, c117, c118, c119, c120, c121, c122, c123, c124, c125, c126, c127, c128, c129, c130, c131, c132, c133, c134, c135, c136, c137, c138, c139, c140, c141, c142, c143, c144, c145, c146, c147, c148, c149, c150, c151, c152, c153, c154, c155, c156, c157, c158, c159, c160, c161, c162, c163, c164, c165, c166, c167, c168, c169, c170, c171, c172, c173, c174, c175, c176, c177, c178, c179, c180, c181, c182, c183, c184, c185, c186, c187, c188, c189, c190, c191, c192, c193, c194, c195, c196, c197, c198, c199, c200, c201, c202, c203, c204, c205, c206, c207, c208, c209, c210, c211, c212, c213, c214, c215, c216, c217, c218, c219, c220, c221, c222, c223, c224, c225, c226, c227, c228, c229, c230, c231, c232, c233, c234, c235, c236, c237, c238, c239, c240, c241, c242, c243, c244, c245, c246, c247, c248, c249], defers := [] } wo := by
  conv =>
    arg 2
    whnf
  obtain ⟨v0, v1, v2, v3⟩ := HV.out.cells (Kp.refl _ _)
  have E := hid (HB1.out.rfind s1)
  go_wp2_with fail
  refine E.out.mono ?_
  rintro e w5 ⟨⟨r, rfl, hr⟩, f5⟩
  obtain ⟨u0, u1, u2, u3⟩ := HV.out.cells (Kp.of0 f5)
  have H5 := hid (HB1.out.keep f5)
  have K5 : Hid (Kp [sb] wo w5) := hid (Kp.of0 f5)
  obtain ⟨i, hi, rfl, hx⟩ : ∃ (i : Nat) (h : i < L.length), r = i ∧ (L[i].at' : Int) = s1 := by
    rcases hr with ⟨_, hno⟩ | h
    · exact absurd HYES.out (by rw [hno]; exact Bool.false_ne_true)
    · exact h
  obtain ⟨vl, G, hLG, hrt⟩ := H5.out.refT
  have hgl := hrt.glen
  have hiG : i < G.length := by rw [hLG, List.length_map] at hi; exact hi
  obtain ⟨b, cap', g, aw, cw, hvl, hg, hgw, hcw, hcs, hkk⟩ := hrt.row hiG
  have hog : L[i] = g.1 := by
    have e2 : G[i] = g := Option.some.inj ((List.getElem?_eq_getElem hiG).symm.trans hg)
    simp only [hLG, List.getElem_map, e2]
  obtain ⟨d1, d2, d3⟩ := hcs w5 (Fr.refl _ _)
  obtain ⟨m, hm⟩ : ∃ m, m = G.length := ⟨_, rfl⟩
  rw [← hm] at d1 hiG hgl
  obtain ⟨z, hz⟩ : ∃ z, z = g.1.ws.length := ⟨_, rfl⟩
  rw [← hz] at d3
  have him : (i : Int) < m := by omega
  have hib : (i : Int) ≤ 1024 := by omega
  have hi0 : (0 : Int) ≤ i := by omega
  have hmx : max (i : Int) 0 = i := by omega
  have hneg : decide (0 ≤ s2) = false := by simpa using HNEG.out
  clear hi hx hvl hg hgw hcs hkk hog f5 hz hm hLG hrt
  go_wp2_with fail
  go_quiet (fail)
  go_wp2_with fail
  have EG := hid ((H5.out.keep (drewN_fr w5 nq)).own.get s1 s2)
  rw [(word_none (u := s3) HWN.out).2.2] at EG
  refine EG.out.mono ?_
  rintro e w7 ⟨rfl, q7, rfl⟩
  have HF : Hid (∀ w', Fr [] w5 w' → SwPost W hb rb n sb wo w') := hid (fun w' f => ⟨L, H5.out.keep f, K5.out.tr (Kp.of0 f)⟩)
  go_wp2_with fail
  first | (go_quiet (fail); go_wp2_with fail) | skip
  exact ⟨⟨rfl, rfl, rfl⟩, hid (HF.out _ (by repeat (first | exact Fr.refl _ _ | exact drewN_fr _ _ | refine Fr.tr ?_ (drewN_fr _ _))))⟩

set_option maxRecDepth 100000 in
set_option maxHeartbeats 8000000 in
theorem sw_neg6 {W wo : World} {hb rb n sb : Nat} {L : List Ob} {c0 c1 c2 c3 c4 c7 c9 c10 c11 c12 c13 c14 c15 c16 c17 c18 c19 c20 c21 c22 c23 c24 c25 c26 c27 c28 c29 c30 c31 c32 c33 c34 c35 c36 c37 c38 c39 c40 c41 c42 c43 c44 c45 c46 c47 c48 c49 c50 c51 c52 c53 c54 c55 c56 c57 c58 c59 c60 c61 c62 c63 c64 c65 c66 c67 c68 c69 c70 c71 c72 c73 c74 c75 c76 c77 c78 c79 c80 c81 c82 c83 c84 c85 c86 c87 c88 c89 c90 c91 c92 c93 c94 c95 c96 c97 c98 c99 c100 c101 c102 c103 c104 c105 c106 c107 c108 c109 c110 c111 c112 c113 c114 c115 c116 c117 c118 c119 c120 c121 c122 c123 c124 c125 c126 c127 c128 c129 c130 c131 c132 c133 c134 c135 c136 c137 c138 c139 c140 c141 c142 c143 c144 c145 c146 c147 c148 c149 c150 c151 c152 c153 c154 c155 c156 c157 c158 c159 c160 c161 c162 c163 c164 c165 c166 c167 c168 c169 c170 c171 c172 c173 c174 c175 c176 c177 c178 c179 c180 c181 c182 c183 c184 c185 c186 c187 c188 c189 c190 c191 c192 c193 c194 c195 c196 c197 c198 c199 c200 c201 c202 c203 c204 c205 c206 c207 c208 c209 c210 c211 c212 c213 c214 c215 c216 c217 c218 c219 c220 c221 c222 c223 c224 c225 c226 c227 c228 c229 c230 c231 c232 c233 c234 c235 c236 c237 c238 c239 c240 c241 c242 c243 c244 c245 c246 c247 c248 c249 : Value} {s0 s1 s2 s3 : Int} (HV : Hid (StepAt wo sb s0 s1 s2 s3)) (HB1 : Hid (PlW W wo hb rb n L L [sb])) (h3 : decide (s0 ≤ 3) = false) (h5 : decide (s0 ≤ 5) = false) (HWN : Hid (wordOf L s1 s2 = none)) (HYES : Hid (has L s1 = true)) (HNEG : Hid (¬ 0 ≤ s2)) (h6 : s0 = 6) :
    Code.wp Try.prog sw (OnNormal fun a' w' => LayP [c0, c1, c2, c3, c4, .pointer (some ⟨hb, 0, none⟩), .pointer (some ⟨rb, 0, none⟩), c7, .pointer (some ⟨sb, 0, none⟩), c17, c18, c19, c20, c21, c22, c23, c24, c25, c26, c27, c28, c29, c30] a' ∧ Hid (SwPost W hb rb n sb wo w')) { tmps := #[c0, c1, c2, c3, c4, .pointer (some ⟨hb, 0, none⟩), .pointer (some ⟨rb, 0, none⟩), c7, .pointer (some ⟨sb, 0, none⟩), c9, c10, c11, c12, c13, c14, c15, c16, c17, c18, c19, c20, c21, c22, c23, c24, c25, c26, c27, c28, c29, c30, c31, c32, c33, c34, c35, c36, c37, c38, c39, c40, c41, c42, c43, c44, c45, c46, c47, c48, c49, c50, c51, c52, c53, c54, c55, c56, c57, c58, c59, c60, c61, c62, c63, c64, c65, c66, c67, c68, c69, c70, c71, c72, c73, c74, c75, c76, c77, c78, c79, c80, c81, c82, c83, c84, c85, c86, c87, c88, c89, c90, c91, c92, c93, c94, c95, c96, c97, c98, c99, c100, c101, c102, c103, c104, c105, c106, c107, c108, c109, c110, c111, c112, c113, c114, c115, c116, c117, c118, c119, c120, c121, c122, c123, c124, c125, c126, c127, c128, c129, c130, c131, c132, c133, c134, c135, c136, c137, c138, c139, c140, c141, c142, c143, c144, c145, c146, c147, c148, c149, c150, c151, c152, c153, c154, c155, c156, c157, c158, c159, c160, c161, c162, c163, c164, c165, c166, c167, c168, c169, c170, c171, c172, c173, c174, c175, c176, c177, c178, c179, c180, c181, c182, c183, c184, c185, c186, c187, c188, c189, c190, c191, c192, c193, c194, c195, c196, c197, c198, c199, c200, c201, c202, c203, c204, c205, c206, c207, c208, c209, c210, c211, c212, c213, c214, c215, c216, c217, c218, c219, c220, c221, c222, c223, c224, c225, c226, c227, c228, c229, c230, c231, c232, c233, c234, c235, c236, c237, c238, c239, c240, c241, c242, c243, c244, c245, c246, c247, c248, c249], defers := [] } wo := by
  conv =>
    arg 2
    whnf
  obtain ⟨v0, v1, v2, v3⟩ := HV.out.cells (Kp.refl _ _)
  subst h6
  have E := hid (HB1.out.rfind s1)
  go_wp2_with fail
  refine E.out.mono ?_
  rintro e w5 ⟨⟨r, rfl, hr⟩, f5⟩
  obtain ⟨u0, u1, u2, u3⟩ := HV.out.cells (Kp.of0 f5)
  have H5 := hid (HB1.out.keep f5)
  have K5 : Hid (Kp [sb] wo w5) := hid (Kp.of0 f5)
  obtain ⟨i, hi, rfl, hx⟩ : ∃ (i : Nat) (h : i < L.length), r = i ∧ (L[i].at' : Int) = s1 := by
    rcases hr with ⟨_, hno⟩ | h
    · exact absurd HYES.out (by rw [hno]; exact Bool.false_ne_true)
    · exact h
  obtain ⟨vl, G, hLG, hrt⟩ := H5.out.refT
  have hgl := hrt.glen
  have hiG : i < G.length := by rw [hLG, List.length_map] at hi; exact hi
  obtain ⟨b, cap', g, aw, cw, hvl, hg, hgw, hcw, hcs, hkk⟩ := hrt.row hiG
  have hog : L[i] = g.1 := by
    have e2 : G[i] = g := Option.some.inj ((List.getElem?_eq_getElem hiG).symm.trans hg)
    simp only [hLG, List.getElem_map, e2]
  obtain ⟨d1, d2, d3⟩ := hcs w5 (Fr.refl _ _)
  obtain ⟨m, hm⟩ : ∃ m, m = G.length := ⟨_, rfl⟩
  rw [← hm] at d1 hiG hgl
  obtain ⟨z, hz⟩ : ∃ z, z = g.1.ws.length := ⟨_, rfl⟩
  rw [← hz] at d3
  have him : (i : Int) < m := by omega
  have hib : (i : Int) ≤ 1024 := by omega
  have hi0 : (0 : Int) ≤ i := by omega
  have hmx : max (i : Int) 0 = i := by omega
  have hneg : decide (0 ≤ s2) = false := by simpa using HNEG.out
  clear hi hx hvl hg hgw hcs hkk hog f5 hz hm hLG hrt
  go_wp2_with fail
  go_quiet (fail)
  go_wp2_with fail
  have EP := hid ((H5.out.keep (drewN_fr w5 nq)).hput s1 s2 s3)
  rw [(word_none (u := s3) HWN.out).1, (word_none (u := s3) HWN.out).2.1] at EP
  refine EP.out.mono ?_
  rintro e w6 ⟨rfl, h6, kp6⟩
  have K6 : Hid (Kp [sb] wo w6) := hid (K5.out.tr ((Kp.of0 (drewN_fr w5 nq)).tr kp6))
  obtain ⟨t0, t1, t2, t3⟩ := HV.out.cells K6.out
  have H6 := hid h6
  have EG := hid (h6.own.get s1 s2)
  rw [(word_none (u := s3) HWN.out).2.2] at EG
  clear h6 kp6
  go_wp2_with fail
  refine EG.out.mono ?_
  rintro e w7 ⟨rfl, q7, rfl⟩
  have HF : Hid (∀ w', Fr [] w6 w' → SwPost W hb rb n sb wo w') := hid (fun w' f => ⟨L, H6.out.keep f, K6.out.tr (Kp.of0 f)⟩)
  go_wp2_with fail
  first | (go_quiet (fail); go_wp2_with fail) | skip
  exact ⟨⟨rfl, rfl, rfl⟩, hid (HF.out _ (by repeat (first | exact Fr.refl _ _ | exact drewN_fr _ _ | refine Fr.tr ?_ (drewN_fr _ _))))⟩

set_option maxRecDepth 100000 in
set_option maxHeartbeats 8000000 in
theorem sw_big {W wo : World} {hb rb n sb : Nat} {L : List Ob} {c0 c1 c2 c3 c4 c7 c9 c10 c11 c12 c13 c14 c15 c16 c17 c18 c19 c20 c21 c22 c23 c24 c25 c26 c27 c28 c29 c30 c31 c32 c33 c34 c35 c36 c37 c38 c39 c40 c41 c42 c43 c44 c45 c46 c47 c48 c49 c50 c51 c52 c53 c54 c55 c56 c57 c58 c59 c60 c61 c62 c63 c64 c65 c66 c67 c68 c69 c70 c71 c72 c73 c74 c75 c76 c77 c78 c79 c80 c81 c82 c83 c84 c85 c86 c87 c88 c89 c90 c91 c92 c93 c94 c95 c96 c97 c98 c99 c100 c101 c102 c103 c104 c105 c106 c107 c108 c109 c110 c111 c112 c113 c114 c115 c116 c117 c118 c119 c120 c121 c122 c123 c124 c125 c126 c127 c128 c129 c130 c131 c132 c133 c134 c135 c136 c137 c138 c139 c140 c141 c142 c143 c144 c145 c146 c147 c148 c149 c150 c151 c152 c153 c154 c155 c156 c157 c158 c159 c160 c161 c162 c163 c164 c165 c166 c167 c168 c169 c170 c171 c172 c173 c174 c175 c176 c177 c178 c179 c180 c181 c182 c183 c184 c185 c186 c187 c188 c189 c190 c191 c192 c193 c194 c195 c196 c197 c198 c199 c200 c201 c202 c203 c204 c205 c206 c207 c208 c209 c210 c211 c212 c213 c214 c215 c216 c217 c218 c219 c220 c221 c222 c223 c224 c225 c226 c227 c228 c229 c230 c231 c232 c233 c234 c235 c236 c237 c238 c239 c240 c241 c242 c243 c244 c245 c246 c247 c248 c249 : Value} {s0 s1 s2 s3 : Int} (HV : Hid (StepAt wo sb s0 s1 s2 s3)) (HB1 : Hid (PlW W wo hb rb n L L [sb])) (h3 : decide (s0 ≤ 3) = false) (h5 : decide (s0 ≤ 5) = false) (HWN : Hid (wordOf L s1 s2 = none)) (HYES : Hid (has L s1 = true)) (HNN : Hid (0 ≤ s2)) (HBIG : Hid (∀ i, (h : i < L.length) → (L[i].at' : Int) = s1 → (L[i].ws.length : Int) ≤ s2)) (h6 : (s0 == 6) = false) :
    Code.wp Try.prog sw (OnNormal fun a' w' => LayP [c0, c1, c2, c3, c4, .pointer (some ⟨hb, 0, none⟩), .pointer (some ⟨rb, 0, none⟩), c7, .pointer (some ⟨sb, 0, none⟩), c17, c18, c19, c20, c21, c22, c23, c24, c25, c26, c27, c28, c29, c30] a' ∧ Hid (SwPost W hb rb n sb wo w')) { tmps := #[c0, c1, c2, c3, c4, .pointer (some ⟨hb, 0, none⟩), .pointer (some ⟨rb, 0, none⟩), c7, .pointer (some ⟨sb, 0, none⟩), c9, c10, c11, c12, c13, c14, c15, c16, c17, c18, c19, c20, c21, c22, c23, c24, c25, c26, c27, c28, c29, c30, c31, c32, c33, c34, c35, c36, c37, c38, c39, c40, c41, c42, c43, c44, c45, c46, c47, c48, c49, c50, c51, c52, c53, c54, c55, c56, c57, c58, c59, c60, c61, c62, c63, c64, c65, c66, c67, c68, c69, c70, c71, c72, c73, c74, c75, c76, c77, c78, c79, c80, c81, c82, c83, c84, c85, c86, c87, c88, c89, c90, c91, c92, c93, c94, c95, c96, c97, c98, c99, c100, c101, c102, c103, c104, c105, c106, c107, c108, c109, c110, c111, c112, c113, c114, c115, c116, c117, c118, c119, c120, c121, c122, c123, c124, c125, c126, c127, c128, c129, c130, c131, c132, c133, c134, c135, c136, c137, c138, c139, c140, c141, c142, c143, c144, c145, c146, c147, c148, c149, c150, c151, c152, c153, c154, c155, c156, c157, c158, c159, c160, c161, c162, c163, c164, c165, c166, c167, c168, c169, c170, c171, c172, c173, c174, c175, c176, c177, c178, c179, c180, c181, c182, c183, c184, c185, c186, c187, c188, c189, c190, c191, c192, c193, c194, c195, c196, c197, c198, c199, c200, c201, c202, c203, c204, c205, c206, c207, c208, c209, c210, c211, c212, c213, c214, c215, c216, c217, c218, c219, c220, c221, c222, c223, c224, c225, c226, c227, c228, c229, c230, c231, c232, c233, c234, c235, c236, c237, c238, c239, c240, c241, c242, c243, c244, c245, c246, c247, c248, c249], defers := [] } wo := by
  conv =>
    arg 2
    whnf
  obtain ⟨v0, v1, v2, v3⟩ := HV.out.cells (Kp.refl _ _)
  have E := hid (HB1.out.rfind s1)
  go_wp2_with fail
  refine E.out.mono ?_
  rintro e w5 ⟨⟨r, rfl, hr⟩, f5⟩
  obtain ⟨u0, u1, u2, u3⟩ := HV.out.cells (Kp.of0 f5)
  have H5 := hid (HB1.out.keep f5)
  have K5 : Hid (Kp [sb] wo w5) := hid (Kp.of0 f5)
  obtain ⟨i, hi, rfl, hx⟩ : ∃ (i : Nat) (h : i < L.length), r = i ∧ (L[i].at' : Int) = s1 := by
    rcases hr with ⟨_, hno⟩ | h
    · exact absurd HYES.out (by rw [hno]; exact Bool.false_ne_true)
    · exact h
  obtain ⟨vl, G, hLG, hrt⟩ := H5.out.refT
  have hgl := hrt.glen
  have hiG : i < G.length := by rw [hLG, List.length_map] at hi; exact hi
  obtain ⟨b, cap', g, aw, cw, hvl, hg, hgw, hcw, hcs, hkk⟩ := hrt.row hiG
  have hog : L[i] = g.1 := by
    have e2 : G[i] = g := Option.some.inj ((List.getElem?_eq_getElem hiG).symm.trans hg)
    simp only [hLG, List.getElem_map, e2]
  obtain ⟨d1, d2, d3⟩ := hcs w5 (Fr.refl _ _)
  obtain ⟨m, hm⟩ : ∃ m, m = G.length := ⟨_, rfl⟩
  rw [← hm] at d1 hiG hgl
  obtain ⟨z, hz⟩ : ∃ z, z = g.1.ws.length := ⟨_, rfl⟩
  rw [← hz] at d3
  have him : (i : Int) < m := by omega
  have hib : (i : Int) ≤ 1024 := by omega
  have hi0 : (0 : Int) ≤ i := by omega
  have hmx : max (i : Int) 0 = i := by omega
  have hle := HBIG.out i hi hx
  rw [hog, ← hz] at hle
  have hs0 : 0 ≤ s2 := HNN.out
  have hbig : decide (s2 < (z : Int)) = false := by simp only [decide_eq_false_iff_not]; omega
  clear hi hx hvl hg hgw hcs hkk hog f5 hz hm hLG hrt hle
  go_wp2_with fail
  go_quiet (fail)
  go_wp2_with fail
  have EG := hid ((H5.out.keep (drewN_fr w5 nq)).own.get s1 s2)
  rw [(word_none (u := s3) HWN.out).2.2] at EG
  refine EG.out.mono ?_
  rintro e w7 ⟨rfl, q7, rfl⟩
  have HF : Hid (∀ w', Fr [] w5 w' → SwPost W hb rb n sb wo w') := hid (fun w' f => ⟨L, H5.out.keep f, K5.out.tr (Kp.of0 f)⟩)
  go_wp2_with fail
  first | (go_quiet (fail); go_wp2_with fail) | skip
  exact ⟨⟨rfl, rfl, rfl⟩, hid (HF.out _ (by repeat (first | exact Fr.refl _ _ | exact drewN_fr _ _ | refine Fr.tr ?_ (drewN_fr _ _))))⟩

set_option maxRecDepth 100000 in
set_option maxHeartbeats 8000000 in
theorem sw_big6 {W wo : World} {hb rb n sb : Nat} {L : List Ob} {c0 c1 c2 c3 c4 c7 c9 c10 c11 c12 c13 c14 c15 c16 c17 c18 c19 c20 c21 c22 c23 c24 c25 c26 c27 c28 c29 c30 c31 c32 c33 c34 c35 c36 c37 c38 c39 c40 c41 c42 c43 c44 c45 c46 c47 c48 c49 c50 c51 c52 c53 c54 c55 c56 c57 c58 c59 c60 c61 c62 c63 c64 c65 c66 c67 c68 c69 c70 c71 c72 c73 c74 c75 c76 c77 c78 c79 c80 c81 c82 c83 c84 c85 c86 c87 c88 c89 c90 c91 c92 c93 c94 c95 c96 c97 c98 c99 c100 c101 c102 c103 c104 c105 c106 c107 c108 c109 c110 c111 c112 c113 c114 c115 c116 c117 c118 c119 c120 c121 c122 c123 c124 c125 c126 c127 c128 c129 c130 c131 c132 c133 c134 c135 c136 c137 c138 c139 c140 c141 c142 c143 c144 c145 c146 c147 c148 c149 c150 c151 c152 c153 c154 c155 c156 c157 c158 c159 c160 c161 c162 c163 c164 c165 c166 c167 c168 c169 c170 c171 c172 c173 c174 c175 c176 c177 c178 c179 c180 c181 c182 c183 c184 c185 c186 c187 c188 c189 c190 c191 c192 c193 c194 c195 c196 c197 c198 c199 c200 c201 c202 c203 c204 c205 c206 c207 c208 c209 c210 c211 c212 c213 c214 c215 c216 c217 c218 c219 c220 c221 c222 c223 c224 c225 c226 c227 c228 c229 c230 c231 c232 c233 c234 c235 c236 c237 c238 c239 c240 c241 c242 c243 c244 c245 c246 c247 c248 c249 : Value} {s0 s1 s2 s3 : Int} (HV : Hid (StepAt wo sb s0 s1 s2 s3)) (HB1 : Hid (PlW W wo hb rb n L L [sb])) (h3 : decide (s0 ≤ 3) = false) (h5 : decide (s0 ≤ 5) = false) (HWN : Hid (wordOf L s1 s2 = none)) (HYES : Hid (has L s1 = true)) (HNN : Hid (0 ≤ s2)) (HBIG : Hid (∀ i, (h : i < L.length) → (L[i].at' : Int) = s1 → (L[i].ws.length : Int) ≤ s2)) (h6 : s0 = 6) :
    Code.wp Try.prog sw (OnNormal fun a' w' => LayP [c0, c1, c2, c3, c4, .pointer (some ⟨hb, 0, none⟩), .pointer (some ⟨rb, 0, none⟩), c7, .pointer (some ⟨sb, 0, none⟩), c17, c18, c19, c20, c21, c22, c23, c24, c25, c26, c27, c28, c29, c30] a' ∧ Hid (SwPost W hb rb n sb wo w')) { tmps := #[c0, c1, c2, c3, c4, .pointer (some ⟨hb, 0, none⟩), .pointer (some ⟨rb, 0, none⟩), c7, .pointer (some ⟨sb, 0, none⟩), c9, c10, c11, c12, c13, c14, c15, c16, c17, c18, c19, c20, c21, c22, c23, c24, c25, c26, c27, c28, c29, c30, c31, c32, c33, c34, c35, c36, c37, c38, c39, c40, c41, c42, c43, c44, c45, c46, c47, c48, c49, c50, c51, c52, c53, c54, c55, c56, c57, c58, c59, c60, c61, c62, c63, c64, c65, c66, c67, c68, c69, c70, c71, c72, c73, c74, c75, c76, c77, c78, c79, c80, c81, c82, c83, c84, c85, c86, c87, c88, c89, c90, c91, c92, c93, c94, c95, c96, c97, c98, c99, c100, c101, c102, c103, c104, c105, c106, c107, c108, c109, c110, c111, c112, c113, c114, c115, c116, c117, c118, c119, c120, c121, c122, c123, c124, c125, c126, c127, c128, c129, c130, c131, c132, c133, c134, c135, c136, c137, c138, c139, c140, c141, c142, c143, c144, c145, c146, c147, c148, c149, c150, c151, c152, c153, c154, c155, c156, c157, c158, c159, c160, c161, c162, c163, c164, c165, c166, c167, c168, c169, c170, c171, c172, c173, c174, c175, c176, c177, c178, c179, c180, c181, c182, c183, c184, c185, c186, c187, c188, c189, c190, c191, c192, c193, c194, c195, c196, c197, c198, c199, c200, c201, c202, c203, c204, c205, c206, c207, c208, c209, c210, c211, c212, c213, c214, c215, c216, c217, c218, c219, c220, c221, c222, c223, c224, c225, c226, c227, c228, c229, c230, c231, c232, c233, c234, c235, c236, c237, c238, c239, c240, c241, c242, c243, c244, c245, c246, c247, c248, c249], defers := [] } wo := by
  conv =>
    arg 2
    whnf
  obtain ⟨v0, v1, v2, v3⟩ := HV.out.cells (Kp.refl _ _)
  subst h6
  have E := hid (HB1.out.rfind s1)
  go_wp2_with fail
  refine E.out.mono ?_
  rintro e w5 ⟨⟨r, rfl, hr⟩, f5⟩
  obtain ⟨u0, u1, u2, u3⟩ := HV.out.cells (Kp.of0 f5)
  have H5 := hid (HB1.out.keep f5)
  have K5 : Hid (Kp [sb] wo w5) := hid (Kp.of0 f5)
  obtain ⟨i, hi, rfl, hx⟩ : ∃ (i : Nat) (h : i < L.length), r = i ∧ (L[i].at' : Int) = s1 := by
    rcases hr with ⟨_, hno⟩ | h
    · exact absurd HYES.out (by rw [hno]; exact Bool.false_ne_true)
    · exact h
  obtain ⟨vl, G, hLG, hrt⟩ := H5.out.refT
  have hgl := hrt.glen
  have hiG : i < G.length := by rw [hLG, List.length_map] at hi; exact hi
  obtain ⟨b, cap', g, aw, cw, hvl, hg, hgw, hcw, hcs, hkk⟩ := hrt.row hiG
  have hog : L[i] = g.1 := by
    have e2 : G[i] = g := Option.some.inj ((List.getElem?_eq_getElem hiG).symm.trans hg)
    simp only [hLG, List.getElem_map, e2]
  obtain ⟨d1, d2, d3⟩ := hcs w5 (Fr.refl _ _)
  obtain ⟨m, hm⟩ : ∃ m, m = G.length := ⟨_, rfl⟩
  rw [← hm] at d1 hiG hgl
  obtain ⟨z, hz⟩ : ∃ z, z = g.1.ws.length := ⟨_, rfl⟩
  rw [← hz] at d3
  have him : (i : Int) < m := by omega
  have hib : (i : Int) ≤ 1024 := by omega
  have hi0 : (0 : Int) ≤ i := by omega
  have hmx : max (i : Int) 0 = i := by omega
  have hle := HBIG.out i hi hx
  rw [hog, ← hz] at hle
  have hs0 : 0 ≤ s2 := HNN.out
  have hbig : decide (s2 < (z : Int)) = false := by simp only [decide_eq_false_iff_not]; omega
  clear hi hx hvl hg hgw hcs hkk hog f5 hz hm hLG hrt hle
  go_wp2_with fail
  go_quiet (fail)
  go_wp2_with fail
  have EP := hid ((H5.out.keep (drewN_fr w5 nq)).hput s1 s2 s3)
  rw [(word_none (u := s3) HWN.out).1, (word_none (u := s3) HWN.out).2.1] at EP
  refine EP.out.mono ?_
  rintro e w6 ⟨rfl, h6, kp6⟩
  have K6 : Hid (Kp [sb] wo w6) := hid (K5.out.tr ((Kp.of0 (drewN_fr w5 nq)).tr kp6))
  obtain ⟨t0, t1, t2, t3⟩ := HV.out.cells K6.out
  have H6 := hid h6
  have EG := hid (h6.own.get s1 s2)
  rw [(word_none (u := s3) HWN.out).2.2] at EG
  clear h6 kp6
  go_wp2_with fail
  refine EG.out.mono ?_
  rintro e w7 ⟨rfl, q7, rfl⟩
  have HF : Hid (∀ w', Fr [] w6 w' → SwPost W hb rb n sb wo w') := hid (fun w' f => ⟨L, H6.out.keep f, K6.out.tr (Kp.of0 f)⟩)
  go_wp2_with fail
  first | (go_quiet (fail); go_wp2_with fail) | skip
  exact ⟨⟨rfl, rfl, rfl⟩, hid (HF.out _ (by repeat (first | exact Fr.refl _ _ | exact drewN_fr _ _ | refine Fr.tr ?_ (drewN_fr _ _))))⟩


end Go.Proofs.Ytgakkkifohkikaa
