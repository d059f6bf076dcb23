/-
  HeapPlays: a round that asks for an object, or releases one.
-/
import Derived.Test.YtgakkkifohkikaaPlayS
import Derived.Deep.Cut
import Derived.Deep.CutRange
import Derived.BigQuiet
namespace Go.Proofs.Ytgakkkifohkikaa
open Go.RowKit

set_option maxRecDepth 100000 in
set_option maxHeartbeats 8000000 in
theorem sw_bad {W wo : World} {hb rb n sb : Nat} {L : List Ob} {c0 c1 c2 c3 c4 c7 c9 c10 c11 c12 c13 c14 c15 c16 c17 c18 c19 c20 c21 c22 c23 c24 c25 c26 c27 c28 c29 c30 c31 c32 c33 c34 c35 c36 c37 c38 c39 c40 c41 c42 c43 c44 c45 c46 c47 c48 c49 c50 c51 c52 c53 c54 c55 c56 c57 c58 c59 c60 c61 c62 c63 c64 c65 c66 c67 c68 c69 c70 c71 c72 c73 c74 c75 c76 c77 c78 c79 c80 c81 c82 c83 c84 c85 c86 c87 c88 c89 c90 c91 c92 c93 c94 c95 c96 c97 c98 c99 c100 c101 c102 c103 c104 c105 c106 c107 c108 c109 c110 c111 c112 c113 c114 c115 c116 c117 c118 c119 c120 c121 c122 c123 c124 c125 c126 c127 c128 c129 c130 c131 c132 c133 c134 c135 c136 c137 c138 c139 c140 c141 c142 c143 c144 c145 c146 c147 c148 c149 c150 c151 c152 c153 c154 c155 c156 c157 c158 c159 c160 c161 c162 c163 c164 c165 c166 c167 c168 c169 c170 c171 c172 c173 c174 c175 c176 c177 c178 c179 c180 c181 c182 c183 c184 c185 c186 c187 c188 c189 c190 c191 c192 c193 c194 c195 c196 c197 c198 c199 c200 c201 c202 c203 c204 c205 c206 c207 c208 c209 c210 c211 c212 c213 c214 c215 c216 c217 c218 c219 c220 c221 c222 c223 c224 c225 c226 c227 c228 c229 c230 c231 c232 c233 c234 c235 c236 c237 c238 c239 c240 c241 c242 c243 c244 c245 c246 c247 c248 c249 : Value} {s0 s1 s2 s3 : Int} (HV : Hid (StepAt wo sb s0 s1 s2 s3)) (HB1 : Hid (PlW W wo hb rb n L L [sb])) (h3 : s0 ≤ 3) (HBAD : Hid (s1 < 0 ∨ s2 < 0)) :
    Code.wp Try.prog sw (OnNormal fun a' w' => LayP [c0, c1, c2, c3, c4, .pointer (some ⟨hb, 0, none⟩), .pointer (some ⟨rb, 0, none⟩), c7, .pointer (some ⟨sb, 0, none⟩), c17, c18, c19, c20, c21, c22, c23, c24, c25, c26, c27, c28, c29, c30] a' ∧ Hid (SwPost W hb rb n sb wo w')) { tmps := #[c0, c1, c2, c3, c4, .pointer (some ⟨hb, 0, none⟩), .pointer (some ⟨rb, 0, none⟩), c7, .pointer (some ⟨sb, 0, none⟩), c9, c10, c11, c12, c13, c14, c15, c16, c17, c18, c19, c20, c21, c22, c23, c24, c25, c26, c27, c28, c29, c30, c31, c32, c33, c34, c35, c36, c37, c38, c39, c40, c41, c42, c43, c44, c45, c46, c47, c48, c49, c50, c51, c52, c53, c54, c55, c56, c57, c58, c59, c60, c61, c62, c63, c64, c65, c66, c67, c68, c69, c70, c71, c72, c73, c74, c75, c76, c77, c78, c79, c80, c81, c82, c83, c84, c85, c86, c87, c88, c89, c90, c91, c92, c93, c94, c95, c96, c97, c98, c99, c100, c101, c102, c103, c104, c105, c106, c107, c108, c109, c110, c111, c112, c113, c114, c115, c116, c117, c118, c119, c120, c121, c122, c123, c124, c125, c126, c127, c128, c129, c130, c131, c132, c133, c134, c135, c136, c137, c138, c139, c140, c141, c142, c143, c144, c145, c146, c147, c148, c149, c150, c151, c152, c153, c154, c155, c156, c157, c158, c159, c160, c161, c162, c163, c164, c165, c166, c167, c168, c169, c170, c171, c172, c173, c174, c175, c176, c177, c178, c179, c180, c181, c182, c183, c184, c185, c186, c187, c188, c189, c190, c191, c192, c193, c194, c195, c196, c197, c198, c199, c200, c201, c202, c203, c204, c205, c206, c207, c208, c209, c210, c211, c212, c213, c214, c215, c216, c217, c218, c219, c220, c221, c222, c223, c224, c225, c226, c227, c228, c229, c230, c231, c232, c233, c234, c235, c236, c237, c238, c239, c240, c241, c242, c243, c244, c245, c246, c247, c248, c249], defers := [] } wo := by
  conv =>
    arg 2
    whnf
  obtain ⟨v0, v1, v2, v3⟩ := HV.out.cells (Kp.refl _ _)
  have E1 := hid (HB1.out.halloc_bad s1 s2 HBAD.out)
  go_wp2_with fail
  refine E1.out.mono ?_
  rintro e w5 ⟨rfl, h5, kp5⟩
  obtain ⟨_, u1, u2, _⟩ := HV.out.cells kp5
  have E2 := hid (h5.ralloc_bad s1 s2 HBAD.out)
  have K5 := hid kp5
  clear h5 kp5
  go_wp2_with fail
  refine E2.out.mono ?_
  rintro e w6 ⟨rfl, h6, kp6⟩
  have HF : Hid (SwPost W hb rb n sb wo w6) := hid ⟨L, h6, K5.out.tr kp6⟩
  clear h6 kp6
  go_wp2_with fail
  exact ⟨⟨rfl, rfl, rfl⟩, HF⟩

set_option maxRecDepth 100000 in
set_option maxHeartbeats 8000000 in
theorem sw_none {W wo : World} {hb rb n sb : Nat} {L : List Ob} {c0 c1 c2 c3 c4 c7 c9 c10 c11 c12 c13 c14 c15 c16 c17 c18 c19 c20 c21 c22 c23 c24 c25 c26 c27 c28 c29 c30 c31 c32 c33 c34 c35 c36 c37 c38 c39 c40 c41 c42 c43 c44 c45 c46 c47 c48 c49 c50 c51 c52 c53 c54 c55 c56 c57 c58 c59 c60 c61 c62 c63 c64 c65 c66 c67 c68 c69 c70 c71 c72 c73 c74 c75 c76 c77 c78 c79 c80 c81 c82 c83 c84 c85 c86 c87 c88 c89 c90 c91 c92 c93 c94 c95 c96 c97 c98 c99 c100 c101 c102 c103 c104 c105 c106 c107 c108 c109 c110 c111 c112 c113 c114 c115 c116 c117 c118 c119 c120 c121 c122 c123 c124 c125 c126 c127 c128 c129 c130 c131 c132 c133 c134 c135 c136 c137 c138 c139 c140 c141 c142 c143 c144 c145 c146 c147 c148 c149 c150 c151 c152 c153 c154 c155 c156 c157 c158 c159 c160 c161 c162 c163 c164 c165 c166 c167 c168 c169 c170 c171 c172 c173 c174 c175 c176 c177 c178 c179 c180 c181 c182 c183 c184 c185 c186 c187 c188 c189 c190 c191 c192 c193 c194 c195 c196 c197 c198 c199 c200 c201 c202 c203 c204 c205 c206 c207 c208 c209 c210 c211 c212 c213 c214 c215 c216 c217 c218 c219 c220 c221 c222 c223 c224 c225 c226 c227 c228 c229 c230 c231 c232 c233 c234 c235 c236 c237 c238 c239 c240 c241 c242 c243 c244 c245 c246 c247 c248 c249 : Value} {s0 s3 : Int} {c z : Nat} (HV : Hid (StepAt wo sb s0 c z s3)) (HB1 : Hid (PlW W wo hb rb n L L [sb])) (h3 : s0 ≤ 3) (HS1 : Hid ((c : Int) ≤ 9223372036854775807)) (HAL : Hid (arAlloc n L c z = none)) :
    Code.wp Try.prog sw (OnNormal fun a' w' => LayP [c0, c1, c2, c3, c4, .pointer (some ⟨hb, 0, none⟩), .pointer (some ⟨rb, 0, none⟩), c7, .pointer (some ⟨sb, 0, none⟩), c17, c18, c19, c20, c21, c22, c23, c24, c25, c26, c27, c28, c29, c30] a' ∧ Hid (SwPost W hb rb n sb wo w')) { tmps := #[c0, c1, c2, c3, c4, .pointer (some ⟨hb, 0, none⟩), .pointer (some ⟨rb, 0, none⟩), c7, .pointer (some ⟨sb, 0, none⟩), c9, c10, c11, c12, c13, c14, c15, c16, c17, c18, c19, c20, c21, c22, c23, c24, c25, c26, c27, c28, c29, c30, c31, c32, c33, c34, c35, c36, c37, c38, c39, c40, c41, c42, c43, c44, c45, c46, c47, c48, c49, c50, c51, c52, c53, c54, c55, c56, c57, c58, c59, c60, c61, c62, c63, c64, c65, c66, c67, c68, c69, c70, c71, c72, c73, c74, c75, c76, c77, c78, c79, c80, c81, c82, c83, c84, c85, c86, c87, c88, c89, c90, c91, c92, c93, c94, c95, c96, c97, c98, c99, c100, c101, c102, c103, c104, c105, c106, c107, c108, c109, c110, c111, c112, c113, c114, c115, c116, c117, c118, c119, c120, c121, c122, c123, c124, c125, c126, c127, c128, c129, c130, c131, c132, c133, c134, c135, c136, c137, c138, c139, c140, c141, c142, c143, c144, c145, c146, c147, c148, c149, c150, c151, c152, c153, c154, c155, c156, c157, c158, c159, c160, c161, c162, c163, c164, c165, c166, c167, c168, c169, c170, c171, c172, c173, c174, c175, c176, c177, c178, c179, c180, c181, c182, c183, c184, c185, c186, c187, c188, c189, c190, c191, c192, c193, c194, c195, c196, c197, c198, c199, c200, c201, c202, c203, c204, c205, c206, c207, c208, c209, c210, c211, c212, c213, c214, c215, c216, c217, c218, c219, c220, c221, c222, c223, c224, c225, c226, c227, c228, c229, c230, c231, c232, c233, c234, c235, c236, c237, c238, c239, c240, c241, c242, c243, c244, c245, c246, c247, c248, c249], defers := [] } wo := by
  conv =>
    arg 2
    whnf
  obtain ⟨v0, v1, v2, v3⟩ := HV.out.cells (Kp.refl _ _)
  have hn1 : decide ((c : Int) < 0) = false := by simp
  have E1 := hid (HB1.out.halloc_no c z HS1.out HAL.out)
  go_wp2_with fail
  refine E1.out.mono ?_
  rintro e w5 ⟨rfl, h5, kp5⟩
  obtain ⟨_, u1, u2, _⟩ := HV.out.cells kp5
  have E2 := hid (h5.ralloc_no c z HAL.out)
  have K5 := hid kp5
  clear h5 kp5
  go_wp2_with fail
  refine E2.out.mono ?_
  rintro e w6 ⟨rfl, h6, kp6⟩
  have HF : Hid (SwPost W hb rb n sb wo w6) := hid ⟨L, h6, K5.out.tr kp6⟩
  clear h6 kp6
  go_wp2_with fail
  exact ⟨⟨rfl, rfl, rfl⟩, HF⟩

set_option maxRecDepth 100000 in
set_option maxHeartbeats 8000000 in
theorem sw_some {W wo : World} {hb rb n sb : Nat} {L : List Ob} {c0 c1 c2 c3 c4 c7 c9 c10 c11 c12 c13 c14 c15 c16 c17 c18 c19 c20 c21 c22 c23 c24 c25 c26 c27 c28 c29 c30 c31 c32 c33 c34 c35 c36 c37 c38 c39 c40 c41 c42 c43 c44 c45 c46 c47 c48 c49 c50 c51 c52 c53 c54 c55 c56 c57 c58 c59 c60 c61 c62 c63 c64 c65 c66 c67 c68 c69 c70 c71 c72 c73 c74 c75 c76 c77 c78 c79 c80 c81 c82 c83 c84 c85 c86 c87 c88 c89 c90 c91 c92 c93 c94 c95 c96 c97 c98 c99 c100 c101 c102 c103 c104 c105 c106 c107 c108 c109 c110 c111 c112 c113 c114 c115 c116 c117 c118 c119 c120 c121 c122 c123 c124 c125 c126 c127 c128 c129 c130 c131 c132 c133 c134 c135 c136 c137 c138 c139 c140 c141 c142 c143 c144 c145 c146 c147 c148 c149 c150 c151 c152 c153 c154 c155 c156 c157 c158 c159 c160 c161 c162 c163 c164 c165 c166 c167 c168 c169 c170 c171 c172 c173 c174 c175 c176 c177 c178 c179 c180 c181 c182 c183 c184 c185 c186 c187 c188 c189 c190 c191 c192 c193 c194 c195 c196 c197 c198 c199 c200 c201 c202 c203 c204 c205 c206 c207 c208 c209 c210 c211 c212 c213 c214 c215 c216 c217 c218 c219 c220 c221 c222 c223 c224 c225 c226 c227 c228 c229 c230 c231 c232 c233 c234 c235 c236 c237 c238 c239 c240 c241 c242 c243 c244 c245 c246 c247 c248 c249 : Value} {s0 s3 : Int} {c z : Nat} (HV : Hid (StepAt wo sb s0 c z s3)) (HB1 : Hid (PlW W wo hb rb n L L [sb])) (h3 : s0 ≤ 3) (HS1 : Hid ((c : Int) ≤ 9223372036854775807)) {x : Nat} {L' : List Ob} (HAL : Hid (arAlloc n L c z = some (x, L'))) :
    Code.wp Try.prog sw (OnNormal fun a' w' => LayP [c0, c1, c2, c3, c4, .pointer (some ⟨hb, 0, none⟩), .pointer (some ⟨rb, 0, none⟩), c7, .pointer (some ⟨sb, 0, none⟩), c17, c18, c19, c20, c21, c22, c23, c24, c25, c26, c27, c28, c29, c30] a' ∧ Hid (SwPost W hb rb n sb wo w')) { tmps := #[c0, c1, c2, c3, c4, .pointer (some ⟨hb, 0, none⟩), .pointer (some ⟨rb, 0, none⟩), c7, .pointer (some ⟨sb, 0, none⟩), c9, c10, c11, c12, c13, c14, c15, c16, c17, c18, c19, c20, c21, c22, c23, c24, c25, c26, c27, c28, c29, c30, c31, c32, c33, c34, c35, c36, c37, c38, c39, c40, c41, c42, c43, c44, c45, c46, c47, c48, c49, c50, c51, c52, c53, c54, c55, c56, c57, c58, c59, c60, c61, c62, c63, c64, c65, c66, c67, c68, c69, c70, c71, c72, c73, c74, c75, c76, c77, c78, c79, c80, c81, c82, c83, c84, c85, c86, c87, c88, c89, c90, c91, c92, c93, c94, c95, c96, c97, c98, c99, c100, c101, c102, c103, c104, c105, c106, c107, c108, c109, c110, c111, c112, c113, c114, c115, c116, c117, c118, c119, c120, c121, c122, c123, c124, c125, c126, c127, c128, c129, c130, c131, c132, c133, c134, c135, c136, c137, c138, c139, c140, c141, c142, c143, c144, c145, c146, c147, c148, c149, c150, c151, c152, c153, c154, c155, c156, c157, c158, c159, c160, c161, c162, c163, c164, c165, c166, c167, c168, c169, c170, c171, c172, c173, c174, c175, c176, c177, c178, c179, c180, c181, c182, c183, c184, c185, c186, c187, c188, c189, c190, c191, c192, c193, c194, c195, c196, c197, c198, c199, c200, c201, c202, c203, c204, c205, c206, c207, c208, c209, c210, c211, c212, c213, c214, c215, c216, c217, c218, c219, c220, c221, c222, c223, c224, c225, c226, c227, c228, c229, c230, c231, c232, c233, c234, c235, c236, c237, c238, c239, c240, c241, c242, c243, c244, c245, c246, c247, c248, c249], defers := [] } wo := by
  conv =>
    arg 2
    whnf
  obtain ⟨v0, v1, v2, v3⟩ := HV.out.cells (Kp.refl _ _)
  have E1 := hid (HB1.out.halloc c z HS1.out HAL.out)
  go_wp2_with fail
  refine E1.out.mono ?_
  rintro e w5 ⟨rfl, h5, kp5⟩
  obtain ⟨_, u1, u2, _⟩ := HV.out.cells kp5
  have E2 := hid (h5.ralloc c z HAL.out)
  have K5 := hid kp5
  clear h5 kp5
  go_wp2_with fail
  refine E2.out.mono ?_
  rintro e w6 ⟨rfl, h6, kp6⟩
  have HF : Hid (SwPost W hb rb n sb wo w6) := hid ⟨L', h6, K5.out.tr kp6⟩
  clear h6 kp6
  go_wp2_with fail
  exact ⟨⟨rfl, rfl, rfl⟩, HF⟩

set_option maxRecDepth 100000 in
set_option maxHeartbeats 8000000 in
theorem sw_rel {W wo : World} {hb rb n sb : Nat} {L : List Ob} {c0 c1 c2 c3 c4 c7 c9 c10 c11 c12 c13 c14 c15 c16 c17 c18 c19 c20 c21 c22 c23 c24 c25 c26 c27 c28 c29 c30 c31 c32 c33 c34 c35 c36 c37 c38 c39 c40 c41 c42 c43 c44 c45 c46 c47 c48 c49 c50 c51 c52 c53 c54 c55 c56 c57 c58 c59 c60 c61 c62 c63 c64 c65 c66 c67 c68 c69 c70 c71 c72 c73 c74 c75 c76 c77 c78 c79 c80 c81 c82 c83 c84 c85 c86 c87 c88 c89 c90 c91 c92 c93 c94 c95 c96 c97 c98 c99 c100 c101 c102 c103 c104 c105 c106 c107 c108 c109 c110 c111 c112 c113 c114 c115 c116 c117 c118 c119 c120 c121 c122 c123 c124 c125 c126 c127 c128 c129 c130 c131 c132 c133 c134 c135 c136 c137 c138 c139 c140 c141 c142 c143 c144 c145 c146 c147 c148 c149 c150 c151 c152 c153 c154 c155 c156 c157 c158 c159 c160 c161 c162 c163 c164 c165 c166 c167 c168 c169 c170 c171 c172 c173 c174 c175 c176 c177 c178 c179 c180 c181 c182 c183 c184 c185 c186 c187 c188 c189 c190 c191 c192 c193 c194 c195 c196 c197 c198 c199 c200 c201 c202 c203 c204 c205 c206 c207 c208 c209 c210 c211 c212 c213 c214 c215 c216 c217 c218 c219 c220 c221 c222 c223 c224 c225 c226 c227 c228 c229 c230 c231 c232 c233 c234 c235 c236 c237 c238 c239 c240 c241 c242 c243 c244 c245 c246 c247 c248 c249 : Value} {s0 s1 s2 s3 : Int} (HV : Hid (StepAt wo sb s0 s1 s2 s3)) (HB1 : Hid (PlW W wo hb rb n L L [sb])) (h3 : decide (s0 ≤ 3) = false) (h5 : s0 ≤ 5) :
    Code.wp Try.prog sw (OnNormal fun a' w' => LayP [c0, c1, c2, c3, c4, .pointer (some ⟨hb, 0, none⟩), .pointer (some ⟨rb, 0, none⟩), c7, .pointer (some ⟨sb, 0, none⟩), c17, c18, c19, c20, c21, c22, c23, c24, c25, c26, c27, c28, c29, c30] a' ∧ Hid (SwPost W hb rb n sb wo w')) { tmps := #[c0, c1, c2, c3, c4, .pointer (some ⟨hb, 0, none⟩), .pointer (some ⟨rb, 0, none⟩), c7, .pointer (some ⟨sb, 0, none⟩), c9, c10, c11, c12, c13, c14, c15, c16, c17, c18, c19, c20, c21, c22, c23, c24, c25, c26, c27, c28, c29, c30, c31, c32, c33, c34, c35, c36, c37, c38, c39, c40, c41, c42, c43, c44, c45, c46, c47, c48, c49, c50, c51, c52, c53, c54, c55, c56, c57, c58, c59, c60, c61, c62, c63, c64, c65, c66, c67, c68, c69, c70, c71, c72, c73, c74, c75, c76, c77, c78, c79, c80, c81, c82, c83, c84, c85, c86, c87, c88, c89, c90, c91, c92, c93, c94, c95, c96, c97, c98, c99, c100, c101, c102, c103, c104, c105, c106, c107, c108, c109, c110, c111, c112, c113, c114, c115, c116, c117, c118, c119, c120, c121, c122, c123, c124, c125, c126, c127, c128, c129, c130, c131, c132, c133, c134, c135, c136, c137, c138, c139, c140, c141, c142, c143, c144, c145, c146, c147, c148, c149, c150, c151, c152, c153, c154, c155, c156, c157, c158, c159, c160, c161, c162, c163, c164, c165, c166, c167, c168, c169, c170, c171, c172, c173, c174, c175, c176, c177, c178, c179, c180, c181, c182, c183, c184, c185, c186, c187, c188, c189, c190, c191, c192, c193, c194, c195, c196, c197, c198, c199, c200, c201, c202, c203, c204, c205, c206, c207, c208, c209, c210, c211, c212, c213, c214, c215, c216, c217, c218, c219, c220, c221, c222, c223, c224, c225, c226, c227, c228, c229, c230, c231, c232, c233, c234, c235, c236, c237, c238, c239, c240, c241, c242, c243, c244, c245, c246, c247, c248, c249], defers := [] } wo := by
  conv =>
    arg 2
    whnf
  obtain ⟨v0, v1, v2, v3⟩ := HV.out.cells (Kp.refl _ _)
  go_wp2_with fail
  go_region_with (first | (go_at_call 15; refine ((HB1.out.keep (by first | exact Fr.refl _ _ | exact (Fr.refl _ _).drew)).hrelease s1).mono ?_; rintro e w6 ⟨rfl, h6, kp6⟩; have K6 : Hid (Kp [sb] wo w6) := hid (Kp.tr (Kp.of0 (by first | exact Fr.refl _ _ | exact (Fr.refl _ _).drew)) kp6); obtain ⟨_, u1, _, _⟩ := HV.out.cells K6.out; have H6 := hid h6; clear h6 kp6) | (go_at_call 25; refine ((H6.out.keep (by first | exact Fr.refl _ _ | exact (Fr.refl _ _).drew)).rrelease s1).mono ?_; rintro e w7 ⟨rfl, h7, kp7⟩; have HF : Hid (PlW W w7 hb rb n (relL L s1) (relL L s1) [sb] ∧ Kp [sb] wo w7) := hid ⟨h7, K6.out.tr (Kp.tr (Kp.of0 (by first | exact Fr.refl _ _ | exact (Fr.refl _ _).drew)) kp7)⟩; clear h7 kp7))
  all_goals
    go_wp2_with fail
    exact ⟨⟨rfl, rfl, rfl⟩, hid (by first | exact ⟨relL L s1, HF.out⟩ | exact ⟨relL L s1, HF.out.1.keep ((Fr.refl _ _).drew), HF.out.2.tr (Kp.of0 ((Fr.refl _ _).drew))⟩)⟩


end Go.Proofs.Ytgakkkifohkikaa
