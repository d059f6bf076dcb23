/-
  HeapPlays: the switch of a round, whole.
-/
import Derived.Test.YtgakkkifohkikaaPlayT
import Derived.Test.YtgakkkifohkikaaPlayU
import Derived.Test.YtgakkkifohkikaaPlayX
namespace Go.Proofs.Ytgakkkifohkikaa
open Go.RowKit

set_option maxRecDepth 100000 in
set_option maxHeartbeats 8000000 in
theorem sw_all {W wo : World} {hb rb n sb : Nat} {L : List Ob} {c0 c1 c2 c3 c4 c7 c9 c10 c11 c12 c13 c14 c15 c16 c17 c18 c19 c20 c21 c22 c23 c24 c25 c26 c27 c28 c29 c30 c31 c32 c33 c34 c35 c36 c37 c38 c39 c40 c41 c42 c43 c44 c45 c46 c47 c48 c49 c50 c51 c52 c53 c54 c55 c56 c57 c58 c59 c60 c61 c62 c63 c64 c65 c66 c67 c68 c69 c70 c71 c72 c73 c74 c75 c76 c77 c78 c79 c80 c81 c82 c83 c84 c85 c86 c87 c88 c89 c90 c91 c92 c93 c94 c95 c96 c97 c98 c99 c100 c101 c102 c103 c104 c105 c106 c107 c108 c109 c110 c111 c112 c113 c114 c115 c116 c117 c118 c119 c120 c121 c122 c123 c124 c125 c126 c127 c128 c129 c130 c131 c132 c133 c134 c135 c136 c137 c138 c139 c140 c141 c142 c143 c144 c145 c146 c147 c148 c149 c150 c151 c152 c153 c154 c155 c156 c157 c158 c159 c160 c161 c162 c163 c164 c165 c166 c167 c168 c169 c170 c171 c172 c173 c174 c175 c176 c177 c178 c179 c180 c181 c182 c183 c184 c185 c186 c187 c188 c189 c190 c191 c192 c193 c194 c195 c196 c197 c198 c199 c200 c201 c202 c203 c204 c205 c206 c207 c208 c209 c210 c211 c212 c213 c214 c215 c216 c217 c218 c219 c220 c221 c222 c223 c224 c225 c226 c227 c228 c229 c230 c231 c232 c233 c234 c235 c236 c237 c238 c239 c240 c241 c242 c243 c244 c245 c246 c247 c248 c249 : Value} {s0 s1 s2 s3 : Int} (HV : Hid (StepAt wo sb s0 s1 s2 s3)) (HB1 : Hid (PlW W wo hb rb n L L [sb])) (HS1 : Hid (s1 ≤ 9223372036854775807)) :
    Code.wp Try.prog sw (OnNormal fun a' w' => LayP [c0, c1, c2, c3, c4, .pointer (some ⟨hb, 0, none⟩), .pointer (some ⟨rb, 0, none⟩), c7, .pointer (some ⟨sb, 0, none⟩), c17, c18, c19, c20, c21, c22, c23, c24, c25, c26, c27, c28, c29, c30] a' ∧ Hid (SwPost W hb rb n sb wo w')) { tmps := #[c0, c1, c2, c3, c4, .pointer (some ⟨hb, 0, none⟩), .pointer (some ⟨rb, 0, none⟩), c7, .pointer (some ⟨sb, 0, none⟩), c9, c10, c11, c12, c13, c14, c15, c16, c17, c18, c19, c20, c21, c22, c23, c24, c25, c26, c27, c28, c29, c30, c31, c32, c33, c34, c35, c36, c37, c38, c39, c40, c41, c42, c43, c44, c45, c46, c47, c48, c49, c50, c51, c52, c53, c54, c55, c56, c57, c58, c59, c60, c61, c62, c63, c64, c65, c66, c67, c68, c69, c70, c71, c72, c73, c74, c75, c76, c77, c78, c79, c80, c81, c82, c83, c84, c85, c86, c87, c88, c89, c90, c91, c92, c93, c94, c95, c96, c97, c98, c99, c100, c101, c102, c103, c104, c105, c106, c107, c108, c109, c110, c111, c112, c113, c114, c115, c116, c117, c118, c119, c120, c121, c122, c123, c124, c125, c126, c127, c128, c129, c130, c131, c132, c133, c134, c135, c136, c137, c138, c139, c140, c141, c142, c143, c144, c145, c146, c147, c148, c149, c150, c151, c152, c153, c154, c155, c156, c157, c158, c159, c160, c161, c162, c163, c164, c165, c166, c167, c168, c169, c170, c171, c172, c173, c174, c175, c176, c177, c178, c179, c180, c181, c182, c183, c184, c185, c186, c187, c188, c189, c190, c191, c192, c193, c194, c195, c196, c197, c198, c199, c200, c201, c202, c203, c204, c205, c206, c207, c208, c209, c210, c211, c212, c213, c214, c215, c216, c217, c218, c219, c220, c221, c222, c223, c224, c225, c226, c227, c228, c229, c230, c231, c232, c233, c234, c235, c236, c237, c238, c239, c240, c241, c242, c243, c244, c245, c246, c247, c248, c249], defers := [] } wo := by
  by_cases h3 : s0 ≤ 3
  · by_cases hbad : s1 < 0 ∨ s2 < 0
    · exact sw_bad HV HB1 h3 (hid hbad)
    · obtain ⟨c, rfl⟩ : ∃ c : Nat, s1 = (c : Int) := ⟨s1.toNat, by omega⟩
      obtain ⟨z, rfl⟩ : ∃ c : Nat, s2 = (c : Int) := ⟨s2.toNat, by omega⟩
      cases hal : arAlloc n L c z with
      | none => exact sw_none HV HB1 h3 HS1 (hid hal)
      | some xl =>
        obtain ⟨x, L'⟩ := xl
        exact sw_some HV HB1 h3 HS1 (hid hal)
  · have h3' : decide (s0 ≤ 3) = false := decide_eq_false h3
    by_cases h5 : s0 ≤ 5
    · exact sw_rel HV HB1 h3' h5
    · have h5' : decide (s0 ≤ 5) = false := decide_eq_false h5
      cases hh : has L s1 with
      | false =>
        have hw : wordOf L s1 s2 = none := by
          have ho : arFind L s1 = none := by
            cases hf : arFind L s1 with
            | none => rfl
            | some o => rw [has_some hf] at hh; cases hh
          unfold wordOf
          rw [ho]
        by_cases h6 : s0 = 6
        · exact sw_none6 HV HB1 h3' h5' (hid hw) (hid hh) h6
        · exact sw_none' HV HB1 h3' h5' (hid hw) (hid hh) (by simpa using h6)
      | true =>
        obtain ⟨o, ho⟩ : ∃ o, arFind L s1 = some o := by
          cases hf : arFind L s1 with
          | none => rw [has_none hf] at hh; cases hh
          | some o => exact ⟨o, rfl⟩
        have hat : ∀ i, (h : i < L.length) → (L[i].at' : Int) = s1 → L[i] = o := fun i h hx => by
          have := arFind_at HB1.out.rise (List.getElem_mem h)
          rw [hx, ho] at this
          exact (Option.some.inj this).symm
        by_cases hs : 0 ≤ s2
        · obtain ⟨q, rfl⟩ : ∃ c : Nat, s2 = (c : Int) := ⟨s2.toNat, by omega⟩
          by_cases hq : q < o.ws.length
          · have HLT : Hid (∀ i, (h : i < L.length) → (L[i].at' : Int) = s1 → q < L[i].ws.length) := hid (fun i h hx => by rw [hat i h hx]; exact hq)
            by_cases h6 : s0 = 6
            · exact sw_ok6 HV HB1 h3' h5' (hid hh) HLT h6
            · exact sw_ok HV HB1 h3' h5' (hid hh) HLT (by simpa using h6)
          · have hw : wordOf L s1 q = none := by unfold wordOf; rw [ho]; simp only []; rw [if_neg (by omega)]
            have HBIG : Hid (∀ i, (h : i < L.length) → (L[i].at' : Int) = s1 → (L[i].ws.length : Int) ≤ (q : Int)) := hid (fun i h hx => by rw [hat i h hx]; omega)
            by_cases h6 : s0 = 6
            · exact sw_big6 HV HB1 h3' h5' (hid hw) (hid hh) (hid hs) HBIG h6
            · exact sw_big HV HB1 h3' h5' (hid hw) (hid hh) (hid hs) HBIG (by simpa using h6)
        · have hw : wordOf L s1 s2 = none := by unfold wordOf; rw [ho]; simp only []; rw [if_neg (by omega)]
          by_cases h6 : s0 = 6
          · exact sw_neg6 HV HB1 h3' h5' (hid hw) (hid hh) (hid hs) h6
          · exact sw_neg HV HB1 h3' h5' (hid hw) (hid hh) (hid hs) (by simpa using h6)

end Go.Proofs.Ytgakkkifohkikaa
