/-
  HeapPlays: a round that reads a word, or writes it.
-/
import Derived.Test.YtgakkkifohkikaaPlayS
import Derived.Deep.Cut
import Derived.Deep.CutRange
import Derived.BigQuiet
namespace Go.Proofs.Ytgakkkifohkikaa
open Go.RowKit

theorem BA.look {w0 w : World} {p : Value} {rb n : Nat} {L M : List Ob} {A : List Nat} (h : BA w0 w p (.pointer (some ⟨rb, 0, none⟩)) n L M A) {i : Nat} (hi : i < M.length) :
    ∃ b cap aw cw, M.length ≤ 1024 ∧ cw ≤ maxLen ∧ (∀ w', Fr [] w w' → w'.cell? ⟨rb, 1, none⟩ = some (.slice (some ⟨b, 0, none⟩) M.length cap) ∧ w'.cell? ⟨b, i * 3 + 1, none⟩ = some (.int .i64 M[i].cls) ∧ w'.cell? ⟨b, i * 3 + 2, none⟩ = some (.slice aw M[i].ws.length cw)) ∧
      ∀ k, k < M[i].ws.length → ∃ bw, aw = some ⟨bw, 0, none⟩ ∧ ∀ w', Fr [] w w' → w'.cell? ⟨bw, k, none⟩ = some (.int .u64 (M[i].ws.getD k 0)) ∧ w'.frozen? ⟨bw, k, none⟩ = false := by
  obtain ⟨vl, G, rfl, hr⟩ := h.refT
  have hgl := hr.glen
  have hiG : i < G.length := by rw [List.length_map] at hi; exact hi
  obtain ⟨b, cap, g, aw, cw, _, hg, _, hcw, hcs, hkk⟩ := hr.row hiG
  have e2 : G[i] = g := Option.some.inj ((List.getElem?_eq_getElem hiG).symm.trans hg)
  have e3 : (G.map (·.1))[i] = g.1 := by rw [List.getElem_map, e2]
  rw [List.length_map]
  simp only [e3]
  exact ⟨b, cap, aw, cw, hgl, hcw, hcs, hkk⟩
theorem getV_i {n a : Nat} {L : List Ob} (hr : Rise n a L) {i : Nat} (hi : i < L.length) {x : Int} (hx : (L[i].at' : Int) = x) {q : Nat} (hq : q < L[i].ws.length) :
    getV L x q = .tuple #[.int .u64 (L[i].ws.getD q 0), .int .i64 0] ∧ putE L x q = 0 ∧ ∀ u, putL L x q u = putObs L x q u := by
  have hf := arFind_at hr (List.getElem_mem hi)
  rw [hx] at hf
  have hw : wordOf L x q = some (L[i].at' + 2 + q, q, L[i].ws.getD q 0) := by
    unfold wordOf
    rw [hf]
    simp only []
    rw [if_pos (by omega)]
    rfl
  refine ⟨?_, ?_, fun u => ?_⟩
  · unfold getV; rw [hw]
  · unfold putE; rw [hw]
  · unfold putL; rw [hw]
theorem putObs_at {L : List Ob} {x u : Int} {q i : Nat} (hi : i < L.length) (hx : (L[i].at' : Int) = x) : ∃ h : i < (putObs L x q u).length, (putObs L x q u)[i] = L[i].put q u := by
  have h : i < (putObs L x q u).length := by unfold putObs; rw [List.length_map]; exact hi
  refine ⟨h, ?_⟩
  exact (List.getElem_map (l := L) (fun o => if (o.at' : Int) = x then o.put q u else o)).trans (if_pos hx)
set_option maxRecDepth 100000 in
set_option maxHeartbeats 8000000 in
theorem sw_ok {W wo : World} {hb rb n sb : Nat} {L : List Ob} {c0 c1 c2 c3 c4 c7 c9 c10 c11 c12 c13 c14 c15 c16 c17 c18 c19 c20 c21 c22 c23 c24 c25 c26 c27 c28 c29 c30 c31 c32 c33 c34 c35 c36 c37 c38 c39 c40 c41 c42 c43 c44 c45 c46 c47 c48 c49 c50 c51 c52 c53 c54 c55 c56 c57 c58 c59 c60 c61 c62 c63 c64 c65 c66 c67 c68 c69 c70 c71 c72 c73 c74 c75 c76 c77 c78 c79 c80 c81 c82 c83 c84 c85 c86 c87 c88 c89 c90 c91 c92 c93 c94 c95 c96 c97 c98 c99 c100 c101 c102 c103 c104 c105 c106 c107 c108 c109 c110 c111 c112 c113 c114 c115 c116 c117 c118 c119 c120 c121 c122 c123 c124 c125 c126 c127 c128 c129 c130 c131 c132 c133 c134 c135 c136 c137 c138 c139 c140 c141 c142 c143 c144 c145 c146 c147 c148 c149 c150 c151 c152 c153 c154 c155 c156 c157 c158 c159 c160 c161 c162 c163 c164 c165 c166 c167 c168 c169 c170 c171 c172 c173 c174 c175 c176 c177 c178 c179 c180 c181 c182 c183 c184 c185 c186 c187 c188 c189 c190 c191 c192 c193 c194 c195 c196 c197 c198 c199 c200 c201 c202 c203 c204 c205 c206 c207 c208 c209 c210 c211 c212 c213 c214 c215 c216 c217 c218 c219 c220 c221 c222 c223 c224 c225 c226 c227 c228 c229 c230 c231 c232 c233 c234 c235 c236 c237 c238 c239 c240 c241 c242 c243 c244 c245 c246 c247 c248 c249 : Value} {s0 s1 s3 : Int} {q : Nat} (HV : Hid (StepAt wo sb s0 s1 q s3)) (HB1 : Hid (PlW W wo hb rb n L L [sb])) (h3 : decide (s0 ≤ 3) = false) (h5 : decide (s0 ≤ 5) = false) (HYES : Hid (has L s1 = true)) (HLT : Hid (∀ i, (h : i < L.length) → (L[i].at' : Int) = s1 → q < L[i].ws.length)) (h6 : (s0 == 6) = false) :
    Code.wp Try.prog sw (OnNormal fun a' w' => LayP [c0, c1, c2, c3, c4, .pointer (some ⟨hb, 0, none⟩), .pointer (some ⟨rb, 0, none⟩), c7, .pointer (some ⟨sb, 0, none⟩), c17, c18, c19, c20, c21, c22, c23, c24, c25, c26, c27, c28, c29, c30] a' ∧ Hid (SwPost W hb rb n sb wo w')) { tmps := #[c0, c1, c2, c3, c4, .pointer (some ⟨hb, 0, none⟩), .pointer (some ⟨rb, 0, none⟩), c7, .pointer (some ⟨sb, 0, none⟩), c9, c10, c11, c12, c13, c14, c15, c16, c17, c18, c19, c20, c21, c22, c23, c24, c25, c26, c27, c28, c29, c30, c31, c32, c33, c34, c35, c36, c37, c38, c39, c40, c41, c42, c43, c44, c45, c46, c47, c48, c49, c50, c51, c52, c53, c54, c55, c56, c57, c58, c59, c60, c61, c62, c63, c64, c65, c66, c67, c68, c69, c70, c71, c72, c73, c74, c75, c76, c77, c78, c79, c80, c81, c82, c83, c84, c85, c86, c87, c88, c89, c90, c91, c92, c93, c94, c95, c96, c97, c98, c99, c100, c101, c102, c103, c104, c105, c106, c107, c108, c109, c110, c111, c112, c113, c114, c115, c116, c117, c118, c119, c120, c121, c122, c123, c124, c125, c126, c127, c128, c129, c130, c131, c132, c133, c134, c135, c136, c137, c138, c139, c140, c141, c142, c143, c144, c145, c146, c147, c148, c149, c150, c151, c152, c153, c154, c155, c156, c157, c158, c159, c160, c161, c162, c163, c164, c165, c166, c167, c168, c169, c170, c171, c172, c173, c174, c175, c176, c177, c178, c179, c180, c181, c182, c183, c184, c185, c186, c187, c188, c189, c190, c191, c192, c193, c194, c195, c196, c197, c198, c199, c200, c201, c202, c203, c204, c205, c206, c207, c208, c209, c210, c211, c212, c213, c214, c215, c216, c217, c218, c219, c220, c221, c222, c223, c224, c225, c226, c227, c228, c229, c230, c231, c232, c233, c234, c235, c236, c237, c238, c239, c240, c241, c242, c243, c244, c245, c246, c247, c248, c249], defers := [] } wo := by
  conv =>
    arg 2
    whnf
  obtain ⟨v0, v1, v2, v3⟩ := HV.out.cells (Kp.refl _ _)
  have E := hid (HB1.out.rfind s1)
  go_wp2_with fail
  refine E.out.mono ?_
  rintro e w5 ⟨⟨r, rfl, hr⟩, f5⟩
  obtain ⟨u0, u1, u2, u3⟩ := HV.out.cells (Kp.of0 f5)
  have H5 := hid (HB1.out.keep f5)
  have K5 : Hid (Kp [sb] wo w5) := hid (Kp.of0 f5)
  obtain ⟨i, hi, rfl, hx⟩ : ∃ (i : Nat) (h : i < L.length), r = i ∧ (L[i].at' : Int) = s1 := by
    rcases hr with ⟨_, hno⟩ | h
    · exact absurd HYES.out (by rw [hno]; exact Bool.false_ne_true)
    · exact h
  have hqz := HLT.out i hi hx
  obtain ⟨b, cap, aw, cw, hml, hcw, hcs, hkk⟩ := H5.out.look hi
  obtain ⟨bw, haw, hws⟩ := hkk q hqz
  subst haw
  obtain ⟨d1, d2, d3⟩ := hcs w5 (Fr.refl _ _)
  obtain ⟨d4, _⟩ := hws w5 (Fr.refl _ _)
  obtain ⟨g1, g2, g3⟩ := getV_i HB1.out.rise hi hx hqz
  obtain ⟨o, ho⟩ : ∃ o, o = L[i] := ⟨_, rfl⟩
  rw [← ho] at hqz hx d2 d3 d4 g1
  have HO := hid ho
  have HG := hid (And.intro g1 (And.intro g2 g3))
  have HI := hid hi
  have HX := hid hx
  have HQZ := hid hqz
  obtain ⟨m, hm⟩ : ∃ m, m = L.length := ⟨_, rfl⟩
  obtain ⟨z, hz⟩ : ∃ z, z = o.ws.length := ⟨_, rfl⟩
  obtain ⟨x, hxv⟩ : ∃ x, x = o.ws.getD q 0 := ⟨_, rfl⟩
  rw [← hm] at d1 hml
  rw [← hz] at d3
  rw [← hxv] at d4 HG
  have him : (i : Int) < m := by omega
  have hib : (i : Int) ≤ 1024 := by omega
  have hi0 : (0 : Int) ≤ i := by omega
  have hmx : max (i : Int) 0 = i := by omega
  have hqz2 : (q : Int) < z := by omega
  have HM := hid hm
  unfold maxLen at hcw
  clear hx hqz hkk hws hcs hr f5 hm hz hxv g1 g2 g3 ho
  go_wp2_with fail
  go_quiet (fail)
  go_wp2_with fail
  have EG := hid ((H5.out.keep (drewN_fr w5 nq)).own.get s1 q)
  rw [HG.out.1] at EG
  refine EG.out.mono ?_
  rintro e w7 ⟨rfl, q7, rfl⟩
  have HF : Hid (∀ w', Fr [] w5 w' → SwPost W hb rb n sb wo w') := hid (fun w' f => ⟨L, H5.out.keep f, K5.out.tr (Kp.of0 f)⟩)
  go_wp2_with fail
  first | (go_quiet (fail); go_wp2_with fail) | skip
  exact ⟨⟨rfl, rfl, rfl⟩, hid (HF.out _ (by repeat (first | exact Fr.refl _ _ | exact drewN_fr _ _ | refine Fr.tr ?_ (drewN_fr _ _))))⟩


end Go.Proofs.Ytgakkkifohkikaa
