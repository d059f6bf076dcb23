/-
  HeapPlays: a round that writes a word.
-/
import Derived.Test.YtgakkkifohkikaaPlayV
import Derived.Deep.Cut
import Derived.Deep.CutRange
import Derived.BigQuiet
namespace Go.Proofs.Ytgakkkifohkikaa
open Go.RowKit

set_option maxRecDepth 100000 in
set_option maxHeartbeats 8000000 in
theorem sw_ok6 {W wo : World} {hb rb n sb : Nat} {L : List Ob} {c0 c1 c2 c3 c4 c7 c9 c10 c11 c12 c13 c14 c15 c16 c17 c18 c19 c20 c21 c22 c23 c24 c25 c26 c27 c28 c29 c30 c31 c32 c33 c34 c35 c36 c37 c38 c39 c40 c41 c42 c43 c44 c45 c46 c47 c48 c49 c50 c51 c52 c53 c54 c55 c56 c57 c58 c59 c60 c61 c62 c63 c64 c65 c66 c67 c68 c69 c70 c71 c72 c73 c74 c75 c76 c77 c78 c79 c80 c81 c82 c83 c84 c85 c86 c87 c88 c89 c90 c91 c92 c93 c94 c95 c96 c97 c98 c99 c100 c101 c102 c103 c104 c105 c106 c107 c108 c109 c110 c111 c112 c113 c114 c115 c116 c117 c118 c119 c120 c121 c122 c123 c124 c125 c126 c127 c128 c129 c130 c131 c132 c133 c134 c135 c136 c137 c138 c139 c140 c141 c142 c143 c144 c145 c146 c147 c148 c149 c150 c151 c152 c153 c154 c155 c156 c157 c158 c159 c160 c161 c162 c163 c164 c165 c166 c167 c168 c169 c170 c171 c172 c173 c174 c175 c176 c177 c178 c179 c180 c181 c182 c183 c184 c185 c186 c187 c188 c189 c190 c191 c192 c193 c194 c195 c196 c197 c198 c199 c200 c201 c202 c203 c204 c205 c206 c207 c208 c209 c210 c211 c212 c213 c214 c215 c216 c217 c218 c219 c220 c221 c222 c223 c224 c225 c226 c227 c228 c229 c230 c231 c232 c233 c234 c235 c236 c237 c238 c239 c240 c241 c242 c243 c244 c245 c246 c247 c248 c249 : Value} {s0 s1 s3 : Int} {q : Nat} (HV : Hid (StepAt wo sb s0 s1 q s3)) (HB1 : Hid (PlW W wo hb rb n L L [sb])) (h3 : decide (s0 ≤ 3) = false) (h5 : decide (s0 ≤ 5) = false) (HYES : Hid (has L s1 = true)) (HLT : Hid (∀ i, (h : i < L.length) → (L[i].at' : Int) = s1 → q < L[i].ws.length)) (h6 : s0 = 6) :
    Code.wp Try.prog sw (OnNormal fun a' w' => LayP [c0, c1, c2, c3, c4, .pointer (some ⟨hb, 0, none⟩), .pointer (some ⟨rb, 0, none⟩), c7, .pointer (some ⟨sb, 0, none⟩), c17, c18, c19, c20, c21, c22, c23, c24, c25, c26, c27, c28, c29, c30] a' ∧ Hid (SwPost W hb rb n sb wo w')) { tmps := #[c0, c1, c2, c3, c4, .pointer (some ⟨hb, 0, none⟩), .pointer (some ⟨rb, 0, none⟩), c7, .pointer (some ⟨sb, 0, none⟩), c9, c10, c11, c12, c13, c14, c15, c16, c17, c18, c19, c20, c21, c22, c23, c24, c25, c26, c27, c28, c29, c30, c31, c32, c33, c34, c35, c36, c37, c38, c39, c40, c41, c42, c43, c44, c45, c46, c47, c48, c49, c50, c51, c52, c53, c54, c55, c56, c57, c58, c59, c60, c61, c62, c63, c64, c65, c66, c67, c68, c69, c70, c71, c72, c73, c74, c75, c76, c77, c78, c79, c80, c81, c82, c83, c84, c85, c86, c87, c88, c89, c90, c91, c92, c93, c94, c95, c96, c97, c98, c99, c100, c101, c102, c103, c104, c105, c106, c107, c108, c109, c110, c111, c112, c113, c114, c115, c116, c117, c118, c119, c120, c121, c122, c123, c124, c125, c126, c127, c128, c129, c130, c131, c132, c133, c134, c135, c136, c137, c138, c139, c140, c141, c142, c143, c144, c145, c146, c147, c148, c149, c150, c151, c152, c153, c154, c155, c156, c157, c158, c159, c160, c161, c162, c163, c164, c165, c166, c167, c168, c169, c170, c171, c172, c173, c174, c175, c176, c177, c178, c179, c180, c181, c182, c183, c184, c185, c186, c187, c188, c189, c190, c191, c192, c193, c194, c195, c196, c197, c198, c199, c200, c201, c202, c203, c204, c205, c206, c207, c208, c209, c210, c211, c212, c213, c214, c215, c216, c217, c218, c219, c220, c221, c222, c223, c224, c225, c226, c227, c228, c229, c230, c231, c232, c233, c234, c235, c236, c237, c238, c239, c240, c241, c242, c243, c244, c245, c246, c247, c248, c249], defers := [] } wo := by
  conv =>
    arg 2
    whnf
  obtain ⟨v0, v1, v2, v3⟩ := HV.out.cells (Kp.refl _ _)
  subst h6
  have E := hid (HB1.out.rfind s1)
  go_wp2_with fail
  refine E.out.mono ?_
  rintro e w5 ⟨⟨r, rfl, hr⟩, f5⟩
  obtain ⟨u0, u1, u2, u3⟩ := HV.out.cells (Kp.of0 f5)
  have H5 := hid (HB1.out.keep f5)
  have K5 : Hid (Kp [sb] wo w5) := hid (Kp.of0 f5)
  obtain ⟨i, hi, rfl, hx⟩ : ∃ (i : Nat) (h : i < L.length), r = i ∧ (L[i].at' : Int) = s1 := by
    rcases hr with ⟨_, hno⟩ | h
    · exact absurd HYES.out (by rw [hno]; exact Bool.false_ne_true)
    · exact h
  have hqz := HLT.out i hi hx
  obtain ⟨b, cap, aw, cw, hml, hcw, hcs, hkk⟩ := H5.out.look hi
  obtain ⟨bw, haw, hws⟩ := hkk q hqz
  subst haw
  obtain ⟨d1, d2, d3⟩ := hcs w5 (Fr.refl _ _)
  obtain ⟨d4, _⟩ := hws w5 (Fr.refl _ _)
  obtain ⟨g1, g2, g3⟩ := getV_i HB1.out.rise hi hx hqz
  obtain ⟨o, ho⟩ : ∃ o, o = L[i] := ⟨_, rfl⟩
  rw [← ho] at hqz hx d2 d3 d4 g1
  have HO := hid ho
  have HG := hid (And.intro g1 (And.intro g2 g3))
  have HI := hid hi
  have HX := hid hx
  have HQZ := hid hqz
  obtain ⟨m, hm⟩ : ∃ m, m = L.length := ⟨_, rfl⟩
  obtain ⟨z, hz⟩ : ∃ z, z = o.ws.length := ⟨_, rfl⟩
  obtain ⟨x, hxv⟩ : ∃ x, x = o.ws.getD q 0 := ⟨_, rfl⟩
  rw [← hm] at d1 hml
  rw [← hz] at d3
  rw [← hxv] at d4 HG
  have him : (i : Int) < m := by omega
  have hib : (i : Int) ≤ 1024 := by omega
  have hi0 : (0 : Int) ≤ i := by omega
  have hmx : max (i : Int) 0 = i := by omega
  have hqz2 : (q : Int) < z := by omega
  have HM := hid hm
  unfold maxLen at hcw
  clear hx hqz hkk hws hcs hr f5 hm hz hxv g1 g2 g3 ho
  go_wp2_with fail
  go_quiet (fail)
  go_wp2_with fail
  have EP := hid ((H5.out.keep (drewN_fr w5 nq)).hput s1 q s3)
  rw [HG.out.2.1, HG.out.2.2] at EP
  clear d1 d2 d3 d4
  refine EP.out.mono ?_
  rintro e w6 ⟨rfl, h6, kp6⟩
  have K6 : Hid (Kp [sb] wo w6) := hid (K5.out.tr ((Kp.of0 (drewN_fr w5 nq)).tr kp6))
  obtain ⟨t0, t1, t2, t3⟩ := HV.out.cells K6.out
  obtain ⟨FQ, hba⟩ := h6
  obtain ⟨rb', vl, G, e1, hLG, hF, hrt⟩ := hba.ref
  cases e1
  have hiG : i < G.length := by have := HI.out; rw [hLG, List.length_map] at this; exact this
  obtain ⟨b6, cap6, g, aw6, cw6, hvl, hg, hgw, hcw6, hcs6, hkk6⟩ := hrt.row hiG
  have hog : o = g.1 := by
    rw [HO.out]
    have e2 : G[i] = g := Option.some.inj ((List.getElem?_eq_getElem hiG).symm.trans hg)
    simp only [hLG, List.getElem_map, e2]
  have hqg : q < g.1.ws.length := by rw [← hog]; exact HQZ.out
  obtain ⟨bw6, haw6, hws6⟩ := hkk6 q hqg
  subst haw6
  obtain ⟨d1, d2, d3⟩ := hcs6 w6 (Fr.refl _ _)
  obtain ⟨d4, d5⟩ := hws6 w6 (Fr.refl _ _)
  have hsplit : G = G.take i ++ (g.1, .slice (some ⟨bw6, 0, none⟩) g.1.ws.length cw6) :: G.drop (i + 1) := by
    have e2 : G[i] = (g.1, .slice (some ⟨bw6, 0, none⟩) g.1.ws.length cw6) := by
      rw [Option.some.inj ((List.getElem?_eq_getElem hiG).symm.trans hg), ← hgw]
    rw [← e2, ← List.drop_eq_getElem_cons hiG, List.take_append_drop]
  have hmv : RMoved w6 (w6.setCell ⟨bw6, q, none⟩ (vu s3)) (.pointer (some ⟨rb, 0, none⟩)) FQ n (putObs L s1 q s3) := by
    have hrt2 := hrt
    rw [hsplit] at hrt2
    have := rput_moved hrt2 hqg s3
    rw [← hsplit, ← hLG, ← hF, ← hog, HX.out] at this
    exact this
  obtain ⟨h7, kp7⟩ := BA.rm hba hmv
  have K7 := hid (K6.out.tr kp7)
  obtain ⟨hi7, ho7⟩ := putObs_at (x := s1) (q := q) (u := s3) HI.out (by rw [← HO.out]; exact HX.out)
  rw [← HO.out] at ho7
  have hl7 : (o.put q s3).ws.length = o.ws.length := by simp [Ob.put]
  have hv7 : (o.put q s3).ws.getD q 0 = s3 := by
    show (o.ws.set q s3).getD q 0 = s3
    rw [List.getD, List.getElem?_set_self HQZ.out]; rfl
  have hx7 : (((putObs L s1 q s3)[i]).at' : Int) = s1 := by rw [ho7]; exact HX.out
  have hq7 : q < ((putObs L s1 q s3)[i]).ws.length := by rw [ho7, hl7]; exact HQZ.out
  have hg7 := (getV_i h7.rise hi7 hx7 hq7).1
  rw [ho7, hv7] at hg7
  obtain ⟨b7, cap7, aw7, cw7, hml7, hcw7, hcs7, hkk7⟩ := h7.look hi7
  obtain ⟨bw7, haw7, hws7⟩ := hkk7 q hq7
  subst haw7
  rw [ho7, hv7] at hws7
  rw [ho7, hl7] at hcs7
  obtain ⟨y1, y2, y3⟩ := hcs7 _ (Fr.refl _ _)
  obtain ⟨y4, _⟩ := hws7 _ (Fr.refl _ _)
  obtain ⟨x0, x1, x2, x3⟩ := HV.out.cells K7.out
  have hm7 : (putObs L s1 q s3).length = m := by rw [HM.out]; unfold putObs; rw [List.length_map]
  have hmG : G.length = m := by rw [HM.out, hLG, List.length_map]
  rw [hm7] at y1
  rw [hmG] at d1
  rw [← hog] at d3
  obtain ⟨z7, hz7⟩ : ∃ z, z = o.ws.length := ⟨_, rfl⟩
  rw [← hz7] at d3 y3
  have hqz7 : (q : Int) < z7 := by have := HQZ.out; omega
  generalize g.1.ws.getD q 0 = xo at d4
  have HGET := hid (fun (w' : World) (f : Fr [] (w6.setCell ⟨bw6, q, none⟩ (vu s3)) w') => (h7.keep f).own.get s1 q)
  rw [hg7] at HGET
  have H7 := hid h7
  have HF : Hid (∀ w', Fr [] (w6.setCell ⟨bw6, q, none⟩ (vu s3)) w' → SwPost W hb rb n sb wo w') := hid (fun w' f => ⟨_, H7.out.keep f, K7.out.tr (Kp.of0 f)⟩)
  unfold vu at y1 y2 y3 y4 x0 x1 x2 x3
  clear hba hmv hrt hsplit hvl hg hgw hcs6 hkk6 hws6 hog hqg h7 kp7 kp6 hi7 ho7 hl7 hv7 hx7 hq7 hg7 hcs7 hkk7 hws7 hm7 hmG hLG hF hz7 hml7 u0 u1 u2 u3 hiG
  go_wp2_with fail
  go_region
  all_goals
    go_wp2_with fail
    refine (HGET.out _ (by first | exact Fr.refl _ _ | exact (Fr.refl _ _).drew)).mono ?_
    rintro e w8 ⟨rfl, q8, rfl⟩
    go_wp2_with fail
    first | (go_quiet (fail); go_wp2_with fail) | skip
    exact ⟨⟨rfl, rfl, rfl⟩, hid (HF.out _ (by first | exact Fr.refl _ _ | exact (Fr.refl _ _).drew | exact drewN_fr _ _ | exact Fr.tr ((Fr.refl _ _).drew) (drewN_fr _ _) | exact Fr.tr (drewN_fr _ _) (drewN_fr _ _)))⟩


end Go.Proofs.Ytgakkkifohkikaa
