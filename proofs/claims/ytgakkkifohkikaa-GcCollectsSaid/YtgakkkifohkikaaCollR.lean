/-
  GcCollects: the walk behind the reference's own reading of who is reached.
-/
import Derived.Test.YtgakkkifohkikaaCoM
import Derived.Test.YtgakkkifohkikaaCollP
import Derived.Test.YtgakkkifohkikaaOrdT
import Derived.Test.YtgakkkifohkikaaGcI
import Derived.Test.YtgakkkifohkikaaGcD
import Derived.Deep.Cut
import Derived.Deep.CutRange
import Derived.BigQuiet
namespace Go.Proofs.Ytgakkkifohkikaa
open Go.RowKit

/-- the code from region i on, as far as it is one sequence -/
def codeAt (i : Nat) : Code → Option Code
  | .seq a b => match a with
    | .region j _ _ => if j == i then some (.seq a b) else codeAt i b
    | _ => match codeAt i a with
      | some c => some c
      | none => codeAt i b
  | .cond _ a b => match codeAt i a with
      | some c => some c
      | none => codeAt i b
  | .block _ b => codeAt i b
  | .loop b => codeAt i b
  | .scope b => codeAt i b
  | _ => none
noncomputable def rest21 : Code := (Try.f11.body.bind (codeAt 21)).getD .skip

theorem clsV_at {n a : Nat} {L : List Ob} (hr : Rise n a L) {o : Ob} (ho : o ∈ L) : clsV L o.at' = .tuple #[.int .i64 o.cls, .int .i64 0] := by
  unfold clsV
  rw [arFind_at hr ho]
/-- an object of the reference's arena: where its cells lie -/
theorem RefT.cells {w : World} {rb : Nat} {vl : Value} {G : List (Ob × Value)} {n : Nat} (h : RefT w rb vl G n) {L : List Ob} (hL : L = G.map (·.1)) {i : Nat} (hi : i < L.length) :
    ∃ b cap aw cw, vl = .slice (some ⟨b, 0, none⟩) L.length cap ∧ cw ≤ maxLen ∧ ∀ w', Fr [] w w' → w'.cell? ⟨rb, 1, none⟩ = some (.slice (some ⟨b, 0, none⟩) L.length cap) ∧ w'.cell? ⟨b, i * 3, none⟩ = some (.int .i64 (L[i].at' : Int)) ∧ w'.cell? ⟨b, i * 3 + 1, none⟩ = some (.int .i64 L[i].cls) ∧ w'.cell? ⟨b, i * 3 + 2, none⟩ = some (.slice aw L[i].ws.length cw) := by
  subst hL
  rw [List.length_map] at hi
  obtain ⟨g, hg⟩ : ∃ g, G[i]? = some g := ⟨_, List.getElem?_eq_getElem hi⟩
  have hgi : (G.map (·.1))[i]'(by rw [List.length_map]; exact hi) = g.1 := by
    rw [List.getElem_map]
    rw [List.getElem?_eq_getElem hi] at hg
    rw [Option.some.inj hg]
  have hws := h.ws g (List.mem_of_getElem? hg)
  obtain ⟨aw, cw, hgw, _, hcw⟩ := hws.form
  obtain ⟨b, cap, e, h0, _⟩ := h.ob.cell (i * 3) (by omega)
  obtain ⟨b', cap', e', h1, _⟩ := h.ob.cell (i * 3 + 1) (by omega)
  obtain ⟨b'', cap'', e'', h2, _⟩ := h.ob.cell (i * 3 + 2) (by omega)
  rw [e] at e' e''
  cases e'
  cases e''
  rw [hgi, List.length_map]
  refine ⟨b, cap, aw, cw, e, hcw, fun w' f => ⟨?_, ?_, ?_, ?_⟩⟩
  · rw [← e]; exact (h.keep0 f).c.2
  · refine f.cell (h0.trans ?_) (by simp)
    rw [(refL_get G i g hg).1]; rfl
  · refine f.cell (h1.trans ?_) (by simp)
    rw [(refL_get G i g hg).2.1]; rfl
  · refine f.cell (h2.trans ?_) (by simp)
    rw [(refL_get G i g hg).2.2, hgw]
section
variable {W w : World} {p : Value} {rb n : Nat} {L M : List Ob} {is : List It}
/-- the cells of the reference's arena -/
theorem Sto.ref (h : Sto W w p (.pointer (some ⟨rb, 0, none⟩)) n L M is) : ∃ vl, w.cell? ⟨rb, 1, none⟩ = some vl ∧ ∃ a cap, vl = .slice a M.length cap := by
  obtain ⟨FQ, hb⟩ := h.ba
  obtain ⟨rb', vl, G, e, hM, _, hr⟩ := hb.ref
  cases e
  obtain ⟨a, cap, e, _⟩ := hr.ob.form
  exact ⟨vl, hr.c.2, a, cap, by rw [e, hM, List.length_map]⟩
theorem Sto.row (h : Sto W w p (.pointer (some ⟨rb, 0, none⟩)) n L M is) {i : Nat} (hi : i < M.length) :
    ∃ b cap aw cw, cw ≤ maxLen ∧ ∀ w', Fr [] w w' → w'.cell? ⟨rb, 1, none⟩ = some (.slice (some ⟨b, 0, none⟩) M.length cap) ∧ w'.cell? ⟨b, i * 3, none⟩ = some (.int .i64 (M[i].at' : Int)) ∧ w'.cell? ⟨b, i * 3 + 1, none⟩ = some (.int .i64 M[i].cls) ∧ w'.cell? ⟨b, i * 3 + 2, none⟩ = some (.slice aw M[i].ws.length cw) := by
  obtain ⟨FQ, hb⟩ := h.ba
  obtain ⟨rb', vl, G, e, hM, _, hr⟩ := hb.ref
  cases e
  obtain ⟨b, cap, aw, cw, _, h1, h2⟩ := hr.cells hM hi
  exact ⟨b, cap, aw, cw, h1, h2⟩
theorem Sto.bo {v : Value} {l : List Bool} (h : Sto W w p (.pointer (some ⟨rb, 0, none⟩)) n L M is) (hi : It.bo v l ∈ is) {k : Nat} (hk : k < l.length) : ∃ b cap, v = .slice (some ⟨b, 0, none⟩) l.length cap ∧ w.cell? ⟨b, k, none⟩ = some (.bool (l.getD k false)) := by
  have h0 : RV w 4 1 v l.length (bvs l) := h.ok _ hi
  obtain ⟨b, cap, e, h1, _⟩ := h0.cell k (by omega)
  refine ⟨b, cap, e, h1.trans ?_⟩
  unfold bvs
  rw [List.getD, List.getElem?_map, List.getElem?_eq_getElem hk, List.getD, List.getElem?_eq_getElem hk]; rfl
theorem Sto.all (h : Sto W w p (.pointer (some ⟨rb, 0, none⟩)) n L M is) : Calls Try.prog 18 #[p] w fun e w' => ∃ v, e = .returned v ∧ RI w' v (ats L) ∧ Fr [] w w' := by
  refine h.ba.own.all.mono ?_
  rintro e w' ⟨⟨v, rfl, hv, f, _⟩, _⟩
  exact ⟨v, rfl, all_ri hv, f⟩
end

theorem Sto.asked {W w : World} {p q : Value} {n : Nat} {L M : List Ob} {is : List It} {ab fb tb : Nat} {va vf vt : Value} {fs ts s : List Int} (h : Sto W w p q n L M (.co ab fb tb va vf vt fs ts s :: is)) : ∃ a cap, va = .slice a s.length cap ∧ w.cell? ⟨ab, 0, none⟩ = some (.slice a s.length cap) := by
  have h0 : CoB ab fb tb vf vt fs ts s w va := h.ok (.co ab fb tb va vf vt fs ts s) (by simp)
  obtain ⟨a, cap, e, _, _⟩ := h0.r1.form
  refine ⟨a, cap, e, ?_⟩
  rw [cell_of_row _ _ _ _ _ _ h0.b1, ← e]; rfl
/-- behind a marking: who was met, what lies where -/
def Mk27 (W : World) (hb rb ab fb tb : Nat) (vf vt : Value) (L : List Ob) (at' fs ts s : List Int) (is : List It) (wx : World) : Prop :=
  ∃ met va, met.Nodup ∧ (∀ a, a ∈ met ↔ Reach L at' (collR fs ts) a) ∧ Sto W wx (.pointer (some ⟨hb, 0, none⟩)) (.pointer (some ⟨rb, 0, none⟩)) 600 L L (.co ab fb tb va vf vt fs ts (s ++ met) :: is)

def Co29 (W : World) (hb rb ab fb tb : Nat) (vf vt : Value) (L : List Ob) (at' fs ts : List Int) (is : List It) (wx : World) : Prop :=
  ∃ met va s', (∀ a, a ∈ met ↔ Reach L at' (collR fs ts) a) ∧ Sto W wx (.pointer (some ⟨hb, 0, none⟩)) (.pointer (some ⟨rb, 0, none⟩)) 600 (kept met L) L (.co ab fb tb va vf vt fs ts s' :: is)

set_option maxRecDepth 100000 in
set_option maxHeartbeats 4000000 in
theorem coll_rest {W w : World} {hb rb ab fb tb m n cv cs : Nat} {L : List Ob} {at' fs ts : List Int} {s2 : List Bool} {va vf vt : Value} {av sv : Option Addr} {u0 u1 u2 u3 u4 u5 u6 u7 u8 u9 u10 u13 u14 u15 u16 u18 u22 u23 u24 u25 u26 u27 u28 u29 u30 u31 u32 u33 u34 u35 u36 u37 u38 u39 u40 u41 u42 u43 u44 u45 u46 u47 u48 u49 u50 u51 u52 u53 u54 u55 u56 u57 u58 u59 u60 u61 u62 u63 u64 u65 u66 u67 u68 u69 u70 u71 u72 u73 u74 u75 u76 u77 u78 u79 u80 u81 u82 u83 u84 u85 u86 u87 u88 u89 u90 u91 u92 u93 u94 u95 u96 u97 u98 u99 u100 u101 u102 u103 u104 u105 u106 u107 u108 u109 u110 u111 u112 u113 u114 u115 u116 u117 u118 u119 u120 u121 u122 u123 u124 u125 u126 u127 u128 u129 u130 u131 u132 u133 u134 u135 u136 u137 u138 u139 u140 u141 u142 u143 u144 u145 u146 u147 u148 u149 u150 u151 u152 u153 u154 u155 u156 u157 u158 u159 u160 u161 u162 u163 u164 u165 u166 u167 u168 u169 u170 u171 u172 u173 u174 u175 u176 u177 u178 u179 u180 u181 u182 u183 u184 u185 u186 u187 u188 u189 u190 u191 u192 u193 u194 u195 u196 u197 u198 u199 u200 u201 u202 u203 u204 u205 u206 u207 u208 u209 u210 u211 u212 u213 u214 u215 u216 u217 u218 u219 u220 u221 u222 u223 u224 u225 u226 u227 u228 u229 u230 u231 u232 u233 u234 u235 u236 u237 u238 u239 u240 u241 u242 u243 u244 u245 u246 u247 u248 u249 u250 u251 u252 u253 u254 u255 u256 u257 u258 u259 u260 u261 u262 u263 u264 u265 u266 u267 u268 u269 u270 u271 u272 u273 u274 u275 : Value}
    (hst : Sto W w (.pointer (some ⟨hb, 0, none⟩)) (.pointer (some ⟨rb, 0, none⟩)) 600 L L [.co ab fb tb va vf vt fs ts [], .sl (.slice av n cv) at', .bo (.slice sv m cs) s2])
    (hm : m = L.length) (hs : SeenBy L at' fs ts s2) (hfl : fs.length = ts.length) (hfb : fs.length ≤ 60) (hal : at'.length ≤ 13) :
    Code.wp Try.prog rest21 (bodyPost Try.prog Try.f11 (fun e w' => e = .returned (.bool true) ∧ Fr [] W w')) { tmps := #[u0, u1, u2, u3, u4, u5, u6, u7, u8, u9, u10, .pointer (some ⟨hb, 0, none⟩), .pointer (some ⟨rb, 0, none⟩), u13, u14, u15, u16, .slice av n cv, u18, .pointer (some ⟨ab, 0, none⟩), .func (.func 38) #[] #[.pointer (some ⟨ab, 0, none⟩), .pointer (some ⟨fb, 0, none⟩), .pointer (some ⟨tb, 0, none⟩)], .slice sv m cs, u22, u23, u24, u25, u26, u27, u28, u29, u30, u31, u32, u33, u34, u35, u36, u37, u38, u39, u40, u41, u42, u43, u44, u45, u46, u47, u48, u49, u50, u51, u52, u53, u54, u55, u56, u57, u58, u59, u60, u61, u62, u63, u64, u65, u66, u67, u68, u69, u70, u71, u72, u73, u74, u75, u76, u77, u78, u79, u80, u81, u82, u83, u84, u85, u86, u87, u88, u89, u90, u91, u92, u93, u94, u95, u96, u97, u98, u99, u100, u101, u102, u103, u104, u105, u106, u107, u108, u109, u110, u111, u112, u113, u114, u115, u116, u117, u118, u119, u120, u121, u122, u123, u124, u125, u126, u127, u128, u129, u130, u131, u132, u133, u134, u135, u136, u137, u138, u139, u140, u141, u142, u143, u144, u145, u146, u147, u148, u149, u150, u151, u152, u153, u154, u155, u156, u157, u158, u159, u160, u161, u162, u163, u164, u165, u166, u167, u168, u169, u170, u171, u172, u173, u174, u175, u176, u177, u178, u179, u180, u181, u182, u183, u184, u185, u186, u187, u188, u189, u190, u191, u192, u193, u194, u195, u196, u197, u198, u199, u200, u201, u202, u203, u204, u205, u206, u207, u208, u209, u210, u211, u212, u213, u214, u215, u216, u217, u218, u219, u220, u221, u222, u223, u224, u225, u226, u227, u228, u229, u230, u231, u232, u233, u234, u235, u236, u237, u238, u239, u240, u241, u242, u243, u244, u245, u246, u247, u248, u249, u250, u251, u252, u253, u254, u255, u256, u257, u258, u259, u260, u261, u262, u263, u264, u265, u266, u267, u268, u269, u270, u271, u272, u273, u274, u275], defers := [] } w := by
  conv =>
    arg 2
    whnf
  have hrise := hst.ba.rise
  have hml : L.length ≤ 300 := by have := Rise.length hrise; omega
  have HRI := hid hrise
  have HML := hid hm
  have HFL := hid hfl
  have HFB := hid hfb
  have HAL := hid hal
  have HSE := hid hs
  have hmb : (m : Int) ≤ 300 := by omega
  have HST0 := hid (show Sto W w (.pointer (some ⟨hb, 0, none⟩)) (.pointer (some ⟨rb, 0, none⟩)) 600 L L [.co ab fb tb va vf vt fs ts [], .sl (.slice av n cv) at', .bo (.slice sv m cs) s2, .sl (.slice none 0 0) []] from hst.more (i' := .sl (.slice none 0 0) []) (Fr.refl _ _) (RI.nil _) (by simp [It.bl, fpv, Value.ownBlock]))
  have hs2 : s2.length = m := by rw [hm]; exact hs.1
  have HS2 := hid hs2
  clear hst hm hs hfl hfb hal hrise hml hs2
  go_wp2_with fail
  go_loopw [22, 23] (fun v i wr => ∃ k : Nat, i = .int .i64 k ∧ k ≤ m ∧ Hid (Sto W wr (.pointer (some ⟨hb, 0, none⟩)) (.pointer (some ⟨rb, 0, none⟩)) 600 L L [.co ab fb tb va vf vt fs ts [], .sl (.slice av n cv) at', .bo (.slice sv m cs) s2, .sl v (wantOf (L.take k) (s2.take k))])) (fun _ i _ => m - (intOf i).toNat)
  case atStart => exact ⟨0, rfl, by omega, HST0⟩
  case round =>
    obtain ⟨k, rfl, hk, hr⟩ := hrel
    have HR := hid hr.out
    clear hr HST0
    by_cases hlt : k < m
    · have hlt2 : (k : Int) < m := by omega
      have hkb : (k : Int) ≤ 300 := by omega
      have HKL : Hid (k < L.length) := hid (by rw [← HML.out]; exact hlt)
      obtain ⟨bs, cs', e, hcs⟩ := HR.out.bo (v := .slice sv m cs) (l := s2) (by simp) (k := k) (by rw [HS2.out]; exact hlt)
      injection e with e1 e2 e3
      subst e1
      clear e2 e3
      have hws := wantOf_succ (L := L) (s := s2) (by rw [HS2.out, HML.out]) HKL.out
      have hwl : (wantOf (L.take k) (s2.take k)).length ≤ k := by
        have := want_len (L := L.take k) (s := s2.take k) (by rw [List.length_take, List.length_take, HS2.out, ← HML.out])
        rw [List.length_take] at this
        omega
      obtain ⟨wl, hwle⟩ : ∃ wl, wl = wantOf (L.take k) (s2.take k) := ⟨_, rfl⟩
      rw [← hwle] at hws hwl HR
      obtain ⟨sb, hsb⟩ : ∃ sb, sb = s2.getD k false := ⟨_, rfl⟩
      rw [← hsb] at hws hcs
      have HWS := hid hws
      obtain ⟨av2, cv2, hve, _, _⟩ := (HR.out.slc (v := u22) (l := wl) (by simp)).form
      obtain ⟨nw, hnw⟩ : ∃ nw, nw = wl.length := ⟨_, rfl⟩
      have HNW := hid hnw
      rw [← hnw] at hve hwl
      subst hve
      have HWL := hid hwl
      clear hwle hsb hws hnw hlt hwl
      cases sb with
      | false =>
        have HWS2 := hid HWS.out
        rw [if_neg (by simp), List.append_nil] at HWS2
        go_wp2_with fail
        go_roundw
        case rel => exact ⟨k + 1, by go_num, by omega, hid (by rw [HWS2.out]; exact HR.out)⟩
        case measure => simp [intOf]; omega
      | true =>
        have HWS2 := hid HWS.out
        rw [if_pos rfl] at HWS2
        obtain ⟨bo, co, aw, cw, _, hro⟩ := HR.out.row HKL.out
        obtain ⟨r1, r2, _, _⟩ := hro wr (Fr.refl _ _)
        rw [← HML.out] at r1
        obtain ⟨y, hy⟩ : ∃ y, y = (L[k]'HKL.out).at' := ⟨_, rfl⟩
        rw [← hy] at r2 HWS2
        have S := hid (fun t => show RI (wr.alloc t) (.slice av2 nw cv2) wl from RV.keep0 (HR.out.slc (v := .slice av2 nw cv2) (l := wl) (by simp)) ((Fr.refl _ _).alloc _))
        clear hro hy
        go_wp2_with (at_builtin; refine wp_append_ri rfl (.tmp 142) (.tmp 151) rfl (.slice av2 nw cv2) (.slice (some ⟨wr.heap.size, 0, none⟩) 1 1) wl [(y : Int)] rfl (S.out _) rfl (RI.made (w := wr) [(y : Int)] (by simp)) (by have := HWL.out; rw [← HNW.out]; simp; omega) ?_; intro a5 c5 w5 r5 f5 n5; rw [← HNW.out] at r5 n5 ⊢; have R5 := hid r5; have F5 := hid f5; have N5 := hid n5; clear r5 f5 n5)
        have HN5 : Hid (Sto W w5 (.pointer (some ⟨hb, 0, none⟩)) (.pointer (some ⟨rb, 0, none⟩)) 600 L L [.co ab fb tb va vf vt fs ts [], .sl (.slice av n cv) at', .bo (.slice (some ⟨bs, 0, none⟩) m cs) s2, .sl (.slice a5 (nw + [(y : Int)].length) c5) (wl ++ [(y : Int)])]) := hid (by
          refine Sto.turn (is1 := [.co ab fb tb va vf vt fs ts [], .sl (.slice av n cv) at', .bo (.slice (some ⟨bs, 0, none⟩) m cs) s2]) (is2 := []) (i := .sl (.slice av2 nw cv2) wl) HR.out (((Fr.refl _ _).alloc _).tr F5.out) R5.out (fun b hb => ?_)
          rcases N5.out b hb with h | h
          · exact .inl h
          · rw [World.size_alloc] at h; exact .inr (by omega))
        go_roundw
        case rel => exact ⟨k + 1, by go_num, by omega, hid (by rw [HWS2.out]; exact HN5.out)⟩
        case measure => simp [intOf]; omega
    · obtain rfl : k = m := by omega
      have hlt2 : ¬ (k : Int) < k := by omega
      have HR2 := hid HR.out
      rw [show L.take k = L by rw [HML.out, List.take_length], show s2.take k = s2 by rw [← HS2.out, List.take_length]] at HR2
      clear HR hlt
      obtain ⟨want, hwant⟩ : ∃ want, want = wantOf L s2 := ⟨_, rfl⟩
      rw [← hwant] at HR2
      have HWA := hid hwant
      obtain ⟨av2, cv2, hve, _, _⟩ := (HR2.out.slc (v := u22) (l := want) (by simp)).form
      obtain ⟨nw, hnw⟩ : ∃ nw, nw = want.length := ⟨_, rfl⟩
      have HNW := hid hnw
      rw [← hnw] at hve
      subst hve
      have hwl : nw ≤ k := by
        have := want_len (L := L) (s := s2) (by rw [HS2.out, HML.out])
        rw [hnw, hwant, HML.out]; exact this
      have hwl2 : (nw : Int) ≤ k := by omega
      clear hwant hnw hwl
      have HALA := hid (show (ats L).length = k by unfold ats; rw [List.length_map]; exact HML.out.symm)
      go_upto_region 27 with (fail)
      go_cut [177] from 153 to 177 (fun c wx => c = .bool false ∧ Hid (Mk27 W hb rb ab fb tb vf vt L at' fs ts [] [.sl (.slice av n cv) at', .bo (.slice sv k cs) s2, .sl (.slice av2 nw cv2) want] wx))
      case first =>
        have HD := hid (HR2.out.keep (Fr.refl _ _).drew)
        obtain ⟨vl0, q0, ar, cr, e0⟩ := HD.out.ref
        rw [← HML.out] at e0
        subst e0
        have HAL2 := hid (show at'.length ≤ 1000 by have := HAL.out; omega)
        have HFB2 := hid (show fs.length ≤ 90 by have := HFB.out; omega)
        refine wp_region_held_drew (S := (fun w' => w'.cell? ⟨rb, 1, none⟩ = some (.slice ar k cr))) (by kernel_rfl) q0 (fun hHeld => ?_)
        refine wpAnyH_take (i := 0) (v := ?va0) rfl (by kernel_rfl) (by kernel_rfl) (by kernel_rfl) (fun _ _ _ h => h) (Or.inl ⟨by rfl, ?ya0⟩) hHeld ?ra0
        case ya0 => ((intro w hSw; (try dsimp only at hSw); go_simp) <;> with_reducible rfl)
        try simp only [Act.put, List.getElem_toArray, List.getElem_cons_zero, List.setIfInBounds_toArray, List.set_cons_zero, List.set_cons_succ]
        refine wpAnyH_take (i := 1) (v := ?va1) rfl (by kernel_rfl) (by kernel_rfl) (by kernel_rfl) (fun _ _ _ h => h) (Or.inl ⟨by rfl, ?ya1⟩) hHeld ?ra1
        case ya1 => ((intro w hSw; (try dsimp only at hSw); go_simp) <;> with_reducible rfl)
        try simp only [Act.put, List.getElem_toArray, List.getElem_cons_zero, List.getElem_cons_succ, List.setIfInBounds_toArray, List.set_cons_zero, List.set_cons_succ]
        refine wpAnyH_take (i := 2) (v := ?va2) rfl (by kernel_rfl) (by kernel_rfl) (by kernel_rfl) (fun _ _ _ h => h) (Or.inl ⟨by rfl, ?ya2⟩) hHeld ?ra2
        case ya2 => ((intro w hSw; (try dsimp only at hSw); go_simp) <;> with_reducible rfl)
        try simp only [Act.put, List.getElem_toArray, List.getElem_cons_zero, List.getElem_cons_succ, List.setIfInBounds_toArray, List.set_cons_zero, List.set_cons_succ]
        refine wpAnyH_take (i := 4) (v := ?va4) rfl (by kernel_rfl) (by kernel_rfl) (by kernel_rfl) (fun _ _ _ h => h) (Or.inl ⟨by rfl, ?ya4⟩) hHeld ?ra4
        case ya4 => ((intro w hSw; (try dsimp only at hSw); go_simp) <;> with_reducible rfl)
        try simp only [Act.put, List.getElem_toArray, List.getElem_cons_zero, List.getElem_cons_succ, List.setIfInBounds_toArray, List.set_cons_zero, List.set_cons_succ]
        refine wpAnyH_ready (rs := [3]) (by kernel_rfl) (by simp) ?_
        refine AllReadyH.cons rfl (fun K hK => ?_) AllReadyH.nil
        go_simp
        clear q0
        refine (HD.out.mark HFL.out HFB2.out (vr := .slice av n cv) (roots := at') (by simp) HAL2.out (by simp)).mono ?_
        rintro e w5 ⟨v5, met, va5, rfl, sr5, nd, hm5, h5⟩
        obtain ⟨hml5, hms5⟩ := met_sort HRI.out HSE.out nd hm5
        rw [← HWA.out] at hml5 hms5
        rw [hms5, List.nil_append] at h5
        rw [← HNW.out] at hml5
        have H5 := hid h5
        have ND5 := hid nd
        have HM5 := hid hm5
        have HL5 := hid hml5
        have HQ5 := hid (sr5 rb _ rfl hHeld)
        have E5 := hid (ints_any (H5.out.slc (v := v5) (l := want) (by simp)) (H5.out.slc (v := .slice av2 nw cv2) (l := want) (by simp)))
        rw [decide_eq_true rfl] at E5
        clear nd hm5 h5 hms5 hml5 sr5
        refine hK.out _ _ HQ5.out (fun hHeld => ?_)
        clear hK K
        try simp only [Act.put, List.getElem_toArray, List.getElem_cons_zero, List.getElem_cons_succ, List.setIfInBounds_toArray, List.set_cons_zero, List.set_cons_succ]
        refine wpAnyH_ready (rs := [5]) (by kernel_rfl) (by simp) ?_
        refine AllReadyH.cons rfl (fun K hK => ?_) AllReadyH.nil
        go_simp
        refine E5.out.mono ?_
        rintro e w6 ⟨rfl, f6⟩
        have H6 := hid (H5.out.keep f6)
        have HQ6 := hid (f6.cell HQ5.out (by simp))
        obtain ⟨a6, c6, _, q19⟩ := H6.out.asked
        rw [HL5.out] at q19
        clear f6
        refine hK.out _ _ HQ6.out (fun hHeld => ?_)
        clear hK K
        try simp only [Act.put, List.getElem_toArray, List.getElem_cons_zero, List.getElem_cons_succ, List.setIfInBounds_toArray, List.set_cons_zero, List.set_cons_succ]
        refine wpAnyH_take (i := 6) (v := ?va6) rfl (by kernel_rfl) (by kernel_rfl) (by kernel_rfl) (fun _ _ _ h => h) (Or.inl ⟨by rfl, ?ya6⟩) hHeld ?ra6
        case ya6 => ((intro w hSw; (try dsimp only at hSw); go_simp) <;> with_reducible rfl)
        try simp only [Act.put, List.getElem_toArray, List.getElem_cons_zero, List.getElem_cons_succ, List.setIfInBounds_toArray, List.set_cons_zero, List.set_cons_succ]
        refine wpAnyH_take (i := 7) (v := ?va7) rfl (by kernel_rfl) (by kernel_rfl) (by kernel_rfl) (fun _ _ _ h => h) (Or.inl ⟨by rfl, ?ya7⟩) hHeld ?ra7
        case ya7 => ((intro w hSw; (try dsimp only at hSw); go_simp) <;> with_reducible rfl)
        try simp only [Act.put, List.getElem_toArray, List.getElem_cons_zero, List.getElem_cons_succ, List.setIfInBounds_toArray, List.set_cons_zero, List.set_cons_succ]
        refine wpAnyH_take (i := 10) (v := ?va10) rfl (by kernel_rfl) (by kernel_rfl) (by kernel_rfl) (fun _ _ _ h => h) (Or.inl ⟨by rfl, ?ya10⟩) hHeld ?ra10
        case ya10 => ((intro w hSw; (try dsimp only at hSw); go_simp) <;> with_reducible rfl)
        try simp only [Act.put, List.getElem_toArray, List.getElem_cons_zero, List.getElem_cons_succ, List.setIfInBounds_toArray, List.set_cons_zero, List.set_cons_succ]
        refine wpAnyH_take (i := 11) (v := ?va11) rfl (by kernel_rfl) (by kernel_rfl) (by kernel_rfl) (fun _ _ _ h => h) (Or.inl ⟨by rfl, ?ya11⟩) hHeld ?ra11
        case ya11 => ((intro w hSw; (try dsimp only at hSw); go_simp) <;> with_reducible rfl)
        try simp only [Act.put, List.getElem_toArray, List.getElem_cons_zero, List.getElem_cons_succ, List.setIfInBounds_toArray, List.set_cons_zero, List.set_cons_succ]
        refine wpAnyH_ready (rs := [8]) (by kernel_rfl) (by simp) ?_
        refine AllReadyH.cons rfl (fun K hK => ?_) AllReadyH.nil
        go_simp
        refine hK.out _ _ hHeld (fun hHeld => ?_)
        clear hK K
        try simp only [Act.put, List.getElem_toArray, List.getElem_cons_zero, List.getElem_cons_succ, List.setIfInBounds_toArray, List.set_cons_zero, List.set_cons_succ]
        refine wpAnyH_take (i := 9) (v := ?va9) rfl (by kernel_rfl) (by kernel_rfl) (by kernel_rfl) (fun _ _ _ h => h) (Or.inl ⟨by rfl, ?ya9⟩) hHeld ?ra9
        case ya9 => ((intro w hSw; (try dsimp only at hSw); go_simp) <;> with_reducible rfl)
        try simp only [Act.put, List.getElem_toArray, List.getElem_cons_zero, List.getElem_cons_succ, List.setIfInBounds_toArray, List.set_cons_zero, List.set_cons_succ]
        refine wpAnyH_take (i := 12) (v := ?va12) rfl (by kernel_rfl) (by kernel_rfl) (by kernel_rfl) (fun _ _ _ h => h) (Or.inl ⟨by rfl, ?ya12⟩) hHeld ?ra12
        case ya12 => ((intro w hSw; (try dsimp only at hSw); go_simp) <;> with_reducible rfl)
        try simp only [Act.put, List.getElem_toArray, List.getElem_cons_zero, List.getElem_cons_succ, List.setIfInBounds_toArray, List.set_cons_zero, List.set_cons_succ]
        refine wpAnyH_take (i := 13) (v := ?va13) rfl (by kernel_rfl) (by kernel_rfl) (by kernel_rfl) (fun _ _ _ h => h) (Or.inl ⟨by rfl, ?ya13⟩) hHeld ?ra13
        case ya13 => ((intro w hSw; (try dsimp only at hSw); go_simp) <;> with_reducible rfl)
        try simp only [Act.put, List.getElem_toArray, List.getElem_cons_zero, List.getElem_cons_succ, List.setIfInBounds_toArray, List.set_cons_zero, List.set_cons_succ]
        refine wpAnyH_take (i := 14) (v := ?va14) rfl (by kernel_rfl) (by kernel_rfl) (by kernel_rfl) (fun _ _ _ h => h) (Or.inl ⟨by rfl, ?ya14⟩) hHeld ?ra14
        case ya14 => ((intro w hSw; (try dsimp only at hSw); go_simp) <;> with_reducible rfl)
        try simp only [Act.put, List.getElem_toArray, List.getElem_cons_zero, List.getElem_cons_succ, List.setIfInBounds_toArray, List.set_cons_zero, List.set_cons_succ]
        refine wpAnyH_take (i := 15) (v := ?va15) rfl (by kernel_rfl) (by kernel_rfl) (by kernel_rfl) (fun _ _ _ h => h) (Or.inl ⟨by rfl, ?ya15⟩) hHeld ?ra15
        case ya15 => ((intro w hSw; (try dsimp only at hSw); go_simp) <;> with_reducible rfl)
        try simp only [Act.put, List.getElem_toArray, List.getElem_cons_zero, List.getElem_cons_succ, List.setIfInBounds_toArray, List.set_cons_zero, List.set_cons_succ]
        refine wpAnyH_take (i := 18) (v := ?va18) rfl (by kernel_rfl) (by kernel_rfl) (by kernel_rfl) (fun _ _ _ h => h) (Or.inl ⟨by rfl, ?ya18⟩) hHeld ?ra18
        case ya18 => ((intro w hSw; (try dsimp only at hSw); go_simp) <;> with_reducible rfl)
        try simp only [Act.put, List.getElem_toArray, List.getElem_cons_zero, List.getElem_cons_succ, List.setIfInBounds_toArray, List.set_cons_zero, List.set_cons_succ]
        refine wpAnyH_take (i := 19) (v := ?va19) rfl (by kernel_rfl) (by kernel_rfl) (by kernel_rfl) (fun _ _ _ h => h) (Or.inl ⟨by rfl, ?ya19⟩) hHeld ?ra19
        case ya19 => ((intro w hSw; (try dsimp only at hSw); go_simp) <;> with_reducible rfl)
        try simp only [Act.put, List.getElem_toArray, List.getElem_cons_zero, List.getElem_cons_succ, List.setIfInBounds_toArray, List.set_cons_zero, List.set_cons_succ]
        refine wpAnyH_take (i := 20) (v := ?va20) rfl (by kernel_rfl) (by kernel_rfl) (by kernel_rfl) (fun _ _ _ h => h) (Or.inl ⟨by rfl, ?ya20⟩) hHeld ?ra20
        case ya20 => ((intro w hSw; (try dsimp only at hSw); go_simp) <;> with_reducible rfl)
        try simp only [Act.put, List.getElem_toArray, List.getElem_cons_zero, List.getElem_cons_succ, List.setIfInBounds_toArray, List.set_cons_zero, List.set_cons_succ]
        refine wpAnyH_take (i := 21) (v := ?va21) rfl (by kernel_rfl) (by kernel_rfl) (by kernel_rfl) (fun _ _ _ h => h) (Or.inl ⟨by rfl, ?ya21⟩) hHeld ?ra21
        case ya21 => ((intro w hSw; (try dsimp only at hSw); go_simp) <;> with_reducible rfl)
        try simp only [Act.put, List.getElem_toArray, List.getElem_cons_zero, List.getElem_cons_succ, List.setIfInBounds_toArray, List.set_cons_zero, List.set_cons_succ]
        refine wpAnyH_take (i := 22) (v := ?va22) rfl (by kernel_rfl) (by kernel_rfl) (by kernel_rfl) (fun _ _ _ h => h) (Or.inl ⟨by rfl, ?ya22⟩) hHeld ?ra22
        case ya22 => ((intro w hSw; (try dsimp only at hSw); go_simp) <;> with_reducible rfl)
        try simp only [Act.put, List.getElem_toArray, List.getElem_cons_zero, List.getElem_cons_succ, List.setIfInBounds_toArray, List.set_cons_zero, List.set_cons_succ]
        refine wpAnyH_ready (rs := [16]) (by kernel_rfl) (by simp) ?_
        refine AllReadyH.cons rfl (fun K hK => ?_) AllReadyH.nil
        go_simp
        clear q19
        refine H6.out.all.mono ?_
        rintro e w7 ⟨v7, rfl, hv7, f7⟩
        obtain ⟨a7, c7, e7, _, _⟩ := hv7.form
        rw [HALA.out] at e7
        subst e7
        have H7 := hid (H6.out.keep f7)
        have HQ7 := hid (f7.cell HQ6.out (by simp))
        clear hv7 f7
        refine hK.out _ _ HQ7.out (fun hHeld => ?_)
        clear hK K
        try simp only [Act.put, List.getElem_toArray, List.getElem_cons_zero, List.getElem_cons_succ, List.setIfInBounds_toArray, List.set_cons_zero, List.set_cons_succ]
        refine wpAnyH_take (i := 17) (v := ?va17) rfl (by kernel_rfl) (by kernel_rfl) (by kernel_rfl) (fun _ _ _ h => h) (Or.inl ⟨by rfl, ?ya17⟩) hHeld ?ra17
        case ya17 => ((intro w hSw; (try dsimp only at hSw); go_simp) <;> with_reducible rfl)
        try simp only [Act.put, List.getElem_toArray, List.getElem_cons_zero, List.getElem_cons_succ, List.setIfInBounds_toArray, List.set_cons_zero, List.set_cons_succ]
        refine wpAnyH_take (i := 23) (v := ?va23) rfl (by kernel_rfl) (by kernel_rfl) (by kernel_rfl) (fun _ _ _ h => h) (Or.inl ⟨by rfl, ?ya23⟩) hHeld ?ra23
        case ya23 => ((intro w hSw; (try dsimp only at hSw); go_simp) <;> with_reducible rfl)
        try simp only [Act.put, List.getElem_toArray, List.getElem_cons_zero, List.getElem_cons_succ, List.setIfInBounds_toArray, List.set_cons_zero, List.set_cons_succ]
        refine wpAnyH_take (i := 24) (v := ?va24) rfl (by kernel_rfl) (by kernel_rfl) (by kernel_rfl) (fun _ _ _ h => h) (Or.inl ⟨by rfl, ?ya24⟩) hHeld ?ra24
        case ya24 => ((intro w hSw; (try dsimp only at hSw); go_simp) <;> with_reducible rfl)
        try simp only [Act.put, List.getElem_toArray, List.getElem_cons_zero, List.getElem_cons_succ, List.setIfInBounds_toArray, List.set_cons_zero, List.set_cons_succ]
        refine wpAnyH_done (by kernel_rfl) ?_ _
        go_wp2_with fail
        go_meet
        case rel => exact ⟨rfl, hid ⟨met, va5, ND5.out, HM5.out, H7.out.only (by simp)⟩⟩
      case rest =>
        obtain ⟨rfl, hc27⟩ := hcut
        obtain ⟨met, va5, nd5, hm5, h5⟩ := hc27.out
        rw [List.nil_append] at h5
        have H5 := hid h5
        have ND5 := hid nd5
        have HM5 := hid hm5
        have hml5 := (met_sort HRI.out HSE.out nd5 hm5).1
        rw [← HWA.out, ← HNW.out] at hml5
        have HL5 := hid hml5
        clear hc27 h5 nd5 hm5 hml5 HR2
        go_upto_region 29 with (fail)
        go_cut [204] from 178 to 204 (fun c wx => c = .bool false ∧ Hid (Co29 W hb rb ab fb tb vf vt L at' fs ts [.sl (.slice av n cv) at', .bo (.slice sv k cs) s2, .sl (.slice av2 nw cv2) want] wx))
        case first =>
          have HD := hid (H5.out.keep (Fr.refl _ _).drew)
          obtain ⟨vl0, q0, ar, cr, e0⟩ := HD.out.ref
          rw [← HML.out] at e0
          subst e0
          have HAL2 := hid (show at'.length ≤ 1000 by have := HAL.out; omega)
          have HFB2 := hid (show fs.length ≤ 90 by have := HFB.out; omega)
          have HSL := hid (show met.length ≤ 1000 by rw [HL5.out]; omega)
          have hwr : IntKind.i64.wrap ((k : Int) - nw) = (k : Int) - nw := by rw [IntKind.wrap_i64]; omega
          refine wp_region_held_drew (S := (fun w' => w'.cell? ⟨rb, 1, none⟩ = some (.slice ar k cr))) (by kernel_rfl) q0 (fun hHeld => ?_)
          refine wpAnyH_take (i := 0) (v := ?vb0) rfl (by kernel_rfl) (by kernel_rfl) (by kernel_rfl) (fun _ _ _ h => h) (Or.inl ⟨by rfl, ?yb0⟩) hHeld ?rb0
          case yb0 => ((intro w hSw; (try dsimp only at hSw); go_simp) <;> with_reducible rfl)
          try simp only [Act.put, List.getElem_toArray, List.getElem_cons_zero, List.setIfInBounds_toArray, List.set_cons_zero, List.set_cons_succ]
          refine wpAnyH_take (i := 1) (v := ?vb1) rfl (by kernel_rfl) (by kernel_rfl) (by kernel_rfl) (fun _ _ _ h => h) (Or.inl ⟨by rfl, ?yb1⟩) hHeld ?rb1
          case yb1 => ((intro w hSw; (try dsimp only at hSw); go_simp) <;> with_reducible rfl)
          try simp only [Act.put, List.getElem_toArray, List.getElem_cons_zero, List.getElem_cons_succ, List.setIfInBounds_toArray, List.set_cons_zero, List.set_cons_succ]
          refine wpAnyH_take (i := 2) (v := ?vb2) rfl (by kernel_rfl) (by kernel_rfl) (by kernel_rfl) (fun _ _ _ h => h) (Or.inl ⟨by rfl, ?yb2⟩) hHeld ?rb2
          case yb2 => ((intro w hSw; (try dsimp only at hSw); go_simp) <;> with_reducible rfl)
          try simp only [Act.put, List.getElem_toArray, List.getElem_cons_zero, List.getElem_cons_succ, List.setIfInBounds_toArray, List.set_cons_zero, List.set_cons_succ]
          refine wpAnyH_take (i := 4) (v := ?vb4) rfl (by kernel_rfl) (by kernel_rfl) (by kernel_rfl) (fun _ _ _ h => h) (Or.inl ⟨by rfl, ?yb4⟩) hHeld ?rb4
          case yb4 => ((intro w hSw; (try dsimp only at hSw); go_simp) <;> with_reducible rfl)
          try simp only [Act.put, List.getElem_toArray, List.getElem_cons_zero, List.getElem_cons_succ, List.setIfInBounds_toArray, List.set_cons_zero, List.set_cons_succ]
          refine wpAnyH_take (i := 5) (v := ?vb5) rfl (by kernel_rfl) (by kernel_rfl) (by kernel_rfl) (fun _ _ _ h => h) (Or.inl ⟨by rfl, ?yb5⟩) hHeld ?rb5
          case yb5 => ((intro w hSw; (try dsimp only at hSw); go_simp) <;> with_reducible rfl)
          try simp only [Act.put, List.getElem_toArray, List.getElem_cons_zero, List.getElem_cons_succ, List.setIfInBounds_toArray, List.set_cons_zero, List.set_cons_succ]
          refine wpAnyH_take (i := 6) (v := ?vb6) rfl (by kernel_rfl) (by kernel_rfl) (by kernel_rfl) (fun _ _ _ h => h) (Or.inl ⟨by rfl, ?yb6⟩) hHeld ?rb6
          case yb6 => ((intro w hSw; (try dsimp only at hSw); go_simp) <;> with_reducible rfl)
          try simp only [Act.put, List.getElem_toArray, List.getElem_cons_zero, List.getElem_cons_succ, List.setIfInBounds_toArray, List.set_cons_zero, List.set_cons_succ]
          refine wpAnyH_take (i := 7) (v := ?vb7) rfl (by kernel_rfl) (by kernel_rfl) (by kernel_rfl) (fun _ _ _ h => h) (Or.inl ⟨by rfl, ?yb7⟩) hHeld ?rb7
          case yb7 => ((intro w hSw; (try dsimp only at hSw); go_simp) <;> with_reducible rfl)
          try simp only [Act.put, List.getElem_toArray, List.getElem_cons_zero, List.getElem_cons_succ, List.setIfInBounds_toArray, List.set_cons_zero, List.set_cons_succ]
          refine wpAnyH_take (i := 8) (v := ?vb8) rfl (by kernel_rfl) (by kernel_rfl) (by kernel_rfl) (fun _ _ _ h => h) (Or.inl ⟨by rfl, ?yb8⟩) hHeld ?rb8
          case yb8 => ((intro w hSw; (try dsimp only at hSw); go_simp) <;> with_reducible rfl)
          try simp only [Act.put, List.getElem_toArray, List.getElem_cons_zero, List.getElem_cons_succ, List.setIfInBounds_toArray, List.set_cons_zero, List.set_cons_succ]
          refine wpAnyH_take (i := 9) (v := ?vb9) rfl (by kernel_rfl) (by kernel_rfl) (by kernel_rfl) (fun _ _ _ h => h) (Or.inl ⟨by rfl, ?yb9⟩) hHeld ?rb9
          case yb9 => ((intro w hSw; (try dsimp only at hSw); go_simp) <;> with_reducible rfl)
          try simp only [Act.put, List.getElem_toArray, List.getElem_cons_zero, List.getElem_cons_succ, List.setIfInBounds_toArray, List.set_cons_zero, List.set_cons_succ]
          refine wpAnyH_take (i := 10) (v := ?vb10) rfl (by kernel_rfl) (by kernel_rfl) (by kernel_rfl) (fun _ _ _ h => h) (Or.inl ⟨by rfl, ?yb10⟩) hHeld ?rb10
          case yb10 => ((intro w hSw; (try dsimp only at hSw); go_simp) <;> with_reducible rfl)
          try simp only [Act.put, List.getElem_toArray, List.getElem_cons_zero, List.getElem_cons_succ, List.setIfInBounds_toArray, List.set_cons_zero, List.set_cons_succ]
          refine wpAnyH_take (i := 11) (v := ?vb11) rfl (by kernel_rfl) (by kernel_rfl) (by kernel_rfl) (fun _ _ _ h => h) (Or.inl ⟨by rfl, ?yb11⟩) hHeld ?rb11
          case yb11 => ((intro w hSw; (try dsimp only at hSw); go_simp) <;> with_reducible rfl)
          try simp only [Act.put, List.getElem_toArray, List.getElem_cons_zero, List.getElem_cons_succ, List.setIfInBounds_toArray, List.set_cons_zero, List.set_cons_succ]
          refine wpAnyH_ready (rs := [3]) (by kernel_rfl) (by simp) ?_
          refine AllReadyH.cons rfl (fun K hK => ?_) AllReadyH.nil
          go_simp
          clear q0
          refine (HD.out.collect HFL.out HFB2.out (vr := .slice av n cv) (roots := at') (by simp) HAL2.out HSL.out).mono ?_
          rintro e w6 ⟨met1, va6, rfl, sr6, nd1, hm1, h6⟩
          obtain ⟨hat, hun⟩ := kept_want HRI.out HSE.out hm1
          rw [← HWA.out] at hat hun
          rw [← HNW.out, ← HML.out] at hun
          rw [← HML.out]
          obtain ⟨u, hu⟩ : ∃ u, u = unmet met1 L k := ⟨_, rfl⟩
          rw [← hu] at hun ⊢
          have hne : ((u : Int) != (k : Int) - nw) = false := by (have : (u : Int) = (k : Int) - nw := by omega); simpa using this
          have hml1 := (met_sort HRI.out HSE.out nd1 hm1).1
          rw [← HWA.out, ← HNW.out] at hml1
          have HSL2 := hid (show (met ++ met1).length ≤ 1000 by rw [List.length_append, HL5.out, hml1]; omega)
          have H6 := hid h6
          have HAT := hid hat
          have HM1 := hid hm1
          have HQ6 := hid (sr6 rb _ rfl hHeld)
          clear hm1 h6 hat hun hu sr6 nd1 hml1
          refine hK.out _ _ HQ6.out (fun hHeld => ?_)
          clear hK K
          try simp only [Act.put, List.getElem_toArray, List.getElem_cons_zero, List.getElem_cons_succ, List.setIfInBounds_toArray, List.set_cons_zero, List.set_cons_succ]
          refine wpAnyH_take (i := 12) (v := ?vb12) rfl (by kernel_rfl) (by kernel_rfl) (by kernel_rfl) (fun _ _ _ h => h) (Or.inl ⟨by rfl, ?yb12⟩) hHeld ?rb12
          case yb12 => ((intro w hSw; (try dsimp only at hSw); go_simp) <;> with_reducible rfl)
          try simp only [Act.put, List.getElem_toArray, List.getElem_cons_zero, List.getElem_cons_succ, List.setIfInBounds_toArray, List.set_cons_zero, List.set_cons_succ]
          refine wpAnyH_take (i := 13) (v := ?vb13) rfl (by kernel_rfl) (by kernel_rfl) (by kernel_rfl) (fun _ _ _ h => h) (Or.inl ⟨by rfl, ?yb13⟩) hHeld ?rb13
          case yb13 => ((intro w hSw; (try dsimp only at hSw); go_simp) <;> with_reducible rfl)
          try simp only [Act.put, List.getElem_toArray, List.getElem_cons_zero, List.getElem_cons_succ, List.setIfInBounds_toArray, List.set_cons_zero, List.set_cons_succ]
          refine wpAnyH_take (i := 14) (v := ?vb14) rfl (by kernel_rfl) (by kernel_rfl) (by kernel_rfl) (fun _ _ _ h => h) (Or.inl ⟨by rfl, ?yb14⟩) hHeld ?rb14
          case yb14 => ((intro w hSw; (try dsimp only at hSw); go_simp) <;> with_reducible rfl)
          try simp only [Act.put, List.getElem_toArray, List.getElem_cons_zero, List.getElem_cons_succ, List.setIfInBounds_toArray, List.set_cons_zero, List.set_cons_succ]
          refine wpAnyH_take (i := 16) (v := ?vb16) rfl (by kernel_rfl) (by kernel_rfl) (by kernel_rfl) (fun _ _ _ h => h) (Or.inl ⟨by rfl, ?yb16⟩) hHeld ?rb16
          case yb16 => ((intro w hSw; (try dsimp only at hSw); go_simp) <;> with_reducible rfl)
          try simp only [Act.put, List.getElem_toArray, List.getElem_cons_zero, List.getElem_cons_succ, List.setIfInBounds_toArray, List.set_cons_zero, List.set_cons_succ]
          refine wpAnyH_ready (rs := [15]) (by kernel_rfl) (by simp) ?_
          refine AllReadyH.cons rfl (fun K hK => ?_) AllReadyH.nil
          go_simp
          clear hne
          refine H6.out.all.mono ?_
          rintro e w7 ⟨v7, rfl, hv7, f7⟩
          rw [HAT.out] at hv7
          have H7 := hid (H6.out.keep f7)
          have HQ7 := hid (f7.cell HQ6.out (by simp))
          have E7 := hid (ints_any hv7 (H7.out.slc (v := .slice av2 nw cv2) (l := want) (by simp)))
          rw [decide_eq_true rfl] at E7
          clear hv7 f7
          refine hK.out _ _ HQ7.out (fun hHeld => ?_)
          clear hK K
          try simp only [Act.put, List.getElem_toArray, List.getElem_cons_zero, List.getElem_cons_succ, List.setIfInBounds_toArray, List.set_cons_zero, List.set_cons_succ]
          refine wpAnyH_ready (rs := [17]) (by kernel_rfl) (by simp) ?_
          refine AllReadyH.cons rfl (fun K hK => ?_) AllReadyH.nil
          go_simp
          refine E7.out.mono ?_
          rintro e w8 ⟨rfl, f8⟩
          have H8 := hid (H7.out.keep f8)
          have HQ8 := hid (f8.cell HQ7.out (by simp))
          clear f8
          refine hK.out _ _ HQ8.out (fun hHeld => ?_)
          clear hK K
          try simp only [Act.put, List.getElem_toArray, List.getElem_cons_zero, List.getElem_cons_succ, List.setIfInBounds_toArray, List.set_cons_zero, List.set_cons_succ]
          refine wpAnyH_take (i := 18) (v := ?vb18) rfl (by kernel_rfl) (by kernel_rfl) (by kernel_rfl) (fun _ _ _ h => h) (Or.inl ⟨by rfl, ?yb18⟩) hHeld ?rb18
          case yb18 => ((intro w hSw; (try dsimp only at hSw); go_simp) <;> with_reducible rfl)
          try simp only [Act.put, List.getElem_toArray, List.getElem_cons_zero, List.getElem_cons_succ, List.setIfInBounds_toArray, List.set_cons_zero, List.set_cons_succ]
          refine wpAnyH_take (i := 19) (v := ?vb19) rfl (by kernel_rfl) (by kernel_rfl) (by kernel_rfl) (fun _ _ _ h => h) (Or.inl ⟨by rfl, ?yb19⟩) hHeld ?rb19
          case yb19 => ((intro w hSw; (try dsimp only at hSw); go_simp) <;> with_reducible rfl)
          try simp only [Act.put, List.getElem_toArray, List.getElem_cons_zero, List.getElem_cons_succ, List.setIfInBounds_toArray, List.set_cons_zero, List.set_cons_succ]
          refine wpAnyH_take (i := 20) (v := ?vb20) rfl (by kernel_rfl) (by kernel_rfl) (by kernel_rfl) (fun _ _ _ h => h) (Or.inl ⟨by rfl, ?yb20⟩) hHeld ?rb20
          case yb20 => ((intro w hSw; (try dsimp only at hSw); go_simp) <;> with_reducible rfl)
          try simp only [Act.put, List.getElem_toArray, List.getElem_cons_zero, List.getElem_cons_succ, List.setIfInBounds_toArray, List.set_cons_zero, List.set_cons_succ]
          refine wpAnyH_take (i := 21) (v := ?vb21) rfl (by kernel_rfl) (by kernel_rfl) (by kernel_rfl) (fun _ _ _ h => h) (Or.inl ⟨by rfl, ?yb21⟩) hHeld ?rb21
          case yb21 => ((intro w hSw; (try dsimp only at hSw); go_simp) <;> with_reducible rfl)
          try simp only [Act.put, List.getElem_toArray, List.getElem_cons_zero, List.getElem_cons_succ, List.setIfInBounds_toArray, List.set_cons_zero, List.set_cons_succ]
          refine wpAnyH_take (i := 22) (v := ?vb22) rfl (by kernel_rfl) (by kernel_rfl) (by kernel_rfl) (fun _ _ _ h => h) (Or.inl ⟨by rfl, ?yb22⟩) hHeld ?rb22
          case yb22 => ((intro w hSw; (try dsimp only at hSw); go_simp) <;> with_reducible rfl)
          try simp only [Act.put, List.getElem_toArray, List.getElem_cons_zero, List.getElem_cons_succ, List.setIfInBounds_toArray, List.set_cons_zero, List.set_cons_succ]
          refine wpAnyH_take (i := 23) (v := ?vb23) rfl (by kernel_rfl) (by kernel_rfl) (by kernel_rfl) (fun _ _ _ h => h) (Or.inl ⟨by rfl, ?yb23⟩) hHeld ?rb23
          case yb23 => ((intro w hSw; (try dsimp only at hSw); go_simp) <;> with_reducible rfl)
          try simp only [Act.put, List.getElem_toArray, List.getElem_cons_zero, List.getElem_cons_succ, List.setIfInBounds_toArray, List.set_cons_zero, List.set_cons_succ]
          refine wpAnyH_ready (rs := [24]) (by kernel_rfl) (by simp) ?_
          refine AllReadyH.cons rfl (fun K hK => ?_) AllReadyH.nil
          go_simp
          refine (H8.out.collect HFL.out HFB2.out (vr := .slice av n cv) (roots := at') (by simp) HAL2.out HSL2.out).mono ?_
          rintro e w9 ⟨met2, va9, rfl, sr9, nd2, hm2, h9⟩
          obtain ⟨e1, e2⟩ := kept_twice HM1.out hm2
          rw [e1] at h9
          rw [e2]
          have H9 := hid h9
          have HQ9 := hid (sr9 rb _ rfl HQ8.out)
          clear hm2 h9 sr9 nd2 e1 e2
          refine hK.out _ _ HQ9.out (fun hHeld => ?_)
          clear hK K
          try simp only [Act.put, List.getElem_toArray, List.getElem_cons_zero, List.getElem_cons_succ, List.setIfInBounds_toArray, List.set_cons_zero, List.set_cons_succ]
          refine wpAnyH_take (i := 25) (v := ?vb25) rfl (by kernel_rfl) (by kernel_rfl) (by kernel_rfl) (fun _ _ _ h => h) (Or.inl ⟨by rfl, ?yb25⟩) hHeld ?rb25
          case yb25 => ((intro w hSw; (try dsimp only at hSw); go_simp) <;> with_reducible rfl)
          try simp only [Act.put, List.getElem_toArray, List.getElem_cons_zero, List.getElem_cons_succ, List.setIfInBounds_toArray, List.set_cons_zero, List.set_cons_succ]
          refine wpAnyH_take (i := 26) (v := ?vb26) rfl (by kernel_rfl) (by kernel_rfl) (by kernel_rfl) (fun _ _ _ h => h) (Or.inl ⟨by rfl, ?yb26⟩) hHeld ?rb26
          case yb26 => ((intro w hSw; (try dsimp only at hSw); go_simp) <;> with_reducible rfl)
          try simp only [Act.put, List.getElem_toArray, List.getElem_cons_zero, List.getElem_cons_succ, List.setIfInBounds_toArray, List.set_cons_zero, List.set_cons_succ]
          refine wpAnyH_done (by kernel_rfl) ?_ _
          go_wp2_with fail
          go_meet
          case rel => exact ⟨rfl, hid ⟨met1, va9, _, HM1.out, H9.out⟩⟩
        case rest =>
          obtain ⟨rfl, hc29⟩ := hcut
          obtain ⟨met1, va9, s9, hm1, h9⟩ := hc29.out
          have H9 := hid h9
          have HM1 := hid hm1
          have HRK := hid h9.ba.rise
          have HFR := hid h9.fr
          clear hc29 h9 hm1 H5 ND5 HM5 HL5
          go_wp2_with fail
          obtain ⟨wo, hwo⟩ : ∃ wo, wo = wc := ⟨_, rfl⟩
          subst hwo
          go_loopw [24] (fun i wr => ∃ j : Nat, i = .int .i64 j ∧ j ≤ k ∧ Hid (Fr [] wo wr)) (fun i _ => k - (intOf i).toNat)
          case atStart => exact ⟨0, rfl, by omega, hid (Fr.refl _ _)⟩
          case round =>
            obtain ⟨j, rfl, hj, hr⟩ := hrel
            have HF := hid hr.out
            have HS := hid (H9.out.keep hr.out)
            clear hr
            by_cases hlt : j < k
            · have hlt2 : (j : Int) < k := by omega
              have hkb : (j : Int) ≤ 300 := by omega
              have HKL : Hid (j < L.length) := hid (by rw [← HML.out]; exact hlt)
              obtain ⟨bs, cs', e, hcs⟩ := HS.out.bo (v := .slice sv k cs) (l := s2) (by simp) (k := j) (by rw [HS2.out]; exact hlt)
              injection e with e1 e2 e3
              subst e1
              clear e2 e3
              obtain ⟨sb, hsb⟩ : ∃ sb, sb = s2.getD j false := ⟨_, rfl⟩
              rw [← hsb] at hcs
              have HSB := hid hsb
              obtain ⟨bo, co, aw, cw, _, hro⟩ := HS.out.row HKL.out
              obtain ⟨r1, r2, r3, r4⟩ := hro wr (Fr.refl _ _)
              rw [← HML.out] at r1
              clear hsb hlt hro
              cases sb with
              | false =>
                clear r2 r3 r4
                go_wp2_with fail
                go_roundw
                case rel => exact ⟨j + 1, by go_num, by omega, HF⟩
                case measure => simp [intOf]; omega
              | true =>
                have hmem := kept_at HRI.out HSE.out HM1.out HKL.out (by
                  have := HSB.out
                  rw [List.getD, List.getElem?_eq_getElem (by rw [HS2.out, HML.out]; exact HKL.out)] at this
                  rw [List.getElem?_eq_getElem (by rw [HS2.out, HML.out]; exact HKL.out)]
                  exact congrArg some this.symm)
                obtain ⟨o, ho⟩ : ∃ o, o = L[j]'HKL.out := ⟨_, rfl⟩
                rw [← ho] at r2 r3 r4 hmem
                have HW := hid (HS.out.ba.own.words (o.at' : Int))
                have HCV := hid (clsV_at HRK.out hmem)
                rw [wdsV_at HRK.out hmem] at HW
                clear ho hmem
                go_wp2_with fail
                refine HW.out.mono ?_
                rintro e w5 ⟨rfl, q5, hq5⟩
                have HF5 := hid (HF.out.tr (hq5 ▸ (Fr.refl [] wr).drewN q5))
                have HS5 := hid (H9.out.keep HF5.out)
                have f5 := hid (show Fr [] wr w5 from hq5 ▸ (Fr.refl [] wr).drewN q5)
                have r1' := f5.out.cell r1 (by simp)
                have r2' := f5.out.cell r2 (by simp)
                have r3' := f5.out.cell r3 (by simp)
                have r4' := f5.out.cell r4 (by simp)
                have HC5 := hid (HS5.out.ba.own.class (o.at' : Int))
                rw [HCV.out] at HC5
                clear hq5 r1 r2 r3 r4 hcs
                go_wp2_with fail
                refine HC5.out.mono ?_
                rintro e w6 ⟨rfl, q6, hq6⟩
                have f6 := hid (show Fr [] w5 w6 from hq6 ▸ (Fr.refl [] w5).drewN q6)
                have HF6 := hid (HF5.out.tr f6.out)
                have r1 := f6.out.cell r1' (by simp)
                have r2 := f6.out.cell r2' (by simp)
                have r3 := f6.out.cell r3' (by simp)
                have r4 := f6.out.cell r4' (by simp)
                clear hq6 r1' r2' r3' r4'
                go_wp2_with fail
                go_roundw
                case rel => exact ⟨j + 1, by go_num, by omega, HF6⟩
                case measure => simp [intOf]; omega
            · obtain rfl : j = k := by omega
              have hlt2 : ¬ (j : Int) < j := by omega
              obtain ⟨vl0, q0, ar, cr, e0⟩ := HS.out.ref
              rw [← HML.out] at e0
              subst e0
              have HFR2 := hid (HFR.out.tr HF.out)
              clear hlt
              go_wp2_with fail
              go_ret
              exact ⟨rfl, HFR2.out⟩

end Go.Proofs.Ytgakkkifohkikaa
