/-
  HeapPlays: the switch of a round as a piece of code of its own; the frame's slots that it leaves alone.
-/
import Derived.Test.YtgakkkifohkikaaPlayA
import Derived.Deep.CutBlock
namespace Go.Proofs.Ytgakkkifohkikaa
open Go.RowKit

/-- a call's row: what, two ints, a word -/
def IsSteps (w : World) (a : Option Addr) (len : Nat) (ss : List (Int × Int × Int × Int)) : Prop :=
  len = 0 ∨ ∃ b off, a = some ⟨b, off, none⟩ ∧ len ≤ ss.length ∧
    ∀ i s, ss[i]? = some s → i < len → w.cell? ⟨b, off + i * 4, none⟩ = some (.int .i64 s.1) ∧ w.cell? ⟨b, off + i * 4 + 1, none⟩ = some (.int .i64 s.2.1) ∧ w.cell? ⟨b, off + i * 4 + 2, none⟩ = some (.int .i64 s.2.2.1) ∧ w.cell? ⟨b, off + i * 4 + 3, none⟩ = some (.int .u64 s.2.2.2) ∧ s.2.1 ≤ 9223372036854775807
theorem IsSteps.cell {w w' : World} {a : Option Addr} {len : Nat} {ss : List (Int × Int × Int × Int)} (h : IsSteps w a len ss) (f : Fr [] w w') {i : Nat} (hi : i < len) :
    ∃ b off s0 s1 s2 s3, a = some ⟨b, off, none⟩ ∧ w'.cell? ⟨b, off + i * 4, none⟩ = some (.int .i64 s0) ∧ w'.cell? ⟨b, off + i * 4 + 1, none⟩ = some (.int .i64 s1) ∧ w'.cell? ⟨b, off + i * 4 + 2, none⟩ = some (.int .i64 s2) ∧ w'.cell? ⟨b, off + i * 4 + 3, none⟩ = some (.int .u64 s3) ∧ s1 ≤ 9223372036854775807 := by
  rcases h with h0 | ⟨b, off, rfl, hl, hc⟩
  · omega
  · obtain ⟨h0, h1, h2, h3, h4⟩ := hc i ss[i] (List.getElem?_eq_getElem (by omega)) hi
    exact ⟨b, off, _, _, _, _, rfl, f.cell h0 (by simp), f.cell h1 (by simp), f.cell h2 (by simp), f.cell h3 (by simp), h4⟩

def PlW (W w : World) (hb rb n : Nat) (L M : List Ob) (A : List Nat) : Prop := BA W w (.pointer (some ⟨hb, 0, none⟩)) (.pointer (some ⟨rb, 0, none⟩)) n L M A

theorem RefT.row {w : World} {rb : Nat} {vl : Value} {G : List (Ob × Value)} {n : Nat} (h : RefT w rb vl G n) {i : Nat} (hi : i < G.length) :
    ∃ b cap g aw cw, vl = .slice (some ⟨b, 0, none⟩) G.length cap ∧ G[i]? = some g ∧ g.2 = .slice aw g.1.ws.length cw ∧ cw ≤ maxLen ∧ (∀ w', Fr [] w w' → w'.cell? ⟨rb, 1, none⟩ = some (.slice (some ⟨b, 0, none⟩) G.length cap) ∧ w'.cell? ⟨b, i * 3 + 1, none⟩ = some (.int .i64 g.1.cls) ∧ w'.cell? ⟨b, i * 3 + 2, none⟩ = some (.slice aw g.1.ws.length cw)) ∧
      ∀ k, k < g.1.ws.length → ∃ bw, aw = some ⟨bw, 0, none⟩ ∧ ∀ w', Fr [] w w' → w'.cell? ⟨bw, k, none⟩ = some (.int .u64 (g.1.ws.getD k 0)) ∧ w'.frozen? ⟨bw, k, none⟩ = false := by
  obtain ⟨g, hg⟩ : ∃ g, G[i]? = some g := ⟨_, List.getElem?_eq_getElem hi⟩
  have hws := h.ws g (List.mem_of_getElem? hg)
  obtain ⟨aw, cw, hgw, _, hcw⟩ := hws.form
  obtain ⟨b, cap, e, h1, _⟩ := h.ob.cell (i * 3 + 1) (by omega)
  obtain ⟨b', cap', e', h2, _⟩ := h.ob.cell (i * 3 + 2) (by omega)
  rw [e] at e'
  cases e'
  refine ⟨b, cap, g, aw, cw, e, hg, hgw, hcw, fun w' f => ⟨?_, ?_, ?_⟩, fun k hk => ?_⟩
  · rw [← e]; exact (h.keep0 f).c.2
  · refine f.cell (h1.trans ?_) (by simp)
    rw [(refL_get G i g hg).2.1]; rfl
  · refine f.cell (h2.trans ?_) (by simp)
    rw [(refL_get G i g hg).2.2, hgw]
  · obtain ⟨bw, c, e2, h3, h4⟩ := hws.cell k (by omega)
    rw [hgw] at e2
    injection e2 with e2 _ _
    refine ⟨bw, e2, fun w' f => ⟨f.cell (h3.trans ?_) (by simp), f.frozen h3 h4 (by simp)⟩⟩
    unfold vus
    rw [List.getD, List.getElem?_map, List.getElem?_eq_getElem hk, List.getD, List.getElem?_eq_getElem hk]; rfl
theorem BA.refT {w0 w : World} {p : Value} {rb n : Nat} {L M : List Ob} {A : List Nat} (h : BA w0 w p (.pointer (some ⟨rb, 0, none⟩)) n L M A) : ∃ vl G, M = G.map (·.1) ∧ RefT w rb vl G n := by
  obtain ⟨FQ, h⟩ := h
  obtain ⟨rb', vl, G, e, hM, _, hr⟩ := h.ref
  cases e
  exact ⟨vl, G, hM, hr⟩

/-- the block i -/
def blockAt (i : Nat) : Code → Option Code
  | .seq a b => match blockAt i a with
    | some c => some c
    | none => blockAt i b
  | .cond _ a b => match blockAt i a with
      | some c => some c
      | none => blockAt i b
  | .block j b => if j == i then some (.block j b) else blockAt i b
  | .loop b => blockAt i b
  | .scope b => blockAt i b
  | _ => none
noncomputable def sw : Code := (Try.f7.body.bind (blockAt 2)).getD .skip
/-- the slots that the switch leaves alone -/
structure LayP (c : List Value) (a : Act) : Prop where
  d : a.defers = []
  n : a.tmps.size = 250
  s : [a.tmps.getD 0 undef, a.tmps.getD 1 undef, a.tmps.getD 2 undef, a.tmps.getD 3 undef, a.tmps.getD 4 undef, a.tmps.getD 5 undef, a.tmps.getD 6 undef, a.tmps.getD 7 undef, a.tmps.getD 8 undef, a.tmps.getD 17 undef, a.tmps.getD 18 undef, a.tmps.getD 19 undef, a.tmps.getD 20 undef, a.tmps.getD 21 undef, a.tmps.getD 22 undef, a.tmps.getD 23 undef, a.tmps.getD 24 undef, a.tmps.getD 25 undef, a.tmps.getD 26 undef, a.tmps.getD 27 undef, a.tmps.getD 28 undef, a.tmps.getD 29 undef, a.tmps.getD 30 undef] = c
set_option maxRecDepth 100000 in
theorem LayP.lit {c0 c1 c2 c3 c4 c5 c6 c7 c8 c17 c18 c19 c20 c21 c22 c23 c24 c25 c26 c27 c28 c29 c30 : Value} {a : Act} (h : LayP [c0, c1, c2, c3, c4, c5, c6, c7, c8, c17, c18, c19, c20, c21, c22, c23, c24, c25, c26, c27, c28, c29, c30] a) : ∃ f : Nat → Value, a = { tmps := #[c0, c1, c2, c3, c4, c5, c6, c7, c8, f 9, f 10, f 11, f 12, f 13, f 14, f 15, f 16, c17, c18, c19, c20, c21, c22, c23, c24, c25, c26, c27, c28, c29, c30, f 31, f 32, f 33, f 34, f 35, f 36, f 37, f 38, f 39, f 40, f 41, f 42, f 43, f 44, f 45, f 46, f 47, f 48, f 49, f 50, f 51, f 52, f 53, f 54, f 55, f 56, f 57, f 58, f 59, f 60, f 61, f 62, f 63, f 64, f 65, f 66, f 67, f 68, f 69, f 70, f 71, f 72, f 73, f 74, f 75, f 76, f 77, f 78, f 79, f 80, f 81, f 82, f 83, f 84, f 85, f 86, f 87, f 88, f 89, f 90, f 91, f 92, f 93, f 94, f 95, f 96, f 97, f 98, f 99, f 100, f 101, f 102, f 103, f 104, f 105, f 106, f 107, f 108, f 109, f 110, f 111, f 112, f 113, f 114, f 115, f 116, f 117, f 118, f 119, f 120, f 121, f 122, f 123, f 124, f 125, f 126, f 127, f 128, f 129, f 130, f 131, f 132, f 133, f 134, f 135, f 136, f 137, f 138, f 139, f 140, f 141, f 142, f 143, f 144, f 145, f 146, f 147, f 148, f 149, f 150, f 151, f 152, f 153, f 154, f 155, f 156, f 157, f 158, f 159, f 160, f 161, f 162, f 163, f 164, f 165, f 166, f 167, f 168, f 169, f 170, f 171, f 172, f 173, f 174, f 175, f 176, f 177, f 178, f 179, f 180, f 181, f 182, f 183, f 184, f 185, f 186, f 187, f 188, f 189, f 190, f 191, f 192, f 193, f 194, f 195, f 196, f 197, f 198, f 199, f 200, f 201, f 202, f 203, f 204, f 205, f 206, f 207, f 208, f 209, f 210, f 211, f 212, f 213, f 214, f 215, f 216, f 217, f 218, f 219, f 220, f 221, f 222, f 223, f 224, f 225, f 226, f 227, f 228, f 229, f 230, f 231, f 232, f 233, f 234, f 235, f 236, f 237, f 238, f 239, f 240, f 241, f 242, f 243, f 244, f 245, f 246, f 247, f 248, f 249], defers := [] } := by
  obtain ⟨h1, h2, h3⟩ := h
  have e := act_fn a 250 h2 h1
  obtain ⟨g, hg⟩ : ∃ g : Nat → Value, g = fun j => a.tmps.getD j undef := ⟨_, rfl⟩
  rw [← hg] at e
  refine ⟨g, e.trans ?_⟩
  have h4 : [g 0, g 1, g 2, g 3, g 4, g 5, g 6, g 7, g 8, g 17, g 18, g 19, g 20, g 21, g 22, g 23, g 24, g 25, g 26, g 27, g 28, g 29, g 30] = [c0, c1, c2, c3, c4, c5, c6, c7, c8, c17, c18, c19, c20, c21, c22, c23, c24, c25, c26, c27, c28, c29, c30] := by rw [hg]; exact h3
  clear hg e h3
  simp only [List.cons.injEq, and_true] at h4
  obtain ⟨k0, k1, k2, k3, k4, k5, k6, k7, k8, k17, k18, k19, k20, k21, k22, k23, k24, k25, k26, k27, k28, k29, k30⟩ := h4
  show ({ tmps := #[g 0, g 1, g 2, g 3, g 4, g 5, g 6, g 7, g 8, g 9, g 10, g 11, g 12, g 13, g 14, g 15, g 16, g 17, g 18, g 19, g 20, g 21, g 22, g 23, g 24, g 25, g 26, g 27, g 28, g 29, g 30, g 31, g 32, g 33, g 34, g 35, g 36, g 37, g 38, g 39, g 40, g 41, g 42, g 43, g 44, g 45, g 46, g 47, g 48, g 49, g 50, g 51, g 52, g 53, g 54, g 55, g 56, g 57, g 58, g 59, g 60, g 61, g 62, g 63, g 64, g 65, g 66, g 67, g 68, g 69, g 70, g 71, g 72, g 73, g 74, g 75, g 76, g 77, g 78, g 79, g 80, g 81, g 82, g 83, g 84, g 85, g 86, g 87, g 88, g 89, g 90, g 91, g 92, g 93, g 94, g 95, g 96, g 97, g 98, g 99, g 100, g 101, g 102, g 103, g 104, g 105, g 106, g 107, g 108, g 109, g 110, g 111, g 112, g 113, g 114, g 115, g 116, g 117, g 118, g 119, g 120, g 121, g 122, g 123, g 124, g 125, g 126, g 127, g 128, g 129, g 130, g 131, g 132, g 133, g 134, g 135, g 136, g 137, g 138, g 139, g 140, g 141, g 142, g 143, g 144, g 145, g 146, g 147, g 148, g 149, g 150, g 151, g 152, g 153, g 154, g 155, g 156, g 157, g 158, g 159, g 160, g 161, g 162, g 163, g 164, g 165, g 166, g 167, g 168, g 169, g 170, g 171, g 172, g 173, g 174, g 175, g 176, g 177, g 178, g 179, g 180, g 181, g 182, g 183, g 184, g 185, g 186, g 187, g 188, g 189, g 190, g 191, g 192, g 193, g 194, g 195, g 196, g 197, g 198, g 199, g 200, g 201, g 202, g 203, g 204, g 205, g 206, g 207, g 208, g 209, g 210, g 211, g 212, g 213, g 214, g 215, g 216, g 217, g 218, g 219, g 220, g 221, g 222, g 223, g 224, g 225, g 226, g 227, g 228, g 229, g 230, g 231, g 232, g 233, g 234, g 235, g 236, g 237, g 238, g 239, g 240, g 241, g 242, g 243, g 244, g 245, g 246, g 247, g 248, g 249], defers := [] } : Act) = _
  rw [k0, k1, k2, k3, k4, k5, k6, k7, k8, k17, k18, k19, k20, k21, k22, k23, k24, k25, k26, k27, k28, k29, k30]
def SwPost (W : World) (hb rb n sb : Nat) (wo : World) (w' : World) : Prop := ∃ L', PlW W w' hb rb n L' L' [sb] ∧ Kp [sb] wo w'
def StepAt (wo : World) (sb : Nat) (s0 s1 s2 s3 : Int) : Prop := wo.heap[sb]? = some (.cells #[.int .i64 s0, .int .i64 s1, .int .i64 s2, .int .u64 s3] 53 (0, 0))
theorem StepAt.cells {wo w' : World} {sb : Nat} {s0 s1 s2 s3 : Int} (h : StepAt wo sb s0 s1 s2 s3) (kp : Kp [sb] wo w') : w'.cell? ⟨sb, 0, none⟩ = some (.int .i64 s0) ∧ w'.cell? ⟨sb, 1, none⟩ = some (.int .i64 s1) ∧ w'.cell? ⟨sb, 2, none⟩ = some (.int .i64 s2) ∧ w'.cell? ⟨sb, 3, none⟩ = some (.int .u64 s3) := by
  unfold StepAt at h
  refine ⟨kp.cell ?_ (by simp), kp.cell ?_ (by simp), kp.cell ?_ (by simp), kp.cell ?_ (by simp)⟩ <;> (rw [cell_of_row _ _ _ _ _ _ h]; rfl)

end Go.Proofs.Ytgakkkifohkikaa
