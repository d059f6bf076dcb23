/-
  An argument of GcCollects: a slice of edges, opened to its cells.
-/
import Derived.Test.YtgakkkifohkikaaRowU
import Derived.Test.YtgakkkifohkikaaBase2
import Derived.Deep.Slices
import Derived.Deep.Fields
import Derived.ChangeSame
namespace Go.Proofs.Ytgakkkifohkikaa
open Go.RowKit Go.ChangeShapes Go.WideShapes Go.Deep

def IsEdges (w : World) (a : Option Addr) (len : Nat) : Prop :=
  len = 0 ∨ ∃ b off, a = some ⟨b, off, none⟩ ∧ ∃ V : Nat → Int × Int, ∀ i, i < len → w.cell? ⟨b, off + i * 2, none⟩ = some (.int .u8 (V i).1) ∧ w.cell? ⟨b, off + i * 2 + 1, none⟩ = some (.int .u8 (V i).2) ∧ 0 ≤ (V i).1 ∧ (V i).1 ≤ 255 ∧ 0 ≤ (V i).2 ∧ (V i).2 ≤ 255
theorem IsEdges.cell {w w' : World} {a : Option Addr} {len : Nat} (h : IsEdges w a len) (f : Fr [] w w') {i : Nat} (hi : i < len) :
    ∃ b off x y, a = some ⟨b, off, none⟩ ∧ w'.cell? ⟨b, off + i * 2, none⟩ = some (.int .u8 x) ∧ w'.cell? ⟨b, off + i * 2 + 1, none⟩ = some (.int .u8 y) ∧ 0 ≤ x ∧ x ≤ 255 ∧ 0 ≤ y ∧ y ≤ 255 := by
  rcases h with h0 | ⟨b, off, rfl, V, hV⟩
  · omega
  · obtain ⟨h1, h2, h3⟩ := hV i hi
    exact ⟨b, off, _, _, rfl, f.cell h1 (by simp), f.cell h2 (by simp), h3⟩
def edgeFs : Array Field := #[{ name := "From", type := 5, offset := 0, embedded := false, tag := "", pkgPath := "", byteOffset := 0 }, { name := "To", type := 5, offset := 1, embedded := false, tag := "", pkgPath := "", byteOffset := 1 }]
theorem und_edges : Try.prog.underlying 76 = some (.slice 78) := by kernel_rfl
theorem und_edge : Try.prog.underlying 78 = some (.struct edgeFs) := by kernel_rfl
theorem und_u8 : Try.prog.underlying 5 = some (.int .u8) := by kernel_rfl
theorem cells_edge : Try.prog.cellsOf 78 = 2 := by kernel_rfl
theorem cells_u8 : Try.prog.cellsOf 5 = 1 := by kernel_rfl

set_option maxRecDepth 100000 in
theorem open_edges {H : Type} {enc : TypeId × Value → H} {w : World} {base : Nat} {spare : Nat → Bool} {held : Bool} {fuel : Nat} {cs : List Value} {x : DataW H × List MemPlace}
    (h : DataW.trod enc Try.prog w base spare held fuel 76 cs = some x) : ∃ a len cap, cs = [.slice a len cap] ∧ IsEdges w a len := by
  rcases open_slice und_edges h with ⟨rfl, _⟩ | ⟨a, len, cap, m, n, D, Pl, rfl, hb, hl, hcm, hmm, _, hx⟩
  · exact ⟨none, 0, 0, rfl, .inl rfl⟩
  · refine ⟨some a, len, cap, rfl, ?_⟩
    have hlm : len ≤ m := by rw [hmm]; split <;> omega
    have each : ∀ i, i < len → ∃ s : Int × Int, w.cell? ((a.add (i * 2)).add 0) = some (.int .u8 s.1) ∧ w.cell? ((a.add (i * 2)).add 1) = some (.int .u8 s.2) ∧ 0 ≤ s.1 ∧ s.1 ≤ 255 ∧ 0 ≤ s.2 ∧ s.2 ≤ 255 := by
      intro i hi
      obtain ⟨cs', hc, ht⟩ := hx i (by omega)
      rw [cells_edge] at hc
      obtain ⟨_, hlen, hat⟩ := World.cells?_some hc
      obtain ⟨ys, n', _, _, _, hyl, hf⟩ := DataW.trod_struct und_edge ht
      have hyl' : ys.length = 2 := hyl
      match cs', hlen with
      | [v0, v1], _ =>
        have h0 : DataW.trod enc Try.prog w base spare held n' 5 [v0] = ys[0]? := by
          have h := hf 0 _ rfl
          change DataW.trod enc Try.prog w base spare held n' 5 (([v0, v1].drop 0).take (Try.prog.cellsOf 5)) = ys[0]? at h
          rw [cells_u8] at h
          exact h
        have h1 : DataW.trod enc Try.prog w base spare held n' 5 [v1] = ys[1]? := by
          have h := hf 1 _ rfl
          change DataW.trod enc Try.prog w base spare held n' 5 (([v0, v1].drop 1).take (Try.prog.cellsOf 5)) = ys[1]? at h
          rw [cells_u8] at h
          exact h
        rw [List.getElem?_eq_getElem (by omega)] at h0 h1
        obtain ⟨z0, e0, _, w0⟩ := DataW.trod_int und_u8 h0
        obtain ⟨z1, e1, _, w1⟩ := DataW.trod_int und_u8 h1
        injection e0 with e0 _
        injection e1 with e1 _
        subst e0
        subst e1
        exact ⟨(z0, z1), hat 0 (by omega), hat 1 (by omega), (u8_bounds w0).1, (u8_bounds w0).2, (u8_bounds w1).1, (u8_bounds w1).2⟩
    obtain ⟨V, hV⟩ : ∃ V : Nat → Int × Int, ∀ i, i < len → w.cell? ((a.add (i * 2)).add 0) = some (.int .u8 (V i).1) ∧ w.cell? ((a.add (i * 2)).add 1) = some (.int .u8 (V i).2) ∧ 0 ≤ (V i).1 ∧ (V i).1 ≤ 255 ∧ 0 ≤ (V i).2 ∧ (V i).2 ≤ 255 :=
      ⟨fun i => if h : i < len then Classical.choose (each i h) else (0, 0), fun i hi => by
        simp only [dif_pos hi]
        exact Classical.choose_spec (each i hi)⟩
    by_cases hz : len = 0
    · exact .inl hz
    · right
      obtain ⟨b, off, spot⟩ := a
      have hspot : spot = none := by
        have := World.cell?_spot (hV 0 (by omega)).1
        simpa [Addr.add] using this
      subst hspot
      refine ⟨b, off, rfl, V, fun i hi => ?_⟩
      have := hV i hi
      simp only [Addr.add_lit, Nat.add_zero] at this
      exact this

end Go.Proofs.Ytgakkkifohkikaa
