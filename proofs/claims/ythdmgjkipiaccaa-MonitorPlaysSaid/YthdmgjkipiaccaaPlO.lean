/-
  An argument of MonitorPlays: a slice of steps, opened to its cells.
-/
import Derived.Test.YthdmgjkipiaccaaPlB
import Derived.Deep.Slices
import Derived.Deep.Fields
import Derived.ChangeSame
namespace Go.Proofs.Ythdmgjkipiaccaa
open Go.RowKit Go.ChangeShapes Go.WideShapes Go.Deep

def stepFs : Array Field := #[{ name := "What", type := 3, offset := 0, embedded := false, tag := "", pkgPath := "", byteOffset := 0 }, { name := "At", type := 3, offset := 1, embedded := false, tag := "", pkgPath := "", byteOffset := 8 }, { name := "Thread", type := 3, offset := 2, embedded := false, tag := "", pkgPath := "", byteOffset := 16 }]
theorem und_steps : Try.prog.underlying 42 = some (.slice 48) := by kernel_rfl
theorem und_step : Try.prog.underlying 48 = some (.struct stepFs) := by kernel_rfl
theorem und_i64 : Try.prog.underlying 3 = some (.int .i64) := by kernel_rfl
theorem cells_step : Try.prog.cellsOf 48 = 3 := by kernel_rfl
theorem cells_i64 : Try.prog.cellsOf 3 = 1 := by kernel_rfl

set_option maxRecDepth 100000 in
theorem open_rows {H : Type} {enc : TypeId × Value → H} {w : World} {base : Nat} {spare : Nat → Bool} {held : Bool} {fuel : Nat} {cs : List Value} {x : DataW H × List MemPlace}
    (h : DataW.trod enc Try.prog w base spare held fuel 42 cs = some x) : ∃ a len cap, cs = [.slice a len cap] ∧ IsRows w a len := by
  rcases open_slice und_steps h with ⟨rfl, _⟩ | ⟨a, len, cap, m, n, D, Pl, rfl, hb, hl, hcm, hmm, _, hx⟩
  · exact ⟨none, 0, 0, rfl, .inl rfl⟩
  · refine ⟨some a, len, cap, rfl, ?_⟩
    have hlm : len ≤ m := by rw [hmm]; split <;> omega
    have each : ∀ i, i < len → ∃ s : Int × Int × Int, w.cell? ((a.add (i * 3)).add 0) = some (.int .i64 s.1) ∧ w.cell? ((a.add (i * 3)).add 1) = some (.int .i64 s.2.1) ∧ w.cell? ((a.add (i * 3)).add 2) = some (.int .i64 s.2.2) ∧ wfI s.2.1 := by
      intro i hi
      obtain ⟨cs', hc, ht⟩ := hx i (by omega)
      rw [cells_step] at hc
      obtain ⟨_, hlen, hat⟩ := World.cells?_some hc
      obtain ⟨ys, n', _, _, _, hyl, hf⟩ := DataW.trod_struct und_step ht
      have hyl' : ys.length = 3 := hyl
      match cs', hlen with
      | [v0, v1, v2], _ =>
        have h0 : DataW.trod enc Try.prog w base spare held n' 3 [v0] = ys[0]? := by
          have h := hf 0 _ rfl
          change DataW.trod enc Try.prog w base spare held n' 3 (([v0, v1, v2].drop 0).take (Try.prog.cellsOf 3)) = ys[0]? at h
          rw [cells_i64] at h
          exact h
        have h1 : DataW.trod enc Try.prog w base spare held n' 3 [v1] = ys[1]? := by
          have h := hf 1 _ rfl
          change DataW.trod enc Try.prog w base spare held n' 3 (([v0, v1, v2].drop 1).take (Try.prog.cellsOf 3)) = ys[1]? at h
          rw [cells_i64] at h
          exact h
        have h2 : DataW.trod enc Try.prog w base spare held n' 3 [v2] = ys[2]? := by
          have h := hf 2 _ rfl
          change DataW.trod enc Try.prog w base spare held n' 3 (([v0, v1, v2].drop 2).take (Try.prog.cellsOf 3)) = ys[2]? at h
          rw [cells_i64] at h
          exact h
        rw [List.getElem?_eq_getElem (by omega)] at h0 h1 h2
        obtain ⟨z0, e0, _, _⟩ := DataW.trod_int und_i64 h0
        obtain ⟨z1, e1, _, hwf⟩ := DataW.trod_int und_i64 h1
        obtain ⟨z2, e2, _, _⟩ := DataW.trod_int und_i64 h2
        injection e0 with e0 _
        injection e1 with e1 _
        injection e2 with e2 _
        subst e0
        subst e1
        subst e2
        exact ⟨(z0, z1, z2), hat 0 (by omega), hat 1 (by omega), hat 2 (by omega), hwf⟩
    obtain ⟨V, hV⟩ : ∃ V : Nat → Int × Int × Int, ∀ i, i < len → w.cell? ((a.add (i * 3)).add 0) = some (.int .i64 (V i).1) ∧ w.cell? ((a.add (i * 3)).add 1) = some (.int .i64 (V i).2.1) ∧ w.cell? ((a.add (i * 3)).add 2) = some (.int .i64 (V i).2.2) ∧ wfI (V i).2.1 :=
      ⟨fun i => if h : i < len then Classical.choose (each i h) else (0, 0, 0), fun i hi => by
        simp only [dif_pos hi]
        exact Classical.choose_spec (each i hi)⟩
    by_cases hz : len = 0
    · exact .inl hz
    · right
      obtain ⟨b, off, spot⟩ := a
      have hspot : spot = none := by
        have := World.cell?_spot (hV 0 (by omega)).1
        simpa [Addr.add] using this
      subst hspot
      refine ⟨b, off, rfl, V, fun i hi => ?_⟩
      have := hV i hi
      simp only [Addr.add_lit, Nat.add_zero] at this
      exact this

end Go.Proofs.Ythdmgjkipiaccaa
