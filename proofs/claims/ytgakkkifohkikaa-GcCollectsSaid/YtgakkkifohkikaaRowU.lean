/-
  Rows of numbers that came in.
-/
import Derived.Test.YtgakkkifohkikaaRows
import Derived.Test.YtgakkkifohkikaaBase
import Derived.RegionTactic
import Derived.OpenShut
import Derived.Deep.QuietTactic
import Derived.BigQuiet
import Derived.StillTailTactics
namespace Go.Proofs.Ytgakkkifohkikaa
open Go.RowKit

theorem IsRow.cell {k : IntKind} {w : World} {a : Option Addr} {len cap : Nat} {zs : List Int} (h : IsRow k w a len cap zs) (j : Nat) (hj : j < len) : ∃ b off, a = some ⟨b, off, none⟩ ∧ w.cell? ⟨b, off + j, none⟩ = some (.int k (zs.getD j 0)) ∧ (Lit.int k (zs.getD j 0)).wf = true := by
  rcases h with ⟨_, h2, _, _⟩ | ⟨x, rfl, h1, h2, h3, h4, h5⟩
  · omega
  · obtain ⟨b, off, rfl, hc⟩ := ints_at h4 (by omega)
    refine ⟨b, off, rfl, hc j (by omega), h5 _ ?_⟩
    rw [List.getD, List.getElem?_eq_getElem (by omega : j < zs.length)]
    exact List.getElem_mem _
theorem IsRow.len {k : IntKind} {w : World} {a : Option Addr} {len cap : Nat} {zs : List Int} (h : IsRow k w a len cap zs) : len ≤ zs.length := by
  rcases h with ⟨_, h2, _, _⟩ | ⟨x, _, h1, h2, h3, _⟩ <;> omega
theorem u8_bounds {x : Int} (h : (Lit.int .u8 x).wf = true) : 0 ≤ x ∧ x ≤ 255 := by
  exact bounds_u8 h
theorem IsRow.keep {kd : IntKind} {w w' : World} {a : Option Addr} {len cap : Nat} {z : List Int} (h : IsRow kd w a len cap z) (f : Fr [] w w') : IsRow kd w' a len cap z := by
  rcases h with h | ⟨x, rfl, h1, h2, h3, h4, h5⟩
  · exact .inl h
  · exact .inr ⟨x, rfl, h1, h2, h3, fun i hi => f.cell (h4 i hi) (by simp), h5⟩

end Go.Proofs.Ytgakkkifohkikaa
