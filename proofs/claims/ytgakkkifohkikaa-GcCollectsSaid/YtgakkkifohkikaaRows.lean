/-
  No cell of these rows narrows 'for every input' (looked for: loops, veiled, ifaces, maps, wideKeys, modest, calm, conditions, laid).
  DERIVED. THE GIVEN ROWS OF THIS SEAT. 9 by the template 'for every input the law returns true; each argument reads behind the call as it read before'; 0 by the template 'total and deterministic' (their statements: YtgakkkifohkikaaTotals.lean).
  GIVEN WITH THE SEED: the statements are not yours to turn. If you find one false, say at which input.
  Laid BY PROGRAM, IN A SANDBOX (cutbox-rows.mjs): the forced cells as the released guide's own fill.sh prints them over the translation f4493d42dec256d7… (all of the seat's roots in one cut). By AI agents, Wed Nov 11 2026. No macro, syntax, notation, axiom, sorry.
-/
import Derived.Test.YtgakkkifohkikaaChecked
import GoSem.Claim
import GoSem.ClaimJoined
import GoSem.ClaimMapViews
import Derived.JoinedTies
import Derived.KernelRfl
namespace Go.Proofs.Ytgakkkifohkikaa
/- THE CELL 'sum', in the pinned program and in every row, IS THE sha256 OF THE DUMP (.gsa) THAT YtgakkkifohkikaaProg.lean LOADS. Nothing in Lean hashes anything: it is a label: what it is worth is what the hold of that sum in a sandbox is worth. -/
noncomputable def Try.pinned : Pinned := { name := "ytgakkkifohkikaa", sum := "f4493d42dec256d73ccb7da65da8d4131e1a6006a70c34a84ae973424b991800", checked := Try.checked }
namespace Rows
def none {H : Type} : Left H := { results := [], args := [] }

/-- 'loomlaw11.HeapFirst': WHATEVER THE INPUT: true; the input reads as it did. -/
def heapFirstSpec : ChangeSpec := { name := "heapFirst", fn := fun _ => fun
  | [d1, d2, d3, d4] => { results := [.lit (.bool true)], args := [d1, d2, d3, d4] }
  | _ => none }
def heapFirstRow : OpenClaim := { program := "ytgakkkifohkikaa", sum := "f4493d42dec256d73ccb7da65da8d4131e1a6006a70c34a84ae973424b991800", func := "loom/loomlaw11.HeapFirst", spec := "heapFirst", inPlace := ["slices.overlaps[int]", "slices.overlaps[loom/api.Block]"], unfollowed := true, recurses := true, apart := false }
def HeapFirstSaid : Prop := heapFirstRow.holds Try.pinned (OpenSpec.ofChange heapFirstSpec)

/-- ITS FALSE NEIGHBOUR: 'it returns false'. Refute it at one input. -/
def heapFirstWrong : ChangeSpec := { name := "heapFirst", fn := fun _ => fun
  | [d1, d2, d3, d4] => { results := [.lit (.bool false)], args := [d1, d2, d3, d4] }
  | _ => none }
def HeapFirstWrongFalsely : Prop := heapFirstRow.holds Try.pinned (OpenSpec.ofChange heapFirstWrong)

/-- 'loomlaw11.HeapAgain': WHATEVER THE INPUT: true; the input reads as it did. -/
def heapAgainSpec : ChangeSpec := { name := "heapAgain", fn := fun _ => fun
  | [d1, d2] => { results := [.lit (.bool true)], args := [d1, d2] }
  | _ => none }
def heapAgainRow : OpenClaim := { program := "ytgakkkifohkikaa", sum := "f4493d42dec256d73ccb7da65da8d4131e1a6006a70c34a84ae973424b991800", func := "loom/loomlaw11.HeapAgain", spec := "heapAgain", inPlace := ["slices.overlaps[int]", "slices.overlaps[loom/api.Block]"], unfollowed := true, recurses := true, apart := false }
def HeapAgainSaid : Prop := heapAgainRow.holds Try.pinned (OpenSpec.ofChange heapAgainSpec)

/-- ITS FALSE NEIGHBOUR: 'it returns false'. Refute it at one input. -/
def heapAgainWrong : ChangeSpec := { name := "heapAgain", fn := fun _ => fun
  | [d1, d2] => { results := [.lit (.bool false)], args := [d1, d2] }
  | _ => none }
def HeapAgainWrongFalsely : Prop := heapAgainRow.holds Try.pinned (OpenSpec.ofChange heapAgainWrong)

/-- 'loomlaw11.HeapWhole': WHATEVER THE INPUT: true; the input reads as it did. -/
def heapWholeSpec : ChangeSpec := { name := "heapWhole", fn := fun _ => fun
  | [d1, d2] => { results := [.lit (.bool true)], args := [d1, d2] }
  | _ => none }
def heapWholeRow : OpenClaim := { program := "ytgakkkifohkikaa", sum := "f4493d42dec256d73ccb7da65da8d4131e1a6006a70c34a84ae973424b991800", func := "loom/loomlaw11.HeapWhole", spec := "heapWhole", inPlace := ["slices.overlaps[int]", "slices.overlaps[loom/api.Block]"], unfollowed := true, recurses := true, apart := false }
def HeapWholeSaid : Prop := heapWholeRow.holds Try.pinned (OpenSpec.ofChange heapWholeSpec)

/-- ITS FALSE NEIGHBOUR: 'it returns false'. Refute it at one input. -/
def heapWholeWrong : ChangeSpec := { name := "heapWhole", fn := fun _ => fun
  | [d1, d2] => { results := [.lit (.bool false)], args := [d1, d2] }
  | _ => none }
def HeapWholeWrongFalsely : Prop := heapWholeRow.holds Try.pinned (OpenSpec.ofChange heapWholeWrong)

/-- 'loomlaw11.HeapWords': WHATEVER THE INPUT: true; the input reads as it did. -/
def heapWordsSpec : ChangeSpec := { name := "heapWords", fn := fun _ => fun
  | [d1, d2] => { results := [.lit (.bool true)], args := [d1, d2] }
  | _ => none }
def heapWordsRow : OpenClaim := { program := "ytgakkkifohkikaa", sum := "f4493d42dec256d73ccb7da65da8d4131e1a6006a70c34a84ae973424b991800", func := "loom/loomlaw11.HeapWords", spec := "heapWords", inPlace := ["slices.overlaps[int]", "slices.overlaps[loom/api.Block]"], unfollowed := true, recurses := true, apart := false }
def HeapWordsSaid : Prop := heapWordsRow.holds Try.pinned (OpenSpec.ofChange heapWordsSpec)

/-- ITS FALSE NEIGHBOUR: 'it returns false'. Refute it at one input. -/
def heapWordsWrong : ChangeSpec := { name := "heapWords", fn := fun _ => fun
  | [d1, d2] => { results := [.lit (.bool false)], args := [d1, d2] }
  | _ => none }
def HeapWordsWrongFalsely : Prop := heapWordsRow.holds Try.pinned (OpenSpec.ofChange heapWordsWrong)

/-- 'loomlaw11.HeapPlays': WHATEVER THE INPUT: true; the input reads as it did. -/
def heapPlaysSpec : ChangeSpec := { name := "heapPlays", fn := fun _ => fun
  | [d1, d2] => { results := [.lit (.bool true)], args := [d1, d2] }
  | _ => none }
def heapPlaysRow : OpenClaim := { program := "ytgakkkifohkikaa", sum := "f4493d42dec256d73ccb7da65da8d4131e1a6006a70c34a84ae973424b991800", func := "loom/loomlaw11.HeapPlays", spec := "heapPlays", inPlace := ["slices.overlaps[int]", "slices.overlaps[loom/api.Block]"], unfollowed := true, recurses := true, apart := false }
def HeapPlaysSaid : Prop := heapPlaysRow.holds Try.pinned (OpenSpec.ofChange heapPlaysSpec)

/-- ITS FALSE NEIGHBOUR: 'it returns false'. Refute it at one input. -/
def heapPlaysWrong : ChangeSpec := { name := "heapPlays", fn := fun _ => fun
  | [d1, d2] => { results := [.lit (.bool false)], args := [d1, d2] }
  | _ => none }
def HeapPlaysWrongFalsely : Prop := heapPlaysRow.holds Try.pinned (OpenSpec.ofChange heapPlaysWrong)

/-- 'loomlaw12.GcFits': WHATEVER THE INPUT: true; the input reads as it did. -/
def gcFitsSpec : ChangeSpec := { name := "gcFits", fn := fun _ => fun
  | [d1, d2, d3] => { results := [.lit (.bool true)], args := [d1, d2, d3] }
  | _ => none }
def gcFitsRow : OpenClaim := { program := "ytgakkkifohkikaa", sum := "f4493d42dec256d73ccb7da65da8d4131e1a6006a70c34a84ae973424b991800", func := "loom/loomlaw12.GcFits", spec := "gcFits", inPlace := ["slices.overlaps[int]", "slices.overlaps[loom/api.Block]"], unfollowed := true, recurses := true, apart := false }
def GcFitsSaid : Prop := gcFitsRow.holds Try.pinned (OpenSpec.ofChange gcFitsSpec)

/-- ITS FALSE NEIGHBOUR: 'it returns false'. Refute it at one input. -/
def gcFitsWrong : ChangeSpec := { name := "gcFits", fn := fun _ => fun
  | [d1, d2, d3] => { results := [.lit (.bool false)], args := [d1, d2, d3] }
  | _ => none }
def GcFitsWrongFalsely : Prop := gcFitsRow.holds Try.pinned (OpenSpec.ofChange gcFitsWrong)

/-- 'loomlaw12.GcRing': WHATEVER THE INPUT: true; the input reads as it did. -/
def gcRingSpec : ChangeSpec := { name := "gcRing", fn := fun _ => fun
  | [d1, d2, d3] => { results := [.lit (.bool true)], args := [d1, d2, d3] }
  | _ => none }
def gcRingRow : OpenClaim := { program := "ytgakkkifohkikaa", sum := "f4493d42dec256d73ccb7da65da8d4131e1a6006a70c34a84ae973424b991800", func := "loom/loomlaw12.GcRing", spec := "gcRing", inPlace := ["slices.overlaps[int]", "slices.overlaps[loom/api.Block]"], unfollowed := true, recurses := true, apart := false }
def GcRingSaid : Prop := gcRingRow.holds Try.pinned (OpenSpec.ofChange gcRingSpec)

/-- ITS FALSE NEIGHBOUR: 'it returns false'. Refute it at one input. -/
def gcRingWrong : ChangeSpec := { name := "gcRing", fn := fun _ => fun
  | [d1, d2, d3] => { results := [.lit (.bool false)], args := [d1, d2, d3] }
  | _ => none }
def GcRingWrongFalsely : Prop := gcRingRow.holds Try.pinned (OpenSpec.ofChange gcRingWrong)

/-- 'loomlaw12.GcTwice': WHATEVER THE INPUT: true; the input reads as it did. -/
def gcTwiceSpec : ChangeSpec := { name := "gcTwice", fn := fun _ => fun
  | [d1, d2, d3] => { results := [.lit (.bool true)], args := [d1, d2, d3] }
  | _ => none }
def gcTwiceRow : OpenClaim := { program := "ytgakkkifohkikaa", sum := "f4493d42dec256d73ccb7da65da8d4131e1a6006a70c34a84ae973424b991800", func := "loom/loomlaw12.GcTwice", spec := "gcTwice", inPlace := ["slices.overlaps[int]", "slices.overlaps[loom/api.Block]"], unfollowed := true, recurses := true, apart := false }
def GcTwiceSaid : Prop := gcTwiceRow.holds Try.pinned (OpenSpec.ofChange gcTwiceSpec)

/-- ITS FALSE NEIGHBOUR: 'it returns false'. Refute it at one input. -/
def gcTwiceWrong : ChangeSpec := { name := "gcTwice", fn := fun _ => fun
  | [d1, d2, d3] => { results := [.lit (.bool false)], args := [d1, d2, d3] }
  | _ => none }
def GcTwiceWrongFalsely : Prop := gcTwiceRow.holds Try.pinned (OpenSpec.ofChange gcTwiceWrong)

/-- 'loomlaw12.GcCollects': WHATEVER THE INPUT: true; the input reads as it did. -/
def gcCollectsSpec : ChangeSpec := { name := "gcCollects", fn := fun _ => fun
  | [d1, d2, d3, d4, d5] => { results := [.lit (.bool true)], args := [d1, d2, d3, d4, d5] }
  | _ => none }
def gcCollectsRow : OpenClaim := { program := "ytgakkkifohkikaa", sum := "f4493d42dec256d73ccb7da65da8d4131e1a6006a70c34a84ae973424b991800", func := "loom/loomlaw12.GcCollects", spec := "gcCollects", inPlace := ["slices.overlaps[int]", "slices.overlaps[loom/api.Block]"], unfollowed := true, recurses := true, apart := false }
def GcCollectsSaid : Prop := gcCollectsRow.holds Try.pinned (OpenSpec.ofChange gcCollectsSpec)

/-- ITS FALSE NEIGHBOUR: 'it returns false'. Refute it at one input. -/
def gcCollectsWrong : ChangeSpec := { name := "gcCollects", fn := fun _ => fun
  | [d1, d2, d3, d4, d5] => { results := [.lit (.bool false)], args := [d1, d2, d3, d4, d5] }
  | _ => none }
def GcCollectsWrongFalsely : Prop := gcCollectsRow.holds Try.pinned (OpenSpec.ofChange gcCollectsWrong)

/- THE SECOND FORM. 'bulk': how many values and letters a reading holds, each counted each time it is reached (what is shared counts as often as it is met; a slice's spare places count too). A statement '..UptoSaid' is the law's where the arguments, and the package variables that the reading takes, are together of bulk at most 1048576: NARROWER than '..Said'. Prove '..Said' where nothing that the law and all that it calls make is longer than what came in: it says more and counts as full. Else prove '..UptoSaid'. A law counts once. -/
mutual
def uptoBulk {H : Type} : DataW H → Nat
  | .lit (.string bytes) => bytes.length + 1
  | .lit _ => 1
  | .nil => 1
  | .ptr d => uptoBulk d + 1
  | .slice elems spare => uptoBulkAll elems + uptoBulkAll spare + 1
  | .agg parts => uptoBulkAll parts + 1
  | .iface _ d => uptoBulk d + 1
  | .map entries => uptoBulkEntries entries + 1
  | .held _ => 1
def uptoBulkAll {H : Type} : List (DataW H) → Nat
  | [] => 0
  | d :: r => uptoBulk d + uptoBulkAll r
def uptoBulkEntries {H : Type} : List (Lit × DataW H) → Nat
  | [] => 0
  | x :: r => uptoBulkEntry x + uptoBulkEntries r
def uptoBulkEntry {H : Type} : Lit × DataW H → Nat
  | (.string bytes, d) => bytes.length + uptoBulk d + 1
  | (_, d) => uptoBulk d + 1
 end
def uptoSmall : (H : Type) → List (DataW H) → Bool := fun _ ds => decide (uptoBulkAll ds ≤ 1048576)
def OpenSpec.upto (s : _root_.Go.ChangeSpec) : _root_.Go.OpenSpec := { _root_.Go.OpenSpec.ofChange s with cond := some uptoSmall }

/-- 'loomlaw11.HeapFirst', WHERE WHAT IT READS IS OF BULK AT MOST 1048576: true; the input reads as it did. -/
def heapFirstUptoRow : OpenClaim := { program := "ytgakkkifohkikaa", sum := "f4493d42dec256d73ccb7da65da8d4131e1a6006a70c34a84ae973424b991800", func := "loom/loomlaw11.HeapFirst", spec := "heapFirst", inPlace := ["slices.overlaps[int]", "slices.overlaps[loom/api.Block]"], unfollowed := true, recurses := true, apart := false, narrowed := true }
def HeapFirstUptoSaid : Prop := heapFirstUptoRow.holds Try.pinned (OpenSpec.upto heapFirstSpec)

/-- 'loomlaw11.HeapAgain', WHERE WHAT IT READS IS OF BULK AT MOST 1048576: true; the input reads as it did. -/
def heapAgainUptoRow : OpenClaim := { program := "ytgakkkifohkikaa", sum := "f4493d42dec256d73ccb7da65da8d4131e1a6006a70c34a84ae973424b991800", func := "loom/loomlaw11.HeapAgain", spec := "heapAgain", inPlace := ["slices.overlaps[int]", "slices.overlaps[loom/api.Block]"], unfollowed := true, recurses := true, apart := false, narrowed := true }
def HeapAgainUptoSaid : Prop := heapAgainUptoRow.holds Try.pinned (OpenSpec.upto heapAgainSpec)

/-- 'loomlaw11.HeapWhole', WHERE WHAT IT READS IS OF BULK AT MOST 1048576: true; the input reads as it did. -/
def heapWholeUptoRow : OpenClaim := { program := "ytgakkkifohkikaa", sum := "f4493d42dec256d73ccb7da65da8d4131e1a6006a70c34a84ae973424b991800", func := "loom/loomlaw11.HeapWhole", spec := "heapWhole", inPlace := ["slices.overlaps[int]", "slices.overlaps[loom/api.Block]"], unfollowed := true, recurses := true, apart := false, narrowed := true }
def HeapWholeUptoSaid : Prop := heapWholeUptoRow.holds Try.pinned (OpenSpec.upto heapWholeSpec)

/-- 'loomlaw11.HeapWords', WHERE WHAT IT READS IS OF BULK AT MOST 1048576: true; the input reads as it did. -/
def heapWordsUptoRow : OpenClaim := { program := "ytgakkkifohkikaa", sum := "f4493d42dec256d73ccb7da65da8d4131e1a6006a70c34a84ae973424b991800", func := "loom/loomlaw11.HeapWords", spec := "heapWords", inPlace := ["slices.overlaps[int]", "slices.overlaps[loom/api.Block]"], unfollowed := true, recurses := true, apart := false, narrowed := true }
def HeapWordsUptoSaid : Prop := heapWordsUptoRow.holds Try.pinned (OpenSpec.upto heapWordsSpec)

/-- 'loomlaw11.HeapPlays', WHERE WHAT IT READS IS OF BULK AT MOST 1048576: true; the input reads as it did. -/
def heapPlaysUptoRow : OpenClaim := { program := "ytgakkkifohkikaa", sum := "f4493d42dec256d73ccb7da65da8d4131e1a6006a70c34a84ae973424b991800", func := "loom/loomlaw11.HeapPlays", spec := "heapPlays", inPlace := ["slices.overlaps[int]", "slices.overlaps[loom/api.Block]"], unfollowed := true, recurses := true, apart := false, narrowed := true }
def HeapPlaysUptoSaid : Prop := heapPlaysUptoRow.holds Try.pinned (OpenSpec.upto heapPlaysSpec)

/-- 'loomlaw12.GcFits', WHERE WHAT IT READS IS OF BULK AT MOST 1048576: true; the input reads as it did. -/
def gcFitsUptoRow : OpenClaim := { program := "ytgakkkifohkikaa", sum := "f4493d42dec256d73ccb7da65da8d4131e1a6006a70c34a84ae973424b991800", func := "loom/loomlaw12.GcFits", spec := "gcFits", inPlace := ["slices.overlaps[int]", "slices.overlaps[loom/api.Block]"], unfollowed := true, recurses := true, apart := false, narrowed := true }
def GcFitsUptoSaid : Prop := gcFitsUptoRow.holds Try.pinned (OpenSpec.upto gcFitsSpec)

/-- 'loomlaw12.GcRing', WHERE WHAT IT READS IS OF BULK AT MOST 1048576: true; the input reads as it did. -/
def gcRingUptoRow : OpenClaim := { program := "ytgakkkifohkikaa", sum := "f4493d42dec256d73ccb7da65da8d4131e1a6006a70c34a84ae973424b991800", func := "loom/loomlaw12.GcRing", spec := "gcRing", inPlace := ["slices.overlaps[int]", "slices.overlaps[loom/api.Block]"], unfollowed := true, recurses := true, apart := false, narrowed := true }
def GcRingUptoSaid : Prop := gcRingUptoRow.holds Try.pinned (OpenSpec.upto gcRingSpec)

/-- 'loomlaw12.GcTwice', WHERE WHAT IT READS IS OF BULK AT MOST 1048576: true; the input reads as it did. -/
def gcTwiceUptoRow : OpenClaim := { program := "ytgakkkifohkikaa", sum := "f4493d42dec256d73ccb7da65da8d4131e1a6006a70c34a84ae973424b991800", func := "loom/loomlaw12.GcTwice", spec := "gcTwice", inPlace := ["slices.overlaps[int]", "slices.overlaps[loom/api.Block]"], unfollowed := true, recurses := true, apart := false, narrowed := true }
def GcTwiceUptoSaid : Prop := gcTwiceUptoRow.holds Try.pinned (OpenSpec.upto gcTwiceSpec)

/-- 'loomlaw12.GcCollects', WHERE WHAT IT READS IS OF BULK AT MOST 1048576: true; the input reads as it did. -/
def gcCollectsUptoRow : OpenClaim := { program := "ytgakkkifohkikaa", sum := "f4493d42dec256d73ccb7da65da8d4131e1a6006a70c34a84ae973424b991800", func := "loom/loomlaw12.GcCollects", spec := "gcCollects", inPlace := ["slices.overlaps[int]", "slices.overlaps[loom/api.Block]"], unfollowed := true, recurses := true, apart := false, narrowed := true }
def GcCollectsUptoSaid : Prop := gcCollectsUptoRow.holds Try.pinned (OpenSpec.upto gcCollectsSpec)

end Rows
end Go.Proofs.Ytgakkkifohkikaa
