/-
  No cell of these rows narrows 'for every input' (looked for: loops, veiled, ifaces, maps, wideKeys, modest, calm, conditions, laid).
  DERIVED. THE GIVEN ROWS OF THIS SEAT. 6 by the template 'for every input the law returns true; each argument reads behind the call as it read before'; 0 by the template 'total and deterministic' (their statements: YtjkakhjajfpldaaTotals.lean).
  GIVEN WITH THE SEED: the statements are not yours to turn. If you find one false, say at which input.
  Laid BY PROGRAM, IN A SANDBOX (cutbox-rows.mjs): the forced cells as the released guide's own fill.sh prints them over the translation bdd93194d591ccf2… (all of the seat's roots in one cut). By AI agents, Wed Nov 11 2026. No macro, syntax, notation, axiom, sorry.
-/
import Derived.Test.YtjkakhjajfpldaaChecked
import GoSem.Claim
import GoSem.ClaimJoined
import GoSem.ClaimMapViews
import Derived.JoinedTies
import Derived.KernelRfl
namespace Go.Proofs.Ytjkakhjajfpldaa
/- THE CELL 'sum', in the pinned program and in every row, IS THE sha256 OF THE DUMP (.gsa) THAT YtjkakhjajfpldaaProg.lean LOADS. Nothing in Lean hashes anything: it is a label: what it is worth is what the hold of that sum in a sandbox is worth. -/
noncomputable def Try.pinned : Pinned := { name := "ytjkakhjajfpldaa", sum := "bdd93194d591ccf22d80a47dd2b9349058fe7bfb14910a39a35ccd4ed52369fd", checked := Try.checked }
namespace Rows
def none {H : Type} : Left H := { results := [], args := [] }

/-- 'loomlaw17.RaceClocks': WHATEVER THE INPUT: true; the input reads as it did. -/
def raceClocksSpec : ChangeSpec := { name := "raceClocks", fn := fun _ => fun
  | [d1, d2, d3] => { results := [.lit (.bool true)], args := [d1, d2, d3] }
  | _ => none }
def raceClocksRow : OpenClaim := { program := "ytjkakhjajfpldaa", sum := "bdd93194d591ccf22d80a47dd2b9349058fe7bfb14910a39a35ccd4ed52369fd", func := "loom/loomlaw17.RaceClocks", spec := "raceClocks", plainKeys := false, apart := false }
def RaceClocksSaid : Prop := raceClocksRow.holds Try.pinned (OpenSpec.ofChange raceClocksSpec)

/-- ITS FALSE NEIGHBOUR: 'it returns false'. Refute it at one input. -/
def raceClocksWrong : ChangeSpec := { name := "raceClocks", fn := fun _ => fun
  | [d1, d2, d3] => { results := [.lit (.bool false)], args := [d1, d2, d3] }
  | _ => none }
def RaceClocksWrongFalsely : Prop := raceClocksRow.holds Try.pinned (OpenSpec.ofChange raceClocksWrong)

/-- 'loomlaw17.RaceVolatile': WHATEVER THE INPUT: true; the input reads as it did. -/
def raceVolatileSpec : ChangeSpec := { name := "raceVolatile", fn := fun _ => fun
  | [d1, d2] => { results := [.lit (.bool true)], args := [d1, d2] }
  | _ => none }
def raceVolatileRow : OpenClaim := { program := "ytjkakhjajfpldaa", sum := "bdd93194d591ccf22d80a47dd2b9349058fe7bfb14910a39a35ccd4ed52369fd", func := "loom/loomlaw17.RaceVolatile", spec := "raceVolatile", plainKeys := false, apart := false }
def RaceVolatileSaid : Prop := raceVolatileRow.holds Try.pinned (OpenSpec.ofChange raceVolatileSpec)

/-- ITS FALSE NEIGHBOUR: 'it returns false'. Refute it at one input. -/
def raceVolatileWrong : ChangeSpec := { name := "raceVolatile", fn := fun _ => fun
  | [d1, d2] => { results := [.lit (.bool false)], args := [d1, d2] }
  | _ => none }
def RaceVolatileWrongFalsely : Prop := raceVolatileRow.holds Try.pinned (OpenSpec.ofChange raceVolatileWrong)

/-- 'loomlaw17.RaceReads': WHATEVER THE INPUT: true; the input reads as it did. -/
def raceReadsSpec : ChangeSpec := { name := "raceReads", fn := fun _ => fun
  | [d1, d2] => { results := [.lit (.bool true)], args := [d1, d2] }
  | _ => none }
def raceReadsRow : OpenClaim := { program := "ytjkakhjajfpldaa", sum := "bdd93194d591ccf22d80a47dd2b9349058fe7bfb14910a39a35ccd4ed52369fd", func := "loom/loomlaw17.RaceReads", spec := "raceReads", plainKeys := false, apart := false }
def RaceReadsSaid : Prop := raceReadsRow.holds Try.pinned (OpenSpec.ofChange raceReadsSpec)

/-- ITS FALSE NEIGHBOUR: 'it returns false'. Refute it at one input. -/
def raceReadsWrong : ChangeSpec := { name := "raceReads", fn := fun _ => fun
  | [d1, d2] => { results := [.lit (.bool false)], args := [d1, d2] }
  | _ => none }
def RaceReadsWrongFalsely : Prop := raceReadsRow.holds Try.pinned (OpenSpec.ofChange raceReadsWrong)

/-- 'loomlaw17.RaceLocked': WHATEVER THE INPUT: true; the input reads as it did. -/
def raceLockedSpec : ChangeSpec := { name := "raceLocked", fn := fun _ => fun
  | [d1, d2] => { results := [.lit (.bool true)], args := [d1, d2] }
  | _ => none }
def raceLockedRow : OpenClaim := { program := "ytjkakhjajfpldaa", sum := "bdd93194d591ccf22d80a47dd2b9349058fe7bfb14910a39a35ccd4ed52369fd", func := "loom/loomlaw17.RaceLocked", spec := "raceLocked", plainKeys := false, apart := false }
def RaceLockedSaid : Prop := raceLockedRow.holds Try.pinned (OpenSpec.ofChange raceLockedSpec)

/-- ITS FALSE NEIGHBOUR: 'it returns false'. Refute it at one input. -/
def raceLockedWrong : ChangeSpec := { name := "raceLocked", fn := fun _ => fun
  | [d1, d2] => { results := [.lit (.bool false)], args := [d1, d2] }
  | _ => none }
def RaceLockedWrongFalsely : Prop := raceLockedRow.holds Try.pinned (OpenSpec.ofChange raceLockedWrong)

/-- 'loomlaw17.RaceBegun': WHATEVER THE INPUT: true; the input reads as it did. -/
def raceBegunSpec : ChangeSpec := { name := "raceBegun", fn := fun _ => fun
  | [d1, d2] => { results := [.lit (.bool true)], args := [d1, d2] }
  | _ => none }
def raceBegunRow : OpenClaim := { program := "ytjkakhjajfpldaa", sum := "bdd93194d591ccf22d80a47dd2b9349058fe7bfb14910a39a35ccd4ed52369fd", func := "loom/loomlaw17.RaceBegun", spec := "raceBegun", plainKeys := false, apart := false }
def RaceBegunSaid : Prop := raceBegunRow.holds Try.pinned (OpenSpec.ofChange raceBegunSpec)

/-- ITS FALSE NEIGHBOUR: 'it returns false'. Refute it at one input. -/
def raceBegunWrong : ChangeSpec := { name := "raceBegun", fn := fun _ => fun
  | [d1, d2] => { results := [.lit (.bool false)], args := [d1, d2] }
  | _ => none }
def RaceBegunWrongFalsely : Prop := raceBegunRow.holds Try.pinned (OpenSpec.ofChange raceBegunWrong)

/-- 'loomlaw17.RacePlays': WHATEVER THE INPUT: true; the input reads as it did. -/
def racePlaysSpec : ChangeSpec := { name := "racePlays", fn := fun _ => fun
  | [d] => { results := [.lit (.bool true)], args := [d] }
  | _ => none }
def racePlaysRow : OpenClaim := { program := "ytjkakhjajfpldaa", sum := "bdd93194d591ccf22d80a47dd2b9349058fe7bfb14910a39a35ccd4ed52369fd", func := "loom/loomlaw17.RacePlays", spec := "racePlays", plainKeys := false, apart := false }
def RacePlaysSaid : Prop := racePlaysRow.holds Try.pinned (OpenSpec.ofChange racePlaysSpec)

/-- ITS FALSE NEIGHBOUR: 'it returns false'. Refute it at one input. -/
def racePlaysWrong : ChangeSpec := { name := "racePlays", fn := fun _ => fun
  | [d] => { results := [.lit (.bool false)], args := [d] }
  | _ => none }
def RacePlaysWrongFalsely : Prop := racePlaysRow.holds Try.pinned (OpenSpec.ofChange racePlaysWrong)

/- THE SECOND FORM. 'bulk': how many values and letters a reading holds, each counted each time it is reached (what is shared counts as often as it is met; a slice's spare places count too). A statement '..UptoSaid' is the law's where the arguments, and the package variables that the reading takes, are together of bulk at most 1048576: NARROWER than '..Said'. Prove '..Said' where nothing that the law and all that it calls make is longer than what came in: it says more and counts as full. Else prove '..UptoSaid'. A law counts once. -/
mutual
def uptoBulk {H : Type} : DataW H → Nat
  | .lit (.string bytes) => bytes.length + 1
  | .lit _ => 1
  | .nil => 1
  | .ptr d => uptoBulk d + 1
  | .slice elems spare => uptoBulkAll elems + uptoBulkAll spare + 1
  | .agg parts => uptoBulkAll parts + 1
  | .iface _ d => uptoBulk d + 1
  | .map entries => uptoBulkEntries entries + 1
  | .held _ => 1
def uptoBulkAll {H : Type} : List (DataW H) → Nat
  | [] => 0
  | d :: r => uptoBulk d + uptoBulkAll r
def uptoBulkEntries {H : Type} : List (Lit × DataW H) → Nat
  | [] => 0
  | x :: r => uptoBulkEntry x + uptoBulkEntries r
def uptoBulkEntry {H : Type} : Lit × DataW H → Nat
  | (.string bytes, d) => bytes.length + uptoBulk d + 1
  | (_, d) => uptoBulk d + 1
 end
def uptoSmall : (H : Type) → List (DataW H) → Bool := fun _ ds => decide (uptoBulkAll ds ≤ 1048576)
def OpenSpec.upto (s : _root_.Go.ChangeSpec) : _root_.Go.OpenSpec := { _root_.Go.OpenSpec.ofChange s with cond := some uptoSmall }

/-- 'loomlaw17.RaceClocks', WHERE WHAT IT READS IS OF BULK AT MOST 1048576: true; the input reads as it did. -/
def raceClocksUptoRow : OpenClaim := { program := "ytjkakhjajfpldaa", sum := "bdd93194d591ccf22d80a47dd2b9349058fe7bfb14910a39a35ccd4ed52369fd", func := "loom/loomlaw17.RaceClocks", spec := "raceClocks", plainKeys := false, apart := false, narrowed := true }
def RaceClocksUptoSaid : Prop := raceClocksUptoRow.holds Try.pinned (OpenSpec.upto raceClocksSpec)

/-- 'loomlaw17.RaceVolatile', WHERE WHAT IT READS IS OF BULK AT MOST 1048576: true; the input reads as it did. -/
def raceVolatileUptoRow : OpenClaim := { program := "ytjkakhjajfpldaa", sum := "bdd93194d591ccf22d80a47dd2b9349058fe7bfb14910a39a35ccd4ed52369fd", func := "loom/loomlaw17.RaceVolatile", spec := "raceVolatile", plainKeys := false, apart := false, narrowed := true }
def RaceVolatileUptoSaid : Prop := raceVolatileUptoRow.holds Try.pinned (OpenSpec.upto raceVolatileSpec)

/-- 'loomlaw17.RaceReads', WHERE WHAT IT READS IS OF BULK AT MOST 1048576: true; the input reads as it did. -/
def raceReadsUptoRow : OpenClaim := { program := "ytjkakhjajfpldaa", sum := "bdd93194d591ccf22d80a47dd2b9349058fe7bfb14910a39a35ccd4ed52369fd", func := "loom/loomlaw17.RaceReads", spec := "raceReads", plainKeys := false, apart := false, narrowed := true }
def RaceReadsUptoSaid : Prop := raceReadsUptoRow.holds Try.pinned (OpenSpec.upto raceReadsSpec)

/-- 'loomlaw17.RaceLocked', WHERE WHAT IT READS IS OF BULK AT MOST 1048576: true; the input reads as it did. -/
def raceLockedUptoRow : OpenClaim := { program := "ytjkakhjajfpldaa", sum := "bdd93194d591ccf22d80a47dd2b9349058fe7bfb14910a39a35ccd4ed52369fd", func := "loom/loomlaw17.RaceLocked", spec := "raceLocked", plainKeys := false, apart := false, narrowed := true }
def RaceLockedUptoSaid : Prop := raceLockedUptoRow.holds Try.pinned (OpenSpec.upto raceLockedSpec)

/-- 'loomlaw17.RaceBegun', WHERE WHAT IT READS IS OF BULK AT MOST 1048576: true; the input reads as it did. -/
def raceBegunUptoRow : OpenClaim := { program := "ytjkakhjajfpldaa", sum := "bdd93194d591ccf22d80a47dd2b9349058fe7bfb14910a39a35ccd4ed52369fd", func := "loom/loomlaw17.RaceBegun", spec := "raceBegun", plainKeys := false, apart := false, narrowed := true }
def RaceBegunUptoSaid : Prop := raceBegunUptoRow.holds Try.pinned (OpenSpec.upto raceBegunSpec)

/-- 'loomlaw17.RacePlays', WHERE WHAT IT READS IS OF BULK AT MOST 1048576: true; the input reads as it did. -/
def racePlaysUptoRow : OpenClaim := { program := "ytjkakhjajfpldaa", sum := "bdd93194d591ccf22d80a47dd2b9349058fe7bfb14910a39a35ccd4ed52369fd", func := "loom/loomlaw17.RacePlays", spec := "racePlays", plainKeys := false, apart := false, narrowed := true }
def RacePlaysUptoSaid : Prop := racePlaysUptoRow.holds Try.pinned (OpenSpec.upto racePlaysSpec)

end Rows
end Go.Proofs.Ytjkakhjajfpldaa
