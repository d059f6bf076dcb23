/-
  No cell of these rows narrows 'for every input' (looked for: loops, veiled, ifaces, maps, wideKeys, modest, calm, conditions, laid).
  DERIVED. THE GIVEN ROWS OF THIS SEAT. 5 by the template 'for every input the law returns true; each argument reads behind the call as it read before'; 0 by the template 'total and deterministic' (their statements: YthdmgjkipiaccaaTotals.lean).
  GIVEN WITH THE SEED: the statements are not yours to turn. If you find one false, say at which input.
  Laid BY PROGRAM, IN A SANDBOX (cutbox-rows.mjs): the forced cells as the released guide's own fill.sh prints them over the translation cd89e242c5bb286f… (all of the seat's roots in one cut). By AI agents, Wed Nov 11 2026. No macro, syntax, notation, axiom, sorry.
-/
import Derived.Test.YthdmgjkipiaccaaChecked
import GoSem.Claim
import GoSem.ClaimJoined
import GoSem.ClaimMapViews
import Derived.JoinedTies
import Derived.KernelRfl
namespace Go.Proofs.Ythdmgjkipiaccaa
/- THE CELL 'sum', in the pinned program and in every row, IS THE sha256 OF THE DUMP (.gsa) THAT YthdmgjkipiaccaaProg.lean LOADS. Nothing in Lean hashes anything: it is a label: what it is worth is what the hold of that sum in a sandbox is worth. -/
noncomputable def Try.pinned : Pinned := { name := "ythdmgjkipiaccaa", sum := "cd89e242c5bb286faac1dd21abdd927ec4ae5bddcfa49b7405fd17017fb1bc86", checked := Try.checked }
namespace Rows
def none {H : Type} : Left H := { results := [], args := [] }

/-- 'loomlaw13.MonitorFair': WHATEVER THE INPUT: true; the input reads as it did. -/
def monitorFairSpec : ChangeSpec := { name := "monitorFair", fn := fun _ => fun
  | [d] => { results := [.lit (.bool true)], args := [d] }
  | _ => none }
def monitorFairRow : OpenClaim := { program := "ythdmgjkipiaccaa", sum := "cd89e242c5bb286faac1dd21abdd927ec4ae5bddcfa49b7405fd17017fb1bc86", func := "loom/loomlaw13.MonitorFair", spec := "monitorFair", plainKeys := false, apart := false }
def MonitorFairSaid : Prop := monitorFairRow.holds Try.pinned (OpenSpec.ofChange monitorFairSpec)

/-- ITS FALSE NEIGHBOUR: 'it returns false'. Refute it at one input. -/
def monitorFairWrong : ChangeSpec := { name := "monitorFair", fn := fun _ => fun
  | [d] => { results := [.lit (.bool false)], args := [d] }
  | _ => none }
def MonitorFairWrongFalsely : Prop := monitorFairRow.holds Try.pinned (OpenSpec.ofChange monitorFairWrong)

/-- 'loomlaw13.MonitorWaits': WHATEVER THE INPUT: true; the input reads as it did. -/
def monitorWaitsSpec : ChangeSpec := { name := "monitorWaits", fn := fun _ => fun
  | [d1, d2, d3] => { results := [.lit (.bool true)], args := [d1, d2, d3] }
  | _ => none }
def monitorWaitsRow : OpenClaim := { program := "ythdmgjkipiaccaa", sum := "cd89e242c5bb286faac1dd21abdd927ec4ae5bddcfa49b7405fd17017fb1bc86", func := "loom/loomlaw13.MonitorWaits", spec := "monitorWaits", plainKeys := false, apart := false }
def MonitorWaitsSaid : Prop := monitorWaitsRow.holds Try.pinned (OpenSpec.ofChange monitorWaitsSpec)

/-- ITS FALSE NEIGHBOUR: 'it returns false'. Refute it at one input. -/
def monitorWaitsWrong : ChangeSpec := { name := "monitorWaits", fn := fun _ => fun
  | [d1, d2, d3] => { results := [.lit (.bool false)], args := [d1, d2, d3] }
  | _ => none }
def MonitorWaitsWrongFalsely : Prop := monitorWaitsRow.holds Try.pinned (OpenSpec.ofChange monitorWaitsWrong)

/-- 'loomlaw13.MonitorApart': WHATEVER THE INPUT: true; the input reads as it did. -/
def monitorApartSpec : ChangeSpec := { name := "monitorApart", fn := fun _ => fun
  | [d1, d2, d3] => { results := [.lit (.bool true)], args := [d1, d2, d3] }
  | _ => none }
def monitorApartRow : OpenClaim := { program := "ythdmgjkipiaccaa", sum := "cd89e242c5bb286faac1dd21abdd927ec4ae5bddcfa49b7405fd17017fb1bc86", func := "loom/loomlaw13.MonitorApart", spec := "monitorApart", unfollowed := true, recurses := true, plainKeys := false, apart := false }
def MonitorApartSaid : Prop := monitorApartRow.holds Try.pinned (OpenSpec.ofChange monitorApartSpec)

/-- ITS FALSE NEIGHBOUR: 'it returns false'. Refute it at one input. -/
def monitorApartWrong : ChangeSpec := { name := "monitorApart", fn := fun _ => fun
  | [d1, d2, d3] => { results := [.lit (.bool false)], args := [d1, d2, d3] }
  | _ => none }
def MonitorApartWrongFalsely : Prop := monitorApartRow.holds Try.pinned (OpenSpec.ofChange monitorApartWrong)

/-- 'loomlaw13.MonitorCounts': WHATEVER THE INPUT: true; the input reads as it did. -/
def monitorCountsSpec : ChangeSpec := { name := "monitorCounts", fn := fun _ => fun
  | [d1, d2, d3] => { results := [.lit (.bool true)], args := [d1, d2, d3] }
  | _ => none }
def monitorCountsRow : OpenClaim := { program := "ythdmgjkipiaccaa", sum := "cd89e242c5bb286faac1dd21abdd927ec4ae5bddcfa49b7405fd17017fb1bc86", func := "loom/loomlaw13.MonitorCounts", spec := "monitorCounts", unfollowed := true, recurses := true, plainKeys := false, apart := false }
def MonitorCountsSaid : Prop := monitorCountsRow.holds Try.pinned (OpenSpec.ofChange monitorCountsSpec)

/-- ITS FALSE NEIGHBOUR: 'it returns false'. Refute it at one input. -/
def monitorCountsWrong : ChangeSpec := { name := "monitorCounts", fn := fun _ => fun
  | [d1, d2, d3] => { results := [.lit (.bool false)], args := [d1, d2, d3] }
  | _ => none }
def MonitorCountsWrongFalsely : Prop := monitorCountsRow.holds Try.pinned (OpenSpec.ofChange monitorCountsWrong)

/-- 'loomlaw13.MonitorPlays': WHATEVER THE INPUT: true; the input reads as it did. -/
def monitorPlaysSpec : ChangeSpec := { name := "monitorPlays", fn := fun _ => fun
  | [d] => { results := [.lit (.bool true)], args := [d] }
  | _ => none }
def monitorPlaysRow : OpenClaim := { program := "ythdmgjkipiaccaa", sum := "cd89e242c5bb286faac1dd21abdd927ec4ae5bddcfa49b7405fd17017fb1bc86", func := "loom/loomlaw13.MonitorPlays", spec := "monitorPlays", unfollowed := true, recurses := true, plainKeys := false, apart := false }
def MonitorPlaysSaid : Prop := monitorPlaysRow.holds Try.pinned (OpenSpec.ofChange monitorPlaysSpec)

/-- ITS FALSE NEIGHBOUR: 'it returns false'. Refute it at one input. -/
def monitorPlaysWrong : ChangeSpec := { name := "monitorPlays", fn := fun _ => fun
  | [d] => { results := [.lit (.bool false)], args := [d] }
  | _ => none }
def MonitorPlaysWrongFalsely : Prop := monitorPlaysRow.holds Try.pinned (OpenSpec.ofChange monitorPlaysWrong)

/- THE SECOND FORM. 'bulk': how many values and letters a reading holds, each counted each time it is reached (what is shared counts as often as it is met; a slice's spare places count too). A statement '..UptoSaid' is the law's where the arguments, and the package variables that the reading takes, are together of bulk at most 1048576: NARROWER than '..Said'. Prove '..Said' where nothing that the law and all that it calls make is longer than what came in: it says more and counts as full. Else prove '..UptoSaid'. A law counts once. -/
mutual
def uptoBulk {H : Type} : DataW H → Nat
  | .lit (.string bytes) => bytes.length + 1
  | .lit _ => 1
  | .nil => 1
  | .ptr d => uptoBulk d + 1
  | .slice elems spare => uptoBulkAll elems + uptoBulkAll spare + 1
  | .agg parts => uptoBulkAll parts + 1
  | .iface _ d => uptoBulk d + 1
  | .map entries => uptoBulkEntries entries + 1
  | .held _ => 1
def uptoBulkAll {H : Type} : List (DataW H) → Nat
  | [] => 0
  | d :: r => uptoBulk d + uptoBulkAll r
def uptoBulkEntries {H : Type} : List (Lit × DataW H) → Nat
  | [] => 0
  | x :: r => uptoBulkEntry x + uptoBulkEntries r
def uptoBulkEntry {H : Type} : Lit × DataW H → Nat
  | (.string bytes, d) => bytes.length + uptoBulk d + 1
  | (_, d) => uptoBulk d + 1
 end
def uptoSmall : (H : Type) → List (DataW H) → Bool := fun _ ds => decide (uptoBulkAll ds ≤ 1048576)
def OpenSpec.upto (s : _root_.Go.ChangeSpec) : _root_.Go.OpenSpec := { _root_.Go.OpenSpec.ofChange s with cond := some uptoSmall }

/-- 'loomlaw13.MonitorFair', WHERE WHAT IT READS IS OF BULK AT MOST 1048576: true; the input reads as it did. -/
def monitorFairUptoRow : OpenClaim := { program := "ythdmgjkipiaccaa", sum := "cd89e242c5bb286faac1dd21abdd927ec4ae5bddcfa49b7405fd17017fb1bc86", func := "loom/loomlaw13.MonitorFair", spec := "monitorFair", plainKeys := false, apart := false, narrowed := true }
def MonitorFairUptoSaid : Prop := monitorFairUptoRow.holds Try.pinned (OpenSpec.upto monitorFairSpec)

/-- 'loomlaw13.MonitorWaits', WHERE WHAT IT READS IS OF BULK AT MOST 1048576: true; the input reads as it did. -/
def monitorWaitsUptoRow : OpenClaim := { program := "ythdmgjkipiaccaa", sum := "cd89e242c5bb286faac1dd21abdd927ec4ae5bddcfa49b7405fd17017fb1bc86", func := "loom/loomlaw13.MonitorWaits", spec := "monitorWaits", plainKeys := false, apart := false, narrowed := true }
def MonitorWaitsUptoSaid : Prop := monitorWaitsUptoRow.holds Try.pinned (OpenSpec.upto monitorWaitsSpec)

/-- 'loomlaw13.MonitorApart', WHERE WHAT IT READS IS OF BULK AT MOST 1048576: true; the input reads as it did. -/
def monitorApartUptoRow : OpenClaim := { program := "ythdmgjkipiaccaa", sum := "cd89e242c5bb286faac1dd21abdd927ec4ae5bddcfa49b7405fd17017fb1bc86", func := "loom/loomlaw13.MonitorApart", spec := "monitorApart", unfollowed := true, recurses := true, plainKeys := false, apart := false, narrowed := true }
def MonitorApartUptoSaid : Prop := monitorApartUptoRow.holds Try.pinned (OpenSpec.upto monitorApartSpec)

/-- 'loomlaw13.MonitorCounts', WHERE WHAT IT READS IS OF BULK AT MOST 1048576: true; the input reads as it did. -/
def monitorCountsUptoRow : OpenClaim := { program := "ythdmgjkipiaccaa", sum := "cd89e242c5bb286faac1dd21abdd927ec4ae5bddcfa49b7405fd17017fb1bc86", func := "loom/loomlaw13.MonitorCounts", spec := "monitorCounts", unfollowed := true, recurses := true, plainKeys := false, apart := false, narrowed := true }
def MonitorCountsUptoSaid : Prop := monitorCountsUptoRow.holds Try.pinned (OpenSpec.upto monitorCountsSpec)

/-- 'loomlaw13.MonitorPlays', WHERE WHAT IT READS IS OF BULK AT MOST 1048576: true; the input reads as it did. -/
def monitorPlaysUptoRow : OpenClaim := { program := "ythdmgjkipiaccaa", sum := "cd89e242c5bb286faac1dd21abdd927ec4ae5bddcfa49b7405fd17017fb1bc86", func := "loom/loomlaw13.MonitorPlays", spec := "monitorPlays", unfollowed := true, recurses := true, plainKeys := false, apart := false, narrowed := true }
def MonitorPlaysUptoSaid : Prop := monitorPlaysUptoRow.holds Try.pinned (OpenSpec.upto monitorPlaysSpec)

end Rows
end Go.Proofs.Ythdmgjkipiaccaa
