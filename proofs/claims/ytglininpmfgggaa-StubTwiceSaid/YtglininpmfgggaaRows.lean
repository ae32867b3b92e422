/-
  No cell of these rows narrows 'for every input' (looked for: loops, veiled, ifaces, maps, wideKeys, modest, calm, conditions, laid).
  DERIVED. THE GIVEN ROWS OF THIS SEAT. 8 by the template 'for every input the law returns true; each argument reads behind the call as it read before'; 0 by the template 'total and deterministic' (their statements: YtglininpmfgggaaTotals.lean).
  GIVEN WITH THE SEED: the statements are not yours to turn. If you find one false, say at which input.
  Laid BY PROGRAM, IN A SANDBOX (cutbox-rows.mjs): the forced cells as the released guide's own fill.sh prints them over the translation 95b65d69228f879a… (all of the seat's roots in one cut). By AI agents, Wed Nov 11 2026. No macro, syntax, notation, axiom, sorry.
-/
import Derived.Test.YtglininpmfgggaaChecked
import GoSem.Claim
import GoSem.ClaimJoined
import GoSem.ClaimMapViews
import Derived.JoinedTies
import Derived.KernelRfl
namespace Go.Proofs.Ytglininpmfgggaa
/- THE CELL 'sum', in the pinned program and in every row, IS THE sha256 OF THE DUMP (.gsa) THAT YtglininpmfgggaaProg.lean LOADS. Nothing in Lean hashes anything: it is a label: what it is worth is what the hold of that sum in a sandbox is worth. -/
noncomputable def Try.pinned : Pinned := { name := "ytglininpmfgggaa", sum := "95b65d69228f879a68ceca4526b781dd1c569626b8fb923bee50f9c7ba223d14", checked := Try.checked }
namespace Rows
def none {H : Type} : Left H := { results := [], args := [] }

/-- 'mooringlaw18.StubAny': WHATEVER THE INPUT: true; the input reads as it did. -/
def stubAnySpec : ChangeSpec := { name := "stubAny", fn := fun _ => fun
  | [d1, d2, d3] => { results := [.lit (.bool true)], args := [d1, d2, d3] }
  | _ => none }
def stubAnyRow : OpenClaim := { program := "ytglininpmfgggaa", sum := "95b65d69228f879a68ceca4526b781dd1c569626b8fb923bee50f9c7ba223d14", func := "mooring/mooringlaw18.StubAny", spec := "stubAny", inPlace := ["slices.overlaps[uint64]", "slices.overlaps[mooring/api.Stub]"], plainKeys := false, apart := false }
def StubAnySaid : Prop := stubAnyRow.holds Try.pinned (OpenSpec.ofChange stubAnySpec)

/-- ITS FALSE NEIGHBOUR: 'it returns false'. Refute it at one input. -/
def stubAnyWrong : ChangeSpec := { name := "stubAny", fn := fun _ => fun
  | [d1, d2, d3] => { results := [.lit (.bool false)], args := [d1, d2, d3] }
  | _ => none }
def StubAnyWrongFalsely : Prop := stubAnyRow.holds Try.pinned (OpenSpec.ofChange stubAnyWrong)

/-- 'mooringlaw18.StubTurn': WHATEVER THE INPUT: true; the input reads as it did. -/
def stubTurnSpec : ChangeSpec := { name := "stubTurn", fn := fun _ => fun
  | [d1, d2] => { results := [.lit (.bool true)], args := [d1, d2] }
  | _ => none }
def stubTurnRow : OpenClaim := { program := "ytglininpmfgggaa", sum := "95b65d69228f879a68ceca4526b781dd1c569626b8fb923bee50f9c7ba223d14", func := "mooring/mooringlaw18.StubTurn", spec := "stubTurn", inPlace := ["slices.overlaps[uint64]", "slices.overlaps[mooring/api.Stub]"], plainKeys := false, apart := false }
def StubTurnSaid : Prop := stubTurnRow.holds Try.pinned (OpenSpec.ofChange stubTurnSpec)

/-- ITS FALSE NEIGHBOUR: 'it returns false'. Refute it at one input. -/
def stubTurnWrong : ChangeSpec := { name := "stubTurn", fn := fun _ => fun
  | [d1, d2] => { results := [.lit (.bool false)], args := [d1, d2] }
  | _ => none }
def StubTurnWrongFalsely : Prop := stubTurnRow.holds Try.pinned (OpenSpec.ofChange stubTurnWrong)

/-- 'mooringlaw18.StubFull': WHATEVER THE INPUT: true; the input reads as it did. -/
def stubFullSpec : ChangeSpec := { name := "stubFull", fn := fun _ => fun
  | [d1, d2] => { results := [.lit (.bool true)], args := [d1, d2] }
  | _ => none }
def stubFullRow : OpenClaim := { program := "ytglininpmfgggaa", sum := "95b65d69228f879a68ceca4526b781dd1c569626b8fb923bee50f9c7ba223d14", func := "mooring/mooringlaw18.StubFull", spec := "stubFull", inPlace := ["slices.overlaps[uint64]", "slices.overlaps[mooring/api.Stub]"], plainKeys := false, apart := false }
def StubFullSaid : Prop := stubFullRow.holds Try.pinned (OpenSpec.ofChange stubFullSpec)

/-- ITS FALSE NEIGHBOUR: 'it returns false'. Refute it at one input. -/
def stubFullWrong : ChangeSpec := { name := "stubFull", fn := fun _ => fun
  | [d1, d2] => { results := [.lit (.bool false)], args := [d1, d2] }
  | _ => none }
def StubFullWrongFalsely : Prop := stubFullRow.holds Try.pinned (OpenSpec.ofChange stubFullWrong)

/-- 'mooringlaw18.StubLapsed': WHATEVER THE INPUT: true; the input reads as it did. -/
def stubLapsedSpec : ChangeSpec := { name := "stubLapsed", fn := fun _ => fun
  | [d1, d2] => { results := [.lit (.bool true)], args := [d1, d2] }
  | _ => none }
def stubLapsedRow : OpenClaim := { program := "ytglininpmfgggaa", sum := "95b65d69228f879a68ceca4526b781dd1c569626b8fb923bee50f9c7ba223d14", func := "mooring/mooringlaw18.StubLapsed", spec := "stubLapsed", inPlace := ["slices.overlaps[uint64]", "slices.overlaps[mooring/api.Stub]"], plainKeys := false, apart := false }
def StubLapsedSaid : Prop := stubLapsedRow.holds Try.pinned (OpenSpec.ofChange stubLapsedSpec)

/-- ITS FALSE NEIGHBOUR: 'it returns false'. Refute it at one input. -/
def stubLapsedWrong : ChangeSpec := { name := "stubLapsed", fn := fun _ => fun
  | [d1, d2] => { results := [.lit (.bool false)], args := [d1, d2] }
  | _ => none }
def StubLapsedWrongFalsely : Prop := stubLapsedRow.holds Try.pinned (OpenSpec.ofChange stubLapsedWrong)

/-- 'mooringlaw18.StubTwice': WHATEVER THE INPUT: true; the input reads as it did. -/
def stubTwiceSpec : ChangeSpec := { name := "stubTwice", fn := fun _ => fun
  | [d1, d2, d3] => { results := [.lit (.bool true)], args := [d1, d2, d3] }
  | _ => none }
def stubTwiceRow : OpenClaim := { program := "ytglininpmfgggaa", sum := "95b65d69228f879a68ceca4526b781dd1c569626b8fb923bee50f9c7ba223d14", func := "mooring/mooringlaw18.StubTwice", spec := "stubTwice", inPlace := ["slices.overlaps[uint64]", "slices.overlaps[mooring/api.Stub]"], plainKeys := false, apart := false }
def StubTwiceSaid : Prop := stubTwiceRow.holds Try.pinned (OpenSpec.ofChange stubTwiceSpec)

/-- ITS FALSE NEIGHBOUR: 'it returns false'. Refute it at one input. -/
def stubTwiceWrong : ChangeSpec := { name := "stubTwice", fn := fun _ => fun
  | [d1, d2, d3] => { results := [.lit (.bool false)], args := [d1, d2, d3] }
  | _ => none }
def StubTwiceWrongFalsely : Prop := stubTwiceRow.holds Try.pinned (OpenSpec.ofChange stubTwiceWrong)

/-- 'mooringlaw18.StubKnown': WHATEVER THE INPUT: true; the input reads as it did. -/
def stubKnownSpec : ChangeSpec := { name := "stubKnown", fn := fun _ => fun
  | [] => { results := [.lit (.bool true)], args := [] }
  | _ => none }
def stubKnownRow : OpenClaim := { program := "ytglininpmfgggaa", sum := "95b65d69228f879a68ceca4526b781dd1c569626b8fb923bee50f9c7ba223d14", func := "mooring/mooringlaw18.StubKnown", spec := "stubKnown", inPlace := ["slices.overlaps[uint64]", "slices.overlaps[mooring/api.Stub]"], plainKeys := false, apart := false }
def StubKnownSaid : Prop := stubKnownRow.holds Try.pinned (OpenSpec.ofChange stubKnownSpec)

/-- ITS FALSE NEIGHBOUR: 'it returns false'. Refute it at one input. -/
def stubKnownWrong : ChangeSpec := { name := "stubKnown", fn := fun _ => fun
  | [] => { results := [.lit (.bool false)], args := [] }
  | _ => none }
def StubKnownWrongFalsely : Prop := stubKnownRow.holds Try.pinned (OpenSpec.ofChange stubKnownWrong)

/-- 'mooringlaw18.StubPlays': WHATEVER THE INPUT: true; the input reads as it did. -/
def stubPlaysSpec : ChangeSpec := { name := "stubPlays", fn := fun _ => fun
  | [d1, d2, d3, d4] => { results := [.lit (.bool true)], args := [d1, d2, d3, d4] }
  | _ => none }
def stubPlaysRow : OpenClaim := { program := "ytglininpmfgggaa", sum := "95b65d69228f879a68ceca4526b781dd1c569626b8fb923bee50f9c7ba223d14", func := "mooring/mooringlaw18.StubPlays", spec := "stubPlays", inPlace := ["slices.overlaps[uint64]", "slices.overlaps[mooring/api.Stub]"], plainKeys := false, apart := false }
def StubPlaysSaid : Prop := stubPlaysRow.holds Try.pinned (OpenSpec.ofChange stubPlaysSpec)

/-- ITS FALSE NEIGHBOUR: 'it returns false'. Refute it at one input. -/
def stubPlaysWrong : ChangeSpec := { name := "stubPlays", fn := fun _ => fun
  | [d1, d2, d3, d4] => { results := [.lit (.bool false)], args := [d1, d2, d3, d4] }
  | _ => none }
def StubPlaysWrongFalsely : Prop := stubPlaysRow.holds Try.pinned (OpenSpec.ofChange stubPlaysWrong)

/-- 'mooringlaw18.StubNumbers': WHATEVER THE INPUT: true; the input reads as it did. -/
def stubNumbersSpec : ChangeSpec := { name := "stubNumbers", fn := fun _ => fun
  | [d1, d2] => { results := [.lit (.bool true)], args := [d1, d2] }
  | _ => none }
def stubNumbersRow : OpenClaim := { program := "ytglininpmfgggaa", sum := "95b65d69228f879a68ceca4526b781dd1c569626b8fb923bee50f9c7ba223d14", func := "mooring/mooringlaw18.StubNumbers", spec := "stubNumbers", inPlace := ["slices.overlaps[uint64]", "slices.overlaps[mooring/api.Stub]"], plainKeys := false, apart := false }
def StubNumbersSaid : Prop := stubNumbersRow.holds Try.pinned (OpenSpec.ofChange stubNumbersSpec)

/-- ITS FALSE NEIGHBOUR: 'it returns false'. Refute it at one input. -/
def stubNumbersWrong : ChangeSpec := { name := "stubNumbers", fn := fun _ => fun
  | [d1, d2] => { results := [.lit (.bool false)], args := [d1, d2] }
  | _ => none }
def StubNumbersWrongFalsely : Prop := stubNumbersRow.holds Try.pinned (OpenSpec.ofChange stubNumbersWrong)

/- THE SECOND FORM. 'bulk': how many values and letters a reading holds, each counted each time it is reached (what is shared counts as often as it is met; a slice's spare places count too). A statement '..UptoSaid' is the law's where the arguments, and the package variables that the reading takes, are together of bulk at most 1048576: NARROWER than '..Said'. Prove '..Said' where nothing that the law and all that it calls make is longer than what came in: it says more and counts as full. Else prove '..UptoSaid'. A law counts once. -/
mutual
def uptoBulk {H : Type} : DataW H → Nat
  | .lit (.string bytes) => bytes.length + 1
  | .lit _ => 1
  | .nil => 1
  | .ptr d => uptoBulk d + 1
  | .slice elems spare => uptoBulkAll elems + uptoBulkAll spare + 1
  | .agg parts => uptoBulkAll parts + 1
  | .iface _ d => uptoBulk d + 1
  | .map entries => uptoBulkEntries entries + 1
  | .held _ => 1
def uptoBulkAll {H : Type} : List (DataW H) → Nat
  | [] => 0
  | d :: r => uptoBulk d + uptoBulkAll r
def uptoBulkEntries {H : Type} : List (Lit × DataW H) → Nat
  | [] => 0
  | x :: r => uptoBulkEntry x + uptoBulkEntries r
def uptoBulkEntry {H : Type} : Lit × DataW H → Nat
  | (.string bytes, d) => bytes.length + uptoBulk d + 1
  | (_, d) => uptoBulk d + 1
 end
def uptoSmall : (H : Type) → List (DataW H) → Bool := fun _ ds => decide (uptoBulkAll ds ≤ 1048576)
def OpenSpec.upto (s : _root_.Go.ChangeSpec) : _root_.Go.OpenSpec := { _root_.Go.OpenSpec.ofChange s with cond := some uptoSmall }

/-- 'mooringlaw18.StubAny', WHERE WHAT IT READS IS OF BULK AT MOST 1048576: true; the input reads as it did. -/
def stubAnyUptoRow : OpenClaim := { program := "ytglininpmfgggaa", sum := "95b65d69228f879a68ceca4526b781dd1c569626b8fb923bee50f9c7ba223d14", func := "mooring/mooringlaw18.StubAny", spec := "stubAny", inPlace := ["slices.overlaps[uint64]", "slices.overlaps[mooring/api.Stub]"], plainKeys := false, apart := false, narrowed := true }
def StubAnyUptoSaid : Prop := stubAnyUptoRow.holds Try.pinned (OpenSpec.upto stubAnySpec)

/-- 'mooringlaw18.StubTurn', WHERE WHAT IT READS IS OF BULK AT MOST 1048576: true; the input reads as it did. -/
def stubTurnUptoRow : OpenClaim := { program := "ytglininpmfgggaa", sum := "95b65d69228f879a68ceca4526b781dd1c569626b8fb923bee50f9c7ba223d14", func := "mooring/mooringlaw18.StubTurn", spec := "stubTurn", inPlace := ["slices.overlaps[uint64]", "slices.overlaps[mooring/api.Stub]"], plainKeys := false, apart := false, narrowed := true }
def StubTurnUptoSaid : Prop := stubTurnUptoRow.holds Try.pinned (OpenSpec.upto stubTurnSpec)

/-- 'mooringlaw18.StubFull', WHERE WHAT IT READS IS OF BULK AT MOST 1048576: true; the input reads as it did. -/
def stubFullUptoRow : OpenClaim := { program := "ytglininpmfgggaa", sum := "95b65d69228f879a68ceca4526b781dd1c569626b8fb923bee50f9c7ba223d14", func := "mooring/mooringlaw18.StubFull", spec := "stubFull", inPlace := ["slices.overlaps[uint64]", "slices.overlaps[mooring/api.Stub]"], plainKeys := false, apart := false, narrowed := true }
def StubFullUptoSaid : Prop := stubFullUptoRow.holds Try.pinned (OpenSpec.upto stubFullSpec)

/-- 'mooringlaw18.StubLapsed', WHERE WHAT IT READS IS OF BULK AT MOST 1048576: true; the input reads as it did. -/
def stubLapsedUptoRow : OpenClaim := { program := "ytglininpmfgggaa", sum := "95b65d69228f879a68ceca4526b781dd1c569626b8fb923bee50f9c7ba223d14", func := "mooring/mooringlaw18.StubLapsed", spec := "stubLapsed", inPlace := ["slices.overlaps[uint64]", "slices.overlaps[mooring/api.Stub]"], plainKeys := false, apart := false, narrowed := true }
def StubLapsedUptoSaid : Prop := stubLapsedUptoRow.holds Try.pinned (OpenSpec.upto stubLapsedSpec)

/-- 'mooringlaw18.StubTwice', WHERE WHAT IT READS IS OF BULK AT MOST 1048576: true; the input reads as it did. -/
def stubTwiceUptoRow : OpenClaim := { program := "ytglininpmfgggaa", sum := "95b65d69228f879a68ceca4526b781dd1c569626b8fb923bee50f9c7ba223d14", func := "mooring/mooringlaw18.StubTwice", spec := "stubTwice", inPlace := ["slices.overlaps[uint64]", "slices.overlaps[mooring/api.Stub]"], plainKeys := false, apart := false, narrowed := true }
def StubTwiceUptoSaid : Prop := stubTwiceUptoRow.holds Try.pinned (OpenSpec.upto stubTwiceSpec)

/-- 'mooringlaw18.StubKnown', WHERE WHAT IT READS IS OF BULK AT MOST 1048576: true; the input reads as it did. -/
def stubKnownUptoRow : OpenClaim := { program := "ytglininpmfgggaa", sum := "95b65d69228f879a68ceca4526b781dd1c569626b8fb923bee50f9c7ba223d14", func := "mooring/mooringlaw18.StubKnown", spec := "stubKnown", inPlace := ["slices.overlaps[uint64]", "slices.overlaps[mooring/api.Stub]"], plainKeys := false, apart := false, narrowed := true }
def StubKnownUptoSaid : Prop := stubKnownUptoRow.holds Try.pinned (OpenSpec.upto stubKnownSpec)

/-- 'mooringlaw18.StubPlays', WHERE WHAT IT READS IS OF BULK AT MOST 1048576: true; the input reads as it did. -/
def stubPlaysUptoRow : OpenClaim := { program := "ytglininpmfgggaa", sum := "95b65d69228f879a68ceca4526b781dd1c569626b8fb923bee50f9c7ba223d14", func := "mooring/mooringlaw18.StubPlays", spec := "stubPlays", inPlace := ["slices.overlaps[uint64]", "slices.overlaps[mooring/api.Stub]"], plainKeys := false, apart := false, narrowed := true }
def StubPlaysUptoSaid : Prop := stubPlaysUptoRow.holds Try.pinned (OpenSpec.upto stubPlaysSpec)

/-- 'mooringlaw18.StubNumbers', WHERE WHAT IT READS IS OF BULK AT MOST 1048576: true; the input reads as it did. -/
def stubNumbersUptoRow : OpenClaim := { program := "ytglininpmfgggaa", sum := "95b65d69228f879a68ceca4526b781dd1c569626b8fb923bee50f9c7ba223d14", func := "mooring/mooringlaw18.StubNumbers", spec := "stubNumbers", inPlace := ["slices.overlaps[uint64]", "slices.overlaps[mooring/api.Stub]"], plainKeys := false, apart := false, narrowed := true }
def StubNumbersUptoSaid : Prop := stubNumbersUptoRow.holds Try.pinned (OpenSpec.upto stubNumbersSpec)

end Rows
end Go.Proofs.Ytglininpmfgggaa
