/-
  No cell of these rows narrows 'for every input' (looked for: loops, veiled, ifaces, maps, wideKeys, modest, calm, conditions, laid).
  DERIVED. THE GIVEN ROWS OF THIS SEAT. 9 by the template 'for every input the law returns true; each argument reads behind the call as it read before'; 0 by the template 'total and deterministic' (their statements: YtgeinpljchpdgaaTotals.lean).
  GIVEN WITH THE SEED: the statements are not yours to turn. If you find one false, say at which input.
  Laid BY PROGRAM, IN A SANDBOX (cutbox-rows.mjs): the forced cells as the released guide's own fill.sh prints them over the translation b5cb91c1d056d226… (all of the seat's roots in one cut). By AI agents, Wed Nov 11 2026. No macro, syntax, notation, axiom, sorry.
-/
import Derived.Test.YtgeinpljchpdgaaChecked
import GoSem.Claim
import GoSem.ClaimJoined
import GoSem.ClaimMapViews
import Derived.JoinedTies
import Derived.KernelRfl
namespace Go.Proofs.Ytgeinpljchpdgaa
/- THE CELL 'sum', in the pinned program and in every row, IS THE sha256 OF THE DUMP (.gsa) THAT YtgeinpljchpdgaaProg.lean LOADS. Nothing in Lean hashes anything: it is a label: what it is worth is what the hold of that sum in a sandbox is worth. -/
noncomputable def Try.pinned : Pinned := { name := "ytgeinpljchpdgaa", sum := "b5cb91c1d056d2266c7f94d319197fdf726d3544d0b0770ea52fa34ede9a5fd4", checked := Try.checked }
namespace Rows
def none {H : Type} : Left H := { results := [], args := [] }

/-- 'mooringlaw1.CodecWrites': WHATEVER THE INPUT: true; the input reads as it did. -/
def codecWritesSpec : ChangeSpec := { name := "codecWrites", fn := fun _ => fun
  | [d] => { results := [.lit (.bool true)], args := [d] }
  | _ => none }
def codecWritesRow : OpenClaim := { program := "ytgeinpljchpdgaa", sum := "b5cb91c1d056d2266c7f94d319197fdf726d3544d0b0770ea52fa34ede9a5fd4", func := "mooring/mooringlaw1.CodecWrites", spec := "codecWrites", apart := false }
def CodecWritesSaid : Prop := codecWritesRow.holds Try.pinned (OpenSpec.ofChange codecWritesSpec)

/-- ITS FALSE NEIGHBOUR: 'it returns false'. Refute it at one input. -/
def codecWritesWrong : ChangeSpec := { name := "codecWrites", fn := fun _ => fun
  | [d] => { results := [.lit (.bool false)], args := [d] }
  | _ => none }
def CodecWritesWrongFalsely : Prop := codecWritesRow.holds Try.pinned (OpenSpec.ofChange codecWritesWrong)

/-- 'mooringlaw1.CodecSums': WHATEVER THE INPUT: true; the input reads as it did. -/
def codecSumsSpec : ChangeSpec := { name := "codecSums", fn := fun _ => fun
  | [d] => { results := [.lit (.bool true)], args := [d] }
  | _ => none }
def codecSumsRow : OpenClaim := { program := "ytgeinpljchpdgaa", sum := "b5cb91c1d056d2266c7f94d319197fdf726d3544d0b0770ea52fa34ede9a5fd4", func := "mooring/mooringlaw1.CodecSums", spec := "codecSums", apart := false }
def CodecSumsSaid : Prop := codecSumsRow.holds Try.pinned (OpenSpec.ofChange codecSumsSpec)

/-- ITS FALSE NEIGHBOUR: 'it returns false'. Refute it at one input. -/
def codecSumsWrong : ChangeSpec := { name := "codecSums", fn := fun _ => fun
  | [d] => { results := [.lit (.bool false)], args := [d] }
  | _ => none }
def CodecSumsWrongFalsely : Prop := codecSumsRow.holds Try.pinned (OpenSpec.ofChange codecSumsWrong)

/-- 'mooringlaw1.CodecTurned': WHATEVER THE INPUT: true; the input reads as it did. -/
def codecTurnedSpec : ChangeSpec := { name := "codecTurned", fn := fun _ => fun
  | [d1, d2, d3] => { results := [.lit (.bool true)], args := [d1, d2, d3] }
  | _ => none }
def codecTurnedRow : OpenClaim := { program := "ytgeinpljchpdgaa", sum := "b5cb91c1d056d2266c7f94d319197fdf726d3544d0b0770ea52fa34ede9a5fd4", func := "mooring/mooringlaw1.CodecTurned", spec := "codecTurned", apart := false }
def CodecTurnedSaid : Prop := codecTurnedRow.holds Try.pinned (OpenSpec.ofChange codecTurnedSpec)

/-- ITS FALSE NEIGHBOUR: 'it returns false'. Refute it at one input. -/
def codecTurnedWrong : ChangeSpec := { name := "codecTurned", fn := fun _ => fun
  | [d1, d2, d3] => { results := [.lit (.bool false)], args := [d1, d2, d3] }
  | _ => none }
def CodecTurnedWrongFalsely : Prop := codecTurnedRow.holds Try.pinned (OpenSpec.ofChange codecTurnedWrong)

/-- 'mooringlaw1.CodecReads': WHATEVER THE INPUT: true; the input reads as it did. -/
def codecReadsSpec : ChangeSpec := { name := "codecReads", fn := fun _ => fun
  | [d1, d2] => { results := [.lit (.bool true)], args := [d1, d2] }
  | _ => none }
def codecReadsRow : OpenClaim := { program := "ytgeinpljchpdgaa", sum := "b5cb91c1d056d2266c7f94d319197fdf726d3544d0b0770ea52fa34ede9a5fd4", func := "mooring/mooringlaw1.CodecReads", spec := "codecReads", apart := false }
def CodecReadsSaid : Prop := codecReadsRow.holds Try.pinned (OpenSpec.ofChange codecReadsSpec)

/-- ITS FALSE NEIGHBOUR: 'it returns false'. Refute it at one input. -/
def codecReadsWrong : ChangeSpec := { name := "codecReads", fn := fun _ => fun
  | [d1, d2] => { results := [.lit (.bool false)], args := [d1, d2] }
  | _ => none }
def CodecReadsWrongFalsely : Prop := codecReadsRow.holds Try.pinned (OpenSpec.ofChange codecReadsWrong)

/-- 'mooringlaw1.CodecNear': WHATEVER THE INPUT: true; the input reads as it did. -/
def codecNearSpec : ChangeSpec := { name := "codecNear", fn := fun _ => fun
  | [d1, d2, d3, d4] => { results := [.lit (.bool true)], args := [d1, d2, d3, d4] }
  | _ => none }
def codecNearRow : OpenClaim := { program := "ytgeinpljchpdgaa", sum := "b5cb91c1d056d2266c7f94d319197fdf726d3544d0b0770ea52fa34ede9a5fd4", func := "mooring/mooringlaw1.CodecNear", spec := "codecNear", apart := false }
def CodecNearSaid : Prop := codecNearRow.holds Try.pinned (OpenSpec.ofChange codecNearSpec)

/-- ITS FALSE NEIGHBOUR: 'it returns false'. Refute it at one input. -/
def codecNearWrong : ChangeSpec := { name := "codecNear", fn := fun _ => fun
  | [d1, d2, d3, d4] => { results := [.lit (.bool false)], args := [d1, d2, d3, d4] }
  | _ => none }
def CodecNearWrongFalsely : Prop := codecNearRow.holds Try.pinned (OpenSpec.ofChange codecNearWrong)

/-- 'mooringlaw1.CodecBack': WHATEVER THE INPUT: true; the input reads as it did. -/
def codecBackSpec : ChangeSpec := { name := "codecBack", fn := fun _ => fun
  | [d] => { results := [.lit (.bool true)], args := [d] }
  | _ => none }
def codecBackRow : OpenClaim := { program := "ytgeinpljchpdgaa", sum := "b5cb91c1d056d2266c7f94d319197fdf726d3544d0b0770ea52fa34ede9a5fd4", func := "mooring/mooringlaw1.CodecBack", spec := "codecBack", apart := false }
def CodecBackSaid : Prop := codecBackRow.holds Try.pinned (OpenSpec.ofChange codecBackSpec)

/-- ITS FALSE NEIGHBOUR: 'it returns false'. Refute it at one input. -/
def codecBackWrong : ChangeSpec := { name := "codecBack", fn := fun _ => fun
  | [d] => { results := [.lit (.bool false)], args := [d] }
  | _ => none }
def CodecBackWrongFalsely : Prop := codecBackRow.holds Try.pinned (OpenSpec.ofChange codecBackWrong)

/-- 'mooringlaw1.CodecCut': WHATEVER THE INPUT: true; the input reads as it did. -/
def codecCutSpec : ChangeSpec := { name := "codecCut", fn := fun _ => fun
  | [d1, d2] => { results := [.lit (.bool true)], args := [d1, d2] }
  | _ => none }
def codecCutRow : OpenClaim := { program := "ytgeinpljchpdgaa", sum := "b5cb91c1d056d2266c7f94d319197fdf726d3544d0b0770ea52fa34ede9a5fd4", func := "mooring/mooringlaw1.CodecCut", spec := "codecCut", apart := false }
def CodecCutSaid : Prop := codecCutRow.holds Try.pinned (OpenSpec.ofChange codecCutSpec)

/-- ITS FALSE NEIGHBOUR: 'it returns false'. Refute it at one input. -/
def codecCutWrong : ChangeSpec := { name := "codecCut", fn := fun _ => fun
  | [d1, d2] => { results := [.lit (.bool false)], args := [d1, d2] }
  | _ => none }
def CodecCutWrongFalsely : Prop := codecCutRow.holds Try.pinned (OpenSpec.ofChange codecCutWrong)

/-- 'mooringlaw1.CodecOne': WHATEVER THE INPUT: true; the input reads as it did. -/
def codecOneSpec : ChangeSpec := { name := "codecOne", fn := fun _ => fun
  | [d1, d2] => { results := [.lit (.bool true)], args := [d1, d2] }
  | _ => none }
def codecOneRow : OpenClaim := { program := "ytgeinpljchpdgaa", sum := "b5cb91c1d056d2266c7f94d319197fdf726d3544d0b0770ea52fa34ede9a5fd4", func := "mooring/mooringlaw1.CodecOne", spec := "codecOne", apart := false }
def CodecOneSaid : Prop := codecOneRow.holds Try.pinned (OpenSpec.ofChange codecOneSpec)

/-- ITS FALSE NEIGHBOUR: 'it returns false'. Refute it at one input. -/
def codecOneWrong : ChangeSpec := { name := "codecOne", fn := fun _ => fun
  | [d1, d2] => { results := [.lit (.bool false)], args := [d1, d2] }
  | _ => none }
def CodecOneWrongFalsely : Prop := codecOneRow.holds Try.pinned (OpenSpec.ofChange codecOneWrong)

/-- 'mooringlaw1.CodecKnown': WHATEVER THE INPUT: true; the input reads as it did. -/
def codecKnownSpec : ChangeSpec := { name := "codecKnown", fn := fun _ => fun
  | [] => { results := [.lit (.bool true)], args := [] }
  | _ => none }
def codecKnownRow : OpenClaim := { program := "ytgeinpljchpdgaa", sum := "b5cb91c1d056d2266c7f94d319197fdf726d3544d0b0770ea52fa34ede9a5fd4", func := "mooring/mooringlaw1.CodecKnown", spec := "codecKnown", apart := false }
def CodecKnownSaid : Prop := codecKnownRow.holds Try.pinned (OpenSpec.ofChange codecKnownSpec)

/-- ITS FALSE NEIGHBOUR: 'it returns false'. Refute it at one input. -/
def codecKnownWrong : ChangeSpec := { name := "codecKnown", fn := fun _ => fun
  | [] => { results := [.lit (.bool false)], args := [] }
  | _ => none }
def CodecKnownWrongFalsely : Prop := codecKnownRow.holds Try.pinned (OpenSpec.ofChange codecKnownWrong)

/- THE SECOND FORM. 'bulk': how many values and letters a reading holds, each counted each time it is reached (what is shared counts as often as it is met; a slice's spare places count too). A statement '..UptoSaid' is the law's where the arguments, and the package variables that the reading takes, are together of bulk at most 1048576: NARROWER than '..Said'. Prove '..Said' where nothing that the law and all that it calls make is longer than what came in: it says more and counts as full. Else prove '..UptoSaid'. A law counts once. -/
mutual
def uptoBulk {H : Type} : DataW H → Nat
  | .lit (.string bytes) => bytes.length + 1
  | .lit _ => 1
  | .nil => 1
  | .ptr d => uptoBulk d + 1
  | .slice elems spare => uptoBulkAll elems + uptoBulkAll spare + 1
  | .agg parts => uptoBulkAll parts + 1
  | .iface _ d => uptoBulk d + 1
  | .map entries => uptoBulkEntries entries + 1
  | .held _ => 1
def uptoBulkAll {H : Type} : List (DataW H) → Nat
  | [] => 0
  | d :: r => uptoBulk d + uptoBulkAll r
def uptoBulkEntries {H : Type} : List (Lit × DataW H) → Nat
  | [] => 0
  | x :: r => uptoBulkEntry x + uptoBulkEntries r
def uptoBulkEntry {H : Type} : Lit × DataW H → Nat
  | (.string bytes, d) => bytes.length + uptoBulk d + 1
  | (_, d) => uptoBulk d + 1
 end
def uptoSmall : (H : Type) → List (DataW H) → Bool := fun _ ds => decide (uptoBulkAll ds ≤ 1048576)
def OpenSpec.upto (s : _root_.Go.ChangeSpec) : _root_.Go.OpenSpec := { _root_.Go.OpenSpec.ofChange s with cond := some uptoSmall }

/-- 'mooringlaw1.CodecWrites', WHERE WHAT IT READS IS OF BULK AT MOST 1048576: true; the input reads as it did. -/
def codecWritesUptoRow : OpenClaim := { program := "ytgeinpljchpdgaa", sum := "b5cb91c1d056d2266c7f94d319197fdf726d3544d0b0770ea52fa34ede9a5fd4", func := "mooring/mooringlaw1.CodecWrites", spec := "codecWrites", apart := false, narrowed := true }
def CodecWritesUptoSaid : Prop := codecWritesUptoRow.holds Try.pinned (OpenSpec.upto codecWritesSpec)

/-- 'mooringlaw1.CodecSums', WHERE WHAT IT READS IS OF BULK AT MOST 1048576: true; the input reads as it did. -/
def codecSumsUptoRow : OpenClaim := { program := "ytgeinpljchpdgaa", sum := "b5cb91c1d056d2266c7f94d319197fdf726d3544d0b0770ea52fa34ede9a5fd4", func := "mooring/mooringlaw1.CodecSums", spec := "codecSums", apart := false, narrowed := true }
def CodecSumsUptoSaid : Prop := codecSumsUptoRow.holds Try.pinned (OpenSpec.upto codecSumsSpec)

/-- 'mooringlaw1.CodecTurned', WHERE WHAT IT READS IS OF BULK AT MOST 1048576: true; the input reads as it did. -/
def codecTurnedUptoRow : OpenClaim := { program := "ytgeinpljchpdgaa", sum := "b5cb91c1d056d2266c7f94d319197fdf726d3544d0b0770ea52fa34ede9a5fd4", func := "mooring/mooringlaw1.CodecTurned", spec := "codecTurned", apart := false, narrowed := true }
def CodecTurnedUptoSaid : Prop := codecTurnedUptoRow.holds Try.pinned (OpenSpec.upto codecTurnedSpec)

/-- 'mooringlaw1.CodecReads', WHERE WHAT IT READS IS OF BULK AT MOST 1048576: true; the input reads as it did. -/
def codecReadsUptoRow : OpenClaim := { program := "ytgeinpljchpdgaa", sum := "b5cb91c1d056d2266c7f94d319197fdf726d3544d0b0770ea52fa34ede9a5fd4", func := "mooring/mooringlaw1.CodecReads", spec := "codecReads", apart := false, narrowed := true }
def CodecReadsUptoSaid : Prop := codecReadsUptoRow.holds Try.pinned (OpenSpec.upto codecReadsSpec)

/-- 'mooringlaw1.CodecNear', WHERE WHAT IT READS IS OF BULK AT MOST 1048576: true; the input reads as it did. -/
def codecNearUptoRow : OpenClaim := { program := "ytgeinpljchpdgaa", sum := "b5cb91c1d056d2266c7f94d319197fdf726d3544d0b0770ea52fa34ede9a5fd4", func := "mooring/mooringlaw1.CodecNear", spec := "codecNear", apart := false, narrowed := true }
def CodecNearUptoSaid : Prop := codecNearUptoRow.holds Try.pinned (OpenSpec.upto codecNearSpec)

/-- 'mooringlaw1.CodecBack', WHERE WHAT IT READS IS OF BULK AT MOST 1048576: true; the input reads as it did. -/
def codecBackUptoRow : OpenClaim := { program := "ytgeinpljchpdgaa", sum := "b5cb91c1d056d2266c7f94d319197fdf726d3544d0b0770ea52fa34ede9a5fd4", func := "mooring/mooringlaw1.CodecBack", spec := "codecBack", apart := false, narrowed := true }
def CodecBackUptoSaid : Prop := codecBackUptoRow.holds Try.pinned (OpenSpec.upto codecBackSpec)

/-- 'mooringlaw1.CodecCut', WHERE WHAT IT READS IS OF BULK AT MOST 1048576: true; the input reads as it did. -/
def codecCutUptoRow : OpenClaim := { program := "ytgeinpljchpdgaa", sum := "b5cb91c1d056d2266c7f94d319197fdf726d3544d0b0770ea52fa34ede9a5fd4", func := "mooring/mooringlaw1.CodecCut", spec := "codecCut", apart := false, narrowed := true }
def CodecCutUptoSaid : Prop := codecCutUptoRow.holds Try.pinned (OpenSpec.upto codecCutSpec)

/-- 'mooringlaw1.CodecOne', WHERE WHAT IT READS IS OF BULK AT MOST 1048576: true; the input reads as it did. -/
def codecOneUptoRow : OpenClaim := { program := "ytgeinpljchpdgaa", sum := "b5cb91c1d056d2266c7f94d319197fdf726d3544d0b0770ea52fa34ede9a5fd4", func := "mooring/mooringlaw1.CodecOne", spec := "codecOne", apart := false, narrowed := true }
def CodecOneUptoSaid : Prop := codecOneUptoRow.holds Try.pinned (OpenSpec.upto codecOneSpec)

/-- 'mooringlaw1.CodecKnown', WHERE WHAT IT READS IS OF BULK AT MOST 1048576: true; the input reads as it did. -/
def codecKnownUptoRow : OpenClaim := { program := "ytgeinpljchpdgaa", sum := "b5cb91c1d056d2266c7f94d319197fdf726d3544d0b0770ea52fa34ede9a5fd4", func := "mooring/mooringlaw1.CodecKnown", spec := "codecKnown", apart := false, narrowed := true }
def CodecKnownUptoSaid : Prop := codecKnownUptoRow.holds Try.pinned (OpenSpec.upto codecKnownSpec)

end Rows
end Go.Proofs.Ytgeinpljchpdgaa
