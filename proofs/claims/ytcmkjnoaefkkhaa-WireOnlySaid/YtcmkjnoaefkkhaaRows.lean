/-
  No cell of these rows narrows 'for every input' (looked for: loops, veiled, ifaces, maps, wideKeys, modest, calm, conditions, laid).
  DERIVED. THE GIVEN ROWS OF THIS SEAT. 10 by the template 'for every input the law returns true; each argument reads behind the call as it read before'; 0 by the template 'total and deterministic' (their statements: YtcmkjnoaefkkhaaTotals.lean).
  GIVEN WITH THE SEED: the statements are not yours to turn. If you find one false, say at which input.
  Laid BY PROGRAM, IN A SANDBOX (cutbox-rows.mjs): the forced cells as the released guide's own fill.sh prints them over the translation 57947c7da460b06e… (all of the seat's roots in one cut). By AI agents, Wed Nov 11 2026. No macro, syntax, notation, axiom, sorry.
-/
import Derived.Test.YtcmkjnoaefkkhaaChecked
import GoSem.Claim
import GoSem.ClaimJoined
import GoSem.ClaimMapViews
import Derived.JoinedTies
import Derived.KernelRfl
namespace Go.Proofs.Ytcmkjnoaefkkhaa
/- THE CELL 'sum', in the pinned program and in every row, IS THE sha256 OF THE DUMP (.gsa) THAT YtcmkjnoaefkkhaaProg.lean LOADS. Nothing in Lean hashes anything: it is a label: what it is worth is what the hold of that sum in a sandbox is worth. -/
noncomputable def Try.pinned : Pinned := { name := "ytcmkjnoaefkkhaa", sum := "57947c7da460b06e3ad096ba90deb3626eca5754347562b28856dc073c1d4f88", checked := Try.checked }
namespace Rows
def none {H : Type} : Left H := { results := [], args := [] }

/-- 'mooringlaw2.WireRight': WHATEVER THE INPUT: true; the input reads as it did. -/
def wireRightSpec : ChangeSpec := { name := "wireRight", fn := fun _ => fun
  | [d] => { results := [.lit (.bool true)], args := [d] }
  | _ => none }
def wireRightRow : OpenClaim := { program := "ytcmkjnoaefkkhaa", sum := "57947c7da460b06e3ad096ba90deb3626eca5754347562b28856dc073c1d4f88", func := "mooring/mooringlaw2.WireRight", spec := "wireRight", apart := false }
def WireRightSaid : Prop := wireRightRow.holds Try.pinned (OpenSpec.ofChange wireRightSpec)

/-- ITS FALSE NEIGHBOUR: 'it returns false'. Refute it at one input. -/
def wireRightWrong : ChangeSpec := { name := "wireRight", fn := fun _ => fun
  | [d] => { results := [.lit (.bool false)], args := [d] }
  | _ => none }
def WireRightWrongFalsely : Prop := wireRightRow.holds Try.pinned (OpenSpec.ofChange wireRightWrong)

/-- 'mooringlaw2.WireEncodes': WHATEVER THE INPUT: true; the input reads as it did. -/
def wireEncodesSpec : ChangeSpec := { name := "wireEncodes", fn := fun _ => fun
  | [d] => { results := [.lit (.bool true)], args := [d] }
  | _ => none }
def wireEncodesRow : OpenClaim := { program := "ytcmkjnoaefkkhaa", sum := "57947c7da460b06e3ad096ba90deb3626eca5754347562b28856dc073c1d4f88", func := "mooring/mooringlaw2.WireEncodes", spec := "wireEncodes", apart := false }
def WireEncodesSaid : Prop := wireEncodesRow.holds Try.pinned (OpenSpec.ofChange wireEncodesSpec)

/-- ITS FALSE NEIGHBOUR: 'it returns false'. Refute it at one input. -/
def wireEncodesWrong : ChangeSpec := { name := "wireEncodes", fn := fun _ => fun
  | [d] => { results := [.lit (.bool false)], args := [d] }
  | _ => none }
def WireEncodesWrongFalsely : Prop := wireEncodesRow.holds Try.pinned (OpenSpec.ofChange wireEncodesWrong)

/-- 'mooringlaw2.WireKnown': WHATEVER THE INPUT: true; the input reads as it did. -/
def wireKnownSpec : ChangeSpec := { name := "wireKnown", fn := fun _ => fun
  | [] => { results := [.lit (.bool true)], args := [] }
  | _ => none }
def wireKnownRow : OpenClaim := { program := "ytcmkjnoaefkkhaa", sum := "57947c7da460b06e3ad096ba90deb3626eca5754347562b28856dc073c1d4f88", func := "mooring/mooringlaw2.WireKnown", spec := "wireKnown", apart := false }
def WireKnownSaid : Prop := wireKnownRow.holds Try.pinned (OpenSpec.ofChange wireKnownSpec)

/-- ITS FALSE NEIGHBOUR: 'it returns false'. Refute it at one input. -/
def wireKnownWrong : ChangeSpec := { name := "wireKnown", fn := fun _ => fun
  | [] => { results := [.lit (.bool false)], args := [] }
  | _ => none }
def WireKnownWrongFalsely : Prop := wireKnownRow.holds Try.pinned (OpenSpec.ofChange wireKnownWrong)

/-- 'mooringlaw2.WireDecodes': WHATEVER THE INPUT: true; the input reads as it did. -/
def wireDecodesSpec : ChangeSpec := { name := "wireDecodes", fn := fun _ => fun
  | [d] => { results := [.lit (.bool true)], args := [d] }
  | _ => none }
def wireDecodesRow : OpenClaim := { program := "ytcmkjnoaefkkhaa", sum := "57947c7da460b06e3ad096ba90deb3626eca5754347562b28856dc073c1d4f88", func := "mooring/mooringlaw2.WireDecodes", spec := "wireDecodes", apart := false }
def WireDecodesSaid : Prop := wireDecodesRow.holds Try.pinned (OpenSpec.ofChange wireDecodesSpec)

/-- ITS FALSE NEIGHBOUR: 'it returns false'. Refute it at one input. -/
def wireDecodesWrong : ChangeSpec := { name := "wireDecodes", fn := fun _ => fun
  | [d] => { results := [.lit (.bool false)], args := [d] }
  | _ => none }
def WireDecodesWrongFalsely : Prop := wireDecodesRow.holds Try.pinned (OpenSpec.ofChange wireDecodesWrong)

/-- 'mooringlaw2.WireSealed': WHATEVER THE INPUT: true; the input reads as it did. -/
def wireSealedSpec : ChangeSpec := { name := "wireSealed", fn := fun _ => fun
  | [d] => { results := [.lit (.bool true)], args := [d] }
  | _ => none }
def wireSealedRow : OpenClaim := { program := "ytcmkjnoaefkkhaa", sum := "57947c7da460b06e3ad096ba90deb3626eca5754347562b28856dc073c1d4f88", func := "mooring/mooringlaw2.WireSealed", spec := "wireSealed", apart := false }
def WireSealedSaid : Prop := wireSealedRow.holds Try.pinned (OpenSpec.ofChange wireSealedSpec)

/-- ITS FALSE NEIGHBOUR: 'it returns false'. Refute it at one input. -/
def wireSealedWrong : ChangeSpec := { name := "wireSealed", fn := fun _ => fun
  | [d] => { results := [.lit (.bool false)], args := [d] }
  | _ => none }
def WireSealedWrongFalsely : Prop := wireSealedRow.holds Try.pinned (OpenSpec.ofChange wireSealedWrong)

/-- 'mooringlaw2.WireSpoilt': WHATEVER THE INPUT: true; the input reads as it did. -/
def wireSpoiltSpec : ChangeSpec := { name := "wireSpoilt", fn := fun _ => fun
  | [d1, d2, d3, d4] => { results := [.lit (.bool true)], args := [d1, d2, d3, d4] }
  | _ => none }
def wireSpoiltRow : OpenClaim := { program := "ytcmkjnoaefkkhaa", sum := "57947c7da460b06e3ad096ba90deb3626eca5754347562b28856dc073c1d4f88", func := "mooring/mooringlaw2.WireSpoilt", spec := "wireSpoilt", apart := false }
def WireSpoiltSaid : Prop := wireSpoiltRow.holds Try.pinned (OpenSpec.ofChange wireSpoiltSpec)

/-- ITS FALSE NEIGHBOUR: 'it returns false'. Refute it at one input. -/
def wireSpoiltWrong : ChangeSpec := { name := "wireSpoilt", fn := fun _ => fun
  | [d1, d2, d3, d4] => { results := [.lit (.bool false)], args := [d1, d2, d3, d4] }
  | _ => none }
def WireSpoiltWrongFalsely : Prop := wireSpoiltRow.holds Try.pinned (OpenSpec.ofChange wireSpoiltWrong)

/-- 'mooringlaw2.WireBack': WHATEVER THE INPUT: true; the input reads as it did. -/
def wireBackSpec : ChangeSpec := { name := "wireBack", fn := fun _ => fun
  | [d] => { results := [.lit (.bool true)], args := [d] }
  | _ => none }
def wireBackRow : OpenClaim := { program := "ytcmkjnoaefkkhaa", sum := "57947c7da460b06e3ad096ba90deb3626eca5754347562b28856dc073c1d4f88", func := "mooring/mooringlaw2.WireBack", spec := "wireBack", apart := false }
def WireBackSaid : Prop := wireBackRow.holds Try.pinned (OpenSpec.ofChange wireBackSpec)

/-- ITS FALSE NEIGHBOUR: 'it returns false'. Refute it at one input. -/
def wireBackWrong : ChangeSpec := { name := "wireBack", fn := fun _ => fun
  | [d] => { results := [.lit (.bool false)], args := [d] }
  | _ => none }
def WireBackWrongFalsely : Prop := wireBackRow.holds Try.pinned (OpenSpec.ofChange wireBackWrong)

/-- 'mooringlaw2.WireOnly': WHATEVER THE INPUT: true; the input reads as it did. -/
def wireOnlySpec : ChangeSpec := { name := "wireOnly", fn := fun _ => fun
  | [d1, d2] => { results := [.lit (.bool true)], args := [d1, d2] }
  | _ => none }
def wireOnlyRow : OpenClaim := { program := "ytcmkjnoaefkkhaa", sum := "57947c7da460b06e3ad096ba90deb3626eca5754347562b28856dc073c1d4f88", func := "mooring/mooringlaw2.WireOnly", spec := "wireOnly", apart := false }
def WireOnlySaid : Prop := wireOnlyRow.holds Try.pinned (OpenSpec.ofChange wireOnlySpec)

/-- ITS FALSE NEIGHBOUR: 'it returns false'. Refute it at one input. -/
def wireOnlyWrong : ChangeSpec := { name := "wireOnly", fn := fun _ => fun
  | [d1, d2] => { results := [.lit (.bool false)], args := [d1, d2] }
  | _ => none }
def WireOnlyWrongFalsely : Prop := wireOnlyRow.holds Try.pinned (OpenSpec.ofChange wireOnlyWrong)

/-- 'mooringlaw2.WireTurned': WHATEVER THE INPUT: true; the input reads as it did. -/
def wireTurnedSpec : ChangeSpec := { name := "wireTurned", fn := fun _ => fun
  | [d1, d2, d3] => { results := [.lit (.bool true)], args := [d1, d2, d3] }
  | _ => none }
def wireTurnedRow : OpenClaim := { program := "ytcmkjnoaefkkhaa", sum := "57947c7da460b06e3ad096ba90deb3626eca5754347562b28856dc073c1d4f88", func := "mooring/mooringlaw2.WireTurned", spec := "wireTurned", apart := false }
def WireTurnedSaid : Prop := wireTurnedRow.holds Try.pinned (OpenSpec.ofChange wireTurnedSpec)

/-- ITS FALSE NEIGHBOUR: 'it returns false'. Refute it at one input. -/
def wireTurnedWrong : ChangeSpec := { name := "wireTurned", fn := fun _ => fun
  | [d1, d2, d3] => { results := [.lit (.bool false)], args := [d1, d2, d3] }
  | _ => none }
def WireTurnedWrongFalsely : Prop := wireTurnedRow.holds Try.pinned (OpenSpec.ofChange wireTurnedWrong)

/-- 'mooringlaw2.WireOwn': WHATEVER THE INPUT: true; the input reads as it did. -/
def wireOwnSpec : ChangeSpec := { name := "wireOwn", fn := fun _ => fun
  | [d] => { results := [.lit (.bool true)], args := [d] }
  | _ => none }
def wireOwnRow : OpenClaim := { program := "ytcmkjnoaefkkhaa", sum := "57947c7da460b06e3ad096ba90deb3626eca5754347562b28856dc073c1d4f88", func := "mooring/mooringlaw2.WireOwn", spec := "wireOwn", apart := false }
def WireOwnSaid : Prop := wireOwnRow.holds Try.pinned (OpenSpec.ofChange wireOwnSpec)

/-- ITS FALSE NEIGHBOUR: 'it returns false'. Refute it at one input. -/
def wireOwnWrong : ChangeSpec := { name := "wireOwn", fn := fun _ => fun
  | [d] => { results := [.lit (.bool false)], args := [d] }
  | _ => none }
def WireOwnWrongFalsely : Prop := wireOwnRow.holds Try.pinned (OpenSpec.ofChange wireOwnWrong)

/- THE SECOND FORM. 'bulk': how many values and letters a reading holds, each counted each time it is reached (what is shared counts as often as it is met; a slice's spare places count too). A statement '..UptoSaid' is the law's where the arguments, and the package variables that the reading takes, are together of bulk at most 1048576: NARROWER than '..Said'. Prove '..Said' where nothing that the law and all that it calls make is longer than what came in: it says more and counts as full. Else prove '..UptoSaid'. A law counts once. -/
mutual
def uptoBulk {H : Type} : DataW H → Nat
  | .lit (.string bytes) => bytes.length + 1
  | .lit _ => 1
  | .nil => 1
  | .ptr d => uptoBulk d + 1
  | .slice elems spare => uptoBulkAll elems + uptoBulkAll spare + 1
  | .agg parts => uptoBulkAll parts + 1
  | .iface _ d => uptoBulk d + 1
  | .map entries => uptoBulkEntries entries + 1
  | .held _ => 1
def uptoBulkAll {H : Type} : List (DataW H) → Nat
  | [] => 0
  | d :: r => uptoBulk d + uptoBulkAll r
def uptoBulkEntries {H : Type} : List (Lit × DataW H) → Nat
  | [] => 0
  | x :: r => uptoBulkEntry x + uptoBulkEntries r
def uptoBulkEntry {H : Type} : Lit × DataW H → Nat
  | (.string bytes, d) => bytes.length + uptoBulk d + 1
  | (_, d) => uptoBulk d + 1
 end
def uptoSmall : (H : Type) → List (DataW H) → Bool := fun _ ds => decide (uptoBulkAll ds ≤ 1048576)
def OpenSpec.upto (s : _root_.Go.ChangeSpec) : _root_.Go.OpenSpec := { _root_.Go.OpenSpec.ofChange s with cond := some uptoSmall }

/-- 'mooringlaw2.WireRight', WHERE WHAT IT READS IS OF BULK AT MOST 1048576: true; the input reads as it did. -/
def wireRightUptoRow : OpenClaim := { program := "ytcmkjnoaefkkhaa", sum := "57947c7da460b06e3ad096ba90deb3626eca5754347562b28856dc073c1d4f88", func := "mooring/mooringlaw2.WireRight", spec := "wireRight", apart := false, narrowed := true }
def WireRightUptoSaid : Prop := wireRightUptoRow.holds Try.pinned (OpenSpec.upto wireRightSpec)

/-- 'mooringlaw2.WireEncodes', WHERE WHAT IT READS IS OF BULK AT MOST 1048576: true; the input reads as it did. -/
def wireEncodesUptoRow : OpenClaim := { program := "ytcmkjnoaefkkhaa", sum := "57947c7da460b06e3ad096ba90deb3626eca5754347562b28856dc073c1d4f88", func := "mooring/mooringlaw2.WireEncodes", spec := "wireEncodes", apart := false, narrowed := true }
def WireEncodesUptoSaid : Prop := wireEncodesUptoRow.holds Try.pinned (OpenSpec.upto wireEncodesSpec)

/-- 'mooringlaw2.WireKnown', WHERE WHAT IT READS IS OF BULK AT MOST 1048576: true; the input reads as it did. -/
def wireKnownUptoRow : OpenClaim := { program := "ytcmkjnoaefkkhaa", sum := "57947c7da460b06e3ad096ba90deb3626eca5754347562b28856dc073c1d4f88", func := "mooring/mooringlaw2.WireKnown", spec := "wireKnown", apart := false, narrowed := true }
def WireKnownUptoSaid : Prop := wireKnownUptoRow.holds Try.pinned (OpenSpec.upto wireKnownSpec)

/-- 'mooringlaw2.WireDecodes', WHERE WHAT IT READS IS OF BULK AT MOST 1048576: true; the input reads as it did. -/
def wireDecodesUptoRow : OpenClaim := { program := "ytcmkjnoaefkkhaa", sum := "57947c7da460b06e3ad096ba90deb3626eca5754347562b28856dc073c1d4f88", func := "mooring/mooringlaw2.WireDecodes", spec := "wireDecodes", apart := false, narrowed := true }
def WireDecodesUptoSaid : Prop := wireDecodesUptoRow.holds Try.pinned (OpenSpec.upto wireDecodesSpec)

/-- 'mooringlaw2.WireSealed', WHERE WHAT IT READS IS OF BULK AT MOST 1048576: true; the input reads as it did. -/
def wireSealedUptoRow : OpenClaim := { program := "ytcmkjnoaefkkhaa", sum := "57947c7da460b06e3ad096ba90deb3626eca5754347562b28856dc073c1d4f88", func := "mooring/mooringlaw2.WireSealed", spec := "wireSealed", apart := false, narrowed := true }
def WireSealedUptoSaid : Prop := wireSealedUptoRow.holds Try.pinned (OpenSpec.upto wireSealedSpec)

/-- 'mooringlaw2.WireSpoilt', WHERE WHAT IT READS IS OF BULK AT MOST 1048576: true; the input reads as it did. -/
def wireSpoiltUptoRow : OpenClaim := { program := "ytcmkjnoaefkkhaa", sum := "57947c7da460b06e3ad096ba90deb3626eca5754347562b28856dc073c1d4f88", func := "mooring/mooringlaw2.WireSpoilt", spec := "wireSpoilt", apart := false, narrowed := true }
def WireSpoiltUptoSaid : Prop := wireSpoiltUptoRow.holds Try.pinned (OpenSpec.upto wireSpoiltSpec)

/-- 'mooringlaw2.WireBack', WHERE WHAT IT READS IS OF BULK AT MOST 1048576: true; the input reads as it did. -/
def wireBackUptoRow : OpenClaim := { program := "ytcmkjnoaefkkhaa", sum := "57947c7da460b06e3ad096ba90deb3626eca5754347562b28856dc073c1d4f88", func := "mooring/mooringlaw2.WireBack", spec := "wireBack", apart := false, narrowed := true }
def WireBackUptoSaid : Prop := wireBackUptoRow.holds Try.pinned (OpenSpec.upto wireBackSpec)

/-- 'mooringlaw2.WireOnly', WHERE WHAT IT READS IS OF BULK AT MOST 1048576: true; the input reads as it did. -/
def wireOnlyUptoRow : OpenClaim := { program := "ytcmkjnoaefkkhaa", sum := "57947c7da460b06e3ad096ba90deb3626eca5754347562b28856dc073c1d4f88", func := "mooring/mooringlaw2.WireOnly", spec := "wireOnly", apart := false, narrowed := true }
def WireOnlyUptoSaid : Prop := wireOnlyUptoRow.holds Try.pinned (OpenSpec.upto wireOnlySpec)

/-- 'mooringlaw2.WireTurned', WHERE WHAT IT READS IS OF BULK AT MOST 1048576: true; the input reads as it did. -/
def wireTurnedUptoRow : OpenClaim := { program := "ytcmkjnoaefkkhaa", sum := "57947c7da460b06e3ad096ba90deb3626eca5754347562b28856dc073c1d4f88", func := "mooring/mooringlaw2.WireTurned", spec := "wireTurned", apart := false, narrowed := true }
def WireTurnedUptoSaid : Prop := wireTurnedUptoRow.holds Try.pinned (OpenSpec.upto wireTurnedSpec)

/-- 'mooringlaw2.WireOwn', WHERE WHAT IT READS IS OF BULK AT MOST 1048576: true; the input reads as it did. -/
def wireOwnUptoRow : OpenClaim := { program := "ytcmkjnoaefkkhaa", sum := "57947c7da460b06e3ad096ba90deb3626eca5754347562b28856dc073c1d4f88", func := "mooring/mooringlaw2.WireOwn", spec := "wireOwn", apart := false, narrowed := true }
def WireOwnUptoSaid : Prop := wireOwnUptoRow.holds Try.pinned (OpenSpec.upto wireOwnSpec)

end Rows
end Go.Proofs.Ytcmkjnoaefkkhaa
