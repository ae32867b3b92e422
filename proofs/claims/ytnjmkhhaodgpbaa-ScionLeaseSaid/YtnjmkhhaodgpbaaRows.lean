/-
  No cell of these rows narrows 'for every input' (looked for: loops, veiled, ifaces, maps, wideKeys, modest, calm, conditions, laid).
  DERIVED. THE GIVEN ROWS OF THIS SEAT. 4 by the template 'for every input the law returns true; each argument reads behind the call as it read before'; 0 by the template 'total and deterministic' (their statements: YtnjmkhhaodgpbaaTotals.lean).
  GIVEN WITH THE SEED: the statements are not yours to turn. If you find one false, say at which input.
  Laid BY PROGRAM, IN A SANDBOX (cutbox-rows.mjs): the forced cells as the released guide's own fill.sh prints them over the translation 770bbbdda769887e… (all of the seat's roots in one cut). By AI agents, Wed Nov 11 2026. No macro, syntax, notation, axiom, sorry.
-/
import Derived.Test.YtnjmkhhaodgpbaaChecked
import GoSem.Claim
import GoSem.ClaimJoined
import GoSem.ClaimMapViews
import Derived.JoinedTies
import Derived.KernelRfl
namespace Go.Proofs.Ytnjmkhhaodgpbaa
/- THE CELL 'sum', in the pinned program and in every row, IS THE sha256 OF THE DUMP (.gsa) THAT YtnjmkhhaodgpbaaProg.lean LOADS. Nothing in Lean hashes anything: it is a label: what it is worth is what the hold of that sum in a sandbox is worth. -/
noncomputable def Try.pinned : Pinned := { name := "ytnjmkhhaodgpbaa", sum := "770bbbdda769887e3db545b07857ba228cbe3523a0490dd21d42ee2c13cf2ba0", checked := Try.checked }
namespace Rows
def none {H : Type} : Left H := { results := [], args := [] }

/-- 'mooringlaw19.ScionStale': WHATEVER THE INPUT: true; the input reads as it did. -/
def scionStaleSpec : ChangeSpec := { name := "scionStale", fn := fun _ => fun
  | [d1, d2, d3, d4] => { results := [.lit (.bool true)], args := [d1, d2, d3, d4] }
  | _ => none }
def scionStaleRow : OpenClaim := { program := "ytnjmkhhaodgpbaa", sum := "770bbbdda769887e3db545b07857ba228cbe3523a0490dd21d42ee2c13cf2ba0", func := "mooring/mooringlaw19.ScionStale", spec := "scionStale", inPlace := ["slices.overlaps[uint64]", "slices.overlaps[mooring/api.Scion]"], unfollowed := true, recurses := true, apart := false }
def ScionStaleSaid : Prop := scionStaleRow.holds Try.pinned (OpenSpec.ofChange scionStaleSpec)

/-- ITS FALSE NEIGHBOUR: 'it returns false'. Refute it at one input. -/
def scionStaleWrong : ChangeSpec := { name := "scionStale", fn := fun _ => fun
  | [d1, d2, d3, d4] => { results := [.lit (.bool false)], args := [d1, d2, d3, d4] }
  | _ => none }
def ScionStaleWrongFalsely : Prop := scionStaleRow.holds Try.pinned (OpenSpec.ofChange scionStaleWrong)

/-- 'mooringlaw19.ScionLease': WHATEVER THE INPUT: true; the input reads as it did. -/
def scionLeaseSpec : ChangeSpec := { name := "scionLease", fn := fun _ => fun
  | [d1, d2, d3] => { results := [.lit (.bool true)], args := [d1, d2, d3] }
  | _ => none }
def scionLeaseRow : OpenClaim := { program := "ytnjmkhhaodgpbaa", sum := "770bbbdda769887e3db545b07857ba228cbe3523a0490dd21d42ee2c13cf2ba0", func := "mooring/mooringlaw19.ScionLease", spec := "scionLease", inPlace := ["slices.overlaps[uint64]", "slices.overlaps[mooring/api.Scion]"], unfollowed := true, recurses := true, apart := false }
def ScionLeaseSaid : Prop := scionLeaseRow.holds Try.pinned (OpenSpec.ofChange scionLeaseSpec)

/-- ITS FALSE NEIGHBOUR: 'it returns false'. Refute it at one input. -/
def scionLeaseWrong : ChangeSpec := { name := "scionLease", fn := fun _ => fun
  | [d1, d2, d3] => { results := [.lit (.bool false)], args := [d1, d2, d3] }
  | _ => none }
def ScionLeaseWrongFalsely : Prop := scionLeaseRow.holds Try.pinned (OpenSpec.ofChange scionLeaseWrong)

/-- 'mooringlaw19.ScionKnown': WHATEVER THE INPUT: true; the input reads as it did. -/
def scionKnownSpec : ChangeSpec := { name := "scionKnown", fn := fun _ => fun
  | [] => { results := [.lit (.bool true)], args := [] }
  | _ => none }
def scionKnownRow : OpenClaim := { program := "ytnjmkhhaodgpbaa", sum := "770bbbdda769887e3db545b07857ba228cbe3523a0490dd21d42ee2c13cf2ba0", func := "mooring/mooringlaw19.ScionKnown", spec := "scionKnown", inPlace := ["slices.overlaps[uint64]", "slices.overlaps[mooring/api.Scion]"], unfollowed := true, recurses := true, apart := false }
def ScionKnownSaid : Prop := scionKnownRow.holds Try.pinned (OpenSpec.ofChange scionKnownSpec)

/-- ITS FALSE NEIGHBOUR: 'it returns false'. Refute it at one input. -/
def scionKnownWrong : ChangeSpec := { name := "scionKnown", fn := fun _ => fun
  | [] => { results := [.lit (.bool false)], args := [] }
  | _ => none }
def ScionKnownWrongFalsely : Prop := scionKnownRow.holds Try.pinned (OpenSpec.ofChange scionKnownWrong)

/-- 'mooringlaw19.ScionFreed': WHATEVER THE INPUT: true; the input reads as it did. -/
def scionFreedSpec : ChangeSpec := { name := "scionFreed", fn := fun _ => fun
  | [d1, d2, d3] => { results := [.lit (.bool true)], args := [d1, d2, d3] }
  | _ => none }
def scionFreedRow : OpenClaim := { program := "ytnjmkhhaodgpbaa", sum := "770bbbdda769887e3db545b07857ba228cbe3523a0490dd21d42ee2c13cf2ba0", func := "mooring/mooringlaw19.ScionFreed", spec := "scionFreed", inPlace := ["slices.overlaps[uint64]", "slices.overlaps[mooring/api.Scion]"], unfollowed := true, recurses := true, apart := false }
def ScionFreedSaid : Prop := scionFreedRow.holds Try.pinned (OpenSpec.ofChange scionFreedSpec)

/-- ITS FALSE NEIGHBOUR: 'it returns false'. Refute it at one input. -/
def scionFreedWrong : ChangeSpec := { name := "scionFreed", fn := fun _ => fun
  | [d1, d2, d3] => { results := [.lit (.bool false)], args := [d1, d2, d3] }
  | _ => none }
def ScionFreedWrongFalsely : Prop := scionFreedRow.holds Try.pinned (OpenSpec.ofChange scionFreedWrong)

/- THE SECOND FORM. 'bulk': how many values and letters a reading holds, each counted each time it is reached (what is shared counts as often as it is met; a slice's spare places count too). A statement '..UptoSaid' is the law's where the arguments, and the package variables that the reading takes, are together of bulk at most 1048576: NARROWER than '..Said'. Prove '..Said' where nothing that the law and all that it calls make is longer than what came in: it says more and counts as full. Else prove '..UptoSaid'. A law counts once. -/
mutual
def uptoBulk {H : Type} : DataW H → Nat
  | .lit (.string bytes) => bytes.length + 1
  | .lit _ => 1
  | .nil => 1
  | .ptr d => uptoBulk d + 1
  | .slice elems spare => uptoBulkAll elems + uptoBulkAll spare + 1
  | .agg parts => uptoBulkAll parts + 1
  | .iface _ d => uptoBulk d + 1
  | .map entries => uptoBulkEntries entries + 1
  | .held _ => 1
def uptoBulkAll {H : Type} : List (DataW H) → Nat
  | [] => 0
  | d :: r => uptoBulk d + uptoBulkAll r
def uptoBulkEntries {H : Type} : List (Lit × DataW H) → Nat
  | [] => 0
  | x :: r => uptoBulkEntry x + uptoBulkEntries r
def uptoBulkEntry {H : Type} : Lit × DataW H → Nat
  | (.string bytes, d) => bytes.length + uptoBulk d + 1
  | (_, d) => uptoBulk d + 1
 end
def uptoSmall : (H : Type) → List (DataW H) → Bool := fun _ ds => decide (uptoBulkAll ds ≤ 1048576)
def OpenSpec.upto (s : _root_.Go.ChangeSpec) : _root_.Go.OpenSpec := { _root_.Go.OpenSpec.ofChange s with cond := some uptoSmall }

/-- 'mooringlaw19.ScionStale', WHERE WHAT IT READS IS OF BULK AT MOST 1048576: true; the input reads as it did. -/
def scionStaleUptoRow : OpenClaim := { program := "ytnjmkhhaodgpbaa", sum := "770bbbdda769887e3db545b07857ba228cbe3523a0490dd21d42ee2c13cf2ba0", func := "mooring/mooringlaw19.ScionStale", spec := "scionStale", inPlace := ["slices.overlaps[uint64]", "slices.overlaps[mooring/api.Scion]"], unfollowed := true, recurses := true, apart := false, narrowed := true }
def ScionStaleUptoSaid : Prop := scionStaleUptoRow.holds Try.pinned (OpenSpec.upto scionStaleSpec)

/-- 'mooringlaw19.ScionLease', WHERE WHAT IT READS IS OF BULK AT MOST 1048576: true; the input reads as it did. -/
def scionLeaseUptoRow : OpenClaim := { program := "ytnjmkhhaodgpbaa", sum := "770bbbdda769887e3db545b07857ba228cbe3523a0490dd21d42ee2c13cf2ba0", func := "mooring/mooringlaw19.ScionLease", spec := "scionLease", inPlace := ["slices.overlaps[uint64]", "slices.overlaps[mooring/api.Scion]"], unfollowed := true, recurses := true, apart := false, narrowed := true }
def ScionLeaseUptoSaid : Prop := scionLeaseUptoRow.holds Try.pinned (OpenSpec.upto scionLeaseSpec)

/-- 'mooringlaw19.ScionKnown', WHERE WHAT IT READS IS OF BULK AT MOST 1048576: true; the input reads as it did. -/
def scionKnownUptoRow : OpenClaim := { program := "ytnjmkhhaodgpbaa", sum := "770bbbdda769887e3db545b07857ba228cbe3523a0490dd21d42ee2c13cf2ba0", func := "mooring/mooringlaw19.ScionKnown", spec := "scionKnown", inPlace := ["slices.overlaps[uint64]", "slices.overlaps[mooring/api.Scion]"], unfollowed := true, recurses := true, apart := false, narrowed := true }
def ScionKnownUptoSaid : Prop := scionKnownUptoRow.holds Try.pinned (OpenSpec.upto scionKnownSpec)

/-- 'mooringlaw19.ScionFreed', WHERE WHAT IT READS IS OF BULK AT MOST 1048576: true; the input reads as it did. -/
def scionFreedUptoRow : OpenClaim := { program := "ytnjmkhhaodgpbaa", sum := "770bbbdda769887e3db545b07857ba228cbe3523a0490dd21d42ee2c13cf2ba0", func := "mooring/mooringlaw19.ScionFreed", spec := "scionFreed", inPlace := ["slices.overlaps[uint64]", "slices.overlaps[mooring/api.Scion]"], unfollowed := true, recurses := true, apart := false, narrowed := true }
def ScionFreedUptoSaid : Prop := scionFreedUptoRow.holds Try.pinned (OpenSpec.upto scionFreedSpec)

end Rows
end Go.Proofs.Ytnjmkhhaodgpbaa
