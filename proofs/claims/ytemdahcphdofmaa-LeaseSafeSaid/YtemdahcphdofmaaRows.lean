/-
  No cell of these rows narrows 'for every input' (looked for: loops, veiled, ifaces, maps, wideKeys, modest, calm, conditions, laid).
  DERIVED. THE GIVEN ROWS OF THIS SEAT. 8 by the template 'for every input the law returns true; each argument reads behind the call as it read before'; 0 by the template 'total and deterministic' (their statements: YtemdahcphdofmaaTotals.lean).
  GIVEN WITH THE SEED: the statements are not yours to turn. If you find one false, say at which input.
  Laid BY PROGRAM, IN A SANDBOX (cutbox-rows.mjs): the forced cells as the released guide's own fill.sh prints them over the translation 1133c5dd3b243cf3… (all of the seat's roots in one cut). By AI agents, Wed Nov 11 2026. No macro, syntax, notation, axiom, sorry.
-/
import Derived.Test.YtemdahcphdofmaaChecked
import GoSem.Claim
import GoSem.ClaimJoined
import GoSem.ClaimMapViews
import Derived.JoinedTies
import Derived.KernelRfl
namespace Go.Proofs.Ytemdahcphdofmaa
/- THE CELL 'sum', in the pinned program and in every row, IS THE sha256 OF THE DUMP (.gsa) THAT YtemdahcphdofmaaProg.lean LOADS. Nothing in Lean hashes anything: it is a label: what it is worth is what the hold of that sum in a sandbox is worth. -/
noncomputable def Try.pinned : Pinned := { name := "ytemdahcphdofmaa", sum := "1133c5dd3b243cf362cc0a5363ce1f8209779d32af67c708b8d1cab2d9751a4e", checked := Try.checked }
namespace Rows
def none {H : Type} : Left H := { results := [], args := [] }

/-- 'mooringlaw17.LeaseKnown': WHATEVER THE INPUT: true; the input reads as it did. -/
def leaseKnownSpec : ChangeSpec := { name := "leaseKnown", fn := fun _ => fun
  | [] => { results := [.lit (.bool true)], args := [] }
  | _ => none }
def leaseKnownRow : OpenClaim := { program := "ytemdahcphdofmaa", sum := "1133c5dd3b243cf362cc0a5363ce1f8209779d32af67c708b8d1cab2d9751a4e", func := "mooring/mooringlaw17.LeaseKnown", spec := "leaseKnown", apart := false }
def LeaseKnownSaid : Prop := leaseKnownRow.holds Try.pinned (OpenSpec.ofChange leaseKnownSpec)

/-- ITS FALSE NEIGHBOUR: 'it returns false'. Refute it at one input. -/
def leaseKnownWrong : ChangeSpec := { name := "leaseKnown", fn := fun _ => fun
  | [] => { results := [.lit (.bool false)], args := [] }
  | _ => none }
def LeaseKnownWrongFalsely : Prop := leaseKnownRow.holds Try.pinned (OpenSpec.ofChange leaseKnownWrong)

/-- 'mooringlaw17.LeaseHolder': WHATEVER THE INPUT: true; the input reads as it did. -/
def leaseHolderSpec : ChangeSpec := { name := "leaseHolder", fn := fun _ => fun
  | [d1, d2, d3] => { results := [.lit (.bool true)], args := [d1, d2, d3] }
  | _ => none }
def leaseHolderRow : OpenClaim := { program := "ytemdahcphdofmaa", sum := "1133c5dd3b243cf362cc0a5363ce1f8209779d32af67c708b8d1cab2d9751a4e", func := "mooring/mooringlaw17.LeaseHolder", spec := "leaseHolder", apart := false }
def LeaseHolderSaid : Prop := leaseHolderRow.holds Try.pinned (OpenSpec.ofChange leaseHolderSpec)

/-- ITS FALSE NEIGHBOUR: 'it returns false'. Refute it at one input. -/
def leaseHolderWrong : ChangeSpec := { name := "leaseHolder", fn := fun _ => fun
  | [d1, d2, d3] => { results := [.lit (.bool false)], args := [d1, d2, d3] }
  | _ => none }
def LeaseHolderWrongFalsely : Prop := leaseHolderRow.holds Try.pinned (OpenSpec.ofChange leaseHolderWrong)

/-- 'mooringlaw17.LeaseSmall': WHATEVER THE INPUT: true; the input reads as it did. -/
def leaseSmallSpec : ChangeSpec := { name := "leaseSmall", fn := fun _ => fun
  | [d1, d2, d3] => { results := [.lit (.bool true)], args := [d1, d2, d3] }
  | _ => none }
def leaseSmallRow : OpenClaim := { program := "ytemdahcphdofmaa", sum := "1133c5dd3b243cf362cc0a5363ce1f8209779d32af67c708b8d1cab2d9751a4e", func := "mooring/mooringlaw17.LeaseSmall", spec := "leaseSmall", apart := false }
def LeaseSmallSaid : Prop := leaseSmallRow.holds Try.pinned (OpenSpec.ofChange leaseSmallSpec)

/-- ITS FALSE NEIGHBOUR: 'it returns false'. Refute it at one input. -/
def leaseSmallWrong : ChangeSpec := { name := "leaseSmall", fn := fun _ => fun
  | [d1, d2, d3] => { results := [.lit (.bool false)], args := [d1, d2, d3] }
  | _ => none }
def LeaseSmallWrongFalsely : Prop := leaseSmallRow.holds Try.pinned (OpenSpec.ofChange leaseSmallWrong)

/-- 'mooringlaw17.LeaseLive': WHATEVER THE INPUT: true; the input reads as it did. -/
def leaseLiveSpec : ChangeSpec := { name := "leaseLive", fn := fun _ => fun
  | [d1, d2, d3] => { results := [.lit (.bool true)], args := [d1, d2, d3] }
  | _ => none }
def leaseLiveRow : OpenClaim := { program := "ytemdahcphdofmaa", sum := "1133c5dd3b243cf362cc0a5363ce1f8209779d32af67c708b8d1cab2d9751a4e", func := "mooring/mooringlaw17.LeaseLive", spec := "leaseLive", apart := false }
def LeaseLiveSaid : Prop := leaseLiveRow.holds Try.pinned (OpenSpec.ofChange leaseLiveSpec)

/-- ITS FALSE NEIGHBOUR: 'it returns false'. Refute it at one input. -/
def leaseLiveWrong : ChangeSpec := { name := "leaseLive", fn := fun _ => fun
  | [d1, d2, d3] => { results := [.lit (.bool false)], args := [d1, d2, d3] }
  | _ => none }
def LeaseLiveWrongFalsely : Prop := leaseLiveRow.holds Try.pinned (OpenSpec.ofChange leaseLiveWrong)

/-- 'mooringlaw17.LeaseWaits': WHATEVER THE INPUT: true; the input reads as it did. -/
def leaseWaitsSpec : ChangeSpec := { name := "leaseWaits", fn := fun _ => fun
  | [d1, d2, d3, d4] => { results := [.lit (.bool true)], args := [d1, d2, d3, d4] }
  | _ => none }
def leaseWaitsRow : OpenClaim := { program := "ytemdahcphdofmaa", sum := "1133c5dd3b243cf362cc0a5363ce1f8209779d32af67c708b8d1cab2d9751a4e", func := "mooring/mooringlaw17.LeaseWaits", spec := "leaseWaits", apart := false }
def LeaseWaitsSaid : Prop := leaseWaitsRow.holds Try.pinned (OpenSpec.ofChange leaseWaitsSpec)

/-- ITS FALSE NEIGHBOUR: 'it returns false'. Refute it at one input. -/
def leaseWaitsWrong : ChangeSpec := { name := "leaseWaits", fn := fun _ => fun
  | [d1, d2, d3, d4] => { results := [.lit (.bool false)], args := [d1, d2, d3, d4] }
  | _ => none }
def LeaseWaitsWrongFalsely : Prop := leaseWaitsRow.holds Try.pinned (OpenSpec.ofChange leaseWaitsWrong)

/-- 'mooringlaw17.LeaseGrows': WHATEVER THE INPUT: true; the input reads as it did. -/
def leaseGrowsSpec : ChangeSpec := { name := "leaseGrows", fn := fun _ => fun
  | [d1, d2] => { results := [.lit (.bool true)], args := [d1, d2] }
  | _ => none }
def leaseGrowsRow : OpenClaim := { program := "ytemdahcphdofmaa", sum := "1133c5dd3b243cf362cc0a5363ce1f8209779d32af67c708b8d1cab2d9751a4e", func := "mooring/mooringlaw17.LeaseGrows", spec := "leaseGrows", apart := false }
def LeaseGrowsSaid : Prop := leaseGrowsRow.holds Try.pinned (OpenSpec.ofChange leaseGrowsSpec)

/-- ITS FALSE NEIGHBOUR: 'it returns false'. Refute it at one input. -/
def leaseGrowsWrong : ChangeSpec := { name := "leaseGrows", fn := fun _ => fun
  | [d1, d2] => { results := [.lit (.bool false)], args := [d1, d2] }
  | _ => none }
def LeaseGrowsWrongFalsely : Prop := leaseGrowsRow.holds Try.pinned (OpenSpec.ofChange leaseGrowsWrong)

/-- 'mooringlaw17.LeaseSafe': WHATEVER THE INPUT: true; the input reads as it did. -/
def leaseSafeSpec : ChangeSpec := { name := "leaseSafe", fn := fun _ => fun
  | [d1, d2, d3, d4, d5] => { results := [.lit (.bool true)], args := [d1, d2, d3, d4, d5] }
  | _ => none }
def leaseSafeRow : OpenClaim := { program := "ytemdahcphdofmaa", sum := "1133c5dd3b243cf362cc0a5363ce1f8209779d32af67c708b8d1cab2d9751a4e", func := "mooring/mooringlaw17.LeaseSafe", spec := "leaseSafe", apart := false }
def LeaseSafeSaid : Prop := leaseSafeRow.holds Try.pinned (OpenSpec.ofChange leaseSafeSpec)

/-- ITS FALSE NEIGHBOUR: 'it returns false'. Refute it at one input. -/
def leaseSafeWrong : ChangeSpec := { name := "leaseSafe", fn := fun _ => fun
  | [d1, d2, d3, d4, d5] => { results := [.lit (.bool false)], args := [d1, d2, d3, d4, d5] }
  | _ => none }
def LeaseSafeWrongFalsely : Prop := leaseSafeRow.holds Try.pinned (OpenSpec.ofChange leaseSafeWrong)

/-- 'mooringlaw17.LeaseLeast': WHATEVER THE INPUT: true; the input reads as it did. -/
def leaseLeastSpec : ChangeSpec := { name := "leaseLeast", fn := fun _ => fun
  | [d1, d2, d3] => { results := [.lit (.bool true)], args := [d1, d2, d3] }
  | _ => none }
def leaseLeastRow : OpenClaim := { program := "ytemdahcphdofmaa", sum := "1133c5dd3b243cf362cc0a5363ce1f8209779d32af67c708b8d1cab2d9751a4e", func := "mooring/mooringlaw17.LeaseLeast", spec := "leaseLeast", apart := false }
def LeaseLeastSaid : Prop := leaseLeastRow.holds Try.pinned (OpenSpec.ofChange leaseLeastSpec)

/-- ITS FALSE NEIGHBOUR: 'it returns false'. Refute it at one input. -/
def leaseLeastWrong : ChangeSpec := { name := "leaseLeast", fn := fun _ => fun
  | [d1, d2, d3] => { results := [.lit (.bool false)], args := [d1, d2, d3] }
  | _ => none }
def LeaseLeastWrongFalsely : Prop := leaseLeastRow.holds Try.pinned (OpenSpec.ofChange leaseLeastWrong)

/- THE SECOND FORM. 'bulk': how many values and letters a reading holds, each counted each time it is reached (what is shared counts as often as it is met; a slice's spare places count too). A statement '..UptoSaid' is the law's where the arguments, and the package variables that the reading takes, are together of bulk at most 1048576: NARROWER than '..Said'. Prove '..Said' where nothing that the law and all that it calls make is longer than what came in: it says more and counts as full. Else prove '..UptoSaid'. A law counts once. -/
mutual
def uptoBulk {H : Type} : DataW H → Nat
  | .lit (.string bytes) => bytes.length + 1
  | .lit _ => 1
  | .nil => 1
  | .ptr d => uptoBulk d + 1
  | .slice elems spare => uptoBulkAll elems + uptoBulkAll spare + 1
  | .agg parts => uptoBulkAll parts + 1
  | .iface _ d => uptoBulk d + 1
  | .map entries => uptoBulkEntries entries + 1
  | .held _ => 1
def uptoBulkAll {H : Type} : List (DataW H) → Nat
  | [] => 0
  | d :: r => uptoBulk d + uptoBulkAll r
def uptoBulkEntries {H : Type} : List (Lit × DataW H) → Nat
  | [] => 0
  | x :: r => uptoBulkEntry x + uptoBulkEntries r
def uptoBulkEntry {H : Type} : Lit × DataW H → Nat
  | (.string bytes, d) => bytes.length + uptoBulk d + 1
  | (_, d) => uptoBulk d + 1
 end
def uptoSmall : (H : Type) → List (DataW H) → Bool := fun _ ds => decide (uptoBulkAll ds ≤ 1048576)
def OpenSpec.upto (s : _root_.Go.ChangeSpec) : _root_.Go.OpenSpec := { _root_.Go.OpenSpec.ofChange s with cond := some uptoSmall }

/-- 'mooringlaw17.LeaseKnown', WHERE WHAT IT READS IS OF BULK AT MOST 1048576: true; the input reads as it did. -/
def leaseKnownUptoRow : OpenClaim := { program := "ytemdahcphdofmaa", sum := "1133c5dd3b243cf362cc0a5363ce1f8209779d32af67c708b8d1cab2d9751a4e", func := "mooring/mooringlaw17.LeaseKnown", spec := "leaseKnown", apart := false, narrowed := true }
def LeaseKnownUptoSaid : Prop := leaseKnownUptoRow.holds Try.pinned (OpenSpec.upto leaseKnownSpec)

/-- 'mooringlaw17.LeaseHolder', WHERE WHAT IT READS IS OF BULK AT MOST 1048576: true; the input reads as it did. -/
def leaseHolderUptoRow : OpenClaim := { program := "ytemdahcphdofmaa", sum := "1133c5dd3b243cf362cc0a5363ce1f8209779d32af67c708b8d1cab2d9751a4e", func := "mooring/mooringlaw17.LeaseHolder", spec := "leaseHolder", apart := false, narrowed := true }
def LeaseHolderUptoSaid : Prop := leaseHolderUptoRow.holds Try.pinned (OpenSpec.upto leaseHolderSpec)

/-- 'mooringlaw17.LeaseSmall', WHERE WHAT IT READS IS OF BULK AT MOST 1048576: true; the input reads as it did. -/
def leaseSmallUptoRow : OpenClaim := { program := "ytemdahcphdofmaa", sum := "1133c5dd3b243cf362cc0a5363ce1f8209779d32af67c708b8d1cab2d9751a4e", func := "mooring/mooringlaw17.LeaseSmall", spec := "leaseSmall", apart := false, narrowed := true }
def LeaseSmallUptoSaid : Prop := leaseSmallUptoRow.holds Try.pinned (OpenSpec.upto leaseSmallSpec)

/-- 'mooringlaw17.LeaseLive', WHERE WHAT IT READS IS OF BULK AT MOST 1048576: true; the input reads as it did. -/
def leaseLiveUptoRow : OpenClaim := { program := "ytemdahcphdofmaa", sum := "1133c5dd3b243cf362cc0a5363ce1f8209779d32af67c708b8d1cab2d9751a4e", func := "mooring/mooringlaw17.LeaseLive", spec := "leaseLive", apart := false, narrowed := true }
def LeaseLiveUptoSaid : Prop := leaseLiveUptoRow.holds Try.pinned (OpenSpec.upto leaseLiveSpec)

/-- 'mooringlaw17.LeaseWaits', WHERE WHAT IT READS IS OF BULK AT MOST 1048576: true; the input reads as it did. -/
def leaseWaitsUptoRow : OpenClaim := { program := "ytemdahcphdofmaa", sum := "1133c5dd3b243cf362cc0a5363ce1f8209779d32af67c708b8d1cab2d9751a4e", func := "mooring/mooringlaw17.LeaseWaits", spec := "leaseWaits", apart := false, narrowed := true }
def LeaseWaitsUptoSaid : Prop := leaseWaitsUptoRow.holds Try.pinned (OpenSpec.upto leaseWaitsSpec)

/-- 'mooringlaw17.LeaseGrows', WHERE WHAT IT READS IS OF BULK AT MOST 1048576: true; the input reads as it did. -/
def leaseGrowsUptoRow : OpenClaim := { program := "ytemdahcphdofmaa", sum := "1133c5dd3b243cf362cc0a5363ce1f8209779d32af67c708b8d1cab2d9751a4e", func := "mooring/mooringlaw17.LeaseGrows", spec := "leaseGrows", apart := false, narrowed := true }
def LeaseGrowsUptoSaid : Prop := leaseGrowsUptoRow.holds Try.pinned (OpenSpec.upto leaseGrowsSpec)

/-- 'mooringlaw17.LeaseSafe', WHERE WHAT IT READS IS OF BULK AT MOST 1048576: true; the input reads as it did. -/
def leaseSafeUptoRow : OpenClaim := { program := "ytemdahcphdofmaa", sum := "1133c5dd3b243cf362cc0a5363ce1f8209779d32af67c708b8d1cab2d9751a4e", func := "mooring/mooringlaw17.LeaseSafe", spec := "leaseSafe", apart := false, narrowed := true }
def LeaseSafeUptoSaid : Prop := leaseSafeUptoRow.holds Try.pinned (OpenSpec.upto leaseSafeSpec)

/-- 'mooringlaw17.LeaseLeast', WHERE WHAT IT READS IS OF BULK AT MOST 1048576: true; the input reads as it did. -/
def leaseLeastUptoRow : OpenClaim := { program := "ytemdahcphdofmaa", sum := "1133c5dd3b243cf362cc0a5363ce1f8209779d32af67c708b8d1cab2d9751a4e", func := "mooring/mooringlaw17.LeaseLeast", spec := "leaseLeast", apart := false, narrowed := true }
def LeaseLeastUptoSaid : Prop := leaseLeastUptoRow.holds Try.pinned (OpenSpec.upto leaseLeastSpec)

end Rows
end Go.Proofs.Ytemdahcphdofmaa
