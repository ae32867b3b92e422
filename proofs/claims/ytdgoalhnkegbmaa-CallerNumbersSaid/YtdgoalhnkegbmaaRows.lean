/-
  No cell of these rows narrows 'for every input' (looked for: loops, veiled, ifaces, maps, wideKeys, modest, calm, conditions, laid).
  DERIVED. THE GIVEN ROWS OF THIS SEAT. 6 by the template 'for every input the law returns true; each argument reads behind the call as it read before'; 0 by the template 'total and deterministic' (their statements: YtdgoalhnkegbmaaTotals.lean).
  GIVEN WITH THE SEED: the statements are not yours to turn. If you find one false, say at which input.
  Laid BY PROGRAM, IN A SANDBOX (cutbox-rows.mjs): the forced cells as the released guide's own fill.sh prints them over the translation 066630e6682a8992… (all of the seat's roots in one cut). By AI agents, Wed Nov 11 2026. No macro, syntax, notation, axiom, sorry.
-/
import Derived.Test.YtdgoalhnkegbmaaChecked
import GoSem.Claim
import GoSem.ClaimJoined
import GoSem.ClaimMapViews
import Derived.JoinedTies
import Derived.KernelRfl
namespace Go.Proofs.Ytdgoalhnkegbmaa
/- THE CELL 'sum', in the pinned program and in every row, IS THE sha256 OF THE DUMP (.gsa) THAT YtdgoalhnkegbmaaProg.lean LOADS. Nothing in Lean hashes anything: it is a label: what it is worth is what the hold of that sum in a sandbox is worth. -/
noncomputable def Try.pinned : Pinned := { name := "ytdgoalhnkegbmaa", sum := "066630e6682a8992fb0544e33aa45ee9322ab92192a3e926588f0e705f66a422", checked := Try.checked }
namespace Rows
def none {H : Type} : Left H := { results := [], args := [] }

/-- 'mooringlaw20.CallerSends': WHATEVER THE INPUT: true; the input reads as it did. -/
def callerSendsSpec : ChangeSpec := { name := "callerSends", fn := fun _ => fun
  | [d1, d2, d3] => { results := [.lit (.bool true)], args := [d1, d2, d3] }
  | _ => none }
def callerSendsRow : OpenClaim := { program := "ytdgoalhnkegbmaa", sum := "066630e6682a8992fb0544e33aa45ee9322ab92192a3e926588f0e705f66a422", func := "mooring/mooringlaw20.CallerSends", spec := "callerSends", inPlace := ["slices.overlaps[uint64]", "slices.overlaps[mooring/api.Call]"], apart := false }
def CallerSendsSaid : Prop := callerSendsRow.holds Try.pinned (OpenSpec.ofChange callerSendsSpec)

/-- ITS FALSE NEIGHBOUR: 'it returns false'. Refute it at one input. -/
def callerSendsWrong : ChangeSpec := { name := "callerSends", fn := fun _ => fun
  | [d1, d2, d3] => { results := [.lit (.bool false)], args := [d1, d2, d3] }
  | _ => none }
def CallerSendsWrongFalsely : Prop := callerSendsRow.holds Try.pinned (OpenSpec.ofChange callerSendsWrong)

/-- 'mooringlaw20.CallerNumbers': WHATEVER THE INPUT: true; the input reads as it did. -/
def callerNumbersSpec : ChangeSpec := { name := "callerNumbers", fn := fun _ => fun
  | [d1, d2] => { results := [.lit (.bool true)], args := [d1, d2] }
  | _ => none }
def callerNumbersRow : OpenClaim := { program := "ytdgoalhnkegbmaa", sum := "066630e6682a8992fb0544e33aa45ee9322ab92192a3e926588f0e705f66a422", func := "mooring/mooringlaw20.CallerNumbers", spec := "callerNumbers", inPlace := ["slices.overlaps[uint64]", "slices.overlaps[mooring/api.Call]"], apart := false }
def CallerNumbersSaid : Prop := callerNumbersRow.holds Try.pinned (OpenSpec.ofChange callerNumbersSpec)

/-- ITS FALSE NEIGHBOUR: 'it returns false'. Refute it at one input. -/
def callerNumbersWrong : ChangeSpec := { name := "callerNumbers", fn := fun _ => fun
  | [d1, d2] => { results := [.lit (.bool false)], args := [d1, d2] }
  | _ => none }
def CallerNumbersWrongFalsely : Prop := callerNumbersRow.holds Try.pinned (OpenSpec.ofChange callerNumbersWrong)

/-- 'mooringlaw20.CallerEnds': WHATEVER THE INPUT: true; the input reads as it did. -/
def callerEndsSpec : ChangeSpec := { name := "callerEnds", fn := fun _ => fun
  | [d1, d2] => { results := [.lit (.bool true)], args := [d1, d2] }
  | _ => none }
def callerEndsRow : OpenClaim := { program := "ytdgoalhnkegbmaa", sum := "066630e6682a8992fb0544e33aa45ee9322ab92192a3e926588f0e705f66a422", func := "mooring/mooringlaw20.CallerEnds", spec := "callerEnds", inPlace := ["slices.overlaps[uint64]", "slices.overlaps[mooring/api.Call]"], apart := false }
def CallerEndsSaid : Prop := callerEndsRow.holds Try.pinned (OpenSpec.ofChange callerEndsSpec)

/-- ITS FALSE NEIGHBOUR: 'it returns false'. Refute it at one input. -/
def callerEndsWrong : ChangeSpec := { name := "callerEnds", fn := fun _ => fun
  | [d1, d2] => { results := [.lit (.bool false)], args := [d1, d2] }
  | _ => none }
def CallerEndsWrongFalsely : Prop := callerEndsRow.holds Try.pinned (OpenSpec.ofChange callerEndsWrong)

/-- 'mooringlaw20.CallerKnown': WHATEVER THE INPUT: true; the input reads as it did. -/
def callerKnownSpec : ChangeSpec := { name := "callerKnown", fn := fun _ => fun
  | [] => { results := [.lit (.bool true)], args := [] }
  | _ => none }
def callerKnownRow : OpenClaim := { program := "ytdgoalhnkegbmaa", sum := "066630e6682a8992fb0544e33aa45ee9322ab92192a3e926588f0e705f66a422", func := "mooring/mooringlaw20.CallerKnown", spec := "callerKnown", inPlace := ["slices.overlaps[uint64]", "slices.overlaps[mooring/api.Call]"], apart := false }
def CallerKnownSaid : Prop := callerKnownRow.holds Try.pinned (OpenSpec.ofChange callerKnownSpec)

/-- ITS FALSE NEIGHBOUR: 'it returns false'. Refute it at one input. -/
def callerKnownWrong : ChangeSpec := { name := "callerKnown", fn := fun _ => fun
  | [] => { results := [.lit (.bool false)], args := [] }
  | _ => none }
def CallerKnownWrongFalsely : Prop := callerKnownRow.holds Try.pinned (OpenSpec.ofChange callerKnownWrong)

/-- 'mooringlaw20.CallerHeld': WHATEVER THE INPUT: true; the input reads as it did. -/
def callerHeldSpec : ChangeSpec := { name := "callerHeld", fn := fun _ => fun
  | [d1, d2, d3, d4, d5] => { results := [.lit (.bool true)], args := [d1, d2, d3, d4, d5] }
  | _ => none }
def callerHeldRow : OpenClaim := { program := "ytdgoalhnkegbmaa", sum := "066630e6682a8992fb0544e33aa45ee9322ab92192a3e926588f0e705f66a422", func := "mooring/mooringlaw20.CallerHeld", spec := "callerHeld", inPlace := ["slices.overlaps[uint64]", "slices.overlaps[mooring/api.Call]"], apart := false }
def CallerHeldSaid : Prop := callerHeldRow.holds Try.pinned (OpenSpec.ofChange callerHeldSpec)

/-- ITS FALSE NEIGHBOUR: 'it returns false'. Refute it at one input. -/
def callerHeldWrong : ChangeSpec := { name := "callerHeld", fn := fun _ => fun
  | [d1, d2, d3, d4, d5] => { results := [.lit (.bool false)], args := [d1, d2, d3, d4, d5] }
  | _ => none }
def CallerHeldWrongFalsely : Prop := callerHeldRow.holds Try.pinned (OpenSpec.ofChange callerHeldWrong)

/-- 'mooringlaw20.CallerLate': WHATEVER THE INPUT: true; the input reads as it did. -/
def callerLateSpec : ChangeSpec := { name := "callerLate", fn := fun _ => fun
  | [d1, d2] => { results := [.lit (.bool true)], args := [d1, d2] }
  | _ => none }
def callerLateRow : OpenClaim := { program := "ytdgoalhnkegbmaa", sum := "066630e6682a8992fb0544e33aa45ee9322ab92192a3e926588f0e705f66a422", func := "mooring/mooringlaw20.CallerLate", spec := "callerLate", inPlace := ["slices.overlaps[uint64]", "slices.overlaps[mooring/api.Call]"], apart := false }
def CallerLateSaid : Prop := callerLateRow.holds Try.pinned (OpenSpec.ofChange callerLateSpec)

/-- ITS FALSE NEIGHBOUR: 'it returns false'. Refute it at one input. -/
def callerLateWrong : ChangeSpec := { name := "callerLate", fn := fun _ => fun
  | [d1, d2] => { results := [.lit (.bool false)], args := [d1, d2] }
  | _ => none }
def CallerLateWrongFalsely : Prop := callerLateRow.holds Try.pinned (OpenSpec.ofChange callerLateWrong)

/- THE SECOND FORM. 'bulk': how many values and letters a reading holds, each counted each time it is reached (what is shared counts as often as it is met; a slice's spare places count too). A statement '..UptoSaid' is the law's where the arguments, and the package variables that the reading takes, are together of bulk at most 1048576: NARROWER than '..Said'. Prove '..Said' where nothing that the law and all that it calls make is longer than what came in: it says more and counts as full. Else prove '..UptoSaid'. A law counts once. -/
mutual
def uptoBulk {H : Type} : DataW H → Nat
  | .lit (.string bytes) => bytes.length + 1
  | .lit _ => 1
  | .nil => 1
  | .ptr d => uptoBulk d + 1
  | .slice elems spare => uptoBulkAll elems + uptoBulkAll spare + 1
  | .agg parts => uptoBulkAll parts + 1
  | .iface _ d => uptoBulk d + 1
  | .map entries => uptoBulkEntries entries + 1
  | .held _ => 1
def uptoBulkAll {H : Type} : List (DataW H) → Nat
  | [] => 0
  | d :: r => uptoBulk d + uptoBulkAll r
def uptoBulkEntries {H : Type} : List (Lit × DataW H) → Nat
  | [] => 0
  | x :: r => uptoBulkEntry x + uptoBulkEntries r
def uptoBulkEntry {H : Type} : Lit × DataW H → Nat
  | (.string bytes, d) => bytes.length + uptoBulk d + 1
  | (_, d) => uptoBulk d + 1
 end
def uptoSmall : (H : Type) → List (DataW H) → Bool := fun _ ds => decide (uptoBulkAll ds ≤ 1048576)
def OpenSpec.upto (s : _root_.Go.ChangeSpec) : _root_.Go.OpenSpec := { _root_.Go.OpenSpec.ofChange s with cond := some uptoSmall }

/-- 'mooringlaw20.CallerSends', WHERE WHAT IT READS IS OF BULK AT MOST 1048576: true; the input reads as it did. -/
def callerSendsUptoRow : OpenClaim := { program := "ytdgoalhnkegbmaa", sum := "066630e6682a8992fb0544e33aa45ee9322ab92192a3e926588f0e705f66a422", func := "mooring/mooringlaw20.CallerSends", spec := "callerSends", inPlace := ["slices.overlaps[uint64]", "slices.overlaps[mooring/api.Call]"], apart := false, narrowed := true }
def CallerSendsUptoSaid : Prop := callerSendsUptoRow.holds Try.pinned (OpenSpec.upto callerSendsSpec)

/-- 'mooringlaw20.CallerNumbers', WHERE WHAT IT READS IS OF BULK AT MOST 1048576: true; the input reads as it did. -/
def callerNumbersUptoRow : OpenClaim := { program := "ytdgoalhnkegbmaa", sum := "066630e6682a8992fb0544e33aa45ee9322ab92192a3e926588f0e705f66a422", func := "mooring/mooringlaw20.CallerNumbers", spec := "callerNumbers", inPlace := ["slices.overlaps[uint64]", "slices.overlaps[mooring/api.Call]"], apart := false, narrowed := true }
def CallerNumbersUptoSaid : Prop := callerNumbersUptoRow.holds Try.pinned (OpenSpec.upto callerNumbersSpec)

/-- 'mooringlaw20.CallerEnds', WHERE WHAT IT READS IS OF BULK AT MOST 1048576: true; the input reads as it did. -/
def callerEndsUptoRow : OpenClaim := { program := "ytdgoalhnkegbmaa", sum := "066630e6682a8992fb0544e33aa45ee9322ab92192a3e926588f0e705f66a422", func := "mooring/mooringlaw20.CallerEnds", spec := "callerEnds", inPlace := ["slices.overlaps[uint64]", "slices.overlaps[mooring/api.Call]"], apart := false, narrowed := true }
def CallerEndsUptoSaid : Prop := callerEndsUptoRow.holds Try.pinned (OpenSpec.upto callerEndsSpec)

/-- 'mooringlaw20.CallerKnown', WHERE WHAT IT READS IS OF BULK AT MOST 1048576: true; the input reads as it did. -/
def callerKnownUptoRow : OpenClaim := { program := "ytdgoalhnkegbmaa", sum := "066630e6682a8992fb0544e33aa45ee9322ab92192a3e926588f0e705f66a422", func := "mooring/mooringlaw20.CallerKnown", spec := "callerKnown", inPlace := ["slices.overlaps[uint64]", "slices.overlaps[mooring/api.Call]"], apart := false, narrowed := true }
def CallerKnownUptoSaid : Prop := callerKnownUptoRow.holds Try.pinned (OpenSpec.upto callerKnownSpec)

/-- 'mooringlaw20.CallerHeld', WHERE WHAT IT READS IS OF BULK AT MOST 1048576: true; the input reads as it did. -/
def callerHeldUptoRow : OpenClaim := { program := "ytdgoalhnkegbmaa", sum := "066630e6682a8992fb0544e33aa45ee9322ab92192a3e926588f0e705f66a422", func := "mooring/mooringlaw20.CallerHeld", spec := "callerHeld", inPlace := ["slices.overlaps[uint64]", "slices.overlaps[mooring/api.Call]"], apart := false, narrowed := true }
def CallerHeldUptoSaid : Prop := callerHeldUptoRow.holds Try.pinned (OpenSpec.upto callerHeldSpec)

/-- 'mooringlaw20.CallerLate', WHERE WHAT IT READS IS OF BULK AT MOST 1048576: true; the input reads as it did. -/
def callerLateUptoRow : OpenClaim := { program := "ytdgoalhnkegbmaa", sum := "066630e6682a8992fb0544e33aa45ee9322ab92192a3e926588f0e705f66a422", func := "mooring/mooringlaw20.CallerLate", spec := "callerLate", inPlace := ["slices.overlaps[uint64]", "slices.overlaps[mooring/api.Call]"], apart := false, narrowed := true }
def CallerLateUptoSaid : Prop := callerLateUptoRow.holds Try.pinned (OpenSpec.upto callerLateSpec)

end Rows
end Go.Proofs.Ytdgoalhnkegbmaa
