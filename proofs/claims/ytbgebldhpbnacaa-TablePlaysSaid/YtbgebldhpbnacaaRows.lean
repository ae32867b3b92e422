/-
  No cell of these rows narrows 'for every input' (looked for: loops, veiled, ifaces, maps, wideKeys, modest, calm, conditions, laid).
  DERIVED. THE GIVEN ROWS OF THIS SEAT. 6 by the template 'for every input the law returns true; each argument reads behind the call as it read before'; 0 by the template 'total and deterministic' (their statements: YtbgebldhpbnacaaTotals.lean).
  GIVEN WITH THE SEED: the statements are not yours to turn. If you find one false, say at which input.
  Laid BY PROGRAM, IN A SANDBOX (cutbox-rows.mjs): the forced cells as the released guide's own fill.sh prints them over the translation abaa1849454227e6… (all of the seat's roots in one cut). By AI agents, Wed Nov 11 2026. No macro, syntax, notation, axiom, sorry.
-/
import Derived.Test.YtbgebldhpbnacaaChecked
import GoSem.Claim
import GoSem.ClaimJoined
import GoSem.ClaimMapViews
import Derived.JoinedTies
import Derived.KernelRfl
namespace Go.Proofs.Ytbgebldhpbnacaa
/- THE CELL 'sum', in the pinned program and in every row, IS THE sha256 OF THE DUMP (.gsa) THAT YtbgebldhpbnacaaProg.lean LOADS. Nothing in Lean hashes anything: it is a label: what it is worth is what the hold of that sum in a sandbox is worth. -/
noncomputable def Try.pinned : Pinned := { name := "ytbgebldhpbnacaa", sum := "abaa1849454227e69dd54f7f4820ba1fef4b2d6d9ea246739d9b59698b0a4fa5", checked := Try.checked }
namespace Rows
def none {H : Type} : Left H := { results := [], args := [] }

/-- 'mooringlaw6.TableWords': WHATEVER THE INPUT: true; the input reads as it did. -/
def tableWordsSpec : ChangeSpec := { name := "tableWords", fn := fun _ => fun
  | [d1, d2] => { results := [.lit (.bool true)], args := [d1, d2] }
  | _ => none }
def tableWordsRow : OpenClaim := { program := "ytbgebldhpbnacaa", sum := "abaa1849454227e69dd54f7f4820ba1fef4b2d6d9ea246739d9b59698b0a4fa5", func := "mooring/mooringlaw6.TableWords", spec := "tableWords", inPlace := ["slices.overlaps[uint64]", "slices.overlaps[string]", "slices.overlaps[int]"], apart := false }
def TableWordsSaid : Prop := tableWordsRow.holds Try.pinned (OpenSpec.ofChange tableWordsSpec)

/-- ITS FALSE NEIGHBOUR: 'it returns false'. Refute it at one input. -/
def tableWordsWrong : ChangeSpec := { name := "tableWords", fn := fun _ => fun
  | [d1, d2] => { results := [.lit (.bool false)], args := [d1, d2] }
  | _ => none }
def TableWordsWrongFalsely : Prop := tableWordsRow.holds Try.pinned (OpenSpec.ofChange tableWordsWrong)

/-- 'mooringlaw6.TableRound': WHATEVER THE INPUT: true; the input reads as it did. -/
def tableRoundSpec : ChangeSpec := { name := "tableRound", fn := fun _ => fun
  | [d1, d2] => { results := [.lit (.bool true)], args := [d1, d2] }
  | _ => none }
def tableRoundRow : OpenClaim := { program := "ytbgebldhpbnacaa", sum := "abaa1849454227e69dd54f7f4820ba1fef4b2d6d9ea246739d9b59698b0a4fa5", func := "mooring/mooringlaw6.TableRound", spec := "tableRound", inPlace := ["slices.overlaps[uint64]", "slices.overlaps[string]", "slices.overlaps[int]"], apart := false }
def TableRoundSaid : Prop := tableRoundRow.holds Try.pinned (OpenSpec.ofChange tableRoundSpec)

/-- ITS FALSE NEIGHBOUR: 'it returns false'. Refute it at one input. -/
def tableRoundWrong : ChangeSpec := { name := "tableRound", fn := fun _ => fun
  | [d1, d2] => { results := [.lit (.bool false)], args := [d1, d2] }
  | _ => none }
def TableRoundWrongFalsely : Prop := tableRoundRow.holds Try.pinned (OpenSpec.ofChange tableRoundWrong)

/-- 'mooringlaw6.TableFull': WHATEVER THE INPUT: true; the input reads as it did. -/
def tableFullSpec : ChangeSpec := { name := "tableFull", fn := fun _ => fun
  | [d1, d2, d3] => { results := [.lit (.bool true)], args := [d1, d2, d3] }
  | _ => none }
def tableFullRow : OpenClaim := { program := "ytbgebldhpbnacaa", sum := "abaa1849454227e69dd54f7f4820ba1fef4b2d6d9ea246739d9b59698b0a4fa5", func := "mooring/mooringlaw6.TableFull", spec := "tableFull", inPlace := ["slices.overlaps[uint64]", "slices.overlaps[string]", "slices.overlaps[int]"], apart := false }
def TableFullSaid : Prop := tableFullRow.holds Try.pinned (OpenSpec.ofChange tableFullSpec)

/-- ITS FALSE NEIGHBOUR: 'it returns false'. Refute it at one input. -/
def tableFullWrong : ChangeSpec := { name := "tableFull", fn := fun _ => fun
  | [d1, d2, d3] => { results := [.lit (.bool false)], args := [d1, d2, d3] }
  | _ => none }
def TableFullWrongFalsely : Prop := tableFullRow.holds Try.pinned (OpenSpec.ofChange tableFullWrong)

/-- 'mooringlaw6.TableTwo': WHATEVER THE INPUT: true; the input reads as it did. -/
def tableTwoSpec : ChangeSpec := { name := "tableTwo", fn := fun _ => fun
  | [d] => { results := [.lit (.bool true)], args := [d] }
  | _ => none }
def tableTwoRow : OpenClaim := { program := "ytbgebldhpbnacaa", sum := "abaa1849454227e69dd54f7f4820ba1fef4b2d6d9ea246739d9b59698b0a4fa5", func := "mooring/mooringlaw6.TableTwo", spec := "tableTwo", inPlace := ["slices.overlaps[uint64]", "slices.overlaps[string]", "slices.overlaps[int]"], apart := false }
def TableTwoSaid : Prop := tableTwoRow.holds Try.pinned (OpenSpec.ofChange tableTwoSpec)

/-- ITS FALSE NEIGHBOUR: 'it returns false'. Refute it at one input. -/
def tableTwoWrong : ChangeSpec := { name := "tableTwo", fn := fun _ => fun
  | [d] => { results := [.lit (.bool false)], args := [d] }
  | _ => none }
def TableTwoWrongFalsely : Prop := tableTwoRow.holds Try.pinned (OpenSpec.ofChange tableTwoWrong)

/-- 'mooringlaw6.TableKnown': WHATEVER THE INPUT: true; the input reads as it did. -/
def tableKnownSpec : ChangeSpec := { name := "tableKnown", fn := fun _ => fun
  | [] => { results := [.lit (.bool true)], args := [] }
  | _ => none }
def tableKnownRow : OpenClaim := { program := "ytbgebldhpbnacaa", sum := "abaa1849454227e69dd54f7f4820ba1fef4b2d6d9ea246739d9b59698b0a4fa5", func := "mooring/mooringlaw6.TableKnown", spec := "tableKnown", inPlace := ["slices.overlaps[uint64]", "slices.overlaps[string]", "slices.overlaps[int]"], apart := false }
def TableKnownSaid : Prop := tableKnownRow.holds Try.pinned (OpenSpec.ofChange tableKnownSpec)

/-- ITS FALSE NEIGHBOUR: 'it returns false'. Refute it at one input. -/
def tableKnownWrong : ChangeSpec := { name := "tableKnown", fn := fun _ => fun
  | [] => { results := [.lit (.bool false)], args := [] }
  | _ => none }
def TableKnownWrongFalsely : Prop := tableKnownRow.holds Try.pinned (OpenSpec.ofChange tableKnownWrong)

/-- 'mooringlaw6.TablePlays': WHATEVER THE INPUT: true; the input reads as it did. -/
def tablePlaysSpec : ChangeSpec := { name := "tablePlays", fn := fun _ => fun
  | [d1, d2] => { results := [.lit (.bool true)], args := [d1, d2] }
  | _ => none }
def tablePlaysRow : OpenClaim := { program := "ytbgebldhpbnacaa", sum := "abaa1849454227e69dd54f7f4820ba1fef4b2d6d9ea246739d9b59698b0a4fa5", func := "mooring/mooringlaw6.TablePlays", spec := "tablePlays", inPlace := ["slices.overlaps[uint64]", "slices.overlaps[string]", "slices.overlaps[int]"], apart := false }
def TablePlaysSaid : Prop := tablePlaysRow.holds Try.pinned (OpenSpec.ofChange tablePlaysSpec)

/-- ITS FALSE NEIGHBOUR: 'it returns false'. Refute it at one input. -/
def tablePlaysWrong : ChangeSpec := { name := "tablePlays", fn := fun _ => fun
  | [d1, d2] => { results := [.lit (.bool false)], args := [d1, d2] }
  | _ => none }
def TablePlaysWrongFalsely : Prop := tablePlaysRow.holds Try.pinned (OpenSpec.ofChange tablePlaysWrong)

/- THE SECOND FORM. 'bulk': how many values and letters a reading holds, each counted each time it is reached (what is shared counts as often as it is met; a slice's spare places count too). A statement '..UptoSaid' is the law's where the arguments, and the package variables that the reading takes, are together of bulk at most 1048576: NARROWER than '..Said'. Prove '..Said' where nothing that the law and all that it calls make is longer than what came in: it says more and counts as full. Else prove '..UptoSaid'. A law counts once. -/
mutual
def uptoBulk {H : Type} : DataW H → Nat
  | .lit (.string bytes) => bytes.length + 1
  | .lit _ => 1
  | .nil => 1
  | .ptr d => uptoBulk d + 1
  | .slice elems spare => uptoBulkAll elems + uptoBulkAll spare + 1
  | .agg parts => uptoBulkAll parts + 1
  | .iface _ d => uptoBulk d + 1
  | .map entries => uptoBulkEntries entries + 1
  | .held _ => 1
def uptoBulkAll {H : Type} : List (DataW H) → Nat
  | [] => 0
  | d :: r => uptoBulk d + uptoBulkAll r
def uptoBulkEntries {H : Type} : List (Lit × DataW H) → Nat
  | [] => 0
  | x :: r => uptoBulkEntry x + uptoBulkEntries r
def uptoBulkEntry {H : Type} : Lit × DataW H → Nat
  | (.string bytes, d) => bytes.length + uptoBulk d + 1
  | (_, d) => uptoBulk d + 1
 end
def uptoSmall : (H : Type) → List (DataW H) → Bool := fun _ ds => decide (uptoBulkAll ds ≤ 1048576)
def OpenSpec.upto (s : _root_.Go.ChangeSpec) : _root_.Go.OpenSpec := { _root_.Go.OpenSpec.ofChange s with cond := some uptoSmall }

/-- 'mooringlaw6.TableWords', WHERE WHAT IT READS IS OF BULK AT MOST 1048576: true; the input reads as it did. -/
def tableWordsUptoRow : OpenClaim := { program := "ytbgebldhpbnacaa", sum := "abaa1849454227e69dd54f7f4820ba1fef4b2d6d9ea246739d9b59698b0a4fa5", func := "mooring/mooringlaw6.TableWords", spec := "tableWords", inPlace := ["slices.overlaps[uint64]", "slices.overlaps[string]", "slices.overlaps[int]"], apart := false, narrowed := true }
def TableWordsUptoSaid : Prop := tableWordsUptoRow.holds Try.pinned (OpenSpec.upto tableWordsSpec)

/-- 'mooringlaw6.TableRound', WHERE WHAT IT READS IS OF BULK AT MOST 1048576: true; the input reads as it did. -/
def tableRoundUptoRow : OpenClaim := { program := "ytbgebldhpbnacaa", sum := "abaa1849454227e69dd54f7f4820ba1fef4b2d6d9ea246739d9b59698b0a4fa5", func := "mooring/mooringlaw6.TableRound", spec := "tableRound", inPlace := ["slices.overlaps[uint64]", "slices.overlaps[string]", "slices.overlaps[int]"], apart := false, narrowed := true }
def TableRoundUptoSaid : Prop := tableRoundUptoRow.holds Try.pinned (OpenSpec.upto tableRoundSpec)

/-- 'mooringlaw6.TableFull', WHERE WHAT IT READS IS OF BULK AT MOST 1048576: true; the input reads as it did. -/
def tableFullUptoRow : OpenClaim := { program := "ytbgebldhpbnacaa", sum := "abaa1849454227e69dd54f7f4820ba1fef4b2d6d9ea246739d9b59698b0a4fa5", func := "mooring/mooringlaw6.TableFull", spec := "tableFull", inPlace := ["slices.overlaps[uint64]", "slices.overlaps[string]", "slices.overlaps[int]"], apart := false, narrowed := true }
def TableFullUptoSaid : Prop := tableFullUptoRow.holds Try.pinned (OpenSpec.upto tableFullSpec)

/-- 'mooringlaw6.TableTwo', WHERE WHAT IT READS IS OF BULK AT MOST 1048576: true; the input reads as it did. -/
def tableTwoUptoRow : OpenClaim := { program := "ytbgebldhpbnacaa", sum := "abaa1849454227e69dd54f7f4820ba1fef4b2d6d9ea246739d9b59698b0a4fa5", func := "mooring/mooringlaw6.TableTwo", spec := "tableTwo", inPlace := ["slices.overlaps[uint64]", "slices.overlaps[string]", "slices.overlaps[int]"], apart := false, narrowed := true }
def TableTwoUptoSaid : Prop := tableTwoUptoRow.holds Try.pinned (OpenSpec.upto tableTwoSpec)

/-- 'mooringlaw6.TableKnown', WHERE WHAT IT READS IS OF BULK AT MOST 1048576: true; the input reads as it did. -/
def tableKnownUptoRow : OpenClaim := { program := "ytbgebldhpbnacaa", sum := "abaa1849454227e69dd54f7f4820ba1fef4b2d6d9ea246739d9b59698b0a4fa5", func := "mooring/mooringlaw6.TableKnown", spec := "tableKnown", inPlace := ["slices.overlaps[uint64]", "slices.overlaps[string]", "slices.overlaps[int]"], apart := false, narrowed := true }
def TableKnownUptoSaid : Prop := tableKnownUptoRow.holds Try.pinned (OpenSpec.upto tableKnownSpec)

/-- 'mooringlaw6.TablePlays', WHERE WHAT IT READS IS OF BULK AT MOST 1048576: true; the input reads as it did. -/
def tablePlaysUptoRow : OpenClaim := { program := "ytbgebldhpbnacaa", sum := "abaa1849454227e69dd54f7f4820ba1fef4b2d6d9ea246739d9b59698b0a4fa5", func := "mooring/mooringlaw6.TablePlays", spec := "tablePlays", inPlace := ["slices.overlaps[uint64]", "slices.overlaps[string]", "slices.overlaps[int]"], apart := false, narrowed := true }
def TablePlaysUptoSaid : Prop := tablePlaysUptoRow.holds Try.pinned (OpenSpec.upto tablePlaysSpec)

end Rows
end Go.Proofs.Ytbgebldhpbnacaa
