/-
  No cell of these rows narrows 'for every input' (looked for: loops, veiled, ifaces, maps, wideKeys, modest, calm, conditions, laid).
  DERIVED. THE GIVEN ROWS OF THIS SEAT. 4 by the template 'for every input the law returns true; each argument reads behind the call as it read before'; 0 by the template 'total and deterministic' (their statements: YtnjmkhhaodgpbaaGreatTotals.lean).
  GIVEN WITH THE SEED: the statements are not yours to turn. If you find one false, say at which input.
  Laid BY PROGRAM, IN A SANDBOX (cutbox-rows.mjs): the forced cells as the released guide's own fill.sh prints them over the translation a8ff613b8421f8bd… (all of the seat's roots in one cut). By AI agents, Wed Nov 11 2026. No macro, syntax, notation, axiom, sorry.
-/
import Derived.Test.YtnjmkhhaodgpbaaGreatChecked
import GoSem.Claim
import GoSem.ClaimJoined
import GoSem.ClaimMapViews
import Derived.JoinedTies
import Derived.KernelRfl
namespace Go.Proofs.YtnjmkhhaodgpbaaGreat
/- THE CELL 'sum', in the pinned program and in every row, IS THE sha256 OF THE DUMP (.gsa) THAT YtnjmkhhaodgpbaaGreatProg.lean LOADS. Nothing in Lean hashes anything: it is a label: what it is worth is what the hold of that sum in a sandbox is worth. -/
noncomputable def Tryz.pinned : Pinned := { name := "ytnjmkhhaodgpbaagreat", sum := "a8ff613b8421f8bdd80276b5f7e5c73f622adcbcd3d53ccbe5bbbc55dc830078", checked := Tryz.checked }
namespace Rows
def none {H : Type} : Left H := { results := [], args := [] }

/-- 'mooringlaw19.ScionPlays': WHATEVER THE INPUT: true; the input reads as it did. -/
def scionPlaysSpec : ChangeSpec := { name := "scionPlays", fn := fun _ => fun
  | [d1, d2, d3] => { results := [.lit (.bool true)], args := [d1, d2, d3] }
  | _ => none }
def scionPlaysRow : OpenClaim := { program := "ytnjmkhhaodgpbaagreat", sum := "a8ff613b8421f8bdd80276b5f7e5c73f622adcbcd3d53ccbe5bbbc55dc830078", func := "mooring/mooringlaw19.ScionPlays", spec := "scionPlays", inPlace := ["slices.overlaps[uint64]", "slices.overlaps[mooring/api.Scion]"], unfollowed := true, recurses := true, apart := false }
def ScionPlaysSaid : Prop := scionPlaysRow.holds Tryz.pinned (OpenSpec.ofChange scionPlaysSpec)

/-- ITS FALSE NEIGHBOUR: 'it returns false'. Refute it at one input. -/
def scionPlaysWrong : ChangeSpec := { name := "scionPlays", fn := fun _ => fun
  | [d1, d2, d3] => { results := [.lit (.bool false)], args := [d1, d2, d3] }
  | _ => none }
def ScionPlaysWrongFalsely : Prop := scionPlaysRow.holds Tryz.pinned (OpenSpec.ofChange scionPlaysWrong)

/-- 'mooringlaw19.ScionIn': WHATEVER THE INPUT: true; the input reads as it did. -/
def scionInSpec : ChangeSpec := { name := "scionIn", fn := fun _ => fun
  | [d1, d2] => { results := [.lit (.bool true)], args := [d1, d2] }
  | _ => none }
def scionInRow : OpenClaim := { program := "ytnjmkhhaodgpbaagreat", sum := "a8ff613b8421f8bdd80276b5f7e5c73f622adcbcd3d53ccbe5bbbc55dc830078", func := "mooring/mooringlaw19.ScionIn", spec := "scionIn", inPlace := ["slices.overlaps[uint64]", "slices.overlaps[mooring/api.Scion]"], unfollowed := true, recurses := true, apart := false }
def ScionInSaid : Prop := scionInRow.holds Tryz.pinned (OpenSpec.ofChange scionInSpec)

/-- ITS FALSE NEIGHBOUR: 'it returns false'. Refute it at one input. -/
def scionInWrong : ChangeSpec := { name := "scionIn", fn := fun _ => fun
  | [d1, d2] => { results := [.lit (.bool false)], args := [d1, d2] }
  | _ => none }
def ScionInWrongFalsely : Prop := scionInRow.holds Tryz.pinned (OpenSpec.ofChange scionInWrong)

/-- 'mooringlaw19.ScionVoucher': WHATEVER THE INPUT: true; the input reads as it did. -/
def scionVoucherSpec : ChangeSpec := { name := "scionVoucher", fn := fun _ => fun
  | [d1, d2] => { results := [.lit (.bool true)], args := [d1, d2] }
  | _ => none }
def scionVoucherRow : OpenClaim := { program := "ytnjmkhhaodgpbaagreat", sum := "a8ff613b8421f8bdd80276b5f7e5c73f622adcbcd3d53ccbe5bbbc55dc830078", func := "mooring/mooringlaw19.ScionVoucher", spec := "scionVoucher", inPlace := ["slices.overlaps[uint64]", "slices.overlaps[mooring/api.Scion]"], unfollowed := true, recurses := true, apart := false }
def ScionVoucherSaid : Prop := scionVoucherRow.holds Tryz.pinned (OpenSpec.ofChange scionVoucherSpec)

/-- ITS FALSE NEIGHBOUR: 'it returns false'. Refute it at one input. -/
def scionVoucherWrong : ChangeSpec := { name := "scionVoucher", fn := fun _ => fun
  | [d1, d2] => { results := [.lit (.bool false)], args := [d1, d2] }
  | _ => none }
def ScionVoucherWrongFalsely : Prop := scionVoucherRow.holds Tryz.pinned (OpenSpec.ofChange scionVoucherWrong)

/-- 'mooringlaw19.ScionTwice': WHATEVER THE INPUT: true; the input reads as it did. -/
def scionTwiceSpec : ChangeSpec := { name := "scionTwice", fn := fun _ => fun
  | [d1, d2, d3] => { results := [.lit (.bool true)], args := [d1, d2, d3] }
  | _ => none }
def scionTwiceRow : OpenClaim := { program := "ytnjmkhhaodgpbaagreat", sum := "a8ff613b8421f8bdd80276b5f7e5c73f622adcbcd3d53ccbe5bbbc55dc830078", func := "mooring/mooringlaw19.ScionTwice", spec := "scionTwice", inPlace := ["slices.overlaps[uint64]", "slices.overlaps[mooring/api.Scion]"], unfollowed := true, recurses := true, apart := false }
def ScionTwiceSaid : Prop := scionTwiceRow.holds Tryz.pinned (OpenSpec.ofChange scionTwiceSpec)

/-- ITS FALSE NEIGHBOUR: 'it returns false'. Refute it at one input. -/
def scionTwiceWrong : ChangeSpec := { name := "scionTwice", fn := fun _ => fun
  | [d1, d2, d3] => { results := [.lit (.bool false)], args := [d1, d2, d3] }
  | _ => none }
def ScionTwiceWrongFalsely : Prop := scionTwiceRow.holds Tryz.pinned (OpenSpec.ofChange scionTwiceWrong)

/- THE SECOND FORM. 'bulk': how many values and letters a reading holds, each counted each time it is reached (what is shared counts as often as it is met; a slice's spare places count too). A statement '..UptoSaid' is the law's where the arguments, and the package variables that the reading takes, are together of bulk at most 1048576: NARROWER than '..Said'. Prove '..Said' where nothing that the law and all that it calls make is longer than what came in: it says more and counts as full. Else prove '..UptoSaid'. A law counts once. -/
mutual
def uptoBulk {H : Type} : DataW H → Nat
  | .lit (.string bytes) => bytes.length + 1
  | .lit _ => 1
  | .nil => 1
  | .ptr d => uptoBulk d + 1
  | .slice elems spare => uptoBulkAll elems + uptoBulkAll spare + 1
  | .agg parts => uptoBulkAll parts + 1
  | .iface _ d => uptoBulk d + 1
  | .map entries => uptoBulkEntries entries + 1
  | .held _ => 1
def uptoBulkAll {H : Type} : List (DataW H) → Nat
  | [] => 0
  | d :: r => uptoBulk d + uptoBulkAll r
def uptoBulkEntries {H : Type} : List (Lit × DataW H) → Nat
  | [] => 0
  | x :: r => uptoBulkEntry x + uptoBulkEntries r
def uptoBulkEntry {H : Type} : Lit × DataW H → Nat
  | (.string bytes, d) => bytes.length + uptoBulk d + 1
  | (_, d) => uptoBulk d + 1
 end
def uptoSmall : (H : Type) → List (DataW H) → Bool := fun _ ds => decide (uptoBulkAll ds ≤ 1048576)
def OpenSpec.upto (s : _root_.Go.ChangeSpec) : _root_.Go.OpenSpec := { _root_.Go.OpenSpec.ofChange s with cond := some uptoSmall }

/-- 'mooringlaw19.ScionPlays', WHERE WHAT IT READS IS OF BULK AT MOST 1048576: true; the input reads as it did. -/
def scionPlaysUptoRow : OpenClaim := { program := "ytnjmkhhaodgpbaagreat", sum := "a8ff613b8421f8bdd80276b5f7e5c73f622adcbcd3d53ccbe5bbbc55dc830078", func := "mooring/mooringlaw19.ScionPlays", spec := "scionPlays", inPlace := ["slices.overlaps[uint64]", "slices.overlaps[mooring/api.Scion]"], unfollowed := true, recurses := true, apart := false, narrowed := true }
def ScionPlaysUptoSaid : Prop := scionPlaysUptoRow.holds Tryz.pinned (OpenSpec.upto scionPlaysSpec)

/-- 'mooringlaw19.ScionIn', WHERE WHAT IT READS IS OF BULK AT MOST 1048576: true; the input reads as it did. -/
def scionInUptoRow : OpenClaim := { program := "ytnjmkhhaodgpbaagreat", sum := "a8ff613b8421f8bdd80276b5f7e5c73f622adcbcd3d53ccbe5bbbc55dc830078", func := "mooring/mooringlaw19.ScionIn", spec := "scionIn", inPlace := ["slices.overlaps[uint64]", "slices.overlaps[mooring/api.Scion]"], unfollowed := true, recurses := true, apart := false, narrowed := true }
def ScionInUptoSaid : Prop := scionInUptoRow.holds Tryz.pinned (OpenSpec.upto scionInSpec)

/-- 'mooringlaw19.ScionVoucher', WHERE WHAT IT READS IS OF BULK AT MOST 1048576: true; the input reads as it did. -/
def scionVoucherUptoRow : OpenClaim := { program := "ytnjmkhhaodgpbaagreat", sum := "a8ff613b8421f8bdd80276b5f7e5c73f622adcbcd3d53ccbe5bbbc55dc830078", func := "mooring/mooringlaw19.ScionVoucher", spec := "scionVoucher", inPlace := ["slices.overlaps[uint64]", "slices.overlaps[mooring/api.Scion]"], unfollowed := true, recurses := true, apart := false, narrowed := true }
def ScionVoucherUptoSaid : Prop := scionVoucherUptoRow.holds Tryz.pinned (OpenSpec.upto scionVoucherSpec)

/-- 'mooringlaw19.ScionTwice', WHERE WHAT IT READS IS OF BULK AT MOST 1048576: true; the input reads as it did. -/
def scionTwiceUptoRow : OpenClaim := { program := "ytnjmkhhaodgpbaagreat", sum := "a8ff613b8421f8bdd80276b5f7e5c73f622adcbcd3d53ccbe5bbbc55dc830078", func := "mooring/mooringlaw19.ScionTwice", spec := "scionTwice", inPlace := ["slices.overlaps[uint64]", "slices.overlaps[mooring/api.Scion]"], unfollowed := true, recurses := true, apart := false, narrowed := true }
def ScionTwiceUptoSaid : Prop := scionTwiceUptoRow.holds Tryz.pinned (OpenSpec.upto scionTwiceSpec)

end Rows
end Go.Proofs.YtnjmkhhaodgpbaaGreat
