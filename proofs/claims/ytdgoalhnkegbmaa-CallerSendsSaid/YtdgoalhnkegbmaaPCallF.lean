/- Calls, in plain Lean: what the calls of the table come to. -/
import Derived.Test.YtdgoalhnkegbmaaPCall
namespace Go.Proofs.YtdgoalhnkegbmaaX
open Go.RowKit
set_option linter.unusedVariables false
set_option linter.unusedSimpArgs false
def pastB (a span now : Int) : Bool := if now ≥ a then decide (IntKind.wrap .u64 (now - a) ≥ span) else false
def waitN (wait first most : Int) : Int := if wait = 0 then min2 first most else if wait > IntKind.wrap .u64 (Int.tdiv most 2) then most else IntKind.wrap .u64 (2 * wait)
def keyOf (nd sr : Int) : Int := iOr .u64 (iShl .u64 (IntKind.wrap .u64 nd) 56) sr
structure Cs where
  c : Cfg
  node : Int
  first : Int
  latest : List Int
  last : Int
  l : List (Int × Cp)
abbrev yZero : Cp := ⟨0, 0, 0, 0, 0, 0, [], 0, 0, 0, [], 0, 0, 0, 0⟩
def putF {β : Type} (most : Int) (l : List (Int × β)) (k : Int) (v : β) : List (Int × β) := if has ilt l k = true ∨ (l.length : Int) < most then put ilt l k v else l
def putC (S : Cs) (y : Cp) : Cs := { S with l := putF S.c.calls S.l (keyOf y.to y.num) y }
def dropC (S : Cs) (k : Int) : Cs := { S with l := drp ilt S.l k }
def otherB (S : Cs) (n : Int) : Bool := if n ≥ 1 then if n ≤ S.c.nodes then n != S.node else false else false
def getC (S : Cs) (to num : Int) : Option Cp := if otherB S to = false ∨ num > 72057594037927935 then none else get ilt S.l (keyOf to num)
def latestOf (S : Cs) (to : Int) : Int := (S.latest[to.toNat]?).getD 0
def floorC (S : Cs) (to : Int) : Int := if otherB S to = false then 0 else match next ilt S.l (keyOf to 0) with
  | none => IntKind.wrap .u64 (latestOf S to + 1)
  | some k => if IntKind.wrap .i64 (iShr .u64 k 56) ≠ to then IntKind.wrap .u64 (latestOf S to + 1) else iAnd .u64 k 72057594037927935
def noneB (tn ts : Int) : Bool := (tn == 0) && (ts == 0)
/-- Begin, r: may the request be -/
def beginS (S : Cs) (r : Bool) (to op field tn ts value : Int) (refs : List (Int × Int)) (now : Int) : Cs × Int × Int :=
  if to > S.c.nodes ∨ r = false ∨ (noneB tn ts = false ∧ tn ≠ to) then (S, 0, 1)
  else if (S.l.length : Int) ≥ S.c.calls ∨ IntKind.wrap .u64 (IntKind.wrap .u64 (latestOf S to + 1) - floorC S to) ≥ IntKind.wrap .u64 S.c.window then (S, 0, 6)
  else if latestOf S to = 72057594037927935 then (S, 0, 7)
  else (putC { S with latest := S.latest.set to.toNat (IntKind.wrap .u64 (latestOf S to + 1)) } ⟨to, IntKind.wrap .u64 (latestOf S to + 1), op, field, tn, ts, refs, value, 1, 0, [], 0, now, 0, now⟩, IntKind.wrap .u64 (latestOf S to + 1), 0)
def sendsB (S : Cs) (y : Cp) (now : Int) : Bool := (decide (y.state = 1 ∨ y.state = 4)) && pastB y.sent y.wait now
def againS (S : Cs) (y : Cp) (now : Int) : Cp := { y with sent := now, wait := waitN y.wait S.c.wait S.c.most }
def stepC (S : Cs) (now : Int) : Cs × Cp × Bool := match after ilt S.l S.last with
  | none => (S, yZero, false)
  | some k => if sendsB S ((get ilt S.l k).getD yZero) now then (putC { S with last := k } (againS S ((get ilt S.l k).getD yZero) now), (get ilt S.l k).getD yZero, true) else ({ S with last := k }, (get ilt S.l k).getD yZero, false)
/-- Reply: the table then, what is to be taken, is it acknowledged -/
def replyC (S : Cs) (kind to frm call code value : Int) (refs : List (Int × Int)) : Cs × List (Int × Int) × Bool :=
  if kind ≠ 2 ∨ to ≠ S.node ∨ otherB S frm = false then (S, [], false)
  else match getC S frm call with
    | none => (S, [], decide (call > S.first) && decide (call ≤ latestOf S frm))
    | some y => if y.state = 1 then (putC S { y with state := 2, code := code, back := value, result := refs }, refs, false)
      else if y.state = 4 then (dropC S (keyOf y.to y.num), [], true) else if y.state = 3 then (S, [], true) else (S, [], false)
def settleC (S : Cs) (to num e : Int) : Cs × Bool := match getC S to num with
  | none => (S, false)
  | some y => if y.state ≠ 2 then (S, false) else (putC S (if e ≠ 0 then { y with state := 3, code := e, back := 0, result := [] } else { y with state := 3 }), true)
def awaitC (S : Cs) (to num now : Int) : Cs × Cp × Bool × Int := match getC S to num with
  | none => (S, yZero, false, 5)
  | some y => if y.state = 4 then (S, yZero, false, 5) else if y.state = 3 then (dropC S (keyOf to num), y, false, 0)
    else if pastB y.born S.c.patience now = false then (S, yZero, false, 8) else if y.state = 2 then (dropC S (keyOf to num), yZero, true, 3)
    else (putC S { y with state := 4 }, yZero, false, 3)
def openB (y : Cp) : Bool := decide (y.state = 1 ∨ y.state = 4)
def heldOf (y : Cp) : List (Int × Int) := (if openB y then (y.tn, y.ts) :: y.refs else y.result).filter fun x => !noneB x.1 x.2
def heldC (S : Cs) : List (Int × Int) := S.l.flatMap fun e => heldOf e.2
def pinnedC (S : Cs) (x : Int × Int) : Bool := S.l.any fun e => openB e.2 && e.2.refs.any fun z => decide (z = x) && !noneB z.1 z.2
end Go.Proofs.YtdgoalhnkegbmaaX
