/- Stubs, in plain Lean: what the calls answer, and what the table is then. -/
import Derived.Test.YtglininpmfgggaaTMoreSB
import Derived.Test.YtglininpmfgggaaRTabDSB
namespace Go.Proofs.YtglininpmfgggaaX
open Go.RowKit
set_option linter.unusedVariables false
set_option linter.unusedSimpArgs false
abbrev sZero : Stb := ⟨0, 0, 0, 0, 0, 0, 0, 0, 0⟩
abbrev mZero : Msg := ⟨0, 0, 0, 0, 0, 0, 0, 0, 0, 0, none, 0, 0, 0, 0, 0, 0, 0, 0, 0, none, 0, 0⟩
def liveB (a span now : Int) : Bool := if now ≥ a then decide (IntKind.wrap .u64 (now - a) < span) else false
def pastB (a span now : Int) : Bool := if now ≥ a then decide (IntKind.wrap .u64 (now - a) ≥ span) else false
def everyN (span : Int) : Int := max2 (IntKind.wrap .u64 (Int.tdiv span 4)) 1
def waitN (wait first most : Int) : Int := if wait = 0 then min2 first most else if wait > IntKind.wrap .u64 (Int.tdiv most 2) then most else IntKind.wrap .u64 (2 * wait)
def keyOf (nd sr : Int) : Int := iOr .u64 (iShl .u64 (IntKind.wrap .u64 nd) 56) sr
def inB (n most : Int) : Bool := if n ≥ 1 then decide (n ≤ most) else false
def holdN (lease unit drift : Int) : Int := IntKind.wrap .u64 (Int.tdiv (IntKind.wrap .u64 (lease * IntKind.wrap .u64 (unit - drift))) (IntKind.wrap .u64 (unit + drift)))
structure Sn where
  c : Cfg
  node : Int
  seq : Int
  span : Int
  last : Int
  l : List (Int × Stb)
def putF (most : Int) (l : List (Int × Stb)) (k : Int) (v : Stb) : List (Int × Stb) := if has ilt l k = true ∨ (l.length : Int) < most then put ilt l k v else l
def putS (S : Sn) (s : Stb) : Sn := { S with l := putF S.c.stubs S.l (keyOf s.nd s.sr) s }
def farB (S : Sn) (nd sr : Int) : Bool := if nd ≥ 1 then if nd ≤ S.c.nodes then if nd ≠ S.node then if sr ≥ 1 then decide (sr ≤ 72057594037927935) else false else false else false else false
def lapsedB (S : Sn) (s : Stb) (now : Int) : Bool := if s.state = 2 then !liveB s.at_ S.span now else false
def getS (S : Sn) (nd sr : Int) : Option Stb := match get ilt S.l (keyOf nd sr) with
  | some s => if s.nd = nd ∧ s.sr = sr then some s else none
  | none => none
def freshS (S : Sn) (nd sr voucher now : Int) : Sn × Int × Int :=
  if S.seq = 72057594037927935 then (S, 0, 7)
  else (putS { S with seq := IntKind.wrap .u64 (S.seq + 1) } ⟨nd, sr, 1, IntKind.wrap .u64 (S.seq + 1), voucher, now, now, 0, 1⟩, 1, 0)
def wantS (S : Sn) (nd sr voucher now : Int) : Sn × Int × Int :=
  if farB S nd sr = false ∨ voucher < 1 ∨ voucher > S.c.nodes then (S, 0, 1)
  else match get ilt S.l (keyOf nd sr) with
    | some s => if s.state ≠ 3 then (if lapsedB S s now then (putS S { s with state := 4 }, 4, 0) else (S, s.state, 0)) else freshS S nd sr voucher now
    | none => if (S.l.length : Int) ≥ S.c.stubs then (S, 0, 6) else freshS S nd sr voucher now
def stateS (S : Sn) (nd sr now : Int) : Int := match getS S nd sr with
  | some s => if lapsedB S s now then 4 else s.state
  | none => 0
def dirtyM (S : Sn) (s : Stb) (now : Int) : Msg := ⟨4, S.node, s.nd, 0, 0, 0, 0, 0, s.nd, s.sr, none, 0, 0, 0, 0, s.seq, s.voucher, now, s.dist, 0, none, 0, 0⟩
def cleanM (S : Sn) (s : Stb) : Msg := ⟨6, S.node, s.nd, 0, 0, 0, 0, 0, s.nd, s.sr, none, 0, 0, 0, 0, s.seq, 0, 0, 0, 0, none, 0, 0⟩
def sentS (S : Sn) (s : Stb) (now : Int) : Stb := { s with sent := now, wait := waitN s.wait S.c.wait S.c.most }
/-- what a stub's turn makes of it, and what is sent -/
def turnS (S : Sn) (s : Stb) (now : Int) : Stb × Msg :=
  if s.state = 1 ∧ pastB s.sent s.wait now = true then (sentS S s now, dirtyM S s now)
  else if lapsedB S s now = true then ({ s with state := 4 }, mZero)
  else if s.state = 2 ∧ pastB s.sent (everyN S.span) now = true then ({ s with sent := now }, dirtyM S s now)
  else if s.state = 3 ∧ pastB s.sent s.wait now = true then (sentS S s now, cleanM S s)
  else (s, mZero)
def stepS (S : Sn) (now : Int) : Sn × Msg × Bool := match after ilt S.l S.last with
  | none => (S, mZero, false)
  | some k => (putS { S with last := k } (turnS S ((get ilt S.l k).getD sZero) now).1, (turnS S ((get ilt S.l k).getD sZero) now).2, (turnS S ((get ilt S.l k).getD sZero) now).2.kind != 0)
def heardB (S : Sn) (m : Msg) (kind : Int) (s : Stb) : Bool := if m.kind = kind then if m.frm = m.tn then if m.to = S.node then m.seq == s.seq else false else false else false
/-- what a word of the owner makes of a stub -/
def tellS (S : Sn) (m : Msg) (s : Stb) (now : Int) : Stb :=
  if m.code ≠ 0 ∨ (s.state = 1 ∧ liveB m.at_ S.span now = false) then { s with state := 4 }
  else if lapsedB S s now = true then s
  else if s.state = 1 then { s with state := 2, at_ := m.at_ }
  else { s with at_ := max2 s.at_ m.at_ }
def toldS (S : Sn) (m : Msg) (now : Int) : Sn × Bool := match getS S m.tn m.ts with
  | none => (S, false)
  | some s => if heardB S m 5 s = false ∨ (s.state ≠ 1 ∧ s.state ≠ 2) ∨ m.at_ > now then (S, false) else (putS S (tellS S m s now), decide (tellS S m s now ≠ s))
def cleanedS (S : Sn) (m : Msg) : Sn × Bool := match getS S m.tn m.ts with
  | none => (S, false)
  | some s => if heardB S m 7 s = false ∨ s.state ≠ 3 then (S, false) else ({ S with l := drp ilt S.l (keyOf s.nd s.sr) }, has ilt S.l (keyOf s.nd s.sr))
end Go.Proofs.YtglininpmfgggaaX
