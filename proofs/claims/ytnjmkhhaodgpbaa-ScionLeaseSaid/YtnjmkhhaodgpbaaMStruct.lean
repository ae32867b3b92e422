/- Structs by value: printed by mkstruct.py. -/
import Derived.Test.YtnjmkhhaodgpbaaXStruct
import Derived.Test.YtnjmkhhaodgpbaaXT2
namespace Go.Proofs.YtnjmkhhaodgpbaaX
open Go.RowKit
set_option linter.unusedVariables false
structure Cfg where
  nodes : Int
  mutators : Int
  slots : Int
  cel : Int
  objects : Int
  stubs : Int
  calls : Int
  window : Int
  grey : Int
  bag : Int
  inbox : Int
  unit : Int
  drift : Int
  lease : Int
  wait : Int
  most : Int
  patience : Int
  suspect : Int
  trace : Int
  work : Int
  start : Int
  last : Int
deriving DecidableEq
def Cfg.cells (s : Cfg) : List Value := [.int .i64 s.nodes, .int .i64 s.mutators, .int .i64 s.slots, .int .i64 s.cel, .int .i64 s.objects, .int .i64 s.stubs, .int .i64 s.calls, .int .i64 s.window, .int .i64 s.grey, .int .i64 s.bag, .int .i64 s.inbox, .int .u64 s.unit, .int .u64 s.drift, .int .u64 s.lease, .int .u64 s.wait, .int .u64 s.most, .int .u64 s.patience, .int .i64 s.suspect, .int .i64 s.trace, .int .i64 s.work, .int .u64 s.start, .int .u64 s.last]
abbrev Cfg.val (s : Cfg) : Value := .agg #[.int .i64 s.nodes, .int .i64 s.mutators, .int .i64 s.slots, .int .i64 s.cel, .int .i64 s.objects, .int .i64 s.stubs, .int .i64 s.calls, .int .i64 s.window, .int .i64 s.grey, .int .i64 s.bag, .int .i64 s.inbox, .int .u64 s.unit, .int .u64 s.drift, .int .u64 s.lease, .int .u64 s.wait, .int .u64 s.most, .int .u64 s.patience, .int .i64 s.suspect, .int .i64 s.trace, .int .i64 s.work, .int .u64 s.start, .int .u64 s.last]
theorem Cfg.len (s : Cfg) : s.cells.length = 22 := rfl
theorem Cfg.one (s : Cfg) : ∀ u ∈ s.cells, u.oneCell' = true := by
  intro u hu
  simp only [Cfg.cells, List.mem_cons, List.not_mem_nil, or_false] at hu
  rcases hu with rfl | rfl | rfl | rfl | rfl | rfl | rfl | rfl | rfl | rfl | rfl | rfl | rfl | rfl | rfl | rfl | rfl | rfl | rfl | rfl | rfl | rfl <;> rfl
theorem ld_Cfg {w : World} {p : Addr} {s : Cfg} {K : Int → Int → Int → Int → Int → Int → Int → Int → Int → Int → Int → Int → Int → Int → Int → Int → Int → Int → Int → Int → Int → Int → Prop} (h : At w p s.cells) (hk : K s.nodes s.mutators s.slots s.cel s.objects s.stubs s.calls s.window s.grey s.bag s.inbox s.unit s.drift s.lease s.wait s.most s.patience s.suspect s.trace s.work s.start s.last) :
    ldI .i64 w (p.add 0) fun x0 => ldI .i64 w (p.add 1) fun x1 => ldI .i64 w (p.add 2) fun x2 => ldI .i64 w (p.add 3) fun x3 => ldI .i64 w (p.add 4) fun x4 => ldI .i64 w (p.add 5) fun x5 => ldI .i64 w (p.add 6) fun x6 => ldI .i64 w (p.add 7) fun x7 => ldI .i64 w (p.add 8) fun x8 => ldI .i64 w (p.add 9) fun x9 => ldI .i64 w (p.add 10) fun x10 => ldI .u64 w (p.add 11) fun x11 => ldI .u64 w (p.add 12) fun x12 => ldI .u64 w (p.add 13) fun x13 => ldI .u64 w (p.add 14) fun x14 => ldI .u64 w (p.add 15) fun x15 => ldI .u64 w (p.add 16) fun x16 => ldI .i64 w (p.add 17) fun x17 => ldI .i64 w (p.add 18) fun x18 => ldI .i64 w (p.add 19) fun x19 => ldI .u64 w (p.add 20) fun x20 => ldI .u64 w (p.add 21) fun x21 => K x0 x1 x2 x3 x4 x5 x6 x7 x8 x9 x10 x11 x12 x13 x14 x15 x16 x17 x18 x19 x20 x21 := (ld_int (h 0 _ rfl) (ld_int (h 1 _ rfl) (ld_int (h 2 _ rfl) (ld_int (h 3 _ rfl) (ld_int (h 4 _ rfl) (ld_int (h 5 _ rfl) (ld_int (h 6 _ rfl) (ld_int (h 7 _ rfl) (ld_int (h 8 _ rfl) (ld_int (h 9 _ rfl) (ld_int (h 10 _ rfl) (ld_int (h 11 _ rfl) (ld_int (h 12 _ rfl) (ld_int (h 13 _ rfl) (ld_int (h 14 _ rfl) (ld_int (h 15 _ rfl) (ld_int (h 16 _ rfl) (ld_int (h 17 _ rfl) (ld_int (h 18 _ rfl) (ld_int (h 19 _ rfl) (ld_int (h 20 _ rfl) (ld_int (h 21 _ rfl) hk))))))))))))))))))))))
structure Raw where
  nodes : Int
  mutators : Int
  slots : Int
  cel : Int
  objects : Int
  stubs : Int
  calls : Int
  window : Int
  grey : Int
  bag : Int
  inbox : Int
  unit : Int
  drift : Int
  lease : Int
  wait : Int
  most : Int
  patience : Int
  suspect : Int
  trace : Int
  work : Int
  start : Int
  last : Int
deriving DecidableEq
def Raw.cells (s : Raw) : List Value := [.int .i64 s.nodes, .int .i64 s.mutators, .int .i64 s.slots, .int .i64 s.cel, .int .i64 s.objects, .int .i64 s.stubs, .int .i64 s.calls, .int .i64 s.window, .int .i64 s.grey, .int .i64 s.bag, .int .i64 s.inbox, .int .i64 s.unit, .int .i64 s.drift, .int .i64 s.lease, .int .i64 s.wait, .int .i64 s.most, .int .i64 s.patience, .int .i64 s.suspect, .int .i64 s.trace, .int .i64 s.work, .int .u64 s.start, .int .u64 s.last]
abbrev Raw.val (s : Raw) : Value := .agg #[.int .i64 s.nodes, .int .i64 s.mutators, .int .i64 s.slots, .int .i64 s.cel, .int .i64 s.objects, .int .i64 s.stubs, .int .i64 s.calls, .int .i64 s.window, .int .i64 s.grey, .int .i64 s.bag, .int .i64 s.inbox, .int .i64 s.unit, .int .i64 s.drift, .int .i64 s.lease, .int .i64 s.wait, .int .i64 s.most, .int .i64 s.patience, .int .i64 s.suspect, .int .i64 s.trace, .int .i64 s.work, .int .u64 s.start, .int .u64 s.last]
theorem Raw.len (s : Raw) : s.cells.length = 22 := rfl
theorem Raw.one (s : Raw) : ∀ u ∈ s.cells, u.oneCell' = true := by
  intro u hu
  simp only [Raw.cells, List.mem_cons, List.not_mem_nil, or_false] at hu
  rcases hu with rfl | rfl | rfl | rfl | rfl | rfl | rfl | rfl | rfl | rfl | rfl | rfl | rfl | rfl | rfl | rfl | rfl | rfl | rfl | rfl | rfl | rfl <;> rfl
theorem ld_Raw {w : World} {p : Addr} {s : Raw} {K : Int → Int → Int → Int → Int → Int → Int → Int → Int → Int → Int → Int → Int → Int → Int → Int → Int → Int → Int → Int → Int → Int → Prop} (h : At w p s.cells) (hk : K s.nodes s.mutators s.slots s.cel s.objects s.stubs s.calls s.window s.grey s.bag s.inbox s.unit s.drift s.lease s.wait s.most s.patience s.suspect s.trace s.work s.start s.last) :
    ldI .i64 w (p.add 0) fun x0 => ldI .i64 w (p.add 1) fun x1 => ldI .i64 w (p.add 2) fun x2 => ldI .i64 w (p.add 3) fun x3 => ldI .i64 w (p.add 4) fun x4 => ldI .i64 w (p.add 5) fun x5 => ldI .i64 w (p.add 6) fun x6 => ldI .i64 w (p.add 7) fun x7 => ldI .i64 w (p.add 8) fun x8 => ldI .i64 w (p.add 9) fun x9 => ldI .i64 w (p.add 10) fun x10 => ldI .i64 w (p.add 11) fun x11 => ldI .i64 w (p.add 12) fun x12 => ldI .i64 w (p.add 13) fun x13 => ldI .i64 w (p.add 14) fun x14 => ldI .i64 w (p.add 15) fun x15 => ldI .i64 w (p.add 16) fun x16 => ldI .i64 w (p.add 17) fun x17 => ldI .i64 w (p.add 18) fun x18 => ldI .i64 w (p.add 19) fun x19 => ldI .u64 w (p.add 20) fun x20 => ldI .u64 w (p.add 21) fun x21 => K x0 x1 x2 x3 x4 x5 x6 x7 x8 x9 x10 x11 x12 x13 x14 x15 x16 x17 x18 x19 x20 x21 := (ld_int (h 0 _ rfl) (ld_int (h 1 _ rfl) (ld_int (h 2 _ rfl) (ld_int (h 3 _ rfl) (ld_int (h 4 _ rfl) (ld_int (h 5 _ rfl) (ld_int (h 6 _ rfl) (ld_int (h 7 _ rfl) (ld_int (h 8 _ rfl) (ld_int (h 9 _ rfl) (ld_int (h 10 _ rfl) (ld_int (h 11 _ rfl) (ld_int (h 12 _ rfl) (ld_int (h 13 _ rfl) (ld_int (h 14 _ rfl) (ld_int (h 15 _ rfl) (ld_int (h 16 _ rfl) (ld_int (h 17 _ rfl) (ld_int (h 18 _ rfl) (ld_int (h 19 _ rfl) (ld_int (h 20 _ rfl) (ld_int (h 21 _ rfl) hk))))))))))))))))))))))
structure Idn where
  nd : Int
  sr : Int
deriving DecidableEq
def Idn.cells (s : Idn) : List Value := [.int .i64 s.nd, .int .u64 s.sr]
abbrev Idn.val (s : Idn) : Value := .agg #[.int .i64 s.nd, .int .u64 s.sr]
theorem Idn.len (s : Idn) : s.cells.length = 2 := rfl
theorem Idn.one (s : Idn) : ∀ u ∈ s.cells, u.oneCell' = true := by
  intro u hu
  simp only [Idn.cells, List.mem_cons, List.not_mem_nil, or_false] at hu
  rcases hu with rfl | rfl <;> rfl
theorem ld_Idn {w : World} {p : Addr} {s : Idn} {K : Int → Int → Prop} (h : At w p s.cells) (hk : K s.nd s.sr) :
    ldI .i64 w (p.add 0) fun x0 => ldI .u64 w (p.add 1) fun x1 => K x0 x1 := (ld_int (h 0 _ rfl) (ld_int (h 1 _ rfl) hk))
structure Scn where
  serial : Int
  holder : Int
  present : Bool
  seq : Int
  at_ : Int
  dist : Int
deriving DecidableEq
def Scn.cells (s : Scn) : List Value := [.int .u64 s.serial, .int .i64 s.holder, .bool s.present, .int .u64 s.seq, .int .u64 s.at_, .int .i64 s.dist]
abbrev Scn.val (s : Scn) : Value := .agg #[.int .u64 s.serial, .int .i64 s.holder, .bool s.present, .int .u64 s.seq, .int .u64 s.at_, .int .i64 s.dist]
theorem Scn.len (s : Scn) : s.cells.length = 6 := rfl
theorem Scn.one (s : Scn) : ∀ u ∈ s.cells, u.oneCell' = true := by
  intro u hu
  simp only [Scn.cells, List.mem_cons, List.not_mem_nil, or_false] at hu
  rcases hu with rfl | rfl | rfl | rfl | rfl | rfl <;> rfl
theorem ld_Scn {w : World} {p : Addr} {s : Scn} {K : Int → Int → Bool → Int → Int → Int → Prop} (h : At w p s.cells) (hk : K s.serial s.holder s.present s.seq s.at_ s.dist) :
    ldI .u64 w (p.add 0) fun x0 => ldI .i64 w (p.add 1) fun x1 => ldB w (p.add 2) fun x2 => ldI .u64 w (p.add 3) fun x3 => ldI .u64 w (p.add 4) fun x4 => ldI .i64 w (p.add 5) fun x5 => K x0 x1 x2 x3 x4 x5 := (ld_int (h 0 _ rfl) (ld_int (h 1 _ rfl) (ld_bool (h 2 _ rfl) (ld_int (h 3 _ rfl) (ld_int (h 4 _ rfl) (ld_int (h 5 _ rfl) hk))))))
structure Obj where
  serial : Int
  cell : Int
  refsp : Option Addr
  refsn : Nat
  refsc : Nat
  valsp : Option Addr
  valsn : Nat
  valsc : Nat
  in_ : Int
def Obj.cells (s : Obj) : List Value := [.int .u64 s.serial, .int .i64 s.cell, .slice s.refsp s.refsn s.refsc, .slice s.valsp s.valsn s.valsc, .int .i64 s.in_]
abbrev Obj.val (s : Obj) : Value := .agg #[.int .u64 s.serial, .int .i64 s.cell, .slice s.refsp s.refsn s.refsc, .slice s.valsp s.valsn s.valsc, .int .i64 s.in_]
theorem Obj.len (s : Obj) : s.cells.length = 5 := rfl
theorem Obj.one (s : Obj) : ∀ u ∈ s.cells, u.oneCell' = true := by
  intro u hu
  simp only [Obj.cells, List.mem_cons, List.not_mem_nil, or_false] at hu
  rcases hu with rfl | rfl | rfl | rfl | rfl <;> rfl
theorem ld_Obj {w : World} {p : Addr} {s : Obj} {K : Int → Int → Option Addr → Nat → Nat → Option Addr → Nat → Nat → Int → Prop} (h : At w p s.cells) (hk : K s.serial s.cell s.refsp s.refsn s.refsc s.valsp s.valsn s.valsc s.in_) :
    ldI .u64 w (p.add 0) fun x0 => ldI .i64 w (p.add 1) fun x1 => ldSl w (p.add 2) fun x2p x2n x2c => ldSl w (p.add 3) fun x3p x3n x3c => ldI .i64 w (p.add 4) fun x4 => K x0 x1 x2p x2n x2c x3p x3n x3c x4 := (ld_int (h 0 _ rfl) (ld_int (h 1 _ rfl) (ld_sl (h 2 _ rfl) (ld_sl (h 3 _ rfl) (ld_int (h 4 _ rfl) hk)))))
end Go.Proofs.YtnjmkhhaodgpbaaX
