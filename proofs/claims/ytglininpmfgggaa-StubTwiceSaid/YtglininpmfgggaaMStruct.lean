/- Structs by value: printed by mkstruct.py. -/
import Derived.Test.YtglininpmfgggaaXStruct
import Derived.Test.YtglininpmfgggaaXT2
namespace Go.Proofs.YtglininpmfgggaaX
open Go.RowKit
set_option linter.unusedVariables false
structure Stb where
  nd : Int
  sr : Int
  state : Int
  seq : Int
  voucher : Int
  at_ : Int
  sent : Int
  wait : Int
  dist : Int
deriving DecidableEq
def Stb.cells (s : Stb) : List Value := [.int .i64 s.nd, .int .u64 s.sr, .int .i64 s.state, .int .u64 s.seq, .int .i64 s.voucher, .int .u64 s.at_, .int .u64 s.sent, .int .u64 s.wait, .int .i64 s.dist]
abbrev Stb.val (s : Stb) : Value := .agg #[.int .i64 s.nd, .int .u64 s.sr, .int .i64 s.state, .int .u64 s.seq, .int .i64 s.voucher, .int .u64 s.at_, .int .u64 s.sent, .int .u64 s.wait, .int .i64 s.dist]
theorem Stb.len (s : Stb) : s.cells.length = 9 := rfl
theorem Stb.one (s : Stb) : ∀ u ∈ s.cells, u.oneCell' = true := by
  intro u hu
  simp only [Stb.cells, List.mem_cons, List.not_mem_nil, or_false] at hu
  rcases hu with rfl | rfl | rfl | rfl | rfl | rfl | rfl | rfl | rfl <;> rfl
theorem ld_Stb {w : World} {p : Addr} {s : Stb} {K : Int → Int → Int → Int → Int → Int → Int → Int → Int → Prop} (h : At w p s.cells) (hk : K s.nd s.sr s.state s.seq s.voucher s.at_ s.sent s.wait s.dist) :
    ldI .i64 w (p.add 0) fun x0 => ldI .u64 w (p.add 1) fun x1 => ldI .i64 w (p.add 2) fun x2 => ldI .u64 w (p.add 3) fun x3 => ldI .i64 w (p.add 4) fun x4 => ldI .u64 w (p.add 5) fun x5 => ldI .u64 w (p.add 6) fun x6 => ldI .u64 w (p.add 7) fun x7 => ldI .i64 w (p.add 8) fun x8 => K x0 x1 x2 x3 x4 x5 x6 x7 x8 := (ld_int (h 0 _ rfl) (ld_int (h 1 _ rfl) (ld_int (h 2 _ rfl) (ld_int (h 3 _ rfl) (ld_int (h 4 _ rfl) (ld_int (h 5 _ rfl) (ld_int (h 6 _ rfl) (ld_int (h 7 _ rfl) (ld_int (h 8 _ rfl) hk)))))))))
structure Cfg where
  nodes : Int
  mutators : Int
  slots : Int
  cel : Int
  objects : Int
  stubs : Int
  calls : Int
  window : Int
  grey : Int
  bag : Int
  inbox : Int
  unit : Int
  drift : Int
  lease : Int
  wait : Int
  most : Int
  patience : Int
  suspect : Int
  trace : Int
  work : Int
  start : Int
  last : Int
deriving DecidableEq
def Cfg.cells (s : Cfg) : List Value := [.int .i64 s.nodes, .int .i64 s.mutators, .int .i64 s.slots, .int .i64 s.cel, .int .i64 s.objects, .int .i64 s.stubs, .int .i64 s.calls, .int .i64 s.window, .int .i64 s.grey, .int .i64 s.bag, .int .i64 s.inbox, .int .u64 s.unit, .int .u64 s.drift, .int .u64 s.lease, .int .u64 s.wait, .int .u64 s.most, .int .u64 s.patience, .int .i64 s.suspect, .int .i64 s.trace, .int .i64 s.work, .int .u64 s.start, .int .u64 s.last]
abbrev Cfg.val (s : Cfg) : Value := .agg #[.int .i64 s.nodes, .int .i64 s.mutators, .int .i64 s.slots, .int .i64 s.cel, .int .i64 s.objects, .int .i64 s.stubs, .int .i64 s.calls, .int .i64 s.window, .int .i64 s.grey, .int .i64 s.bag, .int .i64 s.inbox, .int .u64 s.unit, .int .u64 s.drift, .int .u64 s.lease, .int .u64 s.wait, .int .u64 s.most, .int .u64 s.patience, .int .i64 s.suspect, .int .i64 s.trace, .int .i64 s.work, .int .u64 s.start, .int .u64 s.last]
theorem Cfg.len (s : Cfg) : s.cells.length = 22 := rfl
theorem Cfg.one (s : Cfg) : ∀ u ∈ s.cells, u.oneCell' = true := by
  intro u hu
  simp only [Cfg.cells, List.mem_cons, List.not_mem_nil, or_false] at hu
  rcases hu with rfl | rfl | rfl | rfl | rfl | rfl | rfl | rfl | rfl | rfl | rfl | rfl | rfl | rfl | rfl | rfl | rfl | rfl | rfl | rfl | rfl | rfl <;> rfl
theorem ld_Cfg {w : World} {p : Addr} {s : Cfg} {K : Int → Int → Int → Int → Int → Int → Int → Int → Int → Int → Int → Int → Int → Int → Int → Int → Int → Int → Int → Int → Int → Int → Prop} (h : At w p s.cells) (hk : K s.nodes s.mutators s.slots s.cel s.objects s.stubs s.calls s.window s.grey s.bag s.inbox s.unit s.drift s.lease s.wait s.most s.patience s.suspect s.trace s.work s.start s.last) :
    ldI .i64 w (p.add 0) fun x0 => ldI .i64 w (p.add 1) fun x1 => ldI .i64 w (p.add 2) fun x2 => ldI .i64 w (p.add 3) fun x3 => ldI .i64 w (p.add 4) fun x4 => ldI .i64 w (p.add 5) fun x5 => ldI .i64 w (p.add 6) fun x6 => ldI .i64 w (p.add 7) fun x7 => ldI .i64 w (p.add 8) fun x8 => ldI .i64 w (p.add 9) fun x9 => ldI .i64 w (p.add 10) fun x10 => ldI .u64 w (p.add 11) fun x11 => ldI .u64 w (p.add 12) fun x12 => ldI .u64 w (p.add 13) fun x13 => ldI .u64 w (p.add 14) fun x14 => ldI .u64 w (p.add 15) fun x15 => ldI .u64 w (p.add 16) fun x16 => ldI .i64 w (p.add 17) fun x17 => ldI .i64 w (p.add 18) fun x18 => ldI .i64 w (p.add 19) fun x19 => ldI .u64 w (p.add 20) fun x20 => ldI .u64 w (p.add 21) fun x21 => K x0 x1 x2 x3 x4 x5 x6 x7 x8 x9 x10 x11 x12 x13 x14 x15 x16 x17 x18 x19 x20 x21 := (ld_int (h 0 _ rfl) (ld_int (h 1 _ rfl) (ld_int (h 2 _ rfl) (ld_int (h 3 _ rfl) (ld_int (h 4 _ rfl) (ld_int (h 5 _ rfl) (ld_int (h 6 _ rfl) (ld_int (h 7 _ rfl) (ld_int (h 8 _ rfl) (ld_int (h 9 _ rfl) (ld_int (h 10 _ rfl) (ld_int (h 11 _ rfl) (ld_int (h 12 _ rfl) (ld_int (h 13 _ rfl) (ld_int (h 14 _ rfl) (ld_int (h 15 _ rfl) (ld_int (h 16 _ rfl) (ld_int (h 17 _ rfl) (ld_int (h 18 _ rfl) (ld_int (h 19 _ rfl) (ld_int (h 20 _ rfl) (ld_int (h 21 _ rfl) hk))))))))))))))))))))))
structure Raw where
  nodes : Int
  mutators : Int
  slots : Int
  cel : Int
  objects : Int
  stubs : Int
  calls : Int
  window : Int
  grey : Int
  bag : Int
  inbox : Int
  unit : Int
  drift : Int
  lease : Int
  wait : Int
  most : Int
  patience : Int
  suspect : Int
  trace : Int
  work : Int
  start : Int
  last : Int
deriving DecidableEq
def Raw.cells (s : Raw) : List Value := [.int .i64 s.nodes, .int .i64 s.mutators, .int .i64 s.slots, .int .i64 s.cel, .int .i64 s.objects, .int .i64 s.stubs, .int .i64 s.calls, .int .i64 s.window, .int .i64 s.grey, .int .i64 s.bag, .int .i64 s.inbox, .int .i64 s.unit, .int .i64 s.drift, .int .i64 s.lease, .int .i64 s.wait, .int .i64 s.most, .int .i64 s.patience, .int .i64 s.suspect, .int .i64 s.trace, .int .i64 s.work, .int .u64 s.start, .int .u64 s.last]
abbrev Raw.val (s : Raw) : Value := .agg #[.int .i64 s.nodes, .int .i64 s.mutators, .int .i64 s.slots, .int .i64 s.cel, .int .i64 s.objects, .int .i64 s.stubs, .int .i64 s.calls, .int .i64 s.window, .int .i64 s.grey, .int .i64 s.bag, .int .i64 s.inbox, .int .i64 s.unit, .int .i64 s.drift, .int .i64 s.lease, .int .i64 s.wait, .int .i64 s.most, .int .i64 s.patience, .int .i64 s.suspect, .int .i64 s.trace, .int .i64 s.work, .int .u64 s.start, .int .u64 s.last]
theorem Raw.len (s : Raw) : s.cells.length = 22 := rfl
theorem Raw.one (s : Raw) : ∀ u ∈ s.cells, u.oneCell' = true := by
  intro u hu
  simp only [Raw.cells, List.mem_cons, List.not_mem_nil, or_false] at hu
  rcases hu with rfl | rfl | rfl | rfl | rfl | rfl | rfl | rfl | rfl | rfl | rfl | rfl | rfl | rfl | rfl | rfl | rfl | rfl | rfl | rfl | rfl | rfl <;> rfl
theorem ld_Raw {w : World} {p : Addr} {s : Raw} {K : Int → Int → Int → Int → Int → Int → Int → Int → Int → Int → Int → Int → Int → Int → Int → Int → Int → Int → Int → Int → Int → Int → Prop} (h : At w p s.cells) (hk : K s.nodes s.mutators s.slots s.cel s.objects s.stubs s.calls s.window s.grey s.bag s.inbox s.unit s.drift s.lease s.wait s.most s.patience s.suspect s.trace s.work s.start s.last) :
    ldI .i64 w (p.add 0) fun x0 => ldI .i64 w (p.add 1) fun x1 => ldI .i64 w (p.add 2) fun x2 => ldI .i64 w (p.add 3) fun x3 => ldI .i64 w (p.add 4) fun x4 => ldI .i64 w (p.add 5) fun x5 => ldI .i64 w (p.add 6) fun x6 => ldI .i64 w (p.add 7) fun x7 => ldI .i64 w (p.add 8) fun x8 => ldI .i64 w (p.add 9) fun x9 => ldI .i64 w (p.add 10) fun x10 => ldI .i64 w (p.add 11) fun x11 => ldI .i64 w (p.add 12) fun x12 => ldI .i64 w (p.add 13) fun x13 => ldI .i64 w (p.add 14) fun x14 => ldI .i64 w (p.add 15) fun x15 => ldI .i64 w (p.add 16) fun x16 => ldI .i64 w (p.add 17) fun x17 => ldI .i64 w (p.add 18) fun x18 => ldI .i64 w (p.add 19) fun x19 => ldI .u64 w (p.add 20) fun x20 => ldI .u64 w (p.add 21) fun x21 => K x0 x1 x2 x3 x4 x5 x6 x7 x8 x9 x10 x11 x12 x13 x14 x15 x16 x17 x18 x19 x20 x21 := (ld_int (h 0 _ rfl) (ld_int (h 1 _ rfl) (ld_int (h 2 _ rfl) (ld_int (h 3 _ rfl) (ld_int (h 4 _ rfl) (ld_int (h 5 _ rfl) (ld_int (h 6 _ rfl) (ld_int (h 7 _ rfl) (ld_int (h 8 _ rfl) (ld_int (h 9 _ rfl) (ld_int (h 10 _ rfl) (ld_int (h 11 _ rfl) (ld_int (h 12 _ rfl) (ld_int (h 13 _ rfl) (ld_int (h 14 _ rfl) (ld_int (h 15 _ rfl) (ld_int (h 16 _ rfl) (ld_int (h 17 _ rfl) (ld_int (h 18 _ rfl) (ld_int (h 19 _ rfl) (ld_int (h 20 _ rfl) (ld_int (h 21 _ rfl) hk))))))))))))))))))))))
structure Stp where
  what : Int
  a : Int
  b : Int
  nd : Int
  sr : Int
  seq : Int
  n : Int
  near : Bool
deriving DecidableEq
def Stp.cells (s : Stp) : List Value := [.int .i64 s.what, .int .i64 s.a, .int .i64 s.b, .int .i64 s.nd, .int .u64 s.sr, .int .u64 s.seq, .int .u64 s.n, .bool s.near]
abbrev Stp.val (s : Stp) : Value := .agg #[.int .i64 s.what, .int .i64 s.a, .int .i64 s.b, .int .i64 s.nd, .int .u64 s.sr, .int .u64 s.seq, .int .u64 s.n, .bool s.near]
theorem Stp.len (s : Stp) : s.cells.length = 8 := rfl
theorem Stp.one (s : Stp) : ∀ u ∈ s.cells, u.oneCell' = true := by
  intro u hu
  simp only [Stp.cells, List.mem_cons, List.not_mem_nil, or_false] at hu
  rcases hu with rfl | rfl | rfl | rfl | rfl | rfl | rfl | rfl <;> rfl
theorem ld_Stp {w : World} {p : Addr} {s : Stp} {K : Int → Int → Int → Int → Int → Int → Int → Bool → Prop} (h : At w p s.cells) (hk : K s.what s.a s.b s.nd s.sr s.seq s.n s.near) :
    ldI .i64 w (p.add 0) fun x0 => ldI .i64 w (p.add 1) fun x1 => ldI .i64 w (p.add 2) fun x2 => ldI .i64 w (p.add 3) fun x3 => ldI .u64 w (p.add 4) fun x4 => ldI .u64 w (p.add 5) fun x5 => ldI .u64 w (p.add 6) fun x6 => ldB w (p.add 7) fun x7 => K x0 x1 x2 x3 x4 x5 x6 x7 := (ld_int (h 0 _ rfl) (ld_int (h 1 _ rfl) (ld_int (h 2 _ rfl) (ld_int (h 3 _ rfl) (ld_int (h 4 _ rfl) (ld_int (h 5 _ rfl) (ld_int (h 6 _ rfl) (ld_bool (h 7 _ rfl) hk))))))))
structure Idn where
  nd : Int
  sr : Int
deriving DecidableEq
def Idn.cells (s : Idn) : List Value := [.int .i64 s.nd, .int .u64 s.sr]
abbrev Idn.val (s : Idn) : Value := .agg #[.int .i64 s.nd, .int .u64 s.sr]
theorem Idn.len (s : Idn) : s.cells.length = 2 := rfl
theorem Idn.one (s : Idn) : ∀ u ∈ s.cells, u.oneCell' = true := by
  intro u hu
  simp only [Idn.cells, List.mem_cons, List.not_mem_nil, or_false] at hu
  rcases hu with rfl | rfl <;> rfl
theorem ld_Idn {w : World} {p : Addr} {s : Idn} {K : Int → Int → Prop} (h : At w p s.cells) (hk : K s.nd s.sr) :
    ldI .i64 w (p.add 0) fun x0 => ldI .u64 w (p.add 1) fun x1 => K x0 x1 := (ld_int (h 0 _ rfl) (ld_int (h 1 _ rfl) hk))
structure Otr where
  nd : Int
  sr : Int
  rank : Int
deriving DecidableEq
def Otr.cells (s : Otr) : List Value := [.int .i64 s.nd, .int .u64 s.sr, .int .i64 s.rank]
abbrev Otr.val (s : Otr) : Value := .agg #[.int .i64 s.nd, .int .u64 s.sr, .int .i64 s.rank]
theorem Otr.len (s : Otr) : s.cells.length = 3 := rfl
theorem Otr.one (s : Otr) : ∀ u ∈ s.cells, u.oneCell' = true := by
  intro u hu
  simp only [Otr.cells, List.mem_cons, List.not_mem_nil, or_false] at hu
  rcases hu with rfl | rfl | rfl <;> rfl
theorem ld_Otr {w : World} {p : Addr} {s : Otr} {K : Int → Int → Int → Prop} (h : At w p s.cells) (hk : K s.nd s.sr s.rank) :
    ldI .i64 w (p.add 0) fun x0 => ldI .u64 w (p.add 1) fun x1 => ldI .i64 w (p.add 2) fun x2 => K x0 x1 x2 := (ld_int (h 0 _ rfl) (ld_int (h 1 _ rfl) (ld_int (h 2 _ rfl) hk)))
structure Msg where
  kind : Int
  frm : Int
  to : Int
  call : Int
  floor : Int
  op : Int
  field : Int
  item : Int
  tn : Int
  ts : Int
  refsp : Option Addr
  refsn : Nat
  refsc : Nat
  value : Int
  code : Int
  seq : Int
  voucher : Int
  at_ : Int
  dist : Int
  stamp : Int
  listp : Option Addr
  listn : Nat
  listc : Nat
def Msg.cells (s : Msg) : List Value := [.int .i64 s.kind, .int .i64 s.frm, .int .i64 s.to, .int .u64 s.call, .int .u64 s.floor, .int .i64 s.op, .int .i64 s.field, .int .i64 s.item, .int .i64 s.tn, .int .u64 s.ts, .slice s.refsp s.refsn s.refsc, .int .u64 s.value, .int .i64 s.code, .int .u64 s.seq, .int .i64 s.voucher, .int .u64 s.at_, .int .i64 s.dist, .int .u64 s.stamp, .slice s.listp s.listn s.listc]
abbrev Msg.val (s : Msg) : Value := .agg #[.int .i64 s.kind, .int .i64 s.frm, .int .i64 s.to, .int .u64 s.call, .int .u64 s.floor, .int .i64 s.op, .int .i64 s.field, .int .i64 s.item, .int .i64 s.tn, .int .u64 s.ts, .slice s.refsp s.refsn s.refsc, .int .u64 s.value, .int .i64 s.code, .int .u64 s.seq, .int .i64 s.voucher, .int .u64 s.at_, .int .i64 s.dist, .int .u64 s.stamp, .slice s.listp s.listn s.listc]
theorem Msg.len (s : Msg) : s.cells.length = 19 := rfl
theorem Msg.one (s : Msg) : ∀ u ∈ s.cells, u.oneCell' = true := by
  intro u hu
  simp only [Msg.cells, List.mem_cons, List.not_mem_nil, or_false] at hu
  rcases hu with rfl | rfl | rfl | rfl | rfl | rfl | rfl | rfl | rfl | rfl | rfl | rfl | rfl | rfl | rfl | rfl | rfl | rfl | rfl <;> rfl
theorem ld_Msg {w : World} {p : Addr} {s : Msg} {K : Int → Int → Int → Int → Int → Int → Int → Int → Int → Int → Option Addr → Nat → Nat → Int → Int → Int → Int → Int → Int → Int → Option Addr → Nat → Nat → Prop} (h : At w p s.cells) (hk : K s.kind s.frm s.to s.call s.floor s.op s.field s.item s.tn s.ts s.refsp s.refsn s.refsc s.value s.code s.seq s.voucher s.at_ s.dist s.stamp s.listp s.listn s.listc) :
    ldI .i64 w (p.add 0) fun x0 => ldI .i64 w (p.add 1) fun x1 => ldI .i64 w (p.add 2) fun x2 => ldI .u64 w (p.add 3) fun x3 => ldI .u64 w (p.add 4) fun x4 => ldI .i64 w (p.add 5) fun x5 => ldI .i64 w (p.add 6) fun x6 => ldI .i64 w (p.add 7) fun x7 => ldI .i64 w (p.add 8) fun x8 => ldI .u64 w (p.add 9) fun x9 => ldSl w (p.add 10) fun x10p x10n x10c => ldI .u64 w (p.add 11) fun x11 => ldI .i64 w (p.add 12) fun x12 => ldI .u64 w (p.add 13) fun x13 => ldI .i64 w (p.add 14) fun x14 => ldI .u64 w (p.add 15) fun x15 => ldI .i64 w (p.add 16) fun x16 => ldI .u64 w (p.add 17) fun x17 => ldSl w (p.add 18) fun x18p x18n x18c => K x0 x1 x2 x3 x4 x5 x6 x7 x8 x9 x10p x10n x10c x11 x12 x13 x14 x15 x16 x17 x18p x18n x18c := (ld_int (h 0 _ rfl) (ld_int (h 1 _ rfl) (ld_int (h 2 _ rfl) (ld_int (h 3 _ rfl) (ld_int (h 4 _ rfl) (ld_int (h 5 _ rfl) (ld_int (h 6 _ rfl) (ld_int (h 7 _ rfl) (ld_int (h 8 _ rfl) (ld_int (h 9 _ rfl) (ld_sl (h 10 _ rfl) (ld_int (h 11 _ rfl) (ld_int (h 12 _ rfl) (ld_int (h 13 _ rfl) (ld_int (h 14 _ rfl) (ld_int (h 15 _ rfl) (ld_int (h 16 _ rfl) (ld_int (h 17 _ rfl) (ld_sl (h 18 _ rfl) hk)))))))))))))))))))
end Go.Proofs.YtglininpmfgggaaX
