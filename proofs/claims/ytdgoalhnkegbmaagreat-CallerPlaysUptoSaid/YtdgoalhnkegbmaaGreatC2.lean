/- What the claim needs of the calculus and of the walks, part 2: XT1 XNum XMem PTab TSearch73 XSlices TIns93 TIns94 XAll XStruct. -/
import Derived.Test.YtdgoalhnkegbmaaGreatProg
import Derived.IntWalk
import Derived.Laws.AppendOwn
import Derived.Laws.OwnMore
import Derived.Below
import Derived.Laws.CopyRow
import Derived.Laws.Externs
import Derived.Lib.Overlaps
import Derived.Lib.AppendZerosOnto
import Derived.Test.YtdgoalhnkegbmaaGreatC1
namespace Go.Proofs.YtdgoalhnkegbmaaGreatX
open Go.RowKit
set_option linter.unusedVariables false
set_option maxRecDepth 100000
theorem noGr : NoGr Tryz.prog := by unfold NoGr; kernel_rfl
theorem mixed : Tryz.prog.follows .mixedOrders = true := by kernel_rfl
/-! ### mooring/table.New[uint64,mooring/api.Call]: function 12 -/
def X12.f (a0 : Int) (w : World) (Q : Value → World → Prop) : Prop := bcase (decide (a0 < (1 : Int))) (Q (.tuple #[.pointer none, .int .i64 (1 : Int)]) w) (bcase (decide (a0 > (4096 : Int))) (Q (.tuple #[.pointer none, .int .i64 (1 : Int)]) w) (newK w #[.slice none 0 0, .slice none 0 0, .int .i64 a0] 83 fun g1 w2 => Q (.tuple #[.pointer (some g1), .int .i64 (0 : Int)]) w2))
def X12.S (Q : Value → World → Prop) : Segs
  | _, _, _, _ => False
noncomputable def X12.an : Ann := (.seq .leaf (.seq (.seq .leaf (.cond (.seq .leaf .leaf) .leaf)) (.seq .leaf .leaf)))
noncomputable def X12.c : Code := Tryz.f12.body.getD .skip
theorem X12.v (Q : Value → World → Prop) : V Tryz.prog (X12.S Q) X12.an X12.c (retC Tryz.prog Tryz.f12 Q) := ⟨trivial, ⟨⟨trivial, ⟨⟨trivial, trivial⟩, trivial⟩⟩, ⟨trivial, trivial⟩⟩⟩
theorem X12.sound (a0 : Int) (w : World) (Q : Value → World → Prop) (h : X12.f a0 w Q) : CallR Tryz.prog 12 #[.int .i64 a0] w Q :=
  fn_sound noGr mixed Tryz.func12 (c := X12.c) (an := X12.an) (S := X12.S Q) (φ := fun _ => 0) (args := [.int .i64 a0]) (by kernel_rfl) (by kernel_rfl) (by kernel_rfl) (X12.v Q) (Eq.mp (by kernel_rfl) h)
/-! ### mooring/wire.Right: function 37 -/
def X37.l0 (Q : Value → World → Prop) : Nat → Addr → Int → Int → World → Prop
  | 0, _, _, _, _ => False
  | k + 1, t1, t3, t4, w => bcase (decide (t4 < (32768 : Int))) (bcase ((iAnd .i64 t3 t4) != (0 : Int)) (ldI .i64 w (t1.add 0) fun x1 => ldI .i64 w (t1.add 1) fun x2 => ldI .i64 w (t1.add 2) fun x3 => ldI .u64 w (t1.add 3) fun x4 => ldI .u64 w (t1.add 4) fun x5 => ldI .i64 w (t1.add 5) fun x6 => ldI .i64 w (t1.add 6) fun x7 => ldI .i64 w (t1.add 7) fun x8 => ldI .i64 w (t1.add 8) fun x9 => ldI .u64 w (t1.add 9) fun x10 => ldSl w (t1.add 10) fun x11p x11n x11c => ldI .u64 w (t1.add 11) fun x12 => ldI .i64 w (t1.add 12) fun x13 => ldI .u64 w (t1.add 13) fun x14 => ldI .i64 w (t1.add 14) fun x15 => ldI .u64 w (t1.add 15) fun x16 => ldI .i64 w (t1.add 16) fun x17 => ldI .u64 w (t1.add 17) fun x18 => ldSl w (t1.add 18) fun x19p x19n x19c => CallR Tryz.prog 69 #[.agg #[.int .i64 x1, .int .i64 x2, .int .i64 x3, .int .u64 x4, .int .u64 x5, .int .i64 x6, .int .i64 x7, .int .i64 x8, .int .i64 x9, .int .u64 x10, .slice x11p x11n x11c, .int .u64 x12, .int .i64 x13, .int .u64 x14, .int .i64 x15, .int .u64 x16, .int .i64 x17, .int .u64 x18, .slice x19p x19n x19c], .int .i64 t4] w fun v20 w21 => ∃ (y22 : Bool), v20 = .bool y22 ∧ bcase (!y22) (Q (.bool false) w21) (bcase ((iAnd .i64 t3 t4) == (0 : Int)) (ldI .i64 w21 (t1.add 0) fun x23 => ldI .i64 w21 (t1.add 1) fun x24 => ldI .i64 w21 (t1.add 2) fun x25 => ldI .u64 w21 (t1.add 3) fun x26 => ldI .u64 w21 (t1.add 4) fun x27 => ldI .i64 w21 (t1.add 5) fun x28 => ldI .i64 w21 (t1.add 6) fun x29 => ldI .i64 w21 (t1.add 7) fun x30 => ldI .i64 w21 (t1.add 8) fun x31 => ldI .u64 w21 (t1.add 9) fun x32 => ldSl w21 (t1.add 10) fun x33p x33n x33c => ldI .u64 w21 (t1.add 11) fun x34 => ldI .i64 w21 (t1.add 12) fun x35 => ldI .u64 w21 (t1.add 13) fun x36 => ldI .i64 w21 (t1.add 14) fun x37 => ldI .u64 w21 (t1.add 15) fun x38 => ldI .i64 w21 (t1.add 16) fun x39 => ldI .u64 w21 (t1.add 17) fun x40 => ldSl w21 (t1.add 18) fun x41p x41n x41c => CallR Tryz.prog 70 #[.agg #[.int .i64 x23, .int .i64 x24, .int .i64 x25, .int .u64 x26, .int .u64 x27, .int .i64 x28, .int .i64 x29, .int .i64 x30, .int .i64 x31, .int .u64 x32, .slice x33p x33n x33c, .int .u64 x34, .int .i64 x35, .int .u64 x36, .int .i64 x37, .int .u64 x38, .int .i64 x39, .int .u64 x40, .slice x41p x41n x41c], .int .i64 t4] w21 fun v42 w43 => ∃ (y44 : Bool), v42 = .bool y44 ∧ bcase (!y44) (Q (.bool false) w43) (0 ≤ (1 : Int) ∧ X37.l0 Q k t1 t3 (iShl .i64 t4 (1 : Int)) w43)) (0 ≤ (1 : Int) ∧ X37.l0 Q k t1 t3 (iShl .i64 t4 (1 : Int)) w21))) (bcase ((iAnd .i64 t3 t4) == (0 : Int)) (ldI .i64 w (t1.add 0) fun x45 => ldI .i64 w (t1.add 1) fun x46 => ldI .i64 w (t1.add 2) fun x47 => ldI .u64 w (t1.add 3) fun x48 => ldI .u64 w (t1.add 4) fun x49 => ldI .i64 w (t1.add 5) fun x50 => ldI .i64 w (t1.add 6) fun x51 => ldI .i64 w (t1.add 7) fun x52 => ldI .i64 w (t1.add 8) fun x53 => ldI .u64 w (t1.add 9) fun x54 => ldSl w (t1.add 10) fun x55p x55n x55c => ldI .u64 w (t1.add 11) fun x56 => ldI .i64 w (t1.add 12) fun x57 => ldI .u64 w (t1.add 13) fun x58 => ldI .i64 w (t1.add 14) fun x59 => ldI .u64 w (t1.add 15) fun x60 => ldI .i64 w (t1.add 16) fun x61 => ldI .u64 w (t1.add 17) fun x62 => ldSl w (t1.add 18) fun x63p x63n x63c => CallR Tryz.prog 70 #[.agg #[.int .i64 x45, .int .i64 x46, .int .i64 x47, .int .u64 x48, .int .u64 x49, .int .i64 x50, .int .i64 x51, .int .i64 x52, .int .i64 x53, .int .u64 x54, .slice x55p x55n x55c, .int .u64 x56, .int .i64 x57, .int .u64 x58, .int .i64 x59, .int .u64 x60, .int .i64 x61, .int .u64 x62, .slice x63p x63n x63c], .int .i64 t4] w fun v64 w65 => ∃ (y66 : Bool), v64 = .bool y66 ∧ bcase (!y66) (Q (.bool false) w65) (0 ≤ (1 : Int) ∧ X37.l0 Q k t1 t3 (iShl .i64 t4 (1 : Int)) w65)) (0 ≤ (1 : Int) ∧ X37.l0 Q k t1 t3 (iShl .i64 t4 (1 : Int)) w))) (Q (.bool true) w)
def X37.j1 (Q : Value → World → Prop) (t1 : Addr) (t3 : Int) (w : World) : Prop := ∃ m1, X37.l0 Q m1 t1 t3 (1 : Int) w
def X37.f (a0_0 : Int) (a0_1 : Int) (a0_2 : Int) (a0_3 : Int) (a0_4 : Int) (a0_5 : Int) (a0_6 : Int) (a0_7 : Int) (a0_8 : Int) (a0_9 : Int) (a0_10p : Option Addr) (a0_10n : Nat) (a0_10c : Nat) (a0_11 : Int) (a0_12 : Int) (a0_13 : Int) (a0_14 : Int) (a0_15 : Int) (a0_16 : Int) (a0_17 : Int) (a0_18p : Option Addr) (a0_18n : Nat) (a0_18c : Nat) (w : World) (Q : Value → World → Prop) : Prop := newK w #[.int .i64 a0_0, .int .i64 a0_1, .int .i64 a0_2, .int .u64 a0_3, .int .u64 a0_4, .int .i64 a0_5, .int .i64 a0_6, .int .i64 a0_7, .int .i64 a0_8, .int .u64 a0_9, .slice a0_10p a0_10n a0_10c, .int .u64 a0_11, .int .i64 a0_12, .int .u64 a0_13, .int .i64 a0_14, .int .u64 a0_15, .int .i64 a0_16, .int .u64 a0_17, .slice a0_18p a0_18n a0_18c] 63 fun g1 w2 => ldI .i64 w2 (g1.add 0) fun x3 => CallR Tryz.prog 67 #[.int .i64 x3] w2 fun v4 w5 => ∃ (y6 : Int), v4 = .int .i64 y6 ∧ bcase (y6 == (0 : Int)) (Q (.bool false) w5) (ldI .i64 w5 (g1.add 1) fun x7 => CallR Tryz.prog 68 #[.int .i64 x7, .int .i64 (1 : Int), .int .i64 (64 : Int)] w5 fun v8 w9 => ∃ (y10 : Bool), v8 = .bool y10 ∧ bcase (!y10) (Q (.bool false) w9) (ldI .i64 w9 (g1.add 2) fun x11 => CallR Tryz.prog 68 #[.int .i64 x11, .int .i64 (1 : Int), .int .i64 (64 : Int)] w9 fun v12 w13 => ∃ (y14 : Bool), v12 = .bool y14 ∧ bcase (!y14) (Q (.bool false) w13) (ldI .i64 w13 (g1.add 1) fun x15 => ldI .i64 w13 (g1.add 2) fun x16 => bcase (x15 == x16) (Q (.bool false) w13) (X37.j1 Q g1 y6 w13))))
def X37.S (Q : Value → World → Prop) : Segs
  | 0, φ, ρ, w => qA (ρ 1) fun t1 => qI .i64 (ρ 3) fun t3 => qI .i64 (ρ 4) fun t4 => X37.l0 Q (φ 0) t1 t3 t4 w
  | 1, φ, ρ, w => qA (ρ 1) fun t1 => qI .i64 (ρ 3) fun t3 => X37.j1 Q t1 t3 w
  | _, _, _, _ => False
noncomputable def X37.an : Ann := (.seq .leaf (.seq .leaf (.seq (.seq .leaf (.cond (.seq .leaf .leaf) .leaf)) (.join 1 (.seq (.seq .leaf (.block (.loop 0 (.seq (.seq .leaf (.cond .leaf .leaf)) (.seq (.block (.seq .leaf (.cond (.seq .leaf .leaf) .leaf))) .leaf))))) (.seq .leaf .leaf))))))
noncomputable def X37.c : Code := Tryz.f37.body.getD .skip
theorem X37.v (Q : Value → World → Prop) : V Tryz.prog (X37.S Q) X37.an X37.c (retC Tryz.prog Tryz.f37 Q) := ⟨trivial, ⟨trivial, ⟨⟨trivial, ⟨⟨trivial, trivial⟩, trivial⟩⟩, ⟨(by
    intro φ ρ w h
    simp only [X37.S] at h
    obtain ⟨t1, e1, h⟩ := qA_elim h
    obtain ⟨t3, e3, h⟩ := qI_elim h
    exact ⟨((Env.nil.put (some 1) (.pointer (some t1))).put (some 3) (.int .i64 t3)), Env.le_put e3 (Env.le_put e1 (Env.le_nil _)), Eq.mp (by kernel_rfl) h⟩), ⟨⟨trivial, ⟨(by
    intro φ ρ w h
    simp only [X37.S] at h
    obtain ⟨t1, e1, h⟩ := qA_elim h
    obtain ⟨t3, e3, h⟩ := qI_elim h
    obtain ⟨t4, e4, h⟩ := qI_elim h
    cases hk : φ 0 with
    | zero => rw [hk] at h; exact h.elim
    | succ k => rw [hk] at h; exact ⟨k, Nat.lt_succ_self k, (((Env.nil.put (some 1) (.pointer (some t1))).put (some 3) (.int .i64 t3)).put (some 4) (.int .i64 t4)), Env.le_put e4 (Env.le_put e3 (Env.le_put e1 (Env.le_nil _))), Eq.mp (by kernel_rfl) h⟩), ⟨⟨trivial, ⟨trivial, trivial⟩⟩, ⟨⟨trivial, ⟨⟨trivial, trivial⟩, trivial⟩⟩, trivial⟩⟩⟩⟩, ⟨trivial, trivial⟩⟩⟩⟩⟩⟩
theorem X37.sound (a0_0 : Int) (a0_1 : Int) (a0_2 : Int) (a0_3 : Int) (a0_4 : Int) (a0_5 : Int) (a0_6 : Int) (a0_7 : Int) (a0_8 : Int) (a0_9 : Int) (a0_10p : Option Addr) (a0_10n : Nat) (a0_10c : Nat) (a0_11 : Int) (a0_12 : Int) (a0_13 : Int) (a0_14 : Int) (a0_15 : Int) (a0_16 : Int) (a0_17 : Int) (a0_18p : Option Addr) (a0_18n : Nat) (a0_18c : Nat) (w : World) (Q : Value → World → Prop) (h : X37.f a0_0 a0_1 a0_2 a0_3 a0_4 a0_5 a0_6 a0_7 a0_8 a0_9 a0_10p a0_10n a0_10c a0_11 a0_12 a0_13 a0_14 a0_15 a0_16 a0_17 a0_18p a0_18n a0_18c w Q) : CallR Tryz.prog 37 #[.agg #[.int .i64 a0_0, .int .i64 a0_1, .int .i64 a0_2, .int .u64 a0_3, .int .u64 a0_4, .int .i64 a0_5, .int .i64 a0_6, .int .i64 a0_7, .int .i64 a0_8, .int .u64 a0_9, .slice a0_10p a0_10n a0_10c, .int .u64 a0_11, .int .i64 a0_12, .int .u64 a0_13, .int .i64 a0_14, .int .u64 a0_15, .int .i64 a0_16, .int .u64 a0_17, .slice a0_18p a0_18n a0_18c]] w Q :=
  fn_sound noGr mixed Tryz.func37 (c := X37.c) (an := X37.an) (S := X37.S Q) (φ := fun _ => 0) (args := [.agg #[.int .i64 a0_0, .int .i64 a0_1, .int .i64 a0_2, .int .u64 a0_3, .int .u64 a0_4, .int .i64 a0_5, .int .i64 a0_6, .int .i64 a0_7, .int .i64 a0_8, .int .u64 a0_9, .slice a0_10p a0_10n a0_10c, .int .u64 a0_11, .int .i64 a0_12, .int .u64 a0_13, .int .i64 a0_14, .int .u64 a0_15, .int .i64 a0_16, .int .u64 a0_17, .slice a0_18p a0_18n a0_18c]]) (by kernel_rfl) (by kernel_rfl) (by kernel_rfl) (X37.v Q) (Eq.mp (by kernel_rfl) h)
/-! ### (*mooring/table.Table[uint64, mooring/api.Call]).Len: function 39 -/
def X39.f (a0 : Option Addr) (w : World) (Q : Value → World → Prop) : Prop := optP a0 fun p1 => ldSl w (p1.add 0) fun x2p x2n x2c => Q (.int .i64 ((x2n : Nat) : Int)) w
def X39.S (Q : Value → World → Prop) : Segs
  | _, _, _, _ => False
noncomputable def X39.an : Ann := (.seq .leaf (.seq .leaf .leaf))
noncomputable def X39.c : Code := Tryz.f39.body.getD .skip
theorem X39.v (Q : Value → World → Prop) : V Tryz.prog (X39.S Q) X39.an X39.c (retC Tryz.prog Tryz.f39 Q) := ⟨trivial, ⟨trivial, trivial⟩⟩
theorem X39.sound (a0 : Option Addr) (w : World) (Q : Value → World → Prop) (h : X39.f a0 w Q) : CallR Tryz.prog 39 #[.pointer a0] w Q :=
  fn_sound noGr mixed Tryz.func39 (c := X39.c) (an := X39.an) (S := X39.S Q) (φ := fun _ => 0) (args := [.pointer a0]) (by kernel_rfl) (by kernel_rfl) (by kernel_rfl) (X39.v Q) (Eq.mp (by kernel_rfl) h)
/-! ### (*mooring/table.Table[uint64, mooring/api.Call]).After: function 41 -/
def X41.f (a0 : Option Addr) (a1 : Int) (w : World) (Q : Value → World → Prop) : Prop := CallR Tryz.prog 65 #[.pointer a0, .int .u64 a1] w fun v1 w2 => ∃ (y3 : Int) (y4 : Bool), v1 = .tuple #[.int .u64 y3, .bool y4] ∧ bcase (!y4) (CallR Tryz.prog 72 #[.pointer a0] w2 fun v5 w6 => ∃ (y7 : Int) (y8 : Bool), v5 = .tuple #[.int .u64 y7, .bool y8] ∧ Q (.tuple #[.int .u64 y7, .bool y8]) w6) (Q (.tuple #[.int .u64 y3, .bool true]) w2)
def X41.S (Q : Value → World → Prop) : Segs
  | _, _, _, _ => False
noncomputable def X41.an : Ann := (.seq .leaf (.seq .leaf (.seq (.seq .leaf (.cond (.seq .leaf .leaf) .leaf)) (.seq .leaf .leaf))))
noncomputable def X41.c : Code := Tryz.f41.body.getD .skip
theorem X41.v (Q : Value → World → Prop) : V Tryz.prog (X41.S Q) X41.an X41.c (retC Tryz.prog Tryz.f41 Q) := ⟨trivial, ⟨trivial, ⟨⟨trivial, ⟨⟨trivial, trivial⟩, trivial⟩⟩, ⟨trivial, trivial⟩⟩⟩⟩
theorem X41.sound (a0 : Option Addr) (a1 : Int) (w : World) (Q : Value → World → Prop) (h : X41.f a0 a1 w Q) : CallR Tryz.prog 41 #[.pointer a0, .int .u64 a1] w Q :=
  fn_sound noGr mixed Tryz.func41 (c := X41.c) (an := X41.an) (S := X41.S Q) (φ := fun _ => 0) (args := [.pointer a0, .int .u64 a1]) (by kernel_rfl) (by kernel_rfl) (by kernel_rfl) (X41.v Q) (Eq.mp (by kernel_rfl) h)
/-! ### (*mooring/table.Table[uint64, mooring/api.Call]).Get: function 42 -/
def X42.f (a0 : Option Addr) (a1 : Int) (w : World) (Q : Value → World → Prop) : Prop := newK w #[.int .i64 (0 : Int), .int .u64 (0 : Int), .int .i64 (0 : Int), .int .i64 (0 : Int), .int .i64 (0 : Int), .int .u64 (0 : Int), .slice none 0 0, .int .u64 (0 : Int), .int .i64 (0 : Int), .int .i64 (0 : Int), .slice none 0 0, .int .u64 (0 : Int), .int .u64 (0 : Int), .int .u64 (0 : Int), .int .u64 (0 : Int)] 50 fun g1 w2 => optP a0 fun p3 => ldSl w2 (p3.add 0) fun x4p x4n x4c => CallR Tryz.prog 73 #[.slice x4p x4n x4c, .int .u64 a1] w2 fun v5 w6 => ∃ (y7 : Int) (y8 : Bool), v5 = .tuple #[.int .i64 y7, .bool y8] ∧ bcase (!y8) (newK w6 #[.int .i64 (0 : Int), .int .u64 (0 : Int), .int .i64 (0 : Int), .int .i64 (0 : Int), .int .i64 (0 : Int), .int .u64 (0 : Int), .slice none 0 0, .int .u64 (0 : Int), .int .i64 (0 : Int), .int .i64 (0 : Int), .slice none 0 0, .int .u64 (0 : Int), .int .u64 (0 : Int), .int .u64 (0 : Int), .int .u64 (0 : Int)] 50 fun g9 w10 => ldI .i64 w10 (g9.add 0) fun x11 => ldI .u64 w10 (g9.add 1) fun x12 => ldI .i64 w10 (g9.add 2) fun x13 => ldI .i64 w10 (g9.add 3) fun x14 => ldI .i64 w10 (g9.add 4) fun x15 => ldI .u64 w10 (g9.add 5) fun x16 => ldSl w10 (g9.add 6) fun x17p x17n x17c => ldI .u64 w10 (g9.add 7) fun x18 => ldI .i64 w10 (g9.add 8) fun x19 => ldI .i64 w10 (g9.add 9) fun x20 => ldSl w10 (g9.add 10) fun x21p x21n x21c => ldI .u64 w10 (g9.add 11) fun x22 => ldI .u64 w10 (g9.add 12) fun x23 => ldI .u64 w10 (g9.add 13) fun x24 => ldI .u64 w10 (g9.add 14) fun x25 => stAll w10 g1 [.int .i64 x11, .int .u64 x12, .int .i64 x13, .int .i64 x14, .int .i64 x15, .int .u64 x16, .slice x17p x17n x17c, .int .u64 x18, .int .i64 x19, .int .i64 x20, .slice x21p x21n x21c, .int .u64 x22, .int .u64 x23, .int .u64 x24, .int .u64 x25] fun w26 => ldI .i64 w26 (g1.add 0) fun x27 => ldI .u64 w26 (g1.add 1) fun x28 => ldI .i64 w26 (g1.add 2) fun x29 => ldI .i64 w26 (g1.add 3) fun x30 => ldI .i64 w26 (g1.add 4) fun x31 => ldI .u64 w26 (g1.add 5) fun x32 => ldSl w26 (g1.add 6) fun x33p x33n x33c => ldI .u64 w26 (g1.add 7) fun x34 => ldI .i64 w26 (g1.add 8) fun x35 => ldI .i64 w26 (g1.add 9) fun x36 => ldSl w26 (g1.add 10) fun x37p x37n x37c => ldI .u64 w26 (g1.add 11) fun x38 => ldI .u64 w26 (g1.add 12) fun x39 => ldI .u64 w26 (g1.add 13) fun x40 => ldI .u64 w26 (g1.add 14) fun x41 => Q (.tuple #[.agg #[.int .i64 x27, .int .u64 x28, .int .i64 x29, .int .i64 x30, .int .i64 x31, .int .u64 x32, .slice x33p x33n x33c, .int .u64 x34, .int .i64 x35, .int .i64 x36, .slice x37p x37n x37c, .int .u64 x38, .int .u64 x39, .int .u64 x40, .int .u64 x41], .bool false]) w26) (optP a0 fun p42 => ldSl w6 (p42.add 1) fun x43p x43n x43c => (0 ≤ y7 ∧ y7 < ((x43n : Nat) : Int)) ∧ optP x43p fun p44 => ldI .i64 w6 ((p44.add (Int.toNat y7 * 15)).add 0) fun x45 => ldI .u64 w6 ((p44.add (Int.toNat y7 * 15)).add 1) fun x46 => ldI .i64 w6 ((p44.add (Int.toNat y7 * 15)).add 2) fun x47 => ldI .i64 w6 ((p44.add (Int.toNat y7 * 15)).add 3) fun x48 => ldI .i64 w6 ((p44.add (Int.toNat y7 * 15)).add 4) fun x49 => ldI .u64 w6 ((p44.add (Int.toNat y7 * 15)).add 5) fun x50 => ldSl w6 ((p44.add (Int.toNat y7 * 15)).add 6) fun x51p x51n x51c => ldI .u64 w6 ((p44.add (Int.toNat y7 * 15)).add 7) fun x52 => ldI .i64 w6 ((p44.add (Int.toNat y7 * 15)).add 8) fun x53 => ldI .i64 w6 ((p44.add (Int.toNat y7 * 15)).add 9) fun x54 => ldSl w6 ((p44.add (Int.toNat y7 * 15)).add 10) fun x55p x55n x55c => ldI .u64 w6 ((p44.add (Int.toNat y7 * 15)).add 11) fun x56 => ldI .u64 w6 ((p44.add (Int.toNat y7 * 15)).add 12) fun x57 => ldI .u64 w6 ((p44.add (Int.toNat y7 * 15)).add 13) fun x58 => ldI .u64 w6 ((p44.add (Int.toNat y7 * 15)).add 14) fun x59 => stAll w6 g1 [.int .i64 x45, .int .u64 x46, .int .i64 x47, .int .i64 x48, .int .i64 x49, .int .u64 x50, .slice x51p x51n x51c, .int .u64 x52, .int .i64 x53, .int .i64 x54, .slice x55p x55n x55c, .int .u64 x56, .int .u64 x57, .int .u64 x58, .int .u64 x59] fun w60 => ldI .i64 w60 (g1.add 0) fun x61 => ldI .u64 w60 (g1.add 1) fun x62 => ldI .i64 w60 (g1.add 2) fun x63 => ldI .i64 w60 (g1.add 3) fun x64 => ldI .i64 w60 (g1.add 4) fun x65 => ldI .u64 w60 (g1.add 5) fun x66 => ldSl w60 (g1.add 6) fun x67p x67n x67c => ldI .u64 w60 (g1.add 7) fun x68 => ldI .i64 w60 (g1.add 8) fun x69 => ldI .i64 w60 (g1.add 9) fun x70 => ldSl w60 (g1.add 10) fun x71p x71n x71c => ldI .u64 w60 (g1.add 11) fun x72 => ldI .u64 w60 (g1.add 12) fun x73 => ldI .u64 w60 (g1.add 13) fun x74 => ldI .u64 w60 (g1.add 14) fun x75 => Q (.tuple #[.agg #[.int .i64 x61, .int .u64 x62, .int .i64 x63, .int .i64 x64, .int .i64 x65, .int .u64 x66, .slice x67p x67n x67c, .int .u64 x68, .int .i64 x69, .int .i64 x70, .slice x71p x71n x71c, .int .u64 x72, .int .u64 x73, .int .u64 x74, .int .u64 x75], .bool true]) w60)
def X42.S (Q : Value → World → Prop) : Segs
  | _, _, _, _ => False
noncomputable def X42.an : Ann := (.seq .leaf (.seq .leaf (.seq (.seq .leaf (.cond (.seq .leaf (.seq .leaf .leaf)) .leaf)) (.seq .leaf .leaf))))
noncomputable def X42.c : Code := Tryz.f42.body.getD .skip
theorem X42.v (Q : Value → World → Prop) : V Tryz.prog (X42.S Q) X42.an X42.c (retC Tryz.prog Tryz.f42 Q) := ⟨trivial, ⟨trivial, ⟨⟨trivial, ⟨⟨trivial, ⟨trivial, trivial⟩⟩, trivial⟩⟩, ⟨trivial, trivial⟩⟩⟩⟩
theorem X42.sound (a0 : Option Addr) (a1 : Int) (w : World) (Q : Value → World → Prop) (h : X42.f a0 a1 w Q) : CallR Tryz.prog 42 #[.pointer a0, .int .u64 a1] w Q :=
  fn_sound noGr mixed Tryz.func42 (c := X42.c) (an := X42.an) (S := X42.S Q) (φ := fun _ => 0) (args := [.pointer a0, .int .u64 a1]) (by kernel_rfl) (by kernel_rfl) (by kernel_rfl) (X42.v Q) (Eq.mp (by kernel_rfl) h)
/-! ### mooring/clock.Past: function 43 -/
def X43.f (a0 : Int) (a1 : Int) (a2 : Int) (w : World) (Q : Value → World → Prop) : Prop := bcase (decide (a2 ≥ a0)) (Q (.bool (decide ((IntKind.wrap .u64 (a2 - a0)) ≥ a1))) w) (Q (.bool false) w)
def X43.S (Q : Value → World → Prop) : Segs
  | _, _, _, _ => False
noncomputable def X43.an : Ann := (.seq .leaf (.seq .leaf .leaf))
noncomputable def X43.c : Code := Tryz.f43.body.getD .skip
theorem X43.v (Q : Value → World → Prop) : V Tryz.prog (X43.S Q) X43.an X43.c (retC Tryz.prog Tryz.f43 Q) := ⟨trivial, ⟨trivial, trivial⟩⟩
theorem X43.sound (a0 : Int) (a1 : Int) (a2 : Int) (w : World) (Q : Value → World → Prop) (h : X43.f a0 a1 a2 w Q) : CallR Tryz.prog 43 #[.int .u64 a0, .int .u64 a1, .int .u64 a2] w Q :=
  fn_sound noGr mixed Tryz.func43 (c := X43.c) (an := X43.an) (S := X43.S Q) (φ := fun _ => 0) (args := [.int .u64 a0, .int .u64 a1, .int .u64 a2]) (by kernel_rfl) (by kernel_rfl) (by kernel_rfl) (X43.v Q) (Eq.mp (by kernel_rfl) h)
/-! ### mooring/lease.Wait: function 44 -/
def X44.f (a0 : Int) (a1 : Int) (a2 : Int) (w : World) (Q : Value → World → Prop) : Prop := bcase (a0 == (0 : Int)) (Q (.int .u64 (min2 a1 a2)) w) ((2 : Int) ≠ 0 ∧ bcase (decide (a0 > (IntKind.wrap .u64 (Int.tdiv a2 (2 : Int))))) (Q (.int .u64 a2) w) (Q (.int .u64 (IntKind.wrap .u64 ((2 : Int) * a0))) w))
def X44.S (Q : Value → World → Prop) : Segs
  | _, _, _, _ => False
noncomputable def X44.an : Ann := (.seq .leaf (.seq (.block (.seq .leaf (.cond (.seq .leaf .leaf) (.seq .leaf (.cond (.seq .leaf .leaf) .leaf))))) (.seq .leaf .leaf)))
noncomputable def X44.c : Code := Tryz.f44.body.getD .skip
theorem X44.v (Q : Value → World → Prop) : V Tryz.prog (X44.S Q) X44.an X44.c (retC Tryz.prog Tryz.f44 Q) := ⟨trivial, ⟨⟨trivial, ⟨⟨trivial, trivial⟩, ⟨trivial, ⟨⟨trivial, trivial⟩, trivial⟩⟩⟩⟩, ⟨trivial, trivial⟩⟩⟩
theorem X44.sound (a0 : Int) (a1 : Int) (a2 : Int) (w : World) (Q : Value → World → Prop) (h : X44.f a0 a1 a2 w Q) : CallR Tryz.prog 44 #[.int .u64 a0, .int .u64 a1, .int .u64 a2] w Q :=
  fn_sound noGr mixed Tryz.func44 (c := X44.c) (an := X44.an) (S := X44.S Q) (φ := fun _ => 0) (args := [.int .u64 a0, .int .u64 a1, .int .u64 a2]) (by kernel_rfl) (by kernel_rfl) (by kernel_rfl) (X44.v Q) (Eq.mp (by kernel_rfl) h)
/-! ### (*mooring/table.Table[uint64, mooring/api.Call]).Drop: function 47 -/
def X47.f (a0 : Option Addr) (a1 : Int) (w : World) (Q : Value → World → Prop) : Prop := optP a0 fun p1 => ldSl w (p1.add 0) fun x2p x2n x2c => CallR Tryz.prog 73 #[.slice x2p x2n x2c, .int .u64 a1] w fun v3 w4 => ∃ (y5 : Int) (y6 : Bool), v3 = .tuple #[.int .i64 y5, .bool y6] ∧ bcase y6 (optP a0 fun p7 => ldSl w4 (p7.add 0) fun x8p x8n x8c => CallR Tryz.prog 74 #[.slice x8p x8n x8c, .int .i64 y5, .int .i64 (IntKind.wrap .i64 (y5 + (1 : Int)))] w4 fun v9 w10 => ∃ (y11p : Option Addr) (y11n y11c : Nat), v9 = .slice y11p y11n y11c ∧ optP a0 fun p12 => stK w10 (p12.add 0) (.slice y11p y11n y11c) fun w13 => optP a0 fun p14 => ldSl w13 (p14.add 1) fun x15p x15n x15c => CallR Tryz.prog 75 #[.slice x15p x15n x15c, .int .i64 y5, .int .i64 (IntKind.wrap .i64 (y5 + (1 : Int)))] w13 fun v16 w17 => ∃ (y18p : Option Addr) (y18n y18c : Nat), v16 = .slice y18p y18n y18c ∧ optP a0 fun p19 => stK w17 (p19.add 1) (.slice y18p y18n y18c) fun w20 => Q (.bool y6) w20) (Q (.bool y6) w4)
def X47.S (Q : Value → World → Prop) : Segs
  | _, _, _, _ => False
noncomputable def X47.an : Ann := (.seq .leaf (.seq .leaf (.seq (.seq .leaf (.cond (.seq .leaf .leaf) .leaf)) (.seq .leaf .leaf))))
noncomputable def X47.c : Code := Tryz.f47.body.getD .skip
theorem X47.v (Q : Value → World → Prop) : V Tryz.prog (X47.S Q) X47.an X47.c (retC Tryz.prog Tryz.f47 Q) := ⟨trivial, ⟨trivial, ⟨⟨trivial, ⟨⟨trivial, trivial⟩, trivial⟩⟩, ⟨trivial, trivial⟩⟩⟩⟩
theorem X47.sound (a0 : Option Addr) (a1 : Int) (w : World) (Q : Value → World → Prop) (h : X47.f a0 a1 w Q) : CallR Tryz.prog 47 #[.pointer a0, .int .u64 a1] w Q :=
  fn_sound noGr mixed Tryz.func47 (c := X47.c) (an := X47.an) (S := X47.S Q) (φ := fun _ => 0) (args := [.pointer a0, .int .u64 a1]) (by kernel_rfl) (by kernel_rfl) (by kernel_rfl) (X47.v Q) (Eq.mp (by kernel_rfl) h)
/-! ### (*mooring/table.Table[uint64, mooring/api.Call]).Next: function 65 -/
def X65.f (a0 : Option Addr) (a1 : Int) (w : World) (Q : Value → World → Prop) : Prop := optP a0 fun p1 => ldSl w (p1.add 0) fun x2p x2n x2c => CallR Tryz.prog 73 #[.slice x2p x2n x2c, .int .u64 a1] w fun v3 w4 => ∃ (y5 : Int) (y6 : Bool), v3 = .tuple #[.int .i64 y5, .bool y6] ∧ bcase y6 (CallR Tryz.prog 85 #[.pointer a0, .int .i64 (IntKind.wrap .i64 (y5 + (1 : Int)))] w4 fun v7 w8 => ∃ (y9 : Int) (y10 : Bool), v7 = .tuple #[.int .u64 y9, .bool y10] ∧ Q (.tuple #[.int .u64 y9, .bool y10]) w8) (CallR Tryz.prog 85 #[.pointer a0, .int .i64 y5] w4 fun v11 w12 => ∃ (y13 : Int) (y14 : Bool), v11 = .tuple #[.int .u64 y13, .bool y14] ∧ Q (.tuple #[.int .u64 y13, .bool y14]) w12)
def X65.S (Q : Value → World → Prop) : Segs
  | _, _, _, _ => False
noncomputable def X65.an : Ann := (.seq .leaf (.seq .leaf (.seq (.seq .leaf (.cond .leaf .leaf)) (.seq .leaf .leaf))))
noncomputable def X65.c : Code := Tryz.f65.body.getD .skip
theorem X65.v (Q : Value → World → Prop) : V Tryz.prog (X65.S Q) X65.an X65.c (retC Tryz.prog Tryz.f65 Q) := ⟨trivial, ⟨trivial, ⟨⟨trivial, ⟨trivial, trivial⟩⟩, ⟨trivial, trivial⟩⟩⟩⟩
theorem X65.sound (a0 : Option Addr) (a1 : Int) (w : World) (Q : Value → World → Prop) (h : X65.f a0 a1 w Q) : CallR Tryz.prog 65 #[.pointer a0, .int .u64 a1] w Q :=
  fn_sound noGr mixed Tryz.func65 (c := X65.c) (an := X65.an) (S := X65.S Q) (φ := fun _ => 0) (args := [.pointer a0, .int .u64 a1]) (by kernel_rfl) (by kernel_rfl) (by kernel_rfl) (X65.v Q) (Eq.mp (by kernel_rfl) h)
/-! ### (*mooring/table.Table[uint64, mooring/api.Call]).Keys: function 62 -/
def X62.f (a0 : Option Addr) (w : World) (Q : Value → World → Prop) : Prop := newK w #[] 22 fun g1 w2 => optP a0 fun p3 => ldSl w2 (p3.add 0) fun x4p x4n x4c => RunR Tryz.prog (Builtin.append_ #[51, 51] 51 #[.slice (some g1) 0 0, .slice x4p x4n x4c]) w2 fun v5 w6 => ∃ (s7p : Option Addr) (s7n s7c : Nat), v5 = .slice s7p s7n s7c ∧ Q (.slice s7p s7n s7c) w6
def X62.S (Q : Value → World → Prop) : Segs
  | _, _, _, _ => False
noncomputable def X62.an : Ann := (.seq .leaf (.seq .leaf .leaf))
noncomputable def X62.c : Code := Tryz.f62.body.getD .skip
theorem X62.v (Q : Value → World → Prop) : V Tryz.prog (X62.S Q) X62.an X62.c (retC Tryz.prog Tryz.f62 Q) := ⟨trivial, ⟨trivial, trivial⟩⟩
theorem X62.sound (a0 : Option Addr) (w : World) (Q : Value → World → Prop) (h : X62.f a0 w Q) : CallR Tryz.prog 62 #[.pointer a0] w Q :=
  fn_sound noGr mixed Tryz.func62 (c := X62.c) (an := X62.an) (S := X62.S Q) (φ := fun _ => 0) (args := [.pointer a0]) (by kernel_rfl) (by kernel_rfl) (by kernel_rfl) (X62.v Q) (Eq.mp (by kernel_rfl) h)
/-! ### mooring/api.in: function 35 -/
def X35.f (a0 : Int) (a1 : Int) (w : World) (Q : Value → World → Prop) : Prop := bcase (decide (a0 ≥ (1 : Int))) (Q (.bool (decide (a0 ≤ a1))) w) (Q (.bool false) w)
def X35.S (Q : Value → World → Prop) : Segs
  | _, _, _, _ => False
noncomputable def X35.an : Ann := (.seq .leaf (.seq .leaf .leaf))
noncomputable def X35.c : Code := Tryz.f35.body.getD .skip
theorem X35.v (Q : Value → World → Prop) : V Tryz.prog (X35.S Q) X35.an X35.c (retC Tryz.prog Tryz.f35 Q) := ⟨trivial, ⟨trivial, trivial⟩⟩
theorem X35.sound (a0 : Int) (a1 : Int) (w : World) (Q : Value → World → Prop) (h : X35.f a0 a1 w Q) : CallR Tryz.prog 35 #[.int .i64 a0, .int .i64 a1] w Q :=
  fn_sound noGr mixed Tryz.func35 (c := X35.c) (an := X35.an) (S := X35.S Q) (φ := fun _ => 0) (args := [.int .i64 a0, .int .i64 a1]) (by kernel_rfl) (by kernel_rfl) (by kernel_rfl) (X35.v Q) (Eq.mp (by kernel_rfl) h)
/-! ### mooring/wire.fields: function 67 -/
def X67.f (a0 : Int) (w : World) (Q : Value → World → Prop) : Prop := bcase (a0 == (1 : Int)) (Q (.int .i64 (6203 : Int)) w) (bcase (a0 == (2 : Int)) (Q (.int .i64 (iOr .i64 (iOr .i64 (0 : Int) (7168 : Int)) (1 : Int))) w) (bcase (a0 == (3 : Int)) (Q (.int .i64 (iOr .i64 (0 : Int) (1 : Int))) w) (bcase (a0 == (4 : Int)) (Q (.int .i64 (iOr .i64 (iOr .i64 (0 : Int) (896 : Int)) (96 : Int))) w) (bcase (a0 == (6 : Int)) (bcase (a0 == (6 : Int)) (Q (.int .i64 (iOr .i64 (0 : Int) (96 : Int))) w) (bcase (a0 == (5 : Int)) (Q (.int .i64 (iOr .i64 (0 : Int) (1376 : Int))) w) (bcase (a0 == (8 : Int)) (Q (.int .i64 (45 : Int)) w) (bcase (a0 == (9 : Int)) (Q (.int .i64 (iOr .i64 (iOr .i64 (0 : Int) (25600 : Int)) (5 : Int))) w) (bcase (a0 == (11 : Int)) (Q (.int .i64 (iOr .i64 (0 : Int) (5 : Int))) w) (bcase (a0 == (10 : Int)) (Q (.int .i64 (iOr .i64 (0 : Int) (8229 : Int))) w) (Q (.int .i64 (0 : Int)) w))))))) (bcase (a0 == (7 : Int)) (Q (.int .i64 (iOr .i64 (0 : Int) (96 : Int))) w) (bcase (a0 == (5 : Int)) (Q (.int .i64 (iOr .i64 (0 : Int) (1376 : Int))) w) (bcase (a0 == (8 : Int)) (Q (.int .i64 (45 : Int)) w) (bcase (a0 == (9 : Int)) (Q (.int .i64 (iOr .i64 (iOr .i64 (0 : Int) (25600 : Int)) (5 : Int))) w) (bcase (a0 == (11 : Int)) (Q (.int .i64 (iOr .i64 (0 : Int) (5 : Int))) w) (bcase (a0 == (10 : Int)) (Q (.int .i64 (iOr .i64 (0 : Int) (8229 : Int))) w) (Q (.int .i64 (0 : Int)) w)))))))))))
def X67.S (Q : Value → World → Prop) : Segs
  | _, _, _, _ => False
noncomputable def X67.an : Ann := (.seq .leaf (.seq .leaf (.seq (.seq .leaf (.block (.seq (.block (.seq (.block (.seq (.block (.seq (.block (.seq (.block (.seq (.block (.seq (.block (.seq (.block (.seq (.block (.seq (.block (.seq (.seq (.seq .leaf (.cond .leaf .leaf)) (.seq (.seq .leaf (.cond .leaf .leaf)) (.seq (.seq .leaf (.cond .leaf .leaf)) (.seq (.seq .leaf (.cond .leaf .leaf)) (.seq (.seq (.seq .leaf (.cond .leaf .leaf)) (.cond .leaf .leaf)) (.seq (.seq .leaf (.cond .leaf .leaf)) (.seq (.seq .leaf (.cond .leaf .leaf)) (.seq (.seq .leaf (.cond .leaf .leaf)) (.seq (.seq .leaf (.cond .leaf .leaf)) (.seq .leaf (.cond .leaf .leaf))))))))))) .leaf)) (.seq (.seq .leaf .leaf) .leaf))) .leaf)) (.seq .leaf .leaf))) .leaf)) (.seq .leaf .leaf))) (.seq .leaf .leaf))) (.seq (.seq .leaf .leaf) .leaf))) .leaf)) (.seq .leaf .leaf))) (.seq .leaf .leaf)))) (.seq .leaf .leaf))))
noncomputable def X67.c : Code := Tryz.f67.body.getD .skip
theorem X67.v (Q : Value → World → Prop) : V Tryz.prog (X67.S Q) X67.an X67.c (retC Tryz.prog Tryz.f67 Q) := ⟨trivial, ⟨trivial, ⟨⟨trivial, ⟨⟨⟨⟨⟨⟨⟨⟨⟨⟨⟨⟨⟨trivial, ⟨trivial, trivial⟩⟩, ⟨⟨trivial, ⟨trivial, trivial⟩⟩, ⟨⟨trivial, ⟨trivial, trivial⟩⟩, ⟨⟨trivial, ⟨trivial, trivial⟩⟩, ⟨⟨⟨trivial, ⟨trivial, trivial⟩⟩, ⟨trivial, trivial⟩⟩, ⟨⟨trivial, ⟨trivial, trivial⟩⟩, ⟨⟨trivial, ⟨trivial, trivial⟩⟩, ⟨⟨trivial, ⟨trivial, trivial⟩⟩, ⟨⟨trivial, ⟨trivial, trivial⟩⟩, ⟨trivial, ⟨trivial, trivial⟩⟩⟩⟩⟩⟩⟩⟩⟩⟩⟩, trivial⟩, ⟨⟨trivial, trivial⟩, trivial⟩⟩, trivial⟩, ⟨trivial, trivial⟩⟩, trivial⟩, ⟨trivial, trivial⟩⟩, ⟨trivial, trivial⟩⟩, ⟨⟨trivial, trivial⟩, trivial⟩⟩, trivial⟩, ⟨trivial, trivial⟩⟩, ⟨trivial, trivial⟩⟩⟩, ⟨trivial, trivial⟩⟩⟩⟩
theorem X67.sound (a0 : Int) (w : World) (Q : Value → World → Prop) (h : X67.f a0 w Q) : CallR Tryz.prog 67 #[.int .i64 a0] w Q :=
  fn_sound noGr mixed Tryz.func67 (c := X67.c) (an := X67.an) (S := X67.S Q) (φ := fun _ => 0) (args := [.int .i64 a0]) (by kernel_rfl) (by kernel_rfl) (by kernel_rfl) (X67.v Q) (Eq.mp (by kernel_rfl) h)
/-! ### mooring/wire.in: function 68 -/
def X68.f (a0 : Int) (a1 : Int) (a2 : Int) (w : World) (Q : Value → World → Prop) : Prop := bcase (decide (a0 ≥ a1)) (Q (.bool (decide (a0 ≤ a2))) w) (Q (.bool false) w)
def X68.S (Q : Value → World → Prop) : Segs
  | _, _, _, _ => False
noncomputable def X68.an : Ann := (.seq .leaf (.seq .leaf .leaf))
noncomputable def X68.c : Code := Tryz.f68.body.getD .skip
theorem X68.v (Q : Value → World → Prop) : V Tryz.prog (X68.S Q) X68.an X68.c (retC Tryz.prog Tryz.f68 Q) := ⟨trivial, ⟨trivial, trivial⟩⟩
theorem X68.sound (a0 : Int) (a1 : Int) (a2 : Int) (w : World) (Q : Value → World → Prop) (h : X68.f a0 a1 a2 w Q) : CallR Tryz.prog 68 #[.int .i64 a0, .int .i64 a1, .int .i64 a2] w Q :=
  fn_sound noGr mixed Tryz.func68 (c := X68.c) (an := X68.an) (S := X68.S Q) (φ := fun _ => 0) (args := [.int .i64 a0, .int .i64 a1, .int .i64 a2]) (by kernel_rfl) (by kernel_rfl) (by kernel_rfl) (X68.v Q) (Eq.mp (by kernel_rfl) h)
/-! ### mooring/wire.fits: function 69 -/
def X69.f (a0_0 : Int) (a0_1 : Int) (a0_2 : Int) (a0_3 : Int) (a0_4 : Int) (a0_5 : Int) (a0_6 : Int) (a0_7 : Int) (a0_8 : Int) (a0_9 : Int) (a0_10p : Option Addr) (a0_10n : Nat) (a0_10c : Nat) (a0_11 : Int) (a0_12 : Int) (a0_13 : Int) (a0_14 : Int) (a0_15 : Int) (a0_16 : Int) (a0_17 : Int) (a0_18p : Option Addr) (a0_18n : Nat) (a0_18c : Nat) (a1 : Int) (w : World) (Q : Value → World → Prop) : Prop := newK w #[.int .i64 a0_0, .int .i64 a0_1, .int .i64 a0_2, .int .u64 a0_3, .int .u64 a0_4, .int .i64 a0_5, .int .i64 a0_6, .int .i64 a0_7, .int .i64 a0_8, .int .u64 a0_9, .slice a0_10p a0_10n a0_10c, .int .u64 a0_11, .int .i64 a0_12, .int .u64 a0_13, .int .i64 a0_14, .int .u64 a0_15, .int .i64 a0_16, .int .u64 a0_17, .slice a0_18p a0_18n a0_18c] 63 fun g1 w2 => bcase (a1 == (1 : Int)) (ldI .u64 w2 (g1.add 3) fun x3 => CallR Tryz.prog 86 #[.int .u64 x3] w2 fun v4 w5 => ∃ (y6 : Bool), v4 = .bool y6 ∧ Q (.bool y6) w5) (bcase (a1 == (2 : Int)) (ldI .u64 w2 (g1.add 4) fun x7 => bcase (decide (x7 ≥ (1 : Int))) (ldI .u64 w2 (g1.add 4) fun x8 => ldI .u64 w2 (g1.add 3) fun x9 => Q (.bool (decide (x8 ≤ x9))) w2) (Q (.bool false) w2)) (bcase (a1 == (4 : Int)) (ldI .i64 w2 (g1.add 7) fun x10 => CallR Tryz.prog 68 #[.int .i64 x10, .int .i64 (0 : Int), .int .i64 (4095 : Int)] w2 fun v11 w12 => ∃ (y13 : Bool), v11 = .bool y13 ∧ Q (.bool y13) w12) (bcase (a1 == (8 : Int)) (drewK w2 fun w14 => ldI .i64 w14 (g1.add 5) fun x15 => ldI .i64 w14 (g1.add 0) fun x16 => CallR Tryz.prog 87 #[.int .i64 x16] w14 fun v17 w18 => ∃ (y19 : Int), v17 = .int .i64 y19 ∧ (World.cell? w14 (g1.add 5) = some (.int .i64 x15) ∧ World.cell? w18 (g1.add 5) = some (.int .i64 x15)) ∧ CallR Tryz.prog 68 #[.int .i64 x15, .int .i64 (1 : Int), .int .i64 y19] w18 fun v20 w21 => ∃ (y22 : Bool), v20 = .bool y22 ∧ Q (.bool y22) w21) (bcase (a1 == (16 : Int)) (ldI .i64 w2 (g1.add 6) fun x23 => CallR Tryz.prog 68 #[.int .i64 x23, .int .i64 (0 : Int), .int .i64 (63 : Int)] w2 fun v24 w25 => ∃ (y26 : Bool), v24 = .bool y26 ∧ Q (.bool y26) w25) (bcase (a1 == (32 : Int)) (ldI .i64 w2 ((g1.add 8).add 0) fun x27 => ldI .u64 w2 ((g1.add 8).add 1) fun x28 => CallR Tryz.prog 88 #[.agg #[.int .i64 x27, .int .u64 x28]] w2 fun v29 w30 => ∃ (y31 : Bool), v29 = .bool y31 ∧ bcase y31 (ldI .i64 w30 (g1.add 0) fun x32 => ldI .i64 w30 (g1.add 1) fun x33 => ldI .i64 w30 (g1.add 2) fun x34 => ldI .u64 w30 (g1.add 3) fun x35 => ldI .u64 w30 (g1.add 4) fun x36 => ldI .i64 w30 (g1.add 5) fun x37 => ldI .i64 w30 (g1.add 6) fun x38 => ldI .i64 w30 (g1.add 7) fun x39 => ldI .i64 w30 (g1.add 8) fun x40 => ldI .u64 w30 (g1.add 9) fun x41 => ldSl w30 (g1.add 10) fun x42p x42n x42c => ldI .u64 w30 (g1.add 11) fun x43 => ldI .i64 w30 (g1.add 12) fun x44 => ldI .u64 w30 (g1.add 13) fun x45 => ldI .i64 w30 (g1.add 14) fun x46 => ldI .u64 w30 (g1.add 15) fun x47 => ldI .i64 w30 (g1.add 16) fun x48 => ldI .u64 w30 (g1.add 17) fun x49 => ldSl w30 (g1.add 18) fun x50p x50n x50c => CallR Tryz.prog 89 #[.agg #[.int .i64 x32, .int .i64 x33, .int .i64 x34, .int .u64 x35, .int .u64 x36, .int .i64 x37, .int .i64 x38, .int .i64 x39, .int .i64 x40, .int .u64 x41, .slice x42p x42n x42c, .int .u64 x43, .int .i64 x44, .int .u64 x45, .int .i64 x46, .int .u64 x47, .int .i64 x48, .int .u64 x49, .slice x50p x50n x50c]] w30 fun v51 w52 => ∃ (y53 : Bool), v51 = .bool y53 ∧ Q (.bool y53) w52) (Q (.bool false) w30)) (bcase (a1 == (64 : Int)) (ldI .u64 w2 (g1.add 13) fun x54 => CallR Tryz.prog 86 #[.int .u64 x54] w2 fun v55 w56 => ∃ (y57 : Bool), v55 = .bool y57 ∧ Q (.bool y57) w56) (bcase (a1 == (128 : Int)) (ldI .i64 w2 (g1.add 14) fun x58 => CallR Tryz.prog 68 #[.int .i64 x58, .int .i64 (1 : Int), .int .i64 (64 : Int)] w2 fun v59 w60 => ∃ (y61 : Bool), v59 = .bool y61 ∧ Q (.bool y61) w60) (bcase (a1 == (512 : Int)) (ldI .i64 w2 (g1.add 16) fun x62 => CallR Tryz.prog 68 #[.int .i64 x62, .int .i64 (1 : Int), .int .i64 (40 : Int)] w2 fun v63 w64 => ∃ (y65 : Bool), v63 = .bool y65 ∧ Q (.bool y65) w64) (bcase (a1 == (1024 : Int)) (drewK w2 fun w66 => ldI .i64 w66 (g1.add 12) fun x67 => ldI .i64 w66 (g1.add 0) fun x68 => CallR Tryz.prog 90 #[.int .i64 x68] w66 fun v69 w70 => ∃ (y71 : Int), v69 = .int .i64 y71 ∧ (World.cell? w66 (g1.add 12) = some (.int .i64 x67) ∧ World.cell? w70 (g1.add 12) = some (.int .i64 x67)) ∧ CallR Tryz.prog 68 #[.int .i64 x67, .int .i64 (0 : Int), .int .i64 y71] w70 fun v72 w73 => ∃ (y74 : Bool), v72 = .bool y74 ∧ Q (.bool y74) w73) (bcase (a1 == (4096 : Int)) (ldSl w2 (g1.add 10) fun x75p x75n x75c => CallR Tryz.prog 91 #[.slice x75p x75n x75c] w2 fun v76 w77 => ∃ (y78 : Bool), v76 = .bool y78 ∧ Q (.bool y78) w77) (bcase (a1 == (16384 : Int)) (ldSl w2 (g1.add 18) fun x79p x79n x79c => CallR Tryz.prog 92 #[.slice x79p x79n x79c] w2 fun v80 w81 => ∃ (y82 : Bool), v80 = .bool y82 ∧ Q (.bool y82) w81) (Q (.bool true) w2))))))))))))
def X69.S (Q : Value → World → Prop) : Segs
  | _, _, _, _ => False
noncomputable def X69.an : Ann := (.seq .leaf (.seq (.seq .leaf (.block (.seq .leaf (.cond (.seq .leaf .leaf) (.seq .leaf (.cond (.seq .leaf .leaf) (.seq .leaf (.cond (.seq .leaf .leaf) (.seq .leaf (.cond (.seq (.draw [0, 1, 0, 4, 12, 31, 63] [[0, 1, 2, 3, 4, 5, 6]]) .leaf) (.seq .leaf (.cond (.seq .leaf .leaf) (.seq .leaf (.cond (.seq .leaf .leaf) (.seq .leaf (.cond (.seq .leaf .leaf) (.seq .leaf (.cond (.seq .leaf .leaf) (.seq .leaf (.cond (.seq .leaf .leaf) (.seq .leaf (.cond (.seq (.draw [0, 1, 0, 4, 12, 31, 63] [[0, 1, 2, 3, 4, 5, 6]]) .leaf) (.seq .leaf (.cond (.seq .leaf .leaf) (.seq .leaf (.cond (.seq .leaf .leaf) .leaf)))))))))))))))))))))))))) (.seq .leaf .leaf)))
noncomputable def X69.c : Code := Tryz.f69.body.getD .skip
theorem X69.v (Q : Value → World → Prop) : V Tryz.prog (X69.S Q) X69.an X69.c (retC Tryz.prog Tryz.f69 Q) := ⟨trivial, ⟨⟨trivial, ⟨trivial, ⟨⟨trivial, trivial⟩, ⟨trivial, ⟨⟨trivial, trivial⟩, ⟨trivial, ⟨⟨trivial, trivial⟩, ⟨trivial, ⟨⟨trivial, trivial⟩, ⟨trivial, ⟨⟨trivial, trivial⟩, ⟨trivial, ⟨⟨trivial, trivial⟩, ⟨trivial, ⟨⟨trivial, trivial⟩, ⟨trivial, ⟨⟨trivial, trivial⟩, ⟨trivial, ⟨⟨trivial, trivial⟩, ⟨trivial, ⟨⟨trivial, trivial⟩, ⟨trivial, ⟨⟨trivial, trivial⟩, ⟨trivial, ⟨⟨trivial, trivial⟩, trivial⟩⟩⟩⟩⟩⟩⟩⟩⟩⟩⟩⟩⟩⟩⟩⟩⟩⟩⟩⟩⟩⟩⟩⟩⟩, ⟨trivial, trivial⟩⟩⟩
theorem X69.sound (a0_0 : Int) (a0_1 : Int) (a0_2 : Int) (a0_3 : Int) (a0_4 : Int) (a0_5 : Int) (a0_6 : Int) (a0_7 : Int) (a0_8 : Int) (a0_9 : Int) (a0_10p : Option Addr) (a0_10n : Nat) (a0_10c : Nat) (a0_11 : Int) (a0_12 : Int) (a0_13 : Int) (a0_14 : Int) (a0_15 : Int) (a0_16 : Int) (a0_17 : Int) (a0_18p : Option Addr) (a0_18n : Nat) (a0_18c : Nat) (a1 : Int) (w : World) (Q : Value → World → Prop) (h : X69.f a0_0 a0_1 a0_2 a0_3 a0_4 a0_5 a0_6 a0_7 a0_8 a0_9 a0_10p a0_10n a0_10c a0_11 a0_12 a0_13 a0_14 a0_15 a0_16 a0_17 a0_18p a0_18n a0_18c a1 w Q) : CallR Tryz.prog 69 #[.agg #[.int .i64 a0_0, .int .i64 a0_1, .int .i64 a0_2, .int .u64 a0_3, .int .u64 a0_4, .int .i64 a0_5, .int .i64 a0_6, .int .i64 a0_7, .int .i64 a0_8, .int .u64 a0_9, .slice a0_10p a0_10n a0_10c, .int .u64 a0_11, .int .i64 a0_12, .int .u64 a0_13, .int .i64 a0_14, .int .u64 a0_15, .int .i64 a0_16, .int .u64 a0_17, .slice a0_18p a0_18n a0_18c], .int .i64 a1] w Q :=
  fn_sound noGr mixed Tryz.func69 (c := X69.c) (an := X69.an) (S := X69.S Q) (φ := fun _ => 0) (args := [.agg #[.int .i64 a0_0, .int .i64 a0_1, .int .i64 a0_2, .int .u64 a0_3, .int .u64 a0_4, .int .i64 a0_5, .int .i64 a0_6, .int .i64 a0_7, .int .i64 a0_8, .int .u64 a0_9, .slice a0_10p a0_10n a0_10c, .int .u64 a0_11, .int .i64 a0_12, .int .u64 a0_13, .int .i64 a0_14, .int .u64 a0_15, .int .i64 a0_16, .int .u64 a0_17, .slice a0_18p a0_18n a0_18c], .int .i64 a1]) (by kernel_rfl) (by kernel_rfl) (by kernel_rfl) (X69.v Q) (Eq.mp (by kernel_rfl) h)
/-! ### mooring/wire.bare: function 70 -/
def X70.f (a0_0 : Int) (a0_1 : Int) (a0_2 : Int) (a0_3 : Int) (a0_4 : Int) (a0_5 : Int) (a0_6 : Int) (a0_7 : Int) (a0_8 : Int) (a0_9 : Int) (a0_10p : Option Addr) (a0_10n : Nat) (a0_10c : Nat) (a0_11 : Int) (a0_12 : Int) (a0_13 : Int) (a0_14 : Int) (a0_15 : Int) (a0_16 : Int) (a0_17 : Int) (a0_18p : Option Addr) (a0_18n : Nat) (a0_18c : Nat) (a1 : Int) (w : World) (Q : Value → World → Prop) : Prop := newK w #[.int .i64 a0_0, .int .i64 a0_1, .int .i64 a0_2, .int .u64 a0_3, .int .u64 a0_4, .int .i64 a0_5, .int .i64 a0_6, .int .i64 a0_7, .int .i64 a0_8, .int .u64 a0_9, .slice a0_10p a0_10n a0_10c, .int .u64 a0_11, .int .i64 a0_12, .int .u64 a0_13, .int .i64 a0_14, .int .u64 a0_15, .int .i64 a0_16, .int .u64 a0_17, .slice a0_18p a0_18n a0_18c] 63 fun g1 w2 => bcase (a1 == (1 : Int)) (ldI .u64 w2 (g1.add 3) fun x3 => Q (.bool (x3 == (0 : Int))) w2) (bcase (a1 == (2 : Int)) (ldI .u64 w2 (g1.add 4) fun x4 => Q (.bool (x4 == (0 : Int))) w2) (bcase (a1 == (4 : Int)) (ldI .i64 w2 (g1.add 7) fun x5 => Q (.bool (x5 == (0 : Int))) w2) (bcase (a1 == (8 : Int)) (ldI .i64 w2 (g1.add 5) fun x6 => Q (.bool (x6 == (0 : Int))) w2) (bcase (a1 == (16 : Int)) (ldI .i64 w2 (g1.add 6) fun x7 => Q (.bool (x7 == (0 : Int))) w2) (bcase (a1 == (32 : Int)) (ldI .i64 w2 ((g1.add 8).add 0) fun x8 => ldI .u64 w2 ((g1.add 8).add 1) fun x9 => isStruct Tryz.prog 37 ∧ Q (.bool ((x8 == (0 : Int)) && ((x9 == (0 : Int)) && true))) w2) (bcase (a1 == (64 : Int)) (ldI .u64 w2 (g1.add 13) fun x10 => Q (.bool (x10 == (0 : Int))) w2) (bcase (a1 == (128 : Int)) (ldI .i64 w2 (g1.add 14) fun x11 => Q (.bool (x11 == (0 : Int))) w2) (bcase (a1 == (256 : Int)) (ldI .u64 w2 (g1.add 15) fun x12 => Q (.bool (x12 == (0 : Int))) w2) (bcase (a1 == (512 : Int)) (ldI .i64 w2 (g1.add 16) fun x13 => Q (.bool (x13 == (0 : Int))) w2) (bcase (a1 == (1024 : Int)) (ldI .i64 w2 (g1.add 12) fun x14 => Q (.bool (x14 == (0 : Int))) w2) (bcase (a1 == (2048 : Int)) (ldI .u64 w2 (g1.add 11) fun x15 => Q (.bool (x15 == (0 : Int))) w2) (bcase (a1 == (4096 : Int)) (ldSl w2 (g1.add 10) fun x16p x16n x16c => Q (.bool (((x16n : Nat) : Int) == (0 : Int))) w2) (bcase (a1 == (8192 : Int)) (ldI .u64 w2 (g1.add 17) fun x17 => Q (.bool (x17 == (0 : Int))) w2) (ldSl w2 (g1.add 18) fun x18p x18n x18c => Q (.bool (((x18n : Nat) : Int) == (0 : Int))) w2))))))))))))))
def X70.S (Q : Value → World → Prop) : Segs
  | _, _, _, _ => False
noncomputable def X70.an : Ann := (.seq .leaf (.seq (.seq .leaf (.block (.seq .leaf (.cond (.seq .leaf .leaf) (.seq .leaf (.cond (.seq .leaf .leaf) (.seq .leaf (.cond (.seq .leaf .leaf) (.seq .leaf (.cond (.seq .leaf .leaf) (.seq .leaf (.cond (.seq .leaf .leaf) (.seq .leaf (.cond (.seq .leaf .leaf) (.seq .leaf (.cond (.seq .leaf .leaf) (.seq .leaf (.cond (.seq .leaf .leaf) (.seq .leaf (.cond (.seq .leaf .leaf) (.seq .leaf (.cond (.seq .leaf .leaf) (.seq .leaf (.cond (.seq .leaf .leaf) (.seq .leaf (.cond (.seq .leaf .leaf) (.seq .leaf (.cond (.seq .leaf .leaf) (.seq .leaf (.cond (.seq .leaf .leaf) .leaf)))))))))))))))))))))))))))))) (.seq .leaf .leaf)))
noncomputable def X70.c : Code := Tryz.f70.body.getD .skip
theorem X70.v (Q : Value → World → Prop) : V Tryz.prog (X70.S Q) X70.an X70.c (retC Tryz.prog Tryz.f70 Q) := ⟨trivial, ⟨⟨trivial, ⟨trivial, ⟨⟨trivial, trivial⟩, ⟨trivial, ⟨⟨trivial, trivial⟩, ⟨trivial, ⟨⟨trivial, trivial⟩, ⟨trivial, ⟨⟨trivial, trivial⟩, ⟨trivial, ⟨⟨trivial, trivial⟩, ⟨trivial, ⟨⟨trivial, trivial⟩, ⟨trivial, ⟨⟨trivial, trivial⟩, ⟨trivial, ⟨⟨trivial, trivial⟩, ⟨trivial, ⟨⟨trivial, trivial⟩, ⟨trivial, ⟨⟨trivial, trivial⟩, ⟨trivial, ⟨⟨trivial, trivial⟩, ⟨trivial, ⟨⟨trivial, trivial⟩, ⟨trivial, ⟨⟨trivial, trivial⟩, ⟨trivial, ⟨⟨trivial, trivial⟩, trivial⟩⟩⟩⟩⟩⟩⟩⟩⟩⟩⟩⟩⟩⟩⟩⟩⟩⟩⟩⟩⟩⟩⟩⟩⟩⟩⟩⟩⟩, ⟨trivial, trivial⟩⟩⟩
theorem X70.sound (a0_0 : Int) (a0_1 : Int) (a0_2 : Int) (a0_3 : Int) (a0_4 : Int) (a0_5 : Int) (a0_6 : Int) (a0_7 : Int) (a0_8 : Int) (a0_9 : Int) (a0_10p : Option Addr) (a0_10n : Nat) (a0_10c : Nat) (a0_11 : Int) (a0_12 : Int) (a0_13 : Int) (a0_14 : Int) (a0_15 : Int) (a0_16 : Int) (a0_17 : Int) (a0_18p : Option Addr) (a0_18n : Nat) (a0_18c : Nat) (a1 : Int) (w : World) (Q : Value → World → Prop) (h : X70.f a0_0 a0_1 a0_2 a0_3 a0_4 a0_5 a0_6 a0_7 a0_8 a0_9 a0_10p a0_10n a0_10c a0_11 a0_12 a0_13 a0_14 a0_15 a0_16 a0_17 a0_18p a0_18n a0_18c a1 w Q) : CallR Tryz.prog 70 #[.agg #[.int .i64 a0_0, .int .i64 a0_1, .int .i64 a0_2, .int .u64 a0_3, .int .u64 a0_4, .int .i64 a0_5, .int .i64 a0_6, .int .i64 a0_7, .int .i64 a0_8, .int .u64 a0_9, .slice a0_10p a0_10n a0_10c, .int .u64 a0_11, .int .i64 a0_12, .int .u64 a0_13, .int .i64 a0_14, .int .u64 a0_15, .int .i64 a0_16, .int .u64 a0_17, .slice a0_18p a0_18n a0_18c], .int .i64 a1] w Q :=
  fn_sound noGr mixed Tryz.func70 (c := X70.c) (an := X70.an) (S := X70.S Q) (φ := fun _ => 0) (args := [.agg #[.int .i64 a0_0, .int .i64 a0_1, .int .i64 a0_2, .int .u64 a0_3, .int .u64 a0_4, .int .i64 a0_5, .int .i64 a0_6, .int .i64 a0_7, .int .i64 a0_8, .int .u64 a0_9, .slice a0_10p a0_10n a0_10c, .int .u64 a0_11, .int .i64 a0_12, .int .u64 a0_13, .int .i64 a0_14, .int .u64 a0_15, .int .i64 a0_16, .int .u64 a0_17, .slice a0_18p a0_18n a0_18c], .int .i64 a1]) (by kernel_rfl) (by kernel_rfl) (by kernel_rfl) (X70.v Q) (Eq.mp (by kernel_rfl) h)
/-! ### (*mooring/table.Table[uint64, mooring/api.Call]).Put: function 71 -/
def X71.f (a0 : Option Addr) (a1 : Int) (a2_0 : Int) (a2_1 : Int) (a2_2 : Int) (a2_3 : Int) (a2_4 : Int) (a2_5 : Int) (a2_6p : Option Addr) (a2_6n : Nat) (a2_6c : Nat) (a2_7 : Int) (a2_8 : Int) (a2_9 : Int) (a2_10p : Option Addr) (a2_10n : Nat) (a2_10c : Nat) (a2_11 : Int) (a2_12 : Int) (a2_13 : Int) (a2_14 : Int) (w : World) (Q : Value → World → Prop) : Prop := newK w #[.int .i64 a2_0, .int .u64 a2_1, .int .i64 a2_2, .int .i64 a2_3, .int .i64 a2_4, .int .u64 a2_5, .slice a2_6p a2_6n a2_6c, .int .u64 a2_7, .int .i64 a2_8, .int .i64 a2_9, .slice a2_10p a2_10n a2_10c, .int .u64 a2_11, .int .u64 a2_12, .int .u64 a2_13, .int .u64 a2_14] 50 fun g1 w2 => optP a0 fun p3 => ldSl w2 (p3.add 0) fun x4p x4n x4c => CallR Tryz.prog 73 #[.slice x4p x4n x4c, .int .u64 a1] w2 fun v5 w6 => ∃ (y7 : Int) (y8 : Bool), v5 = .tuple #[.int .i64 y7, .bool y8] ∧ bcase y8 (drewK w6 fun w9 => optP a0 fun p10 => ldSl w9 (p10.add 1) fun x11p x11n x11c => ldI .i64 w9 (g1.add 0) fun x12 => ldI .u64 w9 (g1.add 1) fun x13 => ldI .i64 w9 (g1.add 2) fun x14 => ldI .i64 w9 (g1.add 3) fun x15 => ldI .i64 w9 (g1.add 4) fun x16 => ldI .u64 w9 (g1.add 5) fun x17 => ldSl w9 (g1.add 6) fun x18p x18n x18c => ldI .u64 w9 (g1.add 7) fun x19 => ldI .i64 w9 (g1.add 8) fun x20 => ldI .i64 w9 (g1.add 9) fun x21 => ldSl w9 (g1.add 10) fun x22p x22n x22c => ldI .u64 w9 (g1.add 11) fun x23 => ldI .u64 w9 (g1.add 12) fun x24 => ldI .u64 w9 (g1.add 13) fun x25 => ldI .u64 w9 (g1.add 14) fun x26 => (0 ≤ y7 ∧ y7 < ((x11n : Nat) : Int)) ∧ optP x11p fun p27 => stAll w9 (p27.add (Int.toNat y7 * 15)) [.int .i64 x12, .int .u64 x13, .int .i64 x14, .int .i64 x15, .int .i64 x16, .int .u64 x17, .slice x18p x18n x18c, .int .u64 x19, .int .i64 x20, .int .i64 x21, .slice x22p x22n x22c, .int .u64 x23, .int .u64 x24, .int .u64 x25, .int .u64 x26] fun w28 => Q (.bool true) w28) (drewK w6 fun w29 => optP a0 fun p30 => ldSl w29 (p30.add 0) fun x31p x31n x31c => optP a0 fun p32 => ldI .i64 w29 (p32.add 2) fun x33 => bcase (decide (((x31n : Nat) : Int) ≥ x33)) (Q (.bool false) w29) (optP a0 fun p34 => ldSl w29 (p34.add 0) fun x35p x35n x35c => newK w29 #[.int .u64 a1] 22 fun g36 w37 => CallR Tryz.prog 93 #[.slice x35p x35n x35c, .int .i64 y7, .slice (some g36) 1 1] w37 fun v38 w39 => ∃ (y40p : Option Addr) (y40n y40c : Nat), v38 = .slice y40p y40n y40c ∧ optP a0 fun p41 => stK w39 (p41.add 0) (.slice y40p y40n y40c) fun w42 => drewK w42 fun w43 => optP a0 fun p44 => ldSl w43 (p44.add 1) fun x45p x45n x45c => ldI .i64 w43 (g1.add 0) fun x46 => ldI .u64 w43 (g1.add 1) fun x47 => ldI .i64 w43 (g1.add 2) fun x48 => ldI .i64 w43 (g1.add 3) fun x49 => ldI .i64 w43 (g1.add 4) fun x50 => ldI .u64 w43 (g1.add 5) fun x51 => ldSl w43 (g1.add 6) fun x52p x52n x52c => ldI .u64 w43 (g1.add 7) fun x53 => ldI .i64 w43 (g1.add 8) fun x54 => ldI .i64 w43 (g1.add 9) fun x55 => ldSl w43 (g1.add 10) fun x56p x56n x56c => ldI .u64 w43 (g1.add 11) fun x57 => ldI .u64 w43 (g1.add 12) fun x58 => ldI .u64 w43 (g1.add 13) fun x59 => ldI .u64 w43 (g1.add 14) fun x60 => newK w43 #[.int .i64 x46, .int .u64 x47, .int .i64 x48, .int .i64 x49, .int .i64 x50, .int .u64 x51, .slice x52p x52n x52c, .int .u64 x53, .int .i64 x54, .int .i64 x55, .slice x56p x56n x56c, .int .u64 x57, .int .u64 x58, .int .u64 x59, .int .u64 x60] 50 fun g61 w62 => (World.cell? w43 (p44.add 1) = some (.slice x45p x45n x45c) ∧ World.cell? w62 (p44.add 1) = some (.slice x45p x45n x45c)) ∧ CallR Tryz.prog 94 #[.slice x45p x45n x45c, .int .i64 y7, .slice (some g61) 1 1] w62 fun v63 w64 => ∃ (y65p : Option Addr) (y65n y65c : Nat), v63 = .slice y65p y65n y65c ∧ optP a0 fun p66 => stK w64 (p66.add 1) (.slice y65p y65n y65c) fun w67 => Q (.bool true) w67))
def X71.S (Q : Value → World → Prop) : Segs
  | _, _, _, _ => False
noncomputable def X71.an : Ann := (.seq .leaf (.seq .leaf (.seq (.block (.seq .leaf (.cond (.draw [0, 1, 3, 7, 0, 0, 63, 127] [[0, 1, 2, 3, 4, 5, 6, 7]]) (.seq (.draw [0, 1, 3, 7, 15, 0, 32, 96, 224, 511, 1023] [[0, 1, 2, 3, 4, 5, 6, 7, 8, 9, 10]]) (.cond (.seq .leaf .leaf) (.seq .leaf (.draw [0, 0, 2, 6, 14, 0, 0, 64, 254, 511, 1023, 2047] [[0, 1, 2, 3, 4, 5, 6, 7, 8, 9, 10, 11]]))))))) (.seq .leaf .leaf))))
noncomputable def X71.c : Code := Tryz.f71.body.getD .skip
theorem X71.v (Q : Value → World → Prop) : V Tryz.prog (X71.S Q) X71.an X71.c (retC Tryz.prog Tryz.f71 Q) := ⟨trivial, ⟨trivial, ⟨⟨trivial, ⟨trivial, ⟨trivial, ⟨⟨trivial, trivial⟩, ⟨trivial, trivial⟩⟩⟩⟩⟩, ⟨trivial, trivial⟩⟩⟩⟩
theorem X71.sound (a0 : Option Addr) (a1 : Int) (a2_0 : Int) (a2_1 : Int) (a2_2 : Int) (a2_3 : Int) (a2_4 : Int) (a2_5 : Int) (a2_6p : Option Addr) (a2_6n : Nat) (a2_6c : Nat) (a2_7 : Int) (a2_8 : Int) (a2_9 : Int) (a2_10p : Option Addr) (a2_10n : Nat) (a2_10c : Nat) (a2_11 : Int) (a2_12 : Int) (a2_13 : Int) (a2_14 : Int) (w : World) (Q : Value → World → Prop) (h : X71.f a0 a1 a2_0 a2_1 a2_2 a2_3 a2_4 a2_5 a2_6p a2_6n a2_6c a2_7 a2_8 a2_9 a2_10p a2_10n a2_10c a2_11 a2_12 a2_13 a2_14 w Q) : CallR Tryz.prog 71 #[.pointer a0, .int .u64 a1, .agg #[.int .i64 a2_0, .int .u64 a2_1, .int .i64 a2_2, .int .i64 a2_3, .int .i64 a2_4, .int .u64 a2_5, .slice a2_6p a2_6n a2_6c, .int .u64 a2_7, .int .i64 a2_8, .int .i64 a2_9, .slice a2_10p a2_10n a2_10c, .int .u64 a2_11, .int .u64 a2_12, .int .u64 a2_13, .int .u64 a2_14]] w Q :=
  fn_sound noGr mixed Tryz.func71 (c := X71.c) (an := X71.an) (S := X71.S Q) (φ := fun _ => 0) (args := [.pointer a0, .int .u64 a1, .agg #[.int .i64 a2_0, .int .u64 a2_1, .int .i64 a2_2, .int .i64 a2_3, .int .i64 a2_4, .int .u64 a2_5, .slice a2_6p a2_6n a2_6c, .int .u64 a2_7, .int .i64 a2_8, .int .i64 a2_9, .slice a2_10p a2_10n a2_10c, .int .u64 a2_11, .int .u64 a2_12, .int .u64 a2_13, .int .u64 a2_14]]) (by kernel_rfl) (by kernel_rfl) (by kernel_rfl) (X71.v Q) (Eq.mp (by kernel_rfl) h)
/-! ### (*mooring/table.Table[uint64, mooring/api.Call]).First: function 72 -/
def X72.f (a0 : Option Addr) (w : World) (Q : Value → World → Prop) : Prop := CallR Tryz.prog 85 #[.pointer a0, .int .i64 (0 : Int)] w fun v1 w2 => ∃ (y3 : Int) (y4 : Bool), v1 = .tuple #[.int .u64 y3, .bool y4] ∧ Q (.tuple #[.int .u64 y3, .bool y4]) w2
def X72.S (Q : Value → World → Prop) : Segs
  | _, _, _, _ => False
noncomputable def X72.an : Ann := (.seq .leaf (.seq .leaf .leaf))
noncomputable def X72.c : Code := Tryz.f72.body.getD .skip
theorem X72.v (Q : Value → World → Prop) : V Tryz.prog (X72.S Q) X72.an X72.c (retC Tryz.prog Tryz.f72 Q) := ⟨trivial, ⟨trivial, trivial⟩⟩
theorem X72.sound (a0 : Option Addr) (w : World) (Q : Value → World → Prop) (h : X72.f a0 w Q) : CallR Tryz.prog 72 #[.pointer a0] w Q :=
  fn_sound noGr mixed Tryz.func72 (c := X72.c) (an := X72.an) (S := X72.S Q) (φ := fun _ => 0) (args := [.pointer a0]) (by kernel_rfl) (by kernel_rfl) (by kernel_rfl) (X72.v Q) (Eq.mp (by kernel_rfl) h)
/-! ### slices.BinarySearch[[]uint64,uint64]: function 73 -/
def X73.l0 (Q : Value → World → Prop) : Nat → (Option Addr) → Nat → Nat → Int → Int → Int → Int → World → Prop
  | 0, _, _, _, _, _, _, _, _ => False
  | k + 1, t0p, t0n, t0c, t1, t6, t7, t8, w => bcase (decide (t7 < t8)) (0 ≤ (1 : Int) ∧ (0 ≤ (IntKind.wrap .i64 (iShr .u64 (IntKind.wrap .u64 (IntKind.wrap .i64 (t7 + t8))) (1 : Int))) ∧ (IntKind.wrap .i64 (iShr .u64 (IntKind.wrap .u64 (IntKind.wrap .i64 (t7 + t8))) (1 : Int))) < ((t0n : Nat) : Int)) ∧ optP t0p fun p1 => ldI .u64 w (p1.add (Int.toNat (IntKind.wrap .i64 (iShr .u64 (IntKind.wrap .u64 (IntKind.wrap .i64 (t7 + t8))) (1 : Int))) * 1)) fun x2 => CallR Tryz.prog 95 #[.int .u64 x2, .int .u64 t1] w fun v3 w4 => ∃ (y5 : Bool), v3 = .bool y5 ∧ bcase y5 (X73.l0 Q k t0p t0n t0c t1 t6 (IntKind.wrap .i64 ((IntKind.wrap .i64 (iShr .u64 (IntKind.wrap .u64 (IntKind.wrap .i64 (t7 + t8))) (1 : Int))) + (1 : Int))) t8 w4) (X73.l0 Q k t0p t0n t0c t1 t6 t7 (IntKind.wrap .i64 (iShr .u64 (IntKind.wrap .u64 (IntKind.wrap .i64 (t7 + t8))) (1 : Int))) w4)) (bcase (decide (t7 < t6)) ((0 ≤ t7 ∧ t7 < ((t0n : Nat) : Int)) ∧ optP t0p fun p6 => ldI .u64 w (p6.add (Int.toNat t7 * 1)) fun x7 => bcase (x7 == t1) (Q (.tuple #[.int .i64 t7, .bool true]) w) ((0 ≤ t7 ∧ t7 < ((t0n : Nat) : Int)) ∧ optP t0p fun p8 => ldI .u64 w (p8.add (Int.toNat t7 * 1)) fun x9 => CallR Tryz.prog 96 #[.int .u64 x9] w fun v10 w11 => ∃ (y12 : Bool), v10 = .bool y12 ∧ bcase y12 (CallR Tryz.prog 96 #[.int .u64 t1] w11 fun v13 w14 => ∃ (y15 : Bool), v13 = .bool y15 ∧ Q (.tuple #[.int .i64 t7, .bool y15]) w14) (Q (.tuple #[.int .i64 t7, .bool false]) w11))) (Q (.tuple #[.int .i64 t7, .bool false]) w))
def X73.f (a0p : Option Addr) (a0n : Nat) (a0c : Nat) (a1 : Int) (w : World) (Q : Value → World → Prop) : Prop := ∃ m1, X73.l0 Q m1 a0p a0n a0c a1 ((a0n : Nat) : Int) (0 : Int) ((a0n : Nat) : Int) w
def X73.S (Q : Value → World → Prop) : Segs
  | 0, φ, ρ, w => qSl (ρ 0) fun t0p t0n t0c => qI .u64 (ρ 1) fun t1 => qI .i64 (ρ 6) fun t6 => qI .i64 (ρ 7) fun t7 => qI .i64 (ρ 8) fun t8 => X73.l0 Q (φ 0) t0p t0n t0c t1 t6 t7 t8 w
  | _, _, _, _ => False
noncomputable def X73.an : Ann := (.seq .leaf (.seq .leaf (.seq .leaf (.seq (.block (.loop 0 (.seq (.seq .leaf (.cond .leaf .leaf)) (.block (.seq .leaf (.seq .leaf (.cond .leaf .leaf))))))) (.seq .leaf .leaf)))))
noncomputable def X73.c : Code := Tryz.f73.body.getD .skip
theorem X73.v (Q : Value → World → Prop) : V Tryz.prog (X73.S Q) X73.an X73.c (retC Tryz.prog Tryz.f73 Q) := ⟨trivial, ⟨trivial, ⟨trivial, ⟨⟨(by
    intro φ ρ w h
    simp only [X73.S] at h
    obtain ⟨t0p, t0n, t0c, e0, h⟩ := qSl_elim h
    obtain ⟨t1, e1, h⟩ := qI_elim h
    obtain ⟨t6, e6, h⟩ := qI_elim h
    obtain ⟨t7, e7, h⟩ := qI_elim h
    obtain ⟨t8, e8, h⟩ := qI_elim h
    cases hk : φ 0 with
    | zero => rw [hk] at h; exact h.elim
    | succ k => rw [hk] at h; exact ⟨k, Nat.lt_succ_self k, (((((Env.nil.put (some 0) (.slice t0p t0n t0c)).put (some 1) (.int .u64 t1)).put (some 6) (.int .i64 t6)).put (some 7) (.int .i64 t7)).put (some 8) (.int .i64 t8)), Env.le_put e8 (Env.le_put e7 (Env.le_put e6 (Env.le_put e1 (Env.le_put e0 (Env.le_nil _))))), Eq.mp (by kernel_rfl) h⟩), ⟨⟨trivial, ⟨trivial, trivial⟩⟩, ⟨trivial, ⟨trivial, ⟨trivial, trivial⟩⟩⟩⟩⟩, ⟨trivial, trivial⟩⟩⟩⟩⟩
theorem X73.sound (a0p : Option Addr) (a0n : Nat) (a0c : Nat) (a1 : Int) (w : World) (Q : Value → World → Prop) (h : X73.f a0p a0n a0c a1 w Q) : CallR Tryz.prog 73 #[.slice a0p a0n a0c, .int .u64 a1] w Q :=
  fn_sound noGr mixed Tryz.func73 (c := X73.c) (an := X73.an) (S := X73.S Q) (φ := fun _ => 0) (args := [.slice a0p a0n a0c, .int .u64 a1]) (by kernel_rfl) (by kernel_rfl) (by kernel_rfl) (X73.v Q) (Eq.mp (by kernel_rfl) h)
/-! ### slices.Delete[[]uint64,uint64]: function 74 -/
def X74.f (a0p : Option Addr) (a0n : Nat) (a0c : Nat) (a1 : Int) (a2 : Int) (w : World) (Q : Value → World → Prop) : Prop := RunR Tryz.prog (Instr.sliceAt 51 (.slice a0p a0n a0c) (some (.int .i64 a1)) (some (.int .i64 a2)) (some (.int .i64 ((a0n : Nat) : Int)))) w fun v1 w2 => ∃ (s3p : Option Addr) (s3n s3c : Nat), v1 = .slice s3p s3n s3c ∧ bcase (a1 == a2) (Q (.slice a0p a0n a0c) w2) (drewK w2 fun w4 => (0 ≤ ((0 : Nat) : Int) ∧ ((0 : Nat) : Int) ≤ a1 ∧ a1 ≤ ((a0c : Nat) : Int)) ∧ (0 ≤ a2 ∧ a2 ≤ ((a0n : Nat) : Int) ∧ ((a0n : Nat) : Int) ≤ ((a0c : Nat) : Int)) ∧ RunR Tryz.prog (Builtin.append_ #[51, 51] 51 #[.slice (cutAt 1 a0c (Int.toNat ((0 : Nat) : Int)) a0p) (Int.toNat a1 - Int.toNat ((0 : Nat) : Int)) (a0c - Int.toNat ((0 : Nat) : Int)), .slice (cutAt 1 a0c (Int.toNat a2) a0p) (Int.toNat ((a0n : Nat) : Int) - Int.toNat a2) (a0c - Int.toNat a2)]) w4 fun v5 w6 => ∃ (s7p : Option Addr) (s7n s7c : Nat), v5 = .slice s7p s7n s7c ∧ (0 ≤ ((s7n : Nat) : Int) ∧ ((s7n : Nat) : Int) ≤ ((a0n : Nat) : Int) ∧ ((a0n : Nat) : Int) ≤ ((s7c : Nat) : Int)) ∧ RunR Tryz.prog (Builtin.clear_ #[51] 0 #[.slice (cutAt 1 s7c (Int.toNat ((s7n : Nat) : Int)) s7p) (Int.toNat ((a0n : Nat) : Int) - Int.toNat ((s7n : Nat) : Int)) (s7c - Int.toNat ((s7n : Nat) : Int))]) w6 fun v8 w9 => v8 = .tuple #[] ∧ Q (.slice s7p s7n s7c) w9)
def X74.S (Q : Value → World → Prop) : Segs
  | _, _, _, _ => False
noncomputable def X74.an : Ann := (.seq .leaf (.seq .leaf (.seq (.seq .leaf (.cond (.seq .leaf .leaf) .leaf)) (.seq .leaf (.seq (.draw [0, 0, 3, 0, 0, 24, 63, 127] [[0, 1, 2, 3, 4, 5, 6, 7]]) (.seq .leaf (.seq .leaf .leaf)))))))
noncomputable def X74.c : Code := Tryz.f74.body.getD .skip
theorem X74.v (Q : Value → World → Prop) : V Tryz.prog (X74.S Q) X74.an X74.c (retC Tryz.prog Tryz.f74 Q) := ⟨trivial, ⟨trivial, ⟨⟨trivial, ⟨⟨trivial, trivial⟩, trivial⟩⟩, ⟨trivial, ⟨trivial, ⟨trivial, ⟨trivial, trivial⟩⟩⟩⟩⟩⟩⟩
theorem X74.sound (a0p : Option Addr) (a0n : Nat) (a0c : Nat) (a1 : Int) (a2 : Int) (w : World) (Q : Value → World → Prop) (h : X74.f a0p a0n a0c a1 a2 w Q) : CallR Tryz.prog 74 #[.slice a0p a0n a0c, .int .i64 a1, .int .i64 a2] w Q :=
  fn_sound noGr mixed Tryz.func74 (c := X74.c) (an := X74.an) (S := X74.S Q) (φ := fun _ => 0) (args := [.slice a0p a0n a0c, .int .i64 a1, .int .i64 a2]) (by kernel_rfl) (by kernel_rfl) (by kernel_rfl) (X74.v Q) (Eq.mp (by kernel_rfl) h)
/-! ### slices.Delete[[]mooring/api.Call,mooring/api.Call]: function 75 -/
def X75.f (a0p : Option Addr) (a0n : Nat) (a0c : Nat) (a1 : Int) (a2 : Int) (w : World) (Q : Value → World → Prop) : Prop := RunR Tryz.prog (Instr.sliceAt 55 (.slice a0p a0n a0c) (some (.int .i64 a1)) (some (.int .i64 a2)) (some (.int .i64 ((a0n : Nat) : Int)))) w fun v1 w2 => ∃ (s3p : Option Addr) (s3n s3c : Nat), v1 = .slice s3p s3n s3c ∧ bcase (a1 == a2) (Q (.slice a0p a0n a0c) w2) (drewK w2 fun w4 => (0 ≤ ((0 : Nat) : Int) ∧ ((0 : Nat) : Int) ≤ a1 ∧ a1 ≤ ((a0c : Nat) : Int)) ∧ (0 ≤ a2 ∧ a2 ≤ ((a0n : Nat) : Int) ∧ ((a0n : Nat) : Int) ≤ ((a0c : Nat) : Int)) ∧ RunR Tryz.prog (Builtin.append_ #[55, 55] 55 #[.slice (cutAt 15 a0c (Int.toNat ((0 : Nat) : Int)) a0p) (Int.toNat a1 - Int.toNat ((0 : Nat) : Int)) (a0c - Int.toNat ((0 : Nat) : Int)), .slice (cutAt 15 a0c (Int.toNat a2) a0p) (Int.toNat ((a0n : Nat) : Int) - Int.toNat a2) (a0c - Int.toNat a2)]) w4 fun v5 w6 => ∃ (s7p : Option Addr) (s7n s7c : Nat), v5 = .slice s7p s7n s7c ∧ (0 ≤ ((s7n : Nat) : Int) ∧ ((s7n : Nat) : Int) ≤ ((a0n : Nat) : Int) ∧ ((a0n : Nat) : Int) ≤ ((s7c : Nat) : Int)) ∧ RunR Tryz.prog (Builtin.clear_ #[55] 0 #[.slice (cutAt 15 s7c (Int.toNat ((s7n : Nat) : Int)) s7p) (Int.toNat ((a0n : Nat) : Int) - Int.toNat ((s7n : Nat) : Int)) (s7c - Int.toNat ((s7n : Nat) : Int))]) w6 fun v8 w9 => v8 = .tuple #[] ∧ Q (.slice s7p s7n s7c) w9)
def X75.S (Q : Value → World → Prop) : Segs
  | _, _, _, _ => False
noncomputable def X75.an : Ann := (.seq .leaf (.seq .leaf (.seq (.seq .leaf (.cond (.seq .leaf .leaf) .leaf)) (.seq .leaf (.seq (.draw [0, 0, 3, 0, 0, 24, 63, 127] [[0, 1, 2, 3, 4, 5, 6, 7]]) (.seq .leaf (.seq .leaf .leaf)))))))
noncomputable def X75.c : Code := Tryz.f75.body.getD .skip
theorem X75.v (Q : Value → World → Prop) : V Tryz.prog (X75.S Q) X75.an X75.c (retC Tryz.prog Tryz.f75 Q) := ⟨trivial, ⟨trivial, ⟨⟨trivial, ⟨⟨trivial, trivial⟩, trivial⟩⟩, ⟨trivial, ⟨trivial, ⟨trivial, ⟨trivial, trivial⟩⟩⟩⟩⟩⟩⟩
theorem X75.sound (a0p : Option Addr) (a0n : Nat) (a0c : Nat) (a1 : Int) (a2 : Int) (w : World) (Q : Value → World → Prop) (h : X75.f a0p a0n a0c a1 a2 w Q) : CallR Tryz.prog 75 #[.slice a0p a0n a0c, .int .i64 a1, .int .i64 a2] w Q :=
  fn_sound noGr mixed Tryz.func75 (c := X75.c) (an := X75.an) (S := X75.S Q) (φ := fun _ => 0) (args := [.slice a0p a0n a0c, .int .i64 a1, .int .i64 a2]) (by kernel_rfl) (by kernel_rfl) (by kernel_rfl) (X75.v Q) (Eq.mp (by kernel_rfl) h)
/-! ### mooring/api.Key: function 76 -/
def X76.f (a0_0 : Int) (a0_1 : Int) (w : World) (Q : Value → World → Prop) : Prop := newK w #[.int .i64 a0_0, .int .u64 a0_1] 37 fun g1 w2 => ldI .i64 w2 (g1.add 0) fun x3 => 0 ≤ (56 : Int) ∧ ldI .u64 w2 (g1.add 1) fun x4 => Q (.int .u64 (iOr .u64 (iShl .u64 (IntKind.wrap .u64 x3) (56 : Int)) x4)) w2
def X76.S (Q : Value → World → Prop) : Segs
  | _, _, _, _ => False
noncomputable def X76.an : Ann := (.seq .leaf (.seq .leaf .leaf))
noncomputable def X76.c : Code := Tryz.f76.body.getD .skip
theorem X76.v (Q : Value → World → Prop) : V Tryz.prog (X76.S Q) X76.an X76.c (retC Tryz.prog Tryz.f76 Q) := ⟨trivial, ⟨trivial, trivial⟩⟩
theorem X76.sound (a0_0 : Int) (a0_1 : Int) (w : World) (Q : Value → World → Prop) (h : X76.f a0_0 a0_1 w Q) : CallR Tryz.prog 76 #[.agg #[.int .i64 a0_0, .int .u64 a0_1]] w Q :=
  fn_sound noGr mixed Tryz.func76 (c := X76.c) (an := X76.an) (S := X76.S Q) (φ := fun _ => 0) (args := [.agg #[.int .i64 a0_0, .int .u64 a0_1]]) (by kernel_rfl) (by kernel_rfl) (by kernel_rfl) (X76.v Q) (Eq.mp (by kernel_rfl) h)
/-! ### (*mooring/table.Table[uint64, mooring/api.Call]).from: function 85 -/
def X85.f (a0 : Option Addr) (a1 : Int) (w : World) (Q : Value → World → Prop) : Prop := bcase (decide (a1 < (0 : Int))) (Q (.tuple #[.int .u64 (0 : Int), .bool false]) w) (optP a0 fun p1 => ldSl w (p1.add 0) fun x2p x2n x2c => bcase (decide (a1 ≥ ((x2n : Nat) : Int))) (Q (.tuple #[.int .u64 (0 : Int), .bool false]) w) (optP a0 fun p3 => ldSl w (p3.add 0) fun x4p x4n x4c => (0 ≤ a1 ∧ a1 < ((x4n : Nat) : Int)) ∧ optP x4p fun p5 => ldI .u64 w (p5.add (Int.toNat a1 * 1)) fun x6 => Q (.tuple #[.int .u64 x6, .bool true]) w))
def X85.S (Q : Value → World → Prop) : Segs
  | _, _, _, _ => False
noncomputable def X85.an : Ann := (.seq .leaf (.seq (.seq .leaf (.cond (.seq .leaf (.seq .leaf .leaf)) .leaf)) (.seq .leaf .leaf)))
noncomputable def X85.c : Code := Tryz.f85.body.getD .skip
theorem X85.v (Q : Value → World → Prop) : V Tryz.prog (X85.S Q) X85.an X85.c (retC Tryz.prog Tryz.f85 Q) := ⟨trivial, ⟨⟨trivial, ⟨⟨trivial, ⟨trivial, trivial⟩⟩, trivial⟩⟩, ⟨trivial, trivial⟩⟩⟩
theorem X85.sound (a0 : Option Addr) (a1 : Int) (w : World) (Q : Value → World → Prop) (h : X85.f a0 a1 w Q) : CallR Tryz.prog 85 #[.pointer a0, .int .i64 a1] w Q :=
  fn_sound noGr mixed Tryz.func85 (c := X85.c) (an := X85.an) (S := X85.S Q) (φ := fun _ => 0) (args := [.pointer a0, .int .i64 a1]) (by kernel_rfl) (by kernel_rfl) (by kernel_rfl) (X85.v Q) (Eq.mp (by kernel_rfl) h)
/-! ### mooring/wire.serial: function 86 -/
def X86.f (a0 : Int) (w : World) (Q : Value → World → Prop) : Prop := bcase (decide (a0 ≥ (1 : Int))) (Q (.bool (decide (a0 ≤ (72057594037927935 : Int)))) w) (Q (.bool false) w)
def X86.S (Q : Value → World → Prop) : Segs
  | _, _, _, _ => False
noncomputable def X86.an : Ann := (.seq .leaf (.seq .leaf .leaf))
noncomputable def X86.c : Code := Tryz.f86.body.getD .skip
theorem X86.v (Q : Value → World → Prop) : V Tryz.prog (X86.S Q) X86.an X86.c (retC Tryz.prog Tryz.f86 Q) := ⟨trivial, ⟨trivial, trivial⟩⟩
theorem X86.sound (a0 : Int) (w : World) (Q : Value → World → Prop) (h : X86.f a0 w Q) : CallR Tryz.prog 86 #[.int .u64 a0] w Q :=
  fn_sound noGr mixed Tryz.func86 (c := X86.c) (an := X86.an) (S := X86.S Q) (φ := fun _ => 0) (args := [.int .u64 a0]) (by kernel_rfl) (by kernel_rfl) (by kernel_rfl) (X86.v Q) (Eq.mp (by kernel_rfl) h)
/-! ### mooring/wire.ops: function 87 -/
def X87.f (a0 : Int) (w : World) (Q : Value → World → Prop) : Prop := bcase (a0 == (8 : Int)) (Q (.int .i64 (3 : Int)) w) (Q (.int .i64 (6 : Int)) w)
def X87.S (Q : Value → World → Prop) : Segs
  | _, _, _, _ => False
noncomputable def X87.an : Ann := (.seq .leaf (.seq (.seq .leaf (.cond (.seq .leaf .leaf) .leaf)) (.seq .leaf .leaf)))
noncomputable def X87.c : Code := Tryz.f87.body.getD .skip
theorem X87.v (Q : Value → World → Prop) : V Tryz.prog (X87.S Q) X87.an X87.c (retC Tryz.prog Tryz.f87 Q) := ⟨trivial, ⟨⟨trivial, ⟨⟨trivial, trivial⟩, trivial⟩⟩, ⟨trivial, trivial⟩⟩⟩
theorem X87.sound (a0 : Int) (w : World) (Q : Value → World → Prop) (h : X87.f a0 w Q) : CallR Tryz.prog 87 #[.int .i64 a0] w Q :=
  fn_sound noGr mixed Tryz.func87 (c := X87.c) (an := X87.an) (S := X87.S Q) (φ := fun _ => 0) (args := [.int .i64 a0]) (by kernel_rfl) (by kernel_rfl) (by kernel_rfl) (X87.v Q) (Eq.mp (by kernel_rfl) h)
/-! ### mooring/wire.right: function 88 -/
def X88.f (a0_0 : Int) (a0_1 : Int) (w : World) (Q : Value → World → Prop) : Prop := newK w #[.int .i64 a0_0, .int .u64 a0_1] 37 fun g1 w2 => ldI .i64 w2 (g1.add 0) fun x3 => ldI .u64 w2 (g1.add 1) fun x4 => isStruct Tryz.prog 37 ∧ bcase ((x3 == (0 : Int)) && ((x4 == (0 : Int)) && true)) (Q (.bool true) w2) (ldI .i64 w2 (g1.add 0) fun x5 => CallR Tryz.prog 68 #[.int .i64 x5, .int .i64 (1 : Int), .int .i64 (64 : Int)] w2 fun v6 w7 => ∃ (y8 : Bool), v6 = .bool y8 ∧ bcase y8 (ldI .u64 w7 (g1.add 1) fun x9 => CallR Tryz.prog 86 #[.int .u64 x9] w7 fun v10 w11 => ∃ (y12 : Bool), v10 = .bool y12 ∧ Q (.bool y12) w11) (Q (.bool false) w7))
def X88.S (Q : Value → World → Prop) : Segs
  | _, _, _, _ => False
noncomputable def X88.an : Ann := (.seq .leaf (.seq .leaf .leaf))
noncomputable def X88.c : Code := Tryz.f88.body.getD .skip
theorem X88.v (Q : Value → World → Prop) : V Tryz.prog (X88.S Q) X88.an X88.c (retC Tryz.prog Tryz.f88 Q) := ⟨trivial, ⟨trivial, trivial⟩⟩
theorem X88.sound (a0_0 : Int) (a0_1 : Int) (w : World) (Q : Value → World → Prop) (h : X88.f a0_0 a0_1 w Q) : CallR Tryz.prog 88 #[.agg #[.int .i64 a0_0, .int .u64 a0_1]] w Q :=
  fn_sound noGr mixed Tryz.func88 (c := X88.c) (an := X88.an) (S := X88.S Q) (φ := fun _ => 0) (args := [.agg #[.int .i64 a0_0, .int .u64 a0_1]]) (by kernel_rfl) (by kernel_rfl) (by kernel_rfl) (X88.v Q) (Eq.mp (by kernel_rfl) h)
/-! ### mooring/wire.aims: function 89 -/
def X89.f (a0_0 : Int) (a0_1 : Int) (a0_2 : Int) (a0_3 : Int) (a0_4 : Int) (a0_5 : Int) (a0_6 : Int) (a0_7 : Int) (a0_8 : Int) (a0_9 : Int) (a0_10p : Option Addr) (a0_10n : Nat) (a0_10c : Nat) (a0_11 : Int) (a0_12 : Int) (a0_13 : Int) (a0_14 : Int) (a0_15 : Int) (a0_16 : Int) (a0_17 : Int) (a0_18p : Option Addr) (a0_18n : Nat) (a0_18c : Nat) (w : World) (Q : Value → World → Prop) : Prop := newK w #[.int .i64 a0_0, .int .i64 a0_1, .int .i64 a0_2, .int .u64 a0_3, .int .u64 a0_4, .int .i64 a0_5, .int .i64 a0_6, .int .i64 a0_7, .int .i64 a0_8, .int .u64 a0_9, .slice a0_10p a0_10n a0_10c, .int .u64 a0_11, .int .i64 a0_12, .int .u64 a0_13, .int .i64 a0_14, .int .u64 a0_15, .int .i64 a0_16, .int .u64 a0_17, .slice a0_18p a0_18n a0_18c] 63 fun g1 w2 => ldI .i64 w2 ((g1.add 8).add 0) fun x3 => ldI .u64 w2 ((g1.add 8).add 1) fun x4 => isStruct Tryz.prog 37 ∧ ldI .i64 w2 (g1.add 0) fun x5 => bcase (x5 == (1 : Int)) (ldI .i64 w2 (g1.add 5) fun x6 => bcase (x6 == (1 : Int)) (Q (.bool (((x3 == (0 : Int)) && ((x4 == (0 : Int)) && true)) == true)) w2) (ldI .i64 w2 (g1.add 5) fun x7 => Q (.bool (((x3 == (0 : Int)) && ((x4 == (0 : Int)) && true)) == (x7 == (6 : Int)))) w2)) (bcase (x5 == (8 : Int)) (ldI .i64 w2 (g1.add 5) fun x8 => Q (.bool (((x3 == (0 : Int)) && ((x4 == (0 : Int)) && true)) == (x8 == (3 : Int)))) w2) (Q (.bool (!((x3 == (0 : Int)) && ((x4 == (0 : Int)) && true)))) w2))
def X89.S (Q : Value → World → Prop) : Segs
  | _, _, _, _ => False
noncomputable def X89.an : Ann := (.seq .leaf (.seq .leaf (.seq (.seq .leaf (.block (.seq .leaf (.cond (.seq .leaf .leaf) (.seq .leaf (.cond (.seq .leaf .leaf) .leaf)))))) (.seq .leaf .leaf))))
noncomputable def X89.c : Code := Tryz.f89.body.getD .skip
theorem X89.v (Q : Value → World → Prop) : V Tryz.prog (X89.S Q) X89.an X89.c (retC Tryz.prog Tryz.f89 Q) := ⟨trivial, ⟨trivial, ⟨⟨trivial, ⟨trivial, ⟨⟨trivial, trivial⟩, ⟨trivial, ⟨⟨trivial, trivial⟩, trivial⟩⟩⟩⟩⟩, ⟨trivial, trivial⟩⟩⟩⟩
theorem X89.sound (a0_0 : Int) (a0_1 : Int) (a0_2 : Int) (a0_3 : Int) (a0_4 : Int) (a0_5 : Int) (a0_6 : Int) (a0_7 : Int) (a0_8 : Int) (a0_9 : Int) (a0_10p : Option Addr) (a0_10n : Nat) (a0_10c : Nat) (a0_11 : Int) (a0_12 : Int) (a0_13 : Int) (a0_14 : Int) (a0_15 : Int) (a0_16 : Int) (a0_17 : Int) (a0_18p : Option Addr) (a0_18n : Nat) (a0_18c : Nat) (w : World) (Q : Value → World → Prop) (h : X89.f a0_0 a0_1 a0_2 a0_3 a0_4 a0_5 a0_6 a0_7 a0_8 a0_9 a0_10p a0_10n a0_10c a0_11 a0_12 a0_13 a0_14 a0_15 a0_16 a0_17 a0_18p a0_18n a0_18c w Q) : CallR Tryz.prog 89 #[.agg #[.int .i64 a0_0, .int .i64 a0_1, .int .i64 a0_2, .int .u64 a0_3, .int .u64 a0_4, .int .i64 a0_5, .int .i64 a0_6, .int .i64 a0_7, .int .i64 a0_8, .int .u64 a0_9, .slice a0_10p a0_10n a0_10c, .int .u64 a0_11, .int .i64 a0_12, .int .u64 a0_13, .int .i64 a0_14, .int .u64 a0_15, .int .i64 a0_16, .int .u64 a0_17, .slice a0_18p a0_18n a0_18c]] w Q :=
  fn_sound noGr mixed Tryz.func89 (c := X89.c) (an := X89.an) (S := X89.S Q) (φ := fun _ => 0) (args := [.agg #[.int .i64 a0_0, .int .i64 a0_1, .int .i64 a0_2, .int .u64 a0_3, .int .u64 a0_4, .int .i64 a0_5, .int .i64 a0_6, .int .i64 a0_7, .int .i64 a0_8, .int .u64 a0_9, .slice a0_10p a0_10n a0_10c, .int .u64 a0_11, .int .i64 a0_12, .int .u64 a0_13, .int .i64 a0_14, .int .u64 a0_15, .int .i64 a0_16, .int .u64 a0_17, .slice a0_18p a0_18n a0_18c]]) (by kernel_rfl) (by kernel_rfl) (by kernel_rfl) (X89.v Q) (Eq.mp (by kernel_rfl) h)
/-! ### mooring/wire.codes: function 90 -/
def X90.f (a0 : Int) (w : World) (Q : Value → World → Prop) : Prop := bcase (a0 == (9 : Int)) (Q (.int .i64 (2 : Int)) w) (Q (.int .i64 (10 : Int)) w)
def X90.S (Q : Value → World → Prop) : Segs
  | _, _, _, _ => False
noncomputable def X90.an : Ann := (.seq .leaf (.seq (.seq .leaf (.cond (.seq .leaf .leaf) .leaf)) (.seq .leaf .leaf)))
noncomputable def X90.c : Code := Tryz.f90.body.getD .skip
theorem X90.v (Q : Value → World → Prop) : V Tryz.prog (X90.S Q) X90.an X90.c (retC Tryz.prog Tryz.f90 Q) := ⟨trivial, ⟨⟨trivial, ⟨⟨trivial, trivial⟩, trivial⟩⟩, ⟨trivial, trivial⟩⟩⟩
theorem X90.sound (a0 : Int) (w : World) (Q : Value → World → Prop) (h : X90.f a0 w Q) : CallR Tryz.prog 90 #[.int .i64 a0] w Q :=
  fn_sound noGr mixed Tryz.func90 (c := X90.c) (an := X90.an) (S := X90.S Q) (φ := fun _ => 0) (args := [.int .i64 a0]) (by kernel_rfl) (by kernel_rfl) (by kernel_rfl) (X90.v Q) (Eq.mp (by kernel_rfl) h)
/-! ### mooring/wire.allRight: function 91 -/
def X91.l0 (Q : Value → World → Prop) : Nat → (Option Addr) → Nat → Nat → (Option Addr) → Nat → Nat → Int → Int → World → Prop
  | 0, _, _, _, _, _, _, _, _, _ => False
  | k + 1, t0p, t0n, t0c, t5p, t5n, t5c, t6, t7, w => bcase (decide (t7 < t6)) ((0 ≤ t7 ∧ t7 < ((t5n : Nat) : Int)) ∧ optP t5p fun p1 => ldI .i64 w ((p1.add (Int.toNat t7 * 2)).add 0) fun x2 => ldI .u64 w ((p1.add (Int.toNat t7 * 2)).add 1) fun x3 => newK w #[.int .i64 (0 : Int), .int .u64 (0 : Int)] 37 fun g4 w5 => stAll w5 g4 [.int .i64 x2, .int .u64 x3] fun w6 => ldI .i64 w6 (g4.add 0) fun x7 => ldI .u64 w6 (g4.add 1) fun x8 => CallR Tryz.prog 88 #[.agg #[.int .i64 x7, .int .u64 x8]] w6 fun v9 w10 => ∃ (y11 : Bool), v9 = .bool y11 ∧ bcase (!y11) (Q (.bool false) w10) (X91.l0 Q k t0p t0n t0c t5p t5n t5c t6 (IntKind.wrap .i64 (t7 + (1 : Int))) w10)) (Q (.bool (decide (((t0n : Nat) : Int) ≤ (2 : Int)))) w)
def X91.f (a0p : Option Addr) (a0n : Nat) (a0c : Nat) (w : World) (Q : Value → World → Prop) : Prop := ∃ m1, X91.l0 Q m1 a0p a0n a0c a0p a0n a0c ((a0n : Nat) : Int) (0 : Int) w
def X91.S (Q : Value → World → Prop) : Segs
  | 0, φ, ρ, w => qSl (ρ 0) fun t0p t0n t0c => qSl (ρ 5) fun t5p t5n t5c => qI .i64 (ρ 6) fun t6 => qI .i64 (ρ 7) fun t7 => X91.l0 Q (φ 0) t0p t0n t0c t5p t5n t5c t6 t7 w
  | _, _, _, _ => False
noncomputable def X91.an : Ann := (.seq .leaf (.seq (.seq .leaf (.block (.loop 0 (.seq .leaf (.seq (.cond .leaf .leaf) (.seq (.block (.seq .leaf (.seq .leaf (.cond (.seq .leaf .leaf) .leaf)))) .leaf)))))) (.seq .leaf .leaf)))
noncomputable def X91.c : Code := Tryz.f91.body.getD .skip
theorem X91.v (Q : Value → World → Prop) : V Tryz.prog (X91.S Q) X91.an X91.c (retC Tryz.prog Tryz.f91 Q) := ⟨trivial, ⟨⟨trivial, ⟨(by
    intro φ ρ w h
    simp only [X91.S] at h
    obtain ⟨t0p, t0n, t0c, e0, h⟩ := qSl_elim h
    obtain ⟨t5p, t5n, t5c, e5, h⟩ := qSl_elim h
    obtain ⟨t6, e6, h⟩ := qI_elim h
    obtain ⟨t7, e7, h⟩ := qI_elim h
    cases hk : φ 0 with
    | zero => rw [hk] at h; exact h.elim
    | succ k => rw [hk] at h; exact ⟨k, Nat.lt_succ_self k, ((((Env.nil.put (some 0) (.slice t0p t0n t0c)).put (some 5) (.slice t5p t5n t5c)).put (some 6) (.int .i64 t6)).put (some 7) (.int .i64 t7)), Env.le_put e7 (Env.le_put e6 (Env.le_put e5 (Env.le_put e0 (Env.le_nil _)))), Eq.mp (by kernel_rfl) h⟩), ⟨trivial, ⟨⟨trivial, trivial⟩, ⟨⟨trivial, ⟨trivial, ⟨⟨trivial, trivial⟩, trivial⟩⟩⟩, trivial⟩⟩⟩⟩⟩, ⟨trivial, trivial⟩⟩⟩
theorem X91.sound (a0p : Option Addr) (a0n : Nat) (a0c : Nat) (w : World) (Q : Value → World → Prop) (h : X91.f a0p a0n a0c w Q) : CallR Tryz.prog 91 #[.slice a0p a0n a0c] w Q :=
  fn_sound noGr mixed Tryz.func91 (c := X91.c) (an := X91.an) (S := X91.S Q) (φ := fun _ => 0) (args := [.slice a0p a0n a0c]) (by kernel_rfl) (by kernel_rfl) (by kernel_rfl) (X91.v Q) (Eq.mp (by kernel_rfl) h)
/-! ### mooring/wire.rising: function 92 -/
def X92.l0 (Q : Value → World → Prop) : Nat → (Option Addr) → Nat → Nat → (Option Addr) → Nat → Nat → Int → Int → World → Prop
  | 0, _, _, _, _, _, _, _, _, _ => False
  | k + 1, t0p, t0n, t0c, t5p, t5n, t5c, t6, t7, w => bcase (decide (t7 < t6)) ((0 ≤ t7 ∧ t7 < ((t5n : Nat) : Int)) ∧ optP t5p fun p1 => ldI .u64 w (p1.add (Int.toNat t7 * 1)) fun x2 => CallR Tryz.prog 86 #[.int .u64 x2] w fun v3 w4 => ∃ (y5 : Bool), v3 = .bool y5 ∧ bcase (!y5) (Q (.bool false) w4) (bcase (decide (t7 > (0 : Int))) ((0 ≤ (IntKind.wrap .i64 (t7 - (1 : Int))) ∧ (IntKind.wrap .i64 (t7 - (1 : Int))) < ((t0n : Nat) : Int)) ∧ optP t0p fun p6 => ldI .u64 w4 (p6.add (Int.toNat (IntKind.wrap .i64 (t7 - (1 : Int))) * 1)) fun x7 => bcase (decide (x2 ≤ x7)) (Q (.bool false) w4) (X92.l0 Q k t0p t0n t0c t5p t5n t5c t6 (IntKind.wrap .i64 (t7 + (1 : Int))) w4)) (X92.l0 Q k t0p t0n t0c t5p t5n t5c t6 (IntKind.wrap .i64 (t7 + (1 : Int))) w4))) (Q (.bool (decide (((t0n : Nat) : Int) ≤ (64 : Int)))) w)
def X92.f (a0p : Option Addr) (a0n : Nat) (a0c : Nat) (w : World) (Q : Value → World → Prop) : Prop := ∃ m1, X92.l0 Q m1 a0p a0n a0c a0p a0n a0c ((a0n : Nat) : Int) (0 : Int) w
def X92.S (Q : Value → World → Prop) : Segs
  | 0, φ, ρ, w => qSl (ρ 0) fun t0p t0n t0c => qSl (ρ 5) fun t5p t5n t5c => qI .i64 (ρ 6) fun t6 => qI .i64 (ρ 7) fun t7 => X92.l0 Q (φ 0) t0p t0n t0c t5p t5n t5c t6 t7 w
  | _, _, _, _ => False
noncomputable def X92.an : Ann := (.seq .leaf (.seq (.seq .leaf (.block (.loop 0 (.seq .leaf (.seq (.cond .leaf .leaf) (.seq (.block (.seq .leaf (.seq .leaf (.cond (.seq .leaf .leaf) .leaf)))) .leaf)))))) (.seq .leaf .leaf)))
noncomputable def X92.c : Code := Tryz.f92.body.getD .skip
theorem X92.v (Q : Value → World → Prop) : V Tryz.prog (X92.S Q) X92.an X92.c (retC Tryz.prog Tryz.f92 Q) := ⟨trivial, ⟨⟨trivial, ⟨(by
    intro φ ρ w h
    simp only [X92.S] at h
    obtain ⟨t0p, t0n, t0c, e0, h⟩ := qSl_elim h
    obtain ⟨t5p, t5n, t5c, e5, h⟩ := qSl_elim h
    obtain ⟨t6, e6, h⟩ := qI_elim h
    obtain ⟨t7, e7, h⟩ := qI_elim h
    cases hk : φ 0 with
    | zero => rw [hk] at h; exact h.elim
    | succ k => rw [hk] at h; exact ⟨k, Nat.lt_succ_self k, ((((Env.nil.put (some 0) (.slice t0p t0n t0c)).put (some 5) (.slice t5p t5n t5c)).put (some 6) (.int .i64 t6)).put (some 7) (.int .i64 t7)), Env.le_put e7 (Env.le_put e6 (Env.le_put e5 (Env.le_put e0 (Env.le_nil _)))), Eq.mp (by kernel_rfl) h⟩), ⟨trivial, ⟨⟨trivial, trivial⟩, ⟨⟨trivial, ⟨trivial, ⟨⟨trivial, trivial⟩, trivial⟩⟩⟩, trivial⟩⟩⟩⟩⟩, ⟨trivial, trivial⟩⟩⟩
theorem X92.sound (a0p : Option Addr) (a0n : Nat) (a0c : Nat) (w : World) (Q : Value → World → Prop) (h : X92.f a0p a0n a0c w Q) : CallR Tryz.prog 92 #[.slice a0p a0n a0c] w Q :=
  fn_sound noGr mixed Tryz.func92 (c := X92.c) (an := X92.an) (S := X92.S Q) (φ := fun _ => 0) (args := [.slice a0p a0n a0c]) (by kernel_rfl) (by kernel_rfl) (by kernel_rfl) (X92.v Q) (Eq.mp (by kernel_rfl) h)
/-! ### slices.Insert[[]uint64,uint64]: function 93 -/
def X93.f (a0p : Option Addr) (a0n : Nat) (a0c : Nat) (a1 : Int) (a2p : Option Addr) (a2n : Nat) (a2c : Nat) (w : World) (Q : Value → World → Prop) : Prop := (0 ≤ a1 ∧ a1 ≤ ((a0n : Nat) : Int) ∧ ((a0n : Nat) : Int) ≤ ((a0c : Nat) : Int)) ∧ bcase (((a2n : Nat) : Int) == (0 : Int)) (Q (.slice a0p a0n a0c) w) (bcase (a1 == ((a0n : Nat) : Int)) (RunR Tryz.prog (Builtin.append_ #[51, 51] 51 #[.slice a0p a0n a0c, .slice a2p a2n a2c]) w fun v1 w2 => ∃ (s3p : Option Addr) (s3n s3c : Nat), v1 = .slice s3p s3n s3c ∧ Q (.slice s3p s3n s3c) w2) (bcase (decide ((IntKind.wrap .i64 (((a0n : Nat) : Int) + ((a2n : Nat) : Int))) > ((a0c : Nat) : Int))) ((0 ≤ ((0 : Nat) : Int) ∧ ((0 : Nat) : Int) ≤ a1 ∧ a1 ≤ ((a0c : Nat) : Int)) ∧ RunR Tryz.prog (Builtin.append_ #[51, 3] 51 #[.slice (cutAt 1 a0c (Int.toNat ((0 : Nat) : Int)) a0p) (Int.toNat a1 - Int.toNat ((0 : Nat) : Int)) (a0c - Int.toNat ((0 : Nat) : Int)), .int .i64 (IntKind.wrap .i64 ((IntKind.wrap .i64 (((a0n : Nat) : Int) + ((a2n : Nat) : Int))) - a1))]) w fun v4 w5 => ∃ (s6p : Option Addr) (s6n s6c : Nat), v4 = .slice s6p s6n s6c ∧ (0 ≤ a1 ∧ a1 ≤ ((s6n : Nat) : Int) ∧ ((s6n : Nat) : Int) ≤ ((s6c : Nat) : Int)) ∧ RunR Tryz.prog (Builtin.copy_ #[51, 51] 3 #[.slice (cutAt 1 s6c (Int.toNat a1) s6p) (Int.toNat ((s6n : Nat) : Int) - Int.toNat a1) (s6c - Int.toNat a1), .slice a2p a2n a2c]) w5 fun v7 w8 => ∃ y9 : Int, v7 = .int .i64 y9 ∧ drewK w8 fun w10 => (0 ≤ (IntKind.wrap .i64 (a1 + ((a2n : Nat) : Int))) ∧ (IntKind.wrap .i64 (a1 + ((a2n : Nat) : Int))) ≤ ((s6n : Nat) : Int) ∧ ((s6n : Nat) : Int) ≤ ((s6c : Nat) : Int)) ∧ (0 ≤ a1 ∧ a1 ≤ ((a0n : Nat) : Int) ∧ ((a0n : Nat) : Int) ≤ ((a0c : Nat) : Int)) ∧ RunR Tryz.prog (Builtin.copy_ #[51, 51] 3 #[.slice (cutAt 1 s6c (Int.toNat (IntKind.wrap .i64 (a1 + ((a2n : Nat) : Int)))) s6p) (Int.toNat ((s6n : Nat) : Int) - Int.toNat (IntKind.wrap .i64 (a1 + ((a2n : Nat) : Int)))) (s6c - Int.toNat (IntKind.wrap .i64 (a1 + ((a2n : Nat) : Int)))), .slice (cutAt 1 a0c (Int.toNat a1) a0p) (Int.toNat ((a0n : Nat) : Int) - Int.toNat a1) (a0c - Int.toNat a1)]) w10 fun v11 w12 => ∃ y13 : Int, v11 = .int .i64 y13 ∧ Q (.slice s6p s6n s6c) w12) ((0 ≤ ((0 : Nat) : Int) ∧ ((0 : Nat) : Int) ≤ (IntKind.wrap .i64 (((a0n : Nat) : Int) + ((a2n : Nat) : Int))) ∧ (IntKind.wrap .i64 (((a0n : Nat) : Int) + ((a2n : Nat) : Int))) ≤ ((a0c : Nat) : Int)) ∧ (0 ≤ (IntKind.wrap .i64 (a1 + ((a2n : Nat) : Int))) ∧ (IntKind.wrap .i64 (a1 + ((a2n : Nat) : Int))) ≤ (((Int.toNat (IntKind.wrap .i64 (((a0n : Nat) : Int) + ((a2n : Nat) : Int))) - Int.toNat ((0 : Nat) : Int)) : Nat) : Int) ∧ (((Int.toNat (IntKind.wrap .i64 (((a0n : Nat) : Int) + ((a2n : Nat) : Int))) - Int.toNat ((0 : Nat) : Int)) : Nat) : Int) ≤ (((a0c - Int.toNat ((0 : Nat) : Int)) : Nat) : Int)) ∧ ExtR Tryz.prog 99 #[.slice a2p a2n a2c, .slice (cutAt 1 (a0c - Int.toNat ((0 : Nat) : Int)) (Int.toNat (IntKind.wrap .i64 (a1 + ((a2n : Nat) : Int)))) (cutAt 1 a0c (Int.toNat ((0 : Nat) : Int)) a0p)) (Int.toNat (((Int.toNat (IntKind.wrap .i64 (((a0n : Nat) : Int) + ((a2n : Nat) : Int))) - Int.toNat ((0 : Nat) : Int)) : Nat) : Int) - Int.toNat (IntKind.wrap .i64 (a1 + ((a2n : Nat) : Int)))) ((a0c - Int.toNat ((0 : Nat) : Int)) - Int.toNat (IntKind.wrap .i64 (a1 + ((a2n : Nat) : Int))))] w fun v14 w15 => ∃ (y16 : Bool), v14 = .bool y16 ∧ bcase (!y16) (drewK w15 fun w17 => (0 ≤ (IntKind.wrap .i64 (a1 + ((a2n : Nat) : Int))) ∧ (IntKind.wrap .i64 (a1 + ((a2n : Nat) : Int))) ≤ (((Int.toNat (IntKind.wrap .i64 (((a0n : Nat) : Int) + ((a2n : Nat) : Int))) - Int.toNat ((0 : Nat) : Int)) : Nat) : Int) ∧ (((Int.toNat (IntKind.wrap .i64 (((a0n : Nat) : Int) + ((a2n : Nat) : Int))) - Int.toNat ((0 : Nat) : Int)) : Nat) : Int) ≤ (((a0c - Int.toNat ((0 : Nat) : Int)) : Nat) : Int)) ∧ (0 ≤ a1 ∧ a1 ≤ (((Int.toNat (IntKind.wrap .i64 (((a0n : Nat) : Int) + ((a2n : Nat) : Int))) - Int.toNat ((0 : Nat) : Int)) : Nat) : Int) ∧ (((Int.toNat (IntKind.wrap .i64 (((a0n : Nat) : Int) + ((a2n : Nat) : Int))) - Int.toNat ((0 : Nat) : Int)) : Nat) : Int) ≤ (((a0c - Int.toNat ((0 : Nat) : Int)) : Nat) : Int)) ∧ RunR Tryz.prog (Builtin.copy_ #[51, 51] 3 #[.slice (cutAt 1 (a0c - Int.toNat ((0 : Nat) : Int)) (Int.toNat (IntKind.wrap .i64 (a1 + ((a2n : Nat) : Int)))) (cutAt 1 a0c (Int.toNat ((0 : Nat) : Int)) a0p)) (Int.toNat (((Int.toNat (IntKind.wrap .i64 (((a0n : Nat) : Int) + ((a2n : Nat) : Int))) - Int.toNat ((0 : Nat) : Int)) : Nat) : Int) - Int.toNat (IntKind.wrap .i64 (a1 + ((a2n : Nat) : Int)))) ((a0c - Int.toNat ((0 : Nat) : Int)) - Int.toNat (IntKind.wrap .i64 (a1 + ((a2n : Nat) : Int)))), .slice (cutAt 1 (a0c - Int.toNat ((0 : Nat) : Int)) (Int.toNat a1) (cutAt 1 a0c (Int.toNat ((0 : Nat) : Int)) a0p)) (Int.toNat (((Int.toNat (IntKind.wrap .i64 (((a0n : Nat) : Int) + ((a2n : Nat) : Int))) - Int.toNat ((0 : Nat) : Int)) : Nat) : Int) - Int.toNat a1) ((a0c - Int.toNat ((0 : Nat) : Int)) - Int.toNat a1)]) w17 fun v18 w19 => ∃ y20 : Int, v18 = .int .i64 y20 ∧ (0 ≤ a1 ∧ a1 ≤ (((Int.toNat (IntKind.wrap .i64 (((a0n : Nat) : Int) + ((a2n : Nat) : Int))) - Int.toNat ((0 : Nat) : Int)) : Nat) : Int) ∧ (((Int.toNat (IntKind.wrap .i64 (((a0n : Nat) : Int) + ((a2n : Nat) : Int))) - Int.toNat ((0 : Nat) : Int)) : Nat) : Int) ≤ (((a0c - Int.toNat ((0 : Nat) : Int)) : Nat) : Int)) ∧ RunR Tryz.prog (Builtin.copy_ #[51, 51] 3 #[.slice (cutAt 1 (a0c - Int.toNat ((0 : Nat) : Int)) (Int.toNat a1) (cutAt 1 a0c (Int.toNat ((0 : Nat) : Int)) a0p)) (Int.toNat (((Int.toNat (IntKind.wrap .i64 (((a0n : Nat) : Int) + ((a2n : Nat) : Int))) - Int.toNat ((0 : Nat) : Int)) : Nat) : Int) - Int.toNat a1) ((a0c - Int.toNat ((0 : Nat) : Int)) - Int.toNat a1), .slice a2p a2n a2c]) w19 fun v21 w22 => ∃ y23 : Int, v21 = .int .i64 y23 ∧ Q (.slice (cutAt 1 a0c (Int.toNat ((0 : Nat) : Int)) a0p) (Int.toNat (IntKind.wrap .i64 (((a0n : Nat) : Int) + ((a2n : Nat) : Int))) - Int.toNat ((0 : Nat) : Int)) (a0c - Int.toNat ((0 : Nat) : Int))) w22) ((0 ≤ ((a0n : Nat) : Int) ∧ ((a0n : Nat) : Int) ≤ (((Int.toNat (IntKind.wrap .i64 (((a0n : Nat) : Int) + ((a2n : Nat) : Int))) - Int.toNat ((0 : Nat) : Int)) : Nat) : Int) ∧ (((Int.toNat (IntKind.wrap .i64 (((a0n : Nat) : Int) + ((a2n : Nat) : Int))) - Int.toNat ((0 : Nat) : Int)) : Nat) : Int) ≤ (((a0c - Int.toNat ((0 : Nat) : Int)) : Nat) : Int)) ∧ RunR Tryz.prog (Builtin.copy_ #[51, 51] 3 #[.slice (cutAt 1 (a0c - Int.toNat ((0 : Nat) : Int)) (Int.toNat ((a0n : Nat) : Int)) (cutAt 1 a0c (Int.toNat ((0 : Nat) : Int)) a0p)) (Int.toNat (((Int.toNat (IntKind.wrap .i64 (((a0n : Nat) : Int) + ((a2n : Nat) : Int))) - Int.toNat ((0 : Nat) : Int)) : Nat) : Int) - Int.toNat ((a0n : Nat) : Int)) ((a0c - Int.toNat ((0 : Nat) : Int)) - Int.toNat ((a0n : Nat) : Int)), .slice a2p a2n a2c]) w15 fun v24 w25 => ∃ y26 : Int, v24 = .int .i64 y26 ∧ (0 ≤ a1 ∧ a1 ≤ (((Int.toNat (IntKind.wrap .i64 (((a0n : Nat) : Int) + ((a2n : Nat) : Int))) - Int.toNat ((0 : Nat) : Int)) : Nat) : Int) ∧ (((Int.toNat (IntKind.wrap .i64 (((a0n : Nat) : Int) + ((a2n : Nat) : Int))) - Int.toNat ((0 : Nat) : Int)) : Nat) : Int) ≤ (((a0c - Int.toNat ((0 : Nat) : Int)) : Nat) : Int)) ∧ CallR Tryz.prog 100 #[.slice (cutAt 1 (a0c - Int.toNat ((0 : Nat) : Int)) (Int.toNat a1) (cutAt 1 a0c (Int.toNat ((0 : Nat) : Int)) a0p)) (Int.toNat (((Int.toNat (IntKind.wrap .i64 (((a0n : Nat) : Int) + ((a2n : Nat) : Int))) - Int.toNat ((0 : Nat) : Int)) : Nat) : Int) - Int.toNat a1) ((a0c - Int.toNat ((0 : Nat) : Int)) - Int.toNat a1), .int .i64 ((a2n : Nat) : Int)] w25 fun v27 w28 => v27 = .tuple #[] ∧ Q (.slice (cutAt 1 a0c (Int.toNat ((0 : Nat) : Int)) a0p) (Int.toNat (IntKind.wrap .i64 (((a0n : Nat) : Int) + ((a2n : Nat) : Int))) - Int.toNat ((0 : Nat) : Int)) (a0c - Int.toNat ((0 : Nat) : Int))) w28))))
def X93.S (Q : Value → World → Prop) : Segs
  | _, _, _, _ => False
noncomputable def X93.an : Ann := (.seq .leaf (.seq .leaf (.seq .leaf (.seq (.seq .leaf (.cond (.seq .leaf .leaf) .leaf)) (.seq .leaf (.seq (.seq .leaf (.cond (.seq .leaf .leaf) .leaf)) (.seq (.seq .leaf (.cond (.seq .leaf (.seq .leaf (.seq (.draw [0, 0, 0, 6, 15, 0, 0, 96, 255] [[0, 1, 2, 3, 4, 5, 6, 7, 8]]) (.seq .leaf .leaf)))) .leaf)) (.seq .leaf (.seq (.seq .leaf (.cond (.seq (.draw [0, 0, 0, 6, 15, 0, 0, 96, 255] [[0, 1, 2, 3, 4, 5, 6, 7, 8]]) (.seq .leaf (.seq .leaf .leaf))) .leaf)) (.seq .leaf (.seq .leaf (.seq .leaf .leaf))))))))))))
noncomputable def X93.c : Code := Tryz.f93.body.getD .skip
theorem X93.v (Q : Value → World → Prop) : V Tryz.prog (X93.S Q) X93.an X93.c (retC Tryz.prog Tryz.f93 Q) := ⟨trivial, ⟨trivial, ⟨trivial, ⟨⟨trivial, ⟨⟨trivial, trivial⟩, trivial⟩⟩, ⟨trivial, ⟨⟨trivial, ⟨⟨trivial, trivial⟩, trivial⟩⟩, ⟨⟨trivial, ⟨⟨trivial, ⟨trivial, ⟨trivial, ⟨trivial, trivial⟩⟩⟩⟩, trivial⟩⟩, ⟨trivial, ⟨⟨trivial, ⟨⟨trivial, ⟨trivial, ⟨trivial, trivial⟩⟩⟩, trivial⟩⟩, ⟨trivial, ⟨trivial, ⟨trivial, trivial⟩⟩⟩⟩⟩⟩⟩⟩⟩⟩⟩⟩
theorem X93.sound (a0p : Option Addr) (a0n : Nat) (a0c : Nat) (a1 : Int) (a2p : Option Addr) (a2n : Nat) (a2c : Nat) (w : World) (Q : Value → World → Prop) (h : X93.f a0p a0n a0c a1 a2p a2n a2c w Q) : CallR Tryz.prog 93 #[.slice a0p a0n a0c, .int .i64 a1, .slice a2p a2n a2c] w Q :=
  fn_sound noGr mixed Tryz.func93 (c := X93.c) (an := X93.an) (S := X93.S Q) (φ := fun _ => 0) (args := [.slice a0p a0n a0c, .int .i64 a1, .slice a2p a2n a2c]) (by kernel_rfl) (by kernel_rfl) (by kernel_rfl) (X93.v Q) (Eq.mp (by kernel_rfl) h)
/-! ### slices.Insert[[]mooring/api.Call,mooring/api.Call]: function 94 -/
def X94.f (a0p : Option Addr) (a0n : Nat) (a0c : Nat) (a1 : Int) (a2p : Option Addr) (a2n : Nat) (a2c : Nat) (w : World) (Q : Value → World → Prop) : Prop := (0 ≤ a1 ∧ a1 ≤ ((a0n : Nat) : Int) ∧ ((a0n : Nat) : Int) ≤ ((a0c : Nat) : Int)) ∧ bcase (((a2n : Nat) : Int) == (0 : Int)) (Q (.slice a0p a0n a0c) w) (bcase (a1 == ((a0n : Nat) : Int)) (RunR Tryz.prog (Builtin.append_ #[55, 55] 55 #[.slice a0p a0n a0c, .slice a2p a2n a2c]) w fun v1 w2 => ∃ (s3p : Option Addr) (s3n s3c : Nat), v1 = .slice s3p s3n s3c ∧ Q (.slice s3p s3n s3c) w2) (bcase (decide ((IntKind.wrap .i64 (((a0n : Nat) : Int) + ((a2n : Nat) : Int))) > ((a0c : Nat) : Int))) ((0 ≤ ((0 : Nat) : Int) ∧ ((0 : Nat) : Int) ≤ a1 ∧ a1 ≤ ((a0c : Nat) : Int)) ∧ RunR Tryz.prog (Builtin.append_ #[55, 3] 55 #[.slice (cutAt 15 a0c (Int.toNat ((0 : Nat) : Int)) a0p) (Int.toNat a1 - Int.toNat ((0 : Nat) : Int)) (a0c - Int.toNat ((0 : Nat) : Int)), .int .i64 (IntKind.wrap .i64 ((IntKind.wrap .i64 (((a0n : Nat) : Int) + ((a2n : Nat) : Int))) - a1))]) w fun v4 w5 => ∃ (s6p : Option Addr) (s6n s6c : Nat), v4 = .slice s6p s6n s6c ∧ (0 ≤ a1 ∧ a1 ≤ ((s6n : Nat) : Int) ∧ ((s6n : Nat) : Int) ≤ ((s6c : Nat) : Int)) ∧ RunR Tryz.prog (Builtin.copy_ #[55, 55] 3 #[.slice (cutAt 15 s6c (Int.toNat a1) s6p) (Int.toNat ((s6n : Nat) : Int) - Int.toNat a1) (s6c - Int.toNat a1), .slice a2p a2n a2c]) w5 fun v7 w8 => ∃ y9 : Int, v7 = .int .i64 y9 ∧ drewK w8 fun w10 => (0 ≤ (IntKind.wrap .i64 (a1 + ((a2n : Nat) : Int))) ∧ (IntKind.wrap .i64 (a1 + ((a2n : Nat) : Int))) ≤ ((s6n : Nat) : Int) ∧ ((s6n : Nat) : Int) ≤ ((s6c : Nat) : Int)) ∧ (0 ≤ a1 ∧ a1 ≤ ((a0n : Nat) : Int) ∧ ((a0n : Nat) : Int) ≤ ((a0c : Nat) : Int)) ∧ RunR Tryz.prog (Builtin.copy_ #[55, 55] 3 #[.slice (cutAt 15 s6c (Int.toNat (IntKind.wrap .i64 (a1 + ((a2n : Nat) : Int)))) s6p) (Int.toNat ((s6n : Nat) : Int) - Int.toNat (IntKind.wrap .i64 (a1 + ((a2n : Nat) : Int)))) (s6c - Int.toNat (IntKind.wrap .i64 (a1 + ((a2n : Nat) : Int)))), .slice (cutAt 15 a0c (Int.toNat a1) a0p) (Int.toNat ((a0n : Nat) : Int) - Int.toNat a1) (a0c - Int.toNat a1)]) w10 fun v11 w12 => ∃ y13 : Int, v11 = .int .i64 y13 ∧ Q (.slice s6p s6n s6c) w12) ((0 ≤ ((0 : Nat) : Int) ∧ ((0 : Nat) : Int) ≤ (IntKind.wrap .i64 (((a0n : Nat) : Int) + ((a2n : Nat) : Int))) ∧ (IntKind.wrap .i64 (((a0n : Nat) : Int) + ((a2n : Nat) : Int))) ≤ ((a0c : Nat) : Int)) ∧ (0 ≤ (IntKind.wrap .i64 (a1 + ((a2n : Nat) : Int))) ∧ (IntKind.wrap .i64 (a1 + ((a2n : Nat) : Int))) ≤ (((Int.toNat (IntKind.wrap .i64 (((a0n : Nat) : Int) + ((a2n : Nat) : Int))) - Int.toNat ((0 : Nat) : Int)) : Nat) : Int) ∧ (((Int.toNat (IntKind.wrap .i64 (((a0n : Nat) : Int) + ((a2n : Nat) : Int))) - Int.toNat ((0 : Nat) : Int)) : Nat) : Int) ≤ (((a0c - Int.toNat ((0 : Nat) : Int)) : Nat) : Int)) ∧ ExtR Tryz.prog 101 #[.slice a2p a2n a2c, .slice (cutAt 15 (a0c - Int.toNat ((0 : Nat) : Int)) (Int.toNat (IntKind.wrap .i64 (a1 + ((a2n : Nat) : Int)))) (cutAt 15 a0c (Int.toNat ((0 : Nat) : Int)) a0p)) (Int.toNat (((Int.toNat (IntKind.wrap .i64 (((a0n : Nat) : Int) + ((a2n : Nat) : Int))) - Int.toNat ((0 : Nat) : Int)) : Nat) : Int) - Int.toNat (IntKind.wrap .i64 (a1 + ((a2n : Nat) : Int)))) ((a0c - Int.toNat ((0 : Nat) : Int)) - Int.toNat (IntKind.wrap .i64 (a1 + ((a2n : Nat) : Int))))] w fun v14 w15 => ∃ (y16 : Bool), v14 = .bool y16 ∧ bcase (!y16) (drewK w15 fun w17 => (0 ≤ (IntKind.wrap .i64 (a1 + ((a2n : Nat) : Int))) ∧ (IntKind.wrap .i64 (a1 + ((a2n : Nat) : Int))) ≤ (((Int.toNat (IntKind.wrap .i64 (((a0n : Nat) : Int) + ((a2n : Nat) : Int))) - Int.toNat ((0 : Nat) : Int)) : Nat) : Int) ∧ (((Int.toNat (IntKind.wrap .i64 (((a0n : Nat) : Int) + ((a2n : Nat) : Int))) - Int.toNat ((0 : Nat) : Int)) : Nat) : Int) ≤ (((a0c - Int.toNat ((0 : Nat) : Int)) : Nat) : Int)) ∧ (0 ≤ a1 ∧ a1 ≤ (((Int.toNat (IntKind.wrap .i64 (((a0n : Nat) : Int) + ((a2n : Nat) : Int))) - Int.toNat ((0 : Nat) : Int)) : Nat) : Int) ∧ (((Int.toNat (IntKind.wrap .i64 (((a0n : Nat) : Int) + ((a2n : Nat) : Int))) - Int.toNat ((0 : Nat) : Int)) : Nat) : Int) ≤ (((a0c - Int.toNat ((0 : Nat) : Int)) : Nat) : Int)) ∧ RunR Tryz.prog (Builtin.copy_ #[55, 55] 3 #[.slice (cutAt 15 (a0c - Int.toNat ((0 : Nat) : Int)) (Int.toNat (IntKind.wrap .i64 (a1 + ((a2n : Nat) : Int)))) (cutAt 15 a0c (Int.toNat ((0 : Nat) : Int)) a0p)) (Int.toNat (((Int.toNat (IntKind.wrap .i64 (((a0n : Nat) : Int) + ((a2n : Nat) : Int))) - Int.toNat ((0 : Nat) : Int)) : Nat) : Int) - Int.toNat (IntKind.wrap .i64 (a1 + ((a2n : Nat) : Int)))) ((a0c - Int.toNat ((0 : Nat) : Int)) - Int.toNat (IntKind.wrap .i64 (a1 + ((a2n : Nat) : Int)))), .slice (cutAt 15 (a0c - Int.toNat ((0 : Nat) : Int)) (Int.toNat a1) (cutAt 15 a0c (Int.toNat ((0 : Nat) : Int)) a0p)) (Int.toNat (((Int.toNat (IntKind.wrap .i64 (((a0n : Nat) : Int) + ((a2n : Nat) : Int))) - Int.toNat ((0 : Nat) : Int)) : Nat) : Int) - Int.toNat a1) ((a0c - Int.toNat ((0 : Nat) : Int)) - Int.toNat a1)]) w17 fun v18 w19 => ∃ y20 : Int, v18 = .int .i64 y20 ∧ (0 ≤ a1 ∧ a1 ≤ (((Int.toNat (IntKind.wrap .i64 (((a0n : Nat) : Int) + ((a2n : Nat) : Int))) - Int.toNat ((0 : Nat) : Int)) : Nat) : Int) ∧ (((Int.toNat (IntKind.wrap .i64 (((a0n : Nat) : Int) + ((a2n : Nat) : Int))) - Int.toNat ((0 : Nat) : Int)) : Nat) : Int) ≤ (((a0c - Int.toNat ((0 : Nat) : Int)) : Nat) : Int)) ∧ RunR Tryz.prog (Builtin.copy_ #[55, 55] 3 #[.slice (cutAt 15 (a0c - Int.toNat ((0 : Nat) : Int)) (Int.toNat a1) (cutAt 15 a0c (Int.toNat ((0 : Nat) : Int)) a0p)) (Int.toNat (((Int.toNat (IntKind.wrap .i64 (((a0n : Nat) : Int) + ((a2n : Nat) : Int))) - Int.toNat ((0 : Nat) : Int)) : Nat) : Int) - Int.toNat a1) ((a0c - Int.toNat ((0 : Nat) : Int)) - Int.toNat a1), .slice a2p a2n a2c]) w19 fun v21 w22 => ∃ y23 : Int, v21 = .int .i64 y23 ∧ Q (.slice (cutAt 15 a0c (Int.toNat ((0 : Nat) : Int)) a0p) (Int.toNat (IntKind.wrap .i64 (((a0n : Nat) : Int) + ((a2n : Nat) : Int))) - Int.toNat ((0 : Nat) : Int)) (a0c - Int.toNat ((0 : Nat) : Int))) w22) ((0 ≤ ((a0n : Nat) : Int) ∧ ((a0n : Nat) : Int) ≤ (((Int.toNat (IntKind.wrap .i64 (((a0n : Nat) : Int) + ((a2n : Nat) : Int))) - Int.toNat ((0 : Nat) : Int)) : Nat) : Int) ∧ (((Int.toNat (IntKind.wrap .i64 (((a0n : Nat) : Int) + ((a2n : Nat) : Int))) - Int.toNat ((0 : Nat) : Int)) : Nat) : Int) ≤ (((a0c - Int.toNat ((0 : Nat) : Int)) : Nat) : Int)) ∧ RunR Tryz.prog (Builtin.copy_ #[55, 55] 3 #[.slice (cutAt 15 (a0c - Int.toNat ((0 : Nat) : Int)) (Int.toNat ((a0n : Nat) : Int)) (cutAt 15 a0c (Int.toNat ((0 : Nat) : Int)) a0p)) (Int.toNat (((Int.toNat (IntKind.wrap .i64 (((a0n : Nat) : Int) + ((a2n : Nat) : Int))) - Int.toNat ((0 : Nat) : Int)) : Nat) : Int) - Int.toNat ((a0n : Nat) : Int)) ((a0c - Int.toNat ((0 : Nat) : Int)) - Int.toNat ((a0n : Nat) : Int)), .slice a2p a2n a2c]) w15 fun v24 w25 => ∃ y26 : Int, v24 = .int .i64 y26 ∧ (0 ≤ a1 ∧ a1 ≤ (((Int.toNat (IntKind.wrap .i64 (((a0n : Nat) : Int) + ((a2n : Nat) : Int))) - Int.toNat ((0 : Nat) : Int)) : Nat) : Int) ∧ (((Int.toNat (IntKind.wrap .i64 (((a0n : Nat) : Int) + ((a2n : Nat) : Int))) - Int.toNat ((0 : Nat) : Int)) : Nat) : Int) ≤ (((a0c - Int.toNat ((0 : Nat) : Int)) : Nat) : Int)) ∧ CallR Tryz.prog 102 #[.slice (cutAt 15 (a0c - Int.toNat ((0 : Nat) : Int)) (Int.toNat a1) (cutAt 15 a0c (Int.toNat ((0 : Nat) : Int)) a0p)) (Int.toNat (((Int.toNat (IntKind.wrap .i64 (((a0n : Nat) : Int) + ((a2n : Nat) : Int))) - Int.toNat ((0 : Nat) : Int)) : Nat) : Int) - Int.toNat a1) ((a0c - Int.toNat ((0 : Nat) : Int)) - Int.toNat a1), .int .i64 ((a2n : Nat) : Int)] w25 fun v27 w28 => v27 = .tuple #[] ∧ Q (.slice (cutAt 15 a0c (Int.toNat ((0 : Nat) : Int)) a0p) (Int.toNat (IntKind.wrap .i64 (((a0n : Nat) : Int) + ((a2n : Nat) : Int))) - Int.toNat ((0 : Nat) : Int)) (a0c - Int.toNat ((0 : Nat) : Int))) w28))))
def X94.S (Q : Value → World → Prop) : Segs
  | _, _, _, _ => False
noncomputable def X94.an : Ann := (.seq .leaf (.seq .leaf (.seq .leaf (.seq (.seq .leaf (.cond (.seq .leaf .leaf) .leaf)) (.seq .leaf (.seq (.seq .leaf (.cond (.seq .leaf .leaf) .leaf)) (.seq (.seq .leaf (.cond (.seq .leaf (.seq .leaf (.seq (.draw [0, 0, 0, 6, 15, 0, 0, 96, 255] [[0, 1, 2, 3, 4, 5, 6, 7, 8]]) (.seq .leaf .leaf)))) .leaf)) (.seq .leaf (.seq (.seq .leaf (.cond (.seq (.draw [0, 0, 0, 6, 15, 0, 0, 96, 255] [[0, 1, 2, 3, 4, 5, 6, 7, 8]]) (.seq .leaf (.seq .leaf .leaf))) .leaf)) (.seq .leaf (.seq .leaf (.seq .leaf .leaf))))))))))))
noncomputable def X94.c : Code := Tryz.f94.body.getD .skip
theorem X94.v (Q : Value → World → Prop) : V Tryz.prog (X94.S Q) X94.an X94.c (retC Tryz.prog Tryz.f94 Q) := ⟨trivial, ⟨trivial, ⟨trivial, ⟨⟨trivial, ⟨⟨trivial, trivial⟩, trivial⟩⟩, ⟨trivial, ⟨⟨trivial, ⟨⟨trivial, trivial⟩, trivial⟩⟩, ⟨⟨trivial, ⟨⟨trivial, ⟨trivial, ⟨trivial, ⟨trivial, trivial⟩⟩⟩⟩, trivial⟩⟩, ⟨trivial, ⟨⟨trivial, ⟨⟨trivial, ⟨trivial, ⟨trivial, trivial⟩⟩⟩, trivial⟩⟩, ⟨trivial, ⟨trivial, ⟨trivial, trivial⟩⟩⟩⟩⟩⟩⟩⟩⟩⟩⟩⟩
theorem X94.sound (a0p : Option Addr) (a0n : Nat) (a0c : Nat) (a1 : Int) (a2p : Option Addr) (a2n : Nat) (a2c : Nat) (w : World) (Q : Value → World → Prop) (h : X94.f a0p a0n a0c a1 a2p a2n a2c w Q) : CallR Tryz.prog 94 #[.slice a0p a0n a0c, .int .i64 a1, .slice a2p a2n a2c] w Q :=
  fn_sound noGr mixed Tryz.func94 (c := X94.c) (an := X94.an) (S := X94.S Q) (φ := fun _ => 0) (args := [.slice a0p a0n a0c, .int .i64 a1, .slice a2p a2n a2c]) (by kernel_rfl) (by kernel_rfl) (by kernel_rfl) (X94.v Q) (Eq.mp (by kernel_rfl) h)
/-! ### cmp.Less[uint64]: function 95 -/
def X95.f (a0 : Int) (a1 : Int) (w : World) (Q : Value → World → Prop) : Prop := CallR Tryz.prog 103 #[.int .u64 a0] w fun v1 w2 => ∃ (y3 : Bool), v1 = .bool y3 ∧ bcase y3 (CallR Tryz.prog 103 #[.int .u64 a1] w2 fun v4 w5 => ∃ (y6 : Bool), v4 = .bool y6 ∧ bcase (!y6) (Q (.bool true) w5) (Q (.bool (decide (a0 < a1))) w5)) (Q (.bool (decide (a0 < a1))) w2)
def X95.S (Q : Value → World → Prop) : Segs
  | _, _, _, _ => False
noncomputable def X95.an : Ann := (.seq .leaf (.seq .leaf .leaf))
noncomputable def X95.c : Code := Tryz.f95.body.getD .skip
theorem X95.v (Q : Value → World → Prop) : V Tryz.prog (X95.S Q) X95.an X95.c (retC Tryz.prog Tryz.f95 Q) := ⟨trivial, ⟨trivial, trivial⟩⟩
theorem X95.sound (a0 : Int) (a1 : Int) (w : World) (Q : Value → World → Prop) (h : X95.f a0 a1 w Q) : CallR Tryz.prog 95 #[.int .u64 a0, .int .u64 a1] w Q :=
  fn_sound noGr mixed Tryz.func95 (c := X95.c) (an := X95.an) (S := X95.S Q) (φ := fun _ => 0) (args := [.int .u64 a0, .int .u64 a1]) (by kernel_rfl) (by kernel_rfl) (by kernel_rfl) (X95.v Q) (Eq.mp (by kernel_rfl) h)
/-! ### slices.isNaN[uint64]: function 96 -/
def X96.f (a0 : Int) (w : World) (Q : Value → World → Prop) : Prop := Q (.bool (a0 != a0)) w
def X96.S (Q : Value → World → Prop) : Segs
  | _, _, _, _ => False
noncomputable def X96.an : Ann := (.seq .leaf (.seq .leaf .leaf))
noncomputable def X96.c : Code := Tryz.f96.body.getD .skip
theorem X96.v (Q : Value → World → Prop) : V Tryz.prog (X96.S Q) X96.an X96.c (retC Tryz.prog Tryz.f96 Q) := ⟨trivial, ⟨trivial, trivial⟩⟩
theorem X96.sound (a0 : Int) (w : World) (Q : Value → World → Prop) (h : X96.f a0 w Q) : CallR Tryz.prog 96 #[.int .u64 a0] w Q :=
  fn_sound noGr mixed Tryz.func96 (c := X96.c) (an := X96.an) (S := X96.S Q) (φ := fun _ => 0) (args := [.int .u64 a0]) (by kernel_rfl) (by kernel_rfl) (by kernel_rfl) (X96.v Q) (Eq.mp (by kernel_rfl) h)
/-! ### cmp.isNaN[uint64]: function 103 -/
def X103.f (a0 : Int) (w : World) (Q : Value → World → Prop) : Prop := Q (.bool (a0 != a0)) w
def X103.S (Q : Value → World → Prop) : Segs
  | _, _, _, _ => False
noncomputable def X103.an : Ann := (.seq .leaf (.seq .leaf .leaf))
noncomputable def X103.c : Code := Tryz.f103.body.getD .skip
theorem X103.v (Q : Value → World → Prop) : V Tryz.prog (X103.S Q) X103.an X103.c (retC Tryz.prog Tryz.f103 Q) := ⟨trivial, ⟨trivial, trivial⟩⟩
theorem X103.sound (a0 : Int) (w : World) (Q : Value → World → Prop) (h : X103.f a0 w Q) : CallR Tryz.prog 103 #[.int .u64 a0] w Q :=
  fn_sound noGr mixed Tryz.func103 (c := X103.c) (an := X103.an) (S := X103.S Q) (φ := fun _ => 0) (args := [.int .u64 a0]) (by kernel_rfl) (by kernel_rfl) (by kernel_rfl) (X103.v Q) (Eq.mp (by kernel_rfl) h)
end Go.Proofs.YtdgoalhnkegbmaaGreatX
namespace Go.Proofs.YtdgoalhnkegbmaaGreatX
open Go.RowKit
theorem u64b {a : Int} (h : (Lit.int .u64 a).wf = true) : 0 ≤ a ∧ a ≤ 18446744073709551615 := by
  simp [Lit.wf, IntKind.min, IntKind.max, IntKind.signed, IntKind.bits] at h; omega
theorem u64w (n : Int) (h : 0 ≤ n) (h' : n ≤ 18446744073709551615) : IntKind.u64.wrap n = n := IntWalk.u64_in n ⟨h, h'⟩
theorem i64w (n : Int) (h : -9223372036854775808 ≤ n) (h' : n ≤ 9223372036854775807) : IntKind.i64.wrap n = n := IntWalk.i64_in n ⟨h, h'⟩
/-- the remainder by a positive number, as Pick works it out -/
theorem tmod_pick (n m : Int) (hm : 0 < m) : (if Int.tmod n m < 0 then Int.tmod n m + m else Int.tmod n m) = n % m := by
  have h1 := Int.tmod_eq_emod (a := n) (b := m)
  have h2 := Int.emod_nonneg n (by omega : m ≠ 0)
  have h3 := Int.emod_lt_of_pos n hm
  rw [h1]
  split <;> split <;> omega
theorem bc_dec {p : Prop} [Decidable p] {A B : Prop} (h1 : p → A) (h2 : ¬ p → B) : bcase (decide p) A B := by
  by_cases h : p
  · rw [decide_eq_true h]; exact h1 h
  · rw [decide_eq_false h]; exact h2 h
theorem bc_neg {p : Prop} [Decidable p] {A B : Prop} (h : ¬ p) (b : B) : bcase (decide p) A B := by rw [decide_eq_false h]; exact b
theorem bc_bool {t : Bool} {A B : Prop} (h1 : t = true → A) (h2 : t = false → B) : bcase t A B := by cases t; exact h2 rfl; exact h1 rfl
theorem bc_eq {a b : Int} {A B : Prop} (h1 : a = b → A) (h2 : a ≠ b → B) : bcase (a == b) A B := bc_bool (fun h => h1 (by simpa using h)) (fun h => h2 (by simpa using h))
theorem bc_ne {a b : Int} {A B : Prop} (h1 : a ≠ b → A) (h2 : a = b → B) : bcase (a != b) A B := bc_bool (fun h => h1 (by simpa using h)) (fun h => h2 (by simpa using h))
theorem ld_int {k : IntKind} {w : World} {p : Addr} {x : Int} {K : Int → Prop} (h : w.cell? p = some (.int k x)) (hk : K x) : ldI k w p K := ⟨x, h, hk⟩
theorem opt_some {a : Option Addr} {p : Addr} {K : Addr → Prop} (h : a = some p) (hk : K p) : optP a K := by subst h; exact hk
end Go.Proofs.YtdgoalhnkegbmaaGreatX
namespace Go.Proofs.YtdgoalhnkegbmaaGreatX
open Go.RowKit
set_option linter.unusedVariables false
set_option linter.unusedSimpArgs false
/-- Outside of the blocks S all that was there is as it was. -/
structure Fr (S : List Nat) (w w' : World) : Prop where
  os : w'.os = w.os
  tape : w'.tape = w.tape
  output : w'.output = w.output
  size : w.heap.size ≤ w'.heap.size
  block : ∀ k, k < w.heap.size → k ∉ S → w'.heap[k]? = w.heap[k]?
def fbl (p : Option Addr) : List Nat := match p with
  | some a => [a.block]
  | none => []
section
variable {S T : List Nat} {a b c w w' : World}
theorem Fr.refl (w : World) : Fr S w w := ⟨rfl, rfl, rfl, Nat.le_refl _, fun _ _ _ => rfl⟩
theorem Fr.trans (h : Fr S a b) (k : Fr T b c) (hT : ∀ x ∈ T, x ∈ S ∨ a.heap.size ≤ x) : Fr S a c :=
  ⟨k.os.trans h.os, k.tape.trans h.tape, k.output.trans h.output, Nat.le_trans h.size k.size, fun i hi hn =>
    (k.block i (Nat.lt_of_lt_of_le hi h.size) (fun hm => (hT i hm).elim hn (fun hl => absurd hi (by omega)))).trans (h.block i hi hn)⟩
theorem Fr.tr (h : Fr S a b) (k : Fr S b c) : Fr S a c := h.trans k fun x hx => .inl hx
theorem Fr.mono (h : Fr S a b) (hs : ∀ x ∈ S, x ∈ T) : Fr T a b := ⟨h.os, h.tape, h.output, h.size, fun k hk hn => h.block k hk (fun hm => hn (hs k hm))⟩
theorem Fr.any (h : Fr [] a b) : Fr T a b := h.mono fun x hx => by cases hx
theorem Fr.drew : Fr S w w.drew := ⟨rfl, rfl, rfl, Nat.le_refl _, fun _ _ _ => rfl⟩
theorem Fr.alloc (w : World) (o : Obj) : Fr S w (w.alloc o) := ⟨rfl, rfl, rfl, by simp, fun k hk _ => heap_alloc_old w o k hk⟩
theorem Fr.setCell {p : Addr} (hp : p.block ∈ S) (v : Value) : Fr S w (w.setCell p v) :=
  ⟨rfl, rfl, rfl, by simp, fun k hk hn => Below.heap_setCell _ _ _ _ (fun e => hn (e ▸ hp))⟩
theorem Fr.grown {row : Option Nat} (h : w.grownBy w' row) (hr : ∀ k, row = some k → k ∈ S) : Fr S w w' :=
  ⟨h.os, h.tape, h.output, h.size, fun k hk hn => h.block k hk (fun e => hn (hr k e.symm))⟩
theorem Fr.cell {p : Addr} {v : Value} (h : Fr S w w') (hc : w.cell? p = some v) (hn : p.block ∉ S) : w'.cell? p = some v :=
  (World.cell?_of_block (h.block p.block (World.block_lt_of_cell? w p hc) hn)).trans hc
theorem Fr.cell' {p : Addr} {v : Value} (h : Fr [] w w') (hc : w.cell? p = some v) : w'.cell? p = some v := h.cell hc (by simp)
theorem Fr.below {B : Nat} (h : Fr S w w') (hB : B ≤ w.heap.size) (hS : ∀ x ∈ S, B ≤ x) : Below B w w' :=
  ⟨h.os, h.tape, h.output, h.size, fun k hk => h.block k (by omega) (fun hm => absurd (hS k hm) (by omega))⟩
end
/-! ### What stands in memory, one behind the other -/
def Cells (w : World) (x : Option Addr) (us : List Value) : Prop := ∀ j u, us[j]? = some u → ∃ p, x = some p ∧ w.cell? (p.add j) = some u
section
variable {S T : List Nat} {w w' : World}
theorem Cells.keep {x : Option Addr} {us : List Value} (h : Fr S w w') (hc : Cells w x us) (hn : ∀ k ∈ fbl x, k ∉ S) : Cells w' x us := by
  intro j u hj
  obtain ⟨p, hp, hv⟩ := hc j u hj
  subst hp
  have hb : (p.add j).block = p.block := by unfold Addr.add; split <;> rfl
  exact ⟨p, rfl, h.cell hv (by rw [hb]; exact hn _ (by simp [fbl]))⟩
theorem Cells.keep' {x : Option Addr} {us : List Value} (h : Fr [] w w') (hc : Cells w x us) : Cells w' x us := hc.keep h (by simp)
theorem add_block (p : Addr) (j : Nat) : (p.add j).block = p.block := by unfold Addr.add; split <;> rfl
theorem add_add (p : Addr) (i j : Nat) : (p.add i).add j = p.add (i + j) := by
  unfold Addr.add
  by_cases h1 : i = 0
  · subst h1; simp
  · by_cases h2 : j = 0
    · subst h2; simp [h1]
    · rw [if_neg h1, if_neg h2, if_neg (by omega)]
      simp [Nat.add_assoc]
end
/-! ### One block -/
def at0 (g i : Nat) : Addr := ⟨g, i, none⟩
theorem add_at (g i j : Nat) : (at0 g i).add j = at0 g (i + j) := by unfold Addr.add at0; split <;> simp_all
/-- Block g is made of these cells, and nothing of it is frozen. -/
def Blk (w : World) (g : Nat) (cs : List Value) (e : TypeId) : Prop := w.heap[g]? = some (.cells cs.toArray e (0, 0))
section
variable {S : List Nat} {w w' : World} {g i : Nat} {cs : List Value} {e : TypeId} {v : Value}
theorem Blk.lt (h : Blk w g cs e) : g < w.heap.size := (Array.getElem?_eq_some_iff.1 h).1
theorem Blk.cell (h : Blk w g cs e) (hi : cs[i]? = some v) : w.cell? (at0 g i) = some v := by
  unfold Blk at h
  simp [World.cell?, at0, h, hi]
theorem Blk.storeOk (h : Blk w g cs e) (hi : i < cs.length) : StoreOk w (at0 g i) := by
  refine ⟨by rw [h.cell (List.getElem?_eq_getElem hi)]; rfl, ?_⟩
  unfold Blk at h
  simp [World.frozen?, at0, h]
theorem Blk.set (h : Blk w g cs e) (i : Nat) (v : Value) : Blk (w.setCell (at0 g i) v) g (cs.set i v) e := by
  have hlt := h.lt
  unfold Blk at h ⊢
  simp [World.setCell, at0, Array.getElem?_modify, h]
theorem Blk.keep (h : Blk w g cs e) (hf : Fr S w w') (hn : g ∉ S) : Blk w' g cs e := (hf.block g h.lt hn).trans h
theorem Blk.keep' (h : Blk w g cs e) (hf : Fr [] w w') : Blk w' g cs e := h.keep hf (by simp)
theorem Blk.made (w : World) (cs : Array Value) (e : TypeId) : Blk (w.alloc (.cells cs e)) w.heap.size cs.toList e := by
  unfold Blk
  exact heap_alloc_new w _
end
theorem ld_sl {w : World} {p : Addr} {a : Option Addr} {n c : Nat} {K : Option Addr → Nat → Nat → Prop} (h : w.cell? p = some (.slice a n c)) (hk : K a n c) : ldSl w p K := ⟨a, n, c, h, hk⟩
theorem ld_bool {w : World} {p : Addr} {x : Bool} {K : Bool → Prop} (h : w.cell? p = some (.bool x)) (hk : K x) : ldB w p K := ⟨x, h, hk⟩
theorem ld_ptr {w : World} {p : Addr} {x : Option Addr} {K : Option Addr → Prop} (h : w.cell? p = some (.pointer x)) (hk : K x) : ldP w p K := ⟨x, h, hk⟩
/-! ### Owned rows -/
abbrev Own (e : TypeId) (sz : Nat) (w : World) (p : Option Addr) (n c : Nat) (xs : List Value) : Prop := w.ownsRow 0 e sz (.slice p n c) n xs
structure RowT (P : Program) (t e : TypeId) (sz bytes : Nat) : Prop where
  under : P.underlying t = some (.slice e)
  info : ∃ i z, P.info? e = some i ∧ i.zero = some z ∧ i.size = sz ∧ i.bytes = bytes ∧ z.cells.size = sz
  pos : 0 < sz
section
variable {P : Program} {t e : TypeId} {sz bytes : Nat} {w w' : World} {x : Option Addr} {n c m mc : Nat} {xs us : List Value} {S : List Nat}
theorem Own.keep {p : Option Addr} (h : Fr S w w') (ho : Own e sz w p n c xs) (hn : ∀ k ∈ fbl p, k ∉ S) : Own e sz w' p n c xs := by
  refine ⟨ho.1, ?_⟩
  rcases ho.2 with hv | ⟨g, cap, cur, hv, hb, hg, rest⟩
  · exact .inl hv
  · refine .inr ⟨g, cap, cur, hv, hb, ?_, rest⟩
    injection hv with h1 h2 h3
    rw [h.block g (Array.getElem?_eq_some_iff.1 hg).1 (hn _ (by rw [h1]; simp [fbl]))]
    exact hg
theorem Own.keep' {p : Option Addr} (h : Fr [] w w') (ho : Own e sz w p n c xs) : Own e sz w' p n c xs := ho.keep h (by simp)
theorem Own.lt {p : Option Addr} (ho : Own e sz w p n c xs) : ∀ k ∈ fbl p, k < w.heap.size := by
  intro k hk
  cases p with
  | none => cases hk
  | some a => exact (World.ownsRow.lt ho k (by simp [fbl] at hk; simp [Value.ownBlock, hk])).2
theorem Own.len {p : Option Addr} (ho : Own e sz w p n c xs) : xs.length = n * sz := ho.1
theorem Own.le {p : Option Addr} (ho : Own e sz w p n c xs) : n ≤ c := by
  rcases ho.2 with ⟨hv, hn⟩ | ⟨g, cap, cur, hv, _, _, hn, _⟩
  · injection hv with h1 h2 h3; omega
  · injection hv with h1 h2 h3; omega
theorem Own.nil : Own e sz w none 0 0 [] := World.ownsRow_nil w 0 e sz
theorem Own.none_c (ho : Own e sz w none n c xs) : n = 0 ∧ c = 0 ∧ xs = [] := by
  rcases ho.2 with ⟨hv, hn⟩ | ⟨g, cap, cur, hv, _⟩
  · injection hv with h1 h2 h3
    exact ⟨h2, h3, List.eq_nil_of_length_eq_zero (by rw [ho.1, h2]; simp)⟩
  · injection hv with h1 h2 h3; cases h1
theorem Own.cells {p : Option Addr} (ho : Own e sz w p n c xs) : Cells w p xs := by
  intro j u hj
  cases p with
  | none => obtain ⟨_, _, rfl⟩ := ho.none_c; simp at hj
  | some a =>
    rcases ho.2 with ⟨hv, hn⟩ | ⟨g, cap, cur, hv, hb, hg, rest⟩
    · injection hv with h1; cases h1
    · injection hv with h1 h2 h3
      injection h1 with h1
      subst h1
      exact ⟨_, rfl, World.ownsRow.cells ho (g := g) rfl j u hj⟩
/-- A row that was just made. -/
theorem Own.made (cs : Array Value) (k : Nat) (hm : k ≤ maxLen) (hs : cs.size = k * sz) : Own e sz (w.alloc (.cells cs e)) (some ⟨w.heap.size, 0, none⟩) k k cs.toList :=
  World.ownsRow_lit w cs k (Nat.zero_le _) hm hs
/-- A cell of an owned row. -/
theorem Own.blk {p : Addr} (ho : Own e sz w (some p) n c xs) : ∃ g cur, p = at0 g 0 ∧ Blk w g cur e ∧ cur.length = c * sz ∧ cur.take (n * sz) = xs := by
  rcases ho.2 with ⟨hv, _⟩ | ⟨g, cap, cur, hv, _, hg, _, _, hs, ht⟩
  · injection hv with h1; cases h1
  · injection hv with h1 h2 h3
    injection h1 with h1
    subst h1; subst h3
    exact ⟨g, cur.toList, rfl, hg, by simpa using hs, ht⟩
theorem Own.storeOk {p : Addr} (ho : Own e sz w (some p) n c xs) {i : Nat} (hi : i < xs.length) : StoreOk w (p.add i) := by
  obtain ⟨g, cur, rfl, hb, hl, ht⟩ := Own.blk ho
  rw [add_at, Nat.zero_add]
  refine hb.storeOk ?_
  have : i < (cur.take (n * sz)).length := by rw [ht]; exact hi
  simp at this
  omega
theorem Own.set {p : Addr} (ho : Own e sz w (some p) n c xs) {i : Nat} (hi : i < xs.length) (v : Value) : Own e sz (w.setCell (p.add i) v) (some p) n c (xs.set i v) := by
  have hle := Own.le ho
  have hlen := Own.len ho
  rcases ho.2 with ⟨hv, _⟩ | ⟨g, cap, cur, hv, _, hg, _, hm, hs, ht⟩
  · injection hv with h1; cases h1
  · injection hv with h1 h2 h3
    injection h1 with h1
    subst h1; subst h3
    refine ⟨by simpa using hlen, .inr ⟨g, c, cur.setIfInBounds i v, rfl, Nat.zero_le _, ?_, hle, hm, by simpa using hs, ?_⟩⟩
    · have hb : Blk w g cur.toList e := hg
      have := hb.set i v
      unfold Blk at this
      change (w.setCell ((at0 g 0).add i) v).heap[g]? = _
      rw [add_at, Nat.zero_add, this]
      have e1 : (cur.toList.set i v).toArray = cur.setIfInBounds i v := by apply Array.ext'; simp
      rw [e1]
    · simp only [Array.toList_setIfInBounds]
      rw [List.take_set, ht]
/-- What an append to an owned row comes to. -/
theorem app_own {p : Option Addr} (hT : RowT P t e sz bytes) {ty : TypeId} {K : Value → World → Prop} (ho : Own e sz w p n c xs) (hs : Cells w x us) (hl : us.length = m * sz) (h0 : x = none → mc = 0) (h1 : ∀ u ∈ us, u.oneCell' = true)
    (h63 : n + m ≤ maxLen) (hby : (n + m) * bytes ≤ 140737488355328)
    (hK : ∀ p' c' w', Own e sz w' p' (n + m) c' (xs ++ us) → Fr (fbl p) w w' → (∀ k ∈ fbl p', k ∈ fbl p ∨ w.heap.size ≤ k) → K (.slice p' (n + m) c') w') :
    RunR P (Builtin.append_ #[t, t] ty #[.slice p n c, .slice x m mc]) w K := by
  obtain ⟨i, z, hi, hz, hsz, hbyt, hzs⟩ := hT.info
  have ht := hT.under
  have hpos := hT.pos
  subst hsz
  subst hbyt
  have hsmall : n + m ≤ 9223372036854775807 := by simp only [maxLen] at h63; omega
  have hlen : (xs ++ us).length = (n + m) * i.size := by rw [List.length_append, ho.1, hl, Nat.add_mul]
  have grown : ∀ (old : Nat), old < n + m →
      Own e i.size (w.drew.alloc (.cells (xs.toArray ++ us.toArray ++ Builtin.zeroCells z.cells (grownCap w (n + m) old e - (n + m))) e)) (some ⟨w.heap.size, 0, none⟩) (n + m) (grownCap w (n + m) old e) (xs ++ us) := by
    intro old hold
    have hge := grownCap_ge w (n + m) old e
    have hcm : grownCap w (n + m) old e ≤ maxLen := grownCap_le_maxLen w (n + m) old e h63
    refine ⟨hlen, .inr ⟨w.heap.size, _, _, rfl, Nat.zero_le _, heap_alloc_new w.drew _, hge, hcm, ?_, ?_⟩⟩
    · simp only [Array.size_append, List.size_toArray, size_zeroCells, hzs, ho.1, hl, ← Nat.add_mul]
      congr 1
      omega
    · simp only [Array.toList_append, List.append_assoc]
      rw [← List.append_assoc, ← hlen]
      exact List.take_left
  cases x with
  | none =>
    have hus : us = [] := by
      cases us with
      | nil => rfl
      | cons u us => obtain ⟨q, hq, _⟩ := hs 0 u rfl; cases hq
    subst hus
    have hm : m = 0 := by
      rcases Nat.mul_eq_zero.1 (show m * i.size = 0 by simpa using hl.symm) with h | h
      · exact h
      · omega
    subst hm
    have := h0 rfl
    subst this
    have hr := run_append_owned_none (P := P) w 0 t ty e i i.size ht hi _ _ _ ho
    exact ⟨_, _, hr, hK p c w (by simpa using ho) (Fr.refl w) (fun k hk => .inl hk)⟩
  | some a =>
    have hnews : ∀ j u, us[j]? = some u → w.cell? (a.add j) = some u := fun j u hj => by
      obtain ⟨q, hq, hv⟩ := hs j u hj
      injection hq with hq
      subst hq
      exact hv
    rcases ho.2 with ⟨hv, hn⟩ | ⟨g, cap, cur, hv, hbg, hg, hnc, hcm, hcs, htake⟩
    · injection hv with e1 e2 e3
      subst e1
      subst e2
      subst e3
      have hx : xs = [] := List.eq_nil_of_length_eq_zero (by rw [ho.1]; simp)
      subst hx
      by_cases hm : m = 0
      · subst hm
        have hn : us = [] := List.eq_nil_of_length_eq_zero (by simpa using hl)
        subst hn
        refine ⟨.slice none 0 0, w, ?_, hK none 0 w (World.ownsRow_nil w 0 e i.size) (Fr.refl w) (fun k hk => .inl hk)⟩
        simp [Builtin.append_, run_underlying ht, sizeOf, typeInfo, hi, Builtin.lenOf, Builtin.firstCells, loadCells, loadCellsFrom]
      · have hr := run_append_nil (P := P) w t ty e i z ht hi hz a m mc us hl hnews (by omega) (by omega) (by have hb := hby; simp only [Nat.zero_add] at hb; omega)
        have hgr := grown 0 (by omega)
        simp only [Nat.zero_add, List.nil_append, Array.empty_append] at hgr hr hK
        exact ⟨_, _, hr, by
          have := hK (some ⟨w.heap.size, 0, none⟩) _ _ hgr ⟨rfl, rfl, rfl, by simp, fun k hk _ => heap_alloc_old w.drew _ k hk⟩ (fun k hk => .inr (by simp [fbl] at hk; omega))
          simpa using this⟩
    · injection hv with e1 e2 e3
      subst e1
      subst e3
      by_cases hroom : n + m ≤ c
      · have hfit : n * i.size + us.length ≤ cur.size := by rw [hl, hcs, ← Nat.add_mul]; exact Nat.mul_le_mul_right _ hroom
        have hr := run_append_room (P := P) w t ty e i ht hi g n c cur hg a m mc us hl hnews h1 hroom hfit
        refine ⟨_, _, hr, hK _ _ _ ⟨hlen, .inr ⟨g, c, _, rfl, hbg, setRow_heap w g cur _ e _ hg, hroom, hcm, ?_, ?_⟩⟩ ⟨rfl, rfl, rfl, by simp, fun k _ hk => setRow_other w g k _ (fun e => hk (by simp [fbl, e]))⟩ (fun k hk => .inl hk)⟩
        · simp only [List.size_toArray, List.length_append, List.length_take, List.length_drop, Array.length_toList]
          omega
        · rw [htake, ← hlen]
          exact List.take_left
      · have holds : ∀ j u, xs[j]? = some u → w.cell? ((⟨g, 0, none⟩ : Addr).add j) = some u := World.ownsRow.cells ho (g := g) rfl
        have hr := run_append_grow (P := P) w t ty e i z ht hi hz ⟨g, 0, none⟩ n c xs ho.1 holds a m mc us hl hnews (by omega) (by omega) (growslice_fits (by omega) hby)
        exact ⟨_, _, hr, hK _ _ _ (grown c (by omega)) ⟨rfl, rfl, rfl, by simp, fun k hk _ => heap_alloc_old w.drew _ k hk⟩ (fun k hk => .inr (by simp [fbl] at hk; omega))⟩
end
end Go.Proofs.YtdgoalhnkegbmaaGreatX
namespace Go.Proofs.YtdgoalhnkegbmaaGreatX
set_option linter.unusedVariables false
set_option linter.unusedSimpArgs false
set_option linter.unusedSectionVars false
/-- an order that is strict and total -/
structure Lin {α : Type} (lt : α → α → Bool) : Prop where
  irr : ∀ a, lt a a = false
  tr : ∀ a b c, lt a b = true → lt b c = true → lt a c = true
  tot : ∀ a b, lt a b = false → lt b a = false → a = b
def ilt (a b : Int) : Bool := decide (a < b)
theorem ilt_lin : Lin ilt := ⟨fun a => by simp [ilt], fun a b c h k => by simp [ilt] at *; omega, fun a b h k => by simp [ilt] at *; omega⟩
section
variable {α β γ : Type} {lt : α → α → Bool}
def rank (lt : α → α → Bool) (ks : List α) (k : α) : Nat := (ks.takeWhile fun x => lt x k).length
def Srt (lt : α → α → Bool) (ks : List α) : Prop := ks.Pairwise fun a b => lt a b = true
theorem rank_le (ks : List α) (k : α) : rank lt ks k ≤ ks.length := (List.takeWhile_sublist _).length_le
theorem takeWhile_rank (ks : List α) (k : α) : ks.takeWhile (fun x => lt x k) = ks.take (rank lt ks k) := by
  have h := List.takeWhile_append_dropWhile (p := fun x => lt x k) (l := ks)
  have : ks.take (rank lt ks k) = (ks.takeWhile (fun x => lt x k) ++ ks.dropWhile (fun x => lt x k)).take (rank lt ks k) := by rw [h]
  rw [this]
  unfold rank
  rw [List.take_left]
theorem dropWhile_rank (ks : List α) (k : α) : ks.dropWhile (fun x => lt x k) = ks.drop (rank lt ks k) := by
  have h := List.takeWhile_append_dropWhile (p := fun x => lt x k) (l := ks)
  have : ks.drop (rank lt ks k) = (ks.takeWhile (fun x => lt x k) ++ ks.dropWhile (fun x => lt x k)).drop (rank lt ks k) := by rw [h]
  rw [this]
  unfold rank
  rw [List.drop_left]
theorem rank_lt' {ks : List α} {k a : α} (h : a ∈ ks.take (rank lt ks k)) : lt a k = true := by
  rw [← takeWhile_rank] at h
  have : ∀ (l : List α), a ∈ l.takeWhile (fun x => lt x k) → lt a k = true := by
    intro l
    induction l with
    | nil => intro h; cases h
    | cons x l ih =>
      intro h
      rw [List.takeWhile_cons] at h
      split at h
      · rename_i hx
        rcases List.mem_cons.1 h with rfl | h
        · exact hx
        · exact ih h
      · cases h
  exact this ks h
theorem rank_ge' (hL : Lin lt) {ks : List α} {k a : α} (hs : Srt lt ks) (h : a ∈ ks.drop (rank lt ks k)) : lt a k = false := by
  rw [← dropWhile_rank] at h
  have : ∀ (l : List α), Srt lt l → a ∈ l.dropWhile (fun x => lt x k) → lt a k = false := by
    intro l
    induction l with
    | nil => intro _ h; cases h
    | cons x l ih =>
      intro hs h
      rw [List.dropWhile_cons] at h
      have hs' := List.pairwise_cons.1 hs
      split at h
      · exact ih hs'.2 h
      · rename_i hx
        rcases List.mem_cons.1 h with rfl | h
        · simpa using hx
        · cases he : lt a k with
          | false => rfl
          | true => exact absurd (hL.tr _ _ _ (hs'.1 a h) he) hx
  exact this ks hs h
theorem rank_lt {ks : List α} {k a : α} {i : Nat} (h : i < rank lt ks k) (hi : ks[i]? = some a) : lt a k = true :=
  rank_lt' (List.mem_iff_getElem?.2 ⟨i, by rw [List.getElem?_take, if_pos h]; exact hi⟩)
theorem rank_ge (hL : Lin lt) {ks : List α} {k a : α} {i : Nat} (hs : Srt lt ks) (h : rank lt ks k ≤ i) (hi : ks[i]? = some a) : lt a k = false :=
  rank_ge' hL hs (List.mem_iff_getElem?.2 ⟨i - rank lt ks k, by rw [List.getElem?_drop, show rank lt ks k + (i - rank lt ks k) = i by omega]; exact hi⟩)
/-! ### Keys with values -/
abbrev keys (l : List (α × β)) : List α := l.map (·.1)
variable [DecidableEq α]
def at_ (lt : α → α → Bool) (l : List (α × β)) (k : α) : Nat := rank lt (keys l) k
def has (lt : α → α → Bool) (l : List (α × β)) (k : α) : Bool := decide ((keys l)[at_ lt l k]? = some k)
def get (lt : α → α → Bool) (l : List (α × β)) (k : α) : Option β := if has lt l k then (l[at_ lt l k]?).map (·.2) else none
def put (lt : α → α → Bool) (l : List (α × β)) (k : α) (v : β) : List (α × β) := if has lt l k then l.set (at_ lt l k) (k, v) else l.take (at_ lt l k) ++ (k, v) :: l.drop (at_ lt l k)
def drp (lt : α → α → Bool) (l : List (α × β)) (k : α) : List (α × β) := if has lt l k then l.take (at_ lt l k) ++ l.drop (at_ lt l k + 1) else l
def next (lt : α → α → Bool) (l : List (α × β)) (k : α) : Option α := (keys l)[if has lt l k then at_ lt l k + 1 else at_ lt l k]?
def after (lt : α → α → Bool) (l : List (α × β)) (k : α) : Option α := (next lt l k).or (keys l)[0]?
theorem at_le (l : List (α × β)) (k : α) : at_ lt l k ≤ l.length := by
  have := rank_le (lt := lt) (keys l) k
  simpa [at_] using this
theorem at_lt {l : List (α × β)} {k : α} (h : has lt l k = true) : at_ lt l k < l.length := by
  simp only [has, decide_eq_true_eq] at h
  have := (List.getElem?_eq_some_iff.1 h).1
  simpa using this
/-- how a table lies around a key: it is there -/
theorem split_has (hL : Lin lt) {l : List (α × β)} {k : α} (hs : Srt lt (keys l)) (h : has lt l k = true) :
    ∃ A B u, l = A ++ (k, u) :: B ∧ at_ lt l k = A.length ∧ (∀ e ∈ A, lt e.1 k = true) ∧ (∀ e ∈ B, lt k e.1 = true) := by
  have hlt := at_lt h
  simp only [has, decide_eq_true_eq] at h
  refine ⟨l.take (at_ lt l k), l.drop (at_ lt l k + 1), (l[at_ lt l k]).2, ?_, ?_, ?_, ?_⟩
  · have h2 := List.getElem?_eq_getElem hlt
    have h1 : (l[at_ lt l k]).1 = k := by
      rw [List.getElem?_map, h2] at h
      simpa using h
    have : (k, (l[at_ lt l k]).2) = l[at_ lt l k] := Prod.ext h1.symm rfl
    rw [this, List.getElem_cons_drop, List.take_append_drop]
  · simp; omega
  · intro e he
    refine rank_lt' (ks := keys l) ?_
    rw [← List.map_take]
    exact List.mem_map_of_mem he
  · intro e he
    have hp := List.pairwise_iff_getElem.1 hs
    obtain ⟨j, hj⟩ := List.mem_iff_getElem?.1 he
    rw [List.getElem?_drop] at hj
    obtain ⟨hj1, hj2⟩ := List.getElem?_eq_some_iff.1 hj
    obtain ⟨hk1, hk2⟩ := List.getElem?_eq_some_iff.1 h
    have := hp (at_ lt l k) (at_ lt l k + 1 + j) hk1 (by simpa using hj1) (by omega)
    rw [hk2] at this
    simpa [hj2] using this
/-- how a table lies around a key: it isn't -/
theorem split_not (hL : Lin lt) {l : List (α × β)} {k : α} (hs : Srt lt (keys l)) (h : has lt l k = false) :
    ∃ A B, l = A ++ B ∧ at_ lt l k = A.length ∧ (∀ e ∈ A, lt e.1 k = true) ∧ (∀ e ∈ B, lt k e.1 = true) := by
  refine ⟨l.take (at_ lt l k), l.drop (at_ lt l k), (List.take_append_drop _ _).symm, ?_, ?_, ?_⟩
  · have := at_le (lt := lt) l k
    simp; omega
  · intro e he
    refine rank_lt' (ks := keys l) ?_
    rw [← List.map_take]
    exact List.mem_map_of_mem he
  · intro e he
    have h1 : lt e.1 k = false := by
      refine rank_ge' hL hs ?_
      rw [← List.map_drop]
      exact List.mem_map_of_mem he
    cases h2 : lt k e.1 with
    | true => rfl
    | false =>
      have heq := hL.tot _ _ h1 h2
      obtain ⟨j, hj⟩ := List.mem_iff_getElem?.1 he
      rw [List.getElem?_drop] at hj
      obtain ⟨hj1, hj2⟩ := List.getElem?_eq_some_iff.1 hj
      simp only [has, decide_eq_false_iff_not] at h
      exfalso
      cases j with
      | zero =>
        apply h
        rw [List.getElem?_map]
        simp only [Nat.add_zero] at hj
        rw [hj]
        simp [heq]
      | succ j =>
        have hp := List.pairwise_iff_getElem.1 hs
        have hlt : at_ lt l k < l.length := by omega
        have h3 := hp (at_ lt l k) (at_ lt l k + (j + 1)) (by simpa using hlt) (by simpa using hj1) (by omega)
        have h4 : (keys l)[at_ lt l k + (j + 1)]'(by simpa using hj1) = k := by simp [hj2, heq]
        rw [h4] at h3
        have h5 := rank_ge hL hs (k := k) (i := at_ lt l k) (Nat.le_refl _) (List.getElem?_eq_getElem (by simpa using hlt))
        rw [h3] at h5
        cases h5
section
variable (hL : Lin lt) {l : List (α × β)} (hs : Srt lt (keys l))
include hL hs
theorem has_iff {k : α} : has lt l k = true ↔ k ∈ keys l := by
  constructor
  · intro h
    simp only [has, decide_eq_true_eq] at h
    exact List.mem_iff_getElem?.2 ⟨_, h⟩
  · intro h
    cases hh : has lt l k with
    | true => rfl
    | false =>
      obtain ⟨A, B, rfl, _, h1, h2⟩ := split_not hL hs hh
      simp only [keys, List.map_append, List.mem_append, List.mem_map] at h
      rcases h with ⟨e, he, rfl⟩ | ⟨e, he, rfl⟩
      · have := h1 e he; rw [hL.irr] at this; cases this
      · have := h2 e he; rw [hL.irr] at this; cases this
theorem mem_uniq {k : α} {u v : β} (h1 : (k, u) ∈ l) (h2 : (k, v) ∈ l) : u = v := by
  have hk : has lt l k = true := (has_iff hL hs).2 (List.mem_map_of_mem h1)
  obtain ⟨A, B, x, rfl, _, a1, a2⟩ := split_has hL hs hk
  have key : ∀ y, (k, y) ∈ A ++ (k, x) :: B → y = x := by
    intro y hy
    rcases List.mem_append.1 hy with hy | hy
    · have := a1 _ hy; rw [hL.irr] at this; cases this
    · rcases List.mem_cons.1 hy with hy | hy
      · injection hy
      · have := a2 _ hy; rw [hL.irr] at this; cases this
  rw [key u h1, key v h2]
theorem get_iff {k : α} {v : β} : get lt l k = some v ↔ (k, v) ∈ l := by
  unfold get
  constructor
  · intro h
    split at h
    · rename_i hh
      obtain ⟨A, B, u, rfl, ha, _, _⟩ := split_has hL hs hh
      rw [ha] at h
      simp at h
      subst h
      simp
    · cases h
  · intro h
    have hk : has lt l k = true := (has_iff hL hs).2 (List.mem_map_of_mem h)
    rw [if_pos hk]
    obtain ⟨A, B, u, e, ha, _, _⟩ := split_has hL hs hk
    have : v = u := mem_uniq hL hs h (by rw [e]; simp)
    subst this
    rw [ha, e]
    simp
theorem get_none {k : α} : get lt l k = none ↔ k ∉ keys l := by
  constructor
  · intro h hk
    obtain ⟨e, he, rfl⟩ := List.mem_map.1 hk
    have := (get_iff hL hs (v := e.2)).2 he
    rw [this] at h; cases h
  · intro h
    cases hg : get lt l k with
    | none => rfl
    | some v => exact absurd (List.mem_map_of_mem ((get_iff hL hs).1 hg)) h
theorem put_srt {k : α} {v : β} : Srt lt (keys (put lt l k v)) := by
  unfold put
  cases hh : has lt l k with
  | true =>
    obtain ⟨A, B, u, e, ha, a1, a2⟩ := split_has hL hs hh
    rw [if_pos rfl, ha, e]
    rw [e] at hs
    simpa [keys] using hs
  | false =>
    obtain ⟨A, B, e, ha, a1, a2⟩ := split_not hL hs hh
    rw [if_neg (by simp), ha, e]
    rw [e] at hs
    rw [List.take_left, List.drop_left]
    unfold Srt keys at *
    rw [List.map_append, List.pairwise_append] at hs
    rw [List.map_append, List.map_cons, List.pairwise_append, List.pairwise_cons]
    refine ⟨hs.1, ⟨?_, hs.2.1⟩, ?_⟩
    · intro x hx
      obtain ⟨y, hy, rfl⟩ := List.mem_map.1 hx
      exact a2 y hy
    · intro x hx y hy
      obtain ⟨x', hx', rfl⟩ := List.mem_map.1 hx
      rcases List.mem_cons.1 hy with rfl | hy
      · exact a1 x' hx'
      · exact hs.2.2 _ hx _ hy
theorem mem_put {k : α} {v : β} {e : α × β} : e ∈ put lt l k v ↔ e = (k, v) ∨ (e.1 ≠ k ∧ e ∈ l) := by
  unfold put
  cases hh : has lt l k with
  | true =>
    obtain ⟨A, B, u, rfl, ha, a1, a2⟩ := split_has hL hs hh
    rw [if_pos rfl, ha]
    have : (A ++ (k, u) :: B).set A.length (k, v) = A ++ (k, v) :: B := by simp
    rw [this]
    simp only [List.mem_append, List.mem_cons]
    constructor
    · rintro (h | rfl | h)
      · exact .inr ⟨fun he => absurd (a1 e h) (by rw [he, hL.irr]; simp), .inl h⟩
      · exact .inl rfl
      · exact .inr ⟨fun he => absurd (a2 e h) (by rw [he, hL.irr]; simp), .inr (.inr h)⟩
    · rintro (rfl | ⟨h, h' | rfl | h'⟩)
      · exact .inr (.inl rfl)
      · exact .inl h'
      · exact absurd rfl h
      · exact .inr (.inr h')
  | false =>
    obtain ⟨A, B, rfl, ha, a1, a2⟩ := split_not hL hs hh
    rw [if_neg (by simp), ha, List.take_left, List.drop_left]
    simp only [List.mem_append, List.mem_cons]
    constructor
    · rintro (h | rfl | h)
      · exact .inr ⟨fun he => absurd (a1 e h) (by rw [he, hL.irr]; simp), .inl h⟩
      · exact .inl rfl
      · exact .inr ⟨fun he => absurd (a2 e h) (by rw [he, hL.irr]; simp), .inr h⟩
    · rintro (rfl | ⟨_, h | h⟩)
      · exact .inr (.inl rfl)
      · exact .inl h
      · exact .inr (.inr h)
theorem drp_srt {k : α} : Srt lt (keys (drp lt l k)) := by
  unfold drp
  split
  · have : (l.take (at_ lt l k) ++ l.drop (at_ lt l k + 1)).Sublist l := by
      have h1 : (l.drop (at_ lt l k + 1)).Sublist (l.drop (at_ lt l k)) := by
        rw [← List.drop_drop]; exact List.drop_sublist _ _
      have := (List.Sublist.refl (l.take (at_ lt l k))).append h1
      rwa [List.take_append_drop] at this
    exact List.Pairwise.sublist (this.map _) hs
  · exact hs
theorem mem_drp {k : α} {e : α × β} : e ∈ drp lt l k ↔ e.1 ≠ k ∧ e ∈ l := by
  unfold drp
  cases hh : has lt l k with
  | true =>
    obtain ⟨A, B, u, rfl, ha, a1, a2⟩ := split_has hL hs hh
    rw [if_pos rfl, ha]
    have : (A ++ (k, u) :: B).take A.length ++ (A ++ (k, u) :: B).drop (A.length + 1) = A ++ B := by simp
    rw [this]
    simp only [List.mem_append, List.mem_cons]
    constructor
    · rintro (h | h)
      · exact ⟨fun he => absurd (a1 e h) (by rw [he, hL.irr]; simp), .inl h⟩
      · exact ⟨fun he => absurd (a2 e h) (by rw [he, hL.irr]; simp), .inr (.inr h)⟩
    · rintro ⟨h, h' | rfl | h'⟩
      · exact .inl h'
      · exact absurd rfl h
      · exact .inr h'
  | false =>
    rw [if_neg (by simp)]
    refine ⟨fun h => ⟨fun he => ?_, h⟩, fun h => h.2⟩
    have := (has_iff hL hs (k := k)).2 (by rw [← he]; exact List.mem_map_of_mem h)
    rw [this] at hh; cases hh
end
theorem put_length {l : List (α × β)} {k : α} {v : β} : (put lt l k v).length = if has lt l k then l.length else l.length + 1 := by
  have := at_le (lt := lt) l k
  unfold put
  split <;> simp
  omega
theorem drp_length {l : List (α × β)} {k : α} : (drp lt l k).length = if has lt l k then l.length - 1 else l.length := by
  unfold drp
  split
  · rename_i h
    have := at_lt h
    simp
    omega
  · rfl
end
section
variable {β : Type} {f : β → List Value} {Z : Nat} (hf : ∀ v, (f v).length = Z)
include hf
theorem flat_length (l : List β) : (l.flatMap f).length = l.length * Z := by
  induction l with
  | nil => simp
  | cons x l ih => rw [List.flatMap_cons, List.length_append, ih, hf, List.length_cons, Nat.succ_mul]; omega
theorem flat_take (l : List β) (i : Nat) : (l.flatMap f).take (i * Z) = (l.take i).flatMap f := by
  induction l generalizing i with
  | nil => simp
  | cons x l ih =>
    cases i with
    | zero => simp
    | succ i =>
      rw [List.flatMap_cons, List.take_succ_cons, List.flatMap_cons, ← ih, Nat.succ_mul, Nat.add_comm (i * Z) Z, ← hf x, List.take_length_add_append]
theorem flat_drop (l : List β) (i : Nat) : (l.flatMap f).drop (i * Z) = (l.drop i).flatMap f := by
  induction l generalizing i with
  | nil => simp
  | cons x l ih =>
    cases i with
    | zero => simp
    | succ i =>
      rw [List.flatMap_cons, List.drop_succ_cons, ← ih, Nat.succ_mul, Nat.add_comm (i * Z) Z, ← hf x, List.drop_length_add_append]
theorem flat_get (l : List β) {i j : Nat} {v : β} {u : Value} (hi : l[i]? = some v) (hj : (f v)[j]? = some u) : (l.flatMap f)[i * Z + j]? = some u := by
  have h1 := flat_drop hf l i
  obtain ⟨hl, hv⟩ := List.getElem?_eq_some_iff.1 hi
  rw [← List.getElem?_drop, h1, ← List.getElem_cons_drop hl, hv, List.flatMap_cons]
  rw [List.getElem?_append_left (List.getElem?_eq_some_iff.1 hj).1]
  exact hj
theorem flat_ins (l : List β) (i : Nat) (v : β) : (l.take i ++ v :: l.drop i).flatMap f = (l.flatMap f).take (i * Z) ++ f v ++ (l.flatMap f).drop (i * Z) := by
  rw [flat_take hf, flat_drop hf]; simp
theorem flat_del (l : List β) (i : Nat) : (l.take i ++ l.drop (i + 1)).flatMap f = (l.flatMap f).take (i * Z) ++ (l.flatMap f).drop ((i + 1) * Z) := by
  rw [flat_take hf, flat_drop hf]; simp
end
theorem ld_str {w : World} {p : Addr} {x : ByteArray} {K : ByteArray → Prop} (h : w.cell? p = some (.string x)) (hk : K x) : ldS w p K := ⟨x, h, hk⟩
end Go.Proofs.YtdgoalhnkegbmaaGreatX
namespace Go.Proofs.YtdgoalhnkegbmaaGreatX
open Go.RowKit
set_option linter.unusedVariables false
set_option linter.unusedSimpArgs false
section
variable {w : World} {Q : Value → World → Prop}
theorem nan_73 {a : Int} (h : Q (.bool false) w) : CallR Tryz.prog 103 #[(Value.int .u64) a] w Q := by
  refine X103.sound _ _ _ ?_
  unfold X103.f
  simpa [strEq] using h
theorem less_73 {a b : Int} (h : Q (.bool (ilt a b)) w) : CallR Tryz.prog 95 #[(Value.int .u64) a, (Value.int .u64) b] w Q := by
  refine X95.sound _ _ _ _ ?_
  exact nan_73 ⟨_, rfl, h⟩
theorem isnan_73 {a : Int} (h : Q (.bool false) w) : CallR Tryz.prog 96 #[(Value.int .u64) a] w Q := by
  refine X96.sound _ _ _ ?_
  unfold X96.f
  simpa [strEq] using h
theorem cell_73 {p : Option Addr} {ks : List Int} (h : Cells w p (ks.map (Value.int .u64))) {i : Nat} {x : Int} (hi : ks[i]? = some x) : ∃ a, p = some a ∧ w.cell? (a.add (i * 1)) = some ((Value.int .u64) x) := by
  rw [Nat.mul_one]
  exact h i _ (by simp [hi])
theorem bs_l0_73 {p : Option Addr} {n c : Nat} {ks : List Int} {k : Int} (hc : Cells w p (ks.map (Value.int .u64))) (hl : ks.length = n) (hs : Srt ilt ks) (hn : n ≤ 140737488355328) :
    ∀ (m : Nat) (i j : Nat), j - i < m → i ≤ rank ilt ks k → rank ilt ks k ≤ j → j ≤ n → Q (.tuple #[.int .i64 (rank ilt ks k : Int), .bool (decide (ks[rank ilt ks k]? = some k))]) w → X73.l0 Q m p n c k (n : Int) (i : Int) (j : Int) w
  | 0, i, j, hm, _, _, _, _ => by omega
  | m + 1, i, j, hm, h1, h2, h3, hQ => by
    rw [X73.l0]
    refine bc_dec (fun hlt => ?_) (fun hge => ?_)
    · have e1 : IntKind.wrap .i64 (iShr .u64 (IntKind.wrap .u64 (IntKind.wrap .i64 ((i : Int) + (j : Int)))) 1) = (((i + j) / 2 : Nat) : Int) := by
        have : iShr .u64 (((i + j : Nat) : Int)) 1 = (((i + j) / 2 : Nat) : Int) := by
          unfold iShr
          rw [Int.fdiv_eq_ediv_of_nonneg _ (by decide)]
          rfl
        rw [i64w ((i : Int) + (j : Int)) (by omega) (by omega), u64w ((i : Int) + (j : Int)) (by omega) (by omega), show (i : Int) + (j : Int) = ((i + j : Nat) : Int) by omega, this, i64w _ (by omega) (by omega)]
      rw [e1]
      have hh : (i + j) / 2 < ks.length := by omega
      have hi : ks[(i + j) / 2]? = some (ks[(i + j) / 2]) := List.getElem?_eq_getElem hh
      generalize ks[(i + j) / 2] = x at hi
      obtain ⟨a, ha, hx⟩ := cell_73 hc hi
      refine ⟨by decide, ⟨by omega, by omega⟩, opt_some ha (ld_int (by rw [Int.toNat_natCast]; exact hx) (less_73 ⟨_, rfl, ?_⟩))⟩
      refine bc_bool (fun hxk => ?_) (fun hxk => ?_)
      · rw [show IntKind.wrap .i64 ((((i + j) / 2 : Nat) : Int) + 1) = (((i + j) / 2 + 1 : Nat) : Int) by rw [i64w _ (by omega) (by omega)]; omega]
        refine bs_l0_73 hc hl hs hn m _ j (by omega) ?_ h2 h3 hQ
        by_cases hr : rank ilt ks k ≤ (i + j) / 2
        · have := rank_ge ilt_lin hs hr hi; rw [this] at hxk; cases hxk
        · omega
      · refine bs_l0_73 hc hl hs hn m i _ (by omega) h1 ?_ (by omega) hQ
        by_cases hr : (i + j) / 2 < rank ilt ks k
        · have := rank_lt hr hi; rw [this] at hxk; cases hxk
        · omega
    · have hir : i = rank ilt ks k := by omega
      rw [hir]
      refine bc_dec (fun hlt => ?_) (fun hge2 => ?_)
      · have hh : rank ilt ks k < ks.length := by omega
        have hi : ks[rank ilt ks k]? = some (ks[rank ilt ks k]) := List.getElem?_eq_getElem hh
        rw [hi] at hQ
        generalize ks[rank ilt ks k] = x at hi hQ
        obtain ⟨a, ha, hx⟩ := cell_73 hc hi
        refine ⟨⟨by omega, by omega⟩, opt_some ha (ld_int (by rw [Int.toNat_natCast]; exact hx) (bc_eq (fun he => ?_) (fun hne => ?_)))⟩
        · subst he
          simpa using hQ
        · refine ⟨⟨by omega, by omega⟩, opt_some ha (ld_int (by rw [Int.toNat_natCast]; exact hx) (isnan_73 ⟨_, rfl, ?_⟩))⟩
          have : decide (some x = some k) = false := by simp [hne]
          rw [this] at hQ
          exact hQ
      · have hi : ks[rank ilt ks k]? = none := List.getElem?_eq_none (by omega)
        rw [hi] at hQ
        simpa using hQ
theorem bs_73 {p : Option Addr} {n c : Nat} {ks : List Int} {k : Int} (hc : Cells w p (ks.map (Value.int .u64))) (hl : ks.length = n) (hs : Srt ilt ks) (hn : n ≤ 140737488355328)
    (hQ : Q (.tuple #[.int .i64 (rank ilt ks k : Int), .bool (decide (ks[rank ilt ks k]? = some k))]) w) : CallR Tryz.prog 73 #[.slice p n c, (Value.int .u64) k] w Q := by
  refine X73.sound _ _ _ _ _ _ ⟨n + 1, ?_⟩
  have := rank_le (lt := ilt) ks k
  exact bs_l0_73 hc hl hs hn (n + 1) 0 n (by omega) (by omega) (by omega) (Nat.le_refl _) hQ
end
end Go.Proofs.YtdgoalhnkegbmaaGreatX
namespace Go.Proofs.YtdgoalhnkegbmaaGreatX
open Go.RowKit
set_option linter.unusedVariables false
set_option linter.unusedSimpArgs false
section
variable {P : Program} {w : World} {g o m mc dl dc sz bytes : Nat} {cur cs : List Value} {e el dT sT ty : TypeId} {K : Value → World → Prop}
/-- A copy into a block. -/
theorem copy_blk {a : Addr} (hT : RowT P dT el sz bytes) (hb : Blk w g cur e) (hc : Cells w (some a) cs) (hn : cs.length = Nat.min m dl * sz) (hfit : o + cs.length ≤ cur.length) (h1 : ∀ v ∈ cs, v.oneCell' = true)
    (hK : ∀ w', Blk w' g (cur.take o ++ cs ++ cur.drop (o + cs.length)) e → Fr [g] w w' → K (.int .i64 ((Nat.min m dl : Nat) : Int)) w') : RunR P (Builtin.copy_ #[dT, sT] ty #[.slice (some (at0 g o)) dl dc, .slice (some a) m mc]) w K := by
  obtain ⟨i, z, hi, hz, hsz, hby, hzs⟩ := hT.info
  have hu := hT.under
  have hsrc : ∀ j v, cs[j]? = some v → w.cell? (a.add j) = some v := fun j v hj => by
    obtain ⟨q, hq, hv⟩ := hc j v hj
    injection hq with hq
    subst hq
    exact hv
  have hf := run_firstCells_some (P := P) w i.size (Nat.min m dl) a m mc cs (by rw [hsz]; exact hn) hsrc
  have hst := run_storeCells_at P g o e cs 0 cur.toArray w hb (by simpa using hfit) h1
  have hr : (Builtin.copy_ #[dT, sT] ty #[.slice (some (at0 g o)) dl dc, .slice (some a) m mc]).run P w = .ok (goInt (Nat.min m dl)) (w.setRow g (cur.take o ++ cs ++ cur.drop (o + cs.length)).toArray) := by
    simp only [Nat.add_zero] at hst
    have hst' : (storeCells (at0 g o) cs).run P w = _ := hst
    simp [Builtin.copy_, run_underlying hu, Builtin.lenOf, sizeOf, typeInfo, hi, hf, hst']
  refine ⟨_, _, hr, hK _ ?_ ⟨rfl, rfl, rfl, by simp, fun k _ hk => setRow_other w g k _ (fun e => hk (by simp [e]))⟩⟩
  have := setRow_heap w g cur.toArray (cur.take o ++ cs ++ cur.drop (o + cs.length)).toArray e (0, 0) hb
  exact this
/-- The zeros of a type, n times. -/
def zs (z : Value) (n : Nat) : List Value := (Builtin.zeroCells z.cells n).toList
theorem zs_length (z : Value) (n : Nat) : (zs z n).length = n * z.cells.size := by unfold zs; rw [Array.length_toList, size_zeroCells]
/-- A row of a block is cleared. -/
theorem clear_blk {n : Nat} {z : Value} (hT : RowT P dT el sz bytes) (hz : (P.info? el).bind (·.zero) = some z) (hz1 : ∀ v ∈ zs z n, v.oneCell' = true) (hb : Blk w g cur e) (h0 : 0 < n) (hfit : o + n * sz ≤ cur.length)
    (hK : ∀ w', Blk w' g (cur.take o ++ zs z n ++ cur.drop (o + n * sz)) e → Fr [g] w w' → K (.tuple #[]) w') : RunR P (Builtin.clear_ #[dT] ty #[.slice (some (at0 g o)) n dc]) w K := by
  obtain ⟨i, z', hi, hz', hsz, hby, hzs⟩ := hT.info
  have hu := hT.under
  have : z' = z := by rw [hi] at hz; simp [hz'] at hz; exact hz
  subst this
  have hlen : (zs z' n).length = n * sz := by rw [zs_length, hzs]
  have hst := run_storeCells_at P g o e (zs z' n) 0 cur.toArray w hb (by simpa [hlen] using hfit) hz1
  simp only [Nat.add_zero, hlen] at hst
  have hst' : (storeCells (at0 g o) (Builtin.zeroCells z'.cells n).toList).run P w = _ := hst
  obtain ⟨k, rfl⟩ : ∃ k, n = k + 1 := ⟨n - 1, by omega⟩
  have hr : (Builtin.clear_ #[dT] ty #[.slice (some (at0 g o)) (k + 1) dc]).run P w = .ok (.tuple #[]) (w.setRow g (cur.take o ++ zs z' (k + 1) ++ cur.drop (o + (k + 1) * sz)).toArray) := by
    simp [Builtin.clear_, run_underlying hu, zeroValue, typeInfo, hi, hz', hst']
  refine ⟨_, _, hr, hK _ ?_ ⟨rfl, rfl, rfl, by simp, fun j _ hj => setRow_other w g j _ (fun e => hj (by simp [e]))⟩⟩
  exact setRow_heap w g cur.toArray (cur.take o ++ zs z' (k + 1) ++ cur.drop (o + (k + 1) * sz)).toArray e (0, 0) hb
theorem cut_at {s c l g : Nat} (h : c ≠ l) : cutAt s c l (some (at0 g 0)) = some (at0 g (l * s)) := by
  unfold cutAt
  rw [if_neg h]
  simp [add_at]
theorem toNat0 : Int.toNat ((0 : Nat) : Int) = 0 := rfl
theorem cutAt_zero' (s c : Nat) (a : Option Addr) : cutAt s c 0 a = a := by
  unfold cutAt
  split
  · rfl
  · cases a <;> simp [Addr.add]
theorem own_blk {n c : Nat} {xs : List Value} (hb : Blk w g cur e) (hl : cur.length = c * sz) (hn : n ≤ c) (hm : c ≤ maxLen) (ht : cur.take (n * sz) = xs) : Own e sz w (some (at0 g 0)) n c xs :=
  ⟨by rw [← ht, List.length_take, hl]; exact Nat.min_eq_left (Nat.mul_le_mul_right _ hn), .inr ⟨g, c, cur.toArray, rfl, Nat.zero_le _, hb, hn, hm, by simpa using hl, by simpa using ht⟩⟩
theorem own_max {p : Addr} {n c : Nat} {xs : List Value} (ho : Own e sz w (some p) n c xs) : c ≤ maxLen := by
  rcases ho.2 with ⟨hv, _⟩ | ⟨g, cap, cur, hv, _, hg, _, hm, hs, ht⟩
  · injection hv with h1; cases h1
  · injection hv with h1 h2 h3; omega
/-- A slice with three indices, at a slice. -/
theorem slice3 {a : Option Addr} {n c l h m : Nat} (hT : RowT P dT el sz bytes) (h1 : l ≤ h) (h2 : h ≤ m) (h3 : m ≤ c)
    (hK : ∀ p, K (.slice p (h - l) (m - l)) w) : RunR P (Instr.sliceAt dT (.slice a n c) (some (.int .i64 (l : Int))) (some (.int .i64 (h : Int))) (some (.int .i64 (m : Int)))) w K := by
  obtain ⟨i, z, hi, _, hs, _⟩ := hT.info
  have x1 : ∀ (x y : Nat) (code : BoundsCode), x ≤ y → ∀ w : World, (Instr.sliceBound (.int .i64 (x : Int)) y code).run P w = .ok x w := fun x y code h w => by
    have : (0 : Int) ≤ (x : Int) ∧ (x : Int) ≤ (y : Int) := ⟨by omega, by omega⟩
    simp [Instr.sliceBound, asIntOf, this]
  refine ⟨_, w, ?_, hK (if m = l then a else a.map (·.add (l * sz)))⟩
  simp [Instr.sliceAt, Instr.slice, Instr.sliceBounds, run_underlying hT.under, x1 _ _ _ h1, x1 _ _ _ h2, x1 _ _ _ h3, sizeOf, typeInfo, hi, hs]
/-- Two blocks do not overlap. -/
theorem overlaps_apart {a b : Nat} {ca cb : List Value} {o1 o2 la ka lb kb : Nat} {t tR : TypeId} (hT : RowT P t e sz bytes) (ha : Blk w a ca e) (hb : Blk w b cb e) (hne : a ≠ b) (hcb : 0 < cb.length) :
    (Extern.SlicesOverlaps.overlaps #[t, t] #[tR] #[.slice (some (at0 a o1)) la ka, .slice (some (at0 b o2)) lb kb]).run P w = .ok (.bool false) w := by
  have hsa : w.shape? a = some (e, ca.length) := by unfold Blk at ha; simp [World.shape?, ha]
  have hsb : w.shape? b = some (e, cb.length) := by unfold Blk at hb; simp [World.shape?, hb]
  have hfz : ∀ o, w.frozen? (at0 a o) = false := fun o => by unfold Blk at ha; simp [World.frozen?, at0, ha]
  obtain ⟨i, z, hi, _, hs, _⟩ := hT.info
  exact Lib.run_overlaps_apart (P := P) w t tR e hT.under sz (fun w => by simp [Go.sizeOf, typeInfo, hi, hs]) (at0 a o1) (at0 b o2) la ka lb kb hne e e ca.length cb.length hsa hsb (by omega) (hfz o1) (hfz ca.length)
/-- A row that grows by a few zeros: what stands behind, of the new block. -/
theorem grow_blk {a : Addr} {n c k : Nat} {xs : List Value} {z : Value} (hT : RowT P dT el sz bytes) (hz : (P.info? el).bind (·.zero) = some z) (htn : P.underlying sT = some (.int .i64)) (hx : xs.length = n * sz) (hc : ∀ j u, xs[j]? = some u → w.cell? (a.add j) = some u)
    (h0 : 0 < k) (hg : c < n + k) (hm : n + k ≤ 1048576) (hby : bytes ≤ 4096)
    (hK : ∀ C w', n + k ≤ C → C ≤ maxLen → Blk w' w.heap.size (xs ++ zs z k ++ zs z (C - (n + k))) el → Fr [] w w' → K (.slice (some (at0 w.heap.size 0)) (n + k) C) w') :
    RunR P (Builtin.append_ #[dT, sT] dT #[.slice (some a) n c, .int .i64 (k : Int)]) w K := by
  obtain ⟨i, z', hi, hz', hsz, hbi, hzs⟩ := hT.info
  have : z' = z := by rw [hi] at hz; simp [hz'] at hz; exact hz
  subst this
  have hpos := hT.pos
  have hb1 : (n + k) * i.bytes ≤ 1048576 * 4096 := Nat.mul_le_mul (by omega) (by omega)
  have hb2 : k * i.bytes ≤ 1048576 * 4096 := Nat.mul_le_mul (by omega) (by omega)
  have hr := Lib.run_append_grow_zeros (P := P) (ty := dT) w dT sT el i z' .i64 .i64 hT.under htn hi hz' (some a) n c xs (by rw [hsz]; exact run_firstCells_some (P := P) w.drew sz n a n c xs hx (fun j u hj => hc j u hj)) k h0 (by omega) hg (by omega) (by omega) (growslice_fits hg (by omega))
  have hge := grownCap_ge w (n + k) c el
  have hcm : grownCap w (n + k) c el ≤ maxLen := grownCap_le_maxLen w _ c el (by simp only [maxLen]; omega)
  refine ⟨_, _, hr, hK _ _ hge hcm ?_ (Fr.drew.tr (Fr.alloc _ _))⟩
  have := Blk.made w.drew (xs.toArray ++ Builtin.zeroCells z'.cells k ++ Builtin.zeroCells z'.cells (grownCap w (n + k) c el - (n + k))) el
  simpa [zs] using this
end
end Go.Proofs.YtdgoalhnkegbmaaGreatX
namespace Go.Proofs.YtdgoalhnkegbmaaGreatX
open Go.RowKit
set_option linter.unusedVariables false
set_option linter.unusedSimpArgs false
theorem rowT51 : RowT Tryz.prog 51 22 1 8 := ⟨by kernel_rfl, ⟨Tryz.t22, Value.int .u64 0, by kernel_rfl, by kernel_rfl, by kernel_rfl, by kernel_rfl, by kernel_rfl⟩, by omega⟩
theorem zeroT51 : (Tryz.prog.info? 22).bind (·.zero) = some (Value.int .u64 0) := by kernel_rfl
theorem insGrow93 {L us cs X : List Value} {a : Nat} (h : a ≤ L.length) : ((L.take a ++ us ++ L.drop (a + us.length)).take (a + us.length) ++ cs ++ X).take (a + us.length + cs.length) = L.take a ++ us ++ cs := by
  have h1 : (L.take a ++ us).length = a + us.length := by simp; omega
  rw [show (L.take a ++ us ++ L.drop (a + us.length)).take (a + us.length) = L.take a ++ us by rw [← h1, List.take_left]]
  rw [show a + us.length + cs.length = (L.take a ++ us ++ cs).length by rw [List.length_append, h1], List.take_left]
theorem insRoom93 {cur us cs : List Value} {a : Nat} (h : a + us.length ≤ cur.length) :
    ((cur.take (a + us.length) ++ cs ++ cur.drop (a + us.length + cs.length)).take a ++ us ++ (cur.take (a + us.length) ++ cs ++ cur.drop (a + us.length + cs.length)).drop (a + us.length)).take (a + us.length + cs.length) = cur.take a ++ us ++ cs := by
  have h1 : (cur.take (a + us.length)).length = a + us.length := by simp; omega
  have x1 : (cur.take (a + us.length) ++ cs ++ cur.drop (a + us.length + cs.length)).take a = cur.take a := by
    rw [List.append_assoc, List.take_append_of_le_length (by omega), List.take_take, Nat.min_eq_left (by omega)]
  have x2 : (cur.take (a + us.length) ++ cs ++ cur.drop (a + us.length + cs.length)).drop (a + us.length) = cs ++ cur.drop (a + us.length + cs.length) := by
    generalize cur.take (a + us.length) = A at h1
    rw [← h1, List.append_assoc, List.drop_left]
  rw [x1, x2]
  have h2 : (cur.take a ++ us ++ cs).length = a + us.length + cs.length := by simp; omega
  rw [← h2, ← List.append_assoc, List.take_left]
theorem ins_93 {w : World} {p : Option Addr} {n c i gv : Nat} {xs us : List Value} {Q : Value → World → Prop} (ho : Own 22 1 w p n c xs) (hi : i ≤ n) (hv : Blk w gv us 22) (hu : us.length = 1) (h1 : ∀ v ∈ xs, v.oneCell' = true) (h1u : ∀ v ∈ us, v.oneCell' = true) (hg : gv ∉ fbl p) (hn : n + 1 ≤ 1048576)
    (hK : ∀ p' c' w', Own 22 1 w' p' (n + 1) c' (xs.take (i * 1) ++ us ++ xs.drop (i * 1)) → Fr (fbl p) w w' → (∀ z ∈ fbl p', z ∈ fbl p ∨ w.heap.size ≤ z) → Q (.slice p' (n + 1) c') w') :
    CallR Tryz.prog 93 #[.slice p n c, .int .i64 (i : Int), .slice (some (at0 gv 0)) 1 1] w Q := by
  refine X93.sound _ _ _ _ _ _ _ _ _ ?_
  have hle := ho.le
  have hlen : xs.length = n * 1 := ho.len
  have e1 : IntKind.wrap .i64 ((n : Int) + ((1 : Nat) : Int)) = ((n + 1 : Nat) : Int) := by rw [i64w _ (by omega) (by omega)]; omega
  have e2 : IntKind.wrap .i64 ((i : Int) + ((1 : Nat) : Int)) = ((i + 1 : Nat) : Int) := by rw [i64w _ (by omega) (by omega)]; omega
  have hvs : ∀ {w' : World}, Blk w' gv us 22 → Cells w' (some (at0 gv 0)) us := fun hv j u hj => ⟨at0 gv 0, rfl, by rw [add_at, Nat.zero_add]; exact hv.cell hj⟩
  have ei : (i + 1) * 1 = i * 1 + us.length := by omega
  have en : (n + 1) * 1 = i * 1 + us.length + (n - i) * 1 := by omega
  unfold X93.f
  simp only [e1, e2, toNat0, cutAt_zero', Nat.sub_zero, Int.toNat_natCast]
  refine ⟨⟨by omega, by omega, by omega⟩, bc_eq (fun h => absurd h (by decide)) (fun _ => bc_eq (fun hin => ?_) (fun hin => bc_dec (fun hgt => ?_) (fun hroom => ?_)))⟩
  · have hin : i = n := by omega
    subst hin
    refine app_own rowT51 ho (hvs hv) (by omega) (fun h => by cases h) h1u (by simp only [maxLen]; omega) (by omega) ?_
    intro p' c' w' o f e
    refine ⟨_, _, _, rfl, hK p' c' w' ?_ f e⟩
    rw [List.take_of_length_le (by omega), List.drop_eq_nil_of_le (by omega), List.append_nil]
    exact o
  · cases p with
    | none => have := ho.none_c; omega
    | some p =>
      obtain ⟨g, cur, rfl, hb, hcl, htk⟩ := Own.blk ho
      have e3 : IntKind.wrap .i64 (((n + 1 : Nat) : Int) - (i : Int)) = ((n + 1 - i : Nat) : Int) := by rw [i64w _ (by omega) (by omega)]; omega
      rw [e3]
      refine ⟨by omega, grow_blk rowT51 zeroT51 (by kernel_rfl) (xs := cur.take (i * 1)) (by rw [List.length_take]; omega) (fun j u hj => ?_) (by omega) (by omega) (by omega) (by omega) ?_⟩
      · rw [add_at, Nat.zero_add]
        rw [List.getElem?_take] at hj
        split at hj
        · exact hb.cell hj
        · cases hj
      intro C w1 hge hcm b1 f1
      rw [show i + (n + 1 - i) = n + 1 by omega] at *
      refine ⟨_, _, _, rfl, ?_⟩
      generalize hL : cur.take (i * 1) ++ zs (Value.int .u64 0) (n + 1 - i) ++ zs (Value.int .u64 0) (C - (n + 1)) = L at b1
      have hzc : (Value.int .u64 0).cells.size = 1 := by rfl
      have hLl : L.length = C * 1 := by rw [← hL, List.length_append, List.length_append, zs_length, zs_length, hzc, List.length_take]; omega
      have hLi : L.take (i * 1) = cur.take (i * 1) := by rw [← hL, List.append_assoc, List.take_append_of_le_length (by rw [List.length_take]; omega), List.take_take, Nat.min_self]
      have hv1 := hv.keep' f1
      have hb1 := hb.keep' f1
      have hgv := hv.lt
      have hgg := hb.lt
      simp only [cut_at (s := 1) (g := w.heap.size) (show C ≠ i by omega)]
      refine ⟨⟨by omega, by omega, by omega⟩, copy_blk rowT51 b1 (cs := us) (hvs hv1) (by rw [show Nat.min 1 (n + 1 - i) = 1 from Nat.min_eq_left (by omega)]; omega) (by omega) h1u ?_⟩
      intro w2 b2 f2
      unfold drewK
      have hb2 := (hb1.keep f2 (by simp; omega)).keep' (Fr.drew (w := w2))
      have b2' := b2.keep' (Fr.drew (w := w2))
      have hcs : (cur.drop (i * 1)).take ((n - i) * 1) = xs.drop (i * 1) := by rw [← htk, List.drop_take]; congr 1; omega
      have hcl2 : (xs.drop (i * 1)).length = (n - i) * 1 := by rw [List.length_drop]; omega
      by_cases hci : C = i + 1
      · omega
      simp only [cut_at (s := 1) (g := w.heap.size) (show C ≠ i + 1 from hci), cut_at (s := 1) (g := g) (show c ≠ i by omega)]
      refine ⟨_, rfl, ⟨by omega, by omega, by omega⟩, ⟨by omega, by omega, by omega⟩, copy_blk rowT51 b2' (cs := xs.drop (i * 1)) (fun j v hj => ⟨_, rfl, ?_⟩) (by rw [hcl2, show Nat.min (n - i) (n + 1 - (i + 1)) = n - i from Nat.min_eq_left (by omega)]) (by rw [hcl2]; simp only [List.length_append, List.length_take, List.length_drop]; omega) (fun u hu => h1 u (List.mem_of_mem_drop hu)) ?_⟩
      · rw [add_at]
        refine hb2.cell ?_
        rw [← hcs, List.getElem?_take] at hj
        split at hj
        · rwa [List.getElem?_drop] at hj
        · cases hj
      intro w3 b3 f3
      have hext : ∀ x ∈ [w.heap.size], x ∈ fbl (some (at0 g 0)) ∨ w.heap.size ≤ x := fun x hx => .inr (by simp at hx; omega)
      refine ⟨_, rfl, hK (some (at0 w.heap.size 0)) C w3 (own_blk b3 (by rw [hcl2]; simp only [List.length_append, List.length_take, List.length_drop]; omega) (by omega) hcm ?_) (((f1.any.trans f2 hext).tr Fr.drew).trans f3 hext) (fun z hz => .inr (by simp [fbl, at0] at hz; omega))⟩
      have a1 : xs.take (i * 1) = L.take (i * 1) := by rw [hLi, ← htk, List.take_take, Nat.min_eq_left (by omega)]
      rw [en, ei, a1, ← hcl2]
      exact insGrow93 (by omega)
  · cases p with
    | none => have := ho.none_c; omega
    | some p =>
      have hmx := own_max ho
      obtain ⟨g, cur, rfl, hb, hcl, htk⟩ := Own.blk ho
      have hne : gv ≠ g := fun h => hg (by simp [fbl, at0, h])
      simp only [cut_at (s := 1) (g := g) (show c ≠ i + 1 by omega), cut_at (s := 1) (g := g) (show c ≠ i by omega)]
      refine ⟨by omega, ⟨by omega, by omega, by omega⟩, ?_⟩
      refine ⟨_, _, by rw [run_callFunc_extern (fn := Tryz.f99) Tryz.func99 (by kernel_rfl) (by kernel_rfl) (by kernel_rfl) (e := Extern.SlicesOverlaps.overlaps #[51, 51] #[4]) (by kernel_rfl), overlaps_apart rowT51 hv hb hne (by omega)]; rfl, _, rfl, ?_⟩
      refine bc_bool (fun _ => ?_) (fun h => absurd h (by decide))
      unfold drewK
      have hb1 := hb.keep' (Fr.drew (w := w))
      have hv1 := hv.keep' (Fr.drew (w := w))
      have hcs : (cur.drop (i * 1)).take ((n - i) * 1) = xs.drop (i * 1) := by rw [← htk, List.drop_take]; congr 1; omega
      have hcl2 : (xs.drop (i * 1)).length = (n - i) * 1 := by rw [List.length_drop]; omega
      refine ⟨⟨by omega, by omega, by omega⟩, ⟨by omega, by omega, by omega⟩, ?_⟩
      refine copy_blk rowT51 hb1 (cs := xs.drop (i * 1)) (fun j v hj => ⟨_, rfl, ?_⟩) (by rw [hcl2, show Nat.min (n + 1 - i) (n + 1 - (i + 1)) = n - i from Nat.min_eq_right (by omega) |>.trans (by omega)]) (by rw [hcl2]; omega) (fun u hu => h1 u (List.mem_of_mem_drop hu)) ?_
      · rw [add_at]
        refine hb1.cell ?_
        rw [← hcs, List.getElem?_take] at hj
        split at hj
        · rwa [List.getElem?_drop] at hj
        · cases hj
      intro w2 b2 f2
      have hv2 := hv1.keep f2 (by simp [hne])
      refine ⟨_, rfl, ⟨by omega, by omega, by omega⟩, ?_⟩
      refine copy_blk rowT51 b2 (cs := us) (hvs hv2) (by rw [show Nat.min 1 (n + 1 - i) = 1 from Nat.min_eq_left (by omega)]; omega) (by rw [hcl2]; simp only [List.length_append, List.length_take, List.length_drop]; omega) h1u ?_
      intro w3 b3 f3
      refine ⟨_, rfl, hK _ _ w3 (own_blk b3 (by rw [hcl2]; simp only [List.length_append, List.length_take, List.length_drop]; omega) (by omega) hmx ?_) ((Fr.drew.tr f2).tr f3) (fun z hz => .inl hz)⟩
      have a1 : xs.take (i * 1) = cur.take (i * 1) := by rw [← htk, List.take_take, Nat.min_eq_left (by omega)]
      rw [en, ei, a1, ← hcl2]
      exact insRoom93 (by omega)
end Go.Proofs.YtdgoalhnkegbmaaGreatX
namespace Go.Proofs.YtdgoalhnkegbmaaGreatX
open Go.RowKit
set_option linter.unusedVariables false
set_option linter.unusedSimpArgs false
theorem rowT55 : RowT Tryz.prog 55 50 15 152 := ⟨by kernel_rfl, ⟨Tryz.t50, Value.agg #[.int .i64 0, .int .u64 0, .int .i64 0, .int .i64 0, .int .i64 0, .int .u64 0, .slice none 0 0, .int .u64 0, .int .i64 0, .int .i64 0, .slice none 0 0, .int .u64 0, .int .u64 0, .int .u64 0, .int .u64 0], by kernel_rfl, by kernel_rfl, by kernel_rfl, by kernel_rfl, by kernel_rfl⟩, by omega⟩
theorem zeroT55 : (Tryz.prog.info? 50).bind (·.zero) = some (Value.agg #[.int .i64 0, .int .u64 0, .int .i64 0, .int .i64 0, .int .i64 0, .int .u64 0, .slice none 0 0, .int .u64 0, .int .i64 0, .int .i64 0, .slice none 0 0, .int .u64 0, .int .u64 0, .int .u64 0, .int .u64 0]) := by kernel_rfl
theorem insGrow94 {L us cs X : List Value} {a : Nat} (h : a ≤ L.length) : ((L.take a ++ us ++ L.drop (a + us.length)).take (a + us.length) ++ cs ++ X).take (a + us.length + cs.length) = L.take a ++ us ++ cs := by
  have h1 : (L.take a ++ us).length = a + us.length := by simp; omega
  rw [show (L.take a ++ us ++ L.drop (a + us.length)).take (a + us.length) = L.take a ++ us by rw [← h1, List.take_left]]
  rw [show a + us.length + cs.length = (L.take a ++ us ++ cs).length by rw [List.length_append, h1], List.take_left]
theorem insRoom94 {cur us cs : List Value} {a : Nat} (h : a + us.length ≤ cur.length) :
    ((cur.take (a + us.length) ++ cs ++ cur.drop (a + us.length + cs.length)).take a ++ us ++ (cur.take (a + us.length) ++ cs ++ cur.drop (a + us.length + cs.length)).drop (a + us.length)).take (a + us.length + cs.length) = cur.take a ++ us ++ cs := by
  have h1 : (cur.take (a + us.length)).length = a + us.length := by simp; omega
  have x1 : (cur.take (a + us.length) ++ cs ++ cur.drop (a + us.length + cs.length)).take a = cur.take a := by
    rw [List.append_assoc, List.take_append_of_le_length (by omega), List.take_take, Nat.min_eq_left (by omega)]
  have x2 : (cur.take (a + us.length) ++ cs ++ cur.drop (a + us.length + cs.length)).drop (a + us.length) = cs ++ cur.drop (a + us.length + cs.length) := by
    generalize cur.take (a + us.length) = A at h1
    rw [← h1, List.append_assoc, List.drop_left]
  rw [x1, x2]
  have h2 : (cur.take a ++ us ++ cs).length = a + us.length + cs.length := by simp; omega
  rw [← h2, ← List.append_assoc, List.take_left]
theorem ins_94 {w : World} {p : Option Addr} {n c i gv : Nat} {xs us : List Value} {Q : Value → World → Prop} (ho : Own 50 15 w p n c xs) (hi : i ≤ n) (hv : Blk w gv us 50) (hu : us.length = 15) (h1 : ∀ v ∈ xs, v.oneCell' = true) (h1u : ∀ v ∈ us, v.oneCell' = true) (hg : gv ∉ fbl p) (hn : n + 1 ≤ 1048576)
    (hK : ∀ p' c' w', Own 50 15 w' p' (n + 1) c' (xs.take (i * 15) ++ us ++ xs.drop (i * 15)) → Fr (fbl p) w w' → (∀ z ∈ fbl p', z ∈ fbl p ∨ w.heap.size ≤ z) → Q (.slice p' (n + 1) c') w') :
    CallR Tryz.prog 94 #[.slice p n c, .int .i64 (i : Int), .slice (some (at0 gv 0)) 1 1] w Q := by
  refine X94.sound _ _ _ _ _ _ _ _ _ ?_
  have hle := ho.le
  have hlen : xs.length = n * 15 := ho.len
  have e1 : IntKind.wrap .i64 ((n : Int) + ((1 : Nat) : Int)) = ((n + 1 : Nat) : Int) := by rw [i64w _ (by omega) (by omega)]; omega
  have e2 : IntKind.wrap .i64 ((i : Int) + ((1 : Nat) : Int)) = ((i + 1 : Nat) : Int) := by rw [i64w _ (by omega) (by omega)]; omega
  have hvs : ∀ {w' : World}, Blk w' gv us 50 → Cells w' (some (at0 gv 0)) us := fun hv j u hj => ⟨at0 gv 0, rfl, by rw [add_at, Nat.zero_add]; exact hv.cell hj⟩
  have ei : (i + 1) * 15 = i * 15 + us.length := by omega
  have en : (n + 1) * 15 = i * 15 + us.length + (n - i) * 15 := by omega
  unfold X94.f
  simp only [e1, e2, toNat0, cutAt_zero', Nat.sub_zero, Int.toNat_natCast]
  refine ⟨⟨by omega, by omega, by omega⟩, bc_eq (fun h => absurd h (by decide)) (fun _ => bc_eq (fun hin => ?_) (fun hin => bc_dec (fun hgt => ?_) (fun hroom => ?_)))⟩
  · have hin : i = n := by omega
    subst hin
    refine app_own rowT55 ho (hvs hv) (by omega) (fun h => by cases h) h1u (by simp only [maxLen]; omega) (by omega) ?_
    intro p' c' w' o f e
    refine ⟨_, _, _, rfl, hK p' c' w' ?_ f e⟩
    rw [List.take_of_length_le (by omega), List.drop_eq_nil_of_le (by omega), List.append_nil]
    exact o
  · cases p with
    | none => have := ho.none_c; omega
    | some p =>
      obtain ⟨g, cur, rfl, hb, hcl, htk⟩ := Own.blk ho
      have e3 : IntKind.wrap .i64 (((n + 1 : Nat) : Int) - (i : Int)) = ((n + 1 - i : Nat) : Int) := by rw [i64w _ (by omega) (by omega)]; omega
      rw [e3]
      refine ⟨by omega, grow_blk rowT55 zeroT55 (by kernel_rfl) (xs := cur.take (i * 15)) (by rw [List.length_take]; omega) (fun j u hj => ?_) (by omega) (by omega) (by omega) (by omega) ?_⟩
      · rw [add_at, Nat.zero_add]
        rw [List.getElem?_take] at hj
        split at hj
        · exact hb.cell hj
        · cases hj
      intro C w1 hge hcm b1 f1
      rw [show i + (n + 1 - i) = n + 1 by omega] at *
      refine ⟨_, _, _, rfl, ?_⟩
      generalize hL : cur.take (i * 15) ++ zs (Value.agg #[.int .i64 0, .int .u64 0, .int .i64 0, .int .i64 0, .int .i64 0, .int .u64 0, .slice none 0 0, .int .u64 0, .int .i64 0, .int .i64 0, .slice none 0 0, .int .u64 0, .int .u64 0, .int .u64 0, .int .u64 0]) (n + 1 - i) ++ zs (Value.agg #[.int .i64 0, .int .u64 0, .int .i64 0, .int .i64 0, .int .i64 0, .int .u64 0, .slice none 0 0, .int .u64 0, .int .i64 0, .int .i64 0, .slice none 0 0, .int .u64 0, .int .u64 0, .int .u64 0, .int .u64 0]) (C - (n + 1)) = L at b1
      have hzc : (Value.agg #[.int .i64 0, .int .u64 0, .int .i64 0, .int .i64 0, .int .i64 0, .int .u64 0, .slice none 0 0, .int .u64 0, .int .i64 0, .int .i64 0, .slice none 0 0, .int .u64 0, .int .u64 0, .int .u64 0, .int .u64 0]).cells.size = 15 := by rfl
      have hLl : L.length = C * 15 := by rw [← hL, List.length_append, List.length_append, zs_length, zs_length, hzc, List.length_take]; omega
      have hLi : L.take (i * 15) = cur.take (i * 15) := by rw [← hL, List.append_assoc, List.take_append_of_le_length (by rw [List.length_take]; omega), List.take_take, Nat.min_self]
      have hv1 := hv.keep' f1
      have hb1 := hb.keep' f1
      have hgv := hv.lt
      have hgg := hb.lt
      simp only [cut_at (s := 15) (g := w.heap.size) (show C ≠ i by omega)]
      refine ⟨⟨by omega, by omega, by omega⟩, copy_blk rowT55 b1 (cs := us) (hvs hv1) (by rw [show Nat.min 1 (n + 1 - i) = 1 from Nat.min_eq_left (by omega)]; omega) (by omega) h1u ?_⟩
      intro w2 b2 f2
      unfold drewK
      have hb2 := (hb1.keep f2 (by simp; omega)).keep' (Fr.drew (w := w2))
      have b2' := b2.keep' (Fr.drew (w := w2))
      have hcs : (cur.drop (i * 15)).take ((n - i) * 15) = xs.drop (i * 15) := by rw [← htk, List.drop_take]; congr 1; omega
      have hcl2 : (xs.drop (i * 15)).length = (n - i) * 15 := by rw [List.length_drop]; omega
      by_cases hci : C = i + 1
      · omega
      simp only [cut_at (s := 15) (g := w.heap.size) (show C ≠ i + 1 from hci), cut_at (s := 15) (g := g) (show c ≠ i by omega)]
      refine ⟨_, rfl, ⟨by omega, by omega, by omega⟩, ⟨by omega, by omega, by omega⟩, copy_blk rowT55 b2' (cs := xs.drop (i * 15)) (fun j v hj => ⟨_, rfl, ?_⟩) (by rw [hcl2, show Nat.min (n - i) (n + 1 - (i + 1)) = n - i from Nat.min_eq_left (by omega)]) (by rw [hcl2]; simp only [List.length_append, List.length_take, List.length_drop]; omega) (fun u hu => h1 u (List.mem_of_mem_drop hu)) ?_⟩
      · rw [add_at]
        refine hb2.cell ?_
        rw [← hcs, List.getElem?_take] at hj
        split at hj
        · rwa [List.getElem?_drop] at hj
        · cases hj
      intro w3 b3 f3
      have hext : ∀ x ∈ [w.heap.size], x ∈ fbl (some (at0 g 0)) ∨ w.heap.size ≤ x := fun x hx => .inr (by simp at hx; omega)
      refine ⟨_, rfl, hK (some (at0 w.heap.size 0)) C w3 (own_blk b3 (by rw [hcl2]; simp only [List.length_append, List.length_take, List.length_drop]; omega) (by omega) hcm ?_) (((f1.any.trans f2 hext).tr Fr.drew).trans f3 hext) (fun z hz => .inr (by simp [fbl, at0] at hz; omega))⟩
      have a1 : xs.take (i * 15) = L.take (i * 15) := by rw [hLi, ← htk, List.take_take, Nat.min_eq_left (by omega)]
      rw [en, ei, a1, ← hcl2]
      exact insGrow94 (by omega)
  · cases p with
    | none => have := ho.none_c; omega
    | some p =>
      have hmx := own_max ho
      obtain ⟨g, cur, rfl, hb, hcl, htk⟩ := Own.blk ho
      have hne : gv ≠ g := fun h => hg (by simp [fbl, at0, h])
      simp only [cut_at (s := 15) (g := g) (show c ≠ i + 1 by omega), cut_at (s := 15) (g := g) (show c ≠ i by omega)]
      refine ⟨by omega, ⟨by omega, by omega, by omega⟩, ?_⟩
      refine ⟨_, _, by rw [run_callFunc_extern (fn := Tryz.f101) Tryz.func101 (by kernel_rfl) (by kernel_rfl) (by kernel_rfl) (e := Extern.SlicesOverlaps.overlaps #[55, 55] #[4]) (by kernel_rfl), overlaps_apart rowT55 hv hb hne (by omega)]; rfl, _, rfl, ?_⟩
      refine bc_bool (fun _ => ?_) (fun h => absurd h (by decide))
      unfold drewK
      have hb1 := hb.keep' (Fr.drew (w := w))
      have hv1 := hv.keep' (Fr.drew (w := w))
      have hcs : (cur.drop (i * 15)).take ((n - i) * 15) = xs.drop (i * 15) := by rw [← htk, List.drop_take]; congr 1; omega
      have hcl2 : (xs.drop (i * 15)).length = (n - i) * 15 := by rw [List.length_drop]; omega
      refine ⟨⟨by omega, by omega, by omega⟩, ⟨by omega, by omega, by omega⟩, ?_⟩
      refine copy_blk rowT55 hb1 (cs := xs.drop (i * 15)) (fun j v hj => ⟨_, rfl, ?_⟩) (by rw [hcl2, show Nat.min (n + 1 - i) (n + 1 - (i + 1)) = n - i from Nat.min_eq_right (by omega) |>.trans (by omega)]) (by rw [hcl2]; omega) (fun u hu => h1 u (List.mem_of_mem_drop hu)) ?_
      · rw [add_at]
        refine hb1.cell ?_
        rw [← hcs, List.getElem?_take] at hj
        split at hj
        · rwa [List.getElem?_drop] at hj
        · cases hj
      intro w2 b2 f2
      have hv2 := hv1.keep f2 (by simp [hne])
      refine ⟨_, rfl, ⟨by omega, by omega, by omega⟩, ?_⟩
      refine copy_blk rowT55 b2 (cs := us) (hvs hv2) (by rw [show Nat.min 1 (n + 1 - i) = 1 from Nat.min_eq_left (by omega)]; omega) (by rw [hcl2]; simp only [List.length_append, List.length_take, List.length_drop]; omega) h1u ?_
      intro w3 b3 f3
      refine ⟨_, rfl, hK _ _ w3 (own_blk b3 (by rw [hcl2]; simp only [List.length_append, List.length_take, List.length_drop]; omega) (by omega) hmx ?_) ((Fr.drew.tr f2).tr f3) (fun z hz => .inl hz)⟩
      have a1 : xs.take (i * 15) = cur.take (i * 15) := by rw [← htk, List.take_take, Nat.min_eq_left (by omega)]
      rw [en, ei, a1, ← hcl2]
      exact insRoom94 (by omega)
end Go.Proofs.YtdgoalhnkegbmaaGreatX
namespace Go.Proofs.YtdgoalhnkegbmaaGreatX
open Go.RowKit
set_option linter.unusedVariables false
theorem putAll_blk {e : TypeId} {g : Nat} : ∀ (vs old pre post : List Value) (w : World), Blk w g (pre ++ old ++ post) e → old.length = vs.length → Blk (putAll w (at0 g 0) pre.length vs) g (pre ++ vs ++ post) e ∧ Fr [g] w (putAll w (at0 g 0) pre.length vs)
  | [], old, pre, post, w, h, hl => by
    have : old = [] := List.eq_nil_of_length_eq_zero (by simpa using hl)
    subst this
    exact ⟨h, Fr.refl w⟩
  | v :: vs, [], pre, post, w, h, hl => by simp at hl
  | v :: vs, u :: old, pre, post, w, h, hl => by
    simp only [putAll, add_at, Nat.zero_add]
    have h1 := h.set pre.length v
    rw [List.append_assoc, List.set_append_right _ _ (Nat.le_refl _), Nat.sub_self, List.cons_append, List.set_cons_zero] at h1
    have e1 : pre ++ v :: (old ++ post) = (pre ++ [v]) ++ old ++ post := by simp
    rw [e1] at h1
    obtain ⟨k1, k2⟩ := putAll_blk vs old (pre ++ [v]) post _ h1 (by simpa using hl)
    rw [List.length_append] at k1 k2
    refine ⟨by simpa using k1, ?_⟩
    exact (Fr.setCell (by simp [at0]) v).tr k2
theorem putAll_off {w : World} {g o : Nat} : ∀ (vs : List Value) (i : Nat) (w : World), putAll w (at0 g o) i vs = putAll w (at0 g 0) (o + i) vs
  | [], i, w => rfl
  | v :: vs, i, w => by
    simp only [putAll, add_at, Nat.zero_add]
    rw [putAll_off (w := w) vs (i + 1), Nat.add_assoc]
/-- cells of a block, from o on, are stored anew -/
theorem stAll_blk {e : TypeId} {g o : Nat} {cs vs : List Value} {w : World} {K : World → Prop} (h : Blk w g cs e) (hl : o + vs.length ≤ cs.length)
    (hK : ∀ w', Blk w' g (cs.take o ++ vs ++ cs.drop (o + vs.length)) e → Fr [g] w w' → K w') : stAll w (at0 g o) vs K := by
  have e1 : cs = cs.take o ++ (cs.drop o).take vs.length ++ cs.drop (o + vs.length) := by
    rw [List.append_assoc, ← List.drop_drop, List.take_append_drop, List.take_append_drop]
  have ho : (cs.take o).length = o := by simp; omega
  refine ⟨fun i hi => ?_, ?_⟩
  · rw [add_at]; exact h.storeOk (by omega)
  · rw [putAll_off (w := w)]
    have h2 := h
    rw [e1] at h2
    obtain ⟨k1, k2⟩ := putAll_blk vs ((cs.drop o).take vs.length) (cs.take o) (cs.drop (o + vs.length)) w h2 (by simp; omega)
    rw [ho] at k1 k2
    exact hK _ k1 k2
end Go.Proofs.YtdgoalhnkegbmaaGreatX
namespace Go.Proofs.YtdgoalhnkegbmaaGreatX
open Go.RowKit
set_option linter.unusedVariables false
set_option linter.unusedSimpArgs false
/-- cells lie from an address on -/
def At (w : World) (p : Addr) (cs : List Value) : Prop := ∀ j u, cs[j]? = some u → w.cell? (p.add j) = some u
section
variable {w w' a b c : World} {g o i : Nat} {cs vs : List Value} {e : TypeId} {S T : List Nat}
theorem Blk.cat (h : Blk w g cs e) : At w (at0 g 0) cs := fun j u hj => by rw [add_at, Nat.zero_add]; exact h.cell hj
theorem Blk.off (h : Blk w g cs e) (o : Nat) (hv : (cs.drop o).take vs.length = vs) : At w (at0 g o) vs := fun j u hj => by
  rw [add_at]
  refine h.cell ?_
  rw [← hv, List.getElem?_take] at hj
  split at hj
  · rwa [List.getElem?_drop] at hj
  · cases hj
theorem At.keep {p : Addr} (h : At w p cs) (f : Fr S w w') (hn : p.block ∉ S) : At w' p cs := fun j u hj => f.cell (h j u hj) (by rw [add_block]; exact hn)
theorem At.keep' {p : Addr} (h : At w p cs) (f : Fr [] w w') : At w' p cs := h.keep f (by simp)
theorem Fr.loc (h : Fr S a b) (k : Fr [g] b c) (hg : a.heap.size ≤ g) : Fr S a c := h.trans k (fun x hx => .inr (by simp at hx; omega))
theorem Fr.inl (h : Fr S a b) (k : Fr [g] b c) (hg : g ∈ S) : Fr S a c := h.trans k (fun x hx => .inl (by simp at hx; subst hx; exact hg))
theorem Fr.sub (h : Fr S a b) (k : Fr T b c) (hT : ∀ x ∈ T, x ∈ S) : Fr S a c := h.trans k (fun x hx => .inl (hT x hx))
theorem Fr.news (h : Fr S a b) (k : Fr T b c) (hT : ∀ x ∈ T, a.heap.size ≤ x) : Fr S a c := h.trans k (fun x hx => .inr (hT x hx))
/-- a new block -/
theorem newB {cs : Array Value} {K : Addr → World → Prop} (h : ∀ g w', Blk w' g cs.toList e → Fr [] w w' → w.heap.size ≤ g → K (at0 g 0) w') : newK w cs e K :=
  h w.heap.size _ (Blk.made w cs e) (Fr.alloc _ _) (Nat.le_refl _)
theorem stB {v : Value} {K : World → Prop} (h : Blk w g cs e) (hi : i < cs.length) (hK : ∀ w', Blk w' g (cs.set i v) e → Fr [g] w w' → K w') : stK w ((at0 g 0).add i) v K := by
  rw [add_at, Nat.zero_add]
  exact ⟨h.storeOk hi, hK _ (h.set i v) (Fr.setCell (by simp [at0]) v)⟩
theorem stAllB {K : World → Prop} (h : Blk w g cs e) (hl : vs.length = cs.length) (hK : ∀ w', Blk w' g vs e → Fr [g] w w' → K w') : stAll w (at0 g 0) vs K :=
  stAll_blk (o := 0) h (by omega) fun w' b f => hK w' (by rw [hl] at b; simpa using b) f
theorem drawn {K : World → Prop} (h : ∀ w', Fr [] w w' → w'.heap.size = w.heap.size → K w') : drewK w K := h _ Fr.drew rfl
end
section
variable {β : Type} {f : β → List Value} {Z : Nat} (hf : ∀ v, (f v).length = Z)
include hf
theorem flat_set (l : List β) {i : Nat} (hi : i < l.length) (v : β) : (l.set i v).flatMap f = (l.flatMap f).take (i * Z) ++ f v ++ (l.flatMap f).drop ((i + 1) * Z) := by
  rw [flat_take hf, flat_drop hf, List.set_eq_take_append_cons_drop, if_pos hi]
  simp
theorem own_at {e : TypeId} {w : World} {p : Option Addr} {n c : Nat} {l : List β} (h : Own e Z w p n c (l.flatMap f)) (hn : l.length = n) {i : Nat} {v : β} (hi : l[i]? = some v) : ∃ a, p = some a ∧ At w (a.add (i * Z)) (f v) := by
  have hl := (List.getElem?_eq_some_iff.1 hi).1
  cases p with
  | none => have := h.none_c.1; omega
  | some a =>
    refine ⟨a, rfl, fun j u hj => ?_⟩
    obtain ⟨q, hq, hc⟩ := h.cells _ _ (flat_get hf l hi hj)
    injection hq with hq
    subst hq
    rw [add_add]
    exact hc
omit hf in
theorem put_mid {cur fv : List Value} {a N z : Nat} (h1 : fv.length = z) (h2 : a + z ≤ N) (h3 : N ≤ cur.length) :
    (cur.take a ++ fv ++ cur.drop (a + z)).take N = (cur.take N).take a ++ fv ++ (cur.take N).drop (a + z) := by
  have hA : (cur.take a ++ fv).length = a + z := by rw [List.length_append, List.length_take]; omega
  rw [List.take_append, List.take_of_length_le (by omega), hA, List.take_take, Nat.min_eq_left (by omega), List.drop_take]
theorem own_put {e : TypeId} {w : World} {p : Option Addr} {n c : Nat} {l : List β} {K : World → Prop} (h : Own e Z w p n c (l.flatMap f)) {i : Nat} (hi : i < l.length) (hn : l.length = n) (v : β)
    (hK : ∀ w', Own e Z w' p n c ((l.set i v).flatMap f) → Fr (fbl p) w w' → K w') : optP p fun a => stAll w (a.add (i * Z)) (f v) K := by
  cases p with
  | none => have := h.none_c.1; omega
  | some a =>
    have hm := own_max h
    have hle := h.le
    obtain ⟨g, cur, rfl, hb, hcl, htk⟩ := Own.blk h
    refine opt_some rfl ?_
    rw [add_at, Nat.zero_add]
    have hiz : i * Z + Z ≤ n * Z := by rw [← Nat.succ_mul]; exact Nat.mul_le_mul_right _ (by omega)
    have hnz : n * Z ≤ c * Z := Nat.mul_le_mul_right _ hle
    have hfv := hf v
    refine stAll_blk hb (by omega) fun w' b fr => hK w' (own_blk b ?_ hle hm ?_) (fr.mono fun x hx => by simpa [fbl, at0] using hx)
    · simp only [List.length_append, List.length_take, List.length_drop]; omega
    · rw [flat_set hf l hi, hfv]
      have e1 : (i + 1) * Z = i * Z + Z := Nat.succ_mul i Z
      rw [e1, ← htk]
      exact put_mid hfv (by omega) (by omega)
end
end Go.Proofs.YtdgoalhnkegbmaaGreatX
