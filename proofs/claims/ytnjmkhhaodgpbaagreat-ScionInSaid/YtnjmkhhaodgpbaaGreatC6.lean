/- Part 6. -/
import Derived.Test.YtnjmkhhaodgpbaaGreatC5
set_option linter.unusedVariables false
set_option linter.unusedSimpArgs false
namespace Go.Proofs.YtnjmkhhaodgpbaaGreatX
open Go.RowKit
set_option maxRecDepth 100000
def X20.j0 (Q : QT) (t2 t3 : Addr) (w : World) : Prop := ldI .u64 w (t2.add 13) fun x1 => ldI .u64 w (t3.add 13) fun x2 => bcase (x1 == x2) (ldI .i64 w (t2.add 14) fun x3 => ldI .i64 w (t3.add 14) fun x4 => bcase (x3 == x4) (ldI .u64 w (t2.add 15) fun x5 => ldI .u64 w (t3.add 15) fun x6 => bcase (x5 == x6) (ldI .i64 w (t2.add 16) fun x7 => ldI .i64 w (t3.add 16) fun x8 => bcase (x7 == x8) (ldI .u64 w (t2.add 17) fun x9 => ldI .u64 w (t3.add 17) fun x10 => bcase (x9 == x10) (ldSl w (t2.add 10) fun x11p x11n x11c => ldSl w (t3.add 10) fun x12p x12n x12c => CallR Tryz.prog 56 #[.slice x11p x11n x11c, .slice x12p x12n x12c] w fun v13 w14 => ∃ (y15 : Bool), v13 = .bool y15 ∧ bcase y15 (ldSl w14 (t2.add 18) fun x16p x16n x16c => ldSl w14 (t3.add 18) fun x17p x17n x17c => CallR Tryz.prog 45 #[.slice x16p x16n x16c, .slice x17p x17n x17c] w14 fun v18 w19 => ∃ (y20 : Bool), v18 = .bool y20 ∧ Q (.bool y20) w19) (Q (.bool false) w14)) (Q (.bool false) w)) (Q (.bool false) w)) (Q (.bool false) w)) (Q (.bool false) w)) (Q (.bool false) w)
def X20.f (a0_0 a0_1 a0_2 a0_3 a0_4 a0_5 a0_6 a0_7 a0_8 a0_9 : Int) (a0_10p : Option Addr) (a0_10n a0_10c : Nat) (a0_11 a0_12 a0_13 a0_14 a0_15 a0_16 a0_17 : Int) (a0_18p : Option Addr) (a0_18n a0_18c : Nat) (a1_0 a1_1 a1_2 a1_3 a1_4 a1_5 a1_6 a1_7 a1_8 a1_9 : Int) (a1_10p : Option Addr) (a1_10n a1_10c : Nat) (a1_11 a1_12 a1_13 a1_14 a1_15 a1_16 a1_17 : Int) (a1_18p : Option Addr) (a1_18n a1_18c : Nat) (w : World) (Q : QT) : Prop := newK w #[.int .i64 a0_0, .int .i64 a0_1, .int .i64 a0_2, .int .u64 a0_3, .int .u64 a0_4, .int .i64 a0_5, .int .i64 a0_6, .int .i64 a0_7, .int .i64 a0_8, .int .u64 a0_9, .slice a0_10p a0_10n a0_10c, .int .u64 a0_11, .int .i64 a0_12, .int .u64 a0_13, .int .i64 a0_14, .int .u64 a0_15, .int .i64 a0_16, .int .u64 a0_17, .slice a0_18p a0_18n a0_18c] 41 fun g1 w2 => newK w2 #[.int .i64 a1_0, .int .i64 a1_1, .int .i64 a1_2, .int .u64 a1_3, .int .u64 a1_4, .int .i64 a1_5, .int .i64 a1_6, .int .i64 a1_7, .int .i64 a1_8, .int .u64 a1_9, .slice a1_10p a1_10n a1_10c, .int .u64 a1_11, .int .i64 a1_12, .int .u64 a1_13, .int .i64 a1_14, .int .u64 a1_15, .int .i64 a1_16, .int .u64 a1_17, .slice a1_18p a1_18n a1_18c] 41 fun g3 w4 => ldI .i64 w4 (g1.add 0) fun x5 => ldI .i64 w4 (g3.add 0) fun x6 => bcase (x5 != x6) (Q (.bool false) w4) (ldI .i64 w4 (g1.add 1) fun x7 => ldI .i64 w4 (g3.add 1) fun x8 => bcase (x7 != x8) (Q (.bool false) w4) (ldI .i64 w4 (g1.add 2) fun x9 => ldI .i64 w4 (g3.add 2) fun x10 => bcase (x9 != x10) (Q (.bool false) w4) (ldI .u64 w4 (g1.add 3) fun x11 => ldI .u64 w4 (g3.add 3) fun x12 => bcase (x11 != x12) (Q (.bool false) w4) (ldI .u64 w4 (g1.add 4) fun x13 => ldI .u64 w4 (g3.add 4) fun x14 => bcase (x13 != x14) (Q (.bool false) w4) (ldI .i64 w4 (g1.add 5) fun x15 => ldI .i64 w4 (g3.add 5) fun x16 => bcase (x15 != x16) (Q (.bool false) w4) (ldI .i64 w4 (g1.add 6) fun x17 => ldI .i64 w4 (g3.add 6) fun x18 => bcase (x17 != x18) (Q (.bool false) w4) (ldI .i64 w4 (g1.add 7) fun x19 => ldI .i64 w4 (g3.add 7) fun x20 => bcase (x19 != x20) (Q (.bool false) w4) (ldI .i64 w4 ((g1.add 8).add 0) fun x21 => ldI .u64 w4 ((g1.add 8).add 1) fun x22 => ldI .i64 w4 ((g3.add 8).add 0) fun x23 => ldI .u64 w4 ((g3.add 8).add 1) fun x24 => isStruct Tryz.prog 37 ∧ bcase (!((x21 == x23) && ((x22 == x24) && true))) (Q (.bool false) w4) (ldI .u64 w4 (g1.add 11) fun x25 => ldI .u64 w4 (g3.add 11) fun x26 => bcase (x25 != x26) (Q (.bool false) w4) (ldI .i64 w4 (g1.add 12) fun x27 => ldI .i64 w4 (g3.add 12) fun x28 => bcase (x27 != x28) (Q (.bool false) w4) (X20.j0 Q g1 g3 w4)))))))))))
def X20.S (Q : QT) : Segs
  | 0, φ, ρ, w => qA (ρ 2) fun t2 => qA (ρ 3) fun t3 => X20.j0 Q t2 t3 w
  | _, _, _, _ => False
noncomputable def X20.an : Ann := (.seq .leaf (.seq (.seq .leaf (.cond (.seq .leaf .leaf) .leaf)) (.join 0 (.seq .leaf .leaf))))
noncomputable def X20.c : Code := Tryz.f20.body.getD .skip
theorem X20.v (Q : QT) : V Tryz.prog (X20.S Q) X20.an X20.c (retC Tryz.prog Tryz.f20 Q) := ⟨trivial, ⟨⟨trivial, ⟨⟨trivial, trivial⟩, trivial⟩⟩, ⟨(by
    intro φ ρ w h
    simp only [X20.S] at h
    obtain ⟨t2, e2, h⟩ := qA_elim h
    obtain ⟨t3, e3, h⟩ := qA_elim h
    exact ⟨((Env.nil.put (some 2) (.pointer (some t2))).put (some 3) (.pointer (some t3))), Env.le_put e3 (Env.le_put e2 (Env.le_nil _)), Eq.mp (by kernel_rfl) h⟩), ⟨trivial, trivial⟩⟩⟩⟩
theorem X20.sound (a0_0 a0_1 a0_2 a0_3 a0_4 a0_5 a0_6 a0_7 a0_8 a0_9 : Int) (a0_10p : Option Addr) (a0_10n a0_10c : Nat) (a0_11 a0_12 a0_13 a0_14 a0_15 a0_16 a0_17 : Int) (a0_18p : Option Addr) (a0_18n a0_18c : Nat) (a1_0 a1_1 a1_2 a1_3 a1_4 a1_5 a1_6 a1_7 a1_8 a1_9 : Int) (a1_10p : Option Addr) (a1_10n a1_10c : Nat) (a1_11 a1_12 a1_13 a1_14 a1_15 a1_16 a1_17 : Int) (a1_18p : Option Addr) (a1_18n a1_18c : Nat) (w : World) (Q : QT) (h : X20.f a0_0 a0_1 a0_2 a0_3 a0_4 a0_5 a0_6 a0_7 a0_8 a0_9 a0_10p a0_10n a0_10c a0_11 a0_12 a0_13 a0_14 a0_15 a0_16 a0_17 a0_18p a0_18n a0_18c a1_0 a1_1 a1_2 a1_3 a1_4 a1_5 a1_6 a1_7 a1_8 a1_9 a1_10p a1_10n a1_10c a1_11 a1_12 a1_13 a1_14 a1_15 a1_16 a1_17 a1_18p a1_18n a1_18c w Q) : CallR Tryz.prog 20 #[.agg #[.int .i64 a0_0, .int .i64 a0_1, .int .i64 a0_2, .int .u64 a0_3, .int .u64 a0_4, .int .i64 a0_5, .int .i64 a0_6, .int .i64 a0_7, .int .i64 a0_8, .int .u64 a0_9, .slice a0_10p a0_10n a0_10c, .int .u64 a0_11, .int .i64 a0_12, .int .u64 a0_13, .int .i64 a0_14, .int .u64 a0_15, .int .i64 a0_16, .int .u64 a0_17, .slice a0_18p a0_18n a0_18c], .agg #[.int .i64 a1_0, .int .i64 a1_1, .int .i64 a1_2, .int .u64 a1_3, .int .u64 a1_4, .int .i64 a1_5, .int .i64 a1_6, .int .i64 a1_7, .int .i64 a1_8, .int .u64 a1_9, .slice a1_10p a1_10n a1_10c, .int .u64 a1_11, .int .i64 a1_12, .int .u64 a1_13, .int .i64 a1_14, .int .u64 a1_15, .int .i64 a1_16, .int .u64 a1_17, .slice a1_18p a1_18n a1_18c]] w Q :=
  fn_sound noGr mixed Tryz.func20 (c := X20.c) (an := X20.an) (S := X20.S Q) (φ := fun _ => 0) (args := [.agg #[.int .i64 a0_0, .int .i64 a0_1, .int .i64 a0_2, .int .u64 a0_3, .int .u64 a0_4, .int .i64 a0_5, .int .i64 a0_6, .int .i64 a0_7, .int .i64 a0_8, .int .u64 a0_9, .slice a0_10p a0_10n a0_10c, .int .u64 a0_11, .int .i64 a0_12, .int .u64 a0_13, .int .i64 a0_14, .int .u64 a0_15, .int .i64 a0_16, .int .u64 a0_17, .slice a0_18p a0_18n a0_18c], .agg #[.int .i64 a1_0, .int .i64 a1_1, .int .i64 a1_2, .int .u64 a1_3, .int .u64 a1_4, .int .i64 a1_5, .int .i64 a1_6, .int .i64 a1_7, .int .i64 a1_8, .int .u64 a1_9, .slice a1_10p a1_10n a1_10c, .int .u64 a1_11, .int .i64 a1_12, .int .u64 a1_13, .int .i64 a1_14, .int .u64 a1_15, .int .i64 a1_16, .int .u64 a1_17, .slice a1_18p a1_18n a1_18c]]) (by kernel_rfl) (by kernel_rfl) (by kernel_rfl) (X20.v Q) (Eq.mp (by kernel_rfl) h)
def X29.j0 (Q : QT) (t0 : Option Addr) (t3 t4 : Addr) (t6 : Int) (t7 : Addr) (t8 : Bool) (w : World) : Prop := bcase t8 (stK w (t7.add 2) (.bool false) fun w1 => ldI .u64 w1 (t3.add 13) fun x2 => stK w1 (t7.add 3) (.int .u64 x2) fun w3 => drewK w3 fun w4 => optP t0 fun p5 => ldI .u64 w4 (t7.add 0) fun x6 => ldI .i64 w4 (t7.add 1) fun x7 => ldB w4 (t7.add 2) fun x8 => ldI .u64 w4 (t7.add 3) fun x9 => ldI .u64 w4 (t7.add 4) fun x10 => ldI .i64 w4 (t7.add 5) fun x11 => CallR Tryz.prog 67 #[.pointer (some (p5.add 23)), .int .u64 t6, .agg #[.int .u64 x6, .int .i64 x7, .bool x8, .int .u64 x9, .int .u64 x10, .int .i64 x11]] w4 fun v12 w13 => ∃ (y14 : Bool), v12 = .bool y14 ∧ ldI .u64 w13 (t7.add 0) fun x15 => CallR Tryz.prog 68 #[.pointer t0, .int .u64 x15] w13 fun v16 w17 => v16 = .tuple #[] ∧ ldI .i64 w17 (t3.add 2) fun x18 => ldI .i64 w17 (t3.add 1) fun x19 => ldI .i64 w17 ((t3.add 8).add 0) fun x20 => ldI .u64 w17 ((t3.add 8).add 1) fun x21 => ldI .u64 w17 (t3.add 13) fun x22 => stAll w17 t4 [.int .i64 7, .int .i64 x18, .int .i64 x19, .int .u64 0, .int .u64 0, .int .i64 0, .int .i64 0, .int .i64 0, .int .i64 x20, .int .u64 x21, .slice none 0 0, .int .u64 0, .int .i64 0, .int .u64 x22, .int .i64 0, .int .u64 0, .int .i64 0, .int .u64 0, .slice none 0 0] fun w23 => ldI .i64 w23 (t4.add 0) fun x24 => ldI .i64 w23 (t4.add 1) fun x25 => ldI .i64 w23 (t4.add 2) fun x26 => ldI .u64 w23 (t4.add 3) fun x27 => ldI .u64 w23 (t4.add 4) fun x28 => ldI .i64 w23 (t4.add 5) fun x29 => ldI .i64 w23 (t4.add 6) fun x30 => ldI .i64 w23 (t4.add 7) fun x31 => ldI .i64 w23 (t4.add 8) fun x32 => ldI .u64 w23 (t4.add 9) fun x33 => ldSl w23 (t4.add 10) fun x34p x34n x34c => ldI .u64 w23 (t4.add 11) fun x35 => ldI .i64 w23 (t4.add 12) fun x36 => ldI .u64 w23 (t4.add 13) fun x37 => ldI .i64 w23 (t4.add 14) fun x38 => ldI .u64 w23 (t4.add 15) fun x39 => ldI .i64 w23 (t4.add 16) fun x40 => ldI .u64 w23 (t4.add 17) fun x41 => ldSl w23 (t4.add 18) fun x42p x42n x42c => Q (.tuple #[.agg #[.int .i64 x24, .int .i64 x25, .int .i64 x26, .int .u64 x27, .int .u64 x28, .int .i64 x29, .int .i64 x30, .int .i64 x31, .int .i64 x32, .int .u64 x33, .slice x34p x34n x34c, .int .u64 x35, .int .i64 x36, .int .u64 x37, .int .i64 x38, .int .u64 x39, .int .i64 x40, .int .u64 x41, .slice x42p x42n x42c], .bool true]) w23) (ldI .i64 w (t3.add 2) fun x43 => ldI .i64 w (t3.add 1) fun x44 => ldI .i64 w ((t3.add 8).add 0) fun x45 => ldI .u64 w ((t3.add 8).add 1) fun x46 => ldI .u64 w (t3.add 13) fun x47 => stAll w t4 [.int .i64 7, .int .i64 x43, .int .i64 x44, .int .u64 0, .int .u64 0, .int .i64 0, .int .i64 0, .int .i64 0, .int .i64 x45, .int .u64 x46, .slice none 0 0, .int .u64 0, .int .i64 0, .int .u64 x47, .int .i64 0, .int .u64 0, .int .i64 0, .int .u64 0, .slice none 0 0] fun w48 => ldI .i64 w48 (t4.add 0) fun x49 => ldI .i64 w48 (t4.add 1) fun x50 => ldI .i64 w48 (t4.add 2) fun x51 => ldI .u64 w48 (t4.add 3) fun x52 => ldI .u64 w48 (t4.add 4) fun x53 => ldI .i64 w48 (t4.add 5) fun x54 => ldI .i64 w48 (t4.add 6) fun x55 => ldI .i64 w48 (t4.add 7) fun x56 => ldI .i64 w48 (t4.add 8) fun x57 => ldI .u64 w48 (t4.add 9) fun x58 => ldSl w48 (t4.add 10) fun x59p x59n x59c => ldI .u64 w48 (t4.add 11) fun x60 => ldI .i64 w48 (t4.add 12) fun x61 => ldI .u64 w48 (t4.add 13) fun x62 => ldI .i64 w48 (t4.add 14) fun x63 => ldI .u64 w48 (t4.add 15) fun x64 => ldI .i64 w48 (t4.add 16) fun x65 => ldI .u64 w48 (t4.add 17) fun x66 => ldSl w48 (t4.add 18) fun x67p x67n x67c => Q (.tuple #[.agg #[.int .i64 x49, .int .i64 x50, .int .i64 x51, .int .u64 x52, .int .u64 x53, .int .i64 x54, .int .i64 x55, .int .i64 x56, .int .i64 x57, .int .u64 x58, .slice x59p x59n x59c, .int .u64 x60, .int .i64 x61, .int .u64 x62, .int .i64 x63, .int .u64 x64, .int .i64 x65, .int .u64 x66, .slice x67p x67n x67c], .bool true]) w48)
def X29.j1 (Q : QT) (t0 : Option Addr) (t3 t4 : Addr) (t6 : Int) (t7 : Addr) (t8 : Bool) (w : World) : Prop := drewK w fun w1 => bcase (!t8) (optP t0 fun p2 => ldP w1 (p2.add 22) fun x3 => ldI .u64 w1 ((t3.add 8).add 1) fun x4 => CallR Tryz.prog 43 #[.pointer x3, .int .u64 x4] w1 fun v5 w6 => ∃ (y7 : Option Addr), v5 = .pointer y7 ∧ bcase (!(Option.isNone y7)) (ldI .u64 w6 ((t3.add 8).add 1) fun x8 => ldI .i64 w6 (t3.add 1) fun x9 => stAll w6 t7 [.int .u64 x8, .int .i64 x9, .bool false, .int .u64 0, .int .u64 0, .int .i64 0] fun w10 => X29.j0 Q t0 t3 t4 t6 t7 true w10) (X29.j0 Q t0 t3 t4 t6 t7 t8 w6)) (X29.j0 Q t0 t3 t4 t6 t7 t8 w1)
def X29.f (a0 : Option Addr) (a1_0 a1_1 a1_2 a1_3 a1_4 a1_5 a1_6 a1_7 a1_8 a1_9 : Int) (a1_10p : Option Addr) (a1_10n a1_10c : Nat) (a1_11 a1_12 a1_13 a1_14 a1_15 a1_16 a1_17 : Int) (a1_18p : Option Addr) (a1_18n a1_18c : Nat) (w : World) (Q : QT) : Prop := newK w #[.int .i64 a1_0, .int .i64 a1_1, .int .i64 a1_2, .int .u64 a1_3, .int .u64 a1_4, .int .i64 a1_5, .int .i64 a1_6, .int .i64 a1_7, .int .i64 a1_8, .int .u64 a1_9, .slice a1_10p a1_10n a1_10c, .int .u64 a1_11, .int .i64 a1_12, .int .u64 a1_13, .int .i64 a1_14, .int .u64 a1_15, .int .i64 a1_16, .int .u64 a1_17, .slice a1_18p a1_18n a1_18c] 41 fun g1 w2 => newK w2 #[.int .i64 0, .int .i64 0, .int .i64 0, .int .u64 0, .int .u64 0, .int .i64 0, .int .i64 0, .int .i64 0, .int .i64 0, .int .u64 0, .slice none 0 0, .int .u64 0, .int .i64 0, .int .u64 0, .int .i64 0, .int .u64 0, .int .i64 0, .int .u64 0, .slice none 0 0] 41 fun g3 w4 => ldI .i64 w4 (g1.add 0) fun x5 => ldI .i64 w4 (g1.add 1) fun x6 => ldI .i64 w4 (g1.add 2) fun x7 => ldI .u64 w4 (g1.add 3) fun x8 => ldI .u64 w4 (g1.add 4) fun x9 => ldI .i64 w4 (g1.add 5) fun x10 => ldI .i64 w4 (g1.add 6) fun x11 => ldI .i64 w4 (g1.add 7) fun x12 => ldI .i64 w4 (g1.add 8) fun x13 => ldI .u64 w4 (g1.add 9) fun x14 => ldSl w4 (g1.add 10) fun x15p x15n x15c => ldI .u64 w4 (g1.add 11) fun x16 => ldI .i64 w4 (g1.add 12) fun x17 => ldI .u64 w4 (g1.add 13) fun x18 => ldI .i64 w4 (g1.add 14) fun x19 => ldI .u64 w4 (g1.add 15) fun x20 => ldI .i64 w4 (g1.add 16) fun x21 => ldI .u64 w4 (g1.add 17) fun x22 => ldSl w4 (g1.add 18) fun x23p x23n x23c => CallR Tryz.prog 64 #[.pointer a0, .agg #[.int .i64 x5, .int .i64 x6, .int .i64 x7, .int .u64 x8, .int .u64 x9, .int .i64 x10, .int .i64 x11, .int .i64 x12, .int .i64 x13, .int .u64 x14, .slice x15p x15n x15c, .int .u64 x16, .int .i64 x17, .int .u64 x18, .int .i64 x19, .int .u64 x20, .int .i64 x21, .int .u64 x22, .slice x23p x23n x23c], .int .i64 6] w4 fun v24 w25 => ∃ (y26 : Bool), v24 = .bool y26 ∧ bcase (!y26) (stAll w25 g3 [.int .i64 0, .int .i64 0, .int .i64 0, .int .u64 0, .int .u64 0, .int .i64 0, .int .i64 0, .int .i64 0, .int .i64 0, .int .u64 0, .slice none 0 0, .int .u64 0, .int .i64 0, .int .u64 0, .int .i64 0, .int .u64 0, .int .i64 0, .int .u64 0, .slice none 0 0] fun w27 => ldI .i64 w27 (g3.add 0) fun x28 => ldI .i64 w27 (g3.add 1) fun x29 => ldI .i64 w27 (g3.add 2) fun x30 => ldI .u64 w27 (g3.add 3) fun x31 => ldI .u64 w27 (g3.add 4) fun x32 => ldI .i64 w27 (g3.add 5) fun x33 => ldI .i64 w27 (g3.add 6) fun x34 => ldI .i64 w27 (g3.add 7) fun x35 => ldI .i64 w27 (g3.add 8) fun x36 => ldI .u64 w27 (g3.add 9) fun x37 => ldSl w27 (g3.add 10) fun x38p x38n x38c => ldI .u64 w27 (g3.add 11) fun x39 => ldI .i64 w27 (g3.add 12) fun x40 => ldI .u64 w27 (g3.add 13) fun x41 => ldI .i64 w27 (g3.add 14) fun x42 => ldI .u64 w27 (g3.add 15) fun x43 => ldI .i64 w27 (g3.add 16) fun x44 => ldI .u64 w27 (g3.add 17) fun x45 => ldSl w27 (g3.add 18) fun x46p x46n x46c => Q (.tuple #[.agg #[.int .i64 x28, .int .i64 x29, .int .i64 x30, .int .u64 x31, .int .u64 x32, .int .i64 x33, .int .i64 x34, .int .i64 x35, .int .i64 x36, .int .u64 x37, .slice x38p x38n x38c, .int .u64 x39, .int .i64 x40, .int .u64 x41, .int .i64 x42, .int .u64 x43, .int .i64 x44, .int .u64 x45, .slice x46p x46n x46c], .bool false]) w27) (ldI .u64 w25 ((g1.add 8).add 1) fun x47 => ldI .i64 w25 (g1.add 1) fun x48 => CallR Tryz.prog 65 #[.int .u64 x47, .int .i64 x48] w25 fun v49 w50 => ∃ (y51 : Int), v49 = .int .u64 y51 ∧ optP a0 fun p52 => CallR Tryz.prog 66 #[.pointer (some (p52.add 23)), .int .u64 y51] w50 fun v53 w54 => ∃ (y55 y56 : Int) (y57 : Bool) (y58 y59 y60 : Int) (y61 : Bool), v53 = .tuple #[.agg #[.int .u64 y55, .int .i64 y56, .bool y57, .int .u64 y58, .int .u64 y59, .int .i64 y60], .bool y61] ∧ newK w54 #[.int .u64 0, .int .i64 0, .bool false, .int .u64 0, .int .u64 0, .int .i64 0] 52 fun g62 w63 => stAll w63 g62 [.int .u64 y55, .int .i64 y56, .bool y57, .int .u64 y58, .int .u64 y59, .int .i64 y60] fun w64 => bcase y61 (ldI .u64 w64 (g62.add 3) fun x65 => ldI .u64 w64 (g1.add 13) fun x66 => bcase (decide (x65 > x66)) (stAll w64 g3 [.int .i64 0, .int .i64 0, .int .i64 0, .int .u64 0, .int .u64 0, .int .i64 0, .int .i64 0, .int .i64 0, .int .i64 0, .int .u64 0, .slice none 0 0, .int .u64 0, .int .i64 0, .int .u64 0, .int .i64 0, .int .u64 0, .int .i64 0, .int .u64 0, .slice none 0 0] fun w67 => ldI .i64 w67 (g3.add 0) fun x68 => ldI .i64 w67 (g3.add 1) fun x69 => ldI .i64 w67 (g3.add 2) fun x70 => ldI .u64 w67 (g3.add 3) fun x71 => ldI .u64 w67 (g3.add 4) fun x72 => ldI .i64 w67 (g3.add 5) fun x73 => ldI .i64 w67 (g3.add 6) fun x74 => ldI .i64 w67 (g3.add 7) fun x75 => ldI .i64 w67 (g3.add 8) fun x76 => ldI .u64 w67 (g3.add 9) fun x77 => ldSl w67 (g3.add 10) fun x78p x78n x78c => ldI .u64 w67 (g3.add 11) fun x79 => ldI .i64 w67 (g3.add 12) fun x80 => ldI .u64 w67 (g3.add 13) fun x81 => ldI .i64 w67 (g3.add 14) fun x82 => ldI .u64 w67 (g3.add 15) fun x83 => ldI .i64 w67 (g3.add 16) fun x84 => ldI .u64 w67 (g3.add 17) fun x85 => ldSl w67 (g3.add 18) fun x86p x86n x86c => Q (.tuple #[.agg #[.int .i64 x68, .int .i64 x69, .int .i64 x70, .int .u64 x71, .int .u64 x72, .int .i64 x73, .int .i64 x74, .int .i64 x75, .int .i64 x76, .int .u64 x77, .slice x78p x78n x78c, .int .u64 x79, .int .i64 x80, .int .u64 x81, .int .i64 x82, .int .u64 x83, .int .i64 x84, .int .u64 x85, .slice x86p x86n x86c], .bool false]) w67) (X29.j1 Q a0 g1 g3 y51 g62 y61 w64)) (X29.j1 Q a0 g1 g3 y51 g62 y61 w64))
def X29.S (Q : QT) : Segs
  | 0, φ, ρ, w => qP (ρ 0) fun t0 => qA (ρ 3) fun t3 => qA (ρ 4) fun t4 => qI .u64 (ρ 6) fun t6 => qA (ρ 7) fun t7 => qB (ρ 8) fun t8 => X29.j0 Q t0 t3 t4 t6 t7 t8 w
  | 1, φ, ρ, w => qP (ρ 0) fun t0 => qA (ρ 3) fun t3 => qA (ρ 4) fun t4 => qI .u64 (ρ 6) fun t6 => qA (ρ 7) fun t7 => qB (ρ 8) fun t8 => X29.j1 Q t0 t3 t4 t6 t7 t8 w
  | _, _, _, _ => False
noncomputable def X29.an : Ann := (.seq .leaf (.seq (.seq .leaf (.cond (.seq .leaf .leaf) .leaf)) (.seq .leaf (.seq .leaf (.seq (.seq .leaf (.cond (.seq .leaf .leaf) .leaf)) (.join 1 (.seq (.seq (.draw [0, 1, 3, 7, 15, 31, 63, 7, 135, 391, 1023, 2047, 4095] [[0, 1, 2, 3, 4, 5, 6, 7, 8, 9, 10, 11, 12]]) (.cond (.seq .leaf .leaf) .leaf)) (.join 0 (.seq (.seq .leaf (.cond (.seq .leaf (.seq .leaf (.seq (.draw [0, 1, 3, 0, 0, 31] [[0, 1, 2, 3, 4, 5]]) .leaf))) .leaf)) (.seq .leaf .leaf))))))))))
noncomputable def X29.c : Code := Tryz.f29.body.getD .skip
theorem X29.v (Q : QT) : V Tryz.prog (X29.S Q) X29.an X29.c (retC Tryz.prog Tryz.f29 Q) := ⟨trivial, ⟨⟨trivial, ⟨⟨trivial, trivial⟩, trivial⟩⟩, ⟨trivial, ⟨trivial, ⟨⟨trivial, ⟨⟨trivial, trivial⟩, trivial⟩⟩, ⟨(by
    intro φ ρ w h
    simp only [X29.S] at h
    obtain ⟨t0, e0, h⟩ := qP_elim h
    obtain ⟨t3, e3, h⟩ := qA_elim h
    obtain ⟨t4, e4, h⟩ := qA_elim h
    obtain ⟨t6, e6, h⟩ := qI_elim h
    obtain ⟨t7, e7, h⟩ := qA_elim h
    obtain ⟨t8, e8, h⟩ := qB_elim h
    exact ⟨((((((Env.nil.put (some 0) (.pointer t0)).put (some 3) (.pointer (some t3))).put (some 4) (.pointer (some t4))).put (some 6) (.int .u64 t6)).put (some 7) (.pointer (some t7))).put (some 8) (.bool t8)), Env.le_put e8 (Env.le_put e7 (Env.le_put e6 (Env.le_put e4 (Env.le_put e3 (Env.le_put e0 (Env.le_nil _)))))), Eq.mp (by kernel_rfl) h⟩), ⟨⟨trivial, ⟨⟨trivial, trivial⟩, trivial⟩⟩, ⟨(by
    intro φ ρ w h
    simp only [X29.S] at h
    obtain ⟨t0, e0, h⟩ := qP_elim h
    obtain ⟨t3, e3, h⟩ := qA_elim h
    obtain ⟨t4, e4, h⟩ := qA_elim h
    obtain ⟨t6, e6, h⟩ := qI_elim h
    obtain ⟨t7, e7, h⟩ := qA_elim h
    obtain ⟨t8, e8, h⟩ := qB_elim h
    exact ⟨((((((Env.nil.put (some 0) (.pointer t0)).put (some 3) (.pointer (some t3))).put (some 4) (.pointer (some t4))).put (some 6) (.int .u64 t6)).put (some 7) (.pointer (some t7))).put (some 8) (.bool t8)), Env.le_put e8 (Env.le_put e7 (Env.le_put e6 (Env.le_put e4 (Env.le_put e3 (Env.le_put e0 (Env.le_nil _)))))), Eq.mp (by kernel_rfl) h⟩), ⟨⟨trivial, ⟨⟨trivial, ⟨trivial, ⟨trivial, trivial⟩⟩⟩, trivial⟩⟩, ⟨trivial, trivial⟩⟩⟩⟩⟩⟩⟩⟩⟩⟩
theorem X29.sound (a0 : Option Addr) (a1_0 a1_1 a1_2 a1_3 a1_4 a1_5 a1_6 a1_7 a1_8 a1_9 : Int) (a1_10p : Option Addr) (a1_10n a1_10c : Nat) (a1_11 a1_12 a1_13 a1_14 a1_15 a1_16 a1_17 : Int) (a1_18p : Option Addr) (a1_18n a1_18c : Nat) (w : World) (Q : QT) (h : X29.f a0 a1_0 a1_1 a1_2 a1_3 a1_4 a1_5 a1_6 a1_7 a1_8 a1_9 a1_10p a1_10n a1_10c a1_11 a1_12 a1_13 a1_14 a1_15 a1_16 a1_17 a1_18p a1_18n a1_18c w Q) : CallR Tryz.prog 29 #[.pointer a0, .agg #[.int .i64 a1_0, .int .i64 a1_1, .int .i64 a1_2, .int .u64 a1_3, .int .u64 a1_4, .int .i64 a1_5, .int .i64 a1_6, .int .i64 a1_7, .int .i64 a1_8, .int .u64 a1_9, .slice a1_10p a1_10n a1_10c, .int .u64 a1_11, .int .i64 a1_12, .int .u64 a1_13, .int .i64 a1_14, .int .u64 a1_15, .int .i64 a1_16, .int .u64 a1_17, .slice a1_18p a1_18n a1_18c]] w Q :=
  fn_sound noGr mixed Tryz.func29 (c := X29.c) (an := X29.an) (S := X29.S Q) (φ := fun _ => 0) (args := [.pointer a0, .agg #[.int .i64 a1_0, .int .i64 a1_1, .int .i64 a1_2, .int .u64 a1_3, .int .u64 a1_4, .int .i64 a1_5, .int .i64 a1_6, .int .i64 a1_7, .int .i64 a1_8, .int .u64 a1_9, .slice a1_10p a1_10n a1_10c, .int .u64 a1_11, .int .i64 a1_12, .int .u64 a1_13, .int .i64 a1_14, .int .u64 a1_15, .int .i64 a1_16, .int .u64 a1_17, .slice a1_18p a1_18n a1_18c]]) (by kernel_rfl) (by kernel_rfl) (by kernel_rfl) (X29.v Q) (Eq.mp (by kernel_rfl) h)
def X31.j0 (Q : QT) (t0 : Option Addr) (t4 : Addr) (t6 : Int) (t8 : Addr) (w : World) : Prop := stK w (t8.add 2) (.bool false) fun w1 => drewK w1 fun w2 => optP t0 fun p3 => ldI .u64 w2 (t8.add 0) fun x4 => ldI .i64 w2 (t8.add 1) fun x5 => ldB w2 (t8.add 2) fun x6 => ldI .u64 w2 (t8.add 3) fun x7 => ldI .u64 w2 (t8.add 4) fun x8 => ldI .i64 w2 (t8.add 5) fun x9 => CallR Tryz.prog 67 #[.pointer (some (p3.add 23)), .int .u64 t6, .agg #[.int .u64 x4, .int .i64 x5, .bool x6, .int .u64 x7, .int .u64 x8, .int .i64 x9]] w2 fun v10 w11 => ∃ (y12 : Bool), v10 = .bool y12 ∧ ldI .u64 w11 (t8.add 0) fun x13 => CallR Tryz.prog 68 #[.pointer t0, .int .u64 x13] w11 fun v14 w15 => v14 = .tuple #[] ∧ ldI .u64 w15 (t8.add 0) fun x16 => ldI .i64 w15 (t8.add 1) fun x17 => ldB w15 (t8.add 2) fun x18 => ldI .u64 w15 (t8.add 3) fun x19 => ldI .u64 w15 (t8.add 4) fun x20 => ldI .i64 w15 (t8.add 5) fun x21 => stAll w15 t4 [.int .u64 x16, .int .i64 x17, .bool x18, .int .u64 x19, .int .u64 x20, .int .i64 x21] fun w22 => ldI .u64 w22 (t4.add 0) fun x23 => ldI .i64 w22 (t4.add 1) fun x24 => ldB w22 (t4.add 2) fun x25 => ldI .u64 w22 (t4.add 3) fun x26 => ldI .u64 w22 (t4.add 4) fun x27 => ldI .i64 w22 (t4.add 5) fun x28 => Q (.tuple #[.agg #[.int .u64 x23, .int .i64 x24, .bool x25, .int .u64 x26, .int .u64 x27, .int .i64 x28], .bool true]) w22
def X31.f (a0 : Option Addr) (a1 : Int) (w : World) (Q : QT) : Prop := newK w #[.int .u64 0, .int .i64 0, .bool false, .int .u64 0, .int .u64 0, .int .i64 0] 52 fun g1 w2 => drewK w2 fun w3 => optP a0 fun p4 => optP a0 fun p5 => ldI .u64 w3 (p5.add 27) fun x6 => CallR Tryz.prog 71 #[.pointer (some (p4.add 23)), .int .u64 x6] w3 fun v7 w8 => ∃ (y9 : Int) (y10 : Bool), v7 = .tuple #[.int .u64 y9, .bool y10] ∧ bcase (!y10) (stAll w8 g1 [.int .u64 0, .int .i64 0, .bool false, .int .u64 0, .int .u64 0, .int .i64 0] fun w11 => ldI .u64 w11 (g1.add 0) fun x12 => ldI .i64 w11 (g1.add 1) fun x13 => ldB w11 (g1.add 2) fun x14 => ldI .u64 w11 (g1.add 3) fun x15 => ldI .u64 w11 (g1.add 4) fun x16 => ldI .i64 w11 (g1.add 5) fun x17 => Q (.tuple #[.agg #[.int .u64 x12, .int .i64 x13, .bool x14, .int .u64 x15, .int .u64 x16, .int .i64 x17], .bool false]) w11) (optP a0 fun p18 => stK w8 (p18.add 27) (.int .u64 y9) fun w19 => optP a0 fun p20 => CallR Tryz.prog 66 #[.pointer (some (p20.add 23)), .int .u64 y9] w19 fun v21 w22 => ∃ (y23 y24 : Int) (y25 : Bool) (y26 y27 y28 : Int) (y29 : Bool), v21 = .tuple #[.agg #[.int .u64 y23, .int .i64 y24, .bool y25, .int .u64 y26, .int .u64 y27, .int .i64 y28], .bool y29] ∧ newK w22 #[.int .u64 0, .int .i64 0, .bool false, .int .u64 0, .int .u64 0, .int .i64 0] 52 fun g30 w31 => stAll w31 g30 [.int .u64 y23, .int .i64 y24, .bool y25, .int .u64 y26, .int .u64 y27, .int .i64 y28] fun w32 => drewK w32 fun w33 => ldB w33 (g30.add 2) fun x34 => bcase (!x34) (stAll w33 g1 [.int .u64 0, .int .i64 0, .bool false, .int .u64 0, .int .u64 0, .int .i64 0] fun w35 => ldI .u64 w35 (g1.add 0) fun x36 => ldI .i64 w35 (g1.add 1) fun x37 => ldB w35 (g1.add 2) fun x38 => ldI .u64 w35 (g1.add 3) fun x39 => ldI .u64 w35 (g1.add 4) fun x40 => ldI .i64 w35 (g1.add 5) fun x41 => Q (.tuple #[.agg #[.int .u64 x36, .int .i64 x37, .bool x38, .int .u64 x39, .int .u64 x40, .int .i64 x41], .bool false]) w35) (ldI .u64 w33 (g30.add 4) fun x42 => optP a0 fun p43 => ldI .u64 w33 ((p43.add 0).add 13) fun x44 => CallR Tryz.prog 72 #[.int .u64 x42, .int .u64 x44, .int .u64 a1] w33 fun v45 w46 => ∃ (y47 : Bool), v45 = .bool y47 ∧ bcase (!y47) (stAll w46 g1 [.int .u64 0, .int .i64 0, .bool false, .int .u64 0, .int .u64 0, .int .i64 0] fun w48 => ldI .u64 w48 (g1.add 0) fun x49 => ldI .i64 w48 (g1.add 1) fun x50 => ldB w48 (g1.add 2) fun x51 => ldI .u64 w48 (g1.add 3) fun x52 => ldI .u64 w48 (g1.add 4) fun x53 => ldI .i64 w48 (g1.add 5) fun x54 => Q (.tuple #[.agg #[.int .u64 x49, .int .i64 x50, .bool x51, .int .u64 x52, .int .u64 x53, .int .i64 x54], .bool false]) w48) (X31.j0 Q a0 g1 y9 g30 w46)))
def X31.S (Q : QT) : Segs
  | 0, φ, ρ, w => qP (ρ 0) fun t0 => qA (ρ 4) fun t4 => qI .u64 (ρ 6) fun t6 => qA (ρ 8) fun t8 => X31.j0 Q t0 t4 t6 t8 w
  | _, _, _, _ => False
noncomputable def X31.an : Ann := (.seq .leaf (.seq (.draw [0, 1, 3, 0, 8, 24, 56, 127, 255, 511, 511, 1023, 4095] [[0, 1, 2, 3, 4, 5, 6, 7, 8, 9, 10, 11, 12]]) (.seq (.seq .leaf (.cond (.seq .leaf .leaf) .leaf)) (.seq .leaf (.seq .leaf (.seq (.seq (.draw [0, 1, 3, 7, 15, 31, 15, 79, 207, 463, 975, 15, 4095, 8191, 16383] [[0, 1, 2, 3, 4, 5, 6, 7, 8, 9, 10, 11, 12, 13, 14]]) (.cond (.seq .leaf .leaf) .leaf)) (.join 0 (.seq .leaf (.seq (.draw [0, 1, 3, 0, 0, 31] [[0, 1, 2, 3, 4, 5]]) (.seq .leaf (.seq .leaf .leaf)))))))))))
noncomputable def X31.c : Code := Tryz.f31.body.getD .skip
theorem X31.v (Q : QT) : V Tryz.prog (X31.S Q) X31.an X31.c (retC Tryz.prog Tryz.f31 Q) := ⟨trivial, ⟨trivial, ⟨⟨trivial, ⟨⟨trivial, trivial⟩, trivial⟩⟩, ⟨trivial, ⟨trivial, ⟨⟨trivial, ⟨⟨trivial, trivial⟩, trivial⟩⟩, ⟨(by
    intro φ ρ w h
    simp only [X31.S] at h
    obtain ⟨t0, e0, h⟩ := qP_elim h
    obtain ⟨t4, e4, h⟩ := qA_elim h
    obtain ⟨t6, e6, h⟩ := qI_elim h
    obtain ⟨t8, e8, h⟩ := qA_elim h
    exact ⟨((((Env.nil.put (some 0) (.pointer t0)).put (some 4) (.pointer (some t4))).put (some 6) (.int .u64 t6)).put (some 8) (.pointer (some t8))), Env.le_put e8 (Env.le_put e6 (Env.le_put e4 (Env.le_put e0 (Env.le_nil _)))), Eq.mp (by kernel_rfl) h⟩), ⟨trivial, ⟨trivial, ⟨trivial, ⟨trivial, trivial⟩⟩⟩⟩⟩⟩⟩⟩⟩⟩⟩
theorem X31.sound (a0 : Option Addr) (a1 : Int) (w : World) (Q : QT) (h : X31.f a0 a1 w Q) : CallR Tryz.prog 31 #[.pointer a0, .int .u64 a1] w Q :=
  fn_sound noGr mixed Tryz.func31 (c := X31.c) (an := X31.an) (S := X31.S Q) (φ := fun _ => 0) (args := [.pointer a0, .int .u64 a1]) (by kernel_rfl) (by kernel_rfl) (by kernel_rfl) (X31.v Q) (Eq.mp (by kernel_rfl) h)
def X34.j0 (Q : QT) (t0 : Option Addr) (t1 : Int) (w : World) : Prop := optP t0 fun p1 => ldSl w (p1.add 26) fun x2p x2n x2c => newK w #[.int .u64 t1] 22 fun g3 w4 => RunR Tryz.prog (Builtin.append_ #[39, 39] 39 #[.slice x2p x2n x2c, .slice (some g3) 1 1]) w4 fun v5 w6 => ∃ (s7p : Option Addr) (s7n s7c : Nat), v5 = .slice s7p s7n s7c ∧ optP t0 fun p8 => stK w6 (p8.add 26) (.slice s7p s7n s7c) fun w9 => CallR Tryz.prog 68 #[.pointer t0, .int .u64 t1] w9 fun v10 w11 => v10 = .tuple #[] ∧ Q (.bool true) w11
def X34.f (a0 : Option Addr) (a1 : Int) (w : World) (Q : QT) : Prop := optP a0 fun p1 => ldP w (p1.add 22) fun x2 => CallR Tryz.prog 43 #[.pointer x2, .int .u64 a1] w fun v3 w4 => ∃ (y5 : Option Addr), v3 = .pointer y5 ∧ bcase (Option.isNone y5) (Q (.bool false) w4) (CallR Tryz.prog 46 #[.pointer a0, .int .u64 a1] w4 fun v6 w7 => ∃ (y8p : Option Addr) (y8n y8c : Nat), v6 = .slice y8p y8n y8c ∧ bcase (((y8n : Nat) : Int) == (0 : Int)) (Q (.bool false) w7) (CallR Tryz.prog 44 #[.pointer a0, .int .u64 a1] w7 fun v9 w10 => ∃ (y11 : Bool), v9 = .bool y11 ∧ bcase y11 (Q (.bool false) w10) (X34.j0 Q a0 a1 w10)))
def X34.S (Q : QT) : Segs
  | 0, φ, ρ, w => qP (ρ 0) fun t0 => qI .u64 (ρ 1) fun t1 => X34.j0 Q t0 t1 w
  | _, _, _, _ => False
noncomputable def X34.an : Ann := (.seq .leaf (.seq (.seq .leaf (.cond (.seq .leaf .leaf) .leaf)) (.join 0 (.seq .leaf (.seq .leaf (.seq .leaf .leaf))))))
noncomputable def X34.c : Code := Tryz.f34.body.getD .skip
theorem X34.v (Q : QT) : V Tryz.prog (X34.S Q) X34.an X34.c (retC Tryz.prog Tryz.f34 Q) := ⟨trivial, ⟨⟨trivial, ⟨⟨trivial, trivial⟩, trivial⟩⟩, ⟨(by
    intro φ ρ w h
    simp only [X34.S] at h
    obtain ⟨t0, e0, h⟩ := qP_elim h
    obtain ⟨t1, e1, h⟩ := qI_elim h
    exact ⟨((Env.nil.put (some 0) (.pointer t0)).put (some 1) (.int .u64 t1)), Env.le_put e1 (Env.le_put e0 (Env.le_nil _)), Eq.mp (by kernel_rfl) h⟩), ⟨trivial, ⟨trivial, ⟨trivial, trivial⟩⟩⟩⟩⟩⟩
theorem X34.sound (a0 : Option Addr) (a1 : Int) (w : World) (Q : QT) (h : X34.f a0 a1 w Q) : CallR Tryz.prog 34 #[.pointer a0, .int .u64 a1] w Q :=
  fn_sound noGr mixed Tryz.func34 (c := X34.c) (an := X34.an) (S := X34.S Q) (φ := fun _ => 0) (args := [.pointer a0, .int .u64 a1]) (by kernel_rfl) (by kernel_rfl) (by kernel_rfl) (X34.v Q) (Eq.mp (by kernel_rfl) h)
def X36.f (a0 : Option Addr) (a1 : Int) (w : World) (Q : QT) : Prop := CallR Tryz.prog 44 #[.pointer a0, .int .u64 a1] w fun v1 w2 => ∃ (y3 : Bool), v1 = .bool y3 ∧ bcase (!y3) (Q (.bool false) w2) (CallR Tryz.prog 74 #[.pointer a0, .int .u64 a1] w2 fun v4 w5 => v4 = .tuple #[] ∧ CallR Tryz.prog 68 #[.pointer a0, .int .u64 a1] w5 fun v6 w7 => v6 = .tuple #[] ∧ Q (.bool true) w7)
def X36.S (Q : QT) : Segs
  | _, _, _, _ => False
noncomputable def X36.an : Ann := (.seq .leaf (.seq (.seq .leaf (.cond (.seq .leaf .leaf) .leaf)) (.seq .leaf (.seq .leaf (.seq .leaf .leaf)))))
noncomputable def X36.c : Code := Tryz.f36.body.getD .skip
theorem X36.v (Q : QT) : V Tryz.prog (X36.S Q) X36.an X36.c (retC Tryz.prog Tryz.f36 Q) := ⟨trivial, ⟨⟨trivial, ⟨⟨trivial, trivial⟩, trivial⟩⟩, ⟨trivial, ⟨trivial, ⟨trivial, trivial⟩⟩⟩⟩⟩
theorem X36.sound (a0 : Option Addr) (a1 : Int) (w : World) (Q : QT) (h : X36.f a0 a1 w Q) : CallR Tryz.prog 36 #[.pointer a0, .int .u64 a1] w Q :=
  fn_sound noGr mixed Tryz.func36 (c := X36.c) (an := X36.an) (S := X36.S Q) (φ := fun _ => 0) (args := [.pointer a0, .int .u64 a1]) (by kernel_rfl) (by kernel_rfl) (by kernel_rfl) (X36.v Q) (Eq.mp (by kernel_rfl) h)
def X40.l0 (Q : QT) : Nat → (Option Addr) → Int → Int → World → Prop
  | 0, _, _, _, _ => False
  | k + 1, t0, t1, t5, w => optP t0 fun p1 => ldSl w (p1.add 4) fun x2p x2n x2c => bcase (decide (t5 < ((x2n : Nat) : Int))) (optP t0 fun p3 => ldSl w (p3.add 4) fun x4p x4n x4c => (0 ≤ t5 ∧ t5 < ((x4n : Nat) : Int)) ∧ optP x4p fun p5 => ldP w (p5.add (Int.toNat t5 * 1)) fun x6 => optP x6 fun p7 => ldI .u64 w (p7.add 0) fun x8 => bcase (x8 == t1) (drewK w fun w9 => optP t0 fun p10 => ldP w9 (p10.add 3) fun x11 => optP t0 fun p12 => ldSl w9 (p12.add 4) fun x13p x13n x13c => (0 ≤ t5 ∧ t5 < ((x13n : Nat) : Int)) ∧ optP x13p fun p14 => ldP w9 (p14.add (Int.toNat t5 * 1)) fun x15 => optP x15 fun p16 => ldI .i64 w9 (p16.add 1) fun x17 => CallR Tryz.prog 78 #[.pointer x11, .int .i64 x17] w9 fun v18 w19 => ∃ (y20 : Int), v18 = .int .i64 y20 ∧ drewK w19 fun w21 => newK w21 #[] 92 fun g22 w23 => optP t0 fun p24 => ldSl w23 (p24.add 4) fun x25p x25n x25c => (World.cell? w21 (p24.add 4) = some (.slice x25p x25n x25c) ∧ World.cell? w23 (p24.add 4) = some (.slice x25p x25n x25c)) ∧ (0 ≤ ((0 : Nat) : Int) ∧ ((0 : Nat) : Int) ≤ t5 ∧ t5 ≤ ((x25c : Nat) : Int)) ∧ RunR Tryz.prog (Builtin.append_ #[76, 76] 76 #[.slice (some g22) 0 0, .slice (cutAt 1 x25c (Int.toNat ((0 : Nat) : Int)) x25p) (Int.toNat t5 - Int.toNat ((0 : Nat) : Int)) (x25c - Int.toNat ((0 : Nat) : Int))]) w23 fun v26 w27 => ∃ (s28p : Option Addr) (s28n s28c : Nat), v26 = .slice s28p s28n s28c ∧ optP t0 fun p29 => ldSl w27 (p29.add 4) fun x30p x30n x30c => (World.cell? w23 (p29.add 4) = some (.slice x30p x30n x30c) ∧ World.cell? w27 (p29.add 4) = some (.slice x30p x30n x30c)) ∧ (World.cell? w21 (p29.add 4) = some (.slice x30p x30n x30c) ∧ World.cell? w23 (p29.add 4) = some (.slice x30p x30n x30c)) ∧ (0 ≤ (IntKind.wrap .i64 (t5 + (1 : Int))) ∧ (IntKind.wrap .i64 (t5 + (1 : Int))) ≤ ((x30n : Nat) : Int) ∧ ((x30n : Nat) : Int) ≤ ((x30c : Nat) : Int)) ∧ RunR Tryz.prog (Builtin.append_ #[76, 76] 76 #[.slice s28p s28n s28c, .slice (cutAt 1 x30c (Int.toNat (IntKind.wrap .i64 (t5 + (1 : Int)))) x30p) (Int.toNat ((x30n : Nat) : Int) - Int.toNat (IntKind.wrap .i64 (t5 + (1 : Int)))) (x30c - Int.toNat (IntKind.wrap .i64 (t5 + (1 : Int))))]) w27 fun v31 w32 => ∃ (s33p : Option Addr) (s33n s33c : Nat), v31 = .slice s33p s33n s33c ∧ optP t0 fun p34 => stK w32 (p34.add 4) (.slice s33p s33n s33c) fun w35 => Q (.int .i64 0) w35) (X40.l0 Q k t0 t1 (IntKind.wrap .i64 (t5 + (1 : Int))) w)) (Q (.int .i64 5) w)
def X40.f (a0 : Option Addr) (a1 : Int) (w : World) (Q : QT) : Prop := ∃ m1, X40.l0 Q m1 a0 a1 (0 : Int) w
def X40.S (Q : QT) : Segs
  | 0, φ, ρ, w => qP (ρ 0) fun t0 => qI .u64 (ρ 1) fun t1 => qI .i64 (ρ 5) fun t5 => X40.l0 Q (φ 0) t0 t1 t5 w
  | _, _, _, _ => False
noncomputable def X40.an : Ann := (.seq .leaf (.seq (.seq .leaf (.block (.loop 0 (.seq (.seq .leaf (.cond .leaf .leaf)) (.seq (.block (.seq .leaf (.cond (.seq (.draw [0, 1, 3, 7, 0, 16, 48, 112, 0, 496, 1008, 2032, 4080, 8176, 16383] [[0, 1, 2, 3, 4, 5, 6, 7, 8, 9, 10, 11, 12, 13, 14]]) (.seq (.draw [0, 0, 0, 4, 12, 28, 0, 124, 254, 0, 512, 1536, 3584, 0, 8192, 32256, 65534, 131071, 262143, 524287] [[0, 1, 2, 3, 4, 5, 6, 7, 8, 9, 10, 11, 12, 13, 14, 15, 16, 17, 18, 19]]) (.seq .leaf .leaf))) .leaf))) .leaf))))) (.seq .leaf .leaf)))
noncomputable def X40.c : Code := Tryz.f40.body.getD .skip
theorem X40.v (Q : QT) : V Tryz.prog (X40.S Q) X40.an X40.c (retC Tryz.prog Tryz.f40 Q) := ⟨trivial, ⟨⟨trivial, ⟨(by
    intro φ ρ w h
    simp only [X40.S] at h
    obtain ⟨t0, e0, h⟩ := qP_elim h
    obtain ⟨t1, e1, h⟩ := qI_elim h
    obtain ⟨t5, e5, h⟩ := qI_elim h
    cases hk : φ 0 with
    | zero => rw [hk] at h; exact h.elim
    | succ k => rw [hk] at h; exact ⟨k, Nat.lt_succ_self k, (((Env.nil.put (some 0) (.pointer t0)).put (some 1) (.int .u64 t1)).put (some 5) (.int .i64 t5)), Env.le_put e5 (Env.le_put e1 (Env.le_put e0 (Env.le_nil _))), Eq.mp (by kernel_rfl) h⟩), ⟨⟨trivial, ⟨trivial, trivial⟩⟩, ⟨⟨trivial, ⟨⟨trivial, ⟨trivial, ⟨trivial, trivial⟩⟩⟩, trivial⟩⟩, trivial⟩⟩⟩⟩, ⟨trivial, trivial⟩⟩⟩
theorem X40.sound (a0 : Option Addr) (a1 : Int) (w : World) (Q : QT) (h : X40.f a0 a1 w Q) : CallR Tryz.prog 40 #[.pointer a0, .int .u64 a1] w Q :=
  fn_sound noGr mixed Tryz.func40 (c := X40.c) (an := X40.an) (S := X40.S Q) (φ := fun _ => 0) (args := [.pointer a0, .int .u64 a1]) (by kernel_rfl) (by kernel_rfl) (by kernel_rfl) (X40.v Q) (Eq.mp (by kernel_rfl) h)
def X41.j4 (Q : QT) (t0 : Option Addr) (t5 t8 t11 : Addr) (t12 : Int) (t13 : Addr) (t15 : Bool) (w : World) : Prop := drewK w fun w1 => optP t0 fun p2 => ldI .i64 w1 (t5.add 1) fun x3 => CallR Tryz.prog 65 #[.int .u64 t12, .int .i64 x3] w1 fun v4 w5 => ∃ (y6 : Int), v4 = .int .u64 y6 ∧ ldI .u64 w5 (t13.add 0) fun x7 => ldI .i64 w5 (t13.add 1) fun x8 => ldB w5 (t13.add 2) fun x9 => ldI .u64 w5 (t13.add 3) fun x10 => ldI .u64 w5 (t13.add 4) fun x11 => ldI .i64 w5 (t13.add 5) fun x12 => ((∀ j u, ([.int .u64 x7, .int .i64 x8, .bool x9, .int .u64 x10, .int .u64 x11, .int .i64 x12] : List Value)[j]? = some u → World.cell? w1 (t13.add j) = some u) ∧ (∀ j u, ([.int .u64 x7, .int .i64 x8, .bool x9, .int .u64 x10, .int .u64 x11, .int .i64 x12] : List Value)[j]? = some u → World.cell? w5 (t13.add j) = some u)) ∧ CallR Tryz.prog 67 #[.pointer (some (p2.add 23)), .int .u64 y6, .agg #[.int .u64 x7, .int .i64 x8, .bool x9, .int .u64 x10, .int .u64 x11, .int .i64 x12]] w5 fun v13 w14 => ∃ (y15 : Bool), v13 = .bool y15 ∧ CallR Tryz.prog 68 #[.pointer t0, .int .u64 t12] w14 fun v16 w17 => v16 = .tuple #[] ∧ ldI .i64 w17 (t11.add 0) fun x18 => ldI .i64 w17 (t11.add 1) fun x19 => ldI .i64 w17 (t11.add 2) fun x20 => ldI .u64 w17 (t11.add 3) fun x21 => ldI .u64 w17 (t11.add 4) fun x22 => ldI .i64 w17 (t11.add 5) fun x23 => ldI .i64 w17 (t11.add 6) fun x24 => ldI .i64 w17 (t11.add 7) fun x25 => ldI .i64 w17 (t11.add 8) fun x26 => ldI .u64 w17 (t11.add 9) fun x27 => ldSl w17 (t11.add 10) fun x28p x28n x28c => ldI .u64 w17 (t11.add 11) fun x29 => ldI .i64 w17 (t11.add 12) fun x30 => ldI .u64 w17 (t11.add 13) fun x31 => ldI .i64 w17 (t11.add 14) fun x32 => ldI .u64 w17 (t11.add 15) fun x33 => ldI .i64 w17 (t11.add 16) fun x34 => ldI .u64 w17 (t11.add 17) fun x35 => ldSl w17 (t11.add 18) fun x36p x36n x36c => stAll w17 t8 [.int .i64 x18, .int .i64 x19, .int .i64 x20, .int .u64 x21, .int .u64 x22, .int .i64 x23, .int .i64 x24, .int .i64 x25, .int .i64 x26, .int .u64 x27, .slice x28p x28n x28c, .int .u64 x29, .int .i64 x30, .int .u64 x31, .int .i64 x32, .int .u64 x33, .int .i64 x34, .int .u64 x35, .slice x36p x36n x36c] fun w37 => ldI .i64 w37 (t8.add 0) fun x38 => ldI .i64 w37 (t8.add 1) fun x39 => ldI .i64 w37 (t8.add 2) fun x40 => ldI .u64 w37 (t8.add 3) fun x41 => ldI .u64 w37 (t8.add 4) fun x42 => ldI .i64 w37 (t8.add 5) fun x43 => ldI .i64 w37 (t8.add 6) fun x44 => ldI .i64 w37 (t8.add 7) fun x45 => ldI .i64 w37 (t8.add 8) fun x46 => ldI .u64 w37 (t8.add 9) fun x47 => ldSl w37 (t8.add 10) fun x48p x48n x48c => ldI .u64 w37 (t8.add 11) fun x49 => ldI .i64 w37 (t8.add 12) fun x50 => ldI .u64 w37 (t8.add 13) fun x51 => ldI .i64 w37 (t8.add 14) fun x52 => ldI .u64 w37 (t8.add 15) fun x53 => ldI .i64 w37 (t8.add 16) fun x54 => ldI .u64 w37 (t8.add 17) fun x55 => ldSl w37 (t8.add 18) fun x56p x56n x56c => Q (.tuple #[.agg #[.int .i64 x38, .int .i64 x39, .int .i64 x40, .int .u64 x41, .int .u64 x42, .int .i64 x43, .int .i64 x44, .int .i64 x45, .int .i64 x46, .int .u64 x47, .slice x48p x48n x48c, .int .u64 x49, .int .i64 x50, .int .u64 x51, .int .i64 x52, .int .u64 x53, .int .i64 x54, .int .u64 x55, .slice x56p x56n x56c], .bool t15, .bool true]) w37
def X41.j0 (Q : QT) (t0 : Option Addr) (t3 : Int) (t5 t8 t11 : Addr) (t12 : Int) (t13 : Addr) (t15 : Bool) (w : World) : Prop := ldI .i64 w (t5.add 1) fun x1 => ldI .u64 w (t5.add 13) fun x2 => ldI .i64 w (t5.add 16) fun x3 => stAll w t13 [.int .u64 t12, .int .i64 x1, .bool t15, .int .u64 x2, .int .u64 t3, .int .i64 x3] fun w4 => bcase t15 (stK w4 (t11.add 12) (.int .i64 0) fun w5 => CallR Tryz.prog 74 #[.pointer t0, .int .u64 t12] w5 fun v6 w7 => v6 = .tuple #[] ∧ X41.j4 Q t0 t5 t8 t11 t12 t13 t15 w7) (X41.j4 Q t0 t5 t8 t11 t12 t13 t15 w4)
def X41.j1 (Q : QT) (t0 : Option Addr) (t2 : Bool) (t3 : Int) (t5 t8 t11 : Addr) (t12 : Int) (t13 t16 : Addr) (t17 : Bool) (w : World) : Prop := drewK w fun w1 => ldI .i64 w1 (t5.add 14) fun x2 => optP t0 fun p3 => ldP w1 (p3.add 22) fun x4 => optP x4 fun p5 => ldI .i64 w1 (p5.add 0) fun x6 => bcase (x2 == x6) (bcase t2 (X41.j0 Q t0 t3 t5 t8 t11 t12 t13 true w1) (ldI .i64 w1 (t5.add 14) fun x7 => optP t0 fun p8 => ldP w1 (p8.add 22) fun x9 => optP x9 fun p10 => ldI .i64 w1 (p10.add 0) fun x11 => bcase (x7 != x11) (bcase t17 (ldB w1 (t16.add 2) fun x12 => X41.j0 Q t0 t3 t5 t8 t11 t12 t13 x12 w1) (X41.j0 Q t0 t3 t5 t8 t11 t12 t13 false w1)) (X41.j0 Q t0 t3 t5 t8 t11 t12 t13 false w1))) (ldI .i64 w1 (t5.add 14) fun x13 => optP t0 fun p14 => ldP w1 (p14.add 22) fun x15 => optP x15 fun p16 => ldI .i64 w1 (p16.add 0) fun x17 => bcase (x13 != x17) (bcase t17 (ldB w1 (t16.add 2) fun x18 => X41.j0 Q t0 t3 t5 t8 t11 t12 t13 x18 w1) (X41.j0 Q t0 t3 t5 t8 t11 t12 t13 false w1)) (X41.j0 Q t0 t3 t5 t8 t11 t12 t13 false w1))
def X41.j2 (Q : QT) (t0 : Option Addr) (t2 : Bool) (t3 : Int) (t5 t8 t11 : Addr) (t12 : Int) (t13 : Addr) (t15 t124 : Bool) (w : World) : Prop := bcase t124 (ldB w (t13.add 2) fun x1 => bcase x1 (stK w (t13.add 4) (.int .u64 t3) fun w2 => ldI .i64 w2 (t5.add 16) fun x3 => stK w2 (t13.add 5) (.int .i64 x3) fun w4 => stK w4 (t11.add 12) (.int .i64 0) fun w5 => X41.j4 Q t0 t5 t8 t11 t12 t13 t15 w5) (X41.j4 Q t0 t5 t8 t11 t12 t13 t15 w)) (drewK w fun w6 => (optP t0 fun p7 => ldI .i64 w6 (t5.add 14) fun x8 => CallR Tryz.prog 65 #[.int .u64 t12, .int .i64 x8] w6 fun v9 w10 => ∃ (y11 : Int), v9 = .int .u64 y11 ∧ CallR Tryz.prog 66 #[.pointer (some (p7.add 23)), .int .u64 y11] w10 fun v12 w13 => ∃ (y14 y15 : Int) (y16 : Bool) (y17 y18 y19 : Int) (y20 : Bool), v12 = .tuple #[.agg #[.int .u64 y14, .int .i64 y15, .bool y16, .int .u64 y17, .int .u64 y18, .int .i64 y19], .bool y20] ∧ newK w13 #[.int .u64 0, .int .i64 0, .bool false, .int .u64 0, .int .u64 0, .int .i64 0] 52 fun g21 w22 => (World.cell? w13 (t5.add 14) = some (.int .i64 x8) ∧ World.cell? w22 (t5.add 14) = some (.int .i64 x8)) ∧ stAll w22 g21 [.int .u64 y14, .int .i64 y15, .bool y16, .int .u64 y17, .int .u64 y18, .int .i64 y19] fun w23 => X41.j1 Q t0 t2 t3 t5 t8 t11 t12 t13 g21 y20 w23) ∧ ((optP t0 fun p24 => ldI .i64 w6 (t5.add 14) fun x25 => CallR Tryz.prog 65 #[.int .u64 t12, .int .i64 x25] w6 fun v26 w27 => ∃ (y28 : Int), v26 = .int .u64 y28 ∧ newK w27 #[.int .u64 0, .int .i64 0, .bool false, .int .u64 0, .int .u64 0, .int .i64 0] 52 fun g29 w30 => (World.cell? w27 (t5.add 14) = some (.int .i64 x25) ∧ World.cell? w30 (t5.add 14) = some (.int .i64 x25)) ∧ CallR Tryz.prog 66 #[.pointer (some (p24.add 23)), .int .u64 y28] w30 fun v31 w32 => ∃ (y33 y34 : Int) (y35 : Bool) (y36 y37 y38 : Int) (y39 : Bool), v31 = .tuple #[.agg #[.int .u64 y33, .int .i64 y34, .bool y35, .int .u64 y36, .int .u64 y37, .int .i64 y38], .bool y39] ∧ stAll w32 g29 [.int .u64 y33, .int .i64 y34, .bool y35, .int .u64 y36, .int .u64 y37, .int .i64 y38] fun w40 => X41.j1 Q t0 t2 t3 t5 t8 t11 t12 t13 g29 y39 w40) ∧ (optP t0 fun p41 => ldI .i64 w6 (t5.add 14) fun x42 => newK w6 #[.int .u64 0, .int .i64 0, .bool false, .int .u64 0, .int .u64 0, .int .i64 0] 52 fun g43 w44 => (World.cell? w6 (t5.add 14) = some (.int .i64 x42) ∧ World.cell? w44 (t5.add 14) = some (.int .i64 x42)) ∧ CallR Tryz.prog 65 #[.int .u64 t12, .int .i64 x42] w44 fun v45 w46 => ∃ (y47 : Int), v45 = .int .u64 y47 ∧ CallR Tryz.prog 66 #[.pointer (some (p41.add 23)), .int .u64 y47] w46 fun v48 w49 => ∃ (y50 y51 : Int) (y52 : Bool) (y53 y54 y55 : Int) (y56 : Bool), v48 = .tuple #[.agg #[.int .u64 y50, .int .i64 y51, .bool y52, .int .u64 y53, .int .u64 y54, .int .i64 y55], .bool y56] ∧ stAll w49 g43 [.int .u64 y50, .int .i64 y51, .bool y52, .int .u64 y53, .int .u64 y54, .int .i64 y55] fun w57 => X41.j1 Q t0 t2 t3 t5 t8 t11 t12 t13 g43 y56 w57)))
def X41.j3 (Q : QT) (t0 : Option Addr) (t2 : Bool) (t3 : Int) (t5 t8 t11 : Addr) (t12 : Int) (t13 : Addr) (t14 t15 t114 : Bool) (w : World) : Prop := bcase t114 (stAll w t8 [.int .i64 0, .int .i64 0, .int .i64 0, .int .u64 0, .int .u64 0, .int .i64 0, .int .i64 0, .int .i64 0, .int .i64 0, .int .u64 0, .slice none 0 0, .int .u64 0, .int .i64 0, .int .u64 0, .int .i64 0, .int .u64 0, .int .i64 0, .int .u64 0, .slice none 0 0] fun w1 => ldI .i64 w1 (t8.add 0) fun x2 => ldI .i64 w1 (t8.add 1) fun x3 => ldI .i64 w1 (t8.add 2) fun x4 => ldI .u64 w1 (t8.add 3) fun x5 => ldI .u64 w1 (t8.add 4) fun x6 => ldI .i64 w1 (t8.add 5) fun x7 => ldI .i64 w1 (t8.add 6) fun x8 => ldI .i64 w1 (t8.add 7) fun x9 => ldI .i64 w1 (t8.add 8) fun x10 => ldI .u64 w1 (t8.add 9) fun x11 => ldSl w1 (t8.add 10) fun x12p x12n x12c => ldI .u64 w1 (t8.add 11) fun x13 => ldI .i64 w1 (t8.add 12) fun x14 => ldI .u64 w1 (t8.add 13) fun x15 => ldI .i64 w1 (t8.add 14) fun x16 => ldI .u64 w1 (t8.add 15) fun x17 => ldI .i64 w1 (t8.add 16) fun x18 => ldI .u64 w1 (t8.add 17) fun x19 => ldSl w1 (t8.add 18) fun x20p x20n x20c => Q (.tuple #[.agg #[.int .i64 x2, .int .i64 x3, .int .i64 x4, .int .u64 x5, .int .u64 x6, .int .i64 x7, .int .i64 x8, .int .i64 x9, .int .i64 x10, .int .u64 x11, .slice x12p x12n x12c, .int .u64 x13, .int .i64 x14, .int .u64 x15, .int .i64 x16, .int .u64 x17, .int .i64 x18, .int .u64 x19, .slice x20p x20n x20c], .bool false, .bool false]) w1) (bcase t14 (ldI .u64 w (t13.add 3) fun x21 => ldI .u64 w (t5.add 13) fun x22 => X41.j2 Q t0 t2 t3 t5 t8 t11 t12 t13 t15 (x21 == x22) w) (X41.j2 Q t0 t2 t3 t5 t8 t11 t12 t13 t15 false w))
def X41.j5 (Q : QT) (t0 : Option Addr) (t2 : Bool) (t3 : Int) (t5 t8 t11 : Addr) (t12 : Int) (t13 : Addr) (t14 : Bool) (w : World) : Prop := bcase t14 (ldI .u64 w (t13.add 3) fun x1 => ldI .u64 w (t5.add 13) fun x2 => X41.j3 Q t0 t2 t3 t5 t8 t11 t12 t13 t14 false (decide (x1 > x2)) w) (X41.j3 Q t0 t2 t3 t5 t8 t11 t12 t13 t14 false false w)
def X41.f (a0 : Option Addr) (a1_0 a1_1 a1_2 a1_3 a1_4 a1_5 a1_6 a1_7 a1_8 a1_9 : Int) (a1_10p : Option Addr) (a1_10n a1_10c : Nat) (a1_11 a1_12 a1_13 a1_14 a1_15 a1_16 a1_17 : Int) (a1_18p : Option Addr) (a1_18n a1_18c : Nat) (a2 : Bool) (a3 : Int) (w : World) (Q : QT) : Prop := newK w #[.int .i64 a1_0, .int .i64 a1_1, .int .i64 a1_2, .int .u64 a1_3, .int .u64 a1_4, .int .i64 a1_5, .int .i64 a1_6, .int .i64 a1_7, .int .i64 a1_8, .int .u64 a1_9, .slice a1_10p a1_10n a1_10c, .int .u64 a1_11, .int .i64 a1_12, .int .u64 a1_13, .int .i64 a1_14, .int .u64 a1_15, .int .i64 a1_16, .int .u64 a1_17, .slice a1_18p a1_18n a1_18c] 41 fun g1 w2 => newK w2 #[.int .i64 0, .int .i64 0, .int .i64 0, .int .u64 0, .int .u64 0, .int .i64 0, .int .i64 0, .int .i64 0, .int .i64 0, .int .u64 0, .slice none 0 0, .int .u64 0, .int .i64 0, .int .u64 0, .int .i64 0, .int .u64 0, .int .i64 0, .int .u64 0, .slice none 0 0] 41 fun g3 w4 => ldI .i64 w4 (g1.add 0) fun x5 => ldI .i64 w4 (g1.add 1) fun x6 => ldI .i64 w4 (g1.add 2) fun x7 => ldI .u64 w4 (g1.add 3) fun x8 => ldI .u64 w4 (g1.add 4) fun x9 => ldI .i64 w4 (g1.add 5) fun x10 => ldI .i64 w4 (g1.add 6) fun x11 => ldI .i64 w4 (g1.add 7) fun x12 => ldI .i64 w4 (g1.add 8) fun x13 => ldI .u64 w4 (g1.add 9) fun x14 => ldSl w4 (g1.add 10) fun x15p x15n x15c => ldI .u64 w4 (g1.add 11) fun x16 => ldI .i64 w4 (g1.add 12) fun x17 => ldI .u64 w4 (g1.add 13) fun x18 => ldI .i64 w4 (g1.add 14) fun x19 => ldI .u64 w4 (g1.add 15) fun x20 => ldI .i64 w4 (g1.add 16) fun x21 => ldI .u64 w4 (g1.add 17) fun x22 => ldSl w4 (g1.add 18) fun x23p x23n x23c => CallR Tryz.prog 64 #[.pointer a0, .agg #[.int .i64 x5, .int .i64 x6, .int .i64 x7, .int .u64 x8, .int .u64 x9, .int .i64 x10, .int .i64 x11, .int .i64 x12, .int .i64 x13, .int .u64 x14, .slice x15p x15n x15c, .int .u64 x16, .int .i64 x17, .int .u64 x18, .int .i64 x19, .int .u64 x20, .int .i64 x21, .int .u64 x22, .slice x23p x23n x23c], .int .i64 4] w4 fun v24 w25 => ∃ (y26 : Bool), v24 = .bool y26 ∧ bcase (!y26) (stAll w25 g3 [.int .i64 0, .int .i64 0, .int .i64 0, .int .u64 0, .int .u64 0, .int .i64 0, .int .i64 0, .int .i64 0, .int .i64 0, .int .u64 0, .slice none 0 0, .int .u64 0, .int .i64 0, .int .u64 0, .int .i64 0, .int .u64 0, .int .i64 0, .int .u64 0, .slice none 0 0] fun w27 => ldI .i64 w27 (g3.add 0) fun x28 => ldI .i64 w27 (g3.add 1) fun x29 => ldI .i64 w27 (g3.add 2) fun x30 => ldI .u64 w27 (g3.add 3) fun x31 => ldI .u64 w27 (g3.add 4) fun x32 => ldI .i64 w27 (g3.add 5) fun x33 => ldI .i64 w27 (g3.add 6) fun x34 => ldI .i64 w27 (g3.add 7) fun x35 => ldI .i64 w27 (g3.add 8) fun x36 => ldI .u64 w27 (g3.add 9) fun x37 => ldSl w27 (g3.add 10) fun x38p x38n x38c => ldI .u64 w27 (g3.add 11) fun x39 => ldI .i64 w27 (g3.add 12) fun x40 => ldI .u64 w27 (g3.add 13) fun x41 => ldI .i64 w27 (g3.add 14) fun x42 => ldI .u64 w27 (g3.add 15) fun x43 => ldI .i64 w27 (g3.add 16) fun x44 => ldI .u64 w27 (g3.add 17) fun x45 => ldSl w27 (g3.add 18) fun x46p x46n x46c => Q (.tuple #[.agg #[.int .i64 x28, .int .i64 x29, .int .i64 x30, .int .u64 x31, .int .u64 x32, .int .i64 x33, .int .i64 x34, .int .i64 x35, .int .i64 x36, .int .u64 x37, .slice x38p x38n x38c, .int .u64 x39, .int .i64 x40, .int .u64 x41, .int .i64 x42, .int .u64 x43, .int .i64 x44, .int .u64 x45, .slice x46p x46n x46c], .bool false, .bool false]) w27) (ldI .i64 w25 (g1.add 2) fun x47 => ldI .i64 w25 (g1.add 1) fun x48 => ldI .i64 w25 ((g1.add 8).add 0) fun x49 => ldI .u64 w25 ((g1.add 8).add 1) fun x50 => ldI .u64 w25 (g1.add 13) fun x51 => ldI .u64 w25 (g1.add 15) fun x52 => newK w25 #[.int .i64 0, .int .i64 0, .int .i64 0, .int .u64 0, .int .u64 0, .int .i64 0, .int .i64 0, .int .i64 0, .int .i64 0, .int .u64 0, .slice none 0 0, .int .u64 0, .int .i64 0, .int .u64 0, .int .i64 0, .int .u64 0, .int .i64 0, .int .u64 0, .slice none 0 0] 41 fun g53 w54 => stAll w54 g53 [.int .i64 5, .int .i64 x47, .int .i64 x48, .int .u64 0, .int .u64 0, .int .i64 0, .int .i64 0, .int .i64 0, .int .i64 x49, .int .u64 x50, .slice none 0 0, .int .u64 0, .int .i64 4, .int .u64 x51, .int .i64 0, .int .u64 x52, .int .i64 0, .int .u64 0, .slice none 0 0] fun w55 => ldI .u64 w55 ((g1.add 8).add 1) fun x56 => optP a0 fun p57 => ldP w55 (p57.add 22) fun x58 => CallR Tryz.prog 43 #[.pointer x58, .int .u64 x56] w55 fun v59 w60 => ∃ (y61 : Option Addr), v59 = .pointer y61 ∧ bcase (Option.isNone y61) (ldI .i64 w60 (g53.add 0) fun x62 => ldI .i64 w60 (g53.add 1) fun x63 => ldI .i64 w60 (g53.add 2) fun x64 => ldI .u64 w60 (g53.add 3) fun x65 => ldI .u64 w60 (g53.add 4) fun x66 => ldI .i64 w60 (g53.add 5) fun x67 => ldI .i64 w60 (g53.add 6) fun x68 => ldI .i64 w60 (g53.add 7) fun x69 => ldI .i64 w60 (g53.add 8) fun x70 => ldI .u64 w60 (g53.add 9) fun x71 => ldSl w60 (g53.add 10) fun x72p x72n x72c => ldI .u64 w60 (g53.add 11) fun x73 => ldI .i64 w60 (g53.add 12) fun x74 => ldI .u64 w60 (g53.add 13) fun x75 => ldI .i64 w60 (g53.add 14) fun x76 => ldI .u64 w60 (g53.add 15) fun x77 => ldI .i64 w60 (g53.add 16) fun x78 => ldI .u64 w60 (g53.add 17) fun x79 => ldSl w60 (g53.add 18) fun x80p x80n x80c => stAll w60 g3 [.int .i64 x62, .int .i64 x63, .int .i64 x64, .int .u64 x65, .int .u64 x66, .int .i64 x67, .int .i64 x68, .int .i64 x69, .int .i64 x70, .int .u64 x71, .slice x72p x72n x72c, .int .u64 x73, .int .i64 x74, .int .u64 x75, .int .i64 x76, .int .u64 x77, .int .i64 x78, .int .u64 x79, .slice x80p x80n x80c] fun w81 => ldI .i64 w81 (g3.add 0) fun x82 => ldI .i64 w81 (g3.add 1) fun x83 => ldI .i64 w81 (g3.add 2) fun x84 => ldI .u64 w81 (g3.add 3) fun x85 => ldI .u64 w81 (g3.add 4) fun x86 => ldI .i64 w81 (g3.add 5) fun x87 => ldI .i64 w81 (g3.add 6) fun x88 => ldI .i64 w81 (g3.add 7) fun x89 => ldI .i64 w81 (g3.add 8) fun x90 => ldI .u64 w81 (g3.add 9) fun x91 => ldSl w81 (g3.add 10) fun x92p x92n x92c => ldI .u64 w81 (g3.add 11) fun x93 => ldI .i64 w81 (g3.add 12) fun x94 => ldI .u64 w81 (g3.add 13) fun x95 => ldI .i64 w81 (g3.add 14) fun x96 => ldI .u64 w81 (g3.add 15) fun x97 => ldI .i64 w81 (g3.add 16) fun x98 => ldI .u64 w81 (g3.add 17) fun x99 => ldSl w81 (g3.add 18) fun x100p x100n x100c => Q (.tuple #[.agg #[.int .i64 x82, .int .i64 x83, .int .i64 x84, .int .u64 x85, .int .u64 x86, .int .i64 x87, .int .i64 x88, .int .i64 x89, .int .i64 x90, .int .u64 x91, .slice x92p x92n x92c, .int .u64 x93, .int .i64 x94, .int .u64 x95, .int .i64 x96, .int .u64 x97, .int .i64 x98, .int .u64 x99, .slice x100p x100n x100c], .bool false, .bool true]) w81) (drewK w60 fun w101 => (optP a0 fun p102 => ldI .i64 w101 (g1.add 1) fun x103 => CallR Tryz.prog 65 #[.int .u64 x56, .int .i64 x103] w101 fun v104 w105 => ∃ (y106 : Int), v104 = .int .u64 y106 ∧ CallR Tryz.prog 66 #[.pointer (some (p102.add 23)), .int .u64 y106] w105 fun v107 w108 => ∃ (y109 y110 : Int) (y111 : Bool) (y112 y113 y114 : Int) (y115 : Bool), v107 = .tuple #[.agg #[.int .u64 y109, .int .i64 y110, .bool y111, .int .u64 y112, .int .u64 y113, .int .i64 y114], .bool y115] ∧ newK w108 #[.int .u64 0, .int .i64 0, .bool false, .int .u64 0, .int .u64 0, .int .i64 0] 52 fun g116 w117 => (World.cell? w108 (g1.add 1) = some (.int .i64 x103) ∧ World.cell? w117 (g1.add 1) = some (.int .i64 x103)) ∧ stAll w117 g116 [.int .u64 y109, .int .i64 y110, .bool y111, .int .u64 y112, .int .u64 y113, .int .i64 y114] fun w118 => X41.j5 Q a0 a2 a3 g1 g3 g53 x56 g116 y115 w118) ∧ ((optP a0 fun p119 => ldI .i64 w101 (g1.add 1) fun x120 => CallR Tryz.prog 65 #[.int .u64 x56, .int .i64 x120] w101 fun v121 w122 => ∃ (y123 : Int), v121 = .int .u64 y123 ∧ newK w122 #[.int .u64 0, .int .i64 0, .bool false, .int .u64 0, .int .u64 0, .int .i64 0] 52 fun g124 w125 => (World.cell? w122 (g1.add 1) = some (.int .i64 x120) ∧ World.cell? w125 (g1.add 1) = some (.int .i64 x120)) ∧ CallR Tryz.prog 66 #[.pointer (some (p119.add 23)), .int .u64 y123] w125 fun v126 w127 => ∃ (y128 y129 : Int) (y130 : Bool) (y131 y132 y133 : Int) (y134 : Bool), v126 = .tuple #[.agg #[.int .u64 y128, .int .i64 y129, .bool y130, .int .u64 y131, .int .u64 y132, .int .i64 y133], .bool y134] ∧ stAll w127 g124 [.int .u64 y128, .int .i64 y129, .bool y130, .int .u64 y131, .int .u64 y132, .int .i64 y133] fun w135 => X41.j5 Q a0 a2 a3 g1 g3 g53 x56 g124 y134 w135) ∧ (optP a0 fun p136 => ldI .i64 w101 (g1.add 1) fun x137 => newK w101 #[.int .u64 0, .int .i64 0, .bool false, .int .u64 0, .int .u64 0, .int .i64 0] 52 fun g138 w139 => (World.cell? w101 (g1.add 1) = some (.int .i64 x137) ∧ World.cell? w139 (g1.add 1) = some (.int .i64 x137)) ∧ CallR Tryz.prog 65 #[.int .u64 x56, .int .i64 x137] w139 fun v140 w141 => ∃ (y142 : Int), v140 = .int .u64 y142 ∧ CallR Tryz.prog 66 #[.pointer (some (p136.add 23)), .int .u64 y142] w141 fun v143 w144 => ∃ (y145 y146 : Int) (y147 : Bool) (y148 y149 y150 : Int) (y151 : Bool), v143 = .tuple #[.agg #[.int .u64 y145, .int .i64 y146, .bool y147, .int .u64 y148, .int .u64 y149, .int .i64 y150], .bool y151] ∧ stAll w144 g138 [.int .u64 y145, .int .i64 y146, .bool y147, .int .u64 y148, .int .u64 y149, .int .i64 y150] fun w152 => X41.j5 Q a0 a2 a3 g1 g3 g53 x56 g138 y151 w152))))
def X41.S (Q : QT) : Segs
  | 0, φ, ρ, w => qP (ρ 0) fun t0 => qI .u64 (ρ 3) fun t3 => qA (ρ 5) fun t5 => qA (ρ 8) fun t8 => qA (ρ 11) fun t11 => qI .u64 (ρ 12) fun t12 => qA (ρ 13) fun t13 => qB (ρ 15) fun t15 => X41.j0 Q t0 t3 t5 t8 t11 t12 t13 t15 w
  | 1, φ, ρ, w => qP (ρ 0) fun t0 => qB (ρ 2) fun t2 => qI .u64 (ρ 3) fun t3 => qA (ρ 5) fun t5 => qA (ρ 8) fun t8 => qA (ρ 11) fun t11 => qI .u64 (ρ 12) fun t12 => qA (ρ 13) fun t13 => qA (ρ 16) fun t16 => qB (ρ 17) fun t17 => X41.j1 Q t0 t2 t3 t5 t8 t11 t12 t13 t16 t17 w
  | 2, φ, ρ, w => qP (ρ 0) fun t0 => qB (ρ 2) fun t2 => qI .u64 (ρ 3) fun t3 => qA (ρ 5) fun t5 => qA (ρ 8) fun t8 => qA (ρ 11) fun t11 => qI .u64 (ρ 12) fun t12 => qA (ρ 13) fun t13 => qB (ρ 15) fun t15 => qB (ρ 124) fun t124 => X41.j2 Q t0 t2 t3 t5 t8 t11 t12 t13 t15 t124 w
  | 3, φ, ρ, w => qP (ρ 0) fun t0 => qB (ρ 2) fun t2 => qI .u64 (ρ 3) fun t3 => qA (ρ 5) fun t5 => qA (ρ 8) fun t8 => qA (ρ 11) fun t11 => qI .u64 (ρ 12) fun t12 => qA (ρ 13) fun t13 => qB (ρ 14) fun t14 => qB (ρ 15) fun t15 => qB (ρ 114) fun t114 => X41.j3 Q t0 t2 t3 t5 t8 t11 t12 t13 t14 t15 t114 w
  | 4, φ, ρ, w => qP (ρ 0) fun t0 => qA (ρ 5) fun t5 => qA (ρ 8) fun t8 => qA (ρ 11) fun t11 => qI .u64 (ρ 12) fun t12 => qA (ρ 13) fun t13 => qB (ρ 15) fun t15 => X41.j4 Q t0 t5 t8 t11 t12 t13 t15 w
  | 5, φ, ρ, w => qP (ρ 0) fun t0 => qB (ρ 2) fun t2 => qI .u64 (ρ 3) fun t3 => qA (ρ 5) fun t5 => qA (ρ 8) fun t8 => qA (ρ 11) fun t11 => qI .u64 (ρ 12) fun t12 => qA (ρ 13) fun t13 => qB (ρ 14) fun t14 => X41.j5 Q t0 t2 t3 t5 t8 t11 t12 t13 t14 w
  | _, _, _, _ => False
noncomputable def X41.an : Ann := (.seq .leaf (.seq (.seq .leaf (.cond (.seq .leaf .leaf) .leaf)) (.seq .leaf (.seq .leaf (.seq (.seq .leaf (.cond (.seq .leaf .leaf) .leaf)) (.seq (.draw [0, 1, 3, 0, 0, 16, 56, 127, 255, 511, 511, 0, 3071, 8191] [[0, 1, 2, 3, 4, 5, 6, 7, 8, 9, 10, 11, 12, 13], [0, 1, 2, 3, 4, 5, 6, 11, 7, 8, 9, 10, 12, 13], [0, 1, 2, 3, 4, 5, 11, 6, 7, 8, 9, 10, 12, 13]]) (.join 5 (.seq .leaf (.seq (.block (.seq .leaf (.join 3 (.cond (.seq .leaf .leaf) (.seq .leaf (.join 2 (.cond (.seq .leaf (.cond (.seq .leaf (.seq .leaf .leaf)) .leaf)) (.seq (.draw [0, 1, 3, 0, 0, 16, 56, 127, 255, 511, 511, 0, 3071, 8191] [[0, 1, 2, 3, 4, 5, 6, 7, 8, 9, 10, 11, 12, 13], [0, 1, 2, 3, 4, 5, 6, 11, 7, 8, 9, 10, 12, 13], [0, 1, 2, 3, 4, 5, 11, 6, 7, 8, 9, 10, 12, 13]]) (.join 1 (.seq (.draw [0, 1, 0, 4, 12, 28, 60, 124, 252, 511, 1023, 2047, 4095, 8191, 16383, 32767, 16383, 81919, 212991, 475135, 999423, 2047999, 4145151, 8388607, 16777215, 33554431, 67108863, 134217727, 268435455, 536870911, 1073741823, 2147483647, 4294967295] [[0, 1, 2, 3, 4, 5, 6, 7, 8, 9, 10, 11, 12, 13, 14, 15, 16, 17, 18, 19, 20, 21, 22, 23, 24, 25, 26, 27, 28, 29, 30, 31, 32]]) (.join 0 (.seq .leaf (.seq .leaf (.cond (.seq .leaf .leaf) .leaf)))))))))))))) (.join 4 (.seq (.draw [0, 1, 3, 0, 0, 16, 56, 0, 255] [[0, 1, 2, 3, 4, 5, 6, 7, 8]]) (.seq .leaf (.seq .leaf .leaf)))))))))))))
noncomputable def X41.c : Code := Tryz.f41.body.getD .skip
theorem X41.v (Q : QT) : V Tryz.prog (X41.S Q) X41.an X41.c (retC Tryz.prog Tryz.f41 Q) := ⟨trivial, ⟨⟨trivial, ⟨⟨trivial, trivial⟩, trivial⟩⟩, ⟨trivial, ⟨trivial, ⟨⟨trivial, ⟨⟨trivial, trivial⟩, trivial⟩⟩, ⟨trivial, ⟨(by
    intro φ ρ w h
    simp only [X41.S] at h
    obtain ⟨t0, e0, h⟩ := qP_elim h
    obtain ⟨t2, e2, h⟩ := qB_elim h
    obtain ⟨t3, e3, h⟩ := qI_elim h
    obtain ⟨t5, e5, h⟩ := qA_elim h
    obtain ⟨t8, e8, h⟩ := qA_elim h
    obtain ⟨t11, e11, h⟩ := qA_elim h
    obtain ⟨t12, e12, h⟩ := qI_elim h
    obtain ⟨t13, e13, h⟩ := qA_elim h
    obtain ⟨t14, e14, h⟩ := qB_elim h
    exact ⟨(((((((((Env.nil.put (some 0) (.pointer t0)).put (some 2) (.bool t2)).put (some 3) (.int .u64 t3)).put (some 5) (.pointer (some t5))).put (some 8) (.pointer (some t8))).put (some 11) (.pointer (some t11))).put (some 12) (.int .u64 t12)).put (some 13) (.pointer (some t13))).put (some 14) (.bool t14)), Env.le_put e14 (Env.le_put e13 (Env.le_put e12 (Env.le_put e11 (Env.le_put e8 (Env.le_put e5 (Env.le_put e3 (Env.le_put e2 (Env.le_put e0 (Env.le_nil _))))))))), Eq.mp (by kernel_rfl) h⟩), ⟨trivial, ⟨⟨trivial, ⟨(by
    intro φ ρ w h
    simp only [X41.S] at h
    obtain ⟨t0, e0, h⟩ := qP_elim h
    obtain ⟨t2, e2, h⟩ := qB_elim h
    obtain ⟨t3, e3, h⟩ := qI_elim h
    obtain ⟨t5, e5, h⟩ := qA_elim h
    obtain ⟨t8, e8, h⟩ := qA_elim h
    obtain ⟨t11, e11, h⟩ := qA_elim h
    obtain ⟨t12, e12, h⟩ := qI_elim h
    obtain ⟨t13, e13, h⟩ := qA_elim h
    obtain ⟨t14, e14, h⟩ := qB_elim h
    obtain ⟨t15, e15, h⟩ := qB_elim h
    obtain ⟨t114, e114, h⟩ := qB_elim h
    exact ⟨(((((((((((Env.nil.put (some 0) (.pointer t0)).put (some 2) (.bool t2)).put (some 3) (.int .u64 t3)).put (some 5) (.pointer (some t5))).put (some 8) (.pointer (some t8))).put (some 11) (.pointer (some t11))).put (some 12) (.int .u64 t12)).put (some 13) (.pointer (some t13))).put (some 14) (.bool t14)).put (some 15) (.bool t15)).put (some 114) (.bool t114)), Env.le_put e114 (Env.le_put e15 (Env.le_put e14 (Env.le_put e13 (Env.le_put e12 (Env.le_put e11 (Env.le_put e8 (Env.le_put e5 (Env.le_put e3 (Env.le_put e2 (Env.le_put e0 (Env.le_nil _))))))))))), Eq.mp (by kernel_rfl) h⟩), ⟨⟨trivial, trivial⟩, ⟨trivial, ⟨(by
    intro φ ρ w h
    simp only [X41.S] at h
    obtain ⟨t0, e0, h⟩ := qP_elim h
    obtain ⟨t2, e2, h⟩ := qB_elim h
    obtain ⟨t3, e3, h⟩ := qI_elim h
    obtain ⟨t5, e5, h⟩ := qA_elim h
    obtain ⟨t8, e8, h⟩ := qA_elim h
    obtain ⟨t11, e11, h⟩ := qA_elim h
    obtain ⟨t12, e12, h⟩ := qI_elim h
    obtain ⟨t13, e13, h⟩ := qA_elim h
    obtain ⟨t15, e15, h⟩ := qB_elim h
    obtain ⟨t124, e124, h⟩ := qB_elim h
    exact ⟨((((((((((Env.nil.put (some 0) (.pointer t0)).put (some 2) (.bool t2)).put (some 3) (.int .u64 t3)).put (some 5) (.pointer (some t5))).put (some 8) (.pointer (some t8))).put (some 11) (.pointer (some t11))).put (some 12) (.int .u64 t12)).put (some 13) (.pointer (some t13))).put (some 15) (.bool t15)).put (some 124) (.bool t124)), Env.le_put e124 (Env.le_put e15 (Env.le_put e13 (Env.le_put e12 (Env.le_put e11 (Env.le_put e8 (Env.le_put e5 (Env.le_put e3 (Env.le_put e2 (Env.le_put e0 (Env.le_nil _)))))))))), Eq.mp (by kernel_rfl) h⟩), ⟨⟨trivial, ⟨⟨trivial, ⟨trivial, trivial⟩⟩, trivial⟩⟩, ⟨trivial, ⟨(by
    intro φ ρ w h
    simp only [X41.S] at h
    obtain ⟨t0, e0, h⟩ := qP_elim h
    obtain ⟨t2, e2, h⟩ := qB_elim h
    obtain ⟨t3, e3, h⟩ := qI_elim h
    obtain ⟨t5, e5, h⟩ := qA_elim h
    obtain ⟨t8, e8, h⟩ := qA_elim h
    obtain ⟨t11, e11, h⟩ := qA_elim h
    obtain ⟨t12, e12, h⟩ := qI_elim h
    obtain ⟨t13, e13, h⟩ := qA_elim h
    obtain ⟨t16, e16, h⟩ := qA_elim h
    obtain ⟨t17, e17, h⟩ := qB_elim h
    exact ⟨((((((((((Env.nil.put (some 0) (.pointer t0)).put (some 2) (.bool t2)).put (some 3) (.int .u64 t3)).put (some 5) (.pointer (some t5))).put (some 8) (.pointer (some t8))).put (some 11) (.pointer (some t11))).put (some 12) (.int .u64 t12)).put (some 13) (.pointer (some t13))).put (some 16) (.pointer (some t16))).put (some 17) (.bool t17)), Env.le_put e17 (Env.le_put e16 (Env.le_put e13 (Env.le_put e12 (Env.le_put e11 (Env.le_put e8 (Env.le_put e5 (Env.le_put e3 (Env.le_put e2 (Env.le_put e0 (Env.le_nil _)))))))))), Eq.mp (by kernel_rfl) h⟩), ⟨trivial, ⟨(by
    intro φ ρ w h
    simp only [X41.S] at h
    obtain ⟨t0, e0, h⟩ := qP_elim h
    obtain ⟨t3, e3, h⟩ := qI_elim h
    obtain ⟨t5, e5, h⟩ := qA_elim h
    obtain ⟨t8, e8, h⟩ := qA_elim h
    obtain ⟨t11, e11, h⟩ := qA_elim h
    obtain ⟨t12, e12, h⟩ := qI_elim h
    obtain ⟨t13, e13, h⟩ := qA_elim h
    obtain ⟨t15, e15, h⟩ := qB_elim h
    exact ⟨((((((((Env.nil.put (some 0) (.pointer t0)).put (some 3) (.int .u64 t3)).put (some 5) (.pointer (some t5))).put (some 8) (.pointer (some t8))).put (some 11) (.pointer (some t11))).put (some 12) (.int .u64 t12)).put (some 13) (.pointer (some t13))).put (some 15) (.bool t15)), Env.le_put e15 (Env.le_put e13 (Env.le_put e12 (Env.le_put e11 (Env.le_put e8 (Env.le_put e5 (Env.le_put e3 (Env.le_put e0 (Env.le_nil _)))))))), Eq.mp (by kernel_rfl) h⟩), ⟨trivial, ⟨trivial, ⟨⟨trivial, trivial⟩, trivial⟩⟩⟩⟩⟩⟩⟩⟩⟩⟩⟩⟩⟩, ⟨(by
    intro φ ρ w h
    simp only [X41.S] at h
    obtain ⟨t0, e0, h⟩ := qP_elim h
    obtain ⟨t5, e5, h⟩ := qA_elim h
    obtain ⟨t8, e8, h⟩ := qA_elim h
    obtain ⟨t11, e11, h⟩ := qA_elim h
    obtain ⟨t12, e12, h⟩ := qI_elim h
    obtain ⟨t13, e13, h⟩ := qA_elim h
    obtain ⟨t15, e15, h⟩ := qB_elim h
    exact ⟨(((((((Env.nil.put (some 0) (.pointer t0)).put (some 5) (.pointer (some t5))).put (some 8) (.pointer (some t8))).put (some 11) (.pointer (some t11))).put (some 12) (.int .u64 t12)).put (some 13) (.pointer (some t13))).put (some 15) (.bool t15)), Env.le_put e15 (Env.le_put e13 (Env.le_put e12 (Env.le_put e11 (Env.le_put e8 (Env.le_put e5 (Env.le_put e0 (Env.le_nil _))))))), Eq.mp (by kernel_rfl) h⟩), ⟨trivial, ⟨trivial, ⟨trivial, trivial⟩⟩⟩⟩⟩⟩⟩⟩⟩⟩⟩⟩⟩
theorem X41.sound (a0 : Option Addr) (a1_0 a1_1 a1_2 a1_3 a1_4 a1_5 a1_6 a1_7 a1_8 a1_9 : Int) (a1_10p : Option Addr) (a1_10n a1_10c : Nat) (a1_11 a1_12 a1_13 a1_14 a1_15 a1_16 a1_17 : Int) (a1_18p : Option Addr) (a1_18n a1_18c : Nat) (a2 : Bool) (a3 : Int) (w : World) (Q : QT) (h : X41.f a0 a1_0 a1_1 a1_2 a1_3 a1_4 a1_5 a1_6 a1_7 a1_8 a1_9 a1_10p a1_10n a1_10c a1_11 a1_12 a1_13 a1_14 a1_15 a1_16 a1_17 a1_18p a1_18n a1_18c a2 a3 w Q) : CallR Tryz.prog 41 #[.pointer a0, .agg #[.int .i64 a1_0, .int .i64 a1_1, .int .i64 a1_2, .int .u64 a1_3, .int .u64 a1_4, .int .i64 a1_5, .int .i64 a1_6, .int .i64 a1_7, .int .i64 a1_8, .int .u64 a1_9, .slice a1_10p a1_10n a1_10c, .int .u64 a1_11, .int .i64 a1_12, .int .u64 a1_13, .int .i64 a1_14, .int .u64 a1_15, .int .i64 a1_16, .int .u64 a1_17, .slice a1_18p a1_18n a1_18c], .bool a2, .int .u64 a3] w Q :=
  fn_sound noGr mixed Tryz.func41 (c := X41.c) (an := X41.an) (S := X41.S Q) (φ := fun _ => 0) (args := [.pointer a0, .agg #[.int .i64 a1_0, .int .i64 a1_1, .int .i64 a1_2, .int .u64 a1_3, .int .u64 a1_4, .int .i64 a1_5, .int .i64 a1_6, .int .i64 a1_7, .int .i64 a1_8, .int .u64 a1_9, .slice a1_10p a1_10n a1_10c, .int .u64 a1_11, .int .i64 a1_12, .int .u64 a1_13, .int .i64 a1_14, .int .u64 a1_15, .int .i64 a1_16, .int .u64 a1_17, .slice a1_18p a1_18n a1_18c], .bool a2, .int .u64 a3]) (by kernel_rfl) (by kernel_rfl) (by kernel_rfl) (X41.v Q) (Eq.mp (by kernel_rfl) h)
def X43.l0 (Q : QT) : Nat → (Option Addr) → Int → Int → World → Prop
  | 0, _, _, _, _ => False
  | k + 1, t0, t1, t5, w => optP t0 fun p1 => ldSl w (p1.add 4) fun x2p x2n x2c => bcase (decide (t5 < ((x2n : Nat) : Int))) (optP t0 fun p3 => ldSl w (p3.add 4) fun x4p x4n x4c => (0 ≤ t5 ∧ t5 < ((x4n : Nat) : Int)) ∧ optP x4p fun p5 => ldP w (p5.add (Int.toNat t5 * 1)) fun x6 => optP x6 fun p7 => ldI .u64 w (p7.add 0) fun x8 => bcase (x8 == t1) (optP t0 fun p9 => ldSl w (p9.add 4) fun x10p x10n x10c => (0 ≤ t5 ∧ t5 < ((x10n : Nat) : Int)) ∧ optP x10p fun p11 => ldP w (p11.add (Int.toNat t5 * 1)) fun x12 => Q (.pointer x12) w) (X43.l0 Q k t0 t1 (IntKind.wrap .i64 (t5 + (1 : Int))) w)) (Q (.pointer none) w)
def X43.f (a0 : Option Addr) (a1 : Int) (w : World) (Q : QT) : Prop := ∃ m1, X43.l0 Q m1 a0 a1 (0 : Int) w
def X43.S (Q : QT) : Segs
  | 0, φ, ρ, w => qP (ρ 0) fun t0 => qI .u64 (ρ 1) fun t1 => qI .i64 (ρ 5) fun t5 => X43.l0 Q (φ 0) t0 t1 t5 w
  | _, _, _, _ => False
noncomputable def X43.an : Ann := (.seq .leaf (.seq (.seq .leaf (.block (.loop 0 (.seq (.seq .leaf (.cond .leaf .leaf)) (.seq (.block (.seq .leaf (.cond (.seq .leaf .leaf) .leaf))) .leaf))))) (.seq .leaf .leaf)))
noncomputable def X43.c : Code := Tryz.f43.body.getD .skip
theorem X43.v (Q : QT) : V Tryz.prog (X43.S Q) X43.an X43.c (retC Tryz.prog Tryz.f43 Q) := ⟨trivial, ⟨⟨trivial, ⟨(by
    intro φ ρ w h
    simp only [X43.S] at h
    obtain ⟨t0, e0, h⟩ := qP_elim h
    obtain ⟨t1, e1, h⟩ := qI_elim h
    obtain ⟨t5, e5, h⟩ := qI_elim h
    cases hk : φ 0 with
    | zero => rw [hk] at h; exact h.elim
    | succ k => rw [hk] at h; exact ⟨k, Nat.lt_succ_self k, (((Env.nil.put (some 0) (.pointer t0)).put (some 1) (.int .u64 t1)).put (some 5) (.int .i64 t5)), Env.le_put e5 (Env.le_put e1 (Env.le_put e0 (Env.le_nil _))), Eq.mp (by kernel_rfl) h⟩), ⟨⟨trivial, ⟨trivial, trivial⟩⟩, ⟨⟨trivial, ⟨⟨trivial, trivial⟩, trivial⟩⟩, trivial⟩⟩⟩⟩, ⟨trivial, trivial⟩⟩⟩
theorem X43.sound (a0 : Option Addr) (a1 : Int) (w : World) (Q : QT) (h : X43.f a0 a1 w Q) : CallR Tryz.prog 43 #[.pointer a0, .int .u64 a1] w Q :=
  fn_sound noGr mixed Tryz.func43 (c := X43.c) (an := X43.an) (S := X43.S Q) (φ := fun _ => 0) (args := [.pointer a0, .int .u64 a1]) (by kernel_rfl) (by kernel_rfl) (by kernel_rfl) (X43.v Q) (Eq.mp (by kernel_rfl) h)
def X44.l0 (Q : QT) : Nat → (Option Addr) → Int → Int → World → Prop
  | 0, _, _, _, _ => False
  | k + 1, t0, t1, t5, w => optP t0 fun p1 => ldSl w (p1.add 26) fun x2p x2n x2c => bcase (decide (t5 < ((x2n : Nat) : Int))) (optP t0 fun p3 => ldSl w (p3.add 26) fun x4p x4n x4c => (0 ≤ t5 ∧ t5 < ((x4n : Nat) : Int)) ∧ optP x4p fun p5 => ldI .u64 w (p5.add (Int.toNat t5 * 1)) fun x6 => bcase (x6 == t1) (Q (.bool true) w) (X44.l0 Q k t0 t1 (IntKind.wrap .i64 (t5 + (1 : Int))) w)) (Q (.bool false) w)
def X44.f (a0 : Option Addr) (a1 : Int) (w : World) (Q : QT) : Prop := ∃ m1, X44.l0 Q m1 a0 a1 (0 : Int) w
def X44.S (Q : QT) : Segs
  | 0, φ, ρ, w => qP (ρ 0) fun t0 => qI .u64 (ρ 1) fun t1 => qI .i64 (ρ 5) fun t5 => X44.l0 Q (φ 0) t0 t1 t5 w
  | _, _, _, _ => False
noncomputable def X44.an : Ann := (.seq .leaf (.seq (.seq .leaf (.block (.loop 0 (.seq (.seq .leaf (.cond .leaf .leaf)) (.seq (.block (.seq .leaf (.cond (.seq .leaf .leaf) .leaf))) .leaf))))) (.seq .leaf .leaf)))
noncomputable def X44.c : Code := Tryz.f44.body.getD .skip
theorem X44.v (Q : QT) : V Tryz.prog (X44.S Q) X44.an X44.c (retC Tryz.prog Tryz.f44 Q) := ⟨trivial, ⟨⟨trivial, ⟨(by
    intro φ ρ w h
    simp only [X44.S] at h
    obtain ⟨t0, e0, h⟩ := qP_elim h
    obtain ⟨t1, e1, h⟩ := qI_elim h
    obtain ⟨t5, e5, h⟩ := qI_elim h
    cases hk : φ 0 with
    | zero => rw [hk] at h; exact h.elim
    | succ k => rw [hk] at h; exact ⟨k, Nat.lt_succ_self k, (((Env.nil.put (some 0) (.pointer t0)).put (some 1) (.int .u64 t1)).put (some 5) (.int .i64 t5)), Env.le_put e5 (Env.le_put e1 (Env.le_put e0 (Env.le_nil _))), Eq.mp (by kernel_rfl) h⟩), ⟨⟨trivial, ⟨trivial, trivial⟩⟩, ⟨⟨trivial, ⟨⟨trivial, trivial⟩, trivial⟩⟩, trivial⟩⟩⟩⟩, ⟨trivial, trivial⟩⟩⟩
theorem X44.sound (a0 : Option Addr) (a1 : Int) (w : World) (Q : QT) (h : X44.f a0 a1 w Q) : CallR Tryz.prog 44 #[.pointer a0, .int .u64 a1] w Q :=
  fn_sound noGr mixed Tryz.func44 (c := X44.c) (an := X44.an) (S := X44.S Q) (φ := fun _ => 0) (args := [.pointer a0, .int .u64 a1]) (by kernel_rfl) (by kernel_rfl) (by kernel_rfl) (X44.v Q) (Eq.mp (by kernel_rfl) h)
def X45.l0 (Q : QT) : Nat → (Option Addr) → Nat → Nat → (Option Addr) → Nat → Nat → Int → World → Prop
  | 0, _, _, _, _, _, _, _, _ => False
  | k + 1, t0p, t0n, t0c, t1p, t1n, t1c, t5, w => bcase (decide (t5 < ((t0n : Nat) : Int))) (drewK w fun w1 => (0 ≤ t5 ∧ t5 < ((t0n : Nat) : Int)) ∧ optP t0p fun p2 => ldI .u64 w1 (p2.add (Int.toNat t5 * 1)) fun x3 => (0 ≤ t5 ∧ t5 < ((t1n : Nat) : Int)) ∧ optP t1p fun p4 => ldI .u64 w1 (p4.add (Int.toNat t5 * 1)) fun x5 => bcase (x3 != x5) (Q (.bool false) w1) (X45.l0 Q k t0p t0n t0c t1p t1n t1c (IntKind.wrap .i64 (t5 + (1 : Int))) w1)) (Q (.bool true) w)
def X45.f (a0p : Option Addr) (a0n a0c : Nat) (a1p : Option Addr) (a1n a1c : Nat) (w : World) (Q : QT) : Prop := bcase (((a0n : Nat) : Int) != ((a1n : Nat) : Int)) (Q (.bool false) w) (∃ m1, X45.l0 Q m1 a0p a0n a0c a1p a1n a1c (0 : Int) w)
def X45.S (Q : QT) : Segs
  | 0, φ, ρ, w => qSl (ρ 0) fun t0p t0n t0c => qSl (ρ 1) fun t1p t1n t1c => qI .i64 (ρ 5) fun t5 => X45.l0 Q (φ 0) t0p t0n t0c t1p t1n t1c t5 w
  | _, _, _, _ => False
noncomputable def X45.an : Ann := (.seq .leaf (.seq (.seq .leaf (.cond (.seq .leaf .leaf) .leaf)) (.seq (.seq .leaf (.block (.loop 0 (.seq (.seq .leaf (.cond .leaf .leaf)) (.seq (.block (.seq (.draw [0, 0, 3, 7, 0, 0, 48, 112, 255] [[0, 1, 2, 3, 4, 5, 6, 7, 8]]) (.cond (.seq .leaf .leaf) .leaf))) .leaf))))) (.seq .leaf .leaf))))
noncomputable def X45.c : Code := Tryz.f45.body.getD .skip
theorem X45.v (Q : QT) : V Tryz.prog (X45.S Q) X45.an X45.c (retC Tryz.prog Tryz.f45 Q) := ⟨trivial, ⟨⟨trivial, ⟨⟨trivial, trivial⟩, trivial⟩⟩, ⟨⟨trivial, ⟨(by
    intro φ ρ w h
    simp only [X45.S] at h
    obtain ⟨t0p, t0n, t0c, e0, h⟩ := qSl_elim h
    obtain ⟨t1p, t1n, t1c, e1, h⟩ := qSl_elim h
    obtain ⟨t5, e5, h⟩ := qI_elim h
    cases hk : φ 0 with
    | zero => rw [hk] at h; exact h.elim
    | succ k => rw [hk] at h; exact ⟨k, Nat.lt_succ_self k, (((Env.nil.put (some 0) (.slice t0p t0n t0c)).put (some 1) (.slice t1p t1n t1c)).put (some 5) (.int .i64 t5)), Env.le_put e5 (Env.le_put e1 (Env.le_put e0 (Env.le_nil _))), Eq.mp (by kernel_rfl) h⟩), ⟨⟨trivial, ⟨trivial, trivial⟩⟩, ⟨⟨trivial, ⟨⟨trivial, trivial⟩, trivial⟩⟩, trivial⟩⟩⟩⟩, ⟨trivial, trivial⟩⟩⟩⟩
theorem X45.sound (a0p : Option Addr) (a0n a0c : Nat) (a1p : Option Addr) (a1n a1c : Nat) (w : World) (Q : QT) (h : X45.f a0p a0n a0c a1p a1n a1c w Q) : CallR Tryz.prog 45 #[.slice a0p a0n a0c, .slice a1p a1n a1c] w Q :=
  fn_sound noGr mixed Tryz.func45 (c := X45.c) (an := X45.an) (S := X45.S Q) (φ := fun _ => 0) (args := [.slice a0p a0n a0c, .slice a1p a1n a1c]) (by kernel_rfl) (by kernel_rfl) (by kernel_rfl) (X45.v Q) (Eq.mp (by kernel_rfl) h)
def X46.l0 (Q : QT) : Nat → (Option Addr) → Int → (Option Addr) → Nat → Nat → Int → World → Prop
  | 0, _, _, _, _, _, _, _ => False
  | k + 1, t0, t1, t5p, t5n, t5c, t6, w => optP t0 fun p1 => ldSl w ((p1.add 23).add 2) fun x2p x2n x2c => bcase (decide (t6 < ((x2n : Nat) : Int))) (optP t0 fun p3 => ldSl w ((p3.add 23).add 2) fun x4p x4n x4c => (0 ≤ t6 ∧ t6 < ((x4n : Nat) : Int)) ∧ optP x4p fun p5 => ldI .u64 w ((p5.add (Int.toNat t6 * 6)).add 0) fun x6 => bcase (x6 == t1) (optP t0 fun p7 => ldSl w ((p7.add 23).add 2) fun x8p x8n x8c => (0 ≤ t6 ∧ t6 < ((x8n : Nat) : Int)) ∧ optP x8p fun p9 => ldB w ((p9.add (Int.toNat t6 * 6)).add 2) fun x10 => bcase x10 (optP t0 fun p11 => ldSl w ((p11.add 23).add 2) fun x12p x12n x12c => (0 ≤ t6 ∧ t6 < ((x12n : Nat) : Int)) ∧ optP x12p fun p13 => ldI .i64 w ((p13.add (Int.toNat t6 * 6)).add 1) fun x14 => newK w #[.int .u64 (IntKind.wrap .u64 x14)] 22 fun g15 w16 => RunR Tryz.prog (Builtin.append_ #[39, 39] 39 #[.slice t5p t5n t5c, .slice (some g15) 1 1]) w16 fun v17 w18 => ∃ (s19p : Option Addr) (s19n s19c : Nat), v17 = .slice s19p s19n s19c ∧ X46.l0 Q k t0 t1 s19p s19n s19c (IntKind.wrap .i64 (t6 + (1 : Int))) w18) (X46.l0 Q k t0 t1 t5p t5n t5c (IntKind.wrap .i64 (t6 + (1 : Int))) w)) (X46.l0 Q k t0 t1 t5p t5n t5c (IntKind.wrap .i64 (t6 + (1 : Int))) w)) (Q (.slice t5p t5n t5c) w)
def X46.f (a0 : Option Addr) (a1 : Int) (w : World) (Q : QT) : Prop := ∃ m1, X46.l0 Q m1 a0 a1 none 0 0 (0 : Int) w
def X46.S (Q : QT) : Segs
  | 0, φ, ρ, w => qP (ρ 0) fun t0 => qI .u64 (ρ 1) fun t1 => qSl (ρ 5) fun t5p t5n t5c => qI .i64 (ρ 6) fun t6 => X46.l0 Q (φ 0) t0 t1 t5p t5n t5c t6 w
  | _, _, _, _ => False
noncomputable def X46.an : Ann := (.seq .leaf (.seq .leaf (.seq (.seq .leaf (.block (.loop 0 (.seq (.seq .leaf (.cond .leaf .leaf)) (.seq (.block (.seq .leaf (.cond .leaf .leaf))) .leaf))))) (.seq .leaf .leaf))))
noncomputable def X46.c : Code := Tryz.f46.body.getD .skip
theorem X46.v (Q : QT) : V Tryz.prog (X46.S Q) X46.an X46.c (retC Tryz.prog Tryz.f46 Q) := ⟨trivial, ⟨trivial, ⟨⟨trivial, ⟨(by
    intro φ ρ w h
    simp only [X46.S] at h
    obtain ⟨t0, e0, h⟩ := qP_elim h
    obtain ⟨t1, e1, h⟩ := qI_elim h
    obtain ⟨t5p, t5n, t5c, e5, h⟩ := qSl_elim h
    obtain ⟨t6, e6, h⟩ := qI_elim h
    cases hk : φ 0 with
    | zero => rw [hk] at h; exact h.elim
    | succ k => rw [hk] at h; exact ⟨k, Nat.lt_succ_self k, ((((Env.nil.put (some 0) (.pointer t0)).put (some 1) (.int .u64 t1)).put (some 5) (.slice t5p t5n t5c)).put (some 6) (.int .i64 t6)), Env.le_put e6 (Env.le_put e5 (Env.le_put e1 (Env.le_put e0 (Env.le_nil _)))), Eq.mp (by kernel_rfl) h⟩), ⟨⟨trivial, ⟨trivial, trivial⟩⟩, ⟨⟨trivial, ⟨trivial, trivial⟩⟩, trivial⟩⟩⟩⟩, ⟨trivial, trivial⟩⟩⟩⟩
theorem X46.sound (a0 : Option Addr) (a1 : Int) (w : World) (Q : QT) (h : X46.f a0 a1 w Q) : CallR Tryz.prog 46 #[.pointer a0, .int .u64 a1] w Q :=
  fn_sound noGr mixed Tryz.func46 (c := X46.c) (an := X46.an) (S := X46.S Q) (φ := fun _ => 0) (args := [.pointer a0, .int .u64 a1]) (by kernel_rfl) (by kernel_rfl) (by kernel_rfl) (X46.v Q) (Eq.mp (by kernel_rfl) h)
def X56.l0 (Q : QT) : Nat → (Option Addr) → Nat → Nat → (Option Addr) → Nat → Nat → Int → World → Prop
  | 0, _, _, _, _, _, _, _, _ => False
  | k + 1, t0p, t0n, t0c, t1p, t1n, t1c, t5, w => bcase (decide (t5 < ((t0n : Nat) : Int))) (drewK w fun w1 => (0 ≤ t5 ∧ t5 < ((t0n : Nat) : Int)) ∧ optP t0p fun p2 => ldI .i64 w1 ((p2.add (Int.toNat t5 * 2)).add 0) fun x3 => ldI .u64 w1 ((p2.add (Int.toNat t5 * 2)).add 1) fun x4 => (0 ≤ t5 ∧ t5 < ((t1n : Nat) : Int)) ∧ optP t1p fun p5 => ldI .i64 w1 ((p5.add (Int.toNat t5 * 2)).add 0) fun x6 => ldI .u64 w1 ((p5.add (Int.toNat t5 * 2)).add 1) fun x7 => isStruct Tryz.prog 37 ∧ bcase (!((x3 == x6) && ((x4 == x7) && true))) (Q (.bool false) w1) (X56.l0 Q k t0p t0n t0c t1p t1n t1c (IntKind.wrap .i64 (t5 + (1 : Int))) w1)) (Q (.bool true) w)
def X56.f (a0p : Option Addr) (a0n a0c : Nat) (a1p : Option Addr) (a1n a1c : Nat) (w : World) (Q : QT) : Prop := bcase (((a0n : Nat) : Int) != ((a1n : Nat) : Int)) (Q (.bool false) w) (∃ m1, X56.l0 Q m1 a0p a0n a0c a1p a1n a1c (0 : Int) w)
def X56.S (Q : QT) : Segs
  | 0, φ, ρ, w => qSl (ρ 0) fun t0p t0n t0c => qSl (ρ 1) fun t1p t1n t1c => qI .i64 (ρ 5) fun t5 => X56.l0 Q (φ 0) t0p t0n t0c t1p t1n t1c t5 w
  | _, _, _, _ => False
noncomputable def X56.an : Ann := (.seq .leaf (.seq (.seq .leaf (.cond (.seq .leaf .leaf) .leaf)) (.seq (.seq .leaf (.block (.loop 0 (.seq (.seq .leaf (.cond .leaf .leaf)) (.seq (.block (.seq (.draw [0, 0, 3, 7, 0, 0, 48, 112, 255] [[0, 1, 2, 3, 4, 5, 6, 7, 8]]) (.cond (.seq .leaf .leaf) .leaf))) .leaf))))) (.seq .leaf .leaf))))
noncomputable def X56.c : Code := Tryz.f56.body.getD .skip
theorem X56.v (Q : QT) : V Tryz.prog (X56.S Q) X56.an X56.c (retC Tryz.prog Tryz.f56 Q) := ⟨trivial, ⟨⟨trivial, ⟨⟨trivial, trivial⟩, trivial⟩⟩, ⟨⟨trivial, ⟨(by
    intro φ ρ w h
    simp only [X56.S] at h
    obtain ⟨t0p, t0n, t0c, e0, h⟩ := qSl_elim h
    obtain ⟨t1p, t1n, t1c, e1, h⟩ := qSl_elim h
    obtain ⟨t5, e5, h⟩ := qI_elim h
    cases hk : φ 0 with
    | zero => rw [hk] at h; exact h.elim
    | succ k => rw [hk] at h; exact ⟨k, Nat.lt_succ_self k, (((Env.nil.put (some 0) (.slice t0p t0n t0c)).put (some 1) (.slice t1p t1n t1c)).put (some 5) (.int .i64 t5)), Env.le_put e5 (Env.le_put e1 (Env.le_put e0 (Env.le_nil _))), Eq.mp (by kernel_rfl) h⟩), ⟨⟨trivial, ⟨trivial, trivial⟩⟩, ⟨⟨trivial, ⟨⟨trivial, trivial⟩, trivial⟩⟩, trivial⟩⟩⟩⟩, ⟨trivial, trivial⟩⟩⟩⟩
theorem X56.sound (a0p : Option Addr) (a0n a0c : Nat) (a1p : Option Addr) (a1n a1c : Nat) (w : World) (Q : QT) (h : X56.f a0p a0n a0c a1p a1n a1c w Q) : CallR Tryz.prog 56 #[.slice a0p a0n a0c, .slice a1p a1n a1c] w Q :=
  fn_sound noGr mixed Tryz.func56 (c := X56.c) (an := X56.an) (S := X56.S Q) (φ := fun _ => 0) (args := [.slice a0p a0n a0c, .slice a1p a1n a1c]) (by kernel_rfl) (by kernel_rfl) (by kernel_rfl) (X56.v Q) (Eq.mp (by kernel_rfl) h)
def X64.f (a0 : Option Addr) (a1_0 a1_1 a1_2 a1_3 a1_4 a1_5 a1_6 a1_7 a1_8 a1_9 : Int) (a1_10p : Option Addr) (a1_10n a1_10c : Nat) (a1_11 a1_12 a1_13 a1_14 a1_15 a1_16 a1_17 : Int) (a1_18p : Option Addr) (a1_18n a1_18c : Nat) (a2 : Int) (w : World) (Q : QT) : Prop := newK w #[.int .i64 a1_0, .int .i64 a1_1, .int .i64 a1_2, .int .u64 a1_3, .int .u64 a1_4, .int .i64 a1_5, .int .i64 a1_6, .int .i64 a1_7, .int .i64 a1_8, .int .u64 a1_9, .slice a1_10p a1_10n a1_10c, .int .u64 a1_11, .int .i64 a1_12, .int .u64 a1_13, .int .i64 a1_14, .int .u64 a1_15, .int .i64 a1_16, .int .u64 a1_17, .slice a1_18p a1_18n a1_18c] 41 fun g1 w2 => drewK w2 fun w3 => ldI .i64 w3 (g1.add 0) fun x4 => bcase (x4 == a2) (ldI .i64 w3 (g1.add 0) fun x5 => ldI .i64 w3 (g1.add 1) fun x6 => ldI .i64 w3 (g1.add 2) fun x7 => ldI .u64 w3 (g1.add 3) fun x8 => ldI .u64 w3 (g1.add 4) fun x9 => ldI .i64 w3 (g1.add 5) fun x10 => ldI .i64 w3 (g1.add 6) fun x11 => ldI .i64 w3 (g1.add 7) fun x12 => ldI .i64 w3 (g1.add 8) fun x13 => ldI .u64 w3 (g1.add 9) fun x14 => ldSl w3 (g1.add 10) fun x15p x15n x15c => ldI .u64 w3 (g1.add 11) fun x16 => ldI .i64 w3 (g1.add 12) fun x17 => ldI .u64 w3 (g1.add 13) fun x18 => ldI .i64 w3 (g1.add 14) fun x19 => ldI .u64 w3 (g1.add 15) fun x20 => ldI .i64 w3 (g1.add 16) fun x21 => ldI .u64 w3 (g1.add 17) fun x22 => ldSl w3 (g1.add 18) fun x23p x23n x23c => CallR Tryz.prog 88 #[.agg #[.int .i64 x5, .int .i64 x6, .int .i64 x7, .int .u64 x8, .int .u64 x9, .int .i64 x10, .int .i64 x11, .int .i64 x12, .int .i64 x13, .int .u64 x14, .slice x15p x15n x15c, .int .u64 x16, .int .i64 x17, .int .u64 x18, .int .i64 x19, .int .u64 x20, .int .i64 x21, .int .u64 x22, .slice x23p x23n x23c]] w3 fun v24 w25 => ∃ (y26 : Bool), v24 = .bool y26 ∧ bcase y26 (ldI .i64 w25 (g1.add 2) fun x27 => optP a0 fun p28 => ldP w25 (p28.add 22) fun x29 => optP x29 fun p30 => ldI .i64 w25 (p30.add 0) fun x31 => bcase (x27 == x31) (ldI .i64 w25 (g1.add 1) fun x32 => optP a0 fun p33 => ldI .i64 w25 ((p33.add 0).add 0) fun x34 => bcase (decide (x32 ≤ x34)) (ldI .i64 w25 ((g1.add 8).add 0) fun x35 => optP a0 fun p36 => ldP w25 (p36.add 22) fun x37 => optP x37 fun p38 => ldI .i64 w25 (p38.add 0) fun x39 => Q (.bool (x35 == x39)) w25) (Q (.bool false) w25)) (Q (.bool false) w25)) (Q (.bool false) w25)) (Q (.bool false) w3)
def X64.S (Q : QT) : Segs
  | _, _, _, _ => False
noncomputable def X64.an : Ann := (.seq .leaf (.seq (.draw [0, 1, 0, 7, 15, 31, 63, 127, 255, 511, 1023, 511, 2559, 6655, 14847, 31231, 63999, 129535, 262143, 524287, 1048575, 2097151, 4194303, 2097151, 10485759, 27262975, 60817407, 127926271, 268435455, 536870911, 1073741823, 2147483647, 4294967295, 8589934591, 2147483647, 19327352831, 53687091199, 122406567935, 259845521407, 534723428351, 1084479242239, 2199023255551, 4398046511103, 8796093022207] [[0, 1, 2, 3, 4, 5, 6, 7, 8, 9, 10, 11, 12, 13, 14, 15, 16, 17, 18, 19, 20, 21, 22, 23, 24, 25, 26, 27, 28, 29, 30, 31, 32, 33, 34, 35, 36, 37, 38, 39, 40, 41, 42, 43]]) .leaf))
noncomputable def X64.c : Code := Tryz.f64.body.getD .skip
theorem X64.v (Q : QT) : V Tryz.prog (X64.S Q) X64.an X64.c (retC Tryz.prog Tryz.f64 Q) := ⟨trivial, ⟨trivial, trivial⟩⟩
theorem X64.sound (a0 : Option Addr) (a1_0 a1_1 a1_2 a1_3 a1_4 a1_5 a1_6 a1_7 a1_8 a1_9 : Int) (a1_10p : Option Addr) (a1_10n a1_10c : Nat) (a1_11 a1_12 a1_13 a1_14 a1_15 a1_16 a1_17 : Int) (a1_18p : Option Addr) (a1_18n a1_18c : Nat) (a2 : Int) (w : World) (Q : QT) (h : X64.f a0 a1_0 a1_1 a1_2 a1_3 a1_4 a1_5 a1_6 a1_7 a1_8 a1_9 a1_10p a1_10n a1_10c a1_11 a1_12 a1_13 a1_14 a1_15 a1_16 a1_17 a1_18p a1_18n a1_18c a2 w Q) : CallR Tryz.prog 64 #[.pointer a0, .agg #[.int .i64 a1_0, .int .i64 a1_1, .int .i64 a1_2, .int .u64 a1_3, .int .u64 a1_4, .int .i64 a1_5, .int .i64 a1_6, .int .i64 a1_7, .int .i64 a1_8, .int .u64 a1_9, .slice a1_10p a1_10n a1_10c, .int .u64 a1_11, .int .i64 a1_12, .int .u64 a1_13, .int .i64 a1_14, .int .u64 a1_15, .int .i64 a1_16, .int .u64 a1_17, .slice a1_18p a1_18n a1_18c], .int .i64 a2] w Q :=
  fn_sound noGr mixed Tryz.func64 (c := X64.c) (an := X64.an) (S := X64.S Q) (φ := fun _ => 0) (args := [.pointer a0, .agg #[.int .i64 a1_0, .int .i64 a1_1, .int .i64 a1_2, .int .u64 a1_3, .int .u64 a1_4, .int .i64 a1_5, .int .i64 a1_6, .int .i64 a1_7, .int .i64 a1_8, .int .u64 a1_9, .slice a1_10p a1_10n a1_10c, .int .u64 a1_11, .int .i64 a1_12, .int .u64 a1_13, .int .i64 a1_14, .int .u64 a1_15, .int .i64 a1_16, .int .u64 a1_17, .slice a1_18p a1_18n a1_18c], .int .i64 a2]) (by kernel_rfl) (by kernel_rfl) (by kernel_rfl) (X64.v Q) (Eq.mp (by kernel_rfl) h)
def X65.f (a0 a1 : Int) (w : World) (Q : QT) : Prop := 0 ≤ (7 : Int) ∧ Q (.int .u64 (iOr .u64 (iShl .u64 a0 (7 : Int)) (IntKind.wrap .u64 a1))) w
def X65.S (Q : QT) : Segs
  | _, _, _, _ => False
noncomputable def X65.an : Ann := (.seq .leaf (.seq .leaf .leaf))
noncomputable def X65.c : Code := Tryz.f65.body.getD .skip
theorem X65.v (Q : QT) : V Tryz.prog (X65.S Q) X65.an X65.c (retC Tryz.prog Tryz.f65 Q) := ⟨trivial, ⟨trivial, trivial⟩⟩
theorem X65.sound (a0 a1 : Int) (w : World) (Q : QT) (h : X65.f a0 a1 w Q) : CallR Tryz.prog 65 #[.int .u64 a0, .int .i64 a1] w Q :=
  fn_sound noGr mixed Tryz.func65 (c := X65.c) (an := X65.an) (S := X65.S Q) (φ := fun _ => 0) (args := [.int .u64 a0, .int .i64 a1]) (by kernel_rfl) (by kernel_rfl) (by kernel_rfl) (X65.v Q) (Eq.mp (by kernel_rfl) h)
def X66.f (a0 : Option Addr) (a1 : Int) (w : World) (Q : QT) : Prop := newK w #[.int .u64 0, .int .i64 0, .bool false, .int .u64 0, .int .u64 0, .int .i64 0] 52 fun g1 w2 => CallR Tryz.prog 89 #[.pointer a0, .int .u64 a1] w2 fun v3 w4 => ∃ (y5 : Int) (y6 : Bool), v3 = .tuple #[.int .i64 y5, .bool y6] ∧ bcase y6 (optP a0 fun p7 => ldSl w4 (p7.add 2) fun x8p x8n x8c => (0 ≤ y5 ∧ y5 < ((x8n : Nat) : Int)) ∧ optP x8p fun p9 => ldI .u64 w4 ((p9.add (Int.toNat y5 * 6)).add 0) fun x10 => ldI .i64 w4 ((p9.add (Int.toNat y5 * 6)).add 1) fun x11 => ldB w4 ((p9.add (Int.toNat y5 * 6)).add 2) fun x12 => ldI .u64 w4 ((p9.add (Int.toNat y5 * 6)).add 3) fun x13 => ldI .u64 w4 ((p9.add (Int.toNat y5 * 6)).add 4) fun x14 => ldI .i64 w4 ((p9.add (Int.toNat y5 * 6)).add 5) fun x15 => stAll w4 g1 [.int .u64 x10, .int .i64 x11, .bool x12, .int .u64 x13, .int .u64 x14, .int .i64 x15] fun w16 => ldI .u64 w16 (g1.add 0) fun x17 => ldI .i64 w16 (g1.add 1) fun x18 => ldB w16 (g1.add 2) fun x19 => ldI .u64 w16 (g1.add 3) fun x20 => ldI .u64 w16 (g1.add 4) fun x21 => ldI .i64 w16 (g1.add 5) fun x22 => stAll w16 g1 [.int .u64 x17, .int .i64 x18, .bool x19, .int .u64 x20, .int .u64 x21, .int .i64 x22] fun w23 => ldI .u64 w23 (g1.add 0) fun x24 => ldI .i64 w23 (g1.add 1) fun x25 => ldB w23 (g1.add 2) fun x26 => ldI .u64 w23 (g1.add 3) fun x27 => ldI .u64 w23 (g1.add 4) fun x28 => ldI .i64 w23 (g1.add 5) fun x29 => Q (.tuple #[.agg #[.int .u64 x24, .int .i64 x25, .bool x26, .int .u64 x27, .int .u64 x28, .int .i64 x29], .bool y6]) w23) (ldI .u64 w4 (g1.add 0) fun x30 => ldI .i64 w4 (g1.add 1) fun x31 => ldB w4 (g1.add 2) fun x32 => ldI .u64 w4 (g1.add 3) fun x33 => ldI .u64 w4 (g1.add 4) fun x34 => ldI .i64 w4 (g1.add 5) fun x35 => stAll w4 g1 [.int .u64 x30, .int .i64 x31, .bool x32, .int .u64 x33, .int .u64 x34, .int .i64 x35] fun w36 => ldI .u64 w36 (g1.add 0) fun x37 => ldI .i64 w36 (g1.add 1) fun x38 => ldB w36 (g1.add 2) fun x39 => ldI .u64 w36 (g1.add 3) fun x40 => ldI .u64 w36 (g1.add 4) fun x41 => ldI .i64 w36 (g1.add 5) fun x42 => Q (.tuple #[.agg #[.int .u64 x37, .int .i64 x38, .bool x39, .int .u64 x40, .int .u64 x41, .int .i64 x42], .bool y6]) w36)
def X66.S (Q : QT) : Segs
  | _, _, _, _ => False
noncomputable def X66.an : Ann := (.seq .leaf (.seq .leaf (.seq (.seq .leaf (.cond .leaf .leaf)) (.seq .leaf .leaf))))
noncomputable def X66.c : Code := Tryz.f66.body.getD .skip
theorem X66.v (Q : QT) : V Tryz.prog (X66.S Q) X66.an X66.c (retC Tryz.prog Tryz.f66 Q) := ⟨trivial, ⟨trivial, ⟨⟨trivial, ⟨trivial, trivial⟩⟩, ⟨trivial, trivial⟩⟩⟩⟩
theorem X66.sound (a0 : Option Addr) (a1 : Int) (w : World) (Q : QT) (h : X66.f a0 a1 w Q) : CallR Tryz.prog 66 #[.pointer a0, .int .u64 a1] w Q :=
  fn_sound noGr mixed Tryz.func66 (c := X66.c) (an := X66.an) (S := X66.S Q) (φ := fun _ => 0) (args := [.pointer a0, .int .u64 a1]) (by kernel_rfl) (by kernel_rfl) (by kernel_rfl) (X66.v Q) (Eq.mp (by kernel_rfl) h)
def X67.j0 (Q : QT) (t0 : Option Addr) (t5 : Addr) (t7 : Int) (t9p : Option Addr) (t9n t9c : Nat) (t10p : Option Addr) (t10n t10c : Nat) (w : World) : Prop := drewK w fun w1 => (optP t0 fun p2 => ldSl w1 (p2.add 2) fun x3p x3n x3c => (0 ≤ ((0 : Nat) : Int) ∧ ((0 : Nat) : Int) ≤ t7 ∧ t7 ≤ ((x3c : Nat) : Int)) ∧ RunR Tryz.prog (Builtin.append_ #[47, 47] 47 #[.slice t10p t10n t10c, .slice (cutAt 6 x3c (Int.toNat ((0 : Nat) : Int)) x3p) (Int.toNat t7 - Int.toNat ((0 : Nat) : Int)) (x3c - Int.toNat ((0 : Nat) : Int))]) w1 fun v4 w5 => ∃ (s6p : Option Addr) (s6n s6c : Nat), v4 = .slice s6p s6n s6c ∧ ldI .u64 w5 (t5.add 0) fun x7 => ldI .i64 w5 (t5.add 1) fun x8 => ldB w5 (t5.add 2) fun x9 => ldI .u64 w5 (t5.add 3) fun x10 => ldI .u64 w5 (t5.add 4) fun x11 => ldI .i64 w5 (t5.add 5) fun x12 => ((∀ j u, ([.int .u64 x7, .int .i64 x8, .bool x9, .int .u64 x10, .int .u64 x11, .int .i64 x12] : List Value)[j]? = some u → World.cell? w1 (t5.add j) = some u) ∧ (∀ j u, ([.int .u64 x7, .int .i64 x8, .bool x9, .int .u64 x10, .int .u64 x11, .int .i64 x12] : List Value)[j]? = some u → World.cell? w5 (t5.add j) = some u)) ∧ newK w5 #[.int .u64 x7, .int .i64 x8, .bool x9, .int .u64 x10, .int .u64 x11, .int .i64 x12] 52 fun g13 w14 => (World.cell? w5 (p2.add 2) = some (.slice x3p x3n x3c) ∧ World.cell? w14 (p2.add 2) = some (.slice x3p x3n x3c)) ∧ RunR Tryz.prog (Builtin.append_ #[47, 47] 47 #[.slice s6p s6n s6c, .slice (some g13) 1 1]) w14 fun v15 w16 => ∃ (s17p : Option Addr) (s17n s17c : Nat), v15 = .slice s17p s17n s17c ∧ optP t0 fun p18 => ldSl w16 (p18.add 2) fun x19p x19n x19c => (World.cell? w14 (p18.add 2) = some (.slice x19p x19n x19c) ∧ World.cell? w16 (p18.add 2) = some (.slice x19p x19n x19c)) ∧ (World.cell? w5 (p18.add 2) = some (.slice x19p x19n x19c) ∧ World.cell? w14 (p18.add 2) = some (.slice x19p x19n x19c)) ∧ (World.cell? w1 (p18.add 2) = some (.slice x19p x19n x19c) ∧ World.cell? w5 (p18.add 2) = some (.slice x19p x19n x19c)) ∧ (0 ≤ t7 ∧ t7 ≤ ((x19n : Nat) : Int) ∧ ((x19n : Nat) : Int) ≤ ((x19c : Nat) : Int)) ∧ RunR Tryz.prog (Builtin.append_ #[47, 47] 47 #[.slice s17p s17n s17c, .slice (cutAt 6 x19c (Int.toNat t7) x19p) (Int.toNat ((x19n : Nat) : Int) - Int.toNat t7) (x19c - Int.toNat t7)]) w16 fun v20 w21 => ∃ (s22p : Option Addr) (s22n s22c : Nat), v20 = .slice s22p s22n s22c ∧ optP t0 fun p23 => stK w21 (p23.add 1) (.slice t9p t9n t9c) fun w24 => optP t0 fun p25 => stK w24 (p25.add 2) (.slice s22p s22n s22c) fun w26 => Q (.bool true) w26) ∧ (optP t0 fun p27 => ldSl w1 (p27.add 2) fun x28p x28n x28c => (0 ≤ ((0 : Nat) : Int) ∧ ((0 : Nat) : Int) ≤ t7 ∧ t7 ≤ ((x28c : Nat) : Int)) ∧ ldI .u64 w1 (t5.add 0) fun x29 => ldI .i64 w1 (t5.add 1) fun x30 => ldB w1 (t5.add 2) fun x31 => ldI .u64 w1 (t5.add 3) fun x32 => ldI .u64 w1 (t5.add 4) fun x33 => ldI .i64 w1 (t5.add 5) fun x34 => newK w1 #[.int .u64 x29, .int .i64 x30, .bool x31, .int .u64 x32, .int .u64 x33, .int .i64 x34] 52 fun g35 w36 => (World.cell? w1 (p27.add 2) = some (.slice x28p x28n x28c) ∧ World.cell? w36 (p27.add 2) = some (.slice x28p x28n x28c)) ∧ RunR Tryz.prog (Builtin.append_ #[47, 47] 47 #[.slice t10p t10n t10c, .slice (cutAt 6 x28c (Int.toNat ((0 : Nat) : Int)) x28p) (Int.toNat t7 - Int.toNat ((0 : Nat) : Int)) (x28c - Int.toNat ((0 : Nat) : Int))]) w36 fun v37 w38 => ∃ (s39p : Option Addr) (s39n s39c : Nat), v37 = .slice s39p s39n s39c ∧ ((∀ j u, ([.int .u64 x29, .int .i64 x30, .bool x31, .int .u64 x32, .int .u64 x33, .int .i64 x34] : List Value)[j]? = some u → World.cell? w36 (t5.add j) = some u) ∧ (∀ j u, ([.int .u64 x29, .int .i64 x30, .bool x31, .int .u64 x32, .int .u64 x33, .int .i64 x34] : List Value)[j]? = some u → World.cell? w38 (t5.add j) = some u)) ∧ RunR Tryz.prog (Builtin.append_ #[47, 47] 47 #[.slice s39p s39n s39c, .slice (some g35) 1 1]) w38 fun v40 w41 => ∃ (s42p : Option Addr) (s42n s42c : Nat), v40 = .slice s42p s42n s42c ∧ optP t0 fun p43 => ldSl w41 (p43.add 2) fun x44p x44n x44c => (World.cell? w38 (p43.add 2) = some (.slice x44p x44n x44c) ∧ World.cell? w41 (p43.add 2) = some (.slice x44p x44n x44c)) ∧ (World.cell? w36 (p43.add 2) = some (.slice x44p x44n x44c) ∧ World.cell? w38 (p43.add 2) = some (.slice x44p x44n x44c)) ∧ (World.cell? w1 (p43.add 2) = some (.slice x44p x44n x44c) ∧ World.cell? w36 (p43.add 2) = some (.slice x44p x44n x44c)) ∧ (0 ≤ t7 ∧ t7 ≤ ((x44n : Nat) : Int) ∧ ((x44n : Nat) : Int) ≤ ((x44c : Nat) : Int)) ∧ RunR Tryz.prog (Builtin.append_ #[47, 47] 47 #[.slice s42p s42n s42c, .slice (cutAt 6 x44c (Int.toNat t7) x44p) (Int.toNat ((x44n : Nat) : Int) - Int.toNat t7) (x44c - Int.toNat t7)]) w41 fun v45 w46 => ∃ (s47p : Option Addr) (s47n s47c : Nat), v45 = .slice s47p s47n s47c ∧ optP t0 fun p48 => stK w46 (p48.add 1) (.slice t9p t9n t9c) fun w49 => optP t0 fun p50 => stK w49 (p50.add 2) (.slice s47p s47n s47c) fun w51 => Q (.bool true) w51)
def X67.f (a0 : Option Addr) (a1 a2_0 a2_1 : Int) (a2_2 : Bool) (a2_3 a2_4 a2_5 : Int) (w : World) (Q : QT) : Prop := newK w #[.int .u64 a2_0, .int .i64 a2_1, .bool a2_2, .int .u64 a2_3, .int .u64 a2_4, .int .i64 a2_5] 52 fun g1 w2 => CallR Tryz.prog 89 #[.pointer a0, .int .u64 a1] w2 fun v3 w4 => ∃ (y5 : Int) (y6 : Bool), v3 = .tuple #[.int .i64 y5, .bool y6] ∧ bcase y6 (drewK w4 fun w7 => optP a0 fun p8 => ldSl w7 (p8.add 2) fun x9p x9n x9c => ldI .u64 w7 (g1.add 0) fun x10 => ldI .i64 w7 (g1.add 1) fun x11 => ldB w7 (g1.add 2) fun x12 => ldI .u64 w7 (g1.add 3) fun x13 => ldI .u64 w7 (g1.add 4) fun x14 => ldI .i64 w7 (g1.add 5) fun x15 => (0 ≤ y5 ∧ y5 < ((x9n : Nat) : Int)) ∧ optP x9p fun p16 => stAll w7 (p16.add (Int.toNat y5 * 6)) [.int .u64 x10, .int .i64 x11, .bool x12, .int .u64 x13, .int .u64 x14, .int .i64 x15] fun w17 => Q (.bool true) w17) (drewK w4 fun w18 => optP a0 fun p19 => ldSl w18 (p19.add 1) fun x20p x20n x20c => optP a0 fun p21 => ldI .i64 w18 (p21.add 0) fun x22 => bcase (decide (((x20n : Nat) : Int) ≥ x22)) (Q (.bool false) w18) (drewK w18 fun w23 => (optP a0 fun p24 => ldSl w23 (p24.add 1) fun x25p x25n x25c => (0 ≤ ((0 : Nat) : Int) ∧ ((0 : Nat) : Int) ≤ y5 ∧ y5 ≤ ((x25c : Nat) : Int)) ∧ RunR Tryz.prog (Builtin.append_ #[39, 39] 39 #[.slice none 0 0, .slice (cutAt 1 x25c (Int.toNat ((0 : Nat) : Int)) x25p) (Int.toNat y5 - Int.toNat ((0 : Nat) : Int)) (x25c - Int.toNat ((0 : Nat) : Int))]) w23 fun v26 w27 => ∃ (s28p : Option Addr) (s28n s28c : Nat), v26 = .slice s28p s28n s28c ∧ newK w27 #[.int .u64 a1] 22 fun g29 w30 => (World.cell? w27 (p24.add 1) = some (.slice x25p x25n x25c) ∧ World.cell? w30 (p24.add 1) = some (.slice x25p x25n x25c)) ∧ RunR Tryz.prog (Builtin.append_ #[39, 39] 39 #[.slice s28p s28n s28c, .slice (some g29) 1 1]) w30 fun v31 w32 => ∃ (s33p : Option Addr) (s33n s33c : Nat), v31 = .slice s33p s33n s33c ∧ optP a0 fun p34 => ldSl w32 (p34.add 1) fun x35p x35n x35c => (World.cell? w30 (p34.add 1) = some (.slice x35p x35n x35c) ∧ World.cell? w32 (p34.add 1) = some (.slice x35p x35n x35c)) ∧ (World.cell? w27 (p34.add 1) = some (.slice x35p x35n x35c) ∧ World.cell? w30 (p34.add 1) = some (.slice x35p x35n x35c)) ∧ (World.cell? w23 (p34.add 1) = some (.slice x35p x35n x35c) ∧ World.cell? w27 (p34.add 1) = some (.slice x35p x35n x35c)) ∧ (0 ≤ y5 ∧ y5 ≤ ((x35n : Nat) : Int) ∧ ((x35n : Nat) : Int) ≤ ((x35c : Nat) : Int)) ∧ RunR Tryz.prog (Builtin.append_ #[39, 39] 39 #[.slice s33p s33n s33c, .slice (cutAt 1 x35c (Int.toNat y5) x35p) (Int.toNat ((x35n : Nat) : Int) - Int.toNat y5) (x35c - Int.toNat y5)]) w32 fun v36 w37 => ∃ (s38p : Option Addr) (s38n s38c : Nat), v36 = .slice s38p s38n s38c ∧ X67.j0 Q a0 g1 y5 s38p s38n s38c none 0 0 w37) ∧ (optP a0 fun p39 => ldSl w23 (p39.add 1) fun x40p x40n x40c => (0 ≤ ((0 : Nat) : Int) ∧ ((0 : Nat) : Int) ≤ y5 ∧ y5 ≤ ((x40c : Nat) : Int)) ∧ newK w23 #[.int .u64 a1] 22 fun g41 w42 => (World.cell? w23 (p39.add 1) = some (.slice x40p x40n x40c) ∧ World.cell? w42 (p39.add 1) = some (.slice x40p x40n x40c)) ∧ RunR Tryz.prog (Builtin.append_ #[39, 39] 39 #[.slice none 0 0, .slice (cutAt 1 x40c (Int.toNat ((0 : Nat) : Int)) x40p) (Int.toNat y5 - Int.toNat ((0 : Nat) : Int)) (x40c - Int.toNat ((0 : Nat) : Int))]) w42 fun v43 w44 => ∃ (s45p : Option Addr) (s45n s45c : Nat), v43 = .slice s45p s45n s45c ∧ RunR Tryz.prog (Builtin.append_ #[39, 39] 39 #[.slice s45p s45n s45c, .slice (some g41) 1 1]) w44 fun v46 w47 => ∃ (s48p : Option Addr) (s48n s48c : Nat), v46 = .slice s48p s48n s48c ∧ optP a0 fun p49 => ldSl w47 (p49.add 1) fun x50p x50n x50c => (World.cell? w44 (p49.add 1) = some (.slice x50p x50n x50c) ∧ World.cell? w47 (p49.add 1) = some (.slice x50p x50n x50c)) ∧ (World.cell? w42 (p49.add 1) = some (.slice x50p x50n x50c) ∧ World.cell? w44 (p49.add 1) = some (.slice x50p x50n x50c)) ∧ (World.cell? w23 (p49.add 1) = some (.slice x50p x50n x50c) ∧ World.cell? w42 (p49.add 1) = some (.slice x50p x50n x50c)) ∧ (0 ≤ y5 ∧ y5 ≤ ((x50n : Nat) : Int) ∧ ((x50n : Nat) : Int) ≤ ((x50c : Nat) : Int)) ∧ RunR Tryz.prog (Builtin.append_ #[39, 39] 39 #[.slice s48p s48n s48c, .slice (cutAt 1 x50c (Int.toNat y5) x50p) (Int.toNat ((x50n : Nat) : Int) - Int.toNat y5) (x50c - Int.toNat y5)]) w47 fun v51 w52 => ∃ (s53p : Option Addr) (s53n s53c : Nat), v51 = .slice s53p s53n s53c ∧ X67.j0 Q a0 g1 y5 s53p s53n s53c none 0 0 w52)))
def X67.S (Q : QT) : Segs
  | 0, φ, ρ, w => qP (ρ 0) fun t0 => qA (ρ 5) fun t5 => qI .i64 (ρ 7) fun t7 => qSl (ρ 9) fun t9p t9n t9c => qSl (ρ 10) fun t10p t10n t10c => X67.j0 Q t0 t5 t7 t9p t9n t9c t10p t10n t10c w
  | _, _, _, _ => False
noncomputable def X67.an : Ann := (.seq .leaf (.seq .leaf (.seq (.seq .leaf (.cond (.seq (.draw [0, 1, 3, 7, 0, 0, 63, 127] [[0, 1, 2, 3, 4, 5, 6, 7]]) (.seq .leaf .leaf)) .leaf)) (.seq (.seq (.draw [0, 1, 3, 7, 15, 0, 32, 96, 224, 511] [[0, 1, 2, 3, 4, 5, 6, 7, 8, 9]]) (.cond (.seq .leaf .leaf) .leaf)) (.seq .leaf (.seq .leaf (.seq (.draw [0, 0, 2, 6, 14, 0, 62, 127, 0, 256, 1023, 0, 2048, 6144, 14336, 0, 63488, 131071, 262143] [[0, 1, 2, 3, 4, 5, 6, 7, 8, 9, 10, 11, 12, 13, 14, 15, 16, 17, 18], [0, 1, 2, 3, 4, 5, 6, 8, 9, 7, 10, 11, 12, 13, 14, 15, 16, 17, 18]]) (.join 0 (.seq (.draw [0, 0, 2, 6, 14, 0, 62, 127, 0, 256, 1023, 0, 2048, 6144, 14336, 0, 63488, 131071, 262143] [[0, 1, 2, 3, 4, 5, 6, 7, 8, 9, 10, 11, 12, 13, 14, 15, 16, 17, 18], [0, 1, 2, 3, 4, 5, 6, 8, 9, 7, 10, 11, 12, 13, 14, 15, 16, 17, 18]]) (.seq .leaf (.seq .leaf (.seq .leaf .leaf))))))))))))
noncomputable def X67.c : Code := Tryz.f67.body.getD .skip
theorem X67.v (Q : QT) : V Tryz.prog (X67.S Q) X67.an X67.c (retC Tryz.prog Tryz.f67 Q) := ⟨trivial, ⟨trivial, ⟨⟨trivial, ⟨⟨trivial, ⟨trivial, trivial⟩⟩, trivial⟩⟩, ⟨⟨trivial, ⟨⟨trivial, trivial⟩, trivial⟩⟩, ⟨trivial, ⟨trivial, ⟨trivial, ⟨(by
    intro φ ρ w h
    simp only [X67.S] at h
    obtain ⟨t0, e0, h⟩ := qP_elim h
    obtain ⟨t5, e5, h⟩ := qA_elim h
    obtain ⟨t7, e7, h⟩ := qI_elim h
    obtain ⟨t9p, t9n, t9c, e9, h⟩ := qSl_elim h
    obtain ⟨t10p, t10n, t10c, e10, h⟩ := qSl_elim h
    exact ⟨(((((Env.nil.put (some 0) (.pointer t0)).put (some 5) (.pointer (some t5))).put (some 7) (.int .i64 t7)).put (some 9) (.slice t9p t9n t9c)).put (some 10) (.slice t10p t10n t10c)), Env.le_put e10 (Env.le_put e9 (Env.le_put e7 (Env.le_put e5 (Env.le_put e0 (Env.le_nil _))))), Eq.mp (by kernel_rfl) h⟩), ⟨trivial, ⟨trivial, ⟨trivial, ⟨trivial, trivial⟩⟩⟩⟩⟩⟩⟩⟩⟩⟩⟩⟩
theorem X67.sound (a0 : Option Addr) (a1 a2_0 a2_1 : Int) (a2_2 : Bool) (a2_3 a2_4 a2_5 : Int) (w : World) (Q : QT) (h : X67.f a0 a1 a2_0 a2_1 a2_2 a2_3 a2_4 a2_5 w Q) : CallR Tryz.prog 67 #[.pointer a0, .int .u64 a1, .agg #[.int .u64 a2_0, .int .i64 a2_1, .bool a2_2, .int .u64 a2_3, .int .u64 a2_4, .int .i64 a2_5]] w Q :=
  fn_sound noGr mixed Tryz.func67 (c := X67.c) (an := X67.an) (S := X67.S Q) (φ := fun _ => 0) (args := [.pointer a0, .int .u64 a1, .agg #[.int .u64 a2_0, .int .i64 a2_1, .bool a2_2, .int .u64 a2_3, .int .u64 a2_4, .int .i64 a2_5]]) (by kernel_rfl) (by kernel_rfl) (by kernel_rfl) (X67.v Q) (Eq.mp (by kernel_rfl) h)
def X68.l0 (Q : QT) : Nat → (Option Addr) → Int → Int → Int → World → Prop
  | 0, _, _, _, _, _ => False
  | k + 1, t0, t1, t4, t5, w => optP t0 fun p1 => ldSl w ((p1.add 23).add 2) fun x2p x2n x2c => bcase (decide (t5 < ((x2n : Nat) : Int))) (optP t0 fun p3 => ldSl w ((p3.add 23).add 2) fun x4p x4n x4c => (0 ≤ t5 ∧ t5 < ((x4n : Nat) : Int)) ∧ optP x4p fun p5 => ldI .u64 w ((p5.add (Int.toNat t5 * 6)).add 0) fun x6 => ldI .i64 w ((p5.add (Int.toNat t5 * 6)).add 1) fun x7 => ldB w ((p5.add (Int.toNat t5 * 6)).add 2) fun x8 => ldI .u64 w ((p5.add (Int.toNat t5 * 6)).add 3) fun x9 => ldI .u64 w ((p5.add (Int.toNat t5 * 6)).add 4) fun x10 => ldI .i64 w ((p5.add (Int.toNat t5 * 6)).add 5) fun x11 => newK w #[.int .u64 0, .int .i64 0, .bool false, .int .u64 0, .int .u64 0, .int .i64 0] 52 fun g12 w13 => stAll w13 g12 [.int .u64 x6, .int .i64 x7, .bool x8, .int .u64 x9, .int .u64 x10, .int .i64 x11] fun w14 => ldI .u64 w14 (g12.add 0) fun x15 => bcase (x15 == t1) (ldB w14 (g12.add 2) fun x16 => bcase x16 (bcase (t4 == (0 : Int)) (ldI .i64 w14 (g12.add 5) fun x17 => X68.l0 Q k t0 t1 x17 (IntKind.wrap .i64 (t5 + (1 : Int))) w14) (ldI .i64 w14 (g12.add 5) fun x18 => bcase (decide (x18 < t4)) (ldI .i64 w14 (g12.add 5) fun x19 => X68.l0 Q k t0 t1 x19 (IntKind.wrap .i64 (t5 + (1 : Int))) w14) (X68.l0 Q k t0 t1 t4 (IntKind.wrap .i64 (t5 + (1 : Int))) w14))) (X68.l0 Q k t0 t1 t4 (IntKind.wrap .i64 (t5 + (1 : Int))) w14)) (X68.l0 Q k t0 t1 t4 (IntKind.wrap .i64 (t5 + (1 : Int))) w14)) (CallR Tryz.prog 44 #[.pointer t0, .int .u64 t1] w fun v20 w21 => ∃ (y22 : Bool), v20 = .bool y22 ∧ bcase y22 (optP t0 fun p23 => ldP w21 (p23.add 22) fun x24 => CallR Tryz.prog 90 #[.pointer x24, .int .u64 t1, .int .i64 0] w21 fun v25 w26 => ∃ (y27 : Int), v25 = .int .i64 y27 ∧ Q (.tuple #[]) w26) (optP t0 fun p28 => ldP w21 (p28.add 22) fun x29 => CallR Tryz.prog 90 #[.pointer x29, .int .u64 t1, .int .i64 t4] w21 fun v30 w31 => ∃ (y32 : Int), v30 = .int .i64 y32 ∧ Q (.tuple #[]) w31))
def X68.f (a0 : Option Addr) (a1 : Int) (w : World) (Q : QT) : Prop := ∃ m1, X68.l0 Q m1 a0 a1 (0 : Int) (0 : Int) w
def X68.S (Q : QT) : Segs
  | 0, φ, ρ, w => qP (ρ 0) fun t0 => qI .u64 (ρ 1) fun t1 => qI .i64 (ρ 4) fun t4 => qI .i64 (ρ 5) fun t5 => X68.l0 Q (φ 0) t0 t1 t4 t5 w
  | _, _, _, _ => False
noncomputable def X68.an : Ann := (.seq .leaf (.seq (.seq .leaf (.block (.loop 0 (.seq (.seq .leaf (.cond .leaf .leaf)) (.seq (.block (.seq .leaf (.seq .leaf (.cond .leaf .leaf)))) .leaf))))) (.seq (.seq .leaf (.cond .leaf .leaf)) .leaf)))
noncomputable def X68.c : Code := Tryz.f68.body.getD .skip
theorem X68.v (Q : QT) : V Tryz.prog (X68.S Q) X68.an X68.c (retC Tryz.prog Tryz.f68 Q) := ⟨trivial, ⟨⟨trivial, ⟨(by
    intro φ ρ w h
    simp only [X68.S] at h
    obtain ⟨t0, e0, h⟩ := qP_elim h
    obtain ⟨t1, e1, h⟩ := qI_elim h
    obtain ⟨t4, e4, h⟩ := qI_elim h
    obtain ⟨t5, e5, h⟩ := qI_elim h
    cases hk : φ 0 with
    | zero => rw [hk] at h; exact h.elim
    | succ k => rw [hk] at h; exact ⟨k, Nat.lt_succ_self k, ((((Env.nil.put (some 0) (.pointer t0)).put (some 1) (.int .u64 t1)).put (some 4) (.int .i64 t4)).put (some 5) (.int .i64 t5)), Env.le_put e5 (Env.le_put e4 (Env.le_put e1 (Env.le_put e0 (Env.le_nil _)))), Eq.mp (by kernel_rfl) h⟩), ⟨⟨trivial, ⟨trivial, trivial⟩⟩, ⟨⟨trivial, ⟨trivial, ⟨trivial, trivial⟩⟩⟩, trivial⟩⟩⟩⟩, ⟨⟨trivial, ⟨trivial, trivial⟩⟩, trivial⟩⟩⟩
theorem X68.sound (a0 : Option Addr) (a1 : Int) (w : World) (Q : QT) (h : X68.f a0 a1 w Q) : CallR Tryz.prog 68 #[.pointer a0, .int .u64 a1] w Q :=
  fn_sound noGr mixed Tryz.func68 (c := X68.c) (an := X68.an) (S := X68.S Q) (φ := fun _ => 0) (args := [.pointer a0, .int .u64 a1]) (by kernel_rfl) (by kernel_rfl) (by kernel_rfl) (X68.v Q) (Eq.mp (by kernel_rfl) h)
def X71.f (a0 : Option Addr) (a1 : Int) (w : World) (Q : QT) : Prop := CallR Tryz.prog 92 #[.pointer a0, .int .u64 a1] w fun v1 w2 => ∃ (y3 : Int) (y4 : Bool), v1 = .tuple #[.int .u64 y3, .bool y4] ∧ bcase y4 (Q (.tuple #[.int .u64 y3, .bool true]) w2) (CallR Tryz.prog 93 #[.pointer a0] w2 fun v5 w6 => ∃ (y7 : Int) (y8 : Bool), v5 = .tuple #[.int .u64 y7, .bool y8] ∧ Q (.tuple #[.int .u64 y7, .bool y8]) w6)
def X71.S (Q : QT) : Segs
  | _, _, _, _ => False
noncomputable def X71.an : Ann := (.seq .leaf (.seq .leaf (.seq (.seq .leaf (.cond (.seq .leaf .leaf) .leaf)) (.seq .leaf .leaf))))
noncomputable def X71.c : Code := Tryz.f71.body.getD .skip
theorem X71.v (Q : QT) : V Tryz.prog (X71.S Q) X71.an X71.c (retC Tryz.prog Tryz.f71 Q) := ⟨trivial, ⟨trivial, ⟨⟨trivial, ⟨⟨trivial, trivial⟩, trivial⟩⟩, ⟨trivial, trivial⟩⟩⟩⟩
theorem X71.sound (a0 : Option Addr) (a1 : Int) (w : World) (Q : QT) (h : X71.f a0 a1 w Q) : CallR Tryz.prog 71 #[.pointer a0, .int .u64 a1] w Q :=
  fn_sound noGr mixed Tryz.func71 (c := X71.c) (an := X71.an) (S := X71.S Q) (φ := fun _ => 0) (args := [.pointer a0, .int .u64 a1]) (by kernel_rfl) (by kernel_rfl) (by kernel_rfl) (X71.v Q) (Eq.mp (by kernel_rfl) h)
def X72.f (a0 a1 a2 : Int) (w : World) (Q : QT) : Prop := bcase (decide (a2 ≥ a0)) (Q (.bool (decide ((IntKind.wrap .u64 (a2 - a0)) ≥ a1))) w) (Q (.bool false) w)
def X72.S (Q : QT) : Segs
  | _, _, _, _ => False
noncomputable def X72.an : Ann := (.seq .leaf (.seq .leaf .leaf))
noncomputable def X72.c : Code := Tryz.f72.body.getD .skip
theorem X72.v (Q : QT) : V Tryz.prog (X72.S Q) X72.an X72.c (retC Tryz.prog Tryz.f72 Q) := ⟨trivial, ⟨trivial, trivial⟩⟩
theorem X72.sound (a0 a1 a2 : Int) (w : World) (Q : QT) (h : X72.f a0 a1 a2 w Q) : CallR Tryz.prog 72 #[.int .u64 a0, .int .u64 a1, .int .u64 a2] w Q :=
  fn_sound noGr mixed Tryz.func72 (c := X72.c) (an := X72.an) (S := X72.S Q) (φ := fun _ => 0) (args := [.int .u64 a0, .int .u64 a1, .int .u64 a2]) (by kernel_rfl) (by kernel_rfl) (by kernel_rfl) (X72.v Q) (Eq.mp (by kernel_rfl) h)
def X74.l0 (Q : QT) : Nat → (Option Addr) → Int → (Option Addr) → Nat → Nat → Int → World → Prop
  | 0, _, _, _, _, _, _, _ => False
  | k + 1, t0, t1, t4p, t4n, t4c, t5, w => optP t0 fun p1 => ldSl w (p1.add 26) fun x2p x2n x2c => bcase (decide (t5 < ((x2n : Nat) : Int))) (optP t0 fun p3 => ldSl w (p3.add 26) fun x4p x4n x4c => (0 ≤ t5 ∧ t5 < ((x4n : Nat) : Int)) ∧ optP x4p fun p5 => ldI .u64 w (p5.add (Int.toNat t5 * 1)) fun x6 => bcase (x6 != t1) (optP t0 fun p7 => ldSl w (p7.add 26) fun x8p x8n x8c => (0 ≤ t5 ∧ t5 < ((x8n : Nat) : Int)) ∧ optP x8p fun p9 => ldI .u64 w (p9.add (Int.toNat t5 * 1)) fun x10 => newK w #[.int .u64 x10] 22 fun g11 w12 => RunR Tryz.prog (Builtin.append_ #[39, 39] 39 #[.slice t4p t4n t4c, .slice (some g11) 1 1]) w12 fun v13 w14 => ∃ (s15p : Option Addr) (s15n s15c : Nat), v13 = .slice s15p s15n s15c ∧ X74.l0 Q k t0 t1 s15p s15n s15c (IntKind.wrap .i64 (t5 + (1 : Int))) w14) (X74.l0 Q k t0 t1 t4p t4n t4c (IntKind.wrap .i64 (t5 + (1 : Int))) w)) (optP t0 fun p16 => stK w (p16.add 26) (.slice t4p t4n t4c) fun w17 => Q (.tuple #[]) w17)
def X74.f (a0 : Option Addr) (a1 : Int) (w : World) (Q : QT) : Prop := ∃ m1, X74.l0 Q m1 a0 a1 none 0 0 (0 : Int) w
def X74.S (Q : QT) : Segs
  | 0, φ, ρ, w => qP (ρ 0) fun t0 => qI .u64 (ρ 1) fun t1 => qSl (ρ 4) fun t4p t4n t4c => qI .i64 (ρ 5) fun t5 => X74.l0 Q (φ 0) t0 t1 t4p t4n t4c t5 w
  | _, _, _, _ => False
noncomputable def X74.an : Ann := (.seq .leaf (.seq (.seq .leaf (.block (.loop 0 (.seq (.seq .leaf (.cond .leaf .leaf)) (.seq (.block (.seq .leaf (.cond .leaf .leaf))) .leaf))))) .leaf))
noncomputable def X74.c : Code := Tryz.f74.body.getD .skip
theorem X74.v (Q : QT) : V Tryz.prog (X74.S Q) X74.an X74.c (retC Tryz.prog Tryz.f74 Q) := ⟨trivial, ⟨⟨trivial, ⟨(by
    intro φ ρ w h
    simp only [X74.S] at h
    obtain ⟨t0, e0, h⟩ := qP_elim h
    obtain ⟨t1, e1, h⟩ := qI_elim h
    obtain ⟨t4p, t4n, t4c, e4, h⟩ := qSl_elim h
    obtain ⟨t5, e5, h⟩ := qI_elim h
    cases hk : φ 0 with
    | zero => rw [hk] at h; exact h.elim
    | succ k => rw [hk] at h; exact ⟨k, Nat.lt_succ_self k, ((((Env.nil.put (some 0) (.pointer t0)).put (some 1) (.int .u64 t1)).put (some 4) (.slice t4p t4n t4c)).put (some 5) (.int .i64 t5)), Env.le_put e5 (Env.le_put e4 (Env.le_put e1 (Env.le_put e0 (Env.le_nil _)))), Eq.mp (by kernel_rfl) h⟩), ⟨⟨trivial, ⟨trivial, trivial⟩⟩, ⟨⟨trivial, ⟨trivial, trivial⟩⟩, trivial⟩⟩⟩⟩, trivial⟩⟩
theorem X74.sound (a0 : Option Addr) (a1 : Int) (w : World) (Q : QT) (h : X74.f a0 a1 w Q) : CallR Tryz.prog 74 #[.pointer a0, .int .u64 a1] w Q :=
  fn_sound noGr mixed Tryz.func74 (c := X74.c) (an := X74.an) (S := X74.S Q) (φ := fun _ => 0) (args := [.pointer a0, .int .u64 a1]) (by kernel_rfl) (by kernel_rfl) (by kernel_rfl) (X74.v Q) (Eq.mp (by kernel_rfl) h)
def X76.f (a0 : Option Addr) (a1 : Int) (w : World) (Q : QT) : Prop := CallR Tryz.prog 89 #[.pointer a0, .int .u64 a1] w fun v1 w2 => ∃ (y3 : Int) (y4 : Bool), v1 = .tuple #[.int .i64 y3, .bool y4] ∧ bcase y4 (drewK w2 fun w5 => newK w5 #[] 22 fun g6 w7 => optP a0 fun p8 => ldSl w7 (p8.add 1) fun x9p x9n x9c => (World.cell? w5 (p8.add 1) = some (.slice x9p x9n x9c) ∧ World.cell? w7 (p8.add 1) = some (.slice x9p x9n x9c)) ∧ (0 ≤ ((0 : Nat) : Int) ∧ ((0 : Nat) : Int) ≤ y3 ∧ y3 ≤ ((x9c : Nat) : Int)) ∧ RunR Tryz.prog (Builtin.append_ #[39, 39] 39 #[.slice (some g6) 0 0, .slice (cutAt 1 x9c (Int.toNat ((0 : Nat) : Int)) x9p) (Int.toNat y3 - Int.toNat ((0 : Nat) : Int)) (x9c - Int.toNat ((0 : Nat) : Int))]) w7 fun v10 w11 => ∃ (s12p : Option Addr) (s12n s12c : Nat), v10 = .slice s12p s12n s12c ∧ optP a0 fun p13 => ldSl w11 (p13.add 1) fun x14p x14n x14c => (World.cell? w7 (p13.add 1) = some (.slice x14p x14n x14c) ∧ World.cell? w11 (p13.add 1) = some (.slice x14p x14n x14c)) ∧ (World.cell? w5 (p13.add 1) = some (.slice x14p x14n x14c) ∧ World.cell? w7 (p13.add 1) = some (.slice x14p x14n x14c)) ∧ (0 ≤ (IntKind.wrap .i64 (y3 + (1 : Int))) ∧ (IntKind.wrap .i64 (y3 + (1 : Int))) ≤ ((x14n : Nat) : Int) ∧ ((x14n : Nat) : Int) ≤ ((x14c : Nat) : Int)) ∧ RunR Tryz.prog (Builtin.append_ #[39, 39] 39 #[.slice s12p s12n s12c, .slice (cutAt 1 x14c (Int.toNat (IntKind.wrap .i64 (y3 + (1 : Int)))) x14p) (Int.toNat ((x14n : Nat) : Int) - Int.toNat (IntKind.wrap .i64 (y3 + (1 : Int)))) (x14c - Int.toNat (IntKind.wrap .i64 (y3 + (1 : Int))))]) w11 fun v15 w16 => ∃ (s17p : Option Addr) (s17n s17c : Nat), v15 = .slice s17p s17n s17c ∧ optP a0 fun p18 => stK w16 (p18.add 1) (.slice s17p s17n s17c) fun w19 => drewK w19 fun w20 => newK w20 #[] 52 fun g21 w22 => optP a0 fun p23 => ldSl w22 (p23.add 2) fun x24p x24n x24c => (World.cell? w20 (p23.add 2) = some (.slice x24p x24n x24c) ∧ World.cell? w22 (p23.add 2) = some (.slice x24p x24n x24c)) ∧ (0 ≤ ((0 : Nat) : Int) ∧ ((0 : Nat) : Int) ≤ y3 ∧ y3 ≤ ((x24c : Nat) : Int)) ∧ RunR Tryz.prog (Builtin.append_ #[47, 47] 47 #[.slice (some g21) 0 0, .slice (cutAt 6 x24c (Int.toNat ((0 : Nat) : Int)) x24p) (Int.toNat y3 - Int.toNat ((0 : Nat) : Int)) (x24c - Int.toNat ((0 : Nat) : Int))]) w22 fun v25 w26 => ∃ (s27p : Option Addr) (s27n s27c : Nat), v25 = .slice s27p s27n s27c ∧ optP a0 fun p28 => ldSl w26 (p28.add 2) fun x29p x29n x29c => (World.cell? w22 (p28.add 2) = some (.slice x29p x29n x29c) ∧ World.cell? w26 (p28.add 2) = some (.slice x29p x29n x29c)) ∧ (World.cell? w20 (p28.add 2) = some (.slice x29p x29n x29c) ∧ World.cell? w22 (p28.add 2) = some (.slice x29p x29n x29c)) ∧ (0 ≤ (IntKind.wrap .i64 (y3 + (1 : Int))) ∧ (IntKind.wrap .i64 (y3 + (1 : Int))) ≤ ((x29n : Nat) : Int) ∧ ((x29n : Nat) : Int) ≤ ((x29c : Nat) : Int)) ∧ RunR Tryz.prog (Builtin.append_ #[47, 47] 47 #[.slice s27p s27n s27c, .slice (cutAt 6 x29c (Int.toNat (IntKind.wrap .i64 (y3 + (1 : Int)))) x29p) (Int.toNat ((x29n : Nat) : Int) - Int.toNat (IntKind.wrap .i64 (y3 + (1 : Int)))) (x29c - Int.toNat (IntKind.wrap .i64 (y3 + (1 : Int))))]) w26 fun v30 w31 => ∃ (s32p : Option Addr) (s32n s32c : Nat), v30 = .slice s32p s32n s32c ∧ optP a0 fun p33 => stK w31 (p33.add 2) (.slice s32p s32n s32c) fun w34 => Q (.bool y4) w34) (Q (.bool y4) w2)
def X76.S (Q : QT) : Segs
  | _, _, _, _ => False
noncomputable def X76.an : Ann := (.seq .leaf (.seq .leaf (.seq (.seq .leaf (.cond (.seq (.draw [0, 0, 0, 4, 12, 28, 0, 124, 254, 0, 512, 1536, 3584, 0, 8192, 32256, 65534, 131071, 262143, 524287] [[0, 1, 2, 3, 4, 5, 6, 7, 8, 9, 10, 11, 12, 13, 14, 15, 16, 17, 18, 19]]) (.draw [0, 0, 0, 4, 12, 28, 0, 124, 254, 0, 512, 1536, 3584, 0, 8192, 32256, 65534, 131071, 262143, 524287] [[0, 1, 2, 3, 4, 5, 6, 7, 8, 9, 10, 11, 12, 13, 14, 15, 16, 17, 18, 19]])) .leaf)) (.seq .leaf .leaf))))
noncomputable def X76.c : Code := Tryz.f76.body.getD .skip
theorem X76.v (Q : QT) : V Tryz.prog (X76.S Q) X76.an X76.c (retC Tryz.prog Tryz.f76 Q) := ⟨trivial, ⟨trivial, ⟨⟨trivial, ⟨⟨trivial, trivial⟩, trivial⟩⟩, ⟨trivial, trivial⟩⟩⟩⟩
theorem X76.sound (a0 : Option Addr) (a1 : Int) (w : World) (Q : QT) (h : X76.f a0 a1 w Q) : CallR Tryz.prog 76 #[.pointer a0, .int .u64 a1] w Q :=
  fn_sound noGr mixed Tryz.func76 (c := X76.c) (an := X76.an) (S := X76.S Q) (φ := fun _ => 0) (args := [.pointer a0, .int .u64 a1]) (by kernel_rfl) (by kernel_rfl) (by kernel_rfl) (X76.v Q) (Eq.mp (by kernel_rfl) h)
def X78.f (a0 : Option Addr) (a1 : Int) (w : World) (Q : QT) : Prop := CallR Tryz.prog 98 #[.pointer a0, .int .i64 a1] w fun v1 w2 => ∃ (y3 : Int), v1 = .int .i64 y3 ∧ bcase (y3 == (0 : Int)) (Q (.int .i64 9) w2) ((16 : Int) ≠ 0 ∧ drewK w2 fun w4 => optP a0 fun p5 => ldSl w4 (p5.add 1) fun x6p x6n x6c => (16 : Int) ≠ 0 ∧ y3 ≠ 0 ∧ (0 ≤ (IntKind.wrap .i64 (Int.tdiv a1 (16 : Int))) ∧ (IntKind.wrap .i64 (Int.tdiv a1 (16 : Int))) < ((x6n : Nat) : Int)) ∧ optP x6p fun p7 => (0 ≤ (IntKind.wrap .i64 (Int.tdiv (Int.tmod a1 (16 : Int)) y3)) ∧ (IntKind.wrap .i64 (Int.tdiv (Int.tmod a1 (16 : Int)) y3)) < ((16 : Nat) : Int)) ∧ stK w4 ((p7.add (Int.toNat (IntKind.wrap .i64 (Int.tdiv a1 (16 : Int))) * 16)).add (Int.toNat (IntKind.wrap .i64 (Int.tdiv (Int.tmod a1 (16 : Int)) y3)) * 1)) (.bool false) fun w8 => optP a0 fun p9 => ldSl w8 (p9.add 1) fun x10p x10n x10c => (0 ≤ (IntKind.wrap .i64 (Int.tdiv a1 (16 : Int))) ∧ (IntKind.wrap .i64 (Int.tdiv a1 (16 : Int))) < ((x10n : Nat) : Int)) ∧ optP x10p fun p11 => ldB w8 ((p11.add (Int.toNat (IntKind.wrap .i64 (Int.tdiv a1 (16 : Int))) * 16)).add 0) fun x12 => ldB w8 ((p11.add (Int.toNat (IntKind.wrap .i64 (Int.tdiv a1 (16 : Int))) * 16)).add 1) fun x13 => ldB w8 ((p11.add (Int.toNat (IntKind.wrap .i64 (Int.tdiv a1 (16 : Int))) * 16)).add 2) fun x14 => ldB w8 ((p11.add (Int.toNat (IntKind.wrap .i64 (Int.tdiv a1 (16 : Int))) * 16)).add 3) fun x15 => ldB w8 ((p11.add (Int.toNat (IntKind.wrap .i64 (Int.tdiv a1 (16 : Int))) * 16)).add 4) fun x16 => ldB w8 ((p11.add (Int.toNat (IntKind.wrap .i64 (Int.tdiv a1 (16 : Int))) * 16)).add 5) fun x17 => ldB w8 ((p11.add (Int.toNat (IntKind.wrap .i64 (Int.tdiv a1 (16 : Int))) * 16)).add 6) fun x18 => ldB w8 ((p11.add (Int.toNat (IntKind.wrap .i64 (Int.tdiv a1 (16 : Int))) * 16)).add 7) fun x19 => ldB w8 ((p11.add (Int.toNat (IntKind.wrap .i64 (Int.tdiv a1 (16 : Int))) * 16)).add 8) fun x20 => ldB w8 ((p11.add (Int.toNat (IntKind.wrap .i64 (Int.tdiv a1 (16 : Int))) * 16)).add 9) fun x21 => ldB w8 ((p11.add (Int.toNat (IntKind.wrap .i64 (Int.tdiv a1 (16 : Int))) * 16)).add 10) fun x22 => ldB w8 ((p11.add (Int.toNat (IntKind.wrap .i64 (Int.tdiv a1 (16 : Int))) * 16)).add 11) fun x23 => ldB w8 ((p11.add (Int.toNat (IntKind.wrap .i64 (Int.tdiv a1 (16 : Int))) * 16)).add 12) fun x24 => ldB w8 ((p11.add (Int.toNat (IntKind.wrap .i64 (Int.tdiv a1 (16 : Int))) * 16)).add 13) fun x25 => ldB w8 ((p11.add (Int.toNat (IntKind.wrap .i64 (Int.tdiv a1 (16 : Int))) * 16)).add 14) fun x26 => ldB w8 ((p11.add (Int.toNat (IntKind.wrap .i64 (Int.tdiv a1 (16 : Int))) * 16)).add 15) fun x27 => bcase ((x12 == false) && ((x13 == false) && ((x14 == false) && ((x15 == false) && ((x16 == false) && ((x17 == false) && ((x18 == false) && ((x19 == false) && ((x20 == false) && ((x21 == false) && ((x22 == false) && ((x23 == false) && ((x24 == false) && ((x25 == false) && ((x26 == false) && ((x27 == false) && true)))))))))))))))) (optP a0 fun p28 => ldSl w8 (p28.add 0) fun x29p x29n x29c => (0 ≤ (IntKind.wrap .i64 (Int.tdiv a1 (16 : Int))) ∧ (IntKind.wrap .i64 (Int.tdiv a1 (16 : Int))) < ((x29n : Nat) : Int)) ∧ optP x29p fun p30 => stK w8 (p30.add (Int.toNat (IntKind.wrap .i64 (Int.tdiv a1 (16 : Int))) * 1)) (.int .i64 0) fun w31 => Q (.int .i64 0) w31) (Q (.int .i64 0) w8))
def X78.S (Q : QT) : Segs
  | _, _, _, _ => False
noncomputable def X78.an : Ann := (.seq .leaf (.seq .leaf (.seq (.seq .leaf (.cond (.seq .leaf .leaf) .leaf)) (.seq .leaf (.seq (.draw [0, 1, 3, 7, 0, 0, 32, 0, 224, 31, 1023, 2047] [[0, 1, 2, 3, 4, 5, 6, 7, 8, 9, 10, 11]]) (.seq (.seq .leaf (.cond .leaf .leaf)) (.seq .leaf .leaf)))))))
noncomputable def X78.c : Code := Tryz.f78.body.getD .skip
theorem X78.v (Q : QT) : V Tryz.prog (X78.S Q) X78.an X78.c (retC Tryz.prog Tryz.f78 Q) := ⟨trivial, ⟨trivial, ⟨⟨trivial, ⟨⟨trivial, trivial⟩, trivial⟩⟩, ⟨trivial, ⟨trivial, ⟨⟨trivial, ⟨trivial, trivial⟩⟩, ⟨trivial, trivial⟩⟩⟩⟩⟩⟩⟩
theorem X78.sound (a0 : Option Addr) (a1 : Int) (w : World) (Q : QT) (h : X78.f a0 a1 w Q) : CallR Tryz.prog 78 #[.pointer a0, .int .i64 a1] w Q :=
  fn_sound noGr mixed Tryz.func78 (c := X78.c) (an := X78.an) (S := X78.S Q) (φ := fun _ => 0) (args := [.pointer a0, .int .i64 a1]) (by kernel_rfl) (by kernel_rfl) (by kernel_rfl) (X78.v Q) (Eq.mp (by kernel_rfl) h)
def X88.l1 (Q : QT) : Nat → Addr → Int → World → Prop
  | 0, _, _, _ => False
  | k + 1, t1, t4, w => ldSl w (t1.add 18) fun x1p x1n x1c => bcase (decide (t4 < ((x1n : Nat) : Int))) (drewK w fun w2 => ldSl w2 (t1.add 18) fun x3p x3n x3c => (0 ≤ t4 ∧ t4 < ((x3n : Nat) : Int)) ∧ optP x3p fun p4 => ldI .u64 w2 (p4.add (Int.toNat t4 * 1)) fun x5 => bcase (decide (x5 < (1 : Int))) (Q (.bool false) w2) (ldSl w2 (t1.add 18) fun x6p x6n x6c => (0 ≤ t4 ∧ t4 < ((x6n : Nat) : Int)) ∧ optP x6p fun p7 => ldI .u64 w2 (p7.add (Int.toNat t4 * 1)) fun x8 => bcase (decide (x8 > (72057594037927935 : Int))) (Q (.bool false) w2) (bcase (decide (t4 > (0 : Int))) (ldSl w2 (t1.add 18) fun x9p x9n x9c => (0 ≤ t4 ∧ t4 < ((x9n : Nat) : Int)) ∧ optP x9p fun p10 => ldI .u64 w2 (p10.add (Int.toNat t4 * 1)) fun x11 => ldSl w2 (t1.add 18) fun x12p x12n x12c => (0 ≤ (IntKind.wrap .i64 (t4 - (1 : Int))) ∧ (IntKind.wrap .i64 (t4 - (1 : Int))) < ((x12n : Nat) : Int)) ∧ optP x12p fun p13 => ldI .u64 w2 (p13.add (Int.toNat (IntKind.wrap .i64 (t4 - (1 : Int))) * 1)) fun x14 => bcase (decide (x11 ≤ x14)) (Q (.bool false) w2) (X88.l1 Q k t1 (IntKind.wrap .i64 (t4 + (1 : Int))) w2)) (X88.l1 Q k t1 (IntKind.wrap .i64 (t4 + (1 : Int))) w2)))) (Q (.bool true) w)
def X88.l0 (Q : QT) : Nat → Addr → Int → World → Prop
  | 0, _, _, _ => False
  | k + 1, t1, t3, w => ldSl w (t1.add 10) fun x1p x1n x1c => bcase (decide (t3 < ((x1n : Nat) : Int))) (ldSl w (t1.add 10) fun x2p x2n x2c => (0 ≤ t3 ∧ t3 < ((x2n : Nat) : Int)) ∧ optP x2p fun p3 => ldI .i64 w ((p3.add (Int.toNat t3 * 2)).add 0) fun x4 => ldI .u64 w ((p3.add (Int.toNat t3 * 2)).add 1) fun x5 => CallR Tryz.prog 112 #[.agg #[.int .i64 x4, .int .u64 x5]] w fun v6 w7 => ∃ (y8 : Bool), v6 = .bool y8 ∧ bcase (!y8) (Q (.bool false) w7) (X88.l0 Q k t1 (IntKind.wrap .i64 (t3 + (1 : Int))) w7)) (∃ m9, X88.l1 Q m9 t1 (0 : Int) w)
def X88.j2 (Q : QT) (t1 : Addr) (w : World) : Prop := ∃ m1, X88.l0 Q m1 t1 (0 : Int) w
def X88.j3 (Q : QT) (t1 : Addr) (w : World) : Prop := ldSl w (t1.add 10) fun x1p x1n x1c => bcase (decide (((x1n : Nat) : Int) > (0 : Int))) (ldI .i64 w (t1.add 0) fun x2 => CallR Tryz.prog 111 #[.int .i64 x2, .string (⟨#[114, 101, 102, 115]⟩ : ByteArray)] w fun v3 w4 => ∃ (y5 : Bool), v3 = .bool y5 ∧ bcase (!y5) (Q (.bool false) w4) (ldSl w4 (t1.add 10) fun x6p x6n x6c => bcase (decide (((x6n : Nat) : Int) > (2 : Int))) (Q (.bool false) w4) (ldSl w4 (t1.add 18) fun x7p x7n x7c => bcase (decide (((x7n : Nat) : Int) > (0 : Int))) (ldI .i64 w4 (t1.add 0) fun x8 => CallR Tryz.prog 111 #[.int .i64 x8, .string (⟨#[108, 105, 115, 116]⟩ : ByteArray)] w4 fun v9 w10 => ∃ (y11 : Bool), v9 = .bool y11 ∧ bcase (!y11) (Q (.bool false) w10) (ldSl w10 (t1.add 18) fun x12p x12n x12c => bcase (decide (((x12n : Nat) : Int) > (64 : Int))) (Q (.bool false) w10) (X88.j2 Q t1 w10))) (ldSl w4 (t1.add 18) fun x13p x13n x13c => bcase (decide (((x13n : Nat) : Int) > (64 : Int))) (Q (.bool false) w4) (X88.j2 Q t1 w4))))) (ldSl w (t1.add 10) fun x14p x14n x14c => bcase (decide (((x14n : Nat) : Int) > (2 : Int))) (Q (.bool false) w) (ldSl w (t1.add 18) fun x15p x15n x15c => bcase (decide (((x15n : Nat) : Int) > (0 : Int))) (ldI .i64 w (t1.add 0) fun x16 => CallR Tryz.prog 111 #[.int .i64 x16, .string (⟨#[108, 105, 115, 116]⟩ : ByteArray)] w fun v17 w18 => ∃ (y19 : Bool), v17 = .bool y19 ∧ bcase (!y19) (Q (.bool false) w18) (ldSl w18 (t1.add 18) fun x20p x20n x20c => bcase (decide (((x20n : Nat) : Int) > (64 : Int))) (Q (.bool false) w18) (X88.j2 Q t1 w18))) (ldSl w (t1.add 18) fun x21p x21n x21c => bcase (decide (((x21n : Nat) : Int) > (64 : Int))) (Q (.bool false) w) (X88.j2 Q t1 w))))
def X88.f (a0_0 a0_1 a0_2 a0_3 a0_4 a0_5 a0_6 a0_7 a0_8 a0_9 : Int) (a0_10p : Option Addr) (a0_10n a0_10c : Nat) (a0_11 a0_12 a0_13 a0_14 a0_15 a0_16 a0_17 : Int) (a0_18p : Option Addr) (a0_18n a0_18c : Nat) (w : World) (Q : QT) : Prop := newK w #[.int .i64 a0_0, .int .i64 a0_1, .int .i64 a0_2, .int .u64 a0_3, .int .u64 a0_4, .int .i64 a0_5, .int .i64 a0_6, .int .i64 a0_7, .int .i64 a0_8, .int .u64 a0_9, .slice a0_10p a0_10n a0_10c, .int .u64 a0_11, .int .i64 a0_12, .int .u64 a0_13, .int .i64 a0_14, .int .u64 a0_15, .int .i64 a0_16, .int .u64 a0_17, .slice a0_18p a0_18n a0_18c] 41 fun g1 w2 => ldI .i64 w2 (g1.add 0) fun x3 => CallR Tryz.prog 108 #[.int .i64 x3, .int .i64 1, .int .i64 11] w2 fun v4 w5 => ∃ (y6 : Bool), v4 = .bool y6 ∧ bcase (!y6) (Q (.bool false) w5) (ldI .i64 w5 (g1.add 1) fun x7 => CallR Tryz.prog 108 #[.int .i64 x7, .int .i64 1, .int .i64 64] w5 fun v8 w9 => ∃ (y10 : Bool), v8 = .bool y10 ∧ bcase (!y10) (Q (.bool false) w9) (ldI .i64 w9 (g1.add 2) fun x11 => CallR Tryz.prog 108 #[.int .i64 x11, .int .i64 1, .int .i64 64] w9 fun v12 w13 => ∃ (y14 : Bool), v12 = .bool y14 ∧ bcase (!y14) (Q (.bool false) w13) (ldI .i64 w13 (g1.add 1) fun x15 => ldI .i64 w13 (g1.add 2) fun x16 => bcase (x15 == x16) (Q (.bool false) w13) (ldI .i64 w13 (g1.add 0) fun x17 => ldI .i64 w13 (g1.add 1) fun x18 => ldI .i64 w13 (g1.add 2) fun x19 => ldI .u64 w13 (g1.add 3) fun x20 => ldI .u64 w13 (g1.add 4) fun x21 => ldI .i64 w13 (g1.add 5) fun x22 => ldI .i64 w13 (g1.add 6) fun x23 => ldI .i64 w13 (g1.add 7) fun x24 => ldI .i64 w13 (g1.add 8) fun x25 => ldI .u64 w13 (g1.add 9) fun x26 => ldSl w13 (g1.add 10) fun x27p x27n x27c => ldI .u64 w13 (g1.add 11) fun x28 => ldI .i64 w13 (g1.add 12) fun x29 => ldI .u64 w13 (g1.add 13) fun x30 => ldI .i64 w13 (g1.add 14) fun x31 => ldI .u64 w13 (g1.add 15) fun x32 => ldI .i64 w13 (g1.add 16) fun x33 => ldI .u64 w13 (g1.add 17) fun x34 => ldSl w13 (g1.add 18) fun x35p x35n x35c => CallR Tryz.prog 109 #[.agg #[.int .i64 x17, .int .i64 x18, .int .i64 x19, .int .u64 x20, .int .u64 x21, .int .i64 x22, .int .i64 x23, .int .i64 x24, .int .i64 x25, .int .u64 x26, .slice x27p x27n x27c, .int .u64 x28, .int .i64 x29, .int .u64 x30, .int .i64 x31, .int .u64 x32, .int .i64 x33, .int .u64 x34, .slice x35p x35n x35c]] w13 fun v36 w37 => ∃ (y38 : Bool), v36 = .bool y38 ∧ bcase (!y38) (Q (.bool false) w37) (ldI .i64 w37 (g1.add 0) fun x39 => ldI .i64 w37 (g1.add 1) fun x40 => ldI .i64 w37 (g1.add 2) fun x41 => ldI .u64 w37 (g1.add 3) fun x42 => ldI .u64 w37 (g1.add 4) fun x43 => ldI .i64 w37 (g1.add 5) fun x44 => ldI .i64 w37 (g1.add 6) fun x45 => ldI .i64 w37 (g1.add 7) fun x46 => ldI .i64 w37 (g1.add 8) fun x47 => ldI .u64 w37 (g1.add 9) fun x48 => ldSl w37 (g1.add 10) fun x49p x49n x49c => ldI .u64 w37 (g1.add 11) fun x50 => ldI .i64 w37 (g1.add 12) fun x51 => ldI .u64 w37 (g1.add 13) fun x52 => ldI .i64 w37 (g1.add 14) fun x53 => ldI .u64 w37 (g1.add 15) fun x54 => ldI .i64 w37 (g1.add 16) fun x55 => ldI .u64 w37 (g1.add 17) fun x56 => ldSl w37 (g1.add 18) fun x57p x57n x57c => CallR Tryz.prog 110 #[.agg #[.int .i64 x39, .int .i64 x40, .int .i64 x41, .int .u64 x42, .int .u64 x43, .int .i64 x44, .int .i64 x45, .int .i64 x46, .int .i64 x47, .int .u64 x48, .slice x49p x49n x49c, .int .u64 x50, .int .i64 x51, .int .u64 x52, .int .i64 x53, .int .u64 x54, .int .i64 x55, .int .u64 x56, .slice x57p x57n x57c]] w37 fun v58 w59 => ∃ (y60 : Bool), v58 = .bool y60 ∧ bcase (!y60) (Q (.bool false) w59) (X88.j3 Q g1 w59))))))
def X88.S (Q : QT) : Segs
  | 0, φ, ρ, w => qA (ρ 1) fun t1 => qI .i64 (ρ 3) fun t3 => X88.l0 Q (φ 0) t1 t3 w
  | 1, φ, ρ, w => qA (ρ 1) fun t1 => qI .i64 (ρ 4) fun t4 => X88.l1 Q (φ 1) t1 t4 w
  | 2, φ, ρ, w => qA (ρ 1) fun t1 => X88.j2 Q t1 w
  | 3, φ, ρ, w => qA (ρ 1) fun t1 => X88.j3 Q t1 w
  | _, _, _, _ => False
noncomputable def X88.an : Ann := (.seq .leaf (.seq (.seq .leaf (.cond (.seq .leaf .leaf) .leaf)) (.join 3 (.seq (.seq .leaf (.cond (.seq .leaf .leaf) .leaf)) (.join 2 (.seq (.seq .leaf (.block (.loop 0 (.seq (.seq .leaf (.cond .leaf .leaf)) (.seq (.block (.seq .leaf (.cond (.seq .leaf .leaf) .leaf))) .leaf))))) (.seq (.seq .leaf (.block (.loop 1 (.seq (.seq .leaf (.cond .leaf .leaf)) (.seq (.block (.seq (.draw [0, 1, 0, 7, 15, 31, 63, 127, 255, 127, 1023, 2047, 4095, 8191, 16383, 32767, 65535, 131071, 262143, 524287, 262143, 2097151, 4194303, 262143, 8650751, 262143, 33816575, 126091263, 260308991, 536870911, 1073741823, 2147483647] [[0, 1, 2, 3, 4, 5, 6, 7, 8, 9, 10, 11, 12, 13, 14, 15, 16, 17, 18, 19, 20, 21, 22, 23, 24, 25, 26, 27, 28, 29, 30, 31]]) (.cond (.seq .leaf .leaf) .leaf))) .leaf))))) (.seq .leaf .leaf))))))))
noncomputable def X88.c : Code := Tryz.f88.body.getD .skip
theorem X88.v (Q : QT) : V Tryz.prog (X88.S Q) X88.an X88.c (retC Tryz.prog Tryz.f88 Q) := ⟨trivial, ⟨⟨trivial, ⟨⟨trivial, trivial⟩, trivial⟩⟩, ⟨(by
    intro φ ρ w h
    simp only [X88.S] at h
    obtain ⟨t1, e1, h⟩ := qA_elim h
    exact ⟨(Env.nil.put (some 1) (.pointer (some t1))), Env.le_put e1 (Env.le_nil _), Eq.mp (by kernel_rfl) h⟩), ⟨⟨trivial, ⟨⟨trivial, trivial⟩, trivial⟩⟩, ⟨(by
    intro φ ρ w h
    simp only [X88.S] at h
    obtain ⟨t1, e1, h⟩ := qA_elim h
    exact ⟨(Env.nil.put (some 1) (.pointer (some t1))), Env.le_put e1 (Env.le_nil _), Eq.mp (by kernel_rfl) h⟩), ⟨⟨trivial, ⟨(by
    intro φ ρ w h
    simp only [X88.S] at h
    obtain ⟨t1, e1, h⟩ := qA_elim h
    obtain ⟨t3, e3, h⟩ := qI_elim h
    cases hk : φ 0 with
    | zero => rw [hk] at h; exact h.elim
    | succ k => rw [hk] at h; exact ⟨k, Nat.lt_succ_self k, ((Env.nil.put (some 1) (.pointer (some t1))).put (some 3) (.int .i64 t3)), Env.le_put e3 (Env.le_put e1 (Env.le_nil _)), Eq.mp (by kernel_rfl) h⟩), ⟨⟨trivial, ⟨trivial, trivial⟩⟩, ⟨⟨trivial, ⟨⟨trivial, trivial⟩, trivial⟩⟩, trivial⟩⟩⟩⟩, ⟨⟨trivial, ⟨(by
    intro φ ρ w h
    simp only [X88.S] at h
    obtain ⟨t1, e1, h⟩ := qA_elim h
    obtain ⟨t4, e4, h⟩ := qI_elim h
    cases hk : φ 1 with
    | zero => rw [hk] at h; exact h.elim
    | succ k => rw [hk] at h; exact ⟨k, Nat.lt_succ_self k, ((Env.nil.put (some 1) (.pointer (some t1))).put (some 4) (.int .i64 t4)), Env.le_put e4 (Env.le_put e1 (Env.le_nil _)), Eq.mp (by kernel_rfl) h⟩), ⟨⟨trivial, ⟨trivial, trivial⟩⟩, ⟨⟨trivial, ⟨⟨trivial, trivial⟩, trivial⟩⟩, trivial⟩⟩⟩⟩, ⟨trivial, trivial⟩⟩⟩⟩⟩⟩⟩⟩
theorem X88.sound (a0_0 a0_1 a0_2 a0_3 a0_4 a0_5 a0_6 a0_7 a0_8 a0_9 : Int) (a0_10p : Option Addr) (a0_10n a0_10c : Nat) (a0_11 a0_12 a0_13 a0_14 a0_15 a0_16 a0_17 : Int) (a0_18p : Option Addr) (a0_18n a0_18c : Nat) (w : World) (Q : QT) (h : X88.f a0_0 a0_1 a0_2 a0_3 a0_4 a0_5 a0_6 a0_7 a0_8 a0_9 a0_10p a0_10n a0_10c a0_11 a0_12 a0_13 a0_14 a0_15 a0_16 a0_17 a0_18p a0_18n a0_18c w Q) : CallR Tryz.prog 88 #[.agg #[.int .i64 a0_0, .int .i64 a0_1, .int .i64 a0_2, .int .u64 a0_3, .int .u64 a0_4, .int .i64 a0_5, .int .i64 a0_6, .int .i64 a0_7, .int .i64 a0_8, .int .u64 a0_9, .slice a0_10p a0_10n a0_10c, .int .u64 a0_11, .int .i64 a0_12, .int .u64 a0_13, .int .i64 a0_14, .int .u64 a0_15, .int .i64 a0_16, .int .u64 a0_17, .slice a0_18p a0_18n a0_18c]] w Q :=
  fn_sound noGr mixed Tryz.func88 (c := X88.c) (an := X88.an) (S := X88.S Q) (φ := fun _ => 0) (args := [.agg #[.int .i64 a0_0, .int .i64 a0_1, .int .i64 a0_2, .int .u64 a0_3, .int .u64 a0_4, .int .i64 a0_5, .int .i64 a0_6, .int .i64 a0_7, .int .i64 a0_8, .int .u64 a0_9, .slice a0_10p a0_10n a0_10c, .int .u64 a0_11, .int .i64 a0_12, .int .u64 a0_13, .int .i64 a0_14, .int .u64 a0_15, .int .i64 a0_16, .int .u64 a0_17, .slice a0_18p a0_18n a0_18c]]) (by kernel_rfl) (by kernel_rfl) (by kernel_rfl) (X88.v Q) (Eq.mp (by kernel_rfl) h)
def X89.l0 (Q : QT) : Nat → (Option Addr) → Int → Int → World → Prop
  | 0, _, _, _, _ => False
  | k + 1, t0, t1, t6, w => optP t0 fun p1 => ldSl w (p1.add 1) fun x2p x2n x2c => bcase (decide (t6 < ((x2n : Nat) : Int))) (optP t0 fun p3 => ldSl w (p3.add 1) fun x4p x4n x4c => (0 ≤ t6 ∧ t6 < ((x4n : Nat) : Int)) ∧ optP x4p fun p5 => ldI .u64 w (p5.add (Int.toNat t6 * 1)) fun x6 => bcase (decide (x6 ≥ t1)) (drewK w fun w7 => optP t0 fun p8 => ldSl w7 (p8.add 1) fun x9p x9n x9c => (0 ≤ t6 ∧ t6 < ((x9n : Nat) : Int)) ∧ optP x9p fun p10 => ldI .u64 w7 (p10.add (Int.toNat t6 * 1)) fun x11 => Q (.tuple #[.int .i64 t6, .bool (x11 == t1)]) w7) (X89.l0 Q k t0 t1 (IntKind.wrap .i64 (t6 + (1 : Int))) w)) (optP t0 fun p12 => ldSl w (p12.add 1) fun x13p x13n x13c => Q (.tuple #[.int .i64 ((x13n : Nat) : Int), .bool false]) w)
def X89.f (a0 : Option Addr) (a1 : Int) (w : World) (Q : QT) : Prop := ∃ m1, X89.l0 Q m1 a0 a1 (0 : Int) w
def X89.S (Q : QT) : Segs
  | 0, φ, ρ, w => qP (ρ 0) fun t0 => qI .u64 (ρ 1) fun t1 => qI .i64 (ρ 6) fun t6 => X89.l0 Q (φ 0) t0 t1 t6 w
  | _, _, _, _ => False
noncomputable def X89.an : Ann := (.seq .leaf (.seq (.seq .leaf (.block (.loop 0 (.seq (.seq .leaf (.cond .leaf .leaf)) (.seq (.block (.seq .leaf (.cond (.seq (.draw [0, 0, 2, 6, 14, 0, 62, 126, 0, 510, 1, 2047] [[0, 1, 2, 3, 4, 5, 6, 7, 8, 9, 10, 11]]) .leaf) .leaf))) .leaf))))) (.seq .leaf .leaf)))
noncomputable def X89.c : Code := Tryz.f89.body.getD .skip
theorem X89.v (Q : QT) : V Tryz.prog (X89.S Q) X89.an X89.c (retC Tryz.prog Tryz.f89 Q) := ⟨trivial, ⟨⟨trivial, ⟨(by
    intro φ ρ w h
    simp only [X89.S] at h
    obtain ⟨t0, e0, h⟩ := qP_elim h
    obtain ⟨t1, e1, h⟩ := qI_elim h
    obtain ⟨t6, e6, h⟩ := qI_elim h
    cases hk : φ 0 with
    | zero => rw [hk] at h; exact h.elim
    | succ k => rw [hk] at h; exact ⟨k, Nat.lt_succ_self k, (((Env.nil.put (some 0) (.pointer t0)).put (some 1) (.int .u64 t1)).put (some 6) (.int .i64 t6)), Env.le_put e6 (Env.le_put e1 (Env.le_put e0 (Env.le_nil _))), Eq.mp (by kernel_rfl) h⟩), ⟨⟨trivial, ⟨trivial, trivial⟩⟩, ⟨⟨trivial, ⟨⟨trivial, trivial⟩, trivial⟩⟩, trivial⟩⟩⟩⟩, ⟨trivial, trivial⟩⟩⟩
theorem X89.sound (a0 : Option Addr) (a1 : Int) (w : World) (Q : QT) (h : X89.f a0 a1 w Q) : CallR Tryz.prog 89 #[.pointer a0, .int .u64 a1] w Q :=
  fn_sound noGr mixed Tryz.func89 (c := X89.c) (an := X89.an) (S := X89.S Q) (φ := fun _ => 0) (args := [.pointer a0, .int .u64 a1]) (by kernel_rfl) (by kernel_rfl) (by kernel_rfl) (X89.v Q) (Eq.mp (by kernel_rfl) h)
def X90.f (a0 : Option Addr) (a1 a2 : Int) (w : World) (Q : QT) : Prop := bcase (decide (a2 < (0 : Int))) (Q (.int .i64 1) w) (bcase (decide (a2 > (40 : Int))) (Q (.int .i64 1) w) (CallR Tryz.prog 43 #[.pointer a0, .int .u64 a1] w fun v1 w2 => ∃ (y3 : Option Addr), v1 = .pointer y3 ∧ bcase (Option.isNone y3) (Q (.int .i64 5) w2) (optP y3 fun p4 => stK w2 (p4.add 4) (.int .i64 a2) fun w5 => Q (.int .i64 0) w5)))
def X90.S (Q : QT) : Segs
  | _, _, _, _ => False
noncomputable def X90.an : Ann := (.seq .leaf (.seq (.seq .leaf (.cond (.seq .leaf .leaf) .leaf)) (.seq .leaf (.seq (.seq .leaf (.cond (.seq .leaf .leaf) .leaf)) (.seq .leaf (.seq .leaf .leaf))))))
noncomputable def X90.c : Code := Tryz.f90.body.getD .skip
theorem X90.v (Q : QT) : V Tryz.prog (X90.S Q) X90.an X90.c (retC Tryz.prog Tryz.f90 Q) := ⟨trivial, ⟨⟨trivial, ⟨⟨trivial, trivial⟩, trivial⟩⟩, ⟨trivial, ⟨⟨trivial, ⟨⟨trivial, trivial⟩, trivial⟩⟩, ⟨trivial, ⟨trivial, trivial⟩⟩⟩⟩⟩⟩
theorem X90.sound (a0 : Option Addr) (a1 a2 : Int) (w : World) (Q : QT) (h : X90.f a0 a1 a2 w Q) : CallR Tryz.prog 90 #[.pointer a0, .int .u64 a1, .int .i64 a2] w Q :=
  fn_sound noGr mixed Tryz.func90 (c := X90.c) (an := X90.an) (S := X90.S Q) (φ := fun _ => 0) (args := [.pointer a0, .int .u64 a1, .int .i64 a2]) (by kernel_rfl) (by kernel_rfl) (by kernel_rfl) (X90.v Q) (Eq.mp (by kernel_rfl) h)
def X92.l0 (Q : QT) : Nat → (Option Addr) → Int → Int → Int → World → Prop
  | 0, _, _, _, _, _ => False
  | k + 1, t0, t1, t4, t6, w => optP t0 fun p1 => ldSl w (p1.add 1) fun x2p x2n x2c => bcase (decide (t6 < ((x2n : Nat) : Int))) (optP t0 fun p3 => ldSl w (p3.add 1) fun x4p x4n x4c => (0 ≤ t6 ∧ t6 < ((x4n : Nat) : Int)) ∧ optP x4p fun p5 => ldI .u64 w (p5.add (Int.toNat t6 * 1)) fun x6 => bcase (decide (x6 > t1)) (optP t0 fun p7 => ldSl w (p7.add 1) fun x8p x8n x8c => (0 ≤ t6 ∧ t6 < ((x8n : Nat) : Int)) ∧ optP x8p fun p9 => ldI .u64 w (p9.add (Int.toNat t6 * 1)) fun x10 => Q (.tuple #[.int .u64 x10, .bool true]) w) (X92.l0 Q k t0 t1 t4 (IntKind.wrap .i64 (t6 + (1 : Int))) w)) (Q (.tuple #[.int .u64 t4, .bool false]) w)
def X92.f (a0 : Option Addr) (a1 : Int) (w : World) (Q : QT) : Prop := ∃ m1, X92.l0 Q m1 a0 a1 (0 : Int) (0 : Int) w
def X92.S (Q : QT) : Segs
  | 0, φ, ρ, w => qP (ρ 0) fun t0 => qI .u64 (ρ 1) fun t1 => qI .u64 (ρ 4) fun t4 => qI .i64 (ρ 6) fun t6 => X92.l0 Q (φ 0) t0 t1 t4 t6 w
  | _, _, _, _ => False
noncomputable def X92.an : Ann := (.seq .leaf (.seq (.seq .leaf (.block (.loop 0 (.seq (.seq .leaf (.cond .leaf .leaf)) (.seq (.block (.seq .leaf (.cond (.seq .leaf .leaf) .leaf))) .leaf))))) (.seq .leaf .leaf)))
noncomputable def X92.c : Code := Tryz.f92.body.getD .skip
theorem X92.v (Q : QT) : V Tryz.prog (X92.S Q) X92.an X92.c (retC Tryz.prog Tryz.f92 Q) := ⟨trivial, ⟨⟨trivial, ⟨(by
    intro φ ρ w h
    simp only [X92.S] at h
    obtain ⟨t0, e0, h⟩ := qP_elim h
    obtain ⟨t1, e1, h⟩ := qI_elim h
    obtain ⟨t4, e4, h⟩ := qI_elim h
    obtain ⟨t6, e6, h⟩ := qI_elim h
    cases hk : φ 0 with
    | zero => rw [hk] at h; exact h.elim
    | succ k => rw [hk] at h; exact ⟨k, Nat.lt_succ_self k, ((((Env.nil.put (some 0) (.pointer t0)).put (some 1) (.int .u64 t1)).put (some 4) (.int .u64 t4)).put (some 6) (.int .i64 t6)), Env.le_put e6 (Env.le_put e4 (Env.le_put e1 (Env.le_put e0 (Env.le_nil _)))), Eq.mp (by kernel_rfl) h⟩), ⟨⟨trivial, ⟨trivial, trivial⟩⟩, ⟨⟨trivial, ⟨⟨trivial, trivial⟩, trivial⟩⟩, trivial⟩⟩⟩⟩, ⟨trivial, trivial⟩⟩⟩
theorem X92.sound (a0 : Option Addr) (a1 : Int) (w : World) (Q : QT) (h : X92.f a0 a1 w Q) : CallR Tryz.prog 92 #[.pointer a0, .int .u64 a1] w Q :=
  fn_sound noGr mixed Tryz.func92 (c := X92.c) (an := X92.an) (S := X92.S Q) (φ := fun _ => 0) (args := [.pointer a0, .int .u64 a1]) (by kernel_rfl) (by kernel_rfl) (by kernel_rfl) (X92.v Q) (Eq.mp (by kernel_rfl) h)
def X93.f (a0 : Option Addr) (w : World) (Q : QT) : Prop := optP a0 fun p1 => ldSl w (p1.add 1) fun x2p x2n x2c => bcase (((x2n : Nat) : Int) == (0 : Int)) (Q (.tuple #[.int .u64 0, .bool false]) w) (optP a0 fun p3 => ldSl w (p3.add 1) fun x4p x4n x4c => (0 ≤ (0 : Int) ∧ (0 : Int) < ((x4n : Nat) : Int)) ∧ optP x4p fun p5 => ldI .u64 w (p5.add (Int.toNat (0 : Int) * 1)) fun x6 => Q (.tuple #[.int .u64 x6, .bool true]) w)
def X93.S (Q : QT) : Segs
  | _, _, _, _ => False
noncomputable def X93.an : Ann := (.seq .leaf (.seq (.seq .leaf (.cond (.seq .leaf .leaf) .leaf)) (.seq .leaf .leaf)))
noncomputable def X93.c : Code := Tryz.f93.body.getD .skip
theorem X93.v (Q : QT) : V Tryz.prog (X93.S Q) X93.an X93.c (retC Tryz.prog Tryz.f93 Q) := ⟨trivial, ⟨⟨trivial, ⟨⟨trivial, trivial⟩, trivial⟩⟩, ⟨trivial, trivial⟩⟩⟩
theorem X93.sound (a0 : Option Addr) (w : World) (Q : QT) (h : X93.f a0 w Q) : CallR Tryz.prog 93 #[.pointer a0] w Q :=
  fn_sound noGr mixed Tryz.func93 (c := X93.c) (an := X93.an) (S := X93.S Q) (φ := fun _ => 0) (args := [.pointer a0]) (by kernel_rfl) (by kernel_rfl) (by kernel_rfl) (X93.v Q) (Eq.mp (by kernel_rfl) h)
def X98.j0 (Q : QT) (t0 : Option Addr) (t1 : Int) (w : World) : Prop := optP t0 fun p1 => ldSl w (p1.add 0) fun x2p x2n x2c => (16 : Int) ≠ 0 ∧ (0 ≤ (IntKind.wrap .i64 (Int.tdiv t1 (16 : Int))) ∧ (IntKind.wrap .i64 (Int.tdiv t1 (16 : Int))) < ((x2n : Nat) : Int)) ∧ optP x2p fun p3 => ldI .i64 w (p3.add (Int.toNat (IntKind.wrap .i64 (Int.tdiv t1 (16 : Int))) * 1)) fun x4 => drewK w fun w5 => bcase (x4 == (0 : Int)) (Q (.int .i64 0) w5) ((16 : Int) ≠ 0 ∧ x4 ≠ 0 ∧ bcase ((Int.tmod (Int.tmod t1 (16 : Int)) x4) != (0 : Int)) (Q (.int .i64 0) w5) (optP t0 fun p6 => ldSl w5 (p6.add 1) fun x7p x7n x7c => (16 : Int) ≠ 0 ∧ (16 : Int) ≠ 0 ∧ x4 ≠ 0 ∧ (0 ≤ (IntKind.wrap .i64 (Int.tdiv t1 (16 : Int))) ∧ (IntKind.wrap .i64 (Int.tdiv t1 (16 : Int))) < ((x7n : Nat) : Int)) ∧ optP x7p fun p8 => (0 ≤ (IntKind.wrap .i64 (Int.tdiv (Int.tmod t1 (16 : Int)) x4)) ∧ (IntKind.wrap .i64 (Int.tdiv (Int.tmod t1 (16 : Int)) x4)) < ((16 : Nat) : Int)) ∧ ldB w5 ((p8.add (Int.toNat (IntKind.wrap .i64 (Int.tdiv t1 (16 : Int))) * 16)).add (Int.toNat (IntKind.wrap .i64 (Int.tdiv (Int.tmod t1 (16 : Int)) x4)) * 1)) fun x9 => bcase (!x9) (Q (.int .i64 0) w5) (Q (.int .i64 x4) w5)))
def X98.f (a0 : Option Addr) (a1 : Int) (w : World) (Q : QT) : Prop := bcase (decide (a1 < (0 : Int))) (Q (.int .i64 0) w) ((16 : Int) ≠ 0 ∧ optP a0 fun p1 => ldSl w (p1.add 0) fun x2p x2n x2c => bcase (decide ((IntKind.wrap .i64 (Int.tdiv a1 (16 : Int))) ≥ ((x2n : Nat) : Int))) (Q (.int .i64 0) w) (X98.j0 Q a0 a1 w))
def X98.S (Q : QT) : Segs
  | 0, φ, ρ, w => qP (ρ 0) fun t0 => qI .i64 (ρ 1) fun t1 => X98.j0 Q t0 t1 w
  | _, _, _, _ => False
noncomputable def X98.an : Ann := (.seq .leaf (.seq (.seq .leaf (.cond (.seq .leaf .leaf) .leaf)) (.join 0 (.seq .leaf (.seq (.seq (.draw [0, 1, 3, 7, 15, 7, 63, 127, 255, 511, 1023, 2047, 4095, 8191, 1023, 17407, 1023, 66559, 1023, 459775, 65535, 2097151, 4194303, 8388607, 16777215] [[0, 1, 2, 3, 4, 5, 6, 7, 8, 9, 10, 11, 12, 13, 14, 15, 16, 17, 18, 19, 20, 21, 22, 23, 24]]) (.cond (.seq .leaf .leaf) .leaf)) (.seq .leaf .leaf))))))
noncomputable def X98.c : Code := Tryz.f98.body.getD .skip
theorem X98.v (Q : QT) : V Tryz.prog (X98.S Q) X98.an X98.c (retC Tryz.prog Tryz.f98 Q) := ⟨trivial, ⟨⟨trivial, ⟨⟨trivial, trivial⟩, trivial⟩⟩, ⟨(by
    intro φ ρ w h
    simp only [X98.S] at h
    obtain ⟨t0, e0, h⟩ := qP_elim h
    obtain ⟨t1, e1, h⟩ := qI_elim h
    exact ⟨((Env.nil.put (some 0) (.pointer t0)).put (some 1) (.int .i64 t1)), Env.le_put e1 (Env.le_put e0 (Env.le_nil _)), Eq.mp (by kernel_rfl) h⟩), ⟨trivial, ⟨⟨trivial, ⟨⟨trivial, trivial⟩, trivial⟩⟩, ⟨trivial, trivial⟩⟩⟩⟩⟩⟩
theorem X98.sound (a0 : Option Addr) (a1 : Int) (w : World) (Q : QT) (h : X98.f a0 a1 w Q) : CallR Tryz.prog 98 #[.pointer a0, .int .i64 a1] w Q :=
  fn_sound noGr mixed Tryz.func98 (c := X98.c) (an := X98.an) (S := X98.S Q) (φ := fun _ => 0) (args := [.pointer a0, .int .i64 a1]) (by kernel_rfl) (by kernel_rfl) (by kernel_rfl) (X98.v Q) (Eq.mp (by kernel_rfl) h)
def X108.f (a0 a1 a2 : Int) (w : World) (Q : QT) : Prop := bcase (decide (a0 ≥ a1)) (Q (.bool (decide (a0 ≤ a2))) w) (Q (.bool false) w)
def X108.S (Q : QT) : Segs
  | _, _, _, _ => False
noncomputable def X108.an : Ann := (.seq .leaf (.seq .leaf .leaf))
noncomputable def X108.c : Code := Tryz.f108.body.getD .skip
theorem X108.v (Q : QT) : V Tryz.prog (X108.S Q) X108.an X108.c (retC Tryz.prog Tryz.f108 Q) := ⟨trivial, ⟨trivial, trivial⟩⟩
theorem X108.sound (a0 a1 a2 : Int) (w : World) (Q : QT) (h : X108.f a0 a1 a2 w Q) : CallR Tryz.prog 108 #[.int .i64 a0, .int .i64 a1, .int .i64 a2] w Q :=
  fn_sound noGr mixed Tryz.func108 (c := X108.c) (an := X108.an) (S := X108.S Q) (φ := fun _ => 0) (args := [.int .i64 a0, .int .i64 a1, .int .i64 a2]) (by kernel_rfl) (by kernel_rfl) (by kernel_rfl) (X108.v Q) (Eq.mp (by kernel_rfl) h)
def X109.j0 (Q : QT) (t1 : Addr) (t3 : Int) (w : World) : Prop := CallR Tryz.prog 111 #[.int .i64 t3, .string (⟨#[118, 97, 108, 117, 101]⟩ : ByteArray)] w fun v1 w2 => ∃ (y3 : Bool), v1 = .bool y3 ∧ bcase y3 (CallR Tryz.prog 111 #[.int .i64 t3, .string (⟨#[97, 116]⟩ : ByteArray)] w2 fun v4 w5 => ∃ (y6 : Bool), v4 = .bool y6 ∧ bcase y6 (CallR Tryz.prog 111 #[.int .i64 t3, .string (⟨#[115, 116, 97, 109, 112]⟩ : ByteArray)] w5 fun v7 w8 => ∃ (y9 : Bool), v7 = .bool y9 ∧ bcase y9 (Q (.bool true) w8) (ldI .u64 w8 (t1.add 17) fun x10 => Q (.bool (x10 == (0 : Int))) w8)) (ldI .u64 w5 (t1.add 15) fun x11 => bcase (x11 == (0 : Int)) (CallR Tryz.prog 111 #[.int .i64 t3, .string (⟨#[115, 116, 97, 109, 112]⟩ : ByteArray)] w5 fun v12 w13 => ∃ (y14 : Bool), v12 = .bool y14 ∧ bcase y14 (Q (.bool true) w13) (ldI .u64 w13 (t1.add 17) fun x15 => Q (.bool (x15 == (0 : Int))) w13)) (Q (.bool false) w5))) (ldI .u64 w2 (t1.add 11) fun x16 => bcase (x16 == (0 : Int)) (CallR Tryz.prog 111 #[.int .i64 t3, .string (⟨#[97, 116]⟩ : ByteArray)] w2 fun v17 w18 => ∃ (y19 : Bool), v17 = .bool y19 ∧ bcase y19 (CallR Tryz.prog 111 #[.int .i64 t3, .string (⟨#[115, 116, 97, 109, 112]⟩ : ByteArray)] w18 fun v20 w21 => ∃ (y22 : Bool), v20 = .bool y22 ∧ bcase y22 (Q (.bool true) w21) (ldI .u64 w21 (t1.add 17) fun x23 => Q (.bool (x23 == (0 : Int))) w21)) (ldI .u64 w18 (t1.add 15) fun x24 => bcase (x24 == (0 : Int)) (CallR Tryz.prog 111 #[.int .i64 t3, .string (⟨#[115, 116, 97, 109, 112]⟩ : ByteArray)] w18 fun v25 w26 => ∃ (y27 : Bool), v25 = .bool y27 ∧ bcase y27 (Q (.bool true) w26) (ldI .u64 w26 (t1.add 17) fun x28 => Q (.bool (x28 == (0 : Int))) w26)) (Q (.bool false) w18))) (Q (.bool false) w2))
def X109.j1 (Q : QT) (t1 : Addr) (t3 : Int) (w : World) : Prop := CallR Tryz.prog 111 #[.int .i64 t3, .string (⟨#[102, 108, 111, 111, 114]⟩ : ByteArray)] w fun v1 w2 => ∃ (y3 : Bool), v1 = .bool y3 ∧ bcase y3 (ldI .u64 w2 (t1.add 4) fun x4 => bcase (decide (x4 < (1 : Int))) (Q (.bool false) w2) (ldI .u64 w2 (t1.add 4) fun x5 => ldI .u64 w2 (t1.add 3) fun x6 => bcase (decide (x5 > x6)) (Q (.bool false) w2) (CallR Tryz.prog 111 #[.int .i64 t3, .string (⟨#[102, 108, 111, 111, 114]⟩ : ByteArray)] w2 fun v7 w8 => ∃ (y9 : Bool), v7 = .bool y9 ∧ bcase (!y9) (ldI .u64 w8 (t1.add 4) fun x10 => bcase (x10 != (0 : Int)) (Q (.bool false) w8) (X109.j0 Q t1 t3 w8)) (X109.j0 Q t1 t3 w8)))) (CallR Tryz.prog 111 #[.int .i64 t3, .string (⟨#[102, 108, 111, 111, 114]⟩ : ByteArray)] w2 fun v11 w12 => ∃ (y13 : Bool), v11 = .bool y13 ∧ bcase (!y13) (ldI .u64 w12 (t1.add 4) fun x14 => bcase (x14 != (0 : Int)) (Q (.bool false) w12) (X109.j0 Q t1 t3 w12)) (X109.j0 Q t1 t3 w12))
def X109.j2 (Q : QT) (t1 : Addr) (t3 : Int) (w : World) : Prop := drewK w fun w1 => CallR Tryz.prog 111 #[.int .i64 t3, .string (⟨#[115, 101, 113]⟩ : ByteArray)] w1 fun v2 w3 => ∃ (y4 : Bool), v2 = .bool y4 ∧ ldI .u64 w3 (t1.add 13) fun x5 => (World.cell? w1 (t1.add 13) = some (.int .u64 x5) ∧ World.cell? w3 (t1.add 13) = some (.int .u64 x5)) ∧ CallR Tryz.prog 125 #[.bool y4, .int .u64 x5] w3 fun v6 w7 => ∃ (y8 : Bool), v6 = .bool y8 ∧ bcase (!y8) (Q (.bool false) w7) (CallR Tryz.prog 111 #[.int .i64 t3, .string (⟨#[118, 111, 117, 99, 104, 101, 114]⟩ : ByteArray)] w7 fun v9 w10 => ∃ (y11 : Bool), v9 = .bool y11 ∧ ldI .i64 w10 (t1.add 14) fun x12 => (World.cell? w7 (t1.add 14) = some (.int .i64 x12) ∧ World.cell? w10 (t1.add 14) = some (.int .i64 x12)) ∧ CallR Tryz.prog 126 #[.bool y11, .int .i64 x12, .int .i64 1, .int .i64 64] w10 fun v13 w14 => ∃ (y15 : Bool), v13 = .bool y15 ∧ bcase (!y15) (Q (.bool false) w14) (CallR Tryz.prog 111 #[.int .i64 t3, .string (⟨#[100, 105, 115, 116]⟩ : ByteArray)] w14 fun v16 w17 => ∃ (y18 : Bool), v16 = .bool y18 ∧ ldI .i64 w17 (t1.add 16) fun x19 => (World.cell? w14 (t1.add 16) = some (.int .i64 x19) ∧ World.cell? w17 (t1.add 16) = some (.int .i64 x19)) ∧ CallR Tryz.prog 126 #[.bool y18, .int .i64 x19, .int .i64 1, .int .i64 40] w17 fun v20 w21 => ∃ (y22 : Bool), v20 = .bool y22 ∧ bcase (!y22) (Q (.bool false) w21) (X109.j1 Q t1 t3 w21)))
def X109.j3 (Q : QT) (t1 : Addr) (t3 t4 t5 : Int) (w : World) : Prop := drewK w fun w1 => CallR Tryz.prog 111 #[.int .i64 t3, .string (⟨#[99, 97, 108, 108]⟩ : ByteArray)] w1 fun v2 w3 => ∃ (y4 : Bool), v2 = .bool y4 ∧ ldI .u64 w3 (t1.add 3) fun x5 => (World.cell? w1 (t1.add 3) = some (.int .u64 x5) ∧ World.cell? w3 (t1.add 3) = some (.int .u64 x5)) ∧ CallR Tryz.prog 125 #[.bool y4, .int .u64 x5] w3 fun v6 w7 => ∃ (y8 : Bool), v6 = .bool y8 ∧ bcase (!y8) (Q (.bool false) w7) (CallR Tryz.prog 111 #[.int .i64 t3, .string (⟨#[111, 112]⟩ : ByteArray)] w7 fun v9 w10 => ∃ (y11 : Bool), v9 = .bool y11 ∧ ldI .i64 w10 (t1.add 5) fun x12 => (World.cell? w7 (t1.add 5) = some (.int .i64 x12) ∧ World.cell? w10 (t1.add 5) = some (.int .i64 x12)) ∧ CallR Tryz.prog 126 #[.bool y11, .int .i64 x12, .int .i64 1, .int .i64 t4] w10 fun v13 w14 => ∃ (y15 : Bool), v13 = .bool y15 ∧ bcase (!y15) (Q (.bool false) w14) (CallR Tryz.prog 111 #[.int .i64 t3, .string (⟨#[102, 105, 101, 108, 100]⟩ : ByteArray)] w14 fun v16 w17 => ∃ (y18 : Bool), v16 = .bool y18 ∧ ldI .i64 w17 (t1.add 6) fun x19 => (World.cell? w14 (t1.add 6) = some (.int .i64 x19) ∧ World.cell? w17 (t1.add 6) = some (.int .i64 x19)) ∧ CallR Tryz.prog 126 #[.bool y18, .int .i64 x19, .int .i64 0, .int .i64 63] w17 fun v20 w21 => ∃ (y22 : Bool), v20 = .bool y22 ∧ bcase (!y22) (Q (.bool false) w21) (CallR Tryz.prog 111 #[.int .i64 t3, .string (⟨#[105, 116, 101, 109]⟩ : ByteArray)] w21 fun v23 w24 => ∃ (y25 : Bool), v23 = .bool y25 ∧ ldI .i64 w24 (t1.add 7) fun x26 => (World.cell? w21 (t1.add 7) = some (.int .i64 x26) ∧ World.cell? w24 (t1.add 7) = some (.int .i64 x26)) ∧ CallR Tryz.prog 126 #[.bool y25, .int .i64 x26, .int .i64 0, .int .i64 4095] w24 fun v27 w28 => ∃ (y29 : Bool), v27 = .bool y29 ∧ bcase (!y29) (Q (.bool false) w28) (CallR Tryz.prog 111 #[.int .i64 t3, .string (⟨#[99, 111, 100, 101]⟩ : ByteArray)] w28 fun v30 w31 => ∃ (y32 : Bool), v30 = .bool y32 ∧ ldI .i64 w31 (t1.add 12) fun x33 => (World.cell? w28 (t1.add 12) = some (.int .i64 x33) ∧ World.cell? w31 (t1.add 12) = some (.int .i64 x33)) ∧ CallR Tryz.prog 126 #[.bool y32, .int .i64 x33, .int .i64 0, .int .i64 t5] w31 fun v34 w35 => ∃ (y36 : Bool), v34 = .bool y36 ∧ bcase (!y36) (Q (.bool false) w35) (X109.j2 Q t1 t3 w35)))))
def X109.j4 (Q : QT) (t1 : Addr) (t3 t4 t5 : Int) (w : World) : Prop := bcase (t3 == (9 : Int)) (X109.j3 Q t1 t3 t4 (2 : Int) w) (X109.j3 Q t1 t3 t4 t5 w)
def X109.f (a0_0 a0_1 a0_2 a0_3 a0_4 a0_5 a0_6 a0_7 a0_8 a0_9 : Int) (a0_10p : Option Addr) (a0_10n a0_10c : Nat) (a0_11 a0_12 a0_13 a0_14 a0_15 a0_16 a0_17 : Int) (a0_18p : Option Addr) (a0_18n a0_18c : Nat) (w : World) (Q : QT) : Prop := newK w #[.int .i64 a0_0, .int .i64 a0_1, .int .i64 a0_2, .int .u64 a0_3, .int .u64 a0_4, .int .i64 a0_5, .int .i64 a0_6, .int .i64 a0_7, .int .i64 a0_8, .int .u64 a0_9, .slice a0_10p a0_10n a0_10c, .int .u64 a0_11, .int .i64 a0_12, .int .u64 a0_13, .int .i64 a0_14, .int .u64 a0_15, .int .i64 a0_16, .int .u64 a0_17, .slice a0_18p a0_18n a0_18c] 41 fun g1 w2 => ldI .i64 w2 (g1.add 0) fun x3 => bcase (x3 == (8 : Int)) (X109.j4 Q g1 x3 (3 : Int) (10 : Int) w2) (X109.j4 Q g1 x3 (6 : Int) (10 : Int) w2)
def X109.S (Q : QT) : Segs
  | 0, φ, ρ, w => qA (ρ 1) fun t1 => qI .i64 (ρ 3) fun t3 => X109.j0 Q t1 t3 w
  | 1, φ, ρ, w => qA (ρ 1) fun t1 => qI .i64 (ρ 3) fun t3 => X109.j1 Q t1 t3 w
  | 2, φ, ρ, w => qA (ρ 1) fun t1 => qI .i64 (ρ 3) fun t3 => X109.j2 Q t1 t3 w
  | 3, φ, ρ, w => qA (ρ 1) fun t1 => qI .i64 (ρ 3) fun t3 => qI .i64 (ρ 4) fun t4 => qI .i64 (ρ 5) fun t5 => X109.j3 Q t1 t3 t4 t5 w
  | 4, φ, ρ, w => qA (ρ 1) fun t1 => qI .i64 (ρ 3) fun t3 => qI .i64 (ρ 4) fun t4 => qI .i64 (ρ 5) fun t5 => X109.j4 Q t1 t3 t4 t5 w
  | _, _, _, _ => False
noncomputable def X109.an : Ann := (.seq .leaf (.seq .leaf (.seq .leaf (.seq .leaf (.seq (.seq .leaf (.cond .leaf .leaf)) (.join 4 (.seq (.seq .leaf (.cond .leaf .leaf)) (.join 3 (.seq (.seq (.draw [0, 1, 0, 4, 15, 31, 63, 127, 255, 127, 639, 127, 4095, 8191, 16383, 32767, 65535, 131071, 65535, 327679, 1048575, 2097151, 4194303, 8388607, 16777215, 33554431, 16777215, 83886079, 268435455, 536870911, 1073741823, 2147483647, 4294967295, 8589934591, 4294967295, 21474836479, 4294967295, 137438953471, 274877906943, 549755813887] [[0, 1, 2, 3, 4, 5, 6, 7, 8, 9, 10, 11, 12, 13, 14, 15, 16, 17, 18, 19, 20, 21, 22, 23, 24, 25, 26, 27, 28, 29, 30, 31, 32, 33, 34, 35, 36, 37, 38, 39]]) (.cond (.seq .leaf .leaf) .leaf)) (.join 2 (.seq (.seq (.draw [0, 1, 0, 4, 15, 31, 63, 127, 255, 127, 639, 2047, 4095, 8191, 16383, 32767, 65535, 32767, 163839, 524287, 1048575, 2097151] [[0, 1, 2, 3, 4, 5, 6, 7, 8, 9, 10, 11, 12, 13, 14, 15, 16, 17, 18, 19, 20, 21]]) (.cond (.seq .leaf .leaf) .leaf)) (.join 1 (.seq (.seq .leaf (.cond (.seq .leaf .leaf) .leaf)) (.join 0 (.seq .leaf .leaf)))))))))))))))
noncomputable def X109.c : Code := Tryz.f109.body.getD .skip
theorem X109.v (Q : QT) : V Tryz.prog (X109.S Q) X109.an X109.c (retC Tryz.prog Tryz.f109 Q) := ⟨trivial, ⟨trivial, ⟨trivial, ⟨trivial, ⟨⟨trivial, ⟨trivial, trivial⟩⟩, ⟨(by
    intro φ ρ w h
    simp only [X109.S] at h
    obtain ⟨t1, e1, h⟩ := qA_elim h
    obtain ⟨t3, e3, h⟩ := qI_elim h
    obtain ⟨t4, e4, h⟩ := qI_elim h
    obtain ⟨t5, e5, h⟩ := qI_elim h
    exact ⟨((((Env.nil.put (some 1) (.pointer (some t1))).put (some 3) (.int .i64 t3)).put (some 4) (.int .i64 t4)).put (some 5) (.int .i64 t5)), Env.le_put e5 (Env.le_put e4 (Env.le_put e3 (Env.le_put e1 (Env.le_nil _)))), Eq.mp (by kernel_rfl) h⟩), ⟨⟨trivial, ⟨trivial, trivial⟩⟩, ⟨(by
    intro φ ρ w h
    simp only [X109.S] at h
    obtain ⟨t1, e1, h⟩ := qA_elim h
    obtain ⟨t3, e3, h⟩ := qI_elim h
    obtain ⟨t4, e4, h⟩ := qI_elim h
    obtain ⟨t5, e5, h⟩ := qI_elim h
    exact ⟨((((Env.nil.put (some 1) (.pointer (some t1))).put (some 3) (.int .i64 t3)).put (some 4) (.int .i64 t4)).put (some 5) (.int .i64 t5)), Env.le_put e5 (Env.le_put e4 (Env.le_put e3 (Env.le_put e1 (Env.le_nil _)))), Eq.mp (by kernel_rfl) h⟩), ⟨⟨trivial, ⟨⟨trivial, trivial⟩, trivial⟩⟩, ⟨(by
    intro φ ρ w h
    simp only [X109.S] at h
    obtain ⟨t1, e1, h⟩ := qA_elim h
    obtain ⟨t3, e3, h⟩ := qI_elim h
    exact ⟨((Env.nil.put (some 1) (.pointer (some t1))).put (some 3) (.int .i64 t3)), Env.le_put e3 (Env.le_put e1 (Env.le_nil _)), Eq.mp (by kernel_rfl) h⟩), ⟨⟨trivial, ⟨⟨trivial, trivial⟩, trivial⟩⟩, ⟨(by
    intro φ ρ w h
    simp only [X109.S] at h
    obtain ⟨t1, e1, h⟩ := qA_elim h
    obtain ⟨t3, e3, h⟩ := qI_elim h
    exact ⟨((Env.nil.put (some 1) (.pointer (some t1))).put (some 3) (.int .i64 t3)), Env.le_put e3 (Env.le_put e1 (Env.le_nil _)), Eq.mp (by kernel_rfl) h⟩), ⟨⟨trivial, ⟨⟨trivial, trivial⟩, trivial⟩⟩, ⟨(by
    intro φ ρ w h
    simp only [X109.S] at h
    obtain ⟨t1, e1, h⟩ := qA_elim h
    obtain ⟨t3, e3, h⟩ := qI_elim h
    exact ⟨((Env.nil.put (some 1) (.pointer (some t1))).put (some 3) (.int .i64 t3)), Env.le_put e3 (Env.le_put e1 (Env.le_nil _)), Eq.mp (by kernel_rfl) h⟩), ⟨trivial, trivial⟩⟩⟩⟩⟩⟩⟩⟩⟩⟩⟩⟩⟩⟩⟩
theorem X109.sound (a0_0 a0_1 a0_2 a0_3 a0_4 a0_5 a0_6 a0_7 a0_8 a0_9 : Int) (a0_10p : Option Addr) (a0_10n a0_10c : Nat) (a0_11 a0_12 a0_13 a0_14 a0_15 a0_16 a0_17 : Int) (a0_18p : Option Addr) (a0_18n a0_18c : Nat) (w : World) (Q : QT) (h : X109.f a0_0 a0_1 a0_2 a0_3 a0_4 a0_5 a0_6 a0_7 a0_8 a0_9 a0_10p a0_10n a0_10c a0_11 a0_12 a0_13 a0_14 a0_15 a0_16 a0_17 a0_18p a0_18n a0_18c w Q) : CallR Tryz.prog 109 #[.agg #[.int .i64 a0_0, .int .i64 a0_1, .int .i64 a0_2, .int .u64 a0_3, .int .u64 a0_4, .int .i64 a0_5, .int .i64 a0_6, .int .i64 a0_7, .int .i64 a0_8, .int .u64 a0_9, .slice a0_10p a0_10n a0_10c, .int .u64 a0_11, .int .i64 a0_12, .int .u64 a0_13, .int .i64 a0_14, .int .u64 a0_15, .int .i64 a0_16, .int .u64 a0_17, .slice a0_18p a0_18n a0_18c]] w Q :=
  fn_sound noGr mixed Tryz.func109 (c := X109.c) (an := X109.an) (S := X109.S Q) (φ := fun _ => 0) (args := [.agg #[.int .i64 a0_0, .int .i64 a0_1, .int .i64 a0_2, .int .u64 a0_3, .int .u64 a0_4, .int .i64 a0_5, .int .i64 a0_6, .int .i64 a0_7, .int .i64 a0_8, .int .u64 a0_9, .slice a0_10p a0_10n a0_10c, .int .u64 a0_11, .int .i64 a0_12, .int .u64 a0_13, .int .i64 a0_14, .int .u64 a0_15, .int .i64 a0_16, .int .u64 a0_17, .slice a0_18p a0_18n a0_18c]]) (by kernel_rfl) (by kernel_rfl) (by kernel_rfl) (X109.v Q) (Eq.mp (by kernel_rfl) h)
def X110.f (a0_0 a0_1 a0_2 a0_3 a0_4 a0_5 a0_6 a0_7 a0_8 a0_9 : Int) (a0_10p : Option Addr) (a0_10n a0_10c : Nat) (a0_11 a0_12 a0_13 a0_14 a0_15 a0_16 a0_17 : Int) (a0_18p : Option Addr) (a0_18n a0_18c : Nat) (w : World) (Q : QT) : Prop := newK w #[.int .i64 a0_0, .int .i64 a0_1, .int .i64 a0_2, .int .u64 a0_3, .int .u64 a0_4, .int .i64 a0_5, .int .i64 a0_6, .int .i64 a0_7, .int .i64 a0_8, .int .u64 a0_9, .slice a0_10p a0_10n a0_10c, .int .u64 a0_11, .int .i64 a0_12, .int .u64 a0_13, .int .i64 a0_14, .int .u64 a0_15, .int .i64 a0_16, .int .u64 a0_17, .slice a0_18p a0_18n a0_18c] 41 fun g1 w2 => ldI .i64 w2 (g1.add 0) fun x3 => CallR Tryz.prog 111 #[.int .i64 x3, .string (⟨#[116, 97, 114, 103, 101, 116]⟩ : ByteArray)] w2 fun v4 w5 => ∃ (y6 : Bool), v4 = .bool y6 ∧ bcase (!y6) (ldI .i64 w5 ((g1.add 8).add 0) fun x7 => ldI .u64 w5 ((g1.add 8).add 1) fun x8 => CallR Tryz.prog 127 #[.agg #[.int .i64 x7, .int .u64 x8]] w5 fun v9 w10 => ∃ (y11 : Bool), v9 = .bool y11 ∧ Q (.bool y11) w10) (ldI .i64 w5 (g1.add 0) fun x12 => bcase (x12 == (1 : Int)) (ldI .i64 w5 (g1.add 5) fun x13 => bcase (x13 == (1 : Int)) (ldI .i64 w5 ((g1.add 8).add 0) fun x14 => ldI .u64 w5 ((g1.add 8).add 1) fun x15 => CallR Tryz.prog 112 #[.agg #[.int .i64 x14, .int .u64 x15]] w5 fun v16 w17 => ∃ (y18 : Bool), v16 = .bool y18 ∧ bcase y18 (ldI .i64 w17 ((g1.add 8).add 0) fun x19 => ldI .u64 w17 ((g1.add 8).add 1) fun x20 => CallR Tryz.prog 127 #[.agg #[.int .i64 x19, .int .u64 x20]] w17 fun v21 w22 => ∃ (y23 : Bool), v21 = .bool y23 ∧ Q (.bool (y23 == true)) w22) (Q (.bool false) w17)) (ldI .i64 w5 (g1.add 5) fun x24 => bcase (x24 == (6 : Int)) (ldI .i64 w5 ((g1.add 8).add 0) fun x25 => ldI .u64 w5 ((g1.add 8).add 1) fun x26 => CallR Tryz.prog 112 #[.agg #[.int .i64 x25, .int .u64 x26]] w5 fun v27 w28 => ∃ (y29 : Bool), v27 = .bool y29 ∧ bcase y29 (ldI .i64 w28 ((g1.add 8).add 0) fun x30 => ldI .u64 w28 ((g1.add 8).add 1) fun x31 => CallR Tryz.prog 127 #[.agg #[.int .i64 x30, .int .u64 x31]] w28 fun v32 w33 => ∃ (y34 : Bool), v32 = .bool y34 ∧ Q (.bool (y34 == true)) w33) (Q (.bool false) w28)) (ldI .i64 w5 (g1.add 0) fun x35 => bcase (x35 == (8 : Int)) (ldI .i64 w5 (g1.add 5) fun x36 => ldI .i64 w5 ((g1.add 8).add 0) fun x37 => ldI .u64 w5 ((g1.add 8).add 1) fun x38 => CallR Tryz.prog 112 #[.agg #[.int .i64 x37, .int .u64 x38]] w5 fun v39 w40 => ∃ (y41 : Bool), v39 = .bool y41 ∧ bcase y41 (ldI .i64 w40 ((g1.add 8).add 0) fun x42 => ldI .u64 w40 ((g1.add 8).add 1) fun x43 => CallR Tryz.prog 127 #[.agg #[.int .i64 x42, .int .u64 x43]] w40 fun v44 w45 => ∃ (y46 : Bool), v44 = .bool y46 ∧ Q (.bool (y46 == (x36 == (3 : Int)))) w45) (Q (.bool false) w40)) (ldI .i64 w5 ((g1.add 8).add 0) fun x47 => ldI .u64 w5 ((g1.add 8).add 1) fun x48 => CallR Tryz.prog 112 #[.agg #[.int .i64 x47, .int .u64 x48]] w5 fun v49 w50 => ∃ (y51 : Bool), v49 = .bool y51 ∧ bcase y51 (ldI .i64 w50 ((g1.add 8).add 0) fun x52 => ldI .u64 w50 ((g1.add 8).add 1) fun x53 => CallR Tryz.prog 127 #[.agg #[.int .i64 x52, .int .u64 x53]] w50 fun v54 w55 => ∃ (y56 : Bool), v54 = .bool y56 ∧ Q (.bool (y56 == false)) w55) (Q (.bool false) w50))))) (ldI .i64 w5 (g1.add 0) fun x57 => bcase (x57 == (8 : Int)) (ldI .i64 w5 (g1.add 5) fun x58 => ldI .i64 w5 ((g1.add 8).add 0) fun x59 => ldI .u64 w5 ((g1.add 8).add 1) fun x60 => CallR Tryz.prog 112 #[.agg #[.int .i64 x59, .int .u64 x60]] w5 fun v61 w62 => ∃ (y63 : Bool), v61 = .bool y63 ∧ bcase y63 (ldI .i64 w62 ((g1.add 8).add 0) fun x64 => ldI .u64 w62 ((g1.add 8).add 1) fun x65 => CallR Tryz.prog 127 #[.agg #[.int .i64 x64, .int .u64 x65]] w62 fun v66 w67 => ∃ (y68 : Bool), v66 = .bool y68 ∧ Q (.bool (y68 == (x58 == (3 : Int)))) w67) (Q (.bool false) w62)) (ldI .i64 w5 ((g1.add 8).add 0) fun x69 => ldI .u64 w5 ((g1.add 8).add 1) fun x70 => CallR Tryz.prog 112 #[.agg #[.int .i64 x69, .int .u64 x70]] w5 fun v71 w72 => ∃ (y73 : Bool), v71 = .bool y73 ∧ bcase y73 (ldI .i64 w72 ((g1.add 8).add 0) fun x74 => ldI .u64 w72 ((g1.add 8).add 1) fun x75 => CallR Tryz.prog 127 #[.agg #[.int .i64 x74, .int .u64 x75]] w72 fun v76 w77 => ∃ (y78 : Bool), v76 = .bool y78 ∧ Q (.bool (y78 == false)) w77) (Q (.bool false) w72))))
def X110.S (Q : QT) : Segs
  | _, _, _, _ => False
noncomputable def X110.an : Ann := (.seq .leaf (.seq (.seq .leaf (.cond (.seq .leaf .leaf) .leaf)) (.seq .leaf (.seq .leaf .leaf))))
noncomputable def X110.c : Code := Tryz.f110.body.getD .skip
theorem X110.v (Q : QT) : V Tryz.prog (X110.S Q) X110.an X110.c (retC Tryz.prog Tryz.f110 Q) := ⟨trivial, ⟨⟨trivial, ⟨⟨trivial, trivial⟩, trivial⟩⟩, ⟨trivial, ⟨trivial, trivial⟩⟩⟩⟩
theorem X110.sound (a0_0 a0_1 a0_2 a0_3 a0_4 a0_5 a0_6 a0_7 a0_8 a0_9 : Int) (a0_10p : Option Addr) (a0_10n a0_10c : Nat) (a0_11 a0_12 a0_13 a0_14 a0_15 a0_16 a0_17 : Int) (a0_18p : Option Addr) (a0_18n a0_18c : Nat) (w : World) (Q : QT) (h : X110.f a0_0 a0_1 a0_2 a0_3 a0_4 a0_5 a0_6 a0_7 a0_8 a0_9 a0_10p a0_10n a0_10c a0_11 a0_12 a0_13 a0_14 a0_15 a0_16 a0_17 a0_18p a0_18n a0_18c w Q) : CallR Tryz.prog 110 #[.agg #[.int .i64 a0_0, .int .i64 a0_1, .int .i64 a0_2, .int .u64 a0_3, .int .u64 a0_4, .int .i64 a0_5, .int .i64 a0_6, .int .i64 a0_7, .int .i64 a0_8, .int .u64 a0_9, .slice a0_10p a0_10n a0_10c, .int .u64 a0_11, .int .i64 a0_12, .int .u64 a0_13, .int .i64 a0_14, .int .u64 a0_15, .int .i64 a0_16, .int .u64 a0_17, .slice a0_18p a0_18n a0_18c]] w Q :=
  fn_sound noGr mixed Tryz.func110 (c := X110.c) (an := X110.an) (S := X110.S Q) (φ := fun _ => 0) (args := [.agg #[.int .i64 a0_0, .int .i64 a0_1, .int .i64 a0_2, .int .u64 a0_3, .int .u64 a0_4, .int .i64 a0_5, .int .i64 a0_6, .int .i64 a0_7, .int .i64 a0_8, .int .u64 a0_9, .slice a0_10p a0_10n a0_10c, .int .u64 a0_11, .int .i64 a0_12, .int .u64 a0_13, .int .i64 a0_14, .int .u64 a0_15, .int .i64 a0_16, .int .u64 a0_17, .slice a0_18p a0_18n a0_18c]]) (by kernel_rfl) (by kernel_rfl) (by kernel_rfl) (X110.v Q) (Eq.mp (by kernel_rfl) h)
def X111.l0 (Q : QT) : Nat → ByteArray → ByteArray → Int → Int → World → Prop
  | 0, _, _, _, _, _ => False
  | k + 1, t1, t6, t7, t8, w => bcase (decide (t8 ≤ ((t6.size : Nat) : Int))) (bcase (t8 == ((t6.size : Nat) : Int)) ((0 ≤ t7 ∧ t7 ≤ t8 ∧ t8 ≤ ((t6.size : Nat) : Int)) ∧ bcase (strEq (ByteArray.extract t6 (Int.toNat t7) (Int.toNat t8)) t1) (Q (.bool true) w) (X111.l0 Q k t1 t6 (IntKind.wrap .i64 (t8 + (1 : Int))) (IntKind.wrap .i64 (t8 + (1 : Int))) w)) ((0 ≤ t8 ∧ t8 < ((t6.size : Nat) : Int)) ∧ bcase ((byteAt t6 t8) == (32 : Int)) ((0 ≤ t7 ∧ t7 ≤ t8 ∧ t8 ≤ ((t6.size : Nat) : Int)) ∧ bcase (strEq (ByteArray.extract t6 (Int.toNat t7) (Int.toNat t8)) t1) (Q (.bool true) w) (X111.l0 Q k t1 t6 (IntKind.wrap .i64 (t8 + (1 : Int))) (IntKind.wrap .i64 (t8 + (1 : Int))) w)) (X111.l0 Q k t1 t6 t7 (IntKind.wrap .i64 (t8 + (1 : Int))) w))) (Q (.bool false) w)
def X111.j1 (Q : QT) (t0 : Int) (t1 : ByteArray) (t5 : Addr) (w : World) : Prop := (0 ≤ t0 ∧ t0 < ((12 : Nat) : Int)) ∧ ldS w (t5.add (Int.toNat t0 * 1)) fun x1 => ∃ m2, X111.l0 Q m2 t1 x1 (0 : Int) (0 : Int) w
def X111.f (a0 : Int) (a1 : ByteArray) (w : World) (Q : QT) : Prop := newK w #[.string (⟨#[]⟩ : ByteArray), .string (⟨#[]⟩ : ByteArray), .string (⟨#[]⟩ : ByteArray), .string (⟨#[]⟩ : ByteArray), .string (⟨#[]⟩ : ByteArray), .string (⟨#[]⟩ : ByteArray), .string (⟨#[]⟩ : ByteArray), .string (⟨#[]⟩ : ByteArray), .string (⟨#[]⟩ : ByteArray), .string (⟨#[]⟩ : ByteArray), .string (⟨#[]⟩ : ByteArray), .string (⟨#[]⟩ : ByteArray)] 165 fun g1 w2 => stAll w2 g1 [.string (⟨#[]⟩ : ByteArray), .string (⟨#[99, 97, 108, 108, 32, 102, 108, 111, 111, 114, 32, 111, 112, 32, 102, 105, 101, 108, 100, 32, 116, 97, 114, 103, 101, 116, 32, 118, 97, 108, 117, 101, 32, 114, 101, 102, 115]⟩ : ByteArray), .string (⟨#[99, 97, 108, 108, 32, 99, 111, 100, 101, 32, 118, 97, 108, 117, 101, 32, 114, 101, 102, 115]⟩ : ByteArray), .string (⟨#[99, 97, 108, 108]⟩ : ByteArray), .string (⟨#[116, 97, 114, 103, 101, 116, 32, 115, 101, 113, 32, 118, 111, 117, 99, 104, 101, 114, 32, 97, 116, 32, 100, 105, 115, 116]⟩ : ByteArray), .string (⟨#[116, 97, 114, 103, 101, 116, 32, 115, 101, 113, 32, 97, 116, 32, 99, 111, 100, 101]⟩ : ByteArray), .string (⟨#[116, 97, 114, 103, 101, 116, 32, 115, 101, 113]⟩ : ByteArray), .string (⟨#[116, 97, 114, 103, 101, 116, 32, 115, 101, 113]⟩ : ByteArray), .string (⟨#[99, 97, 108, 108, 32, 105, 116, 101, 109, 32, 111, 112, 32, 116, 97, 114, 103, 101, 116]⟩ : ByteArray), .string (⟨#[99, 97, 108, 108, 32, 105, 116, 101, 109, 32, 99, 111, 100, 101, 32, 115, 116, 97, 109, 112, 32, 108, 105, 115, 116]⟩ : ByteArray), .string (⟨#[99, 97, 108, 108, 32, 105, 116, 101, 109, 32, 116, 97, 114, 103, 101, 116, 32, 115, 116, 97, 109, 112]⟩ : ByteArray), .string (⟨#[99, 97, 108, 108, 32, 105, 116, 101, 109]⟩ : ByteArray)] fun w3 => bcase (decide (a0 < (1 : Int))) (Q (.bool false) w3) (bcase (decide (a0 > (11 : Int))) (Q (.bool false) w3) (X111.j1 Q a0 a1 g1 w3))
def X111.S (Q : QT) : Segs
  | 0, φ, ρ, w => qS (ρ 1) fun t1 => qS (ρ 6) fun t6 => qI .i64 (ρ 7) fun t7 => qI .i64 (ρ 8) fun t8 => X111.l0 Q (φ 0) t1 t6 t7 t8 w
  | 1, φ, ρ, w => qI .i64 (ρ 0) fun t0 => qS (ρ 1) fun t1 => qA (ρ 5) fun t5 => X111.j1 Q t0 t1 t5 w
  | _, _, _, _ => False
noncomputable def X111.an : Ann := (.seq .leaf (.seq .leaf (.seq (.seq .leaf (.cond (.seq .leaf .leaf) .leaf)) (.join 1 (.seq .leaf (.seq .leaf (.seq (.seq .leaf (.block (.loop 0 (.seq (.seq .leaf (.cond .leaf .leaf)) (.seq (.block (.seq .leaf (.cond (.seq (.seq .leaf (.cond (.seq .leaf .leaf) .leaf)) .leaf) .leaf))) .leaf))))) (.seq .leaf .leaf))))))))
noncomputable def X111.c : Code := Tryz.f111.body.getD .skip
theorem X111.v (Q : QT) : V Tryz.prog (X111.S Q) X111.an X111.c (retC Tryz.prog Tryz.f111 Q) := ⟨trivial, ⟨trivial, ⟨⟨trivial, ⟨⟨trivial, trivial⟩, trivial⟩⟩, ⟨(by
    intro φ ρ w h
    simp only [X111.S] at h
    obtain ⟨t0, e0, h⟩ := qI_elim h
    obtain ⟨t1, e1, h⟩ := qS_elim h
    obtain ⟨t5, e5, h⟩ := qA_elim h
    exact ⟨(((Env.nil.put (some 0) (.int .i64 t0)).put (some 1) (.string t1)).put (some 5) (.pointer (some t5))), Env.le_put e5 (Env.le_put e1 (Env.le_put e0 (Env.le_nil _))), Eq.mp (by kernel_rfl) h⟩), ⟨trivial, ⟨trivial, ⟨⟨trivial, ⟨(by
    intro φ ρ w h
    simp only [X111.S] at h
    obtain ⟨t1, e1, h⟩ := qS_elim h
    obtain ⟨t6, e6, h⟩ := qS_elim h
    obtain ⟨t7, e7, h⟩ := qI_elim h
    obtain ⟨t8, e8, h⟩ := qI_elim h
    cases hk : φ 0 with
    | zero => rw [hk] at h; exact h.elim
    | succ k => rw [hk] at h; exact ⟨k, Nat.lt_succ_self k, ((((Env.nil.put (some 1) (.string t1)).put (some 6) (.string t6)).put (some 7) (.int .i64 t7)).put (some 8) (.int .i64 t8)), Env.le_put e8 (Env.le_put e7 (Env.le_put e6 (Env.le_put e1 (Env.le_nil _)))), Eq.mp (by kernel_rfl) h⟩), ⟨⟨trivial, ⟨trivial, trivial⟩⟩, ⟨⟨trivial, ⟨⟨⟨trivial, ⟨⟨trivial, trivial⟩, trivial⟩⟩, trivial⟩, trivial⟩⟩, trivial⟩⟩⟩⟩, ⟨trivial, trivial⟩⟩⟩⟩⟩⟩⟩⟩
theorem X111.sound (a0 : Int) (a1 : ByteArray) (w : World) (Q : QT) (h : X111.f a0 a1 w Q) : CallR Tryz.prog 111 #[.int .i64 a0, .string a1] w Q :=
  fn_sound noGr mixed Tryz.func111 (c := X111.c) (an := X111.an) (S := X111.S Q) (φ := fun _ => 0) (args := [.int .i64 a0, .string a1]) (by kernel_rfl) (by kernel_rfl) (by kernel_rfl) (X111.v Q) (Eq.mp (by kernel_rfl) h)
def X112.f (a0_0 a0_1 : Int) (w : World) (Q : QT) : Prop := newK w #[.int .i64 a0_0, .int .u64 a0_1] 37 fun g1 w2 => ldI .i64 w2 (g1.add 0) fun x3 => bcase (x3 == (0 : Int)) (ldI .u64 w2 (g1.add 1) fun x4 => Q (.bool (x4 == (0 : Int))) w2) (ldI .i64 w2 (g1.add 0) fun x5 => bcase (decide (x5 ≥ (1 : Int))) (ldI .i64 w2 (g1.add 0) fun x6 => bcase (decide (x6 ≤ (64 : Int))) (ldI .u64 w2 (g1.add 1) fun x7 => bcase (decide (x7 ≥ (1 : Int))) (ldI .u64 w2 (g1.add 1) fun x8 => Q (.bool (decide (x8 ≤ (72057594037927935 : Int)))) w2) (Q (.bool false) w2)) (Q (.bool false) w2)) (Q (.bool false) w2))
def X112.S (Q : QT) : Segs
  | _, _, _, _ => False
noncomputable def X112.an : Ann := (.seq .leaf (.seq (.seq .leaf (.cond (.seq .leaf .leaf) .leaf)) (.seq .leaf .leaf)))
noncomputable def X112.c : Code := Tryz.f112.body.getD .skip
theorem X112.v (Q : QT) : V Tryz.prog (X112.S Q) X112.an X112.c (retC Tryz.prog Tryz.f112 Q) := ⟨trivial, ⟨⟨trivial, ⟨⟨trivial, trivial⟩, trivial⟩⟩, ⟨trivial, trivial⟩⟩⟩
theorem X112.sound (a0_0 a0_1 : Int) (w : World) (Q : QT) (h : X112.f a0_0 a0_1 w Q) : CallR Tryz.prog 112 #[.agg #[.int .i64 a0_0, .int .u64 a0_1]] w Q :=
  fn_sound noGr mixed Tryz.func112 (c := X112.c) (an := X112.an) (S := X112.S Q) (φ := fun _ => 0) (args := [.agg #[.int .i64 a0_0, .int .u64 a0_1]]) (by kernel_rfl) (by kernel_rfl) (by kernel_rfl) (X112.v Q) (Eq.mp (by kernel_rfl) h)
def X125.f (a0 : Bool) (a1 : Int) (w : World) (Q : QT) : Prop := bcase (!a0) (Q (.bool (a1 == (0 : Int))) w) (bcase (decide (a1 ≥ (1 : Int))) (Q (.bool (decide (a1 ≤ (72057594037927935 : Int)))) w) (Q (.bool false) w))
def X125.S (Q : QT) : Segs
  | _, _, _, _ => False
noncomputable def X125.an : Ann := (.seq .leaf (.seq (.seq .leaf (.cond (.seq .leaf .leaf) .leaf)) (.seq .leaf .leaf)))
noncomputable def X125.c : Code := Tryz.f125.body.getD .skip
theorem X125.v (Q : QT) : V Tryz.prog (X125.S Q) X125.an X125.c (retC Tryz.prog Tryz.f125 Q) := ⟨trivial, ⟨⟨trivial, ⟨⟨trivial, trivial⟩, trivial⟩⟩, ⟨trivial, trivial⟩⟩⟩
theorem X125.sound (a0 : Bool) (a1 : Int) (w : World) (Q : QT) (h : X125.f a0 a1 w Q) : CallR Tryz.prog 125 #[.bool a0, .int .u64 a1] w Q :=
  fn_sound noGr mixed Tryz.func125 (c := X125.c) (an := X125.an) (S := X125.S Q) (φ := fun _ => 0) (args := [.bool a0, .int .u64 a1]) (by kernel_rfl) (by kernel_rfl) (by kernel_rfl) (X125.v Q) (Eq.mp (by kernel_rfl) h)
def X126.f (a0 : Bool) (a1 a2 a3 : Int) (w : World) (Q : QT) : Prop := bcase (!a0) (Q (.bool (a1 == (0 : Int))) w) (CallR Tryz.prog 108 #[.int .i64 a1, .int .i64 a2, .int .i64 a3] w fun v1 w2 => ∃ (y3 : Bool), v1 = .bool y3 ∧ Q (.bool y3) w2)
def X126.S (Q : QT) : Segs
  | _, _, _, _ => False
noncomputable def X126.an : Ann := (.seq .leaf (.seq (.seq .leaf (.cond (.seq .leaf .leaf) .leaf)) (.seq .leaf .leaf)))
noncomputable def X126.c : Code := Tryz.f126.body.getD .skip
theorem X126.v (Q : QT) : V Tryz.prog (X126.S Q) X126.an X126.c (retC Tryz.prog Tryz.f126 Q) := ⟨trivial, ⟨⟨trivial, ⟨⟨trivial, trivial⟩, trivial⟩⟩, ⟨trivial, trivial⟩⟩⟩
theorem X126.sound (a0 : Bool) (a1 a2 a3 : Int) (w : World) (Q : QT) (h : X126.f a0 a1 a2 a3 w Q) : CallR Tryz.prog 126 #[.bool a0, .int .i64 a1, .int .i64 a2, .int .i64 a3] w Q :=
  fn_sound noGr mixed Tryz.func126 (c := X126.c) (an := X126.an) (S := X126.S Q) (φ := fun _ => 0) (args := [.bool a0, .int .i64 a1, .int .i64 a2, .int .i64 a3]) (by kernel_rfl) (by kernel_rfl) (by kernel_rfl) (X126.v Q) (Eq.mp (by kernel_rfl) h)
def X127.f (a0_0 a0_1 : Int) (w : World) (Q : QT) : Prop := newK w #[.int .i64 a0_0, .int .u64 a0_1] 37 fun g1 w2 => ldI .i64 w2 (g1.add 0) fun x3 => bcase (x3 == (0 : Int)) (ldI .u64 w2 (g1.add 1) fun x4 => Q (.bool (x4 == (0 : Int))) w2) (Q (.bool false) w2)
def X127.S (Q : QT) : Segs
  | _, _, _, _ => False
noncomputable def X127.an : Ann := (.seq .leaf (.seq .leaf .leaf))
noncomputable def X127.c : Code := Tryz.f127.body.getD .skip
theorem X127.v (Q : QT) : V Tryz.prog (X127.S Q) X127.an X127.c (retC Tryz.prog Tryz.f127 Q) := ⟨trivial, ⟨trivial, trivial⟩⟩
theorem X127.sound (a0_0 a0_1 : Int) (w : World) (Q : QT) (h : X127.f a0_0 a0_1 w Q) : CallR Tryz.prog 127 #[.agg #[.int .i64 a0_0, .int .u64 a0_1]] w Q :=
  fn_sound noGr mixed Tryz.func127 (c := X127.c) (an := X127.an) (S := X127.S Q) (φ := fun _ => 0) (args := [.agg #[.int .i64 a0_0, .int .u64 a0_1]]) (by kernel_rfl) (by kernel_rfl) (by kernel_rfl) (X127.v Q) (Eq.mp (by kernel_rfl) h)
end Go.Proofs.YtnjmkhhaodgpbaaGreatX
namespace Go.Proofs.YtnjmkhhaodgpbaaGreatX
open Go.RowKit
set_option maxRecDepth 100000
section
variable {w w' W : World} {Q : QT} {x : RHB} {fh F : List Nat} {node last s d : Int} {ts : List Nat} {os : List OT} {o : OT} {l : List (Int × Int)} {lp : Option Addr} {lc b g r v : Nat}
theorem PRa.getP (t : PRa w x fh node last ts os lp lc) {i : Nat} (hi : os[i]? = some o) : ∃ p, lp = some p ∧ w.cell? (p.add (Int.toNat (i : Int) * 1)) = some (pv o.g) := by
  obtain ⟨p, hp, hv⟩ := t.row.cells i (pv o.g) (by rw [List.getElem?_map, hi]; rfl)
  exact ⟨p, hp, by rw [Int.toNat_natCast, Nat.mul_one]; exact hv⟩
theorem rget_l0 (t : PRa w x fh node last ts os lp lc) (hno : (os.find? fun o => decide (o.s = s)) = none → Q (.pointer none) w) (hK : ∀ o, (os.find? fun o => decide (o.s = s)) = some o → o ∈ os → o.s = s → Q (pv o.g) w) :
    ∀ (f i : Nat), os.length - i < f → i ≤ os.length → ((os.take i).find? fun o => decide (o.s = s)) = none → X43.l0 Q f (some (at0 x.h 0)) s (i : Int) w
  | 0, i, hf, _, _ => absurd hf (Nat.not_lt_zero _)
  | f + 1, i, hf, hi, hn => by
    have hle := t.le
    rw [X43.l0]
    have ei : IntKind.wrap .i64 ((i : Int) + 1) = ((i + 1 : Nat) : Int) := by rw [i64w ((i : Int) + 1) (by omega) (by omega)]; omega
    refine opt_some rfl (ld_sl (t.c0 4 rfl) (bc_dec (fun hlt => ?_) (fun hge => ?_)))
    · have hl : i < os.length := by omega
      have hg := List.getElem?_eq_getElem hl
      have hsplit : os = os.take i ++ os[i] :: os.drop (i + 1) := by rw [← List.drop_eq_getElem_cons hl, List.take_append_drop]
      have hmem := List.getElem_mem hl
      generalize os[i] = o at *
      obtain ⟨p, hp, hc⟩ := t.getP hg
      have B := (t.obs o hmem).blk
      refine opt_some rfl (ld_sl (t.c0 4 rfl) ⟨⟨by omega, by omega⟩, opt_some hp (ld_ptr hc (opt_some rfl (ld_int (B.cat 0 _ rfl) ?_)))⟩)
      rw [ei]
      refine bc_eq (fun he => ?_) (fun he => ?_)
      · have hfi : (os.find? fun o => decide (o.s = s)) = some o := by
          rw [hsplit, List.find?_append, hn, Option.none_or, List.find?_cons_of_pos (by simpa using he)]
        exact opt_some rfl (ld_sl (t.c0 4 rfl) ⟨⟨by omega, by omega⟩, opt_some hp (ld_ptr hc (hK o hfi hmem he))⟩)
      · refine rget_l0 t hno hK f (i + 1) (by omega) (by omega) ?_
        rw [List.take_add_one, hg, List.find?_append, hn, Option.none_or]
        simpa using he
    · have : os.take i = os := List.take_of_length_le (by omega)
      rw [this] at hn
      exact hno hn
theorem rget_spec (t : PRa w x fh node last ts os lp lc) (hno : (os.find? fun o => decide (o.s = s)) = none → Q (.pointer none) w) (hK : ∀ o, (os.find? fun o => decide (o.s = s)) = some o → o ∈ os → o.s = s → Q (pv o.g) w) :
    CallR Tryz.prog 43 #[.pointer (some (at0 x.h 0)), .int .u64 s] w Q := by
  apply X43.sound
  unfold X43.f
  exact ⟨os.length + 1, rget_l0 t hno hK _ 0 (by omega) (by omega) (by simp)⟩
theorem rsetIn_spec (t : PR w x fh node last l) (h2 : 0 ≤ d) (h3 : d ≤ 40) (hQ : ∀ c, AftR w x fh node last (setO l s d) (.int .i64 c) Q) :
    CallR Tryz.prog 90 #[.pointer (some (at0 x.h 0)), .int .u64 s, .int .i64 d] w Q := by
  apply X90.sound
  unfold X90.f
  obtain ⟨ts, os, lp, lc, t, rfl⟩ := t
  have tt : PR w x fh node last (os.map OT.pr) := ⟨ts, os, lp, lc, t, rfl⟩
  refine bc_neg (by omega) (bc_neg (by omega) (rget_spec t (fun hn => ⟨_, rfl, ?_⟩) (fun o hf ho hs => ⟨_, rfl, ?_⟩)))
  · have e : setO (os.map OT.pr) s d = os.map OT.pr := by
      unfold setO
      rw [List.map_map]
      apply List.map_congr_left
      intro o ho
      have := List.find?_eq_none.1 hn o ho
      have hne : ¬ o.s = s := by simpa using this
      show (if o.s = s then (o.s, d) else (o.s, o.d)) = (o.s, o.d)
      rw [if_neg hne]
    have := hQ 5
    rw [e] at this
    exact this.same tt (Fr.refl _)
  · have b := (t.obs o ho).blk
    refine stB (i := 4) (w := w) b (show 4 < 5 by omega) fun w7 b7 f7 => ?_
    have upg := fun p => OT.up_g (s := s) (d := d) p
    have uniq : ∀ p ∈ os, p.s = s → p = o := fun p hp he => by
      by_cases h : p = o
      · exact h
      · exact absurd (he.trans hs.symm) (pw_ne (fun a b h1 => h1.symm) t.sd hp ho h)
    have hg : ∀ p ∈ os, p ≠ o → p.g ≠ o.g := fun p hp hne => pw_ne (fun a b h1 => h1.symm) t.gd hp ho hne
    obtain ⟨g1, g2, g3, g4, g5⟩ := t.foot
    have no : ∀ {y : Nat}, (y = x.h ∨ y = x.a ∨ y = x.cb ∨ y = x.tb ∨ y ∈ fbl lp) → y ∉ [o.g] := fun hy hm => t.off ho hy (by simpa using (List.mem_singleton.1 hm).symm)
    have hl : (os.map (OT.up s d)).length = os.length := List.length_map ..
    refine hQ 0 fh w7 ⟨ts, os.map (OT.up s d), lp, lc, ⟨?_, t.ar.keep f7 (no (by simp)) (no (by simp)) (no (by simp)), t.tsI, by rw [hl]; exact t.pops, ?_, ?_, ?_, ?_, by rw [hl]; exact t.le, ?_, ?_, t.lst, t.foot, ?_, fun y hy => by have := t.lt y hy; have := f7.size; omega⟩, ?_⟩ (f7.mono fun y hy => by simp at hy; rw [hy]; exact t.obf o ho) (fun y hy => .inl hy)
    · rw [hl]
      exact t.blk.keep f7 (no (by simp))
    · rw [hl]
      have e : (os.map (OT.up s d)).map (fun o => pv o.g) = os.map fun o => pv o.g := by
        rw [List.map_map]
        apply List.map_congr_left
        intro p _
        show pv (OT.up s d p).g = pv p.g
        rw [(upg p).1]
      rw [e]
      exact t.row.keep f7 (fun y hy => no (by simp [hy]))
    · intro p' hp'
      obtain ⟨p, hp, rfl⟩ := List.mem_map.1 hp'
      have q := t.obs p hp
      obtain ⟨u1, u2, u3, u4, u5, u6⟩ := upg p
      refine ⟨?_, by rw [u4]; exact q.bl, by rw [u5]; exact q.kl, by rw [u4, u5]; exact q.bit⟩
      by_cases he : p.s = s
      · have := uniq p hp he
        subst this
        have e : OT.up s d p = { p with d := d } := if_pos he
        rw [e]
        exact b7
      · have e : OT.up s d p = p := if_neg he
        rw [e]
        have hne : p ≠ o := fun e => he (by rw [e, hs])
        exact q.blk.keep f7 (fun hm => hg p hp hne (by simpa using hm))
    · rw [List.pairwise_map]
      exact t.gd.imp fun {a b} h => by rw [(upg a).1, (upg b).1]; exact h
    · rw [List.pairwise_map]
      exact t.pl.imp fun {a b} h => by rw [(upg a).2.2.2.1, (upg b).2.2.2.1, (upg a).2.2.2.2.1, (upg b).2.2.2.2.1]; exact h
    · rw [List.pairwise_map]
      exact t.sd.imp fun {a b} h => by rw [(upg a).2.2.2.2.2, (upg b).2.2.2.2.2]; exact h
    · intro p' hp'
      obtain ⟨p, hp, rfl⟩ := List.mem_map.1 hp'
      rw [(upg p).2.2.2.2.2]
      exact t.ser p hp
    · intro p' hp'
      obtain ⟨p, hp, rfl⟩ := List.mem_map.1 hp'
      rw [(upg p).1]
      exact t.obf p hp
    · unfold setO
      rw [List.map_map, List.map_map]
      apply List.map_congr_left
      intro p _
      show (if p.s = s then (p.s, d) else (p.s, p.d)) = (OT.up s d p).pr
      by_cases he : p.s = s
      · have e : OT.up s d p = { p with d := d } := if_pos he
        rw [e, if_pos he]; rfl
      · have e : OT.up s d p = p := if_neg he
        rw [e, if_neg he]; rfl
end
end Go.Proofs.YtnjmkhhaodgpbaaGreatX
namespace Go.Proofs.YtnjmkhhaodgpbaaGreatX
open Go.RowKit
set_option maxRecDepth 100000
theorem flat_clr16 (l : List Nat) (b i : Nat) (t v : Nat) (hb : l[b]? = some t) (hi : i < 16) (hv : ∀ j, j < 16 → v.testBit j = (!decide (j = i) && t.testBit j)) : (l.flatMap b16).set (b * 16 + i) (.bool false) = (l.set b v).flatMap b16 := by
  apply List.ext_getElem?
  intro j
  obtain ⟨hlt, he⟩ := List.getElem?_eq_some_iff.1 hb
  have hfl : ∀ l : List Nat, (l.flatMap b16).length = l.length * 16 := fun l => flat_length b16_len l
  have gt : ∀ (l : List Nat) (j : Nat), (l.flatMap b16)[j]? = if j < l.length * 16 then some (.bool ((l.getD (j / 16) 0).testBit (j % 16))) else none := by
    intro l j
    by_cases hj : j < l.length * 16
    · rw [if_pos hj]
      have hq : j / 16 < l.length := by omega
      have h1 := flat_get (f := b16) b16_len l (i := j / 16) (j := j % 16) (v := l[j / 16]) (List.getElem?_eq_getElem hq) (u := .bool (l[j / 16].testBit (j % 16))) (by
        unfold b16
        rw [List.getElem?_map, List.getElem?_range (by omega)]
        rfl)
      rw [show j / 16 * 16 + j % 16 = j by omega] at h1
      rw [h1, List.getD_eq_getElem?_getD, List.getElem?_eq_getElem hq]
      rfl
    · rw [if_neg hj, List.getElem?_eq_none_iff.2 (by rw [hfl]; omega)]
  rw [List.getElem?_set, gt, gt, hfl, List.length_set]
  by_cases h1 : b * 16 + i = j
  · subst h1
    rw [if_pos rfl, if_pos (by omega), if_pos (by omega), getD_set hlt, if_pos (by omega), hv _ (by omega)]
    simp [show (b * 16 + i) % 16 = i by omega]
  · rw [if_neg h1]
    by_cases h2 : j < l.length * 16
    · rw [if_pos h2, if_pos h2, getD_set hlt]
      by_cases h3 : b = j / 16
      · rw [if_pos h3, hv _ (by omega), decide_eq_false (by omega), ← h3, List.getD_eq_getElem?_getD, hb]
        rfl
      · rw [if_neg h3]
    · rw [if_neg h2, if_neg h2]
section
variable {w w' W : World} {Q : QT} {a cb tb b k : Nat} {cs : List Int} {ts : List Nat} {S : List Nat}
theorem RAR.stF (r : RAR w a cb tb cs ts) (T : TsI ts) (hb : b < 16) (hk : k < 8) (hf : bitAt ts b k = true) {K : World → Prop} (hK : ∀ w', RAR w' a cb tb cs (clrAt ts b k) → Fr [tb] w w' → K w') : stK w (((at0 tb 0).add (Int.toNat (b : Int) * 16)).add (Int.toNat (k : Int) * 1)) (.bool false) K := by
  have hl := T.len
  obtain ⟨d1, d2, d3⟩ := r.dis
  have hg := List.getElem?_eq_getElem (show b < ts.length by omega)
  have hfl : (ts.flatMap b16).length = ts.length * 16 := flat_length b16_len ts
  rw [Int.toNat_natCast, Int.toNat_natCast, add_add, Nat.mul_one]
  have ho := r.trow.set (i := b * 16 + k) (by omega) (.bool false)
  have f : Fr [tb] w (w.setCell ((at0 tb 0).add (b * 16 + k)) (.bool false)) := Fr.setCell (by rw [add_block]; simp [at0]) _
  refine ⟨r.trow.storeOk (by omega), hK _ ⟨r.blk.off1 d2 f, r.crow.off1 (by simp [fbl, at0]; exact fun e => d3 e.symm) f, ?_⟩ f⟩
  have hge : ts.getD b 0 = ts[b] := by rw [List.getD_eq_getElem?_getD, hg]; rfl
  rw [flat_clr16 ts b k ts[b] (ts.getD b 0 - 2 ^ k) hg (by omega) (fun j hj => ?_)] at ho
  · exact ho
  · rw [← hge]
    by_cases h8 : j < 8
    · exact clrbit_eq (T.at_ b) hk h8 hf
    · have hs := T.at_ b
      rw [hi_bit (t := ts.getD b 0 - 2 ^ k) (Nat.le_trans (Nat.sub_le _ _) hs) (by omega), hi_bit (T.at_ b) (by omega)]
      simp
theorem rat_spec (r : RAR w a cb tb (ts.map clsB) ts) (T : TsI ts) (hb : b < 16) (hk : k < 8) (hf : bitAt ts b k = true) (hQ : ∀ w', Fr [] w w' → Q (.int .i64 2) w') :
    CallR Tryz.prog 98 #[.pointer (some (at0 a 0)), .int .i64 (16 * (b : Int) + 2 * (k : Int))] w Q := by
  apply X98.sound
  unfold X98.f
  have hne : ts.getD b 0 ≠ 0 := fun e => by
    unfold bitAt at hf
    rw [e] at hf
    simp at hf
  have hc2 : clsB (ts.getD b 0) = 2 := by unfold clsB; rw [if_neg hne]
  have hd : IntKind.wrap .i64 (Int.tdiv (16 * (b : Int) + 2 * (k : Int)) 16) = (b : Int) := by rw [Int.tdiv_eq_ediv_of_nonneg (by omega), i64w _ (by omega) (by omega)]; omega
  have hm : Int.tmod (16 * (b : Int) + 2 * (k : Int)) 16 = 2 * (k : Int) := by rw [Int.tmod_eq_emod_of_nonneg (by omega)]; omega
  have hcv := r.cv hb
  rw [cls_get T hb, hc2] at hcv
  rw [hd]
  refine bc_neg (by omega) ⟨by omega, opt_some rfl (ld_sl r.c0 (bc_neg (by omega) ?_))⟩
  unfold X98.j0
  rw [hd, hm]
  have e2 : IntKind.wrap .i64 (Int.tdiv (2 * (k : Int)) 2) = (k : Int) := by rw [Int.tdiv_eq_ediv_of_nonneg (by omega), i64w _ (by omega) (by omega)]; omega
  refine opt_some rfl (ld_sl r.c0 ⟨by omega, ⟨by omega, by omega⟩, opt_some rfl (ld_int hcv (drawn fun w5 f5 _ => bc_eq (fun e => by cases e) (fun _ => ⟨by omega, by omega, ?_⟩)))⟩)
  have r5 := r.keep' f5
  rw [show Int.tmod (2 * (k : Int)) 2 = 0 by rw [Int.tmod_eq_emod_of_nonneg (by omega)]; omega, e2]
  refine bc_ne (fun e => absurd rfl e) (fun _ => opt_some rfl (ld_sl r5.c1 ⟨by omega, by omega, by omega, ⟨by omega, by omega⟩, opt_some rfl ⟨⟨by omega, by omega⟩, ld_bool (r5.tv T hb (show k < 16 by omega)) ?_⟩⟩))
  rw [hf]
  exact hQ w5 f5
theorem all_false {t : Nat} (h : t ≤ 255) : (∀ j, j < 16 → t.testBit j = false) ↔ t = 0 := by
  constructor
  · intro hh
    apply Nat.eq_of_testBit_eq
    intro j
    by_cases hj : j < 16
    · rw [hh j hj]; simp
    · rw [hi_bit h (by omega)]; simp
  · rintro rfl j _
    simp
theorem rfree_spec (r : RAR w a cb tb (ts.map clsB) ts) (T : TsI ts) (hb : b < 16) (hk : k < 8) (hf : bitAt ts b k = true) (hQ : ∀ w', RAR w' a cb tb ((clrAt ts b k).map clsB) (clrAt ts b k) → Fr [cb, tb] w w' → Q (.int .i64 0) w') :
    CallR Tryz.prog 78 #[.pointer (some (at0 a 0)), .int .i64 (16 * (b : Int) + 2 * (k : Int))] w Q := by
  apply X78.sound
  unfold X78.f
  have hd : IntKind.wrap .i64 (Int.tdiv (16 * (b : Int) + 2 * (k : Int)) 16) = (b : Int) := by rw [Int.tdiv_eq_ediv_of_nonneg (by omega), i64w _ (by omega) (by omega)]; omega
  have hm : Int.tmod (16 * (b : Int) + 2 * (k : Int)) 16 = 2 * (k : Int) := by rw [Int.tmod_eq_emod_of_nonneg (by omega)]; omega
  have e2 : IntKind.wrap .i64 (Int.tdiv (2 * (k : Int)) 2) = (k : Int) := by rw [Int.tdiv_eq_ediv_of_nonneg (by omega), i64w _ (by omega) (by omega)]; omega
  have hl := T.len
  refine rat_spec r T hb hk hf fun w2 f2 => ⟨_, rfl, bc_eq (fun e => by cases e) (fun _ => ⟨by omega, drawn fun w4 f4 _ => ?_⟩)⟩
  rw [hd, hm, e2]
  have F4 := f2.tr f4
  have r4 := r.keep' F4
  refine opt_some rfl (ld_sl r4.c1 ⟨by omega, by omega, ⟨by omega, by omega⟩, opt_some rfl ⟨⟨by omega, by omega⟩, r4.stF T hb hk hf fun w8 r8 f8 => ?_⟩⟩)
  have hC := T.clr hb hk hf
  have ev : (clrAt ts b k).getD b 0 = ts.getD b 0 - 2 ^ k := by unfold clrAt; rw [getD_set (by omega), if_pos rfl]
  have tv8 : ∀ j, j < 16 → w8.cell? (((at0 tb 0).add (Int.toNat (b : Int) * 16)).add j) = some (.bool (bitAt (clrAt ts b k) b j)) := fun j hj => by
    have := r8.tv (k := j) hC.1 hb hj
    rwa [Int.toNat_natCast j, Nat.mul_one] at this
  have F8 : Fr [cb, tb] w w8 := F4.any.tr (f8.mono fun x hx => by simp at hx; simp [hx])
  have hv := hC.1.at_ b
  have done : Q (.int .i64 0) w8 → True := fun _ => trivial
  refine opt_some rfl (ld_sl r8.c1 ⟨⟨by omega, by omega⟩, opt_some rfl (ld_bool (tv8 0 (by omega)) (ld_bool (tv8 1 (by omega)) (ld_bool (tv8 2 (by omega)) (ld_bool (tv8 3 (by omega)) (ld_bool (tv8 4 (by omega)) (ld_bool (tv8 5 (by omega)) (ld_bool (tv8 6 (by omega)) (ld_bool (tv8 7 (by omega)) (ld_bool (tv8 8 (by omega)) (ld_bool (tv8 9 (by omega)) (ld_bool (tv8 10 (by omega)) (ld_bool (tv8 11 (by omega)) (ld_bool (tv8 12 (by omega)) (ld_bool (tv8 13 (by omega)) (ld_bool (tv8 14 (by omega)) (ld_bool (tv8 15 (by omega)) (?_)))))))))))))))))⟩)
  refine bc_bool (fun hx => ?_) (fun hx => ?_)
  · simp only [Bool.and_eq_true, beq_iff_eq, and_true] at hx
    have h0 : (clrAt ts b k).getD b 0 = 0 := (all_false hv).1 fun j hj => by
      obtain ⟨x0, x1, x2, x3, x4, x5, x6, x7, x8, x9, x10, x11, x12, x13, x14, x15⟩ := hx
      have hj : j = 0 ∨ j = 1 ∨ j = 2 ∨ j = 3 ∨ j = 4 ∨ j = 5 ∨ j = 6 ∨ j = 7 ∨ j = 8 ∨ j = 9 ∨ j = 10 ∨ j = 11 ∨ j = 12 ∨ j = 13 ∨ j = 14 ∨ j = 15 := by omega
      rcases hj with rfl | rfl | rfl | rfl | rfl | rfl | rfl | rfl | rfl | rfl | rfl | rfl | rfl | rfl | rfl | rfl <;> assumption
    rw [ev] at h0
    refine opt_some rfl (ld_sl r8.c0 ⟨⟨by omega, by omega⟩, opt_some rfl (r8.stC hb 0 fun w20 r20 f20 => ?_)⟩)
    refine hQ w20 ?_ (F8.tr (f20.mono fun x hx => by simp at hx; simp [hx]))
    rw [cls_clr T hb, h0]
    exact r20
  · have h0 : ts.getD b 0 - 2 ^ k ≠ 0 := fun e => by
      rw [← ev] at e
      have h := (all_false hv).2 e
      unfold bitAt at hx
      rw [h 0 (by omega), h 1 (by omega), h 2 (by omega), h 3 (by omega), h 4 (by omega), h 5 (by omega), h 6 (by omega), h 7 (by omega), h 8 (by omega), h 9 (by omega), h 10 (by omega), h 11 (by omega), h 12 (by omega), h 13 (by omega), h 14 (by omega), h 15 (by omega)] at hx
      simp at hx
    refine hQ w8 ?_ F8
    rw [cls_clr T hb]
    have e2 : clsB (ts.getD b 0 - 2 ^ k) = 2 := by unfold clsB; rw [if_neg h0]
    have hne : ts.getD b 0 ≠ 0 := fun e => by
      rw [e] at h0
      simp at h0
    have hc2 : clsB (ts.getD b 0) = 2 := by unfold clsB; rw [if_neg hne]
    rw [e2]
    have hg := List.getElem?_eq_getElem (show b < (ts.map clsB).length by simp; omega)
    have : (ts.map clsB)[b]'(by simp; omega) = 2 := by
      have := cls_get T hb
      rw [List.getD_eq_getElem?_getD, hg, hc2] at this
      exact this
    rw [set_same' (by rw [hg, this])]
    exact r8
end
end Go.Proofs.YtnjmkhhaodgpbaaGreatX
namespace Go.Proofs.YtnjmkhhaodgpbaaGreatX
open Go.RowKit
set_option maxRecDepth 100000
section
variable {w w' W : World} {Q : QT} {x : RHB} {fh F : List Nat} {node last s d : Int} {ts : List Nat} {os : List OT} {o : OT} {l : List (Int × Int)} {lp : Option Addr} {lc b g r v : Nat}
theorem pvs_one (l : List OT) : ∀ u ∈ l.map (fun o => pv o.g), u.oneCell' = true := by
  intro u hu
  obtain ⟨e, _, rfl⟩ := List.mem_map.1 hu
  rfl
theorem rhfree_l0 (t : PRa w x fh node last ts os lp lc) (hQ : AftR w x fh node last (freeO (os.map OT.pr) s) (.int .i64 (if hasO (os.map OT.pr) s then 0 else 5)) Q) :
    ∀ (f i : Nat), os.length - i < f → i ≤ os.length → ((os.take i).find? fun o => decide (o.s = s)) = none → X40.l0 Q f (some (at0 x.h 0)) s (i : Int) w
  | 0, i, hf, _, _ => absurd hf (Nat.not_lt_zero _)
  | f + 1, i, hf, hi, hn => by
    have hle := t.le
    have tt : PR w x fh node last (os.map OT.pr) := ⟨ts, os, lp, lc, t, rfl⟩
    rw [X40.l0]
    have ei : IntKind.wrap .i64 ((i : Int) + 1) = ((i + 1 : Nat) : Int) := by rw [i64w ((i : Int) + 1) (by omega) (by omega)]; omega
    refine opt_some rfl (ld_sl (t.c0 4 rfl) (bc_dec (fun hlt => ?_) (fun hge => ?_)))
    · have hl : i < os.length := by omega
      have hg := List.getElem?_eq_getElem hl
      have hsplit : os = os.take i ++ os[i] :: os.drop (i + 1) := by rw [← List.drop_eq_getElem_cons hl, List.take_append_drop]
      have hmem := List.getElem_mem hl
      generalize os[i] = o at *
      obtain ⟨p, hp, hc⟩ := t.getP hg
      have B := (t.obs o hmem).blk
      refine opt_some rfl (ld_sl (t.c0 4 rfl) ⟨⟨by omega, by omega⟩, opt_some hp (ld_ptr hc (opt_some rfl (ld_int (B.cat 0 _ rfl) ?_)))⟩)
      rw [ei]
      refine bc_eq (fun he => drawn fun w9 f9 _ => ?_) (fun he => ?_)
      · have he : o.s = s := he
        have t9 := t.keep' f9
        have ob := t9.obs o hmem
        obtain ⟨p9, hp9, hc9⟩ := t9.getP hg
        refine opt_some rfl (ld_ptr (t9.c0 3 rfl) (opt_some rfl (ld_sl (t9.c0 4 rfl) ⟨⟨by omega, by omega⟩, opt_some hp9 (ld_ptr hc9 (opt_some rfl (ld_int (ob.blk.cat 1 _ rfl) ?_)))⟩)))
        refine rfree_spec t9.ar t9.tsI ob.bl ob.kl ob.bit fun w19 A19 f19 => ⟨_, rfl, drawn fun w21 f21 _ => ?_⟩
        obtain ⟨d1, d2, d3, d4⟩ := t9.dis
        have B19 := t9.blk.keep f19 (by simp [d2, d3])
        have L19 := t9.row.keep f19 (fun y hy => by obtain ⟨_, _, h3, h4⟩ := d4 y hy; simp [h3, h4])
        have B21 := B19.keep' f21
        have L21 := L19.keep' f21
        have A21 := A19.keep' f21
        have F21 : Fr [x.cb, x.tb] w w21 := (f9.any.tr f19).tr f21.any
        have z21 := F21.size
        refine newB fun g22 w23 b23 f23 h23 => ?_
        have B23 := B21.keep' f23
        have L23 := L21.keep' f23
        have hz : ∀ {n : Nat} {c : Nat} {xs : List Value}, Own 92 1 w23 lp n c xs → (lp = none → c = 0) := fun o h => by
          subst h
          exact o.none_c.2.1
        have nl := hz L23
        refine opt_some rfl (ld_sl (B23.cat 4 _ rfl) ⟨⟨B21.cat 4 _ rfl, B23.cat 4 _ rfl⟩, ⟨by omega, by omega, by have := L23.le; omega⟩, ?_⟩)
        rw [toNat0, cutAt_zero', Int.toNat_natCast, Nat.sub_zero, Nat.sub_zero]
        have c1 : Cells w23 lp ((os.take i).map fun o => pv o.g) := by
          have := cells_take L23.cells i
          rwa [← List.map_take] at this
        refine app_step rowP (emptyRow b23) c1 (k := i) (by rw [List.length_map, List.length_take]; omega) nl (pvs_one _) (by omega) (by omega) (W := w21) (by simp [fbl, at0]; omega) f23 fun p2 c2 w27 o27 hp27 f27 _ => ?_
        have B27 := B21.keep' f27
        have L27 := L21.keep' f27
        refine opt_some rfl (ld_sl (B27.cat 4 _ rfl) ⟨⟨B23.cat 4 _ rfl, B27.cat 4 _ rfl⟩, ⟨B21.cat 4 _ rfl, B23.cat 4 _ rfl⟩, ⟨by omega, by omega, by have := L27.le; omega⟩, ?_⟩)
        rw [Int.toNat_natCast, Int.toNat_natCast]
        obtain ⟨c3, n3⟩ := cells_cut (Z := 1) (i := i + 1) (n := os.length) (c := lc) L27.cells (by rw [List.length_map]; omega) (by omega) L27.le nl
        rw [Nat.mul_one, ← List.map_drop] at c3
        refine app_step rowP o27 c3 (k := os.length - (i + 1)) (by rw [List.length_map, List.length_drop]; omega) n3 (pvs_one _) (by omega) (by omega) (W := w21) hp27 f27 fun p3 c3' w32 o32 hp32 f32 _ => ?_
        have B32 := B21.keep' f32
        have hos : os.filter (fun p => decide (p.s ≠ s)) = os.take i ++ os.drop (i + 1) := by
          have sd := t.sd
          rw [hsplit] at sd
          rw [List.pairwise_append] at sd
          obtain ⟨_, n2, n3⟩ := sd
          rw [List.pairwise_cons] at n2
          conv => lhs; rw [hsplit]
          rw [List.filter_append, List.filter_cons_of_neg (by simp [he]), List.filter_eq_self.2, List.filter_eq_self.2]
          · intro p hp
            have := n2.1 p hp
            exact decide_eq_true (fun e => this (he.trans e.symm))
          · intro p hp
            have := n3 p hp o (by simp)
            exact decide_eq_true (fun e => this (e.trans he.symm))
        have hlen : (os.filter (fun p => decide (p.s ≠ s))).length = 0 + i + (os.length - (i + 1)) := by
          rw [hos, List.length_append, List.length_take, List.length_drop]
          omega
        refine opt_some rfl (stB (i := 4) B32 (show 4 < 5 by omega) fun w35 B35 f35 => ?_)
        have B35 : Blk w35 x.h (rhcells x node last p3 (os.filter (fun p => decide (p.s ≠ s))).length c3') 78 := by rw [hlen]; exact B35
        have nh3 : x.h ∉ fbl p3 := fun hm => by
          have := hp32 _ hm
          have := t.blk.lt
          omega
        have o35 := o32.keep f35 (fun y hy hm => nh3 (by simp at hm; rwa [← hm]))
        have A35 := (A21.keep' f32).keep f35 (by simp; exact fun e => d1 e.symm) (by simp; exact fun e => d2 e.symm) (by simp; exact fun e => d3 e.symm)
        have F35 : Fr [x.h, x.cb, x.tb] w w35 := ((F21.mono fun y hy => by simp at hy; rcases hy with rfl | rfl <;> simp).tr f32.any).tr (f35.mono fun y hy => by simp at hy; simp [hy])
        have z35 := F35.size
        have hC := t.tsI.clr ob.bl ob.kl ob.bit
        have hsub : ∀ p ∈ os.filter (fun p => decide (p.s ≠ s)), p ∈ os := fun p hp => (List.mem_filter.1 hp).1
        have hpl : ∀ p ∈ os.filter (fun p => decide (p.s ≠ s)), ¬ (p.b = o.b ∧ p.k = o.k) := fun p hp => by
          have hne : p ≠ o := fun e => by
            have := (List.mem_filter.1 hp).2
            rw [e, he] at this
            simp at this
          exact pw_ne (R := fun o p => ¬ (o.b = p.b ∧ o.k = p.k)) (fun a b h ⟨h1, h2⟩ => h ⟨h1.symm, h2.symm⟩) t.pl (hsub p hp) hmem hne
        have hhas : hasO (os.map OT.pr) s = true := by
          rw [hasO_os, hsplit, List.find?_append, hn, Option.none_or, List.find?_cons_of_pos (by simpa using he)]
          rfl
        rw [hhas] at hQ
        obtain ⟨g1, g2, g3, g4, g5⟩ := t.foot
        refine hQ (fh ++ fbl p3) w35 ⟨clrAt ts o.b o.k, os.filter (fun p => decide (p.s ≠ s)), p3, c3', ⟨B35, A35, hC.1, ?_, ?_, ?_, t.gd.filter _, t.pl.filter _, by omega, t.sd.filter _, fun p hp => t.ser p (hsub p hp), t.lst, ⟨by simp [g1], by simp [g2], by simp [g3], by simp [g4], fun y hy => by simp [hy]⟩, fun p hp => by simp [t.obf p (hsub p hp)], ?_⟩, ?_⟩ (F35.mono fun y hy => ?_) (fun y hy => ?_)
        · have h1 := hC.2.1
          have h2 := t.pops
          omega
        · rw [hlen, hos, List.map_append]
          exact o35
        · intro p hp
          have q := t.obs p (hsub p hp)
          refine ⟨q.blk.keep F35 (fun hm => ?_), q.bl, q.kl, ?_⟩
          · simp at hm
            rcases hm with h | h | h
            · exact t.off (hsub p hp) (.inl rfl) h
            · exact t.off (hsub p hp) (.inr (.inr (.inl rfl))) h
            · exact t.off (hsub p hp) (.inr (.inr (.inr (.inl rfl)))) h
          · rw [hC.2.2 _ _ q.kl, q.bit]
            have := hpl p hp
            rw [decide_eq_false this]
            rfl
        · intro y hy
          rcases List.mem_append.1 hy with hy | hy
          · have := t.lt y hy
            omega
          · exact o35.lt y hy
        · unfold freeO
          rw [List.filter_map]
          rfl
        · simp at hy
          rcases hy with rfl | rfl | rfl <;> assumption
        · rcases List.mem_append.1 hy with hy | hy
          · exact .inl hy
          · exact .inr (by have := hp32 y hy; omega)
      · refine rhfree_l0 t hQ f (i + 1) (by omega) (by omega) ?_
        rw [List.take_add_one, hg, List.find?_append, hn, Option.none_or]
        simpa using he
    · have : os.take i = os := List.take_of_length_le (by omega)
      rw [this] at hn
      have e : freeO (os.map OT.pr) s = os.map OT.pr := by
        apply List.filter_eq_self.2
        intro e he
        obtain ⟨o, ho, rfl⟩ := List.mem_map.1 he
        have := List.find?_eq_none.1 hn o ho
        exact decide_eq_true (fun e2 => this (decide_eq_true e2))
      rw [hasO_os, hn, e] at hQ
      exact hQ.same tt (Fr.refl _)
theorem rhfree_spec (t : PR w x fh node last l) (hQ : AftR w x fh node last (freeO l s) (.int .i64 (if hasO l s then 0 else 5)) Q) :
    CallR Tryz.prog 40 #[.pointer (some (at0 x.h 0)), .int .u64 s] w Q := by
  apply X40.sound
  unfold X40.f
  obtain ⟨ts, os, lp, lc, t, rfl⟩ := t
  exact ⟨os.length + 1, rhfree_l0 t hQ _ 0 (by omega) (by omega) (by simp)⟩
end
end Go.Proofs.YtnjmkhhaodgpbaaGreatX
namespace Go.Proofs.YtnjmkhhaodgpbaaGreatX
open Go.RowKit
structure RT_SC (w : World) (g : Nat) (cs : List Value) (foot : List Nat) (most : Int) (l : List (Int × Scn)) (pk pv : Option Addr) (ck cv : Nat) : Prop where
  blk : Blk w g cs 82
  c0 : cs[23]? = some (.int .i64 most)
  c1 : cs[23 + 1]? = some (.slice pk l.length ck)
  c2 : cs[23 + 2]? = some (.slice pv l.length cv)
  ks : Own 22 1 w pk l.length ck ((keys l).map (Value.int .u64))
  vs : Own 52 6 w pv l.length cv (l.flatMap vc_SC)
  ft : foot = g :: (fbl pk ++ fbl pv)
  gk : g ∉ fbl pk
  gv : g ∉ fbl pv
  kv : ∀ x ∈ fbl pk, x ∉ fbl pv
  srt : Srt ilt (keys l)
  top : l.length ≤ 100000
section
variable {w w' : World} {g : Nat} {cs : List Value} {foot S : List Nat} {most : Int} {l : List (Int × Scn)} {pk pv : Option Addr} {ck cv : Nat} {Q : QT} {k : Int}
theorem RT_SC.keep (t : RT_SC w g cs foot most l pk pv ck cv) (f : Fr S w w') (hd : ∀ x ∈ foot, x ∉ S) : RT_SC w' g cs foot most l pk pv ck cv := by
  refine ⟨t.blk.keep f (hd g ?_), t.c0, t.c1, t.c2, t.ks.keep f (fun x hx => hd x ?_), t.vs.keep f (fun x hx => hd x ?_), t.ft, t.gk, t.gv, t.kv, t.srt, t.top⟩ <;> rw [t.ft] <;> simp_all
theorem RT_SC.keep' (t : RT_SC w g cs foot most l pk pv ck cv) (f : Fr [] w w') : RT_SC w' g cs foot most l pk pv ck cv := t.keep f (by simp)
theorem RT_SC.lt (t : RT_SC w g cs foot most l pk pv ck cv) : ∀ x ∈ foot, x < w.heap.size := by
  intro x hx
  rw [t.ft] at hx
  rcases List.mem_cons.1 hx with rfl | hx
  · exact t.blk.lt
  · rcases List.mem_append.1 hx with hx | hx
    · exact t.ks.lt x hx
    · exact t.vs.lt x hx
theorem RT_SC.st (t : RT_SC w g cs foot most l pk pv ck cv) {i : Nat} {v : Value} (hi : i < cs.length) (h0 : i ≠ 23) (h1 : i ≠ 23 + 1) (h2 : i ≠ 23 + 2) {K : World → Prop}
    (hK : ∀ w', RT_SC w' g (cs.set i v) foot most l pk pv ck cv → Fr [g] w w' → K w') : stK w ((at0 g 0).add i) v K := by
  refine stB t.blk hi fun w' b f => hK w' ⟨b, ?_, ?_, ?_, t.ks.keep f (fun x hx hm => t.gk (by simp at hm; rwa [← hm])), t.vs.keep f (fun x hx hm => t.gv (by simp at hm; rwa [← hm])), t.ft, t.gk, t.gv, t.kv, t.srt, t.top⟩ f
  · rw [List.getElem?_set_ne h0]; exact t.c0
  · rw [List.getElem?_set_ne h1]; exact t.c1
  · rw [List.getElem?_set_ne h2]; exact t.c2
theorem RT_SC.m0 (t : RT_SC w g cs foot most l pk pv ck cv) : w.cell? ((at0 g 23).add 0) = some (.int .i64 most) := by rw [add_at]; exact t.blk.cell t.c0
theorem RT_SC.k1 (t : RT_SC w g cs foot most l pk pv ck cv) : w.cell? ((at0 g 23).add 1) = some (.slice pk l.length ck) := by rw [add_at]; exact t.blk.cell t.c1
theorem RT_SC.v2 (t : RT_SC w g cs foot most l pk pv ck cv) : w.cell? ((at0 g 23).add 2) = some (.slice pv l.length cv) := by rw [add_at]; exact t.blk.cell t.c2
theorem place_l0_SC (t : RT_SC w g cs foot most l pk pv ck cv) (hQ : ∀ w', Fr [] w w' → Q (.tuple #[.int .i64 (at_ ilt l k : Int), .bool (has ilt l k)]) w') :
    ∀ (m i : Nat), l.length - i < m → i ≤ at_ ilt l k → X89.l0 Q m (some (at0 g 23)) k (i : Int) w
  | 0, i, hm, _ => by omega
  | m + 1, i, hm, hi => by
    have hal := at_le (lt := ilt) l k
    have htop := t.top
    rw [X89.l0]
    simp only [optP_some]
    refine ld_sl t.k1 (bc_dec (fun h1 => ld_sl t.k1 ⟨⟨by omega, by omega⟩, ?_⟩) (fun h1 => ?_))
    · have hlt : i < (keys l).length := by simp; omega
      have hg := List.getElem?_eq_getElem hlt
      generalize (keys l)[i] = x at hg
      obtain ⟨a, ha, hx⟩ := cell_79 t.ks.cells hg
      refine opt_some ha (ld_int (by rw [Int.toNat_natCast]; exact hx) (bc_dec (fun hge => ?_) (fun hnl => ?_)))
      · have hr : i = at_ ilt l k := by
          by_cases h : i < at_ ilt l k
          · have := rank_lt (lt := ilt) h hg
            simp [ilt] at this
            omega
          · omega
        refine drawn fun w7 f7 _ => ?_
        have t7 := t.keep' f7
        obtain ⟨a7, ha7, hx7⟩ := cell_79 t7.ks.cells hg
        refine ld_sl t7.k1 ⟨⟨by omega, by omega⟩, opt_some ha7 (ld_int (by rw [Int.toNat_natCast]; exact hx7) ?_)⟩
        have : (x == k) = has ilt l k := by
          unfold has
          rw [← hr, hg]
          by_cases h : x = k <;> simp [h]
        rw [this, hr]
        exact hQ _ f7
      · have hlt2 : i < at_ ilt l k := by
          by_cases h : at_ ilt l k ≤ i
          · have := rank_ge ilt_lin t.srt h hg
            simp [ilt] at this
            omega
          · omega
        rw [i64w ((i : Int) + 1) (by omega) (by omega), show (i : Int) + 1 = ((i + 1 : Nat) : Int) by omega]
        exact place_l0_SC t hQ m (i + 1) (by omega) (by omega)
    · refine ld_sl t.k1 ?_
      have hr : at_ ilt l k = l.length := by omega
      have hh : has ilt l k = false := by
        unfold has
        rw [hr, List.getElem?_eq_none (by simp)]
        simp
      have := hQ w (Fr.refl w)
      rw [hr, hh] at this
      exact this
theorem place_SC (t : RT_SC w g cs foot most l pk pv ck cv) (hQ : ∀ w', Fr [] w w' → Q (.tuple #[.int .i64 (at_ ilt l k : Int), .bool (has ilt l k)]) w') : CallR Tryz.prog 89 #[.pointer (some (at0 g 23)), (Value.int .u64) k] w Q := by
  refine X89.sound _ _ _ _ ?_
  exact ⟨l.length + 1, place_l0_SC t hQ _ 0 (by omega) (by omega)⟩
theorem rget_SC (t : RT_SC w g cs foot most l pk pv ck cv) (hno : get ilt l k = none → ∀ w', Fr [] w w' → Q (.tuple #[(⟨0, 0, false, 0, 0, 0⟩ : Scn).val, .bool false]) w') (hK : ∀ v, get ilt l k = some v → ∀ w', Fr [] w w' → Q (.tuple #[v.val, .bool true]) w') :
    CallR Tryz.prog 66 #[.pointer (some (at0 g 23)), (Value.int .u64) k] w Q := by
  refine X66.sound _ _ _ _ ?_
  unfold X66.f
  simp only [optP_some]
  refine newB fun g1 w2 b1 f2 hg1 => ?_
  refine place_SC (t.keep' f2) fun w4 f4 => ⟨_, _, rfl, ?_⟩
  have f24 := f2.tr f4
  have t4 := t.keep' f24
  have b4 := b1.keep' f4
  have htop := t.top
  refine bc_bool (fun hh => ?_) (fun hh => ?_)
  · have hlt := at_lt hh
    rw [hh]
    refine ld_sl t4.v2 ⟨⟨by omega, by omega⟩, ?_⟩
    have hi := List.getElem?_eq_getElem hlt
    obtain ⟨p, hp, hc⟩ := own_at vc_len_SC t4.vs rfl hi
    rw [Int.toNat_natCast]
    refine opt_some hp (ld_Scn (s := (l[at_ ilt l k]).2) hc (stAllB b4 rfl fun w20 b20 f20 => ld_Scn (s := (l[at_ ilt l k]).2) b20.cat (stAllB b20 rfl fun w21 b21 f21 => ld_Scn (s := (l[at_ ilt l k]).2) b21.cat ?_)))
    exact hK _ (by unfold get; rw [if_pos hh, hi]; rfl) _ ((f24.loc f20 hg1).loc f21 hg1)
  · rw [hh]
    refine ld_Scn (s := ⟨0, 0, false, 0, 0, 0⟩) b4.cat (stAllB b4 rfl fun w20 b20 f20 => ld_Scn (s := ⟨0, 0, false, 0, 0, 0⟩) b20.cat ?_)
    exact hno (by unfold get; rw [if_neg (by simpa using hh)]) _ (f24.loc f20 hg1)
theorem rfirst_SC (t : RT_SC w g cs foot most l pk pv ck cv) (hQ : Q (.tuple #[(Value.int .u64) ((keys l)[0]?.getD 0), .bool (keys l)[0]?.isSome]) w) : CallR Tryz.prog 93 #[.pointer (some (at0 g 23))] w Q := by
  refine X93.sound _ _ _ ?_
  unfold X93.f
  simp only [optP_some]
  refine ld_sl t.k1 (bc_eq (fun h0 => ?_) (fun h0 => ld_sl t.k1 ⟨⟨by omega, by omega⟩, ?_⟩))
  · rw [List.getElem?_eq_none (by simp only [List.length_map]; omega)] at hQ
    exact hQ
  · have hlt : 0 < (keys l).length := by simp; omega
    have hg := List.getElem?_eq_getElem hlt
    rw [hg] at hQ
    obtain ⟨a, ha, hx⟩ := cell_79 t.ks.cells hg
    exact opt_some ha (ld_int hx hQ)
theorem rnext_l0_SC (t : RT_SC w g cs foot most l pk pv ck cv) (hQ : Q (.tuple #[(Value.int .u64) ((next ilt l k).getD 0), .bool (next ilt l k).isSome]) w) :
    ∀ (m i : Nat), l.length - i < m → i ≤ (if has ilt l k then at_ ilt l k + 1 else at_ ilt l k) → X92.l0 Q m (some (at0 g 23)) k 0 (i : Int) w
  | 0, i, hm, _ => by omega
  | m + 1, i, hm, hi => by
    have hal := at_le (lt := ilt) l k
    have htop := t.top
    have hil : i ≤ l.length := by
      split at hi
      · rename_i hh; have := at_lt hh; omega
      · omega
    rw [X92.l0]
    simp only [optP_some]
    refine ld_sl t.k1 (bc_dec (fun h1 => ld_sl t.k1 ⟨⟨by omega, by omega⟩, ?_⟩) (fun h1 => ?_))
    · have hlt : i < (keys l).length := by simp; omega
      have hg := List.getElem?_eq_getElem hlt
      generalize (keys l)[i] = x at hg
      obtain ⟨a, ha, hx⟩ := cell_79 t.ks.cells hg
      refine opt_some ha (ld_int (by rw [Int.toNat_natCast]; exact hx) (bc_dec (fun hgt => ld_sl t.k1 ⟨⟨by omega, by omega⟩, opt_some ha (ld_int (by rw [Int.toNat_natCast]; exact hx) ?_)⟩) (fun hng => ?_)))
      · have hr : i = (if has ilt l k then at_ ilt l k + 1 else at_ ilt l k) := by
          by_cases h : i < at_ ilt l k
          · have := rank_lt (lt := ilt) h hg
            simp [ilt] at this
            omega
          · split
            · rename_i hh
              by_cases he : i = at_ ilt l k
              · unfold has at hh
                rw [decide_eq_true_eq, ← he, hg] at hh
                injection hh with hh
                omega
              · rw [if_pos (by assumption)] at hi; omega
            · rw [if_neg (by assumption)] at hi; omega
        unfold next at hQ
        rw [← hr, hg] at hQ
        exact hQ
      · have hlt2 : i + 1 ≤ (if has ilt l k then at_ ilt l k + 1 else at_ ilt l k) := by
          by_cases h : i < at_ ilt l k
          · split <;> omega
          · have h2 := rank_ge ilt_lin (k := k) t.srt (Nat.le_of_not_lt h) hg
            simp [ilt] at h2
            have hxk : x = k := by omega
            subst hxk
            have hh : has ilt l x = true := (has_iff ilt_lin t.srt).2 (List.mem_of_getElem? hg)
            rw [if_pos hh]
            by_cases he : i = at_ ilt l x
            · omega
            · exfalso
              unfold has at hh
              rw [decide_eq_true_eq] at hh
              obtain ⟨q1, q2⟩ := List.getElem?_eq_some_iff.1 hh
              obtain ⟨q3, q4⟩ := List.getElem?_eq_some_iff.1 hg
              have := List.pairwise_iff_getElem.1 t.srt (at_ ilt l x) i q1 q3 (by omega)
              rw [q2, q4] at this
              simp [ilt] at this
        rw [i64w ((i : Int) + 1) (by omega) (by omega), show (i : Int) + 1 = ((i + 1 : Nat) : Int) by omega]
        exact rnext_l0_SC t hQ m (i + 1) (by omega) (by omega)
    · have hn : next ilt l k = none := by
        unfold next
        refine List.getElem?_eq_none ?_
        simp
        split <;> (split at hi <;> simp_all <;> omega)
      rw [hn] at hQ
      exact hQ
theorem rafter_SC (t : RT_SC w g cs foot most l pk pv ck cv) (hQ : Q (.tuple #[(Value.int .u64) ((after ilt l k).getD 0), .bool (after ilt l k).isSome]) w) : CallR Tryz.prog 71 #[.pointer (some (at0 g 23)), (Value.int .u64) k] w Q := by
  refine X71.sound _ _ _ _ ?_
  unfold X71.f
  refine X92.sound _ _ _ _ ⟨l.length + 1, rnext_l0_SC t ⟨_, _, rfl, ?_⟩ _ 0 (by omega) (by omega)⟩
  unfold after at hQ
  cases hn : next ilt l k with
  | some x => rw [hn] at hQ; exact bc_bool (fun _ => hQ) (fun h => by cases h)
  | none =>
    rw [hn] at hQ
    exact bc_bool (fun h => by cases h) (fun _ => rfirst_SC t ⟨_, _, rfl, hQ⟩)
end
end Go.Proofs.YtnjmkhhaodgpbaaGreatX
namespace Go.Proofs.YtnjmkhhaodgpbaaGreatX
open Go.RowKit
section
variable {w w' : World} {g : Nat} {cs : List Value} {foot S : List Nat} {most : Int} {l : List (Int × Scn)} {pk pv : Option Addr} {ck cv : Nat} {Q : QT} {k : Int}
theorem len_put_SC (hh : has ilt l k = false) (v : Scn) : (put ilt l k v).length = l.length + 1 := by rw [put_length, if_neg (by simp [hh])]
theorem keys_put_SC (hh : has ilt l k = false) (v : Scn) : (keys (put ilt l k v)).map (Value.int .u64) = ((keys l).map (Value.int .u64)).take (at_ ilt l k * 1) ++ [(Value.int .u64) k] ++ ((keys l).map (Value.int .u64)).drop (at_ ilt l k * 1) := by
  have hput : put ilt l k v = l.take (at_ ilt l k) ++ (k, v) :: l.drop (at_ ilt l k) := by unfold put; rw [if_neg (by simp [hh])]
  rw [hput]
  simp [keys, List.map_take, List.map_drop]
theorem vals_put_SC (hh : has ilt l k = false) (v : Scn) : (put ilt l k v).flatMap vc_SC = (l.flatMap vc_SC).take (at_ ilt l k * 6) ++ v.cells ++ (l.flatMap vc_SC).drop (at_ ilt l k * 6) := by
  have hput : put ilt l k v = l.take (at_ ilt l k) ++ (k, v) :: l.drop (at_ ilt l k) := by unfold put; rw [if_neg (by simp [hh])]
  rw [hput, flat_ins vc_len_SC]
  rfl
theorem RT_SC.kl (t : RT_SC w g cs foot most l pk pv ck cv) : l.length ≤ ck ∧ (pk = none → ck = 0) := ⟨t.ks.le, fun h => by have := t.ks; subst h; exact this.none_c.2.1⟩
theorem RT_SC.vl (t : RT_SC w g cs foot most l pk pv ck cv) : l.length ≤ cv ∧ (pv = none → cv = 0) := ⟨t.vs.le, fun h => by have := t.vs; subst h; exact this.none_c.2.1⟩
theorem rput_end_SC {v : Scn} {kp vp : Option Addr} {kc vc : Nat} (t : RT_SC w g cs foot most l pk pv ck cv) (hh : has ilt l k = false) (hm : l.length < 100000)
    (ok : Own 22 1 w' kp (l.length + 1) kc ((keys (put ilt l k v)).map (Value.int .u64))) (ov : Own 52 6 w' vp (l.length + 1) vc ((put ilt l k v).flatMap vc_SC)) (f : Fr [] w w')
    (nk : ∀ x ∈ fbl kp, w.heap.size ≤ x) (nv : ∀ x ∈ fbl vp, w.heap.size ≤ x) (kv : ∀ x ∈ fbl kp, x ∉ fbl vp)
    (hK : ∀ foot' w', RT_SC w' g ((cs.set (23 + 1) (.slice kp (put ilt l k v).length kc)).set (23 + 2) (.slice vp (put ilt l k v).length vc)) foot' most (put ilt l k v) kp vp kc vc → Fr foot w w' → (∀ x ∈ foot', x ∈ foot ∨ w.heap.size ≤ x) → Q (.bool true) w') :
    stK w' ((at0 g 23).add 1) (.slice kp (l.length + 1) kc) fun w27 => stK w27 ((at0 g 23).add 2) (.slice vp (l.length + 1) vc) fun w29 => Q (.bool true) w29 := by
  have t' := t.keep' f
  have hgl := t.blk.lt
  have hlen1 := (List.getElem?_eq_some_iff.1 t.c1).1
  have hlen2 := (List.getElem?_eq_some_iff.1 t.c2).1
  have gk : g ∉ fbl kp := fun hm => by have := nk g hm; omega
  have gv : g ∉ fbl vp := fun hm => by have := nv g hm; omega
  refine stO t'.blk (by omega) fun w27 b27 f27 => stO b27 (by rw [List.length_set]; omega) fun w29 b29 f29 => ?_
  have hln := len_put_SC hh v
  refine hK (g :: (fbl kp ++ fbl vp)) w29 ⟨by rw [hln]; exact b29, ?_, ?_, ?_, ?_, ?_, rfl, gk, gv, kv, put_srt ilt_lin t.srt, by omega⟩ ?_ ?_
  · rw [List.getElem?_set_ne (by omega), List.getElem?_set_ne (by omega)]; exact t.c0
  · rw [List.getElem?_set_ne (by omega), List.getElem?_set_self (by omega)]
  · rw [List.getElem?_set_self (by rw [List.length_set]; omega)]
  · rw [hln]; exact (ok.keep f27 (fun x hx hm => gk (by simp at hm; rwa [← hm]))).keep f29 (fun x hx hm => gk (by simp at hm; rwa [← hm]))
  · rw [hln]; exact (ov.keep f27 (fun x hx hm => gv (by simp at hm; rwa [← hm]))).keep f29 (fun x hx hm => gv (by simp at hm; rwa [← hm]))
  · exact (f.any.inl f27 (by rw [t.ft]; simp)).inl f29 (by rw [t.ft]; simp)
  · intro x hx
    rcases List.mem_cons.1 hx with rfl | hx
    · exact .inl (by rw [t.ft]; simp)
    · rcases List.mem_append.1 hx with hx | hx
      · exact .inr (nk x hx)
      · exact .inr (nv x hx)
theorem rput_j0_SC {v : Scn} {gv : Nat} {kp : Option Addr} {kc : Nat} (t : RT_SC w g cs foot most l pk pv ck cv) (hh : has ilt l k = false) (hm : l.length < 100000) (f : Fr [] w w') (bv : Blk w' gv v.cells 52)
    (ok : Own 22 1 w' kp (l.length + 1) kc ((keys (put ilt l k v)).map (Value.int .u64))) (nk : ∀ x ∈ fbl kp, w.heap.size ≤ x)
    (hK : ∀ foot' pk' pv' ck' cv' w', RT_SC w' g ((cs.set (23 + 1) (.slice pk' (put ilt l k v).length ck')).set (23 + 2) (.slice pv' (put ilt l k v).length cv')) foot' most (put ilt l k v) pk' pv' ck' cv' → Fr foot w w' → (∀ x ∈ foot', x ∈ foot ∨ w.heap.size ≤ x) → Q (.bool true) w') :
    X67.j0 Q (some (at0 g 23)) (at0 gv 0) (at_ ilt l k : Int) kp (l.length + 1) kc none 0 0 w' := by
  unfold X67.j0
  have hal := at_le (lt := ilt) l k
  simp only [optP_some, toNat0, cutAt_zero', Nat.sub_zero, Int.toNat_natCast]
  have hfl : (l.flatMap vc_SC).length = l.length * 6 := flat_length vc_len_SC l
  have hs := f.size
  refine drawn fun w1 f1 e1 => ?_
  have t1 := t.keep' (f.tr f1)
  have bv1 := bv.keep' f1
  have ok1 := ok.keep' f1
  have hkl := ok1.lt
  have hvl := t1.vl
  have base : ∀ {w2 : World}, Fr [] w1 w2 → Fr [] w w2 := fun f2 => (f.tr f1).tr f2
  have e2 : 0 + at_ ilt l k + 1 + (l.length - at_ ilt l k) = l.length + 1 := by omega
  have hct := cells_cut (i := at_ ilt l k) t1.vs.cells hfl hal hvl.1 hvl.2
  have fin : ∀ {vp : Option Addr} {vc : Nat} {w2 : World}, Own 52 6 w2 vp (l.length + 1) vc ([] ++ (l.flatMap vc_SC).take (at_ ilt l k * 6) ++ v.cells ++ (l.flatMap vc_SC).drop (at_ ilt l k * 6)) → Fr [] w1 w2 → (∀ x ∈ fbl vp, w1.heap.size ≤ x) →
      stK w2 ((at0 g 23).add 1) (.slice kp (l.length + 1) kc) fun w27 => stK w27 ((at0 g 23).add 2) (.slice vp (l.length + 1) vc) fun w29 => Q (.bool true) w29 := by
    intro vp vc w2 ov f2 nv
    refine rput_end_SC t hh hm (ok1.keep' f2) (by rw [vals_put_SC hh]; simpa using ov) (base f2) nk (fun x hx => by have := nv x hx; omega) (fun x hx hm => by have := hkl x hx; have := nv x hm; omega) (fun foot' w' => hK foot' _ _ _ _ w')
  constructor
  · refine ld_sl t1.v2 ⟨⟨by omega, by omega, by omega⟩, app_step rowT47 (W := w1) Own.nil (cells_take t1.vs.cells (at_ ilt l k * 6)) (by rw [List.length_take]; omega) hvl.2 (one_take (fm_one_SC l) _) (by omega) (by omega) (by simp [fbl]) (Fr.refl _) ?_⟩
    intro p5 c5 w5 o5 n5 f5 _
    refine ld_Scn (bv1.keep' f5).cat ⟨⟨bv1.cat, (bv1.keep' f5).cat⟩, newB fun g6 w6 b6 f6 _ => ⟨⟨(t1.keep' f5).v2, (t1.keep' (f5.tr f6)).v2⟩, ?_⟩⟩
    refine app_step rowT47 (W := w1) (o5.keep' f6) (cells_one b6) v.len some_ne v.one (by omega) (by omega) n5 (f5.tr f6) ?_
    intro p7 c7 w7 o7 n7 f7 _
    refine ld_sl (t1.keep' f7).v2 ⟨⟨(t1.keep' (f5.tr f6)).v2, (t1.keep' f7).v2⟩, ⟨(t1.keep' f5).v2, (t1.keep' (f5.tr f6)).v2⟩, ⟨t1.v2, (t1.keep' f5).v2⟩, ⟨by omega, by omega, by omega⟩, ?_⟩
    refine app_step rowT47 (W := w1) o7 (hct.1.keep' f7) (by rw [List.length_drop, hfl]; omega) hct.2 (one_drop (fm_one_SC l) _) (by omega) (by omega) n7 f7 ?_
    intro p8 c8 w8 o8 n8 f8 _
    rw [e2] at o8 ⊢
    exact fin o8 f8 n8
  · refine ld_sl t1.v2 ⟨⟨by omega, by omega, by omega⟩, ld_Scn bv1.cat (newB fun g6 w6 b6 f6 _ => ⟨⟨t1.v2, (t1.keep' f6).v2⟩, ?_⟩)⟩
    have hb6 := b6.lt
    have h6 := f6.size
    have hg6 := bv1.lt
    refine app_step rowT47 (W := w1) Own.nil (cells_take (t1.keep' f6).vs.cells (at_ ilt l k * 6)) (by rw [List.length_take]; omega) hvl.2 (one_take (fm_one_SC l) _) (by omega) (by omega) (by simp [fbl]) f6 ?_
    intro p5 c5 w5 o5 n5 f5 g5
    have b65 := b6.keep g5 (by simp [fbl])
    refine ⟨⟨(bv1.keep' f6).cat, (bv1.keep' f5).cat⟩, app_step rowT47 (W := w1) o5 (cells_one b65) v.len some_ne v.one (by omega) (by omega) n5 f5 ?_⟩
    intro p7 c7 w7 o7 n7 f7 _
    refine ld_sl (t1.keep' f7).v2 ⟨⟨(t1.keep' f5).v2, (t1.keep' f7).v2⟩, ⟨(t1.keep' f6).v2, (t1.keep' f5).v2⟩, ⟨t1.v2, (t1.keep' f6).v2⟩, ⟨by omega, by omega, by omega⟩, ?_⟩
    refine app_step rowT47 (W := w1) o7 (hct.1.keep' f7) (by rw [List.length_drop, hfl]; omega) hct.2 (one_drop (fm_one_SC l) _) (by omega) (by omega) n7 f7 ?_
    intro p8 c8 w8 o8 n8 f8 _
    rw [e2] at o8 ⊢
    exact fin o8 f8 n8
theorem rput_SC {v : Scn} (t : RT_SC w g cs foot most l pk pv ck cv) (hmost : (l.length : Int) < most → l.length < 100000) (hno : has ilt l k = false → most ≤ l.length → ∀ w', Fr [] w w' → Q (.bool false) w')
    (hK : (has ilt l k = true ∨ (l.length : Int) < most) → ∀ foot' pk' pv' ck' cv' w', RT_SC w' g ((cs.set (23 + 1) (.slice pk' (put ilt l k v).length ck')).set (23 + 2) (.slice pv' (put ilt l k v).length cv')) foot' most (put ilt l k v) pk' pv' ck' cv' → Fr foot w w' → (∀ x ∈ foot', x ∈ foot ∨ w.heap.size ≤ x) → Q (.bool true) w') :
    CallR Tryz.prog 67 #[.pointer (some (at0 g 23)), (Value.int .u64) k, v.val] w Q := by
  apply X67.sound
  unfold X67.f
  simp only [optP_some]
  have hal := at_le (lt := ilt) l k
  have htop := t.top
  refine newB fun gv w2 bv f2 hgv2 => ?_
  have hgl := t.lt
  refine place_SC (t.keep' f2) fun w4 f4 => ⟨_, _, rfl, ?_⟩
  have f24 := f2.tr f4
  have bv4 := bv.keep' f4
  refine bc_bool (fun hh => ?_) (fun hh => ?_)
  · have hlt := at_lt hh
    refine drawn fun w7 f7 _ => ?_
    have f27 := f24.tr f7
    have t7 := t.keep' f27
    refine ld_sl t7.v2 (ld_Scn (bv4.keep' f7).cat ⟨⟨by omega, by omega⟩, ?_⟩)
    rw [Int.toNat_natCast]
    refine own_put vc_len_SC t7.vs hlt rfl (k, v) fun w22 o22 f22 => ?_
    have hput : put ilt l k v = l.set (at_ ilt l k) (k, v) := by unfold put; rw [if_pos hh]
    have hkeys : keys (put ilt l k v) = keys l := by
      rw [hput, keys, List.map_set]
      have h2 := hh
      simp only [has, decide_eq_true_eq] at h2
      obtain ⟨h1, h2⟩ := List.getElem?_eq_some_iff.1 h2
      have : ((k, v).1 : Int) = (keys l)[at_ ilt l k] := h2.symm
      rw [this, List.set_getElem_self]
    have hln : (put ilt l k v).length = l.length := by rw [hput, List.length_set]
    have c1' : cs[23 + 1]? = some (.slice pk (put ilt l k v).length ck) := by rw [hln]; exact t.c1
    have c2' : cs[23 + 2]? = some (.slice pv (put ilt l k v).length cv) := by rw [hln]; exact t.c2
    refine hK (.inl hh) foot pk pv ck cv w22 ?_ (f27.any.sub f22 fun x hx => by rw [t.ft]; simp [hx]) (fun x hx => .inl hx)
    rw [set_same c1', set_same c2']
    refine ⟨t7.blk.keep f22 t.gv, t.c0, c1', c2', ?_, ?_, t.ft, t.gk, t.gv, t.kv, by rw [hkeys]; exact t.srt, by omega⟩
    · rw [hln, hkeys]; exact t7.ks.keep f22 t.kv
    · rw [hln, hput]; exact o22
  · refine drawn fun w21 f21 _ => ?_
    have f221 := f24.tr f21
    have t21 := t.keep' f221
    refine ld_sl t21.k1 (ld_int t21.m0 (bc_dec (fun hge => hno hh (by omega) _ f221) (fun hlt => ?_)))
    simp only [toNat0, cutAt_zero', Nat.sub_zero, Int.toNat_natCast]
    refine drawn fun w1 f1 e1 => ?_
    have fb := f221.tr f1
    have t1 := t.keep' fb
    have bv1 := bv4.keep' (f21.tr f1)
    have hkl := t1.kl
    have hfl : ((keys l).map (Value.int .u64)).length = l.length * 1 := by simp
    have e2 : 0 + at_ ilt l k + 1 + (l.length - at_ ilt l k) = l.length + 1 := by omega
    have hct := cells_cut (i := at_ ilt l k) t1.ks.cells hfl hal hkl.1 hkl.2
    have hs := fb.size
    have fin : ∀ {kp : Option Addr} {kc : Nat} {w2 : World}, Own 22 1 w2 kp (l.length + 1) kc ([] ++ ((keys l).map (Value.int .u64)).take (at_ ilt l k * 1) ++ [(Value.int .u64) k] ++ ((keys l).map (Value.int .u64)).drop (at_ ilt l k * 1)) → Fr [] w1 w2 → (∀ x ∈ fbl kp, w1.heap.size ≤ x) →
        X67.j0 Q (some (at0 g 23)) (at0 gv 0) (at_ ilt l k : Int) kp (l.length + 1) kc none 0 0 w2 := by
      intro kp kc w2 ok f2 nk
      exact rput_j0_SC t hh (by omega) (fb.tr f2) (bv1.keep' f2) (by rw [keys_put_SC hh]; simpa using ok) (fun x hx => by have := nk x hx; omega) (hK (.inr (by omega)))
    constructor
    · refine ld_sl t1.k1 ⟨⟨by omega, by omega, by omega⟩, app_step rowT39 (W := w1) Own.nil (cells_take t1.ks.cells (at_ ilt l k * 1)) (by rw [List.length_take]; omega) hkl.2 (one_take (km_one_SC _) _) (by omega) (by omega) (by simp [fbl]) (Fr.refl _) ?_⟩
      intro p5 c5 w5 o5 n5 f5 _
      refine newB fun g6 w6 b6 f6 _ => ⟨⟨(t1.keep' f5).k1, (t1.keep' (f5.tr f6)).k1⟩, ?_⟩
      refine app_step rowT39 (W := w1) (o5.keep' f6) (cells_one b6) rfl some_ne (fun u hu => by simp at hu; subst hu; rfl) (by omega) (by omega) n5 (f5.tr f6) ?_
      intro p7 c7 w7 o7 n7 f7 _
      refine ld_sl (t1.keep' f7).k1 ⟨⟨(t1.keep' (f5.tr f6)).k1, (t1.keep' f7).k1⟩, ⟨(t1.keep' f5).k1, (t1.keep' (f5.tr f6)).k1⟩, ⟨t1.k1, (t1.keep' f5).k1⟩, ⟨by omega, by omega, by omega⟩, ?_⟩
      refine app_step rowT39 (W := w1) o7 (hct.1.keep' f7) (by rw [List.length_drop, hfl]; omega) hct.2 (one_drop (km_one_SC _) _) (by omega) (by omega) n7 f7 ?_
      intro p8 c8 w8 o8 n8 f8 _
      rw [e2] at o8 ⊢
      exact fin o8 f8 n8
    · refine ld_sl t1.k1 ⟨⟨by omega, by omega, by omega⟩, newB fun g6 w6 b6 f6 _ => ⟨⟨t1.k1, (t1.keep' f6).k1⟩, ?_⟩⟩
      refine app_step rowT39 (W := w1) Own.nil (cells_take (t1.keep' f6).ks.cells (at_ ilt l k * 1)) (by rw [List.length_take]; omega) hkl.2 (one_take (km_one_SC _) _) (by omega) (by omega) (by simp [fbl]) f6 ?_
      intro p5 c5 w5 o5 n5 f5 g5
      have b65 := b6.keep g5 (by simp [fbl])
      refine app_step rowT39 (W := w1) o5 (cells_one b65) rfl some_ne (fun u hu => by simp at hu; subst hu; rfl) (by omega) (by omega) n5 f5 ?_
      intro p7 c7 w7 o7 n7 f7 _
      refine ld_sl (t1.keep' f7).k1 ⟨⟨(t1.keep' f5).k1, (t1.keep' f7).k1⟩, ⟨(t1.keep' f6).k1, (t1.keep' f5).k1⟩, ⟨t1.k1, (t1.keep' f6).k1⟩, ⟨by omega, by omega, by omega⟩, ?_⟩
      refine app_step rowT39 (W := w1) o7 (hct.1.keep' f7) (by rw [List.length_drop, hfl]; omega) hct.2 (one_drop (km_one_SC _) _) (by omega) (by omega) n7 f7 ?_
      intro p8 c8 w8 o8 n8 f8 _
      rw [e2] at o8 ⊢
      exact fin o8 f8 n8
end
end Go.Proofs.YtnjmkhhaodgpbaaGreatX
namespace Go.Proofs.YtnjmkhhaodgpbaaGreatX
open Go.RowKit
section
variable {w w' : World} {g : Nat} {cs : List Value} {foot S : List Nat} {most : Int} {l : List (Int × Scn)} {pk pv : Option Addr} {ck cv : Nat} {Q : QT} {k : Int}
theorem rdrop_SC (t : RT_SC w g cs foot most l pk pv ck cv)
    (hK : ∀ foot' pk' pv' ck' cv' w', RT_SC w' g ((cs.set (23 + 1) (.slice pk' (drp ilt l k).length ck')).set (23 + 2) (.slice pv' (drp ilt l k).length cv')) foot' most (drp ilt l k) pk' pv' ck' cv' → Fr foot w w' → (∀ x ∈ foot', x ∈ foot ∨ w.heap.size ≤ x) → Q (.bool (has ilt l k)) w') :
    CallR Tryz.prog 76 #[.pointer (some (at0 g 23)), (Value.int .u64) k] w Q := by
  apply X76.sound
  unfold X76.f
  simp only [optP_some]
  have hal := at_le (lt := ilt) l k
  have htop := t.top
  refine place_SC t fun w2 f2 => ⟨_, _, rfl, ?_⟩
  refine bc_bool (fun hh => ?_) (fun hh => ?_)
  · have hlt := at_lt hh
    rw [hh] at hK ⊢
    rw [i64w ((at_ ilt l k : Int) + 1) (by omega) (by omega), show (at_ ilt l k : Int) + 1 = ((at_ ilt l k + 1 : Nat) : Int) by omega]
    simp only [toNat0, cutAt_zero', Nat.sub_zero, Int.toNat_natCast]
    have hd : drp ilt l k = l.take (at_ ilt l k) ++ l.drop (at_ ilt l k + 1) := by unfold drp; rw [if_pos hh]
    have hln : (drp ilt l k).length = l.length - 1 := by rw [drp_length, if_pos hh]
    have hkd : (keys (drp ilt l k)).map (Value.int .u64) = ((keys l).map (Value.int .u64)).take (at_ ilt l k * 1) ++ ((keys l).map (Value.int .u64)).drop ((at_ ilt l k + 1) * 1) := by
      rw [hd]; simp [keys, List.map_take, List.map_drop]
    have hvd : (drp ilt l k).flatMap vc_SC = (l.flatMap vc_SC).take (at_ ilt l k * 6) ++ (l.flatMap vc_SC).drop ((at_ ilt l k + 1) * 6) := by rw [hd, flat_del vc_len_SC]
    have hkl := t.kl
    have hvl := t.vl
    have hfl : ((keys l).map (Value.int .u64)).length = l.length * 1 := by simp
    have hfv : (l.flatMap vc_SC).length = l.length * 6 := flat_length vc_len_SC l
    have hgl := t.lt
    have e2 : 0 + at_ ilt l k + (l.length - (at_ ilt l k + 1)) = l.length - 1 := by omega
    have hlen1 := (List.getElem?_eq_some_iff.1 t.c1).1
    have hlen2 := (List.getElem?_eq_some_iff.1 t.c2).1
    refine drawn fun w5 f5 e5 => newB fun g6 w7 b7 f7 h7 => ?_
    have f05 := f2.tr f5
    have f07 := f05.tr f7
    have s05 := f05.size
    have t5 := t.keep' f05
    have t7 := t.keep' f07
    have hct := cells_cut (i := at_ ilt l k + 1) t7.ks.cells hfl hlt hkl.1 hkl.2
    have o7 : Own 22 1 w7 (some (at0 g6 0)) 0 0 [] := own_blk b7 rfl (Nat.le_refl _) (by simp only [maxLen]; omega) rfl
    refine ld_sl t7.k1 ⟨⟨t5.k1, t7.k1⟩, ⟨by omega, by omega, by omega⟩, app_step rowT39 (W := w5) o7 (cells_take t7.ks.cells (at_ ilt l k * 1)) (by rw [List.length_take]; omega) hkl.2 (one_take (km_one_SC _) _) (by omega) (by omega) (by simp [fbl, at0]; omega) f7 ?_⟩
    intro p11 c11 w11 o11 n11 f11 g11
    have h6 : ∀ x ∈ fbl (some (at0 g6 0)), w.heap.size ≤ x := by simp [fbl, at0]; omega
    have k711 : ∀ {v : Value} {i : Nat}, w7.cell? ((at0 g 23).add i) = some v → w11.cell? ((at0 g 23).add i) = some v := fun hc => g11.cell hc (by rw [add_block]; simp [fbl, at0]; have := hgl g (by rw [t.ft]; simp); omega)
    refine ld_sl (k711 t7.k1) ⟨⟨t7.k1, k711 t7.k1⟩, ⟨t5.k1, t7.k1⟩, ⟨by omega, by omega, by omega⟩, ?_⟩
    have t11 := t.keep' (f05.tr f11)
    have hct := cells_cut (i := at_ ilt l k + 1) t11.ks.cells hfl hlt hkl.1 hkl.2
    refine app_step rowT39 (W := w5) o11 hct.1 (by rw [List.length_drop, hfl]; omega) hct.2 (one_drop (km_one_SC _) _) (by omega) (by omega) n11 f11 ?_
    intro kp kc w16 o16 n16 f16 _
    rw [e2] at o16 ⊢
    have t16 := t.keep' (f05.tr f16)
    have nk : ∀ x ∈ fbl kp, w.heap.size ≤ x := fun x hx => by have := n16 x hx; omega
    have gk : g ∉ fbl kp := fun hm => by have := nk g hm; have := hgl g (by rw [t.ft]; simp); omega
    refine stO t16.blk (by omega) fun w19 b19 f19 => ?_
    have o19 := o16.keep f19 (fun x hx hm => gk (by simp at hm; rwa [← hm]))
    have v19 := t16.vs.keep f19 (fun x hx hm => t.gv (by simp at hm; rwa [← hm]))
    have s19 := ((f05.tr f16).any.tr f19 : Fr [g] w w19)
    have z19 := s19.size
    have hkl19 := o19.lt
    have c2' : (cs.set (23 + 1) (.slice kp (l.length - 1) kc))[23 + 2]? = some (.slice pv l.length cv) := by rw [List.getElem?_set_ne (by omega)]; exact t.c2
    have m2 : ∀ {w2 : World}, Blk w2 g (cs.set (23 + 1) (.slice kp (l.length - 1) kc)) 82 → w2.cell? ((at0 g 23).add 2) = some (.slice pv l.length cv) := fun hb => by rw [add_at]; exact hb.cell c2'
    refine drawn fun w20 f20 e20 => newB fun g21 w22 b22 f22 h22 => ?_
    have b20 := b19.keep' f20
    have b22' := b20.keep' f22
    have v22 := v19.keep' (f20.tr f22)
    have o22 : Own 52 6 w22 (some (at0 g21 0)) 0 0 [] := own_blk b22 rfl (Nat.le_refl _) (by simp only [maxLen]; omega) rfl
    refine ld_sl (m2 b22') ⟨⟨m2 b20, m2 b22'⟩, ⟨by omega, by omega, by omega⟩, app_step rowT47 (W := w20) o22 (cells_take v22.cells (at_ ilt l k * 6)) (by rw [List.length_take]; omega) hvl.2 (one_take (fm_one_SC _) _) (by omega) (by omega) (by simp [fbl, at0]; omega) f22 ?_⟩
    intro p26 c26 w26 o26 n26 f26 _
    have b26 := b20.keep' f26
    have v26 := v19.keep' (f20.tr f26)
    have hcv := cells_cut (i := at_ ilt l k + 1) v26.cells hfv hlt hvl.1 hvl.2
    refine ld_sl (m2 b26) ⟨⟨m2 b22', m2 b26⟩, ⟨m2 b20, m2 b22'⟩, ⟨by omega, by omega, by omega⟩, ?_⟩
    refine app_step rowT47 (W := w20) o26 hcv.1 (by rw [List.length_drop, hfv]; omega) hcv.2 (one_drop (fm_one_SC _) _) (by omega) (by omega) n26 f26 ?_
    intro vp vc w31 o31 n31 f31 _
    rw [e2] at o31 ⊢
    have nv : ∀ x ∈ fbl vp, w.heap.size ≤ x := fun x hx => by have := n31 x hx; omega
    have gv : g ∉ fbl vp := fun hm => by have := nv g hm; have := hgl g (by rw [t.ft]; simp); omega
    have b31 := b20.keep' f31
    have o31' := o19.keep' (f20.tr f31)
    refine stO b31 (by rw [List.length_set]; omega) fun w34 b34 f34 => ?_
    have ff : Fr foot w w34 := ((s19.mono (fun x hx => by rw [t.ft]; simp at hx; simp [hx])).tr (f20.tr f31).any).inl f34 (by rw [t.ft]; simp)
    refine hK (g :: (fbl kp ++ fbl vp)) kp vp kc vc w34 ⟨by rw [hln]; exact b34, ?_, ?_, ?_, ?_, ?_, rfl, gk, gv, fun x hx hm => ?_, drp_srt ilt_lin t.srt, by omega⟩ ff ?_
    · rw [List.getElem?_set_ne (by omega), List.getElem?_set_ne (by omega)]; exact t.c0
    · rw [List.getElem?_set_ne (by omega), List.getElem?_set_self (by omega)]
    · rw [List.getElem?_set_self (by rw [List.length_set]; omega)]
    · rw [hln, hkd]
      exact (by simpa using o31' : Own 22 1 w31 kp (l.length - 1) kc (((keys l).map (Value.int .u64)).take (at_ ilt l k * 1) ++ ((keys l).map (Value.int .u64)).drop ((at_ ilt l k + 1) * 1))).keep f34 (fun x hx hm => gk (by simp at hm; rwa [← hm]))
    · rw [hln, hvd]
      exact (by simpa using o31 : Own 52 6 w31 vp (l.length - 1) vc ((l.flatMap vc_SC).take (at_ ilt l k * 6) ++ (l.flatMap vc_SC).drop ((at_ ilt l k + 1) * 6))).keep f34 (fun x hx hm => gv (by simp at hm; rwa [← hm]))
    · have := hkl19 x hx; have := n31 x hm; omega
    · intro x hx
      rcases List.mem_cons.1 hx with rfl | hx
      · exact .inl (by rw [t.ft]; simp)
      · rcases List.mem_append.1 hx with hx | hx
        · exact .inr (nk x hx)
        · exact .inr (nv x hx)
  · have hd : drp ilt l k = l := by unfold drp; rw [if_neg (by simp [hh])]
    rw [hd] at hK
    rw [hh] at hK ⊢
    have t2 := t.keep' f2
    refine hK foot pk pv ck cv w2 ?_ f2.any (fun x hx => .inl hx)
    rw [set_same t.c1, set_same t.c2]
    exact t2
end
end Go.Proofs.YtnjmkhhaodgpbaaGreatX
namespace Go.Proofs.YtnjmkhhaodgpbaaGreatX
open Go.RowKit
set_option maxRecDepth 100000
abbrev rsc (S : Sc) (h : Nat) (pk pv : Option Addr) (ck cv : Nat) (bp : Option Addr) (bc : Nat) : List Value := rscells S.c h 1048576 pk S.rows.length ck pv S.rows.length cv bp S.bur.length bc S.cur
structure RSa (w : World) (gr : Nat) (xr : RHB) (ft fh rt : List Nat) (S : Sc) (pk pv : Option Addr) (ck cv : Nat) (bp : Option Addr) (bc : Nat) : Prop where
  tab : RT_SC w gr (rsc S xr.h pk pv ck cv bp bc) rt 1048576 S.rows pk pv ck cv
  bur : Own 22 1 w bp S.bur.length bc (S.bur.map (Value.int .u64))
  heap : PR w xr fh S.node S.last S.os
  ri : RI S.rows
  bl : S.bur.length ≤ 4096
  rl : S.rows.length ≤ 4096
  foot : ft = rt ++ (fbl bp ++ fh)
  rb : ∀ y ∈ rt, y ∉ fbl bp
  rh : ∀ y ∈ rt, y ∉ fh
  bh : ∀ y ∈ fbl bp, y ∉ fh
def RS (w : World) (gr : Nat) (xr : RHB) (ft : List Nat) (S : Sc) : Prop := ∃ fh rt pk pv ck cv bp bc, RSa w gr xr ft fh rt S pk pv ck cv bp bc
section
variable {w w' W : World} {Q : QT} {gr : Nat} {xr : RHB} {ft fh rt F : List Nat} {S S' : Sc} {pk pv bp : Option Addr} {ck cv bc : Nat} {s : Int}
theorem RSa.mem (t : RSa w gr xr ft fh rt S pk pv ck cv bp bc) : (∀ y ∈ rt, y ∈ ft) ∧ (∀ y ∈ fbl bp, y ∈ ft) ∧ (∀ y ∈ fh, y ∈ ft) := by
  rw [t.foot]
  exact ⟨fun y hy => by simp [hy], fun y hy => by simp [hy], fun y hy => by simp [hy]⟩
theorem RSa.keep (t : RSa w gr xr ft fh rt S pk pv ck cv bp bc) (f : Fr F w w') (hd : ∀ y ∈ ft, y ∉ F) : RSa w' gr xr ft fh rt S pk pv ck cv bp bc := by
  obtain ⟨m1, m2, m3⟩ := t.mem
  exact ⟨t.tab.keep f (fun y hy => hd _ (m1 y hy)), t.bur.keep f (fun y hy => hd _ (m2 y hy)), t.heap.keep f (fun y hy => hd _ (m3 y hy)), t.ri, t.bl, t.rl, t.foot, t.rb, t.rh, t.bh⟩
theorem RSa.keep' (t : RSa w gr xr ft fh rt S pk pv ck cv bp bc) (f : Fr [] w w') : RSa w' gr xr ft fh rt S pk pv ck cv bp bc := t.keep f (by simp)
theorem RSa.lt (t : RSa w gr xr ft fh rt S pk pv ck cv bp bc) : ∀ y ∈ ft, y < w.heap.size := by
  intro y hy
  rw [t.foot] at hy
  rcases List.mem_append.1 hy with hy | hy
  · exact t.tab.lt y hy
  rcases List.mem_append.1 hy with hy | hy
  · exact t.bur.lt y hy
  · exact t.heap.lt y hy
theorem RSa.c22 (t : RSa w gr xr ft fh rt S pk pv ck cv bp bc) : w.cell? ((at0 gr 0).add 22) = some (.pointer (some (at0 xr.h 0))) := t.tab.blk.cat 22 _ rfl
theorem RSa.c26 (t : RSa w gr xr ft fh rt S pk pv ck cv bp bc) : w.cell? ((at0 gr 0).add 26) = some (.slice bp S.bur.length bc) := t.tab.blk.cat 26 _ rfl
theorem RSa.c27 (t : RSa w gr xr ft fh rt S pk pv ck cv bp bc) : w.cell? ((at0 gr 0).add 27) = some (.int .u64 S.cur) := t.tab.blk.cat 27 _ rfl
theorem rburied_l0 (t : RSa w gr xr ft fh rt S pk pv ck cv bp bc) (hQ : Q (.bool (decide (s ∈ S.bur))) w) : ∀ (f i : Nat), S.bur.length - i < f → i ≤ S.bur.length → s ∉ S.bur.take i → X44.l0 Q f (some (at0 gr 0)) s (i : Int) w
  | 0, i, hf, _, _ => absurd hf (Nat.not_lt_zero _)
  | f + 1, i, hf, hi, hn => by
    have hb := t.bl
    rw [X44.l0]
    have ei : IntKind.wrap .i64 ((i : Int) + 1) = ((i + 1 : Nat) : Int) := by rw [i64w ((i : Int) + 1) (by omega) (by omega)]; omega
    refine opt_some rfl (ld_sl t.c26 (bc_dec (fun hlt => ?_) (fun hge => ?_)))
    · have hl : i < S.bur.length := by omega
      have hg := List.getElem?_eq_getElem hl
      have hm := List.getElem_mem hl
      generalize S.bur[i] = y at *
      obtain ⟨p, hp, hc⟩ := t.bur.cells i (.int .u64 y) (by rw [List.getElem?_map, hg]; rfl)
      refine opt_some rfl (ld_sl t.c26 ⟨⟨by omega, by omega⟩, opt_some hp (ld_int (by rw [Int.toNat_natCast, Nat.mul_one]; exact hc) ?_)⟩)
      rw [ei]
      refine bc_eq (fun he => ?_) (fun he => ?_)
      · subst he
        rw [decide_eq_true hm] at hQ
        exact hQ
      · refine rburied_l0 t hQ f (i + 1) (by omega) (by omega) (fun h => ?_)
        rw [List.take_add_one, hg] at h
        rcases List.mem_append.1 h with h | h
        · exact hn h
        · have h : s = y := by simpa using h
          exact he h.symm
    · have : S.bur.take i = S.bur := List.take_of_length_le (by omega)
      rw [this] at hn
      rw [decide_eq_false hn] at hQ
      exact hQ
theorem rburied_spec (t : RSa w gr xr ft fh rt S pk pv ck cv bp bc) (hQ : Q (.bool (decide (s ∈ S.bur))) w) : CallR Tryz.prog 44 #[.pointer (some (at0 gr 0)), .int .u64 s] w Q := by
  apply X44.sound
  unfold X44.f
  exact ⟨S.bur.length + 1, rburied_l0 t hQ _ 0 (by omega) (by omega) (by simp)⟩
end
end Go.Proofs.YtnjmkhhaodgpbaaGreatX
namespace Go.Proofs.YtnjmkhhaodgpbaaGreatX
open Go.RowKit
set_option maxRecDepth 100000
section
variable {w w' W : World} {Q : QT} {gr : Nat} {xr : RHB} {ft fh rt F : List Nat} {S S' : Sc} {pk pv bp : Option Addr} {ck cv bc : Nat} {s : Int}
theorem RSa.vat (t : RSa w gr xr ft fh rt S pk pv ck cv bp bc) {i : Nat} {e : Int × Scn} (hi : S.rows[i]? = some e) : ∃ p, pv = some p ∧ At w (p.add (Int.toNat (i : Int) * 6)) e.2.cells := by
  have hc := t.tab.vs.cells
  have h0 := hc (i * 6 + 0) _ (flat_get vc_len_SC S.rows hi (j := 0) (u := .int .u64 e.2.serial) rfl)
  obtain ⟨a, ha, _⟩ := h0
  refine ⟨a, ha, fun j u hj => ?_⟩
  obtain ⟨b, hb, hv⟩ := hc (i * 6 + j) _ (flat_get vc_len_SC S.rows hi hj)
  rw [ha] at hb
  injection hb with hb
  subst hb
  rw [Int.toNat_natCast, add_add]
  exact hv
theorem holdS_take {rows : List (Int × Scn)} {i : Nat} {e : Int × Scn} (hi : rows[i]? = some e) : ((ofR (rows.take (i + 1)) s).filter (·.present)).map (·.holder) = ((ofR (rows.take i) s).filter (·.present)).map (·.holder) ++ if e.2.serial = s ∧ e.2.present = true then [e.2.holder] else [] := by
  rw [List.take_add_one, hi]
  unfold ofR
  rw [List.filter_append, List.map_append, List.filter_append, List.map_append]
  congr 1
  by_cases h1 : e.2.serial = s
  · by_cases h2 : e.2.present = true
    · simp [h1, h2]
    · simp [h1, h2]
  · simp [h1]
theorem rholders_l0 (t : RSa W gr xr ft fh rt S pk pv ck cv bp bc) (hQ : ∀ p c w', Own 22 1 w' p (holdS S s).length c ((holdS S s).map (Value.int .u64)) → Fr [] W w' → (∀ k ∈ fbl p, W.heap.size ≤ k) → Q (.slice p (holdS S s).length c) w') :
    ∀ (f i : Nat) (acc : List Int) (ap : Option Addr) (ac : Nat) (w1 : World), S.rows.length - i < f → i ≤ S.rows.length → acc.length ≤ i → acc = ((ofR (S.rows.take i) s).filter (·.present)).map (·.holder) → Own 22 1 w1 ap acc.length ac (acc.map (Value.int .u64)) → (∀ k ∈ fbl ap, W.heap.size ≤ k) → Fr [] W w1 →
      X46.l0 Q f (some (at0 gr 0)) s ap acc.length ac (i : Int) w1
  | 0, i, acc, ap, ac, w1, hf, _, _, _, _, _, _ => absurd hf (Nat.not_lt_zero _)
  | f + 1, i, acc, ap, ac, w1, hf, hi, hal, he, oa, ha, F => by
    have hsz := t.rl
    have t1 := t.keep' F
    rw [X46.l0]
    have ei : IntKind.wrap .i64 ((i : Int) + 1) = ((i + 1 : Nat) : Int) := by rw [i64w ((i : Int) + 1) (by omega) (by omega)]; omega
    refine opt_some rfl (ld_sl t1.tab.v2 (bc_dec (fun hlt => ?_) (fun hge => ?_)))
    · have hl : i < S.rows.length := by omega
      have hg := List.getElem?_eq_getElem hl
      have hm := List.getElem_mem hl
      generalize S.rows[i] = e at *
      have hh := t.ri.hol e hm
      obtain ⟨p, hp, hat⟩ := t1.vat hg
      have ht := holdS_take (s := s) hg
      refine opt_some rfl (ld_sl t1.tab.v2 ⟨⟨by omega, by omega⟩, opt_some hp (ld_int (hat 0 _ rfl) ?_)⟩)
      rw [ei]
      refine bc_eq (fun h1 => ?_) (fun h1 => ?_)
      · refine opt_some rfl (ld_sl t1.tab.v2 ⟨⟨by omega, by omega⟩, opt_some hp (ld_bool (hat 2 _ rfl) (bc_bool (fun h2 => ?_) (fun h2 => ?_)))⟩)
        · rw [if_pos ⟨h1, h2⟩, ← he] at ht
          refine opt_some rfl (ld_sl t1.tab.v2 ⟨⟨by omega, by omega⟩, opt_some hp (ld_int (hat 1 _ rfl) (newB fun g13 w14 b14 f14 h14 => ?_))⟩)
          rw [u64w e.2.holder (by omega) (by omega)] at b14
          refine app_step rowT39 (oa.keep' f14) (x := some (at0 g13 0)) (ys := [Value.int .u64 e.2.holder]) (k := 1) (cells_one b14) rfl some_ne (by simp [Value.oneCell']) (by omega) (by omega) (W := W) ha (F.tr f14) fun p2 c2 w16 o16 hp2 F16 f16 => ?_
          have e3 : acc.length + 1 = (acc ++ [e.2.holder]).length := by simp
          rw [e3]
          refine rholders_l0 t hQ f (i + 1) (acc ++ [e.2.holder]) p2 c2 w16 (by omega) (by omega) (by simp; omega) ht.symm ?_ hp2 F16
          rw [← e3, List.map_append]
          exact o16
        · rw [if_neg (fun h => by rw [h2] at h; cases h.2), List.append_nil, ← he] at ht
          exact rholders_l0 t hQ f (i + 1) acc ap ac w1 (by omega) (by omega) (by omega) ht.symm oa ha F
      · rw [if_neg (fun h => h1 h.1), List.append_nil, ← he] at ht
        exact rholders_l0 t hQ f (i + 1) acc ap ac w1 (by omega) (by omega) (by omega) ht.symm oa ha F
    · have : S.rows.take i = S.rows := List.take_of_length_le (by omega)
      rw [this] at he
      have he : acc = holdS S s := he
      subst he
      exact hQ ap ac w1 oa F ha
theorem rholders_spec (t : RSa w gr xr ft fh rt S pk pv ck cv bp bc) (hQ : ∀ p c w', Own 22 1 w' p (holdS S s).length c ((holdS S s).map (Value.int .u64)) → Fr [] w w' → (∀ k ∈ fbl p, w.heap.size ≤ k) → Q (.slice p (holdS S s).length c) w') :
    CallR Tryz.prog 46 #[.pointer (some (at0 gr 0)), .int .u64 s] w Q := by
  apply X46.sound
  unfold X46.f
  exact ⟨S.rows.length + 1, rholders_l0 t hQ _ 0 [] none 0 w (by omega) (by omega) (by simp) (by simp [ofR]) Own.nil (by simp [fbl]) (Fr.refl _)⟩
end
end Go.Proofs.YtnjmkhhaodgpbaaGreatX
namespace Go.Proofs.YtnjmkhhaodgpbaaGreatX
open Go.RowKit
set_option maxRecDepth 100000
theorem fold_bur {bur : List Int} {s : Int} (h : s ∈ bur) : ∀ (l : List Scn) (i : Int), l.foldl (stepIn bur s) i = i
  | [], i => rfl
  | r :: l, i => by
    rw [List.foldl_cons, show stepIn bur s i r = i by unfold stepIn; rw [if_neg (fun hh => hh.2.1 h)]]
    exact fold_bur h l i
theorem fold_nob {bur : List Int} {s : Int} (h : s ∉ bur) : ∀ (l : List Scn) (i : Int), l.foldl (stepIn bur s) i = l.foldl (stepIn [] s) i
  | [], i => rfl
  | r :: l, i => by
    rw [List.foldl_cons, List.foldl_cons, show stepIn bur s i r = stepIn [] s i r by unfold stepIn; simp [h]]
    exact fold_nob h l _
theorem inOf_split {rows : List (Int × Scn)} {bur : List Int} {s : Int} : inOf rows bur s = if s ∈ bur then 0 else inOf rows [] s := by
  unfold inOf
  split
  · exact fold_bur (by assumption) _ _
  · exact fold_nob (by assumption) _ _
section
variable {w w' W : World} {Q : QT} {gr : Nat} {xr : RHB} {ft fh fh' rt F : List Nat} {S S' : Sc} {pk pv bp : Option Addr} {ck cv bc : Nat} {s : Int}
def AftD (w : World) (gr : Nat) (xr : RHB) (ft : List Nat) (S' : Sc) (v : Value) (Q : QT) : Prop := ∀ ft' w', RS w' gr xr ft' S' → Fr ft w w' → (∀ y ∈ ft', y ∈ ft ∨ w.heap.size ≤ y) → Q v w'
theorem RSa.heap' {last' : Int} {os' : List (Int × Int)} (t : RSa w gr xr ft fh rt S pk pv ck cv bp bc) (h : PR w' xr fh' S.node last' os') (f : Fr fh w w') (e : ∀ y ∈ fh', y ∈ fh ∨ w.heap.size ≤ y) :
    RS w' gr xr (rt ++ (fbl bp ++ fh')) { S with last := last', os := os' } ∧ Fr ft w w' ∧ ∀ y ∈ rt ++ (fbl bp ++ fh'), y ∈ ft ∨ w.heap.size ≤ y := by
  obtain ⟨m1, m2, m3⟩ := t.mem
  have l1 := t.tab.lt
  have l2 := t.bur.lt
  refine ⟨⟨fh', rt, pk, pv, ck, cv, bp, bc, t.tab.keep f t.rh, t.bur.keep f t.bh, h, t.ri, t.bl, t.rl, rfl, t.rb, fun y hy hm => ?_, fun y hy hm => ?_⟩, f.mono m3, fun y hy => ?_⟩
  · rcases e y hm with h' | h'
    · exact t.rh y hy h'
    · have := l1 y hy; omega
  · rcases e y hm with h' | h'
    · exact t.bh y hy h'
    · have := l2 y hy; omega
  · rcases List.mem_append.1 hy with hy | hy
    · exact .inl (m1 y hy)
    rcases List.mem_append.1 hy with hy | hy
    · exact .inl (m2 y hy)
    · rcases e y hy with h' | h'
      · exact .inl (m3 y h')
      · exact .inr h'
theorem fold_take {rows : List (Int × Scn)} {i : Nat} {e : Int × Scn} (hi : rows[i]? = some e) : (ofR (rows.take (i + 1)) s).foldl (stepIn [] s) 0 = if e.2.serial = s then stepIn [] s ((ofR (rows.take i) s).foldl (stepIn [] s) 0) e.2 else (ofR (rows.take i) s).foldl (stepIn [] s) 0 := by
  rw [List.take_add_one, hi]
  unfold ofR
  rw [List.filter_append, List.map_append, List.foldl_append]
  by_cases h1 : e.2.serial = s
  · simp [h1]
  · simp [h1]
theorem rkeep_l0 (t : RSa W gr xr ft fh rt S pk pv ck cv bp bc) (hQ : AftD W gr xr ft (keepS S s) (.tuple #[]) Q) :
    ∀ (f i : Nat) (w1 : World), S.rows.length - i < f → i ≤ S.rows.length → Fr [] W w1 → X68.l0 Q f (some (at0 gr 0)) s ((ofR (S.rows.take i) s).foldl (stepIn [] s) 0) (i : Int) w1
  | 0, i, w1, hf, _, _ => absurd hf (Nat.not_lt_zero _)
  | f + 1, i, w1, hf, hi, F => by
    have hsz := t.rl
    have t1 := t.keep' F
    rw [X68.l0]
    have ei : IntKind.wrap .i64 ((i : Int) + 1) = ((i + 1 : Nat) : Int) := by rw [i64w ((i : Int) + 1) (by omega) (by omega)]; omega
    refine opt_some rfl (ld_sl t1.tab.v2 (bc_dec (fun hlt => ?_) (fun hge => ?_)))
    · have hl : i < S.rows.length := by omega
      have hg := List.getElem?_eq_getElem hl
      generalize S.rows[i] = e at *
      obtain ⟨p, hp, hat⟩ := t1.vat hg
      have ht := fold_take (s := s) hg
      refine opt_some rfl (ld_sl t1.tab.v2 ⟨⟨by omega, by omega⟩, opt_some hp (ld_Scn (s := e.2) hat (newB fun g12 w13 b13 f13 h13 => stAllB (vs := e.2.cells) b13 rfl fun w14 b14 f14 => ld_int (b14.cat 0 _ rfl) ?_))⟩)
      have F14 : Fr [] W w14 := F.tr (f13.trans f14 (fun y hy => .inr (by simp at hy; omega)))
      have ih := rkeep_l0 t hQ f (i + 1) w14 (by omega) (by omega) F14
      rw [ht] at ih
      rw [ei]
      refine bc_eq (fun h1 => ?_) (fun h1 => ?_)
      · rw [if_pos h1] at ih
        unfold stepIn at ih
        refine ld_bool (b14.cat 2 _ rfl) (bc_bool (fun h2 => bc_eq (fun hz => ?_) (fun hz => ?_)) (fun h2 => ?_))
        · rw [if_pos ⟨h2, by simp, .inl hz⟩] at ih
          exact ld_int (b14.cat 5 _ rfl) ih
        · refine ld_int (b14.cat 5 _ rfl) (bc_dec (fun hd => ?_) (fun hd => ?_))
          · rw [if_pos ⟨h2, by simp, .inr hd⟩] at ih
            exact ld_int (b14.cat 5 _ rfl) ih
          · rw [if_neg (fun hh => hh.2.2.elim hz hd)] at ih
            exact ih
        · rw [if_neg (fun hh => by rw [h2] at hh; cases hh.1)] at ih
          exact ih
      · rw [if_neg h1] at ih
        exact ih
    · have : S.rows.take i = S.rows := List.take_of_length_le (by omega)
      rw [this]
      obtain ⟨r1, r2⟩ := inOf_rng (bur := []) (s := s) t.ri
      have hsp := inOf_split (rows := S.rows) (bur := S.bur) (s := s)
      unfold keepS at hQ
      refine rburied_spec t1 ⟨_, rfl, bc_dec (fun hb => ?_) (fun hb => ?_)⟩
      · rw [hsp, if_pos hb] at hQ
        refine opt_some rfl (ld_ptr t1.c22 (rsetIn_spec t1.heap (by omega) (by omega) fun c fh' w' P' f' e' => ⟨_, rfl, ?_⟩))
        obtain ⟨t2, f2, e2⟩ := t1.heap' P' f' e'
        exact hQ _ w' t2 (F.any.tr f2) (fun y hy => (e2 y hy).imp_right fun h => by have := F.size; omega)
      · rw [hsp, if_neg hb] at hQ
        refine opt_some rfl (ld_ptr t1.c22 (rsetIn_spec t1.heap r1 r2 fun c fh' w' P' f' e' => ⟨_, rfl, ?_⟩))
        obtain ⟨t2, f2, e2⟩ := t1.heap' P' f' e'
        exact hQ _ w' t2 (F.any.tr f2) (fun y hy => (e2 y hy).imp_right fun h => by have := F.size; omega)
theorem rkeep_spec (t : RS w gr xr ft S) (hQ : AftD w gr xr ft (keepS S s) (.tuple #[]) Q) : CallR Tryz.prog 68 #[.pointer (some (at0 gr 0)), .int .u64 s] w Q := by
  apply X68.sound
  unfold X68.f
  obtain ⟨fh, rt, pk, pv, ck, cv, bp, bc, t⟩ := t
  exact ⟨S.rows.length + 1, rkeep_l0 t hQ _ 0 w (by omega) (by omega) (Fr.refl _)⟩
end
end Go.Proofs.YtnjmkhhaodgpbaaGreatX
namespace Go.Proofs.YtnjmkhhaodgpbaaGreatX
open Go.RowKit
set_option maxRecDepth 100000
section
variable {w w' W : World} {Q : QT} {gr : Nat} {xr : RHB} {ft fh fh' rt F : List Nat} {S S' : Sc} {pk pv bp : Option Addr} {ck cv bc : Nat} {s : Int}
theorem runbury_l0 (t : RSa W gr xr ft fh rt S pk pv ck cv bp bc) (hQ : AftD W gr xr ft { S with bur := unbur S s } (.tuple #[]) Q) :
    ∀ (f i : Nat) (acc : List Int) (ap : Option Addr) (ac : Nat) (w1 : World), S.bur.length - i < f → i ≤ S.bur.length → acc.length ≤ i → acc = (S.bur.take i).filter (fun y => decide (y ≠ s)) → Own 22 1 w1 ap acc.length ac (acc.map (Value.int .u64)) → (∀ k ∈ fbl ap, W.heap.size ≤ k) → Fr [] W w1 →
      X74.l0 Q f (some (at0 gr 0)) s ap acc.length ac (i : Int) w1
  | 0, i, acc, ap, ac, w1, hf, _, _, _, _, _, _ => absurd hf (Nat.not_lt_zero _)
  | f + 1, i, acc, ap, ac, w1, hf, hi, hal, he, oa, ha, F => by
    have hbl := t.bl
    have t1 := t.keep' F
    rw [X74.l0]
    have ei : IntKind.wrap .i64 ((i : Int) + 1) = ((i + 1 : Nat) : Int) := by rw [i64w ((i : Int) + 1) (by omega) (by omega)]; omega
    refine opt_some rfl (ld_sl t1.c26 (bc_dec (fun hlt => ?_) (fun hge => ?_)))
    · have hl : i < S.bur.length := by omega
      have hg := List.getElem?_eq_getElem hl
      generalize S.bur[i] = y at *
      obtain ⟨p, hp, hc⟩ := t1.bur.cells i (.int .u64 y) (by rw [List.getElem?_map, hg]; rfl)
      have hc' : w1.cell? (p.add (Int.toNat (i : Int) * 1)) = some (.int .u64 y) := by rw [Int.toNat_natCast, Nat.mul_one]; exact hc
      have ht : (S.bur.take (i + 1)).filter (fun y => decide (y ≠ s)) = acc ++ if y ≠ s then [y] else [] := by
        rw [List.take_add_one, hg, List.filter_append, ← he]
        by_cases h : y = s <;> simp [h]
      refine opt_some rfl (ld_sl t1.c26 ⟨⟨by omega, by omega⟩, opt_some hp (ld_int hc' ?_)⟩)
      rw [ei]
      refine bc_ne (fun hne => ?_) (fun heq => ?_)
      · rw [if_pos hne] at ht
        refine opt_some rfl (ld_sl t1.c26 ⟨⟨by omega, by omega⟩, opt_some hp (ld_int hc' (newB fun g11 w12 b12 f12 h12 => ?_))⟩)
        refine app_step rowT39 (oa.keep' f12) (x := some (at0 g11 0)) (ys := [Value.int .u64 y]) (k := 1) (cells_one b12) rfl some_ne (by simp [Value.oneCell']) (by omega) (by omega) (W := W) ha (F.tr f12) fun p2 c2 w16 o16 hp2 F16 f16 => ?_
        have e3 : acc.length + 1 = (acc ++ [y]).length := by simp
        rw [e3]
        refine runbury_l0 t hQ f (i + 1) (acc ++ [y]) p2 c2 w16 (by omega) (by omega) (by simp; omega) ht.symm ?_ hp2 F16
        rw [← e3, List.map_append]
        exact o16
      · rw [if_neg (by simpa using heq), List.append_nil] at ht
        exact runbury_l0 t hQ f (i + 1) acc ap ac w1 (by omega) (by omega) (by omega) ht.symm oa ha F
    · have : S.bur.take i = S.bur := List.take_of_length_le (by omega)
      rw [this] at he
      have he : acc = unbur S s := he
      subst he
      obtain ⟨m1, m2, m3⟩ := t1.mem
      have hgr : gr ∈ rt := by rw [t1.tab.ft]; simp
      have lt := t.lt
      have nu : ∀ y ∈ fbl ap, y ∉ ft := fun y hy hm => by have := ha y hy; have := lt y hm; omega
      have nga : gr ∉ fbl ap := fun hm => nu _ hm (m1 _ hgr)
      refine opt_some rfl (t1.tab.st (i := 26) (show 26 < 28 by omega) (by omega) (by omega) (by omega) fun w17 t17 f17 => ?_)
      refine hQ (rt ++ (fbl ap ++ fh)) w17 ⟨fh, rt, pk, pv, ck, cv, ap, ac, t17, oa.keep f17 (fun y hy hm => nga (by simp at hm; rwa [← hm])), t1.heap.keep f17 (fun y hy hm => t.rh gr hgr (by simp at hm; rwa [← hm])), t.ri, ?_, t.rl, rfl, fun y hy hm => nu y hm (m1 y hy), t.rh, fun y hy hm => nu y hy (m3 y hm)⟩ (F.any.tr (f17.mono fun y hy => by simp at hy; rw [hy]; exact m1 _ hgr)) (fun y hy => ?_)
      · exact Nat.le_trans (List.length_filter_le _ _) hbl
      · rcases List.mem_append.1 hy with hy | hy
        · exact .inl (m1 y hy)
        rcases List.mem_append.1 hy with hy | hy
        · exact .inr (ha y hy)
        · exact .inl (m3 y hy)
theorem runbury_spec (t : RS w gr xr ft S) (hQ : AftD w gr xr ft { S with bur := unbur S s } (.tuple #[]) Q) : CallR Tryz.prog 74 #[.pointer (some (at0 gr 0)), .int .u64 s] w Q := by
  apply X74.sound
  unfold X74.f
  obtain ⟨fh, rt, pk, pv, ck, cv, bp, bc, t⟩ := t
  exact ⟨S.bur.length + 1, runbury_l0 t hQ _ 0 [] none 0 w (by omega) (by omega) (by simp) (by simp) Own.nil (by simp [fbl]) (Fr.refl _)⟩
end
end Go.Proofs.YtnjmkhhaodgpbaaGreatX
