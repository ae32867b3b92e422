/- Part 3. -/
import Derived.Test.YtnjmkhhaodgpbaaGreatC2
set_option linter.unusedVariables false
set_option linter.unusedSimpArgs false
namespace Go.Proofs.YtnjmkhhaodgpbaaGreatX
open Go.RowKit
set_option maxRecDepth 100000
def X7.j0 (Q : QT) (t1 t2 t3 : Addr) (w : World) : Prop := ldI .i64 w (t1.add 4) fun x1 => CallR Tryz.prog 9 #[.int .i64 x1, .int .i64 14] w fun v2 w3 => ∃ (y4 : Int), v2 = .int .i64 y4 ∧ stK w3 (t3.add 4) (.int .i64 (IntKind.wrap .i64 ((2 : Int) + y4))) fun w5 => ldI .i64 w5 (t1.add 5) fun x6 => CallR Tryz.prog 9 #[.int .i64 x6, .int .i64 10] w5 fun v7 w8 => ∃ (y9 : Int), v7 = .int .i64 y9 ∧ stK w8 (t3.add 5) (.int .i64 (IntKind.wrap .i64 ((2 : Int) + y9))) fun w10 => ldI .i64 w10 (t1.add 6) fun x11 => CallR Tryz.prog 9 #[.int .i64 x11, .int .i64 6] w10 fun v12 w13 => ∃ (y14 : Int), v12 = .int .i64 y14 ∧ stK w13 (t3.add 6) (.int .i64 (IntKind.wrap .i64 ((1 : Int) + y14))) fun w15 => ldI .i64 w15 (t1.add 7) fun x16 => CallR Tryz.prog 9 #[.int .i64 x16, .int .i64 4] w15 fun v17 w18 => ∃ (y19 : Int), v17 = .int .i64 y19 ∧ stK w18 (t3.add 7) (.int .i64 (IntKind.wrap .i64 ((1 : Int) + y19))) fun w20 => ldI .i64 w20 (t1.add 8) fun x21 => CallR Tryz.prog 9 #[.int .i64 x21, .int .i64 8] w20 fun v22 w23 => ∃ (y24 : Int), v22 = .int .i64 y24 ∧ stK w23 (t3.add 8) (.int .i64 (IntKind.wrap .i64 ((1 : Int) + y24))) fun w25 => ldI .i64 w25 (t1.add 9) fun x26 => CallR Tryz.prog 9 #[.int .i64 x26, .int .i64 60] w25 fun v27 w28 => ∃ (y29 : Int), v27 = .int .i64 y29 ∧ stK w28 (t3.add 9) (.int .i64 (IntKind.wrap .i64 ((4 : Int) + y29))) fun w30 => ldI .i64 w30 (t1.add 10) fun x31 => CallR Tryz.prog 9 #[.int .i64 x31, .int .i64 4] w30 fun v32 w33 => ∃ (y34 : Int), v32 = .int .i64 y34 ∧ stK w33 (t3.add 10) (.int .i64 (IntKind.wrap .i64 ((1 : Int) + y34))) fun w35 => ldI .i64 w35 (t1.add 11) fun x36 => CallR Tryz.prog 9 #[.int .i64 x36, .int .i64 20] w35 fun v37 w38 => ∃ (y39 : Int), v37 = .int .i64 y39 ∧ stK w38 (t3.add 11) (.int .u64 (IntKind.wrap .u64 (IntKind.wrap .i64 ((4 : Int) + y39)))) fun w40 => ldI .i64 w40 (t1.add 12) fun x41 => ldI .u64 w40 (t3.add 11) fun x42 => (2 : Int) ≠ 0 ∧ CallR Tryz.prog 9 #[.int .i64 x41, .int .i64 (IntKind.wrap .i64 (Int.tdiv (IntKind.wrap .i64 x42) (2 : Int)))] w40 fun v43 w44 => ∃ (y45 : Int), v43 = .int .i64 y45 ∧ stK w44 (t3.add 12) (.int .u64 (IntKind.wrap .u64 y45)) fun w46 => drewK w46 fun w47 => ldI .u64 w47 (t3.add 11) fun x48 => ldI .i64 w47 (t1.add 13) fun x49 => CallR Tryz.prog 9 #[.int .i64 x49, .int .i64 200] w47 fun v50 w51 => ∃ (y52 : Int), v50 = .int .i64 y52 ∧ (World.cell? w47 (t3.add 11) = some (.int .u64 x48) ∧ World.cell? w51 (t3.add 11) = some (.int .u64 x48)) ∧ stK w51 (t3.add 13) (.int .u64 (IntKind.wrap .u64 (x48 * (IntKind.wrap .u64 (IntKind.wrap .i64 ((40 : Int) + y52)))))) fun w53 => ldI .i64 w53 (t1.add 14) fun x54 => CallR Tryz.prog 9 #[.int .i64 x54, .int .i64 30] w53 fun v55 w56 => ∃ (y57 : Int), v55 = .int .i64 y57 ∧ stK w56 (t3.add 14) (.int .u64 (IntKind.wrap .u64 (IntKind.wrap .i64 ((1 : Int) + y57)))) fun w58 => drewK w58 fun w59 => ldI .u64 w59 (t3.add 14) fun x60 => ldI .i64 w59 (t1.add 15) fun x61 => CallR Tryz.prog 9 #[.int .i64 x61, .int .i64 60] w59 fun v62 w63 => ∃ (y64 : Int), v62 = .int .i64 y64 ∧ (World.cell? w59 (t3.add 14) = some (.int .u64 x60) ∧ World.cell? w63 (t3.add 14) = some (.int .u64 x60)) ∧ stK w63 (t3.add 15) (.int .u64 (IntKind.wrap .u64 (x60 + (IntKind.wrap .u64 y64)))) fun w65 => drewK w65 fun w66 => ldI .u64 w66 (t3.add 11) fun x67 => ldI .i64 w66 (t1.add 16) fun x68 => CallR Tryz.prog 9 #[.int .i64 x68, .int .i64 60] w66 fun v69 w70 => ∃ (y71 : Int), v69 = .int .i64 y71 ∧ (World.cell? w66 (t3.add 11) = some (.int .u64 x67) ∧ World.cell? w70 (t3.add 11) = some (.int .u64 x67)) ∧ stK w70 (t3.add 16) (.int .u64 (IntKind.wrap .u64 (x67 * (IntKind.wrap .u64 (IntKind.wrap .i64 ((1 : Int) + y71)))))) fun w72 => ldI .i64 w72 (t1.add 17) fun x73 => CallR Tryz.prog 9 #[.int .i64 x73, .int .i64 4] w72 fun v74 w75 => ∃ (y76 : Int), v74 = .int .i64 y76 ∧ stK w75 (t3.add 17) (.int .i64 (IntKind.wrap .i64 ((1 : Int) + y76))) fun w77 => drewK w77 fun w78 => ldI .i64 w78 (t3.add 17) fun x79 => ldI .i64 w78 (t1.add 18) fun x80 => CallR Tryz.prog 9 #[.int .i64 x80, .int .i64 4] w78 fun v81 w82 => ∃ (y83 : Int), v81 = .int .i64 y83 ∧ (World.cell? w78 (t3.add 17) = some (.int .i64 x79) ∧ World.cell? w82 (t3.add 17) = some (.int .i64 x79)) ∧ stK w82 (t3.add 18) (.int .i64 (IntKind.wrap .i64 ((IntKind.wrap .i64 (x79 + (1 : Int))) + y83))) fun w84 => ldI .i64 w84 (t1.add 19) fun x85 => CallR Tryz.prog 9 #[.int .i64 x85, .int .i64 12] w84 fun v86 w87 => ∃ (y88 : Int), v86 = .int .i64 y88 ∧ stK w87 (t3.add 19) (.int .i64 (IntKind.wrap .i64 ((1 : Int) + y88))) fun w89 => ldI .u64 w89 (t1.add 20) fun x90 => (1000 : Int) ≠ 0 ∧ stK w89 (t3.add 20) (.int .u64 (Int.tmod x90 (1000 : Int))) fun w91 => ldI .u64 w91 (t1.add 21) fun x92 => (1000 : Int) ≠ 0 ∧ stK w91 (t3.add 21) (.int .u64 (Int.tmod x92 (1000 : Int))) fun w93 => ldI .i64 w93 (t3.add 0) fun x94 => ldI .i64 w93 (t3.add 1) fun x95 => ldI .i64 w93 (t3.add 2) fun x96 => ldI .i64 w93 (t3.add 3) fun x97 => ldI .i64 w93 (t3.add 4) fun x98 => ldI .i64 w93 (t3.add 5) fun x99 => ldI .i64 w93 (t3.add 6) fun x100 => ldI .i64 w93 (t3.add 7) fun x101 => ldI .i64 w93 (t3.add 8) fun x102 => ldI .i64 w93 (t3.add 9) fun x103 => ldI .i64 w93 (t3.add 10) fun x104 => ldI .u64 w93 (t3.add 11) fun x105 => ldI .u64 w93 (t3.add 12) fun x106 => ldI .u64 w93 (t3.add 13) fun x107 => ldI .u64 w93 (t3.add 14) fun x108 => ldI .u64 w93 (t3.add 15) fun x109 => ldI .u64 w93 (t3.add 16) fun x110 => ldI .i64 w93 (t3.add 17) fun x111 => ldI .i64 w93 (t3.add 18) fun x112 => ldI .i64 w93 (t3.add 19) fun x113 => ldI .u64 w93 (t3.add 20) fun x114 => ldI .u64 w93 (t3.add 21) fun x115 => stAll w93 t2 [.int .i64 x94, .int .i64 x95, .int .i64 x96, .int .i64 x97, .int .i64 x98, .int .i64 x99, .int .i64 x100, .int .i64 x101, .int .i64 x102, .int .i64 x103, .int .i64 x104, .int .u64 x105, .int .u64 x106, .int .u64 x107, .int .u64 x108, .int .u64 x109, .int .u64 x110, .int .i64 x111, .int .i64 x112, .int .i64 x113, .int .u64 x114, .int .u64 x115] fun w116 => ldI .i64 w116 (t2.add 0) fun x117 => ldI .i64 w116 (t2.add 1) fun x118 => ldI .i64 w116 (t2.add 2) fun x119 => ldI .i64 w116 (t2.add 3) fun x120 => ldI .i64 w116 (t2.add 4) fun x121 => ldI .i64 w116 (t2.add 5) fun x122 => ldI .i64 w116 (t2.add 6) fun x123 => ldI .i64 w116 (t2.add 7) fun x124 => ldI .i64 w116 (t2.add 8) fun x125 => ldI .i64 w116 (t2.add 9) fun x126 => ldI .i64 w116 (t2.add 10) fun x127 => ldI .u64 w116 (t2.add 11) fun x128 => ldI .u64 w116 (t2.add 12) fun x129 => ldI .u64 w116 (t2.add 13) fun x130 => ldI .u64 w116 (t2.add 14) fun x131 => ldI .u64 w116 (t2.add 15) fun x132 => ldI .u64 w116 (t2.add 16) fun x133 => ldI .i64 w116 (t2.add 17) fun x134 => ldI .i64 w116 (t2.add 18) fun x135 => ldI .i64 w116 (t2.add 19) fun x136 => ldI .u64 w116 (t2.add 20) fun x137 => ldI .u64 w116 (t2.add 21) fun x138 => Q (.agg #[.int .i64 x117, .int .i64 x118, .int .i64 x119, .int .i64 x120, .int .i64 x121, .int .i64 x122, .int .i64 x123, .int .i64 x124, .int .i64 x125, .int .i64 x126, .int .i64 x127, .int .u64 x128, .int .u64 x129, .int .u64 x130, .int .u64 x131, .int .u64 x132, .int .u64 x133, .int .i64 x134, .int .i64 x135, .int .i64 x136, .int .u64 x137, .int .u64 x138]) w116
def X7.f (a0_0 a0_1 a0_2 a0_3 a0_4 a0_5 a0_6 a0_7 a0_8 a0_9 a0_10 a0_11 a0_12 a0_13 a0_14 a0_15 a0_16 a0_17 a0_18 a0_19 a0_20 a0_21 : Int) (w : World) (Q : QT) : Prop := newK w #[.int .i64 a0_0, .int .i64 a0_1, .int .i64 a0_2, .int .i64 a0_3, .int .i64 a0_4, .int .i64 a0_5, .int .i64 a0_6, .int .i64 a0_7, .int .i64 a0_8, .int .i64 a0_9, .int .i64 a0_10, .int .i64 a0_11, .int .i64 a0_12, .int .i64 a0_13, .int .i64 a0_14, .int .i64 a0_15, .int .i64 a0_16, .int .i64 a0_17, .int .i64 a0_18, .int .i64 a0_19, .int .u64 a0_20, .int .u64 a0_21] 24 fun g1 w2 => newK w2 #[.int .i64 0, .int .i64 0, .int .i64 0, .int .i64 0, .int .i64 0, .int .i64 0, .int .i64 0, .int .i64 0, .int .i64 0, .int .i64 0, .int .i64 0, .int .u64 0, .int .u64 0, .int .u64 0, .int .u64 0, .int .u64 0, .int .u64 0, .int .i64 0, .int .i64 0, .int .i64 0, .int .u64 0, .int .u64 0] 27 fun g3 w4 => drewK w4 fun w5 => (ldI .i64 w5 (g1.add 0) fun x6 => CallR Tryz.prog 9 #[.int .i64 x6, .int .i64 3] w5 fun v7 w8 => ∃ (y9 : Int), v7 = .int .i64 y9 ∧ ldI .i64 w8 (g1.add 1) fun x10 => (World.cell? w5 (g1.add 1) = some (.int .i64 x10) ∧ World.cell? w8 (g1.add 1) = some (.int .i64 x10)) ∧ CallR Tryz.prog 9 #[.int .i64 x10, .int .i64 3] w8 fun v11 w12 => ∃ (y13 : Int), v11 = .int .i64 y13 ∧ ldI .i64 w12 (g1.add 2) fun x14 => (World.cell? w8 (g1.add 2) = some (.int .i64 x14) ∧ World.cell? w12 (g1.add 2) = some (.int .i64 x14)) ∧ (World.cell? w5 (g1.add 2) = some (.int .i64 x14) ∧ World.cell? w8 (g1.add 2) = some (.int .i64 x14)) ∧ CallR Tryz.prog 9 #[.int .i64 x14, .int .i64 4] w12 fun v15 w16 => ∃ (y17 : Int), v15 = .int .i64 y17 ∧ ldI .i64 w16 (g1.add 3) fun x18 => (World.cell? w12 (g1.add 3) = some (.int .i64 x18) ∧ World.cell? w16 (g1.add 3) = some (.int .i64 x18)) ∧ (World.cell? w8 (g1.add 3) = some (.int .i64 x18) ∧ World.cell? w12 (g1.add 3) = some (.int .i64 x18)) ∧ (World.cell? w5 (g1.add 3) = some (.int .i64 x18) ∧ World.cell? w8 (g1.add 3) = some (.int .i64 x18)) ∧ CallR Tryz.prog 9 #[.int .i64 x18, .int .i64 8] w16 fun v19 w20 => ∃ (y21 : Int), v19 = .int .i64 y21 ∧ newK w20 #[.int .i64 0, .int .i64 0, .int .i64 0, .int .i64 0, .int .i64 0, .int .i64 0, .int .i64 0, .int .i64 0, .int .i64 0, .int .i64 0, .int .i64 0, .int .u64 0, .int .u64 0, .int .u64 0, .int .u64 0, .int .u64 0, .int .u64 0, .int .i64 0, .int .i64 0, .int .i64 0, .int .u64 0, .int .u64 0] 27 fun g22 w23 => (World.cell? w20 (g1.add 3) = some (.int .i64 x18) ∧ World.cell? w23 (g1.add 3) = some (.int .i64 x18)) ∧ (World.cell? w20 (g1.add 2) = some (.int .i64 x14) ∧ World.cell? w23 (g1.add 2) = some (.int .i64 x14)) ∧ (World.cell? w20 (g1.add 1) = some (.int .i64 x10) ∧ World.cell? w23 (g1.add 1) = some (.int .i64 x10)) ∧ (World.cell? w20 (g1.add 0) = some (.int .i64 x6) ∧ World.cell? w23 (g1.add 0) = some (.int .i64 x6)) ∧ stAll w23 g22 [.int .i64 (IntKind.wrap .i64 ((2 : Int) + y9)), .int .i64 (IntKind.wrap .i64 ((1 : Int) + y13)), .int .i64 (IntKind.wrap .i64 ((2 : Int) + y17)), .int .i64 (IntKind.wrap .i64 ((16 : Int) * (IntKind.wrap .i64 ((1 : Int) + y21)))), .int .i64 0, .int .i64 0, .int .i64 0, .int .i64 0, .int .i64 0, .int .i64 0, .int .i64 0, .int .u64 0, .int .u64 0, .int .u64 0, .int .u64 0, .int .u64 0, .int .u64 0, .int .i64 0, .int .i64 0, .int .i64 0, .int .u64 0, .int .u64 0] fun w24 => X7.j0 Q g1 g3 g22 w24) ∧ ((ldI .i64 w5 (g1.add 0) fun x25 => CallR Tryz.prog 9 #[.int .i64 x25, .int .i64 3] w5 fun v26 w27 => ∃ (y28 : Int), v26 = .int .i64 y28 ∧ ldI .i64 w27 (g1.add 1) fun x29 => (World.cell? w5 (g1.add 1) = some (.int .i64 x29) ∧ World.cell? w27 (g1.add 1) = some (.int .i64 x29)) ∧ CallR Tryz.prog 9 #[.int .i64 x29, .int .i64 3] w27 fun v30 w31 => ∃ (y32 : Int), v30 = .int .i64 y32 ∧ ldI .i64 w31 (g1.add 2) fun x33 => (World.cell? w27 (g1.add 2) = some (.int .i64 x33) ∧ World.cell? w31 (g1.add 2) = some (.int .i64 x33)) ∧ (World.cell? w5 (g1.add 2) = some (.int .i64 x33) ∧ World.cell? w27 (g1.add 2) = some (.int .i64 x33)) ∧ CallR Tryz.prog 9 #[.int .i64 x33, .int .i64 4] w31 fun v34 w35 => ∃ (y36 : Int), v34 = .int .i64 y36 ∧ ldI .i64 w35 (g1.add 3) fun x37 => (World.cell? w31 (g1.add 3) = some (.int .i64 x37) ∧ World.cell? w35 (g1.add 3) = some (.int .i64 x37)) ∧ (World.cell? w27 (g1.add 3) = some (.int .i64 x37) ∧ World.cell? w31 (g1.add 3) = some (.int .i64 x37)) ∧ (World.cell? w5 (g1.add 3) = some (.int .i64 x37) ∧ World.cell? w27 (g1.add 3) = some (.int .i64 x37)) ∧ newK w35 #[.int .i64 0, .int .i64 0, .int .i64 0, .int .i64 0, .int .i64 0, .int .i64 0, .int .i64 0, .int .i64 0, .int .i64 0, .int .i64 0, .int .i64 0, .int .u64 0, .int .u64 0, .int .u64 0, .int .u64 0, .int .u64 0, .int .u64 0, .int .i64 0, .int .i64 0, .int .i64 0, .int .u64 0, .int .u64 0] 27 fun g38 w39 => (World.cell? w35 (g1.add 3) = some (.int .i64 x37) ∧ World.cell? w39 (g1.add 3) = some (.int .i64 x37)) ∧ (World.cell? w35 (g1.add 2) = some (.int .i64 x33) ∧ World.cell? w39 (g1.add 2) = some (.int .i64 x33)) ∧ (World.cell? w35 (g1.add 1) = some (.int .i64 x29) ∧ World.cell? w39 (g1.add 1) = some (.int .i64 x29)) ∧ (World.cell? w35 (g1.add 0) = some (.int .i64 x25) ∧ World.cell? w39 (g1.add 0) = some (.int .i64 x25)) ∧ CallR Tryz.prog 9 #[.int .i64 x37, .int .i64 8] w39 fun v40 w41 => ∃ (y42 : Int), v40 = .int .i64 y42 ∧ stAll w41 g38 [.int .i64 (IntKind.wrap .i64 ((2 : Int) + y28)), .int .i64 (IntKind.wrap .i64 ((1 : Int) + y32)), .int .i64 (IntKind.wrap .i64 ((2 : Int) + y36)), .int .i64 (IntKind.wrap .i64 ((16 : Int) * (IntKind.wrap .i64 ((1 : Int) + y42)))), .int .i64 0, .int .i64 0, .int .i64 0, .int .i64 0, .int .i64 0, .int .i64 0, .int .i64 0, .int .u64 0, .int .u64 0, .int .u64 0, .int .u64 0, .int .u64 0, .int .u64 0, .int .i64 0, .int .i64 0, .int .i64 0, .int .u64 0, .int .u64 0] fun w43 => X7.j0 Q g1 g3 g38 w43) ∧ ((ldI .i64 w5 (g1.add 0) fun x44 => CallR Tryz.prog 9 #[.int .i64 x44, .int .i64 3] w5 fun v45 w46 => ∃ (y47 : Int), v45 = .int .i64 y47 ∧ ldI .i64 w46 (g1.add 1) fun x48 => (World.cell? w5 (g1.add 1) = some (.int .i64 x48) ∧ World.cell? w46 (g1.add 1) = some (.int .i64 x48)) ∧ CallR Tryz.prog 9 #[.int .i64 x48, .int .i64 3] w46 fun v49 w50 => ∃ (y51 : Int), v49 = .int .i64 y51 ∧ ldI .i64 w50 (g1.add 2) fun x52 => (World.cell? w46 (g1.add 2) = some (.int .i64 x52) ∧ World.cell? w50 (g1.add 2) = some (.int .i64 x52)) ∧ (World.cell? w5 (g1.add 2) = some (.int .i64 x52) ∧ World.cell? w46 (g1.add 2) = some (.int .i64 x52)) ∧ ldI .i64 w50 (g1.add 3) fun x53 => (World.cell? w46 (g1.add 3) = some (.int .i64 x53) ∧ World.cell? w50 (g1.add 3) = some (.int .i64 x53)) ∧ (World.cell? w5 (g1.add 3) = some (.int .i64 x53) ∧ World.cell? w46 (g1.add 3) = some (.int .i64 x53)) ∧ newK w50 #[.int .i64 0, .int .i64 0, .int .i64 0, .int .i64 0, .int .i64 0, .int .i64 0, .int .i64 0, .int .i64 0, .int .i64 0, .int .i64 0, .int .i64 0, .int .u64 0, .int .u64 0, .int .u64 0, .int .u64 0, .int .u64 0, .int .u64 0, .int .i64 0, .int .i64 0, .int .i64 0, .int .u64 0, .int .u64 0] 27 fun g54 w55 => (World.cell? w50 (g1.add 3) = some (.int .i64 x53) ∧ World.cell? w55 (g1.add 3) = some (.int .i64 x53)) ∧ (World.cell? w50 (g1.add 2) = some (.int .i64 x52) ∧ World.cell? w55 (g1.add 2) = some (.int .i64 x52)) ∧ (World.cell? w50 (g1.add 1) = some (.int .i64 x48) ∧ World.cell? w55 (g1.add 1) = some (.int .i64 x48)) ∧ (World.cell? w50 (g1.add 0) = some (.int .i64 x44) ∧ World.cell? w55 (g1.add 0) = some (.int .i64 x44)) ∧ CallR Tryz.prog 9 #[.int .i64 x52, .int .i64 4] w55 fun v56 w57 => ∃ (y58 : Int), v56 = .int .i64 y58 ∧ (World.cell? w55 (g1.add 3) = some (.int .i64 x53) ∧ World.cell? w57 (g1.add 3) = some (.int .i64 x53)) ∧ CallR Tryz.prog 9 #[.int .i64 x53, .int .i64 8] w57 fun v59 w60 => ∃ (y61 : Int), v59 = .int .i64 y61 ∧ stAll w60 g54 [.int .i64 (IntKind.wrap .i64 ((2 : Int) + y47)), .int .i64 (IntKind.wrap .i64 ((1 : Int) + y51)), .int .i64 (IntKind.wrap .i64 ((2 : Int) + y58)), .int .i64 (IntKind.wrap .i64 ((16 : Int) * (IntKind.wrap .i64 ((1 : Int) + y61)))), .int .i64 0, .int .i64 0, .int .i64 0, .int .i64 0, .int .i64 0, .int .i64 0, .int .i64 0, .int .u64 0, .int .u64 0, .int .u64 0, .int .u64 0, .int .u64 0, .int .u64 0, .int .i64 0, .int .i64 0, .int .i64 0, .int .u64 0, .int .u64 0] fun w62 => X7.j0 Q g1 g3 g54 w62) ∧ ((ldI .i64 w5 (g1.add 0) fun x63 => CallR Tryz.prog 9 #[.int .i64 x63, .int .i64 3] w5 fun v64 w65 => ∃ (y66 : Int), v64 = .int .i64 y66 ∧ ldI .i64 w65 (g1.add 1) fun x67 => (World.cell? w5 (g1.add 1) = some (.int .i64 x67) ∧ World.cell? w65 (g1.add 1) = some (.int .i64 x67)) ∧ ldI .i64 w65 (g1.add 2) fun x68 => (World.cell? w5 (g1.add 2) = some (.int .i64 x68) ∧ World.cell? w65 (g1.add 2) = some (.int .i64 x68)) ∧ ldI .i64 w65 (g1.add 3) fun x69 => (World.cell? w5 (g1.add 3) = some (.int .i64 x69) ∧ World.cell? w65 (g1.add 3) = some (.int .i64 x69)) ∧ newK w65 #[.int .i64 0, .int .i64 0, .int .i64 0, .int .i64 0, .int .i64 0, .int .i64 0, .int .i64 0, .int .i64 0, .int .i64 0, .int .i64 0, .int .i64 0, .int .u64 0, .int .u64 0, .int .u64 0, .int .u64 0, .int .u64 0, .int .u64 0, .int .i64 0, .int .i64 0, .int .i64 0, .int .u64 0, .int .u64 0] 27 fun g70 w71 => (World.cell? w65 (g1.add 3) = some (.int .i64 x69) ∧ World.cell? w71 (g1.add 3) = some (.int .i64 x69)) ∧ (World.cell? w65 (g1.add 2) = some (.int .i64 x68) ∧ World.cell? w71 (g1.add 2) = some (.int .i64 x68)) ∧ (World.cell? w65 (g1.add 1) = some (.int .i64 x67) ∧ World.cell? w71 (g1.add 1) = some (.int .i64 x67)) ∧ (World.cell? w65 (g1.add 0) = some (.int .i64 x63) ∧ World.cell? w71 (g1.add 0) = some (.int .i64 x63)) ∧ CallR Tryz.prog 9 #[.int .i64 x67, .int .i64 3] w71 fun v72 w73 => ∃ (y74 : Int), v72 = .int .i64 y74 ∧ (World.cell? w71 (g1.add 3) = some (.int .i64 x69) ∧ World.cell? w73 (g1.add 3) = some (.int .i64 x69)) ∧ (World.cell? w71 (g1.add 2) = some (.int .i64 x68) ∧ World.cell? w73 (g1.add 2) = some (.int .i64 x68)) ∧ CallR Tryz.prog 9 #[.int .i64 x68, .int .i64 4] w73 fun v75 w76 => ∃ (y77 : Int), v75 = .int .i64 y77 ∧ (World.cell? w73 (g1.add 3) = some (.int .i64 x69) ∧ World.cell? w76 (g1.add 3) = some (.int .i64 x69)) ∧ CallR Tryz.prog 9 #[.int .i64 x69, .int .i64 8] w76 fun v78 w79 => ∃ (y80 : Int), v78 = .int .i64 y80 ∧ stAll w79 g70 [.int .i64 (IntKind.wrap .i64 ((2 : Int) + y66)), .int .i64 (IntKind.wrap .i64 ((1 : Int) + y74)), .int .i64 (IntKind.wrap .i64 ((2 : Int) + y77)), .int .i64 (IntKind.wrap .i64 ((16 : Int) * (IntKind.wrap .i64 ((1 : Int) + y80)))), .int .i64 0, .int .i64 0, .int .i64 0, .int .i64 0, .int .i64 0, .int .i64 0, .int .i64 0, .int .u64 0, .int .u64 0, .int .u64 0, .int .u64 0, .int .u64 0, .int .u64 0, .int .i64 0, .int .i64 0, .int .i64 0, .int .u64 0, .int .u64 0] fun w81 => X7.j0 Q g1 g3 g70 w81) ∧ (ldI .i64 w5 (g1.add 0) fun x82 => ldI .i64 w5 (g1.add 1) fun x83 => ldI .i64 w5 (g1.add 2) fun x84 => ldI .i64 w5 (g1.add 3) fun x85 => newK w5 #[.int .i64 0, .int .i64 0, .int .i64 0, .int .i64 0, .int .i64 0, .int .i64 0, .int .i64 0, .int .i64 0, .int .i64 0, .int .i64 0, .int .i64 0, .int .u64 0, .int .u64 0, .int .u64 0, .int .u64 0, .int .u64 0, .int .u64 0, .int .i64 0, .int .i64 0, .int .i64 0, .int .u64 0, .int .u64 0] 27 fun g86 w87 => (World.cell? w5 (g1.add 3) = some (.int .i64 x85) ∧ World.cell? w87 (g1.add 3) = some (.int .i64 x85)) ∧ (World.cell? w5 (g1.add 2) = some (.int .i64 x84) ∧ World.cell? w87 (g1.add 2) = some (.int .i64 x84)) ∧ (World.cell? w5 (g1.add 1) = some (.int .i64 x83) ∧ World.cell? w87 (g1.add 1) = some (.int .i64 x83)) ∧ (World.cell? w5 (g1.add 0) = some (.int .i64 x82) ∧ World.cell? w87 (g1.add 0) = some (.int .i64 x82)) ∧ CallR Tryz.prog 9 #[.int .i64 x82, .int .i64 3] w87 fun v88 w89 => ∃ (y90 : Int), v88 = .int .i64 y90 ∧ (World.cell? w87 (g1.add 3) = some (.int .i64 x85) ∧ World.cell? w89 (g1.add 3) = some (.int .i64 x85)) ∧ (World.cell? w87 (g1.add 2) = some (.int .i64 x84) ∧ World.cell? w89 (g1.add 2) = some (.int .i64 x84)) ∧ (World.cell? w87 (g1.add 1) = some (.int .i64 x83) ∧ World.cell? w89 (g1.add 1) = some (.int .i64 x83)) ∧ CallR Tryz.prog 9 #[.int .i64 x83, .int .i64 3] w89 fun v91 w92 => ∃ (y93 : Int), v91 = .int .i64 y93 ∧ (World.cell? w89 (g1.add 3) = some (.int .i64 x85) ∧ World.cell? w92 (g1.add 3) = some (.int .i64 x85)) ∧ (World.cell? w89 (g1.add 2) = some (.int .i64 x84) ∧ World.cell? w92 (g1.add 2) = some (.int .i64 x84)) ∧ CallR Tryz.prog 9 #[.int .i64 x84, .int .i64 4] w92 fun v94 w95 => ∃ (y96 : Int), v94 = .int .i64 y96 ∧ (World.cell? w92 (g1.add 3) = some (.int .i64 x85) ∧ World.cell? w95 (g1.add 3) = some (.int .i64 x85)) ∧ CallR Tryz.prog 9 #[.int .i64 x85, .int .i64 8] w95 fun v97 w98 => ∃ (y99 : Int), v97 = .int .i64 y99 ∧ stAll w98 g86 [.int .i64 (IntKind.wrap .i64 ((2 : Int) + y90)), .int .i64 (IntKind.wrap .i64 ((1 : Int) + y93)), .int .i64 (IntKind.wrap .i64 ((2 : Int) + y96)), .int .i64 (IntKind.wrap .i64 ((16 : Int) * (IntKind.wrap .i64 ((1 : Int) + y99)))), .int .i64 0, .int .i64 0, .int .i64 0, .int .i64 0, .int .i64 0, .int .i64 0, .int .i64 0, .int .u64 0, .int .u64 0, .int .u64 0, .int .u64 0, .int .u64 0, .int .u64 0, .int .i64 0, .int .i64 0, .int .i64 0, .int .u64 0, .int .u64 0] fun w100 => X7.j0 Q g1 g3 g86 w100))))
def X7.S (Q : QT) : Segs
  | 0, φ, ρ, w => qA (ρ 1) fun t1 => qA (ρ 2) fun t2 => qA (ρ 3) fun t3 => X7.j0 Q t1 t2 t3 w
  | _, _, _, _ => False
noncomputable def X7.an : Ann := (.seq .leaf (.seq (.draw [0, 1, 3, 7, 0, 16, 55, 119, 0, 256, 887, 1911, 0, 4096, 14199, 30583, 63351, 131071, 0, 524287] [[0, 1, 2, 3, 4, 5, 6, 7, 8, 9, 10, 11, 12, 13, 14, 15, 16, 17, 18, 19], [0, 1, 2, 3, 4, 5, 6, 7, 8, 9, 10, 11, 12, 13, 18, 14, 15, 16, 17, 19], [0, 1, 2, 3, 4, 5, 6, 7, 8, 9, 12, 13, 18, 10, 11, 14, 15, 16, 17, 19], [0, 1, 2, 3, 4, 5, 8, 9, 12, 13, 18, 6, 7, 10, 11, 14, 15, 16, 17, 19], [0, 1, 4, 5, 8, 9, 12, 13, 18, 2, 3, 6, 7, 10, 11, 14, 15, 16, 17, 19]]) (.join 0 (.seq .leaf (.seq .leaf (.seq .leaf (.seq .leaf (.seq .leaf (.seq .leaf (.seq .leaf (.seq .leaf (.seq .leaf (.seq (.draw [0, 1, 0, 4, 12, 28, 60, 127, 255, 511] [[0, 1, 2, 3, 4, 5, 6, 7, 8, 9]]) (.seq .leaf (.seq (.draw [0, 1, 0, 4, 12, 28, 63, 127, 255] [[0, 1, 2, 3, 4, 5, 6, 7, 8]]) (.seq (.draw [0, 1, 0, 4, 12, 28, 60, 127, 255, 511] [[0, 1, 2, 3, 4, 5, 6, 7, 8, 9]]) (.seq .leaf (.seq (.draw [0, 1, 3, 0, 8, 24, 63, 127, 255] [[0, 1, 2, 3, 4, 5, 6, 7, 8]]) (.seq .leaf (.seq .leaf (.seq .leaf (.seq .leaf .leaf))))))))))))))))))))))
noncomputable def X7.c : Code := Tryz.f7.body.getD .skip
theorem X7.v (Q : QT) : V Tryz.prog (X7.S Q) X7.an X7.c (retC Tryz.prog Tryz.f7 Q) := ⟨trivial, ⟨trivial, ⟨(by
    intro φ ρ w h
    simp only [X7.S] at h
    obtain ⟨t1, e1, h⟩ := qA_elim h
    obtain ⟨t2, e2, h⟩ := qA_elim h
    obtain ⟨t3, e3, h⟩ := qA_elim h
    exact ⟨(((Env.nil.put (some 1) (.pointer (some t1))).put (some 2) (.pointer (some t2))).put (some 3) (.pointer (some t3))), Env.le_put e3 (Env.le_put e2 (Env.le_put e1 (Env.le_nil _))), Eq.mp (by kernel_rfl) h⟩), ⟨trivial, ⟨trivial, ⟨trivial, ⟨trivial, ⟨trivial, ⟨trivial, ⟨trivial, ⟨trivial, ⟨trivial, ⟨trivial, ⟨trivial, ⟨trivial, ⟨trivial, ⟨trivial, ⟨trivial, ⟨trivial, ⟨trivial, ⟨trivial, ⟨trivial, trivial⟩⟩⟩⟩⟩⟩⟩⟩⟩⟩⟩⟩⟩⟩⟩⟩⟩⟩⟩⟩⟩⟩
theorem X7.sound (a0_0 a0_1 a0_2 a0_3 a0_4 a0_5 a0_6 a0_7 a0_8 a0_9 a0_10 a0_11 a0_12 a0_13 a0_14 a0_15 a0_16 a0_17 a0_18 a0_19 a0_20 a0_21 : Int) (w : World) (Q : QT) (h : X7.f a0_0 a0_1 a0_2 a0_3 a0_4 a0_5 a0_6 a0_7 a0_8 a0_9 a0_10 a0_11 a0_12 a0_13 a0_14 a0_15 a0_16 a0_17 a0_18 a0_19 a0_20 a0_21 w Q) : CallR Tryz.prog 7 #[.agg #[.int .i64 a0_0, .int .i64 a0_1, .int .i64 a0_2, .int .i64 a0_3, .int .i64 a0_4, .int .i64 a0_5, .int .i64 a0_6, .int .i64 a0_7, .int .i64 a0_8, .int .i64 a0_9, .int .i64 a0_10, .int .i64 a0_11, .int .i64 a0_12, .int .i64 a0_13, .int .i64 a0_14, .int .i64 a0_15, .int .i64 a0_16, .int .i64 a0_17, .int .i64 a0_18, .int .i64 a0_19, .int .u64 a0_20, .int .u64 a0_21]] w Q :=
  fn_sound noGr mixed Tryz.func7 (c := X7.c) (an := X7.an) (S := X7.S Q) (φ := fun _ => 0) (args := [.agg #[.int .i64 a0_0, .int .i64 a0_1, .int .i64 a0_2, .int .i64 a0_3, .int .i64 a0_4, .int .i64 a0_5, .int .i64 a0_6, .int .i64 a0_7, .int .i64 a0_8, .int .i64 a0_9, .int .i64 a0_10, .int .i64 a0_11, .int .i64 a0_12, .int .i64 a0_13, .int .i64 a0_14, .int .i64 a0_15, .int .i64 a0_16, .int .i64 a0_17, .int .i64 a0_18, .int .i64 a0_19, .int .u64 a0_20, .int .u64 a0_21]]) (by kernel_rfl) (by kernel_rfl) (by kernel_rfl) (X7.v Q) (Eq.mp (by kernel_rfl) h)
def X9.f (a0 a1 : Int) (w : World) (Q : QT) : Prop := a1 ≠ 0 ∧ bcase (decide ((Int.tmod a0 a1) < (0 : Int))) (Q (.int .i64 (IntKind.wrap .i64 ((Int.tmod a0 a1) + a1))) w) (Q (.int .i64 (Int.tmod a0 a1)) w)
def X9.S (Q : QT) : Segs
  | _, _, _, _ => False
noncomputable def X9.an : Ann := (.seq .leaf (.seq .leaf (.seq (.seq .leaf (.cond .leaf .leaf)) (.seq .leaf .leaf))))
noncomputable def X9.c : Code := Tryz.f9.body.getD .skip
theorem X9.v (Q : QT) : V Tryz.prog (X9.S Q) X9.an X9.c (retC Tryz.prog Tryz.f9 Q) := ⟨trivial, ⟨trivial, ⟨⟨trivial, ⟨trivial, trivial⟩⟩, ⟨trivial, trivial⟩⟩⟩⟩
theorem X9.sound (a0 a1 : Int) (w : World) (Q : QT) (h : X9.f a0 a1 w Q) : CallR Tryz.prog 9 #[.int .i64 a0, .int .i64 a1] w Q :=
  fn_sound noGr mixed Tryz.func9 (c := X9.c) (an := X9.an) (S := X9.S Q) (φ := fun _ => 0) (args := [.int .i64 a0, .int .i64 a1]) (by kernel_rfl) (by kernel_rfl) (by kernel_rfl) (X9.v Q) (Eq.mp (by kernel_rfl) h)
def X50.f (a0 : Option Addr) (a1_0 a1_1 a1_2 a1_3 a1_4 a1_5 a1_6 a1_7 a1_8 a1_9 : Int) (a1_10p : Option Addr) (a1_10n a1_10c : Nat) (a1_11 a1_12 a1_13 a1_14 a1_15 a1_16 a1_17 : Int) (a1_18p : Option Addr) (a1_18n a1_18c : Nat) (a2 : Int) (w : World) (Q : QT) : Prop := newK w #[.int .i64 a1_0, .int .i64 a1_1, .int .i64 a1_2, .int .u64 a1_3, .int .u64 a1_4, .int .i64 a1_5, .int .i64 a1_6, .int .i64 a1_7, .int .i64 a1_8, .int .u64 a1_9, .slice a1_10p a1_10n a1_10c, .int .u64 a1_11, .int .i64 a1_12, .int .u64 a1_13, .int .i64 a1_14, .int .u64 a1_15, .int .i64 a1_16, .int .u64 a1_17, .slice a1_18p a1_18n a1_18c] 41 fun g1 w2 => drewK w2 fun w3 => ldI .i64 w3 (g1.add 0) fun x4 => bcase (x4 == a2) (ldI .i64 w3 (g1.add 0) fun x5 => ldI .i64 w3 (g1.add 1) fun x6 => ldI .i64 w3 (g1.add 2) fun x7 => ldI .u64 w3 (g1.add 3) fun x8 => ldI .u64 w3 (g1.add 4) fun x9 => ldI .i64 w3 (g1.add 5) fun x10 => ldI .i64 w3 (g1.add 6) fun x11 => ldI .i64 w3 (g1.add 7) fun x12 => ldI .i64 w3 (g1.add 8) fun x13 => ldI .u64 w3 (g1.add 9) fun x14 => ldSl w3 (g1.add 10) fun x15p x15n x15c => ldI .u64 w3 (g1.add 11) fun x16 => ldI .i64 w3 (g1.add 12) fun x17 => ldI .u64 w3 (g1.add 13) fun x18 => ldI .i64 w3 (g1.add 14) fun x19 => ldI .u64 w3 (g1.add 15) fun x20 => ldI .i64 w3 (g1.add 16) fun x21 => ldI .u64 w3 (g1.add 17) fun x22 => ldSl w3 (g1.add 18) fun x23p x23n x23c => CallR Tryz.prog 81 #[.agg #[.int .i64 x5, .int .i64 x6, .int .i64 x7, .int .u64 x8, .int .u64 x9, .int .i64 x10, .int .i64 x11, .int .i64 x12, .int .i64 x13, .int .u64 x14, .slice x15p x15n x15c, .int .u64 x16, .int .i64 x17, .int .u64 x18, .int .i64 x19, .int .u64 x20, .int .i64 x21, .int .u64 x22, .slice x23p x23n x23c]] w3 fun v24 w25 => ∃ (y26 : Bool), v24 = .bool y26 ∧ bcase y26 (ldI .i64 w25 (g1.add 2) fun x27 => optP a0 fun p28 => ldP w25 (p28.add 22) fun x29 => CallR Tryz.prog 54 #[.pointer x29] w25 fun v30 w31 => ∃ (y32 : Int), v30 = .int .i64 y32 ∧ (World.cell? w25 (g1.add 2) = some (.int .i64 x27) ∧ World.cell? w31 (g1.add 2) = some (.int .i64 x27)) ∧ bcase (x27 == y32) (ldI .i64 w31 (g1.add 1) fun x33 => optP a0 fun p34 => ldI .i64 w31 ((p34.add 0).add 0) fun x35 => bcase (decide (x33 ≤ x35)) (ldI .i64 w31 ((g1.add 8).add 0) fun x36 => optP a0 fun p37 => ldP w31 (p37.add 22) fun x38 => CallR Tryz.prog 54 #[.pointer x38] w31 fun v39 w40 => ∃ (y41 : Int), v39 = .int .i64 y41 ∧ (World.cell? w31 ((g1.add 8).add 0) = some (.int .i64 x36) ∧ World.cell? w40 ((g1.add 8).add 0) = some (.int .i64 x36)) ∧ Q (.bool (x36 == y41)) w40) (Q (.bool false) w31)) (Q (.bool false) w31)) (Q (.bool false) w25)) (Q (.bool false) w3)
def X50.S (Q : QT) : Segs
  | _, _, _, _ => False
noncomputable def X50.an : Ann := (.seq .leaf (.seq (.draw [0, 1, 0, 7, 15, 31, 63, 127, 255, 511, 1023, 511, 2559, 6655, 14847, 31231, 65535, 131071, 262143, 524287, 1048575, 524287, 2621439, 6815743, 15204351, 31981567, 67108863, 134217727, 268435455, 536870911, 1073741823, 2147483647, 536870911, 4831838207, 13421772799, 30601641983, 64961380351, 137438953471, 274877906943, 549755813887] [[0, 1, 2, 3, 4, 5, 6, 7, 8, 9, 10, 11, 12, 13, 14, 15, 16, 17, 18, 19, 20, 21, 22, 23, 24, 25, 26, 27, 28, 29, 30, 31, 32, 33, 34, 35, 36, 37, 38, 39]]) .leaf))
noncomputable def X50.c : Code := Tryz.f50.body.getD .skip
theorem X50.v (Q : QT) : V Tryz.prog (X50.S Q) X50.an X50.c (retC Tryz.prog Tryz.f50 Q) := ⟨trivial, ⟨trivial, trivial⟩⟩
theorem X50.sound (a0 : Option Addr) (a1_0 a1_1 a1_2 a1_3 a1_4 a1_5 a1_6 a1_7 a1_8 a1_9 : Int) (a1_10p : Option Addr) (a1_10n a1_10c : Nat) (a1_11 a1_12 a1_13 a1_14 a1_15 a1_16 a1_17 : Int) (a1_18p : Option Addr) (a1_18n a1_18c : Nat) (a2 : Int) (w : World) (Q : QT) (h : X50.f a0 a1_0 a1_1 a1_2 a1_3 a1_4 a1_5 a1_6 a1_7 a1_8 a1_9 a1_10p a1_10n a1_10c a1_11 a1_12 a1_13 a1_14 a1_15 a1_16 a1_17 a1_18p a1_18n a1_18c a2 w Q) : CallR Tryz.prog 50 #[.pointer a0, .agg #[.int .i64 a1_0, .int .i64 a1_1, .int .i64 a1_2, .int .u64 a1_3, .int .u64 a1_4, .int .i64 a1_5, .int .i64 a1_6, .int .i64 a1_7, .int .i64 a1_8, .int .u64 a1_9, .slice a1_10p a1_10n a1_10c, .int .u64 a1_11, .int .i64 a1_12, .int .u64 a1_13, .int .i64 a1_14, .int .u64 a1_15, .int .i64 a1_16, .int .u64 a1_17, .slice a1_18p a1_18n a1_18c], .int .i64 a2] w Q :=
  fn_sound noGr mixed Tryz.func50 (c := X50.c) (an := X50.an) (S := X50.S Q) (φ := fun _ => 0) (args := [.pointer a0, .agg #[.int .i64 a1_0, .int .i64 a1_1, .int .i64 a1_2, .int .u64 a1_3, .int .u64 a1_4, .int .i64 a1_5, .int .i64 a1_6, .int .i64 a1_7, .int .i64 a1_8, .int .u64 a1_9, .slice a1_10p a1_10n a1_10c, .int .u64 a1_11, .int .i64 a1_12, .int .u64 a1_13, .int .i64 a1_14, .int .u64 a1_15, .int .i64 a1_16, .int .u64 a1_17, .slice a1_18p a1_18n a1_18c], .int .i64 a2]) (by kernel_rfl) (by kernel_rfl) (by kernel_rfl) (X50.v Q) (Eq.mp (by kernel_rfl) h)
def X51.f (a0 : Int) (c0 : Addr) (w : World) (Q : QT) : Prop := newK w #[.int .i64 0, .int .i64 0, .int .i64 0, .int .u64 0, .int .u64 0, .int .i64 0, .int .i64 0, .int .i64 0, .int .i64 0, .int .u64 0, .slice none 0 0, .int .u64 0, .int .i64 0, .int .u64 0, .int .i64 0, .int .u64 0, .int .i64 0, .int .u64 0, .slice none 0 0] 41 fun g1 w2 => ldI .i64 w2 (c0.add 2) fun x3 => ldI .i64 w2 (c0.add 1) fun x4 => ldI .i64 w2 ((c0.add 8).add 0) fun x5 => ldI .u64 w2 ((c0.add 8).add 1) fun x6 => ldI .u64 w2 (c0.add 13) fun x7 => ldI .u64 w2 (c0.add 15) fun x8 => stAll w2 g1 [.int .i64 5, .int .i64 x3, .int .i64 x4, .int .u64 0, .int .u64 0, .int .i64 0, .int .i64 0, .int .i64 0, .int .i64 x5, .int .u64 x6, .slice none 0 0, .int .u64 0, .int .i64 a0, .int .u64 x7, .int .i64 0, .int .u64 x8, .int .i64 0, .int .u64 0, .slice none 0 0] fun w9 => ldI .i64 w9 (g1.add 0) fun x10 => ldI .i64 w9 (g1.add 1) fun x11 => ldI .i64 w9 (g1.add 2) fun x12 => ldI .u64 w9 (g1.add 3) fun x13 => ldI .u64 w9 (g1.add 4) fun x14 => ldI .i64 w9 (g1.add 5) fun x15 => ldI .i64 w9 (g1.add 6) fun x16 => ldI .i64 w9 (g1.add 7) fun x17 => ldI .i64 w9 (g1.add 8) fun x18 => ldI .u64 w9 (g1.add 9) fun x19 => ldSl w9 (g1.add 10) fun x20p x20n x20c => ldI .u64 w9 (g1.add 11) fun x21 => ldI .i64 w9 (g1.add 12) fun x22 => ldI .u64 w9 (g1.add 13) fun x23 => ldI .i64 w9 (g1.add 14) fun x24 => ldI .u64 w9 (g1.add 15) fun x25 => ldI .i64 w9 (g1.add 16) fun x26 => ldI .u64 w9 (g1.add 17) fun x27 => ldSl w9 (g1.add 18) fun x28p x28n x28c => Q (.agg #[.int .i64 x10, .int .i64 x11, .int .i64 x12, .int .u64 x13, .int .u64 x14, .int .i64 x15, .int .i64 x16, .int .i64 x17, .int .i64 x18, .int .u64 x19, .slice x20p x20n x20c, .int .u64 x21, .int .i64 x22, .int .u64 x23, .int .i64 x24, .int .u64 x25, .int .i64 x26, .int .u64 x27, .slice x28p x28n x28c]) w9
def X51.S (Q : QT) : Segs
  | _, _, _, _ => False
noncomputable def X51.an : Ann := (.seq .leaf (.seq .leaf .leaf))
noncomputable def X51.c : Code := Tryz.f51.body.getD .skip
theorem X51.v (Q : QT) : V Tryz.prog (X51.S Q) X51.an X51.c (retC Tryz.prog Tryz.f51 Q) := ⟨trivial, ⟨trivial, trivial⟩⟩
theorem X51.sound (a0 : Int) (c0 : Addr) (w : World) (Q : QT) (h : X51.f a0 c0 w Q) : CallR Tryz.prog 51 #[.int .i64 a0, .pointer (some c0)] w Q :=
  fn_sound noGr mixed Tryz.func51 (c := X51.c) (an := X51.an) (S := X51.S Q) (φ := fun _ => 0) (args := [.int .i64 a0, .pointer (some c0)]) (by kernel_rfl) (by kernel_rfl) (by kernel_rfl) (X51.v Q) (Eq.mp (by kernel_rfl) h)
def X42.f (a0 : Option Addr) (a1 : Int) (w : World) (Q : QT) : Prop := newK w #[.int .u64 0, .int .i64 0, .slice none 0 0, .slice none 0 0, .int .i64 0] 89 fun g1 w2 => optP a0 fun p3 => ldM w2 (p3.add 4) fun x4 => RunR Tryz.prog (Instr.lookup 101 (.map x4) (.int .u64 a1) false) w2 fun v5 w6 => ∃ (y7 : Option Addr), v5 = .pointer y7 ∧ bcase (Option.isNone y7) (stAll w6 g1 [.int .u64 0, .int .i64 0, .slice none 0 0, .slice none 0 0, .int .i64 0] fun w8 => ldI .u64 w8 (g1.add 0) fun x9 => ldI .i64 w8 (g1.add 1) fun x10 => ldSl w8 (g1.add 2) fun x11p x11n x11c => ldSl w8 (g1.add 3) fun x12p x12n x12c => ldI .i64 w8 (g1.add 4) fun x13 => Q (.tuple #[.agg #[.int .u64 x9, .int .i64 x10, .slice x11p x11n x11c, .slice x12p x12n x12c, .int .i64 x13], .bool false]) w8) (drewK w6 fun w14 => (optP y7 fun p15 => ldI .i64 w14 (p15.add 0) fun x16 => newK w14 #[] 37 fun g17 w18 => (World.cell? w14 (p15.add 0) = some (.int .i64 x16) ∧ World.cell? w18 (p15.add 0) = some (.int .i64 x16)) ∧ optP y7 fun p19 => ldSl w18 (p19.add 1) fun x20p x20n x20c => (World.cell? w14 (p19.add 1) = some (.slice x20p x20n x20c) ∧ World.cell? w18 (p19.add 1) = some (.slice x20p x20n x20c)) ∧ RunR Tryz.prog (Builtin.append_ #[38, 38] 38 #[.slice (some g17) 0 0, .slice x20p x20n x20c]) w18 fun v21 w22 => ∃ (s23p : Option Addr) (s23n s23c : Nat), v21 = .slice s23p s23n s23c ∧ (World.cell? w18 (p15.add 0) = some (.int .i64 x16) ∧ World.cell? w22 (p15.add 0) = some (.int .i64 x16)) ∧ newK w22 #[] 22 fun g24 w25 => (World.cell? w22 (p19.add 1) = some (.slice x20p x20n x20c) ∧ World.cell? w25 (p19.add 1) = some (.slice x20p x20n x20c)) ∧ (World.cell? w22 (p15.add 0) = some (.int .i64 x16) ∧ World.cell? w25 (p15.add 0) = some (.int .i64 x16)) ∧ optP y7 fun p26 => ldSl w25 (p26.add 2) fun x27p x27n x27c => (World.cell? w22 (p26.add 2) = some (.slice x27p x27n x27c) ∧ World.cell? w25 (p26.add 2) = some (.slice x27p x27n x27c)) ∧ (World.cell? w18 (p26.add 2) = some (.slice x27p x27n x27c) ∧ World.cell? w22 (p26.add 2) = some (.slice x27p x27n x27c)) ∧ (World.cell? w14 (p26.add 2) = some (.slice x27p x27n x27c) ∧ World.cell? w18 (p26.add 2) = some (.slice x27p x27n x27c)) ∧ RunR Tryz.prog (Builtin.append_ #[39, 39] 39 #[.slice (some g24) 0 0, .slice x27p x27n x27c]) w25 fun v28 w29 => ∃ (s30p : Option Addr) (s30n s30c : Nat), v28 = .slice s30p s30n s30c ∧ (World.cell? w25 (p15.add 0) = some (.int .i64 x16) ∧ World.cell? w29 (p15.add 0) = some (.int .i64 x16)) ∧ optP y7 fun p31 => ldI .i64 w29 (p31.add 3) fun x32 => (World.cell? w25 (p31.add 3) = some (.int .i64 x32) ∧ World.cell? w29 (p31.add 3) = some (.int .i64 x32)) ∧ (World.cell? w22 (p31.add 3) = some (.int .i64 x32) ∧ World.cell? w25 (p31.add 3) = some (.int .i64 x32)) ∧ (World.cell? w18 (p31.add 3) = some (.int .i64 x32) ∧ World.cell? w22 (p31.add 3) = some (.int .i64 x32)) ∧ (World.cell? w14 (p31.add 3) = some (.int .i64 x32) ∧ World.cell? w18 (p31.add 3) = some (.int .i64 x32)) ∧ stAll w29 g1 [.int .u64 a1, .int .i64 x16, .slice s23p s23n s23c, .slice s30p s30n s30c, .int .i64 x32] fun w33 => ldI .u64 w33 (g1.add 0) fun x34 => ldI .i64 w33 (g1.add 1) fun x35 => ldSl w33 (g1.add 2) fun x36p x36n x36c => ldSl w33 (g1.add 3) fun x37p x37n x37c => ldI .i64 w33 (g1.add 4) fun x38 => Q (.tuple #[.agg #[.int .u64 x34, .int .i64 x35, .slice x36p x36n x36c, .slice x37p x37n x37c, .int .i64 x38], .bool true]) w33) ∧ ((optP y7 fun p39 => ldI .i64 w14 (p39.add 0) fun x40 => newK w14 #[] 37 fun g41 w42 => (World.cell? w14 (p39.add 0) = some (.int .i64 x40) ∧ World.cell? w42 (p39.add 0) = some (.int .i64 x40)) ∧ optP y7 fun p43 => ldSl w42 (p43.add 1) fun x44p x44n x44c => (World.cell? w14 (p43.add 1) = some (.slice x44p x44n x44c) ∧ World.cell? w42 (p43.add 1) = some (.slice x44p x44n x44c)) ∧ newK w42 #[] 22 fun g45 w46 => (World.cell? w42 (p43.add 1) = some (.slice x44p x44n x44c) ∧ World.cell? w46 (p43.add 1) = some (.slice x44p x44n x44c)) ∧ (World.cell? w42 (p39.add 0) = some (.int .i64 x40) ∧ World.cell? w46 (p39.add 0) = some (.int .i64 x40)) ∧ RunR Tryz.prog (Builtin.append_ #[38, 38] 38 #[.slice (some g41) 0 0, .slice x44p x44n x44c]) w46 fun v47 w48 => ∃ (s49p : Option Addr) (s49n s49c : Nat), v47 = .slice s49p s49n s49c ∧ (World.cell? w46 (p39.add 0) = some (.int .i64 x40) ∧ World.cell? w48 (p39.add 0) = some (.int .i64 x40)) ∧ optP y7 fun p50 => ldSl w48 (p50.add 2) fun x51p x51n x51c => (World.cell? w46 (p50.add 2) = some (.slice x51p x51n x51c) ∧ World.cell? w48 (p50.add 2) = some (.slice x51p x51n x51c)) ∧ (World.cell? w42 (p50.add 2) = some (.slice x51p x51n x51c) ∧ World.cell? w46 (p50.add 2) = some (.slice x51p x51n x51c)) ∧ (World.cell? w14 (p50.add 2) = some (.slice x51p x51n x51c) ∧ World.cell? w42 (p50.add 2) = some (.slice x51p x51n x51c)) ∧ RunR Tryz.prog (Builtin.append_ #[39, 39] 39 #[.slice (some g45) 0 0, .slice x51p x51n x51c]) w48 fun v52 w53 => ∃ (s54p : Option Addr) (s54n s54c : Nat), v52 = .slice s54p s54n s54c ∧ (World.cell? w48 (p39.add 0) = some (.int .i64 x40) ∧ World.cell? w53 (p39.add 0) = some (.int .i64 x40)) ∧ optP y7 fun p55 => ldI .i64 w53 (p55.add 3) fun x56 => (World.cell? w48 (p55.add 3) = some (.int .i64 x56) ∧ World.cell? w53 (p55.add 3) = some (.int .i64 x56)) ∧ (World.cell? w46 (p55.add 3) = some (.int .i64 x56) ∧ World.cell? w48 (p55.add 3) = some (.int .i64 x56)) ∧ (World.cell? w42 (p55.add 3) = some (.int .i64 x56) ∧ World.cell? w46 (p55.add 3) = some (.int .i64 x56)) ∧ (World.cell? w14 (p55.add 3) = some (.int .i64 x56) ∧ World.cell? w42 (p55.add 3) = some (.int .i64 x56)) ∧ stAll w53 g1 [.int .u64 a1, .int .i64 x40, .slice s49p s49n s49c, .slice s54p s54n s54c, .int .i64 x56] fun w57 => ldI .u64 w57 (g1.add 0) fun x58 => ldI .i64 w57 (g1.add 1) fun x59 => ldSl w57 (g1.add 2) fun x60p x60n x60c => ldSl w57 (g1.add 3) fun x61p x61n x61c => ldI .i64 w57 (g1.add 4) fun x62 => Q (.tuple #[.agg #[.int .u64 x58, .int .i64 x59, .slice x60p x60n x60c, .slice x61p x61n x61c, .int .i64 x62], .bool true]) w57) ∧ (optP y7 fun p63 => ldI .i64 w14 (p63.add 0) fun x64 => optP y7 fun p65 => ldSl w14 (p65.add 1) fun x66p x66n x66c => newK w14 #[] 22 fun g67 w68 => (World.cell? w14 (p65.add 1) = some (.slice x66p x66n x66c) ∧ World.cell? w68 (p65.add 1) = some (.slice x66p x66n x66c)) ∧ (World.cell? w14 (p63.add 0) = some (.int .i64 x64) ∧ World.cell? w68 (p63.add 0) = some (.int .i64 x64)) ∧ newK w68 #[] 37 fun g69 w70 => (World.cell? w68 (p65.add 1) = some (.slice x66p x66n x66c) ∧ World.cell? w70 (p65.add 1) = some (.slice x66p x66n x66c)) ∧ (World.cell? w68 (p63.add 0) = some (.int .i64 x64) ∧ World.cell? w70 (p63.add 0) = some (.int .i64 x64)) ∧ RunR Tryz.prog (Builtin.append_ #[38, 38] 38 #[.slice (some g69) 0 0, .slice x66p x66n x66c]) w70 fun v71 w72 => ∃ (s73p : Option Addr) (s73n s73c : Nat), v71 = .slice s73p s73n s73c ∧ (World.cell? w70 (p63.add 0) = some (.int .i64 x64) ∧ World.cell? w72 (p63.add 0) = some (.int .i64 x64)) ∧ optP y7 fun p74 => ldSl w72 (p74.add 2) fun x75p x75n x75c => (World.cell? w70 (p74.add 2) = some (.slice x75p x75n x75c) ∧ World.cell? w72 (p74.add 2) = some (.slice x75p x75n x75c)) ∧ (World.cell? w68 (p74.add 2) = some (.slice x75p x75n x75c) ∧ World.cell? w70 (p74.add 2) = some (.slice x75p x75n x75c)) ∧ (World.cell? w14 (p74.add 2) = some (.slice x75p x75n x75c) ∧ World.cell? w68 (p74.add 2) = some (.slice x75p x75n x75c)) ∧ RunR Tryz.prog (Builtin.append_ #[39, 39] 39 #[.slice (some g67) 0 0, .slice x75p x75n x75c]) w72 fun v76 w77 => ∃ (s78p : Option Addr) (s78n s78c : Nat), v76 = .slice s78p s78n s78c ∧ (World.cell? w72 (p63.add 0) = some (.int .i64 x64) ∧ World.cell? w77 (p63.add 0) = some (.int .i64 x64)) ∧ optP y7 fun p79 => ldI .i64 w77 (p79.add 3) fun x80 => (World.cell? w72 (p79.add 3) = some (.int .i64 x80) ∧ World.cell? w77 (p79.add 3) = some (.int .i64 x80)) ∧ (World.cell? w70 (p79.add 3) = some (.int .i64 x80) ∧ World.cell? w72 (p79.add 3) = some (.int .i64 x80)) ∧ (World.cell? w68 (p79.add 3) = some (.int .i64 x80) ∧ World.cell? w70 (p79.add 3) = some (.int .i64 x80)) ∧ (World.cell? w14 (p79.add 3) = some (.int .i64 x80) ∧ World.cell? w68 (p79.add 3) = some (.int .i64 x80)) ∧ stAll w77 g1 [.int .u64 a1, .int .i64 x64, .slice s73p s73n s73c, .slice s78p s78n s78c, .int .i64 x80] fun w81 => ldI .u64 w81 (g1.add 0) fun x82 => ldI .i64 w81 (g1.add 1) fun x83 => ldSl w81 (g1.add 2) fun x84p x84n x84c => ldSl w81 (g1.add 3) fun x85p x85n x85c => ldI .i64 w81 (g1.add 4) fun x86 => Q (.tuple #[.agg #[.int .u64 x82, .int .i64 x83, .slice x84p x84n x84c, .slice x85p x85n x85c, .int .i64 x86], .bool true]) w81)))
def X42.S (Q : QT) : Segs
  | _, _, _, _ => False
noncomputable def X42.an : Ann := (.seq .leaf (.seq .leaf (.seq (.seq .leaf (.cond (.seq .leaf .leaf) .leaf)) (.seq (.draw [0, 0, 2, 6, 14, 0, 0, 64, 192, 448, 992, 0, 0, 4096, 12288, 28672, 65504, 0, 131072, 393216, 917504, 2097151, 4194303, 8388607] [[0, 1, 2, 3, 4, 5, 6, 7, 8, 9, 10, 11, 12, 13, 14, 15, 16, 17, 18, 19, 20, 21, 22, 23], [0, 1, 2, 3, 4, 5, 6, 7, 8, 9, 11, 10, 12, 13, 14, 15, 16, 17, 18, 19, 20, 21, 22, 23], [0, 1, 2, 3, 4, 6, 7, 8, 9, 11, 5, 10, 12, 13, 14, 15, 16, 17, 18, 19, 20, 21, 22, 23]]) .leaf))))
noncomputable def X42.c : Code := Tryz.f42.body.getD .skip
theorem X42.v (Q : QT) : V Tryz.prog (X42.S Q) X42.an X42.c (retC Tryz.prog Tryz.f42 Q) := ⟨trivial, ⟨trivial, ⟨⟨trivial, ⟨⟨trivial, trivial⟩, trivial⟩⟩, ⟨trivial, trivial⟩⟩⟩⟩
theorem X42.sound (a0 : Option Addr) (a1 : Int) (w : World) (Q : QT) (h : X42.f a0 a1 w Q) : CallR Tryz.prog 42 #[.pointer a0, .int .u64 a1] w Q :=
  fn_sound noGr mixed Tryz.func42 (c := X42.c) (an := X42.an) (S := X42.S Q) (φ := fun _ => 0) (args := [.pointer a0, .int .u64 a1]) (by kernel_rfl) (by kernel_rfl) (by kernel_rfl) (X42.v Q) (Eq.mp (by kernel_rfl) h)
def X52.f (a0 a1 : Int) (w : World) (Q : QT) : Prop := 0 ≤ (7 : Int) ∧ Q (.int .u64 (iOr .u64 (iShl .u64 a0 (7 : Int)) (IntKind.wrap .u64 a1))) w
def X52.S (Q : QT) : Segs
  | _, _, _, _ => False
noncomputable def X52.an : Ann := (.seq .leaf (.seq .leaf .leaf))
noncomputable def X52.c : Code := Tryz.f52.body.getD .skip
theorem X52.v (Q : QT) : V Tryz.prog (X52.S Q) X52.an X52.c (retC Tryz.prog Tryz.f52 Q) := ⟨trivial, ⟨trivial, trivial⟩⟩
theorem X52.sound (a0 a1 : Int) (w : World) (Q : QT) (h : X52.f a0 a1 w Q) : CallR Tryz.prog 52 #[.int .u64 a0, .int .i64 a1] w Q :=
  fn_sound noGr mixed Tryz.func52 (c := X52.c) (an := X52.an) (S := X52.S Q) (φ := fun _ => 0) (args := [.int .u64 a0, .int .i64 a1]) (by kernel_rfl) (by kernel_rfl) (by kernel_rfl) (X52.v Q) (Eq.mp (by kernel_rfl) h)
def X53.f (c0 c1 c2 c3 : Addr) (w : World) (Q : QT) : Prop := drewK w fun w1 => ldI .i64 w1 (c0.add 14) fun x2 => ldP w1 c1 fun x3 => optP x3 fun p4 => ldP w1 (p4.add 22) fun x5 => CallR Tryz.prog 54 #[.pointer x5] w1 fun v6 w7 => ∃ (y8 : Int), v6 = .int .i64 y8 ∧ (World.cell? w1 (c0.add 14) = some (.int .i64 x2) ∧ World.cell? w7 (c0.add 14) = some (.int .i64 x2)) ∧ bcase (x2 == y8) (ldB w7 c2 fun x9 => Q (.bool x9) w7) (drewK w7 fun w10 => (ldP w10 c1 fun x11 => optP x11 fun p12 => ldP w10 (p12.add 23) fun x13 => ldI .u64 w10 c3 fun x14 => ldI .i64 w10 (c0.add 14) fun x15 => CallR Tryz.prog 52 #[.int .u64 x14, .int .i64 x15] w10 fun v16 w17 => ∃ (y18 : Int), v16 = .int .u64 y18 ∧ (World.cell? w10 (p12.add 23) = some (.pointer x13) ∧ World.cell? w17 (p12.add 23) = some (.pointer x13)) ∧ (World.cell? w10 c1 = some (.pointer x11) ∧ World.cell? w17 c1 = some (.pointer x11)) ∧ CallR Tryz.prog 48 #[.pointer x13, .int .u64 y18] w17 fun v19 w20 => ∃ (y21 y22 : Int) (y23 : Bool) (y24 y25 y26 : Int) (y27 : Bool), v19 = .tuple #[.agg #[.int .u64 y21, .int .i64 y22, .bool y23, .int .u64 y24, .int .u64 y25, .int .i64 y26], .bool y27] ∧ newK w20 #[.int .u64 0, .int .i64 0, .bool false, .int .u64 0, .int .u64 0, .int .i64 0] 52 fun g28 w29 => (World.cell? w20 (c0.add 14) = some (.int .i64 x15) ∧ World.cell? w29 (c0.add 14) = some (.int .i64 x15)) ∧ (World.cell? w20 c3 = some (.int .u64 x14) ∧ World.cell? w29 c3 = some (.int .u64 x14)) ∧ (World.cell? w20 (p12.add 23) = some (.pointer x13) ∧ World.cell? w29 (p12.add 23) = some (.pointer x13)) ∧ (World.cell? w20 c1 = some (.pointer x11) ∧ World.cell? w29 c1 = some (.pointer x11)) ∧ stAll w29 g28 [.int .u64 y21, .int .i64 y22, .bool y23, .int .u64 y24, .int .u64 y25, .int .i64 y26] fun w30 => bcase y27 (ldB w30 (g28.add 2) fun x31 => Q (.bool x31) w30) (Q (.bool false) w30)) ∧ ((ldP w10 c1 fun x32 => optP x32 fun p33 => ldP w10 (p33.add 23) fun x34 => ldI .u64 w10 c3 fun x35 => ldI .i64 w10 (c0.add 14) fun x36 => CallR Tryz.prog 52 #[.int .u64 x35, .int .i64 x36] w10 fun v37 w38 => ∃ (y39 : Int), v37 = .int .u64 y39 ∧ (World.cell? w10 (p33.add 23) = some (.pointer x34) ∧ World.cell? w38 (p33.add 23) = some (.pointer x34)) ∧ (World.cell? w10 c1 = some (.pointer x32) ∧ World.cell? w38 c1 = some (.pointer x32)) ∧ newK w38 #[.int .u64 0, .int .i64 0, .bool false, .int .u64 0, .int .u64 0, .int .i64 0] 52 fun g40 w41 => (World.cell? w38 (c0.add 14) = some (.int .i64 x36) ∧ World.cell? w41 (c0.add 14) = some (.int .i64 x36)) ∧ (World.cell? w38 c3 = some (.int .u64 x35) ∧ World.cell? w41 c3 = some (.int .u64 x35)) ∧ (World.cell? w38 (p33.add 23) = some (.pointer x34) ∧ World.cell? w41 (p33.add 23) = some (.pointer x34)) ∧ (World.cell? w38 c1 = some (.pointer x32) ∧ World.cell? w41 c1 = some (.pointer x32)) ∧ CallR Tryz.prog 48 #[.pointer x34, .int .u64 y39] w41 fun v42 w43 => ∃ (y44 y45 : Int) (y46 : Bool) (y47 y48 y49 : Int) (y50 : Bool), v42 = .tuple #[.agg #[.int .u64 y44, .int .i64 y45, .bool y46, .int .u64 y47, .int .u64 y48, .int .i64 y49], .bool y50] ∧ stAll w43 g40 [.int .u64 y44, .int .i64 y45, .bool y46, .int .u64 y47, .int .u64 y48, .int .i64 y49] fun w51 => bcase y50 (ldB w51 (g40.add 2) fun x52 => Q (.bool x52) w51) (Q (.bool false) w51)) ∧ (ldP w10 c1 fun x53 => optP x53 fun p54 => ldP w10 (p54.add 23) fun x55 => ldI .u64 w10 c3 fun x56 => ldI .i64 w10 (c0.add 14) fun x57 => newK w10 #[.int .u64 0, .int .i64 0, .bool false, .int .u64 0, .int .u64 0, .int .i64 0] 52 fun g58 w59 => (World.cell? w10 (c0.add 14) = some (.int .i64 x57) ∧ World.cell? w59 (c0.add 14) = some (.int .i64 x57)) ∧ (World.cell? w10 c3 = some (.int .u64 x56) ∧ World.cell? w59 c3 = some (.int .u64 x56)) ∧ (World.cell? w10 (p54.add 23) = some (.pointer x55) ∧ World.cell? w59 (p54.add 23) = some (.pointer x55)) ∧ (World.cell? w10 c1 = some (.pointer x53) ∧ World.cell? w59 c1 = some (.pointer x53)) ∧ CallR Tryz.prog 52 #[.int .u64 x56, .int .i64 x57] w59 fun v60 w61 => ∃ (y62 : Int), v60 = .int .u64 y62 ∧ (World.cell? w59 (p54.add 23) = some (.pointer x55) ∧ World.cell? w61 (p54.add 23) = some (.pointer x55)) ∧ (World.cell? w59 c1 = some (.pointer x53) ∧ World.cell? w61 c1 = some (.pointer x53)) ∧ CallR Tryz.prog 48 #[.pointer x55, .int .u64 y62] w61 fun v63 w64 => ∃ (y65 y66 : Int) (y67 : Bool) (y68 y69 y70 : Int) (y71 : Bool), v63 = .tuple #[.agg #[.int .u64 y65, .int .i64 y66, .bool y67, .int .u64 y68, .int .u64 y69, .int .i64 y70], .bool y71] ∧ stAll w64 g58 [.int .u64 y65, .int .i64 y66, .bool y67, .int .u64 y68, .int .u64 y69, .int .i64 y70] fun w72 => bcase y71 (ldB w72 (g58.add 2) fun x73 => Q (.bool x73) w72) (Q (.bool false) w72))))
def X53.S (Q : QT) : Segs
  | _, _, _, _ => False
noncomputable def X53.an : Ann := (.seq .leaf (.seq (.seq (.draw [0, 1, 0, 4, 12, 28, 60, 127] [[0, 1, 2, 3, 4, 5, 6, 7]]) (.cond (.seq .leaf .leaf) .leaf)) (.seq (.draw [0, 1, 3, 7, 0, 0, 32, 112, 255, 511, 1023, 1023, 0, 6143, 16383] [[0, 1, 2, 3, 4, 5, 6, 7, 8, 9, 10, 11, 12, 13, 14], [0, 1, 2, 3, 4, 5, 6, 7, 12, 8, 9, 10, 11, 13, 14], [0, 1, 2, 3, 4, 5, 6, 12, 7, 8, 9, 10, 11, 13, 14]]) (.seq .leaf .leaf))))
noncomputable def X53.c : Code := Tryz.f53.body.getD .skip
theorem X53.v (Q : QT) : V Tryz.prog (X53.S Q) X53.an X53.c (retC Tryz.prog Tryz.f53 Q) := ⟨trivial, ⟨⟨trivial, ⟨⟨trivial, trivial⟩, trivial⟩⟩, ⟨trivial, ⟨trivial, trivial⟩⟩⟩⟩
theorem X53.sound (c0 c1 c2 c3 : Addr) (w : World) (Q : QT) (h : X53.f c0 c1 c2 c3 w Q) : CallR Tryz.prog 53 #[.pointer (some c0), .pointer (some c1), .pointer (some c2), .pointer (some c3)] w Q :=
  fn_sound noGr mixed Tryz.func53 (c := X53.c) (an := X53.an) (S := X53.S Q) (φ := fun _ => 0) (args := [.pointer (some c0), .pointer (some c1), .pointer (some c2), .pointer (some c3)]) (by kernel_rfl) (by kernel_rfl) (by kernel_rfl) (X53.v Q) (Eq.mp (by kernel_rfl) h)
def X54.f (a0 : Option Addr) (w : World) (Q : QT) : Prop := optP a0 fun p1 => ldI .i64 w (p1.add 0) fun x2 => Q (.int .i64 x2) w
def X54.S (Q : QT) : Segs
  | _, _, _, _ => False
noncomputable def X54.an : Ann := (.seq .leaf (.seq .leaf .leaf))
noncomputable def X54.c : Code := Tryz.f54.body.getD .skip
theorem X54.v (Q : QT) : V Tryz.prog (X54.S Q) X54.an X54.c (retC Tryz.prog Tryz.f54 Q) := ⟨trivial, ⟨trivial, trivial⟩⟩
theorem X54.sound (a0 : Option Addr) (w : World) (Q : QT) (h : X54.f a0 w Q) : CallR Tryz.prog 54 #[.pointer a0] w Q :=
  fn_sound noGr mixed Tryz.func54 (c := X54.c) (an := X54.an) (S := X54.S Q) (φ := fun _ => 0) (args := [.pointer a0]) (by kernel_rfl) (by kernel_rfl) (by kernel_rfl) (X54.v Q) (Eq.mp (by kernel_rfl) h)
def X55.f (a0 : Option Addr) (a1_0 a1_1 : Int) (a1_2 : Bool) (a1_3 a1_4 a1_5 : Int) (w : World) (Q : QT) : Prop := newK w #[.int .u64 a1_0, .int .i64 a1_1, .bool a1_2, .int .u64 a1_3, .int .u64 a1_4, .int .i64 a1_5] 52 fun g1 w2 => drewK w2 fun w3 => optP a0 fun p4 => ldP w3 (p4.add 23) fun x5 => ldI .u64 w3 (g1.add 0) fun x6 => ldI .i64 w3 (g1.add 1) fun x7 => CallR Tryz.prog 52 #[.int .u64 x6, .int .i64 x7] w3 fun v8 w9 => ∃ (y10 : Int), v8 = .int .u64 y10 ∧ (World.cell? w3 (p4.add 23) = some (.pointer x5) ∧ World.cell? w9 (p4.add 23) = some (.pointer x5)) ∧ ldI .u64 w9 (g1.add 0) fun x11 => ldI .i64 w9 (g1.add 1) fun x12 => ldB w9 (g1.add 2) fun x13 => ldI .u64 w9 (g1.add 3) fun x14 => ldI .u64 w9 (g1.add 4) fun x15 => ldI .i64 w9 (g1.add 5) fun x16 => ((∀ j u, ([.int .u64 x11, .int .i64 x12, .bool x13, .int .u64 x14, .int .u64 x15, .int .i64 x16] : List Value)[j]? = some u → World.cell? w3 (g1.add j) = some u) ∧ (∀ j u, ([.int .u64 x11, .int .i64 x12, .bool x13, .int .u64 x14, .int .u64 x15, .int .i64 x16] : List Value)[j]? = some u → World.cell? w9 (g1.add j) = some u)) ∧ CallR Tryz.prog 82 #[.pointer x5, .int .u64 y10, .agg #[.int .u64 x11, .int .i64 x12, .bool x13, .int .u64 x14, .int .u64 x15, .int .i64 x16]] w9 fun v17 w18 => ∃ (y19 : Bool), v17 = .bool y19 ∧ ldI .u64 w18 (g1.add 0) fun x20 => CallR Tryz.prog 73 #[.pointer a0, .int .u64 x20] w18 fun v21 w22 => v21 = .tuple #[] ∧ Q (.tuple #[]) w22
def X55.S (Q : QT) : Segs
  | _, _, _, _ => False
noncomputable def X55.an : Ann := (.seq .leaf (.seq (.draw [0, 1, 3, 7, 0, 16, 0, 64, 240, 0, 1023] [[0, 1, 2, 3, 4, 5, 6, 7, 8, 9, 10]]) .leaf))
noncomputable def X55.c : Code := Tryz.f55.body.getD .skip
theorem X55.v (Q : QT) : V Tryz.prog (X55.S Q) X55.an X55.c (retC Tryz.prog Tryz.f55 Q) := ⟨trivial, ⟨trivial, trivial⟩⟩
theorem X55.sound (a0 : Option Addr) (a1_0 a1_1 : Int) (a1_2 : Bool) (a1_3 a1_4 a1_5 : Int) (w : World) (Q : QT) (h : X55.f a0 a1_0 a1_1 a1_2 a1_3 a1_4 a1_5 w Q) : CallR Tryz.prog 55 #[.pointer a0, .agg #[.int .u64 a1_0, .int .i64 a1_1, .bool a1_2, .int .u64 a1_3, .int .u64 a1_4, .int .i64 a1_5]] w Q :=
  fn_sound noGr mixed Tryz.func55 (c := X55.c) (an := X55.an) (S := X55.S Q) (φ := fun _ => 0) (args := [.pointer a0, .agg #[.int .u64 a1_0, .int .i64 a1_1, .bool a1_2, .int .u64 a1_3, .int .u64 a1_4, .int .i64 a1_5]]) (by kernel_rfl) (by kernel_rfl) (by kernel_rfl) (X55.v Q) (Eq.mp (by kernel_rfl) h)
def X49.j1 (Q : QT) (b0 : Option Addr → Int → Option Addr → Nat → Nat → Int → Bool → World → Prop) (t0 : Option Addr) (t1 : Int) (t5p : Option Addr) (t5n t5c : Nat) (t6 : Int) (w : World) : Prop := optP t0 fun p1 => ldP w (p1.add 23) fun x2 => CallR Tryz.prog 48 #[.pointer x2, .int .u64 t6] w fun v3 w4 => ∃ (y5 y6 : Int) (y7 : Bool) (y8 y9 y10 : Int) (y11 : Bool), v3 = .tuple #[.agg #[.int .u64 y5, .int .i64 y6, .bool y7, .int .u64 y8, .int .u64 y9, .int .i64 y10], .bool y11] ∧ newK w4 #[.int .u64 0, .int .i64 0, .bool false, .int .u64 0, .int .u64 0, .int .i64 0] 52 fun g12 w13 => stAll w13 g12 [.int .u64 y5, .int .i64 y6, .bool y7, .int .u64 y8, .int .u64 y9, .int .i64 y10] fun w14 => ldI .u64 w14 (g12.add 0) fun x15 => ldI .i64 w14 (g12.add 1) fun x16 => ldB w14 (g12.add 2) fun x17 => ldI .u64 w14 (g12.add 3) fun x18 => ldI .u64 w14 (g12.add 4) fun x19 => ldI .i64 w14 (g12.add 5) fun x20 => newK w14 #[.int .u64 x15, .int .i64 x16, .bool x17, .int .u64 x18, .int .u64 x19, .int .i64 x20] 52 fun g21 w22 => RunR Tryz.prog (Builtin.append_ #[47, 47] 47 #[.slice t5p t5n t5c, .slice (some g21) 1 1]) w22 fun v23 w24 => ∃ (s25p : Option Addr) (s25n s25c : Nat), v23 = .slice s25p s25n s25c ∧ optP t0 fun p26 => ldP w24 (p26.add 23) fun x27 => CallR Tryz.prog 80 #[.pointer x27, .int .u64 t6] w24 fun v28 w29 => ∃ (y30 : Int) (y31 : Bool), v28 = .tuple #[.int .u64 y30, .bool y31] ∧ b0 t0 t1 s25p s25n s25c y30 y31 w29
def X49.l0 (Q : QT) : Nat → (Option Addr) → Int → (Option Addr) → Nat → Nat → Int → Bool → World → Prop
  | 0, _, _, _, _, _, _, _, _ => False
  | k + 1, t0, t1, t5p, t5n, t5c, t6, t7, w => bcase t7 (0 ≤ (7 : Int) ∧ bcase ((iShr .u64 t6 (7 : Int)) == t1) (X49.j1 Q (X49.l0 Q k) t0 t1 t5p t5n t5c t6 w) (Q (.slice t5p t5n t5c) w)) (Q (.slice t5p t5n t5c) w)
def X49.f (a0 : Option Addr) (a1 : Int) (w : World) (Q : QT) : Prop := drewK w fun w1 => optP a0 fun p2 => ldP w1 (p2.add 23) fun x3 => CallR Tryz.prog 52 #[.int .u64 a1, .int .i64 0] w1 fun v4 w5 => ∃ (y6 : Int), v4 = .int .u64 y6 ∧ (World.cell? w1 (p2.add 23) = some (.pointer x3) ∧ World.cell? w5 (p2.add 23) = some (.pointer x3)) ∧ CallR Tryz.prog 80 #[.pointer x3, .int .u64 y6] w5 fun v7 w8 => ∃ (y9 : Int) (y10 : Bool), v7 = .tuple #[.int .u64 y9, .bool y10] ∧ ∃ m11, X49.l0 Q m11 a0 a1 none 0 0 y9 y10 w8
def X49.S (Q : QT) : Segs
  | 0, φ, ρ, w => qP (ρ 0) fun t0 => qI .u64 (ρ 1) fun t1 => qSl (ρ 5) fun t5p t5n t5c => qI .u64 (ρ 6) fun t6 => qB (ρ 7) fun t7 => X49.l0 Q (φ 0) t0 t1 t5p t5n t5c t6 t7 w
  | 1, φ, ρ, w => qP (ρ 0) fun t0 => qI .u64 (ρ 1) fun t1 => qSl (ρ 5) fun t5p t5n t5c => qI .u64 (ρ 6) fun t6 => X49.j1 Q (X49.l0 Q (φ 0)) t0 t1 t5p t5n t5c t6 w
  | _, _, _, _ => False
noncomputable def X49.an : Ann := (.seq .leaf (.seq .leaf (.seq (.seq (.draw [0, 1, 3, 7, 0, 16, 63, 127, 255, 255, 511, 2047] [[0, 1, 2, 3, 4, 5, 6, 7, 8, 9, 10, 11]]) (.block (.loop 0 (.seq (.seq .leaf (.cond .leaf .leaf)) (.join 1 (.seq (.block (.seq .leaf .leaf)) .leaf)))))) (.seq .leaf .leaf))))
noncomputable def X49.c : Code := Tryz.f49.body.getD .skip
theorem X49.v (Q : QT) : V Tryz.prog (X49.S Q) X49.an X49.c (retC Tryz.prog Tryz.f49 Q) := ⟨trivial, ⟨trivial, ⟨⟨trivial, ⟨(by
    intro φ ρ w h
    simp only [X49.S] at h
    obtain ⟨t0, e0, h⟩ := qP_elim h
    obtain ⟨t1, e1, h⟩ := qI_elim h
    obtain ⟨t5p, t5n, t5c, e5, h⟩ := qSl_elim h
    obtain ⟨t6, e6, h⟩ := qI_elim h
    obtain ⟨t7, e7, h⟩ := qB_elim h
    cases hk : φ 0 with
    | zero => rw [hk] at h; exact h.elim
    | succ k => rw [hk] at h; exact ⟨k, Nat.lt_succ_self k, (((((Env.nil.put (some 0) (.pointer t0)).put (some 1) (.int .u64 t1)).put (some 5) (.slice t5p t5n t5c)).put (some 6) (.int .u64 t6)).put (some 7) (.bool t7)), Env.le_put e7 (Env.le_put e6 (Env.le_put e5 (Env.le_put e1 (Env.le_put e0 (Env.le_nil _))))), Eq.mp (by kernel_rfl) h⟩), ⟨⟨trivial, ⟨trivial, trivial⟩⟩, ⟨(by
    intro φ ρ w h
    simp only [X49.S] at h
    obtain ⟨t0, e0, h⟩ := qP_elim h
    obtain ⟨t1, e1, h⟩ := qI_elim h
    obtain ⟨t5p, t5n, t5c, e5, h⟩ := qSl_elim h
    obtain ⟨t6, e6, h⟩ := qI_elim h
    exact ⟨((((Env.nil.put (some 0) (.pointer t0)).put (some 1) (.int .u64 t1)).put (some 5) (.slice t5p t5n t5c)).put (some 6) (.int .u64 t6)), Env.le_put e6 (Env.le_put e5 (Env.le_put e1 (Env.le_put e0 (Env.le_nil _)))), Eq.mp (by kernel_rfl) h⟩), ⟨⟨trivial, trivial⟩, trivial⟩⟩⟩⟩⟩, ⟨trivial, trivial⟩⟩⟩⟩
theorem X49.sound (a0 : Option Addr) (a1 : Int) (w : World) (Q : QT) (h : X49.f a0 a1 w Q) : CallR Tryz.prog 49 #[.pointer a0, .int .u64 a1] w Q :=
  fn_sound noGr mixed Tryz.func49 (c := X49.c) (an := X49.an) (S := X49.S Q) (φ := fun _ => 0) (args := [.pointer a0, .int .u64 a1]) (by kernel_rfl) (by kernel_rfl) (by kernel_rfl) (X49.v Q) (Eq.mp (by kernel_rfl) h)
def X70.f (a0 a1 a2 : Int) (w : World) (Q : QT) : Prop := bcase (decide (a2 ≥ a0)) (Q (.bool (decide ((IntKind.wrap .u64 (a2 - a0)) ≥ a1))) w) (Q (.bool false) w)
def X70.S (Q : QT) : Segs
  | _, _, _, _ => False
noncomputable def X70.an : Ann := (.seq .leaf (.seq .leaf .leaf))
noncomputable def X70.c : Code := Tryz.f70.body.getD .skip
theorem X70.v (Q : QT) : V Tryz.prog (X70.S Q) X70.an X70.c (retC Tryz.prog Tryz.f70 Q) := ⟨trivial, ⟨trivial, trivial⟩⟩
theorem X70.sound (a0 a1 a2 : Int) (w : World) (Q : QT) (h : X70.f a0 a1 a2 w Q) : CallR Tryz.prog 70 #[.int .u64 a0, .int .u64 a1, .int .u64 a2] w Q :=
  fn_sound noGr mixed Tryz.func70 (c := X70.c) (an := X70.an) (S := X70.S Q) (φ := fun _ => 0) (args := [.int .u64 a0, .int .u64 a1, .int .u64 a2]) (by kernel_rfl) (by kernel_rfl) (by kernel_rfl) (X70.v Q) (Eq.mp (by kernel_rfl) h)
def X62.j0 (Q : QT) (t1 : Addr) (t3 t4 t5 t6 : Bool) (w : World) : Prop := bcase t3 (bcase t4 (bcase t5 (bcase t6 (ldI .i64 w (t1.add 17) fun x1 => CallR Tryz.prog 87 #[.int .i64 x1, .int .i64 38] w fun v2 w3 => ∃ (y4 : Bool), v2 = .bool y4 ∧ bcase y4 (ldI .i64 w3 (t1.add 18) fun x5 => ldI .i64 w3 (t1.add 17) fun x6 => bcase (decide (x5 > x6)) (ldI .i64 w3 (t1.add 18) fun x7 => bcase (decide (x7 < (40 : Int))) (ldI .i64 w3 (t1.add 19) fun x8 => CallR Tryz.prog 87 #[.int .i64 x8, .int .i64 64] w3 fun v9 w10 => ∃ (y11 : Bool), v9 = .bool y11 ∧ bcase y11 (ldI .u64 w10 (t1.add 20) fun x12 => bcase (decide (x12 ≤ (4611686018427387904 : Int))) (ldI .u64 w10 (t1.add 21) fun x13 => Q (.bool (decide (x13 ≤ (72057594037927935 : Int)))) w10) (Q (.bool false) w10)) (Q (.bool false) w10)) (Q (.bool false) w3)) (Q (.bool false) w3)) (Q (.bool false) w3)) (Q (.bool false) w)) (Q (.bool false) w)) (Q (.bool false) w)) (Q (.bool false) w)
def X62.j1 (Q : QT) (t1 : Addr) (t3 t4 t5 : Bool) (w : World) : Prop := ldI .u64 w (t1.add 14) fun x1 => bcase (decide (x1 ≥ (1 : Int))) (ldI .u64 w (t1.add 14) fun x2 => ldI .u64 w (t1.add 15) fun x3 => bcase (decide (x2 ≤ x3)) (ldI .u64 w (t1.add 15) fun x4 => bcase (decide (x4 ≤ (4294967295 : Int))) (ldI .u64 w (t1.add 16) fun x5 => bcase (decide (x5 ≥ (1 : Int))) (ldI .u64 w (t1.add 16) fun x6 => X62.j0 Q t1 t3 t4 t5 (decide (x6 ≤ (4294967295 : Int))) w) (X62.j0 Q t1 t3 t4 t5 false w)) (X62.j0 Q t1 t3 t4 t5 false w)) (X62.j0 Q t1 t3 t4 t5 false w)) (X62.j0 Q t1 t3 t4 t5 false w)
def X62.j2 (Q : QT) (t1 : Addr) (t3 t4 : Bool) (w : World) : Prop := ldI .u64 w (t1.add 11) fun x1 => bcase (decide (x1 ≥ (1 : Int))) (ldI .u64 w (t1.add 11) fun x2 => bcase (decide (x2 ≤ (1048576 : Int))) (ldI .u64 w (t1.add 12) fun x3 => ldI .u64 w (t1.add 11) fun x4 => bcase (decide (x3 < x4)) (ldI .u64 w (t1.add 13) fun x5 => bcase (decide (x5 ≤ (4294967295 : Int))) (ldI .u64 w (t1.add 13) fun x6 => ldI .u64 w (t1.add 11) fun x7 => ldI .u64 w (t1.add 12) fun x8 => ldI .u64 w (t1.add 11) fun x9 => ldI .u64 w (t1.add 12) fun x10 => X62.j1 Q t1 t3 t4 (decide ((IntKind.wrap .u64 (x6 * (IntKind.wrap .u64 (x7 - x8)))) ≥ (IntKind.wrap .u64 ((8 : Int) * (IntKind.wrap .u64 (x9 + x10)))))) w) (X62.j1 Q t1 t3 t4 false w)) (X62.j1 Q t1 t3 t4 false w)) (X62.j1 Q t1 t3 t4 false w)) (X62.j1 Q t1 t3 t4 false w)
def X62.j3 (Q : QT) (t1 : Addr) (t3 : Bool) (w : World) : Prop := ldI .i64 w (t1.add 4) fun x1 => CallR Tryz.prog 87 #[.int .i64 x1, .int .i64 64] w fun v2 w3 => ∃ (y4 : Bool), v2 = .bool y4 ∧ bcase y4 (ldI .i64 w3 (t1.add 5) fun x5 => CallR Tryz.prog 87 #[.int .i64 x5, .int .i64 64] w3 fun v6 w7 => ∃ (y8 : Bool), v6 = .bool y8 ∧ bcase y8 (ldI .i64 w7 (t1.add 6) fun x9 => CallR Tryz.prog 87 #[.int .i64 x9, .int .i64 16] w7 fun v10 w11 => ∃ (y12 : Bool), v10 = .bool y12 ∧ bcase y12 (ldI .i64 w11 (t1.add 7) fun x13 => CallR Tryz.prog 87 #[.int .i64 x13, .int .i64 8] w11 fun v14 w15 => ∃ (y16 : Bool), v14 = .bool y16 ∧ bcase y16 (ldI .i64 w15 (t1.add 8) fun x17 => CallR Tryz.prog 87 #[.int .i64 x17, .int .i64 64] w15 fun v18 w19 => ∃ (y20 : Bool), v18 = .bool y20 ∧ bcase y20 (ldI .i64 w19 (t1.add 9) fun x21 => CallR Tryz.prog 87 #[.int .i64 x21, .int .i64 256] w19 fun v22 w23 => ∃ (y24 : Bool), v22 = .bool y24 ∧ bcase y24 (ldI .i64 w23 (t1.add 10) fun x25 => CallR Tryz.prog 87 #[.int .i64 x25, .int .i64 16] w23 fun v26 w27 => ∃ (y28 : Bool), v26 = .bool y28 ∧ X62.j2 Q t1 t3 y28 w27) (X62.j2 Q t1 t3 false w23)) (X62.j2 Q t1 t3 false w19)) (X62.j2 Q t1 t3 false w15)) (X62.j2 Q t1 t3 false w11)) (X62.j2 Q t1 t3 false w7)) (X62.j2 Q t1 t3 false w3)
def X62.f (a0_0 a0_1 a0_2 a0_3 a0_4 a0_5 a0_6 a0_7 a0_8 a0_9 a0_10 a0_11 a0_12 a0_13 a0_14 a0_15 a0_16 a0_17 a0_18 a0_19 a0_20 a0_21 : Int) (w : World) (Q : QT) : Prop := newK w #[.int .i64 a0_0, .int .i64 a0_1, .int .i64 a0_2, .int .i64 a0_3, .int .i64 a0_4, .int .i64 a0_5, .int .i64 a0_6, .int .i64 a0_7, .int .i64 a0_8, .int .i64 a0_9, .int .i64 a0_10, .int .u64 a0_11, .int .u64 a0_12, .int .u64 a0_13, .int .u64 a0_14, .int .u64 a0_15, .int .u64 a0_16, .int .i64 a0_17, .int .i64 a0_18, .int .i64 a0_19, .int .u64 a0_20, .int .u64 a0_21] 27 fun g1 w2 => ldI .i64 w2 (g1.add 0) fun x3 => CallR Tryz.prog 87 #[.int .i64 x3, .int .i64 64] w2 fun v4 w5 => ∃ (y6 : Bool), v4 = .bool y6 ∧ bcase y6 (ldI .i64 w5 (g1.add 1) fun x7 => CallR Tryz.prog 87 #[.int .i64 x7, .int .i64 4] w5 fun v8 w9 => ∃ (y10 : Bool), v8 = .bool y10 ∧ bcase y10 (ldI .i64 w9 (g1.add 2) fun x11 => CallR Tryz.prog 87 #[.int .i64 x11, .int .i64 8] w9 fun v12 w13 => ∃ (y14 : Bool), v12 = .bool y14 ∧ bcase y14 (ldI .i64 w13 (g1.add 3) fun x15 => CallR Tryz.prog 87 #[.int .i64 x15, .int .i64 4096] w13 fun v16 w17 => ∃ (y18 : Bool), v16 = .bool y18 ∧ bcase y18 (ldI .i64 w17 (g1.add 3) fun x19 => (16 : Int) ≠ 0 ∧ X62.j3 Q g1 ((Int.tmod x19 (16 : Int)) == (0 : Int)) w17) (X62.j3 Q g1 false w17)) (X62.j3 Q g1 false w13)) (X62.j3 Q g1 false w9)) (X62.j3 Q g1 false w5)
def X62.S (Q : QT) : Segs
  | 0, φ, ρ, w => qA (ρ 1) fun t1 => qB (ρ 3) fun t3 => qB (ρ 4) fun t4 => qB (ρ 5) fun t5 => qB (ρ 6) fun t6 => X62.j0 Q t1 t3 t4 t5 t6 w
  | 1, φ, ρ, w => qA (ρ 1) fun t1 => qB (ρ 3) fun t3 => qB (ρ 4) fun t4 => qB (ρ 5) fun t5 => X62.j1 Q t1 t3 t4 t5 w
  | 2, φ, ρ, w => qA (ρ 1) fun t1 => qB (ρ 3) fun t3 => qB (ρ 4) fun t4 => X62.j2 Q t1 t3 t4 w
  | 3, φ, ρ, w => qA (ρ 1) fun t1 => qB (ρ 3) fun t3 => X62.j3 Q t1 t3 w
  | _, _, _, _ => False
noncomputable def X62.an : Ann := (.seq .leaf (.seq .leaf (.join 3 (.seq .leaf (.join 2 (.seq .leaf (.join 1 (.seq .leaf (.join 0 (.seq .leaf .leaf))))))))))
noncomputable def X62.c : Code := Tryz.f62.body.getD .skip
theorem X62.v (Q : QT) : V Tryz.prog (X62.S Q) X62.an X62.c (retC Tryz.prog Tryz.f62 Q) := ⟨trivial, ⟨trivial, ⟨(by
    intro φ ρ w h
    simp only [X62.S] at h
    obtain ⟨t1, e1, h⟩ := qA_elim h
    obtain ⟨t3, e3, h⟩ := qB_elim h
    exact ⟨((Env.nil.put (some 1) (.pointer (some t1))).put (some 3) (.bool t3)), Env.le_put e3 (Env.le_put e1 (Env.le_nil _)), Eq.mp (by kernel_rfl) h⟩), ⟨trivial, ⟨(by
    intro φ ρ w h
    simp only [X62.S] at h
    obtain ⟨t1, e1, h⟩ := qA_elim h
    obtain ⟨t3, e3, h⟩ := qB_elim h
    obtain ⟨t4, e4, h⟩ := qB_elim h
    exact ⟨(((Env.nil.put (some 1) (.pointer (some t1))).put (some 3) (.bool t3)).put (some 4) (.bool t4)), Env.le_put e4 (Env.le_put e3 (Env.le_put e1 (Env.le_nil _))), Eq.mp (by kernel_rfl) h⟩), ⟨trivial, ⟨(by
    intro φ ρ w h
    simp only [X62.S] at h
    obtain ⟨t1, e1, h⟩ := qA_elim h
    obtain ⟨t3, e3, h⟩ := qB_elim h
    obtain ⟨t4, e4, h⟩ := qB_elim h
    obtain ⟨t5, e5, h⟩ := qB_elim h
    exact ⟨((((Env.nil.put (some 1) (.pointer (some t1))).put (some 3) (.bool t3)).put (some 4) (.bool t4)).put (some 5) (.bool t5)), Env.le_put e5 (Env.le_put e4 (Env.le_put e3 (Env.le_put e1 (Env.le_nil _)))), Eq.mp (by kernel_rfl) h⟩), ⟨trivial, ⟨(by
    intro φ ρ w h
    simp only [X62.S] at h
    obtain ⟨t1, e1, h⟩ := qA_elim h
    obtain ⟨t3, e3, h⟩ := qB_elim h
    obtain ⟨t4, e4, h⟩ := qB_elim h
    obtain ⟨t5, e5, h⟩ := qB_elim h
    obtain ⟨t6, e6, h⟩ := qB_elim h
    exact ⟨(((((Env.nil.put (some 1) (.pointer (some t1))).put (some 3) (.bool t3)).put (some 4) (.bool t4)).put (some 5) (.bool t5)).put (some 6) (.bool t6)), Env.le_put e6 (Env.le_put e5 (Env.le_put e4 (Env.le_put e3 (Env.le_put e1 (Env.le_nil _))))), Eq.mp (by kernel_rfl) h⟩), ⟨trivial, trivial⟩⟩⟩⟩⟩⟩⟩⟩⟩⟩
theorem X62.sound (a0_0 a0_1 a0_2 a0_3 a0_4 a0_5 a0_6 a0_7 a0_8 a0_9 a0_10 a0_11 a0_12 a0_13 a0_14 a0_15 a0_16 a0_17 a0_18 a0_19 a0_20 a0_21 : Int) (w : World) (Q : QT) (h : X62.f a0_0 a0_1 a0_2 a0_3 a0_4 a0_5 a0_6 a0_7 a0_8 a0_9 a0_10 a0_11 a0_12 a0_13 a0_14 a0_15 a0_16 a0_17 a0_18 a0_19 a0_20 a0_21 w Q) : CallR Tryz.prog 62 #[.agg #[.int .i64 a0_0, .int .i64 a0_1, .int .i64 a0_2, .int .i64 a0_3, .int .i64 a0_4, .int .i64 a0_5, .int .i64 a0_6, .int .i64 a0_7, .int .i64 a0_8, .int .i64 a0_9, .int .i64 a0_10, .int .u64 a0_11, .int .u64 a0_12, .int .u64 a0_13, .int .u64 a0_14, .int .u64 a0_15, .int .u64 a0_16, .int .i64 a0_17, .int .i64 a0_18, .int .i64 a0_19, .int .u64 a0_20, .int .u64 a0_21]] w Q :=
  fn_sound noGr mixed Tryz.func62 (c := X62.c) (an := X62.an) (S := X62.S Q) (φ := fun _ => 0) (args := [.agg #[.int .i64 a0_0, .int .i64 a0_1, .int .i64 a0_2, .int .i64 a0_3, .int .i64 a0_4, .int .i64 a0_5, .int .i64 a0_6, .int .i64 a0_7, .int .i64 a0_8, .int .i64 a0_9, .int .i64 a0_10, .int .u64 a0_11, .int .u64 a0_12, .int .u64 a0_13, .int .u64 a0_14, .int .u64 a0_15, .int .u64 a0_16, .int .i64 a0_17, .int .i64 a0_18, .int .i64 a0_19, .int .u64 a0_20, .int .u64 a0_21]]) (by kernel_rfl) (by kernel_rfl) (by kernel_rfl) (X62.v Q) (Eq.mp (by kernel_rfl) h)
def X73.l0 (Q : QT) : Nat → (Option Addr) → Int → Int → (Option Addr) → Nat → Nat → Int → Int → World → Prop
  | 0, _, _, _, _, _, _, _, _, _ => False
  | k + 1, t0, t1, t4, t9p, t9n, t9c, t10, t11, w => bcase (decide (t11 < t10)) ((0 ≤ t11 ∧ t11 < ((t9n : Nat) : Int)) ∧ optP t9p fun p1 => ldI .u64 w ((p1.add (Int.toNat t11 * 6)).add 0) fun x2 => ldI .i64 w ((p1.add (Int.toNat t11 * 6)).add 1) fun x3 => ldB w ((p1.add (Int.toNat t11 * 6)).add 2) fun x4 => ldI .u64 w ((p1.add (Int.toNat t11 * 6)).add 3) fun x5 => ldI .u64 w ((p1.add (Int.toNat t11 * 6)).add 4) fun x6 => ldI .i64 w ((p1.add (Int.toNat t11 * 6)).add 5) fun x7 => newK w #[.int .u64 0, .int .i64 0, .bool false, .int .u64 0, .int .u64 0, .int .i64 0] 52 fun g8 w9 => stAll w9 g8 [.int .u64 x2, .int .i64 x3, .bool x4, .int .u64 x5, .int .u64 x6, .int .i64 x7] fun w10 => ldB w10 (g8.add 2) fun x11 => bcase x11 (optP t0 fun p12 => ldM w10 (p12.add 24) fun x13 => RunR Tryz.prog (Instr.lookup 96 (.map x13) (.int .u64 t1) false) w10 fun v14 w15 => ∃ (y16 : Int), v14 = .int .i64 y16 ∧ bcase (y16 == (0 : Int)) (bcase (t4 == (0 : Int)) (ldI .i64 w15 (g8.add 5) fun x17 => X73.l0 Q k t0 t1 x17 t9p t9n t9c t10 (IntKind.wrap .i64 (t11 + (1 : Int))) w15) (ldI .i64 w15 (g8.add 5) fun x18 => bcase (decide (x18 < t4)) (ldI .i64 w15 (g8.add 5) fun x19 => X73.l0 Q k t0 t1 x19 t9p t9n t9c t10 (IntKind.wrap .i64 (t11 + (1 : Int))) w15) (X73.l0 Q k t0 t1 t4 t9p t9n t9c t10 (IntKind.wrap .i64 (t11 + (1 : Int))) w15))) (X73.l0 Q k t0 t1 t4 t9p t9n t9c t10 (IntKind.wrap .i64 (t11 + (1 : Int))) w15)) (X73.l0 Q k t0 t1 t4 t9p t9n t9c t10 (IntKind.wrap .i64 (t11 + (1 : Int))) w10)) (optP t0 fun p20 => ldP w (p20.add 22) fun x21 => CallR Tryz.prog 94 #[.pointer x21, .int .u64 t1, .int .i64 t4] w fun v22 w23 => ∃ (y24 : Int), v22 = .int .i64 y24 ∧ Q (.tuple #[]) w23)
def X73.f (a0 : Option Addr) (a1 : Int) (w : World) (Q : QT) : Prop := CallR Tryz.prog 49 #[.pointer a0, .int .u64 a1] w fun v1 w2 => ∃ (y3p : Option Addr) (y3n y3c : Nat), v1 = .slice y3p y3n y3c ∧ ∃ m4, X73.l0 Q m4 a0 a1 (0 : Int) y3p y3n y3c ((y3n : Nat) : Int) (0 : Int) w2
def X73.S (Q : QT) : Segs
  | 0, φ, ρ, w => qP (ρ 0) fun t0 => qI .u64 (ρ 1) fun t1 => qI .i64 (ρ 4) fun t4 => qSl (ρ 9) fun t9p t9n t9c => qI .i64 (ρ 10) fun t10 => qI .i64 (ρ 11) fun t11 => X73.l0 Q (φ 0) t0 t1 t4 t9p t9n t9c t10 t11 w
  | _, _, _, _ => False
noncomputable def X73.an : Ann := (.seq .leaf (.seq (.seq .leaf (.block (.loop 0 (.seq .leaf (.seq (.cond .leaf .leaf) (.seq (.block (.seq .leaf (.seq .leaf (.cond .leaf .leaf)))) .leaf)))))) .leaf))
noncomputable def X73.c : Code := Tryz.f73.body.getD .skip
theorem X73.v (Q : QT) : V Tryz.prog (X73.S Q) X73.an X73.c (retC Tryz.prog Tryz.f73 Q) := ⟨trivial, ⟨⟨trivial, ⟨(by
    intro φ ρ w h
    simp only [X73.S] at h
    obtain ⟨t0, e0, h⟩ := qP_elim h
    obtain ⟨t1, e1, h⟩ := qI_elim h
    obtain ⟨t4, e4, h⟩ := qI_elim h
    obtain ⟨t9p, t9n, t9c, e9, h⟩ := qSl_elim h
    obtain ⟨t10, e10, h⟩ := qI_elim h
    obtain ⟨t11, e11, h⟩ := qI_elim h
    cases hk : φ 0 with
    | zero => rw [hk] at h; exact h.elim
    | succ k => rw [hk] at h; exact ⟨k, Nat.lt_succ_self k, ((((((Env.nil.put (some 0) (.pointer t0)).put (some 1) (.int .u64 t1)).put (some 4) (.int .i64 t4)).put (some 9) (.slice t9p t9n t9c)).put (some 10) (.int .i64 t10)).put (some 11) (.int .i64 t11)), Env.le_put e11 (Env.le_put e10 (Env.le_put e9 (Env.le_put e4 (Env.le_put e1 (Env.le_put e0 (Env.le_nil _)))))), Eq.mp (by kernel_rfl) h⟩), ⟨trivial, ⟨⟨trivial, trivial⟩, ⟨⟨trivial, ⟨trivial, ⟨trivial, trivial⟩⟩⟩, trivial⟩⟩⟩⟩⟩, trivial⟩⟩
theorem X73.sound (a0 : Option Addr) (a1 : Int) (w : World) (Q : QT) (h : X73.f a0 a1 w Q) : CallR Tryz.prog 73 #[.pointer a0, .int .u64 a1] w Q :=
  fn_sound noGr mixed Tryz.func73 (c := X73.c) (an := X73.an) (S := X73.S Q) (φ := fun _ => 0) (args := [.pointer a0, .int .u64 a1]) (by kernel_rfl) (by kernel_rfl) (by kernel_rfl) (X73.v Q) (Eq.mp (by kernel_rfl) h)
def X77.f (a0 : Option Addr) (a1 : Int) (w : World) (Q : QT) : Prop := CallR Tryz.prog 97 #[.pointer a0, .int .i64 a1] w fun v1 w2 => ∃ (y3 y4 : Int) (y5 : Bool), v1 = .tuple #[.int .i64 y3, .int .i64 y4, .bool y5] ∧ bcase (!y5) (Q (.int .i64 9) w2) (drewK w2 fun w6 => optP a0 fun p7 => ldSl w6 (p7.add 1) fun x8p x8n x8c => (0 ≤ y3 ∧ y3 < ((x8n : Nat) : Int)) ∧ optP x8p fun p9 => ldI .u16 w6 (p9.add (Int.toNat y3 * 1)) fun x10 => 0 ≤ y4 ∧ (0 ≤ y3 ∧ y3 < ((x8n : Nat) : Int)) ∧ optP x8p fun p11 => stK w6 (p11.add (Int.toNat y3 * 1)) (.int .u16 (iAndNot .u16 x10 (iShl .u16 (1 : Int) y4))) fun w12 => optP a0 fun p13 => ldSl w12 (p13.add 1) fun x14p x14n x14c => (0 ≤ y3 ∧ y3 < ((x14n : Nat) : Int)) ∧ optP x14p fun p15 => ldI .u16 w12 (p15.add (Int.toNat y3 * 1)) fun x16 => bcase (x16 == (0 : Int)) (optP a0 fun p17 => ldSl w12 (p17.add 0) fun x18p x18n x18c => (0 ≤ y3 ∧ y3 < ((x18n : Nat) : Int)) ∧ optP x18p fun p19 => stK w12 (p19.add (Int.toNat y3 * 1)) (.int .i64 0) fun w20 => Q (.int .i64 0) w20) (Q (.int .i64 0) w12))
def X77.S (Q : QT) : Segs
  | _, _, _, _ => False
noncomputable def X77.an : Ann := (.seq .leaf (.seq .leaf (.seq (.seq .leaf (.cond (.seq .leaf .leaf) .leaf)) (.seq (.draw [0, 1, 3, 7, 0, 31, 63, 0, 128, 511, 1023, 2047] [[0, 1, 2, 3, 4, 5, 6, 7, 8, 9, 10, 11]]) (.seq (.seq .leaf (.cond .leaf .leaf)) (.seq .leaf .leaf))))))
noncomputable def X77.c : Code := Tryz.f77.body.getD .skip
theorem X77.v (Q : QT) : V Tryz.prog (X77.S Q) X77.an X77.c (retC Tryz.prog Tryz.f77 Q) := ⟨trivial, ⟨trivial, ⟨⟨trivial, ⟨⟨trivial, trivial⟩, trivial⟩⟩, ⟨trivial, ⟨⟨trivial, ⟨trivial, trivial⟩⟩, ⟨trivial, trivial⟩⟩⟩⟩⟩⟩
theorem X77.sound (a0 : Option Addr) (a1 : Int) (w : World) (Q : QT) (h : X77.f a0 a1 w Q) : CallR Tryz.prog 77 #[.pointer a0, .int .i64 a1] w Q :=
  fn_sound noGr mixed Tryz.func77 (c := X77.c) (an := X77.an) (S := X77.S Q) (φ := fun _ => 0) (args := [.pointer a0, .int .i64 a1]) (by kernel_rfl) (by kernel_rfl) (by kernel_rfl) (X77.v Q) (Eq.mp (by kernel_rfl) h)
def X57.f (a0 : Int) (w : World) (Q : QT) : Prop := bcase (decide (a0 < (16 : Int))) (Q (.tuple #[.pointer none, .int .i64 1]) w) (bcase (decide (a0 > (4096 : Int))) (Q (.tuple #[.pointer none, .int .i64 1]) w) ((16 : Int) ≠ 0 ∧ bcase ((Int.tmod a0 (16 : Int)) != (0 : Int)) (Q (.tuple #[.pointer none, .int .i64 1]) w) ((16 : Int) ≠ 0 ∧ drewK w fun w1 => (RunR Tryz.prog (Instr.makeSlice 132 (.int .i64 (IntKind.wrap .i64 (Int.tdiv a0 (16 : Int)))) (.int .i64 (IntKind.wrap .i64 (Int.tdiv a0 (16 : Int))))) w1 fun v2 w3 => ∃ (s4p : Option Addr) (s4n s4c : Nat), v2 = .slice s4p s4n s4c ∧ RunR Tryz.prog (Instr.makeSlice 133 (.int .i64 (IntKind.wrap .i64 (Int.tdiv a0 (16 : Int)))) (.int .i64 (IntKind.wrap .i64 (Int.tdiv a0 (16 : Int))))) w3 fun v5 w6 => ∃ (s7p : Option Addr) (s7n s7c : Nat), v5 = .slice s7p s7n s7c ∧ newK w6 #[.slice s4p s4n s4c, .slice s7p s7n s7c] 135 fun g8 w9 => Q (.tuple #[.pointer (some g8), .int .i64 0]) w9) ∧ (RunR Tryz.prog (Instr.makeSlice 133 (.int .i64 (IntKind.wrap .i64 (Int.tdiv a0 (16 : Int)))) (.int .i64 (IntKind.wrap .i64 (Int.tdiv a0 (16 : Int))))) w1 fun v10 w11 => ∃ (s12p : Option Addr) (s12n s12c : Nat), v10 = .slice s12p s12n s12c ∧ RunR Tryz.prog (Instr.makeSlice 132 (.int .i64 (IntKind.wrap .i64 (Int.tdiv a0 (16 : Int)))) (.int .i64 (IntKind.wrap .i64 (Int.tdiv a0 (16 : Int))))) w11 fun v13 w14 => ∃ (s15p : Option Addr) (s15n s15c : Nat), v13 = .slice s15p s15n s15c ∧ newK w14 #[.slice s15p s15n s15c, .slice s12p s12n s12c] 135 fun g16 w17 => Q (.tuple #[.pointer (some g16), .int .i64 0]) w17))))
def X57.S (Q : QT) : Segs
  | _, _, _, _ => False
noncomputable def X57.an : Ann := (.seq .leaf (.seq (.seq .leaf (.cond (.seq .leaf .leaf) .leaf)) (.seq .leaf (.seq (.draw [0, 1, 0, 4, 15, 31, 63, 127] [[0, 1, 2, 3, 4, 5, 6, 7], [0, 2, 3, 1, 4, 5, 6, 7]]) .leaf))))
noncomputable def X57.c : Code := Tryz.f57.body.getD .skip
theorem X57.v (Q : QT) : V Tryz.prog (X57.S Q) X57.an X57.c (retC Tryz.prog Tryz.f57 Q) := ⟨trivial, ⟨⟨trivial, ⟨⟨trivial, trivial⟩, trivial⟩⟩, ⟨trivial, ⟨trivial, trivial⟩⟩⟩⟩
theorem X57.sound (a0 : Int) (w : World) (Q : QT) (h : X57.f a0 w Q) : CallR Tryz.prog 57 #[.int .i64 a0] w Q :=
  fn_sound noGr mixed Tryz.func57 (c := X57.c) (an := X57.an) (S := X57.S Q) (φ := fun _ => 0) (args := [.int .i64 a0]) (by kernel_rfl) (by kernel_rfl) (by kernel_rfl) (X57.v Q) (Eq.mp (by kernel_rfl) h)
def X59.f (a0 : Int) (w : World) (Q : QT) : Prop := bcase (decide (a0 ≥ (0 : Int))) (Q (.bool (decide (a0 ≤ (7 : Int)))) w) (Q (.bool false) w)
def X59.S (Q : QT) : Segs
  | _, _, _, _ => False
noncomputable def X59.an : Ann := (.seq .leaf (.seq .leaf .leaf))
noncomputable def X59.c : Code := Tryz.f59.body.getD .skip
theorem X59.v (Q : QT) : V Tryz.prog (X59.S Q) X59.an X59.c (retC Tryz.prog Tryz.f59 Q) := ⟨trivial, ⟨trivial, trivial⟩⟩
theorem X59.sound (a0 : Int) (w : World) (Q : QT) (h : X59.f a0 w Q) : CallR Tryz.prog 59 #[.int .i64 a0] w Q :=
  fn_sound noGr mixed Tryz.func59 (c := X59.c) (an := X59.an) (S := X59.S Q) (φ := fun _ => 0) (args := [.int .i64 a0]) (by kernel_rfl) (by kernel_rfl) (by kernel_rfl) (X59.v Q) (Eq.mp (by kernel_rfl) h)
def X60.l0 (Q : QT) : Nat → (Option Addr) → Int → Int → (Option Addr) → Nat → Nat → Int → Int → World → Prop
  | 0, _, _, _, _, _, _, _, _, _ => False
  | k + 1, t0, t6, t7, t17p, t17n, t17c, t18, t19, w => bcase (decide (t19 < t18)) ((0 ≤ t19 ∧ t19 < ((t17n : Nat) : Int)) ∧ optP t17p fun p1 => ldI .i64 w (p1.add (Int.toNat t19 * 1)) fun x2 => drewK w fun w3 => bcase (x2 == t6) (optP t0 fun p4 => ldSl w3 (p4.add 1) fun x5p x5n x5c => (0 ≤ t19 ∧ t19 < ((x5n : Nat) : Int)) ∧ optP x5p fun p6 => ldI .u16 w3 (p6.add (Int.toNat t19 * 1)) fun x7 => CallR Tryz.prog 84 #[.int .i64 t6] w3 fun v8 w9 => ∃ (y10 : Int), v8 = .int .u16 y10 ∧ (World.cell? w3 (p6.add (Int.toNat t19 * 1)) = some (.int .u16 x7) ∧ World.cell? w9 (p6.add (Int.toNat t19 * 1)) = some (.int .u16 x7)) ∧ (World.cell? w3 (p4.add 1) = some (.slice x5p x5n x5c) ∧ World.cell? w9 (p4.add 1) = some (.slice x5p x5n x5c)) ∧ bcase (x7 != y10) (CallR Tryz.prog 85 #[.pointer t0, .int .i64 t19] w9 fun v11 w12 => ∃ (y13 : Int), v11 = .int .i64 y13 ∧ Q (.tuple #[.int .i64 y13, .int .i64 0]) w12) (bcase (x2 == (0 : Int)) (bcase (decide (t7 < (0 : Int))) (X60.l0 Q k t0 t6 t19 t17p t17n t17c t18 (IntKind.wrap .i64 (t19 + (1 : Int))) w9) (X60.l0 Q k t0 t6 t7 t17p t17n t17c t18 (IntKind.wrap .i64 (t19 + (1 : Int))) w9)) (X60.l0 Q k t0 t6 t7 t17p t17n t17c t18 (IntKind.wrap .i64 (t19 + (1 : Int))) w9))) (bcase (x2 == (0 : Int)) (bcase (decide (t7 < (0 : Int))) (X60.l0 Q k t0 t6 t19 t17p t17n t17c t18 (IntKind.wrap .i64 (t19 + (1 : Int))) w3) (X60.l0 Q k t0 t6 t7 t17p t17n t17c t18 (IntKind.wrap .i64 (t19 + (1 : Int))) w3)) (X60.l0 Q k t0 t6 t7 t17p t17n t17c t18 (IntKind.wrap .i64 (t19 + (1 : Int))) w3))) (bcase (decide (t7 < (0 : Int))) (Q (.tuple #[.int .i64 0, .int .i64 2]) w) (optP t0 fun p14 => ldSl w (p14.add 0) fun x15p x15n x15c => (0 ≤ t7 ∧ t7 < ((x15n : Nat) : Int)) ∧ optP x15p fun p16 => stK w (p16.add (Int.toNat t7 * 1)) (.int .i64 t6) fun w17 => CallR Tryz.prog 85 #[.pointer t0, .int .i64 t7] w17 fun v18 w19 => ∃ (y20 : Int), v18 = .int .i64 y20 ∧ Q (.tuple #[.int .i64 y20, .int .i64 0]) w19))
def X60.f (a0 : Option Addr) (a1 : Int) (w : World) (Q : QT) : Prop := CallR Tryz.prog 83 #[.int .i64 a1] w fun v1 w2 => ∃ (y3 : Int), v1 = .int .i64 y3 ∧ bcase (y3 == (0 : Int)) (Q (.tuple #[.int .i64 0, .int .i64 1]) w2) (optP a0 fun p4 => ldSl w2 (p4.add 0) fun x5p x5n x5c => ∃ m6, X60.l0 Q m6 a0 y3 (-1 : Int) x5p x5n x5c ((x5n : Nat) : Int) (0 : Int) w2)
def X60.S (Q : QT) : Segs
  | 0, φ, ρ, w => qP (ρ 0) fun t0 => qI .i64 (ρ 6) fun t6 => qI .i64 (ρ 7) fun t7 => qSl (ρ 17) fun t17p t17n t17c => qI .i64 (ρ 18) fun t18 => qI .i64 (ρ 19) fun t19 => X60.l0 Q (φ 0) t0 t6 t7 t17p t17n t17c t18 t19 w
  | _, _, _, _ => False
noncomputable def X60.an : Ann := (.seq .leaf (.seq .leaf (.seq (.seq .leaf (.cond (.seq .leaf .leaf) .leaf)) (.seq .leaf (.seq (.seq .leaf (.block (.loop 0 (.seq .leaf (.seq (.cond .leaf .leaf) (.seq (.block (.seq .leaf (.seq (.seq (.draw [0, 0, 3, 7, 15, 31, 63, 127, 15, 511, 1023, 15, 2063, 8191, 16383] [[0, 1, 2, 3, 4, 5, 6, 7, 8, 9, 10, 11, 12, 13, 14]]) (.cond (.seq .leaf .leaf) .leaf)) (.seq .leaf (.cond .leaf .leaf))))) .leaf)))))) (.seq (.seq .leaf (.cond (.seq .leaf .leaf) .leaf)) (.seq .leaf (.seq .leaf .leaf))))))))
noncomputable def X60.c : Code := Tryz.f60.body.getD .skip
theorem X60.v (Q : QT) : V Tryz.prog (X60.S Q) X60.an X60.c (retC Tryz.prog Tryz.f60 Q) := ⟨trivial, ⟨trivial, ⟨⟨trivial, ⟨⟨trivial, trivial⟩, trivial⟩⟩, ⟨trivial, ⟨⟨trivial, ⟨(by
    intro φ ρ w h
    simp only [X60.S] at h
    obtain ⟨t0, e0, h⟩ := qP_elim h
    obtain ⟨t6, e6, h⟩ := qI_elim h
    obtain ⟨t7, e7, h⟩ := qI_elim h
    obtain ⟨t17p, t17n, t17c, e17, h⟩ := qSl_elim h
    obtain ⟨t18, e18, h⟩ := qI_elim h
    obtain ⟨t19, e19, h⟩ := qI_elim h
    cases hk : φ 0 with
    | zero => rw [hk] at h; exact h.elim
    | succ k => rw [hk] at h; exact ⟨k, Nat.lt_succ_self k, ((((((Env.nil.put (some 0) (.pointer t0)).put (some 6) (.int .i64 t6)).put (some 7) (.int .i64 t7)).put (some 17) (.slice t17p t17n t17c)).put (some 18) (.int .i64 t18)).put (some 19) (.int .i64 t19)), Env.le_put e19 (Env.le_put e18 (Env.le_put e17 (Env.le_put e7 (Env.le_put e6 (Env.le_put e0 (Env.le_nil _)))))), Eq.mp (by kernel_rfl) h⟩), ⟨trivial, ⟨⟨trivial, trivial⟩, ⟨⟨trivial, ⟨⟨trivial, ⟨⟨trivial, trivial⟩, trivial⟩⟩, ⟨trivial, ⟨trivial, trivial⟩⟩⟩⟩, trivial⟩⟩⟩⟩⟩, ⟨⟨trivial, ⟨⟨trivial, trivial⟩, trivial⟩⟩, ⟨trivial, ⟨trivial, trivial⟩⟩⟩⟩⟩⟩⟩⟩
theorem X60.sound (a0 : Option Addr) (a1 : Int) (w : World) (Q : QT) (h : X60.f a0 a1 w Q) : CallR Tryz.prog 60 #[.pointer a0, .int .i64 a1] w Q :=
  fn_sound noGr mixed Tryz.func60 (c := X60.c) (an := X60.an) (S := X60.S Q) (φ := fun _ => 0) (args := [.pointer a0, .int .i64 a1]) (by kernel_rfl) (by kernel_rfl) (by kernel_rfl) (X60.v Q) (Eq.mp (by kernel_rfl) h)
def X94.j0 (Q : QT) (t0 : Option Addr) (t1 t2 : Int) (w : World) : Prop := optP t0 fun p1 => ldM w (p1.add 4) fun x2 => RunR Tryz.prog (Instr.lookup 101 (.map x2) (.int .u64 t1) false) w fun v3 w4 => ∃ (y5 : Option Addr), v3 = .pointer y5 ∧ bcase (Option.isNone y5) (Q (.int .i64 5) w4) (optP y5 fun p6 => stK w4 (p6.add 3) (.int .i64 t2) fun w7 => Q (.int .i64 0) w7)
def X94.f (a0 : Option Addr) (a1 a2 : Int) (w : World) (Q : QT) : Prop := bcase (decide (a2 < (0 : Int))) (Q (.int .i64 1) w) (bcase (decide (a2 > (40 : Int))) (Q (.int .i64 1) w) (X94.j0 Q a0 a1 a2 w))
def X94.S (Q : QT) : Segs
  | 0, φ, ρ, w => qP (ρ 0) fun t0 => qI .u64 (ρ 1) fun t1 => qI .i64 (ρ 2) fun t2 => X94.j0 Q t0 t1 t2 w
  | _, _, _, _ => False
noncomputable def X94.an : Ann := (.seq .leaf (.seq (.seq .leaf (.cond (.seq .leaf .leaf) .leaf)) (.join 0 (.seq .leaf (.seq (.seq .leaf (.cond (.seq .leaf .leaf) .leaf)) (.seq .leaf (.seq .leaf .leaf)))))))
noncomputable def X94.c : Code := Tryz.f94.body.getD .skip
theorem X94.v (Q : QT) : V Tryz.prog (X94.S Q) X94.an X94.c (retC Tryz.prog Tryz.f94 Q) := ⟨trivial, ⟨⟨trivial, ⟨⟨trivial, trivial⟩, trivial⟩⟩, ⟨(by
    intro φ ρ w h
    simp only [X94.S] at h
    obtain ⟨t0, e0, h⟩ := qP_elim h
    obtain ⟨t1, e1, h⟩ := qI_elim h
    obtain ⟨t2, e2, h⟩ := qI_elim h
    exact ⟨(((Env.nil.put (some 0) (.pointer t0)).put (some 1) (.int .u64 t1)).put (some 2) (.int .i64 t2)), Env.le_put e2 (Env.le_put e1 (Env.le_put e0 (Env.le_nil _))), Eq.mp (by kernel_rfl) h⟩), ⟨trivial, ⟨⟨trivial, ⟨⟨trivial, trivial⟩, trivial⟩⟩, ⟨trivial, ⟨trivial, trivial⟩⟩⟩⟩⟩⟩⟩
theorem X94.sound (a0 : Option Addr) (a1 a2 : Int) (w : World) (Q : QT) (h : X94.f a0 a1 a2 w Q) : CallR Tryz.prog 94 #[.pointer a0, .int .u64 a1, .int .i64 a2] w Q :=
  fn_sound noGr mixed Tryz.func94 (c := X94.c) (an := X94.an) (S := X94.S Q) (φ := fun _ => 0) (args := [.pointer a0, .int .u64 a1, .int .i64 a2]) (by kernel_rfl) (by kernel_rfl) (by kernel_rfl) (X94.v Q) (Eq.mp (by kernel_rfl) h)
def X97.j0 (Q : QT) (t0 : Option Addr) (t7 t8 : Int) (w : World) : Prop := optP t0 fun p1 => ldSl w (p1.add 0) fun x2p x2n x2c => (0 ≤ t7 ∧ t7 < ((x2n : Nat) : Int)) ∧ optP x2p fun p3 => ldI .i64 w (p3.add (Int.toNat t7 * 1)) fun x4 => x4 ≠ 0 ∧ drewK w fun w5 => optP t0 fun p6 => ldSl w5 (p6.add 1) fun x7p x7n x7c => (0 ≤ t7 ∧ t7 < ((x7n : Nat) : Int)) ∧ optP x7p fun p8 => ldI .u16 w5 (p8.add (Int.toNat t7 * 1)) fun x9 => 0 ≤ (IntKind.wrap .i64 (Int.tdiv t8 x4)) ∧ Q (.tuple #[.int .i64 t7, .int .i64 (IntKind.wrap .i64 (Int.tdiv t8 x4)), .bool ((iAnd .u16 (iShr .u16 x9 (IntKind.wrap .i64 (Int.tdiv t8 x4))) (1 : Int)) == (1 : Int))]) w5
def X97.j1 (Q : QT) (t0 : Option Addr) (t1 : Int) (w : World) : Prop := (16 : Int) ≠ 0 ∧ (16 : Int) ≠ 0 ∧ optP t0 fun p1 => ldSl w (p1.add 0) fun x2p x2n x2c => (0 ≤ (IntKind.wrap .i64 (Int.tdiv t1 (16 : Int))) ∧ (IntKind.wrap .i64 (Int.tdiv t1 (16 : Int))) < ((x2n : Nat) : Int)) ∧ optP x2p fun p3 => ldI .i64 w (p3.add (Int.toNat (IntKind.wrap .i64 (Int.tdiv t1 (16 : Int))) * 1)) fun x4 => bcase (x4 == (0 : Int)) (Q (.tuple #[.int .i64 0, .int .i64 0, .bool false]) w) (optP t0 fun p5 => ldSl w (p5.add 0) fun x6p x6n x6c => (0 ≤ (IntKind.wrap .i64 (Int.tdiv t1 (16 : Int))) ∧ (IntKind.wrap .i64 (Int.tdiv t1 (16 : Int))) < ((x6n : Nat) : Int)) ∧ optP x6p fun p7 => ldI .i64 w (p7.add (Int.toNat (IntKind.wrap .i64 (Int.tdiv t1 (16 : Int))) * 1)) fun x8 => x8 ≠ 0 ∧ bcase ((Int.tmod (Int.tmod t1 (16 : Int)) x8) != (0 : Int)) (Q (.tuple #[.int .i64 0, .int .i64 0, .bool false]) w) (X97.j0 Q t0 (IntKind.wrap .i64 (Int.tdiv t1 (16 : Int))) (Int.tmod t1 (16 : Int)) w))
def X97.f (a0 : Option Addr) (a1 : Int) (w : World) (Q : QT) : Prop := bcase (decide (a1 < (0 : Int))) (Q (.tuple #[.int .i64 0, .int .i64 0, .bool false]) w) (optP a0 fun p1 => ldSl w (p1.add 0) fun x2p x2n x2c => bcase (decide (a1 ≥ (IntKind.wrap .i64 (((x2n : Nat) : Int) * (16 : Int))))) (Q (.tuple #[.int .i64 0, .int .i64 0, .bool false]) w) (X97.j1 Q a0 a1 w))
def X97.S (Q : QT) : Segs
  | 0, φ, ρ, w => qP (ρ 0) fun t0 => qI .i64 (ρ 7) fun t7 => qI .i64 (ρ 8) fun t8 => X97.j0 Q t0 t7 t8 w
  | 1, φ, ρ, w => qP (ρ 0) fun t0 => qI .i64 (ρ 1) fun t1 => X97.j1 Q t0 t1 w
  | _, _, _, _ => False
noncomputable def X97.an : Ann := (.seq .leaf (.seq (.seq .leaf (.cond (.seq .leaf .leaf) .leaf)) (.join 1 (.seq .leaf (.seq (.seq .leaf (.cond (.seq .leaf .leaf) .leaf)) (.join 0 (.seq .leaf (.seq (.draw [0, 0, 0, 4, 12, 28, 0, 124, 252, 0, 1020, 2044, 4092, 1, 8195, 32767] [[0, 1, 2, 3, 4, 5, 6, 7, 8, 9, 10, 11, 12, 13, 14, 15]]) .leaf))))))))
noncomputable def X97.c : Code := Tryz.f97.body.getD .skip
theorem X97.v (Q : QT) : V Tryz.prog (X97.S Q) X97.an X97.c (retC Tryz.prog Tryz.f97 Q) := ⟨trivial, ⟨⟨trivial, ⟨⟨trivial, trivial⟩, trivial⟩⟩, ⟨(by
    intro φ ρ w h
    simp only [X97.S] at h
    obtain ⟨t0, e0, h⟩ := qP_elim h
    obtain ⟨t1, e1, h⟩ := qI_elim h
    exact ⟨((Env.nil.put (some 0) (.pointer t0)).put (some 1) (.int .i64 t1)), Env.le_put e1 (Env.le_put e0 (Env.le_nil _)), Eq.mp (by kernel_rfl) h⟩), ⟨trivial, ⟨⟨trivial, ⟨⟨trivial, trivial⟩, trivial⟩⟩, ⟨(by
    intro φ ρ w h
    simp only [X97.S] at h
    obtain ⟨t0, e0, h⟩ := qP_elim h
    obtain ⟨t7, e7, h⟩ := qI_elim h
    obtain ⟨t8, e8, h⟩ := qI_elim h
    exact ⟨(((Env.nil.put (some 0) (.pointer t0)).put (some 7) (.int .i64 t7)).put (some 8) (.int .i64 t8)), Env.le_put e8 (Env.le_put e7 (Env.le_put e0 (Env.le_nil _))), Eq.mp (by kernel_rfl) h⟩), ⟨trivial, ⟨trivial, trivial⟩⟩⟩⟩⟩⟩⟩⟩
theorem X97.sound (a0 : Option Addr) (a1 : Int) (w : World) (Q : QT) (h : X97.f a0 a1 w Q) : CallR Tryz.prog 97 #[.pointer a0, .int .i64 a1] w Q :=
  fn_sound noGr mixed Tryz.func97 (c := X97.c) (an := X97.an) (S := X97.S Q) (φ := fun _ => 0) (args := [.pointer a0, .int .i64 a1]) (by kernel_rfl) (by kernel_rfl) (by kernel_rfl) (X97.v Q) (Eq.mp (by kernel_rfl) h)
def X83.l0 (Q : QT) : Nat → Int → Int → World → Prop
  | 0, _, _, _ => False
  | k + 1, t0, t3, w => bcase (decide (t3 < t0)) (0 ≤ (1 : Int) ∧ X83.l0 Q k t0 (iShl .i64 t3 (1 : Int)) w) (Q (.int .i64 t3) w)
def X83.f (a0 : Int) (w : World) (Q : QT) : Prop := bcase (decide (a0 < (1 : Int))) (Q (.int .i64 0) w) (bcase (decide (a0 > (16 : Int))) (Q (.int .i64 0) w) (∃ m1, X83.l0 Q m1 a0 (1 : Int) w))
def X83.S (Q : QT) : Segs
  | 0, φ, ρ, w => qI .i64 (ρ 0) fun t0 => qI .i64 (ρ 3) fun t3 => X83.l0 Q (φ 0) t0 t3 w
  | _, _, _, _ => False
noncomputable def X83.an : Ann := (.seq .leaf (.seq (.seq .leaf (.cond (.seq .leaf .leaf) .leaf)) (.seq .leaf (.seq (.block (.loop 0 (.seq (.seq .leaf (.cond .leaf .leaf)) (.block .leaf)))) (.seq .leaf .leaf)))))
noncomputable def X83.c : Code := Tryz.f83.body.getD .skip
theorem X83.v (Q : QT) : V Tryz.prog (X83.S Q) X83.an X83.c (retC Tryz.prog Tryz.f83 Q) := ⟨trivial, ⟨⟨trivial, ⟨⟨trivial, trivial⟩, trivial⟩⟩, ⟨trivial, ⟨⟨(by
    intro φ ρ w h
    simp only [X83.S] at h
    obtain ⟨t0, e0, h⟩ := qI_elim h
    obtain ⟨t3, e3, h⟩ := qI_elim h
    cases hk : φ 0 with
    | zero => rw [hk] at h; exact h.elim
    | succ k => rw [hk] at h; exact ⟨k, Nat.lt_succ_self k, ((Env.nil.put (some 0) (.int .i64 t0)).put (some 3) (.int .i64 t3)), Env.le_put e3 (Env.le_put e0 (Env.le_nil _)), Eq.mp (by kernel_rfl) h⟩), ⟨⟨trivial, ⟨trivial, trivial⟩⟩, trivial⟩⟩, ⟨trivial, trivial⟩⟩⟩⟩⟩
theorem X83.sound (a0 : Int) (w : World) (Q : QT) (h : X83.f a0 w Q) : CallR Tryz.prog 83 #[.int .i64 a0] w Q :=
  fn_sound noGr mixed Tryz.func83 (c := X83.c) (an := X83.an) (S := X83.S Q) (φ := fun _ => 0) (args := [.int .i64 a0]) (by kernel_rfl) (by kernel_rfl) (by kernel_rfl) (X83.v Q) (Eq.mp (by kernel_rfl) h)
def X84.f (a0 : Int) (w : World) (Q : QT) : Prop := a0 ≠ 0 ∧ 0 ≤ (IntKind.wrap .i64 (Int.tdiv (16 : Int) a0)) ∧ Q (.int .u16 (IntKind.wrap .u16 ((iShl .u16 (1 : Int) (IntKind.wrap .i64 (Int.tdiv (16 : Int) a0))) - (1 : Int)))) w
def X84.S (Q : QT) : Segs
  | _, _, _, _ => False
noncomputable def X84.an : Ann := (.seq .leaf (.seq .leaf .leaf))
noncomputable def X84.c : Code := Tryz.f84.body.getD .skip
theorem X84.v (Q : QT) : V Tryz.prog (X84.S Q) X84.an X84.c (retC Tryz.prog Tryz.f84 Q) := ⟨trivial, ⟨trivial, trivial⟩⟩
theorem X84.sound (a0 : Int) (w : World) (Q : QT) (h : X84.f a0 w Q) : CallR Tryz.prog 84 #[.int .i64 a0] w Q :=
  fn_sound noGr mixed Tryz.func84 (c := X84.c) (an := X84.an) (S := X84.S Q) (φ := fun _ => 0) (args := [.int .i64 a0]) (by kernel_rfl) (by kernel_rfl) (by kernel_rfl) (X84.v Q) (Eq.mp (by kernel_rfl) h)
def X85.l0 (Q : QT) : Nat → (Option Addr) → Int → Int → World → Prop
  | 0, _, _, _, _ => False
  | k + 1, t0, t1, t5, w => optP t0 fun p1 => ldSl w (p1.add 1) fun x2p x2n x2c => (0 ≤ t1 ∧ t1 < ((x2n : Nat) : Int)) ∧ optP x2p fun p3 => ldI .u16 w (p3.add (Int.toNat t1 * 1)) fun x4 => 0 ≤ t5 ∧ bcase ((iAnd .u16 (iShr .u16 x4 t5) (1 : Int)) == (1 : Int)) (X85.l0 Q k t0 t1 (IntKind.wrap .i64 (t5 + (1 : Int))) w) (drewK w fun w5 => optP t0 fun p6 => ldSl w5 (p6.add 1) fun x7p x7n x7c => (0 ≤ t1 ∧ t1 < ((x7n : Nat) : Int)) ∧ optP x7p fun p8 => ldI .u16 w5 (p8.add (Int.toNat t1 * 1)) fun x9 => 0 ≤ t5 ∧ (0 ≤ t1 ∧ t1 < ((x7n : Nat) : Int)) ∧ optP x7p fun p10 => stK w5 (p10.add (Int.toNat t1 * 1)) (.int .u16 (iOr .u16 x9 (iShl .u16 (1 : Int) t5))) fun w11 => optP t0 fun p12 => ldSl w11 (p12.add 0) fun x13p x13n x13c => (0 ≤ t1 ∧ t1 < ((x13n : Nat) : Int)) ∧ optP x13p fun p14 => ldI .i64 w11 (p14.add (Int.toNat t1 * 1)) fun x15 => Q (.int .i64 (IntKind.wrap .i64 ((IntKind.wrap .i64 (t1 * (16 : Int))) + (IntKind.wrap .i64 (t5 * x15))))) w11)
def X85.f (a0 : Option Addr) (a1 : Int) (w : World) (Q : QT) : Prop := ∃ m1, X85.l0 Q m1 a0 a1 (0 : Int) w
def X85.S (Q : QT) : Segs
  | 0, φ, ρ, w => qP (ρ 0) fun t0 => qI .i64 (ρ 1) fun t1 => qI .i64 (ρ 5) fun t5 => X85.l0 Q (φ 0) t0 t1 t5 w
  | _, _, _, _ => False
noncomputable def X85.an : Ann := (.seq .leaf (.seq .leaf (.seq (.block (.loop 0 (.seq (.seq .leaf (.cond .leaf .leaf)) (.block .leaf)))) (.seq (.draw [0, 1, 3, 7, 0, 31, 63, 0, 128, 511, 1023, 2047] [[0, 1, 2, 3, 4, 5, 6, 7, 8, 9, 10, 11]]) (.seq .leaf .leaf)))))
noncomputable def X85.c : Code := Tryz.f85.body.getD .skip
theorem X85.v (Q : QT) : V Tryz.prog (X85.S Q) X85.an X85.c (retC Tryz.prog Tryz.f85 Q) := ⟨trivial, ⟨trivial, ⟨⟨(by
    intro φ ρ w h
    simp only [X85.S] at h
    obtain ⟨t0, e0, h⟩ := qP_elim h
    obtain ⟨t1, e1, h⟩ := qI_elim h
    obtain ⟨t5, e5, h⟩ := qI_elim h
    cases hk : φ 0 with
    | zero => rw [hk] at h; exact h.elim
    | succ k => rw [hk] at h; exact ⟨k, Nat.lt_succ_self k, (((Env.nil.put (some 0) (.pointer t0)).put (some 1) (.int .i64 t1)).put (some 5) (.int .i64 t5)), Env.le_put e5 (Env.le_put e1 (Env.le_put e0 (Env.le_nil _))), Eq.mp (by kernel_rfl) h⟩), ⟨⟨trivial, ⟨trivial, trivial⟩⟩, trivial⟩⟩, ⟨trivial, ⟨trivial, trivial⟩⟩⟩⟩⟩
theorem X85.sound (a0 : Option Addr) (a1 : Int) (w : World) (Q : QT) (h : X85.f a0 a1 w Q) : CallR Tryz.prog 85 #[.pointer a0, .int .i64 a1] w Q :=
  fn_sound noGr mixed Tryz.func85 (c := X85.c) (an := X85.an) (S := X85.S Q) (φ := fun _ => 0) (args := [.pointer a0, .int .i64 a1]) (by kernel_rfl) (by kernel_rfl) (by kernel_rfl) (X85.v Q) (Eq.mp (by kernel_rfl) h)
def X27.j0 (Q : QT) (t1 : Option Addr) (t2 : Addr) (w : World) : Prop := CallR Tryz.prog 63 #[.int .i64 4096] w fun v1 w2 => ∃ (y3 : Option Addr) (y4 : Int), v1 = .tuple #[.pointer y3, .int .i64 y4] ∧ bcase (y4 != (0 : Int)) (Q (.tuple #[.pointer none, .int .i64 1]) w2) (ldI .i64 w2 (t2.add 0) fun x5 => ldI .i64 w2 (t2.add 1) fun x6 => ldI .i64 w2 (t2.add 2) fun x7 => ldI .i64 w2 (t2.add 3) fun x8 => ldI .i64 w2 (t2.add 4) fun x9 => ldI .i64 w2 (t2.add 5) fun x10 => ldI .i64 w2 (t2.add 6) fun x11 => ldI .i64 w2 (t2.add 7) fun x12 => ldI .i64 w2 (t2.add 8) fun x13 => ldI .i64 w2 (t2.add 9) fun x14 => ldI .i64 w2 (t2.add 10) fun x15 => ldI .u64 w2 (t2.add 11) fun x16 => ldI .u64 w2 (t2.add 12) fun x17 => ldI .u64 w2 (t2.add 13) fun x18 => ldI .u64 w2 (t2.add 14) fun x19 => ldI .u64 w2 (t2.add 15) fun x20 => ldI .u64 w2 (t2.add 16) fun x21 => ldI .i64 w2 (t2.add 17) fun x22 => ldI .i64 w2 (t2.add 18) fun x23 => ldI .i64 w2 (t2.add 19) fun x24 => ldI .u64 w2 (t2.add 20) fun x25 => ldI .u64 w2 (t2.add 21) fun x26 => newM w2 fun r27 w28 => newK w28 #[.int .i64 x5, .int .i64 x6, .int .i64 x7, .int .i64 x8, .int .i64 x9, .int .i64 x10, .int .i64 x11, .int .i64 x12, .int .i64 x13, .int .i64 x14, .int .i64 x15, .int .u64 x16, .int .u64 x17, .int .u64 x18, .int .u64 x19, .int .u64 x20, .int .u64 x21, .int .i64 x22, .int .i64 x23, .int .i64 x24, .int .u64 x25, .int .u64 x26, .pointer t1, .pointer y3, .map (some r27), .int .u64 0] 98 fun g29 w30 => Q (.tuple #[.pointer (some g29), .int .i64 0]) w30)
def X27.f (a0_0 a0_1 a0_2 a0_3 a0_4 a0_5 a0_6 a0_7 a0_8 a0_9 a0_10 a0_11 a0_12 a0_13 a0_14 a0_15 a0_16 a0_17 a0_18 a0_19 a0_20 a0_21 : Int) (a1 : Option Addr) (w : World) (Q : QT) : Prop := newK w #[.int .i64 a0_0, .int .i64 a0_1, .int .i64 a0_2, .int .i64 a0_3, .int .i64 a0_4, .int .i64 a0_5, .int .i64 a0_6, .int .i64 a0_7, .int .i64 a0_8, .int .i64 a0_9, .int .i64 a0_10, .int .u64 a0_11, .int .u64 a0_12, .int .u64 a0_13, .int .u64 a0_14, .int .u64 a0_15, .int .u64 a0_16, .int .i64 a0_17, .int .i64 a0_18, .int .i64 a0_19, .int .u64 a0_20, .int .u64 a0_21] 27 fun g1 w2 => drewK w2 fun w3 => ldI .i64 w3 (g1.add 0) fun x4 => ldI .i64 w3 (g1.add 1) fun x5 => ldI .i64 w3 (g1.add 2) fun x6 => ldI .i64 w3 (g1.add 3) fun x7 => ldI .i64 w3 (g1.add 4) fun x8 => ldI .i64 w3 (g1.add 5) fun x9 => ldI .i64 w3 (g1.add 6) fun x10 => ldI .i64 w3 (g1.add 7) fun x11 => ldI .i64 w3 (g1.add 8) fun x12 => ldI .i64 w3 (g1.add 9) fun x13 => ldI .i64 w3 (g1.add 10) fun x14 => ldI .u64 w3 (g1.add 11) fun x15 => ldI .u64 w3 (g1.add 12) fun x16 => ldI .u64 w3 (g1.add 13) fun x17 => ldI .u64 w3 (g1.add 14) fun x18 => ldI .u64 w3 (g1.add 15) fun x19 => ldI .u64 w3 (g1.add 16) fun x20 => ldI .i64 w3 (g1.add 17) fun x21 => ldI .i64 w3 (g1.add 18) fun x22 => ldI .i64 w3 (g1.add 19) fun x23 => ldI .u64 w3 (g1.add 20) fun x24 => ldI .u64 w3 (g1.add 21) fun x25 => CallR Tryz.prog 62 #[.agg #[.int .i64 x4, .int .i64 x5, .int .i64 x6, .int .i64 x7, .int .i64 x8, .int .i64 x9, .int .i64 x10, .int .i64 x11, .int .i64 x12, .int .i64 x13, .int .i64 x14, .int .u64 x15, .int .u64 x16, .int .u64 x17, .int .u64 x18, .int .u64 x19, .int .u64 x20, .int .i64 x21, .int .i64 x22, .int .i64 x23, .int .u64 x24, .int .u64 x25]] w3 fun v26 w27 => ∃ (y28 : Bool), v26 = .bool y28 ∧ bcase (!y28) (Q (.tuple #[.pointer none, .int .i64 1]) w27) (bcase (Option.isNone a1) (Q (.tuple #[.pointer none, .int .i64 1]) w27) (CallR Tryz.prog 54 #[.pointer a1] w27 fun v29 w30 => ∃ (y31 : Int), v29 = .int .i64 y31 ∧ ldI .i64 w30 (g1.add 0) fun x32 => (World.cell? w27 (g1.add 0) = some (.int .i64 x32) ∧ World.cell? w30 (g1.add 0) = some (.int .i64 x32)) ∧ bcase (decide (y31 > x32)) (Q (.tuple #[.pointer none, .int .i64 1]) w30) (X27.j0 Q a1 g1 w30)))
def X27.S (Q : QT) : Segs
  | 0, φ, ρ, w => qP (ρ 1) fun t1 => qA (ρ 2) fun t2 => X27.j0 Q t1 t2 w
  | _, _, _, _ => False
noncomputable def X27.an : Ann := (.seq .leaf (.seq (.seq (.draw [0, 1, 3, 7, 15, 31, 63, 127, 255, 511, 255, 1279, 4095, 8191] [[0, 1, 2, 3, 4, 5, 6, 7, 8, 9, 10, 11, 12, 13]]) (.cond (.seq .leaf .leaf) .leaf)) (.join 0 (.seq .leaf (.seq (.seq .leaf (.cond (.seq .leaf .leaf) .leaf)) (.seq .leaf .leaf))))))
noncomputable def X27.c : Code := Tryz.f27.body.getD .skip
theorem X27.v (Q : QT) : V Tryz.prog (X27.S Q) X27.an X27.c (retC Tryz.prog Tryz.f27 Q) := ⟨trivial, ⟨⟨trivial, ⟨⟨trivial, trivial⟩, trivial⟩⟩, ⟨(by
    intro φ ρ w h
    simp only [X27.S] at h
    obtain ⟨t1, e1, h⟩ := qP_elim h
    obtain ⟨t2, e2, h⟩ := qA_elim h
    exact ⟨((Env.nil.put (some 1) (.pointer t1)).put (some 2) (.pointer (some t2))), Env.le_put e2 (Env.le_put e1 (Env.le_nil _)), Eq.mp (by kernel_rfl) h⟩), ⟨trivial, ⟨⟨trivial, ⟨⟨trivial, trivial⟩, trivial⟩⟩, ⟨trivial, trivial⟩⟩⟩⟩⟩⟩
theorem X27.sound (a0_0 a0_1 a0_2 a0_3 a0_4 a0_5 a0_6 a0_7 a0_8 a0_9 a0_10 a0_11 a0_12 a0_13 a0_14 a0_15 a0_16 a0_17 a0_18 a0_19 a0_20 a0_21 : Int) (a1 : Option Addr) (w : World) (Q : QT) (h : X27.f a0_0 a0_1 a0_2 a0_3 a0_4 a0_5 a0_6 a0_7 a0_8 a0_9 a0_10 a0_11 a0_12 a0_13 a0_14 a0_15 a0_16 a0_17 a0_18 a0_19 a0_20 a0_21 a1 w Q) : CallR Tryz.prog 27 #[.agg #[.int .i64 a0_0, .int .i64 a0_1, .int .i64 a0_2, .int .i64 a0_3, .int .i64 a0_4, .int .i64 a0_5, .int .i64 a0_6, .int .i64 a0_7, .int .i64 a0_8, .int .i64 a0_9, .int .i64 a0_10, .int .u64 a0_11, .int .u64 a0_12, .int .u64 a0_13, .int .u64 a0_14, .int .u64 a0_15, .int .u64 a0_16, .int .i64 a0_17, .int .i64 a0_18, .int .i64 a0_19, .int .u64 a0_20, .int .u64 a0_21], .pointer a1] w Q :=
  fn_sound noGr mixed Tryz.func27 (c := X27.c) (an := X27.an) (S := X27.S Q) (φ := fun _ => 0) (args := [.agg #[.int .i64 a0_0, .int .i64 a0_1, .int .i64 a0_2, .int .i64 a0_3, .int .i64 a0_4, .int .i64 a0_5, .int .i64 a0_6, .int .i64 a0_7, .int .i64 a0_8, .int .i64 a0_9, .int .i64 a0_10, .int .u64 a0_11, .int .u64 a0_12, .int .u64 a0_13, .int .u64 a0_14, .int .u64 a0_15, .int .u64 a0_16, .int .i64 a0_17, .int .i64 a0_18, .int .i64 a0_19, .int .u64 a0_20, .int .u64 a0_21], .pointer a1]) (by kernel_rfl) (by kernel_rfl) (by kernel_rfl) (X27.v Q) (Eq.mp (by kernel_rfl) h)
def X33.f (a0 : Option Addr) (a1 : Int) (w : World) (Q : QT) : Prop := optP a0 fun p1 => ldP w (p1.add 22) fun x2 => CallR Tryz.prog 42 #[.pointer x2, .int .u64 a1] w fun v3 w4 => ∃ (y5 y6 : Int) (y7p : Option Addr) (y7n y7c : Nat) (y8p : Option Addr) (y8n y8c : Nat) (y9 : Int) (y10 : Bool), v3 = .tuple #[.agg #[.int .u64 y5, .int .i64 y6, .slice y7p y7n y7c, .slice y8p y8n y8c, .int .i64 y9], .bool y10] ∧ newK w4 #[.int .u64 0, .int .i64 0, .slice none 0 0, .slice none 0 0, .int .i64 0] 89 fun g11 w12 => stAll w12 g11 [.int .u64 y5, .int .i64 y6, .slice y7p y7n y7c, .slice y8p y8n y8c, .int .i64 y9] fun w13 => bcase (!y10) (Q (.bool false) w13) (optP a0 fun p14 => ldM w13 (p14.add 24) fun x15 => RunR Tryz.prog (Instr.lookup 96 (.map x15) (.int .u64 a1) false) w13 fun v16 w17 => ∃ (y18 : Int), v16 = .int .i64 y18 ∧ bcase (decide (y18 > (0 : Int))) (Q (.bool false) w17) (CallR Tryz.prog 17 #[.pointer a0, .int .u64 a1] w17 fun v19 w20 => ∃ (y21p : Option Addr) (y21n y21c : Nat), v19 = .slice y21p y21n y21c ∧ bcase (((y21n : Nat) : Int) == (0 : Int)) (Q (.bool false) w20) (optP a0 fun p22 => ldM w20 (p22.add 24) fun x23 => RunR Tryz.prog (Instr.mapUpdate 96 (.map x23) (.int .u64 a1) (.int .i64 1)) w20 fun _ w25 => CallR Tryz.prog 73 #[.pointer a0, .int .u64 a1] w25 fun v26 w27 => v26 = .tuple #[] ∧ Q (.bool true) w27)))
def X33.S (Q : QT) : Segs
  | _, _, _, _ => False
noncomputable def X33.an : Ann := (.seq .leaf (.seq .leaf (.seq (.seq .leaf (.cond (.seq .leaf .leaf) .leaf)) (.seq .leaf (.seq .leaf (.seq .leaf .leaf))))))
noncomputable def X33.c : Code := Tryz.f33.body.getD .skip
theorem X33.v (Q : QT) : V Tryz.prog (X33.S Q) X33.an X33.c (retC Tryz.prog Tryz.f33 Q) := ⟨trivial, ⟨trivial, ⟨⟨trivial, ⟨⟨trivial, trivial⟩, trivial⟩⟩, ⟨trivial, ⟨trivial, ⟨trivial, trivial⟩⟩⟩⟩⟩⟩
theorem X33.sound (a0 : Option Addr) (a1 : Int) (w : World) (Q : QT) (h : X33.f a0 a1 w Q) : CallR Tryz.prog 33 #[.pointer a0, .int .u64 a1] w Q :=
  fn_sound noGr mixed Tryz.func33 (c := X33.c) (an := X33.an) (S := X33.S Q) (φ := fun _ => 0) (args := [.pointer a0, .int .u64 a1]) (by kernel_rfl) (by kernel_rfl) (by kernel_rfl) (X33.v Q) (Eq.mp (by kernel_rfl) h)
def X15.f (a0 : Option Addr) (a1 : Int) (w : World) (Q : QT) : Prop := optP a0 fun p1 => ldM w (p1.add 24) fun x2 => RunR Tryz.prog (Instr.lookup 96 (.map x2) (.int .u64 a1) false) w fun v3 w4 => ∃ (y5 : Int), v3 = .int .i64 y5 ∧ Q (.bool (decide (y5 > (0 : Int)))) w4
def X15.S (Q : QT) : Segs
  | _, _, _, _ => False
noncomputable def X15.an : Ann := (.seq .leaf (.seq .leaf .leaf))
noncomputable def X15.c : Code := Tryz.f15.body.getD .skip
theorem X15.v (Q : QT) : V Tryz.prog (X15.S Q) X15.an X15.c (retC Tryz.prog Tryz.f15 Q) := ⟨trivial, ⟨trivial, trivial⟩⟩
theorem X15.sound (a0 : Option Addr) (a1 : Int) (w : World) (Q : QT) (h : X15.f a0 a1 w Q) : CallR Tryz.prog 15 #[.pointer a0, .int .u64 a1] w Q :=
  fn_sound noGr mixed Tryz.func15 (c := X15.c) (an := X15.an) (S := X15.S Q) (φ := fun _ => 0) (args := [.pointer a0, .int .u64 a1]) (by kernel_rfl) (by kernel_rfl) (by kernel_rfl) (X15.v Q) (Eq.mp (by kernel_rfl) h)
def X35.f (a0 : Option Addr) (a1 : Int) (w : World) (Q : QT) : Prop := optP a0 fun p1 => ldM w (p1.add 24) fun x2 => RunR Tryz.prog (Instr.lookup 96 (.map x2) (.int .u64 a1) false) w fun v3 w4 => ∃ (y5 : Int), v3 = .int .i64 y5 ∧ bcase (y5 == (0 : Int)) (Q (.bool false) w4) (optP a0 fun p6 => ldM w4 (p6.add 24) fun x7 => RunR Tryz.prog (Builtin.delete_ #[96, 22] 0 #[.map x7, .int .u64 a1]) w4 fun v8 w9 => v8 = .tuple #[] ∧ CallR Tryz.prog 73 #[.pointer a0, .int .u64 a1] w9 fun v10 w11 => v10 = .tuple #[] ∧ Q (.bool true) w11)
def X35.S (Q : QT) : Segs
  | _, _, _, _ => False
noncomputable def X35.an : Ann := (.seq .leaf (.seq (.seq .leaf (.cond (.seq .leaf .leaf) .leaf)) (.seq .leaf (.seq .leaf (.seq .leaf .leaf)))))
noncomputable def X35.c : Code := Tryz.f35.body.getD .skip
theorem X35.v (Q : QT) : V Tryz.prog (X35.S Q) X35.an X35.c (retC Tryz.prog Tryz.f35 Q) := ⟨trivial, ⟨⟨trivial, ⟨⟨trivial, trivial⟩, trivial⟩⟩, ⟨trivial, ⟨trivial, ⟨trivial, trivial⟩⟩⟩⟩⟩
theorem X35.sound (a0 : Option Addr) (a1 : Int) (w : World) (Q : QT) (h : X35.f a0 a1 w Q) : CallR Tryz.prog 35 #[.pointer a0, .int .u64 a1] w Q :=
  fn_sound noGr mixed Tryz.func35 (c := X35.c) (an := X35.an) (S := X35.S Q) (φ := fun _ => 0) (args := [.pointer a0, .int .u64 a1]) (by kernel_rfl) (by kernel_rfl) (by kernel_rfl) (X35.v Q) (Eq.mp (by kernel_rfl) h)
def X39.f (a0 : Option Addr) (a1 : Int) (w : World) (Q : QT) : Prop := optP a0 fun p1 => ldM w (p1.add 4) fun x2 => RunR Tryz.prog (Instr.lookup 101 (.map x2) (.int .u64 a1) false) w fun v3 w4 => ∃ (y5 : Option Addr), v3 = .pointer y5 ∧ bcase (Option.isNone y5) (Q (.int .i64 5) w4) (drewK w4 fun w6 => optP a0 fun p7 => ldP w6 (p7.add 3) fun x8 => optP y5 fun p9 => ldI .i64 w6 (p9.add 0) fun x10 => CallR Tryz.prog 77 #[.pointer x8, .int .i64 x10] w6 fun v11 w12 => ∃ (y13 : Int), v11 = .int .i64 y13 ∧ optP a0 fun p14 => ldM w12 (p14.add 4) fun x15 => RunR Tryz.prog (Builtin.delete_ #[101, 22] 0 #[.map x15, .int .u64 a1]) w12 fun v16 w17 => v16 = .tuple #[] ∧ Q (.int .i64 0) w17)
def X39.S (Q : QT) : Segs
  | _, _, _, _ => False
noncomputable def X39.an : Ann := (.seq .leaf (.seq .leaf (.seq (.seq .leaf (.cond (.seq .leaf .leaf) .leaf)) (.seq (.draw [0, 1, 3, 7, 0, 16, 48, 112, 255] [[0, 1, 2, 3, 4, 5, 6, 7, 8]]) (.seq .leaf (.seq .leaf .leaf))))))
noncomputable def X39.c : Code := Tryz.f39.body.getD .skip
theorem X39.v (Q : QT) : V Tryz.prog (X39.S Q) X39.an X39.c (retC Tryz.prog Tryz.f39 Q) := ⟨trivial, ⟨trivial, ⟨⟨trivial, ⟨⟨trivial, trivial⟩, trivial⟩⟩, ⟨trivial, ⟨trivial, ⟨trivial, trivial⟩⟩⟩⟩⟩⟩
theorem X39.sound (a0 : Option Addr) (a1 : Int) (w : World) (Q : QT) (h : X39.f a0 a1 w Q) : CallR Tryz.prog 39 #[.pointer a0, .int .u64 a1] w Q :=
  fn_sound noGr mixed Tryz.func39 (c := X39.c) (an := X39.an) (S := X39.S Q) (φ := fun _ => 0) (args := [.pointer a0, .int .u64 a1]) (by kernel_rfl) (by kernel_rfl) (by kernel_rfl) (X39.v Q) (Eq.mp (by kernel_rfl) h)
def X37.l0 (Q : QT) : Nat → (Option Addr) → Int → (Option Addr) → Nat → Nat → Int → Int → World → Prop
  | 0, _, _, _, _, _, _, _, _ => False
  | k + 1, t0, t1, t8p, t8n, t8c, t9, t10, w => bcase (decide (t10 < t9)) ((0 ≤ t10 ∧ t10 < ((t8n : Nat) : Int)) ∧ optP t8p fun p1 => ldI .u64 w ((p1.add (Int.toNat t10 * 6)).add 0) fun x2 => ldI .i64 w ((p1.add (Int.toNat t10 * 6)).add 1) fun x3 => ldB w ((p1.add (Int.toNat t10 * 6)).add 2) fun x4 => ldI .u64 w ((p1.add (Int.toNat t10 * 6)).add 3) fun x5 => ldI .u64 w ((p1.add (Int.toNat t10 * 6)).add 4) fun x6 => ldI .i64 w ((p1.add (Int.toNat t10 * 6)).add 5) fun x7 => newK w #[.int .u64 0, .int .i64 0, .bool false, .int .u64 0, .int .u64 0, .int .i64 0] 52 fun g8 w9 => stAll w9 g8 [.int .u64 x2, .int .i64 x3, .bool x4, .int .u64 x5, .int .u64 x6, .int .i64 x7] fun w10 => drewK w10 fun w11 => optP t0 fun p12 => ldP w11 (p12.add 23) fun x13 => ldI .i64 w11 (g8.add 1) fun x14 => CallR Tryz.prog 52 #[.int .u64 t1, .int .i64 x14] w11 fun v15 w16 => ∃ (y17 : Int), v15 = .int .u64 y17 ∧ (World.cell? w11 (p12.add 23) = some (.pointer x13) ∧ World.cell? w16 (p12.add 23) = some (.pointer x13)) ∧ CallR Tryz.prog 75 #[.pointer x13, .int .u64 y17] w16 fun v18 w19 => ∃ (y20 : Bool), v18 = .bool y20 ∧ X37.l0 Q k t0 t1 t8p t8n t8c t9 (IntKind.wrap .i64 (t10 + (1 : Int))) w19) (optP t0 fun p21 => ldM w (p21.add 24) fun x22 => RunR Tryz.prog (Builtin.delete_ #[96, 22] 0 #[.map x22, .int .u64 t1]) w fun v23 w24 => v23 = .tuple #[] ∧ CallR Tryz.prog 73 #[.pointer t0, .int .u64 t1] w24 fun v25 w26 => v25 = .tuple #[] ∧ Q (.tuple #[]) w26)
def X37.f (a0 : Option Addr) (a1 : Int) (w : World) (Q : QT) : Prop := CallR Tryz.prog 49 #[.pointer a0, .int .u64 a1] w fun v1 w2 => ∃ (y3p : Option Addr) (y3n y3c : Nat), v1 = .slice y3p y3n y3c ∧ ∃ m4, X37.l0 Q m4 a0 a1 y3p y3n y3c ((y3n : Nat) : Int) (0 : Int) w2
def X37.S (Q : QT) : Segs
  | 0, φ, ρ, w => qP (ρ 0) fun t0 => qI .u64 (ρ 1) fun t1 => qSl (ρ 8) fun t8p t8n t8c => qI .i64 (ρ 9) fun t9 => qI .i64 (ρ 10) fun t10 => X37.l0 Q (φ 0) t0 t1 t8p t8n t8c t9 t10 w
  | _, _, _, _ => False
noncomputable def X37.an : Ann := (.seq (.seq .leaf (.block (.loop 0 (.seq .leaf (.seq (.cond .leaf .leaf) (.seq (.block (.seq .leaf (.draw [0, 1, 3, 7, 0, 0, 32, 112, 255] [[0, 1, 2, 3, 4, 5, 6, 7, 8]]))) .leaf)))))) (.seq .leaf .leaf))
noncomputable def X37.c : Code := Tryz.f37.body.getD .skip
theorem X37.v (Q : QT) : V Tryz.prog (X37.S Q) X37.an X37.c (retC Tryz.prog Tryz.f37 Q) := ⟨⟨trivial, ⟨(by
    intro φ ρ w h
    simp only [X37.S] at h
    obtain ⟨t0, e0, h⟩ := qP_elim h
    obtain ⟨t1, e1, h⟩ := qI_elim h
    obtain ⟨t8p, t8n, t8c, e8, h⟩ := qSl_elim h
    obtain ⟨t9, e9, h⟩ := qI_elim h
    obtain ⟨t10, e10, h⟩ := qI_elim h
    cases hk : φ 0 with
    | zero => rw [hk] at h; exact h.elim
    | succ k => rw [hk] at h; exact ⟨k, Nat.lt_succ_self k, (((((Env.nil.put (some 0) (.pointer t0)).put (some 1) (.int .u64 t1)).put (some 8) (.slice t8p t8n t8c)).put (some 9) (.int .i64 t9)).put (some 10) (.int .i64 t10)), Env.le_put e10 (Env.le_put e9 (Env.le_put e8 (Env.le_put e1 (Env.le_put e0 (Env.le_nil _))))), Eq.mp (by kernel_rfl) h⟩), ⟨trivial, ⟨⟨trivial, trivial⟩, ⟨⟨trivial, trivial⟩, trivial⟩⟩⟩⟩⟩, ⟨trivial, trivial⟩⟩
theorem X37.sound (a0 : Option Addr) (a1 : Int) (w : World) (Q : QT) (h : X37.f a0 a1 w Q) : CallR Tryz.prog 37 #[.pointer a0, .int .u64 a1] w Q :=
  fn_sound noGr mixed Tryz.func37 (c := X37.c) (an := X37.an) (S := X37.S Q) (φ := fun _ => 0) (args := [.pointer a0, .int .u64 a1]) (by kernel_rfl) (by kernel_rfl) (by kernel_rfl) (X37.v Q) (Eq.mp (by kernel_rfl) h)
def X23.j0 (Q : QT) (t0 t1 t2 t3 : Int) (w : World) : Prop := CallR Tryz.prog 57 #[.int .i64 t1] w fun v1 w2 => ∃ (y3 : Option Addr) (y4 : Int), v1 = .tuple #[.pointer y3, .int .i64 y4] ∧ bcase (y4 != (0 : Int)) (Q (.tuple #[.pointer none, .int .i64 1]) w2) (newM w2 fun r5 w6 => newK w6 #[.int .i64 t0, .int .i64 t2, .int .u64 t3, .pointer y3, .map (some r5)] 103 fun g7 w8 => Q (.tuple #[.pointer (some g7), .int .i64 0]) w8)
def X23.f (a0 a1 a2 a3 : Int) (w : World) (Q : QT) : Prop := bcase (decide (a0 < (1 : Int))) (Q (.tuple #[.pointer none, .int .i64 1]) w) (bcase (decide (a0 > (64 : Int))) (Q (.tuple #[.pointer none, .int .i64 1]) w) (bcase (decide (a2 < (1 : Int))) (Q (.tuple #[.pointer none, .int .i64 1]) w) (bcase (decide (a2 > (64 : Int))) (Q (.tuple #[.pointer none, .int .i64 1]) w) (bcase (decide (a3 > (72057594037927935 : Int))) (Q (.tuple #[.pointer none, .int .i64 1]) w) (X23.j0 Q a0 a1 a2 a3 w)))))
def X23.S (Q : QT) : Segs
  | 0, φ, ρ, w => qI .i64 (ρ 0) fun t0 => qI .i64 (ρ 1) fun t1 => qI .i64 (ρ 2) fun t2 => qI .u64 (ρ 3) fun t3 => X23.j0 Q t0 t1 t2 t3 w
  | _, _, _, _ => False
noncomputable def X23.an : Ann := (.seq .leaf (.seq (.seq .leaf (.cond (.seq .leaf .leaf) .leaf)) (.join 0 (.seq .leaf (.seq (.seq .leaf (.cond (.seq .leaf .leaf) .leaf)) (.seq .leaf .leaf))))))
noncomputable def X23.c : Code := Tryz.f23.body.getD .skip
theorem X23.v (Q : QT) : V Tryz.prog (X23.S Q) X23.an X23.c (retC Tryz.prog Tryz.f23 Q) := ⟨trivial, ⟨⟨trivial, ⟨⟨trivial, trivial⟩, trivial⟩⟩, ⟨(by
    intro φ ρ w h
    simp only [X23.S] at h
    obtain ⟨t0, e0, h⟩ := qI_elim h
    obtain ⟨t1, e1, h⟩ := qI_elim h
    obtain ⟨t2, e2, h⟩ := qI_elim h
    obtain ⟨t3, e3, h⟩ := qI_elim h
    exact ⟨((((Env.nil.put (some 0) (.int .i64 t0)).put (some 1) (.int .i64 t1)).put (some 2) (.int .i64 t2)).put (some 3) (.int .u64 t3)), Env.le_put e3 (Env.le_put e2 (Env.le_put e1 (Env.le_put e0 (Env.le_nil _)))), Eq.mp (by kernel_rfl) h⟩), ⟨trivial, ⟨⟨trivial, ⟨⟨trivial, trivial⟩, trivial⟩⟩, ⟨trivial, trivial⟩⟩⟩⟩⟩⟩
theorem X23.sound (a0 a1 a2 a3 : Int) (w : World) (Q : QT) (h : X23.f a0 a1 a2 a3 w Q) : CallR Tryz.prog 23 #[.int .i64 a0, .int .i64 a1, .int .i64 a2, .int .u64 a3] w Q :=
  fn_sound noGr mixed Tryz.func23 (c := X23.c) (an := X23.an) (S := X23.S Q) (φ := fun _ => 0) (args := [.int .i64 a0, .int .i64 a1, .int .i64 a2, .int .u64 a3]) (by kernel_rfl) (by kernel_rfl) (by kernel_rfl) (X23.v Q) (Eq.mp (by kernel_rfl) h)
def X19.j0 (Q : QT) (t4 t8 t11 t12_0 t17_0 t17_1 t17_2 t17_3 t18 : Addr) (t91 : Bool) (w : World) : Prop := bcase t91 (CallR Tryz.prog 51 #[.int .i64 4, .pointer (some t12_0)] w fun v1 w2 => ∃ (y3 y4 y5 y6 y7 y8 y9 y10 y11 y12 : Int) (y13p : Option Addr) (y13n y13c : Nat) (y14 y15 y16 y17 y18 y19 y20 : Int) (y21p : Option Addr) (y21n y21c : Nat), v1 = .agg #[.int .i64 y3, .int .i64 y4, .int .i64 y5, .int .u64 y6, .int .u64 y7, .int .i64 y8, .int .i64 y9, .int .i64 y10, .int .i64 y11, .int .u64 y12, .slice y13p y13n y13c, .int .u64 y14, .int .i64 y15, .int .u64 y16, .int .i64 y17, .int .u64 y18, .int .i64 y19, .int .u64 y20, .slice y21p y21n y21c] ∧ stAll w2 t8 [.int .i64 y3, .int .i64 y4, .int .i64 y5, .int .u64 y6, .int .u64 y7, .int .i64 y8, .int .i64 y9, .int .i64 y10, .int .i64 y11, .int .u64 y12, .slice y13p y13n y13c, .int .u64 y14, .int .i64 y15, .int .u64 y16, .int .i64 y17, .int .u64 y18, .int .i64 y19, .int .u64 y20, .slice y21p y21n y21c] fun w22 => ldI .i64 w22 (t8.add 0) fun x23 => ldI .i64 w22 (t8.add 1) fun x24 => ldI .i64 w22 (t8.add 2) fun x25 => ldI .u64 w22 (t8.add 3) fun x26 => ldI .u64 w22 (t8.add 4) fun x27 => ldI .i64 w22 (t8.add 5) fun x28 => ldI .i64 w22 (t8.add 6) fun x29 => ldI .i64 w22 (t8.add 7) fun x30 => ldI .i64 w22 (t8.add 8) fun x31 => ldI .u64 w22 (t8.add 9) fun x32 => ldSl w22 (t8.add 10) fun x33p x33n x33c => ldI .u64 w22 (t8.add 11) fun x34 => ldI .i64 w22 (t8.add 12) fun x35 => ldI .u64 w22 (t8.add 13) fun x36 => ldI .i64 w22 (t8.add 14) fun x37 => ldI .u64 w22 (t8.add 15) fun x38 => ldI .i64 w22 (t8.add 16) fun x39 => ldI .u64 w22 (t8.add 17) fun x40 => ldSl w22 (t8.add 18) fun x41p x41n x41c => Q (.tuple #[.agg #[.int .i64 x23, .int .i64 x24, .int .i64 x25, .int .u64 x26, .int .u64 x27, .int .i64 x28, .int .i64 x29, .int .i64 x30, .int .i64 x31, .int .u64 x32, .slice x33p x33n x33c, .int .u64 x34, .int .i64 x35, .int .u64 x36, .int .i64 x37, .int .u64 x38, .int .i64 x39, .int .u64 x40, .slice x41p x41n x41c], .bool false, .bool true]) w22) (CallR Tryz.prog 53 #[.pointer (some t17_0), .pointer (some t17_1), .pointer (some t17_2), .pointer (some t17_3)] w fun v42 w43 => ∃ (y44 : Bool), v42 = .bool y44 ∧ bcase (!y44) (stK w43 (t18.add 2) (.bool false) fun w45 => ldP w45 t4 fun x46 => ldI .u64 w45 (t18.add 0) fun x47 => ldI .i64 w45 (t18.add 1) fun x48 => ldB w45 (t18.add 2) fun x49 => ldI .u64 w45 (t18.add 3) fun x50 => ldI .u64 w45 (t18.add 4) fun x51 => ldI .i64 w45 (t18.add 5) fun x52 => CallR Tryz.prog 55 #[.pointer x46, .agg #[.int .u64 x47, .int .i64 x48, .bool x49, .int .u64 x50, .int .u64 x51, .int .i64 x52]] w45 fun v53 w54 => v53 = .tuple #[] ∧ CallR Tryz.prog 51 #[.int .i64 4, .pointer (some t12_0)] w54 fun v55 w56 => ∃ (y57 y58 y59 y60 y61 y62 y63 y64 y65 y66 : Int) (y67p : Option Addr) (y67n y67c : Nat) (y68 y69 y70 y71 y72 y73 y74 : Int) (y75p : Option Addr) (y75n y75c : Nat), v55 = .agg #[.int .i64 y57, .int .i64 y58, .int .i64 y59, .int .u64 y60, .int .u64 y61, .int .i64 y62, .int .i64 y63, .int .i64 y64, .int .i64 y65, .int .u64 y66, .slice y67p y67n y67c, .int .u64 y68, .int .i64 y69, .int .u64 y70, .int .i64 y71, .int .u64 y72, .int .i64 y73, .int .u64 y74, .slice y75p y75n y75c] ∧ stAll w56 t8 [.int .i64 y57, .int .i64 y58, .int .i64 y59, .int .u64 y60, .int .u64 y61, .int .i64 y62, .int .i64 y63, .int .i64 y64, .int .i64 y65, .int .u64 y66, .slice y67p y67n y67c, .int .u64 y68, .int .i64 y69, .int .u64 y70, .int .i64 y71, .int .u64 y72, .int .i64 y73, .int .u64 y74, .slice y75p y75n y75c] fun w76 => ldI .i64 w76 (t8.add 0) fun x77 => ldI .i64 w76 (t8.add 1) fun x78 => ldI .i64 w76 (t8.add 2) fun x79 => ldI .u64 w76 (t8.add 3) fun x80 => ldI .u64 w76 (t8.add 4) fun x81 => ldI .i64 w76 (t8.add 5) fun x82 => ldI .i64 w76 (t8.add 6) fun x83 => ldI .i64 w76 (t8.add 7) fun x84 => ldI .i64 w76 (t8.add 8) fun x85 => ldI .u64 w76 (t8.add 9) fun x86 => ldSl w76 (t8.add 10) fun x87p x87n x87c => ldI .u64 w76 (t8.add 11) fun x88 => ldI .i64 w76 (t8.add 12) fun x89 => ldI .u64 w76 (t8.add 13) fun x90 => ldI .i64 w76 (t8.add 14) fun x91 => ldI .u64 w76 (t8.add 15) fun x92 => ldI .i64 w76 (t8.add 16) fun x93 => ldI .u64 w76 (t8.add 17) fun x94 => ldSl w76 (t8.add 18) fun x95p x95n x95c => Q (.tuple #[.agg #[.int .i64 x77, .int .i64 x78, .int .i64 x79, .int .u64 x80, .int .u64 x81, .int .i64 x82, .int .i64 x83, .int .i64 x84, .int .i64 x85, .int .u64 x86, .slice x87p x87n x87c, .int .u64 x88, .int .i64 x89, .int .u64 x90, .int .i64 x91, .int .u64 x92, .int .i64 x93, .int .u64 x94, .slice x95p x95n x95c], .bool false, .bool true]) w76) (drewK w43 fun w96 => ldP w96 t4 fun x97 => optP x97 fun p98 => ldM w96 (p98.add 24) fun x99 => ldI .u64 w96 t11 fun x100 => RunR Tryz.prog (Builtin.delete_ #[96, 22] 0 #[.map x99, .int .u64 x100]) w96 fun v101 w102 => v101 = .tuple #[] ∧ ldP w102 t4 fun x103 => ldI .u64 w102 (t18.add 0) fun x104 => ldI .i64 w102 (t18.add 1) fun x105 => ldB w102 (t18.add 2) fun x106 => ldI .u64 w102 (t18.add 3) fun x107 => ldI .u64 w102 (t18.add 4) fun x108 => ldI .i64 w102 (t18.add 5) fun x109 => CallR Tryz.prog 55 #[.pointer x103, .agg #[.int .u64 x104, .int .i64 x105, .bool x106, .int .u64 x107, .int .u64 x108, .int .i64 x109]] w102 fun v110 w111 => v110 = .tuple #[] ∧ CallR Tryz.prog 51 #[.int .i64 0, .pointer (some t12_0)] w111 fun v112 w113 => ∃ (y114 y115 y116 y117 y118 y119 y120 y121 y122 y123 : Int) (y124p : Option Addr) (y124n y124c : Nat) (y125 y126 y127 y128 y129 y130 y131 : Int) (y132p : Option Addr) (y132n y132c : Nat), v112 = .agg #[.int .i64 y114, .int .i64 y115, .int .i64 y116, .int .u64 y117, .int .u64 y118, .int .i64 y119, .int .i64 y120, .int .i64 y121, .int .i64 y122, .int .u64 y123, .slice y124p y124n y124c, .int .u64 y125, .int .i64 y126, .int .u64 y127, .int .i64 y128, .int .u64 y129, .int .i64 y130, .int .u64 y131, .slice y132p y132n y132c] ∧ stAll w113 t8 [.int .i64 y114, .int .i64 y115, .int .i64 y116, .int .u64 y117, .int .u64 y118, .int .i64 y119, .int .i64 y120, .int .i64 y121, .int .i64 y122, .int .u64 y123, .slice y124p y124n y124c, .int .u64 y125, .int .i64 y126, .int .u64 y127, .int .i64 y128, .int .u64 y129, .int .i64 y130, .int .u64 y131, .slice y132p y132n y132c] fun w133 => ldI .i64 w133 (t8.add 0) fun x134 => ldI .i64 w133 (t8.add 1) fun x135 => ldI .i64 w133 (t8.add 2) fun x136 => ldI .u64 w133 (t8.add 3) fun x137 => ldI .u64 w133 (t8.add 4) fun x138 => ldI .i64 w133 (t8.add 5) fun x139 => ldI .i64 w133 (t8.add 6) fun x140 => ldI .i64 w133 (t8.add 7) fun x141 => ldI .i64 w133 (t8.add 8) fun x142 => ldI .u64 w133 (t8.add 9) fun x143 => ldSl w133 (t8.add 10) fun x144p x144n x144c => ldI .u64 w133 (t8.add 11) fun x145 => ldI .i64 w133 (t8.add 12) fun x146 => ldI .u64 w133 (t8.add 13) fun x147 => ldI .i64 w133 (t8.add 14) fun x148 => ldI .u64 w133 (t8.add 15) fun x149 => ldI .i64 w133 (t8.add 16) fun x150 => ldI .u64 w133 (t8.add 17) fun x151 => ldSl w133 (t8.add 18) fun x152p x152n x152c => Q (.tuple #[.agg #[.int .i64 x134, .int .i64 x135, .int .i64 x136, .int .u64 x137, .int .u64 x138, .int .i64 x139, .int .i64 x140, .int .i64 x141, .int .i64 x142, .int .u64 x143, .slice x144p x144n x144c, .int .u64 x145, .int .i64 x146, .int .u64 x147, .int .i64 x148, .int .u64 x149, .int .i64 x150, .int .u64 x151, .slice x152p x152n x152c], .bool true, .bool true]) w133))
def X19.j1 (Q : QT) (t4 t5 t8 t11 t12_0 t15 : Addr) (t16 : Bool) (t17_0 t17_1 t17_2 t17_3 t18 : Addr) (t73 : Bool) (w : World) : Prop := bcase t73 (ldP w t4 fun x1 => ldI .u64 w (t18.add 0) fun x2 => ldI .i64 w (t18.add 1) fun x3 => ldB w (t18.add 2) fun x4 => ldI .u64 w (t18.add 3) fun x5 => ldI .u64 w (t18.add 4) fun x6 => ldI .i64 w (t18.add 5) fun x7 => CallR Tryz.prog 55 #[.pointer x1, .agg #[.int .u64 x2, .int .i64 x3, .bool x4, .int .u64 x5, .int .u64 x6, .int .i64 x7]] w fun v8 w9 => v8 = .tuple #[] ∧ CallR Tryz.prog 51 #[.int .i64 0, .pointer (some t12_0)] w9 fun v10 w11 => ∃ (y12 y13 y14 y15 y16 y17 y18 y19 y20 y21 : Int) (y22p : Option Addr) (y22n y22c : Nat) (y23 y24 y25 y26 y27 y28 y29 : Int) (y30p : Option Addr) (y30n y30c : Nat), v10 = .agg #[.int .i64 y12, .int .i64 y13, .int .i64 y14, .int .u64 y15, .int .u64 y16, .int .i64 y17, .int .i64 y18, .int .i64 y19, .int .i64 y20, .int .u64 y21, .slice y22p y22n y22c, .int .u64 y23, .int .i64 y24, .int .u64 y25, .int .i64 y26, .int .u64 y27, .int .i64 y28, .int .u64 y29, .slice y30p y30n y30c] ∧ stAll w11 t8 [.int .i64 y12, .int .i64 y13, .int .i64 y14, .int .u64 y15, .int .u64 y16, .int .i64 y17, .int .i64 y18, .int .i64 y19, .int .i64 y20, .int .u64 y21, .slice y22p y22n y22c, .int .u64 y23, .int .i64 y24, .int .u64 y25, .int .i64 y26, .int .u64 y27, .int .i64 y28, .int .u64 y29, .slice y30p y30n y30c] fun w31 => ldI .i64 w31 (t8.add 0) fun x32 => ldI .i64 w31 (t8.add 1) fun x33 => ldI .i64 w31 (t8.add 2) fun x34 => ldI .u64 w31 (t8.add 3) fun x35 => ldI .u64 w31 (t8.add 4) fun x36 => ldI .i64 w31 (t8.add 5) fun x37 => ldI .i64 w31 (t8.add 6) fun x38 => ldI .i64 w31 (t8.add 7) fun x39 => ldI .i64 w31 (t8.add 8) fun x40 => ldI .u64 w31 (t8.add 9) fun x41 => ldSl w31 (t8.add 10) fun x42p x42n x42c => ldI .u64 w31 (t8.add 11) fun x43 => ldI .i64 w31 (t8.add 12) fun x44 => ldI .u64 w31 (t8.add 13) fun x45 => ldI .i64 w31 (t8.add 14) fun x46 => ldI .u64 w31 (t8.add 15) fun x47 => ldI .i64 w31 (t8.add 16) fun x48 => ldI .u64 w31 (t8.add 17) fun x49 => ldSl w31 (t8.add 18) fun x50p x50n x50c => Q (.tuple #[.agg #[.int .i64 x32, .int .i64 x33, .int .i64 x34, .int .u64 x35, .int .u64 x36, .int .i64 x37, .int .i64 x38, .int .i64 x39, .int .i64 x40, .int .u64 x41, .slice x42p x42n x42c, .int .u64 x43, .int .i64 x44, .int .u64 x45, .int .i64 x46, .int .u64 x47, .int .i64 x48, .int .u64 x49, .slice x50p x50n x50c], .bool false, .bool true]) w31) (bcase t16 (ldI .u64 w (t15.add 3) fun x51 => ldI .u64 w (t5.add 13) fun x52 => X19.j0 Q t4 t8 t11 t12_0 t17_0 t17_1 t17_2 t17_3 t18 (x51 == x52) w) (X19.j0 Q t4 t8 t11 t12_0 t17_0 t17_1 t17_2 t17_3 t18 false w))
def X19.j2 (Q : QT) (t4 t5 t8 t11 t12_0 t15 : Addr) (t16 : Bool) (t17_0 t17_1 t17_2 t17_3 t18 : Addr) (t63 : Bool) (w : World) : Prop := bcase t63 (stAll w t8 [.int .i64 0, .int .i64 0, .int .i64 0, .int .u64 0, .int .u64 0, .int .i64 0, .int .i64 0, .int .i64 0, .int .i64 0, .int .u64 0, .slice none 0 0, .int .u64 0, .int .i64 0, .int .u64 0, .int .i64 0, .int .u64 0, .int .i64 0, .int .u64 0, .slice none 0 0] fun w1 => ldI .i64 w1 (t8.add 0) fun x2 => ldI .i64 w1 (t8.add 1) fun x3 => ldI .i64 w1 (t8.add 2) fun x4 => ldI .u64 w1 (t8.add 3) fun x5 => ldI .u64 w1 (t8.add 4) fun x6 => ldI .i64 w1 (t8.add 5) fun x7 => ldI .i64 w1 (t8.add 6) fun x8 => ldI .i64 w1 (t8.add 7) fun x9 => ldI .i64 w1 (t8.add 8) fun x10 => ldI .u64 w1 (t8.add 9) fun x11 => ldSl w1 (t8.add 10) fun x12p x12n x12c => ldI .u64 w1 (t8.add 11) fun x13 => ldI .i64 w1 (t8.add 12) fun x14 => ldI .u64 w1 (t8.add 13) fun x15 => ldI .i64 w1 (t8.add 14) fun x16 => ldI .u64 w1 (t8.add 15) fun x17 => ldI .i64 w1 (t8.add 16) fun x18 => ldI .u64 w1 (t8.add 17) fun x19 => ldSl w1 (t8.add 18) fun x20p x20n x20c => Q (.tuple #[.agg #[.int .i64 x2, .int .i64 x3, .int .i64 x4, .int .u64 x5, .int .u64 x6, .int .i64 x7, .int .i64 x8, .int .i64 x9, .int .i64 x10, .int .u64 x11, .slice x12p x12n x12c, .int .u64 x13, .int .i64 x14, .int .u64 x15, .int .i64 x16, .int .u64 x17, .int .i64 x18, .int .u64 x19, .slice x20p x20n x20c], .bool false, .bool false]) w1) (bcase t16 (ldI .u64 w (t15.add 3) fun x21 => ldI .u64 w (t5.add 13) fun x22 => bcase (x21 == x22) (ldB w (t15.add 2) fun x23 => X19.j1 Q t4 t5 t8 t11 t12_0 t15 t16 t17_0 t17_1 t17_2 t17_3 t18 x23 w) (X19.j1 Q t4 t5 t8 t11 t12_0 t15 t16 t17_0 t17_1 t17_2 t17_3 t18 false w)) (X19.j1 Q t4 t5 t8 t11 t12_0 t15 t16 t17_0 t17_1 t17_2 t17_3 t18 false w))
def X19.j3 (Q : QT) (t3 : Int) (t4 t5 t6 t8 t11 t12_0 t15 : Addr) (t16 : Bool) (w : World) : Prop := ldI .u64 w t11 fun x1 => ldI .i64 w (t5.add 1) fun x2 => ldI .u64 w (t5.add 13) fun x3 => ldI .i64 w (t5.add 16) fun x4 => newK w #[.int .u64 0, .int .i64 0, .bool false, .int .u64 0, .int .u64 0, .int .i64 0] 52 fun g5 w6 => stAll w6 g5 [.int .u64 x1, .int .i64 x2, .bool true, .int .u64 x3, .int .u64 t3, .int .i64 x4] fun w7 => bcase t16 (ldI .u64 w7 (t15.add 3) fun x8 => ldI .u64 w7 (t5.add 13) fun x9 => X19.j2 Q t4 t5 t8 t11 t12_0 t15 t16 t5 t4 t6 t11 g5 (decide (x8 > x9)) w7) (X19.j2 Q t4 t5 t8 t11 t12_0 t15 t16 t5 t4 t6 t11 g5 false w7)
def X19.j4 (Q : QT) (t3 : Int) (t4 t5 t6 t8 t11 t12_0 : Addr) (w : World) : Prop := drewK w fun w1 => (ldP w1 t4 fun x2 => optP x2 fun p3 => ldP w1 (p3.add 23) fun x4 => ldI .u64 w1 t11 fun x5 => ldI .i64 w1 (t5.add 1) fun x6 => CallR Tryz.prog 52 #[.int .u64 x5, .int .i64 x6] w1 fun v7 w8 => ∃ (y9 : Int), v7 = .int .u64 y9 ∧ (World.cell? w1 (p3.add 23) = some (.pointer x4) ∧ World.cell? w8 (p3.add 23) = some (.pointer x4)) ∧ (World.cell? w1 t4 = some (.pointer x2) ∧ World.cell? w8 t4 = some (.pointer x2)) ∧ CallR Tryz.prog 48 #[.pointer x4, .int .u64 y9] w8 fun v10 w11 => ∃ (y12 y13 : Int) (y14 : Bool) (y15 y16 y17 : Int) (y18 : Bool), v10 = .tuple #[.agg #[.int .u64 y12, .int .i64 y13, .bool y14, .int .u64 y15, .int .u64 y16, .int .i64 y17], .bool y18] ∧ newK w11 #[.int .u64 0, .int .i64 0, .bool false, .int .u64 0, .int .u64 0, .int .i64 0] 52 fun g19 w20 => (World.cell? w11 (t5.add 1) = some (.int .i64 x6) ∧ World.cell? w20 (t5.add 1) = some (.int .i64 x6)) ∧ (World.cell? w11 t11 = some (.int .u64 x5) ∧ World.cell? w20 t11 = some (.int .u64 x5)) ∧ (World.cell? w11 (p3.add 23) = some (.pointer x4) ∧ World.cell? w20 (p3.add 23) = some (.pointer x4)) ∧ (World.cell? w11 t4 = some (.pointer x2) ∧ World.cell? w20 t4 = some (.pointer x2)) ∧ stAll w20 g19 [.int .u64 y12, .int .i64 y13, .bool y14, .int .u64 y15, .int .u64 y16, .int .i64 y17] fun w21 => X19.j3 Q t3 t4 t5 t6 t8 t11 t12_0 g19 y18 w21) ∧ ((ldP w1 t4 fun x22 => optP x22 fun p23 => ldP w1 (p23.add 23) fun x24 => ldI .u64 w1 t11 fun x25 => ldI .i64 w1 (t5.add 1) fun x26 => CallR Tryz.prog 52 #[.int .u64 x25, .int .i64 x26] w1 fun v27 w28 => ∃ (y29 : Int), v27 = .int .u64 y29 ∧ (World.cell? w1 (p23.add 23) = some (.pointer x24) ∧ World.cell? w28 (p23.add 23) = some (.pointer x24)) ∧ (World.cell? w1 t4 = some (.pointer x22) ∧ World.cell? w28 t4 = some (.pointer x22)) ∧ newK w28 #[.int .u64 0, .int .i64 0, .bool false, .int .u64 0, .int .u64 0, .int .i64 0] 52 fun g30 w31 => (World.cell? w28 (t5.add 1) = some (.int .i64 x26) ∧ World.cell? w31 (t5.add 1) = some (.int .i64 x26)) ∧ (World.cell? w28 t11 = some (.int .u64 x25) ∧ World.cell? w31 t11 = some (.int .u64 x25)) ∧ (World.cell? w28 (p23.add 23) = some (.pointer x24) ∧ World.cell? w31 (p23.add 23) = some (.pointer x24)) ∧ (World.cell? w28 t4 = some (.pointer x22) ∧ World.cell? w31 t4 = some (.pointer x22)) ∧ CallR Tryz.prog 48 #[.pointer x24, .int .u64 y29] w31 fun v32 w33 => ∃ (y34 y35 : Int) (y36 : Bool) (y37 y38 y39 : Int) (y40 : Bool), v32 = .tuple #[.agg #[.int .u64 y34, .int .i64 y35, .bool y36, .int .u64 y37, .int .u64 y38, .int .i64 y39], .bool y40] ∧ stAll w33 g30 [.int .u64 y34, .int .i64 y35, .bool y36, .int .u64 y37, .int .u64 y38, .int .i64 y39] fun w41 => X19.j3 Q t3 t4 t5 t6 t8 t11 t12_0 g30 y40 w41) ∧ (ldP w1 t4 fun x42 => optP x42 fun p43 => ldP w1 (p43.add 23) fun x44 => ldI .u64 w1 t11 fun x45 => ldI .i64 w1 (t5.add 1) fun x46 => newK w1 #[.int .u64 0, .int .i64 0, .bool false, .int .u64 0, .int .u64 0, .int .i64 0] 52 fun g47 w48 => (World.cell? w1 (t5.add 1) = some (.int .i64 x46) ∧ World.cell? w48 (t5.add 1) = some (.int .i64 x46)) ∧ (World.cell? w1 t11 = some (.int .u64 x45) ∧ World.cell? w48 t11 = some (.int .u64 x45)) ∧ (World.cell? w1 (p43.add 23) = some (.pointer x44) ∧ World.cell? w48 (p43.add 23) = some (.pointer x44)) ∧ (World.cell? w1 t4 = some (.pointer x42) ∧ World.cell? w48 t4 = some (.pointer x42)) ∧ CallR Tryz.prog 52 #[.int .u64 x45, .int .i64 x46] w48 fun v49 w50 => ∃ (y51 : Int), v49 = .int .u64 y51 ∧ (World.cell? w48 (p43.add 23) = some (.pointer x44) ∧ World.cell? w50 (p43.add 23) = some (.pointer x44)) ∧ (World.cell? w48 t4 = some (.pointer x42) ∧ World.cell? w50 t4 = some (.pointer x42)) ∧ CallR Tryz.prog 48 #[.pointer x44, .int .u64 y51] w50 fun v52 w53 => ∃ (y54 y55 : Int) (y56 : Bool) (y57 y58 y59 : Int) (y60 : Bool), v52 = .tuple #[.agg #[.int .u64 y54, .int .i64 y55, .bool y56, .int .u64 y57, .int .u64 y58, .int .i64 y59], .bool y60] ∧ stAll w53 g47 [.int .u64 y54, .int .i64 y55, .bool y56, .int .u64 y57, .int .u64 y58, .int .i64 y59] fun w61 => X19.j3 Q t3 t4 t5 t6 t8 t11 t12_0 g47 y60 w61))
def X19.f (a0 : Option Addr) (a1_0 a1_1 a1_2 a1_3 a1_4 a1_5 a1_6 a1_7 a1_8 a1_9 : Int) (a1_10p : Option Addr) (a1_10n a1_10c : Nat) (a1_11 a1_12 a1_13 a1_14 a1_15 a1_16 a1_17 : Int) (a1_18p : Option Addr) (a1_18n a1_18c : Nat) (a2 : Bool) (a3 : Int) (w : World) (Q : QT) : Prop := newK w #[.pointer a0] 29 fun g1 w2 => newK w2 #[.int .i64 a1_0, .int .i64 a1_1, .int .i64 a1_2, .int .u64 a1_3, .int .u64 a1_4, .int .i64 a1_5, .int .i64 a1_6, .int .i64 a1_7, .int .i64 a1_8, .int .u64 a1_9, .slice a1_10p a1_10n a1_10c, .int .u64 a1_11, .int .i64 a1_12, .int .u64 a1_13, .int .i64 a1_14, .int .u64 a1_15, .int .i64 a1_16, .int .u64 a1_17, .slice a1_18p a1_18n a1_18c] 41 fun g3 w4 => newK w4 #[.bool a2] 4 fun g5 w6 => newK w6 #[.int .i64 0, .int .i64 0, .int .i64 0, .int .u64 0, .int .u64 0, .int .i64 0, .int .i64 0, .int .i64 0, .int .i64 0, .int .u64 0, .slice none 0 0, .int .u64 0, .int .i64 0, .int .u64 0, .int .i64 0, .int .u64 0, .int .i64 0, .int .u64 0, .slice none 0 0] 41 fun g7 w8 => ldP w8 g1 fun x9 => ldI .i64 w8 (g3.add 0) fun x10 => ldI .i64 w8 (g3.add 1) fun x11 => ldI .i64 w8 (g3.add 2) fun x12 => ldI .u64 w8 (g3.add 3) fun x13 => ldI .u64 w8 (g3.add 4) fun x14 => ldI .i64 w8 (g3.add 5) fun x15 => ldI .i64 w8 (g3.add 6) fun x16 => ldI .i64 w8 (g3.add 7) fun x17 => ldI .i64 w8 (g3.add 8) fun x18 => ldI .u64 w8 (g3.add 9) fun x19 => ldSl w8 (g3.add 10) fun x20p x20n x20c => ldI .u64 w8 (g3.add 11) fun x21 => ldI .i64 w8 (g3.add 12) fun x22 => ldI .u64 w8 (g3.add 13) fun x23 => ldI .i64 w8 (g3.add 14) fun x24 => ldI .u64 w8 (g3.add 15) fun x25 => ldI .i64 w8 (g3.add 16) fun x26 => ldI .u64 w8 (g3.add 17) fun x27 => ldSl w8 (g3.add 18) fun x28p x28n x28c => CallR Tryz.prog 50 #[.pointer x9, .agg #[.int .i64 x10, .int .i64 x11, .int .i64 x12, .int .u64 x13, .int .u64 x14, .int .i64 x15, .int .i64 x16, .int .i64 x17, .int .i64 x18, .int .u64 x19, .slice x20p x20n x20c, .int .u64 x21, .int .i64 x22, .int .u64 x23, .int .i64 x24, .int .u64 x25, .int .i64 x26, .int .u64 x27, .slice x28p x28n x28c], .int .i64 4] w8 fun v29 w30 => ∃ (y31 : Bool), v29 = .bool y31 ∧ bcase (!y31) (stAll w30 g7 [.int .i64 0, .int .i64 0, .int .i64 0, .int .u64 0, .int .u64 0, .int .i64 0, .int .i64 0, .int .i64 0, .int .i64 0, .int .u64 0, .slice none 0 0, .int .u64 0, .int .i64 0, .int .u64 0, .int .i64 0, .int .u64 0, .int .i64 0, .int .u64 0, .slice none 0 0] fun w32 => ldI .i64 w32 (g7.add 0) fun x33 => ldI .i64 w32 (g7.add 1) fun x34 => ldI .i64 w32 (g7.add 2) fun x35 => ldI .u64 w32 (g7.add 3) fun x36 => ldI .u64 w32 (g7.add 4) fun x37 => ldI .i64 w32 (g7.add 5) fun x38 => ldI .i64 w32 (g7.add 6) fun x39 => ldI .i64 w32 (g7.add 7) fun x40 => ldI .i64 w32 (g7.add 8) fun x41 => ldI .u64 w32 (g7.add 9) fun x42 => ldSl w32 (g7.add 10) fun x43p x43n x43c => ldI .u64 w32 (g7.add 11) fun x44 => ldI .i64 w32 (g7.add 12) fun x45 => ldI .u64 w32 (g7.add 13) fun x46 => ldI .i64 w32 (g7.add 14) fun x47 => ldI .u64 w32 (g7.add 15) fun x48 => ldI .i64 w32 (g7.add 16) fun x49 => ldI .u64 w32 (g7.add 17) fun x50 => ldSl w32 (g7.add 18) fun x51p x51n x51c => Q (.tuple #[.agg #[.int .i64 x33, .int .i64 x34, .int .i64 x35, .int .u64 x36, .int .u64 x37, .int .i64 x38, .int .i64 x39, .int .i64 x40, .int .i64 x41, .int .u64 x42, .slice x43p x43n x43c, .int .u64 x44, .int .i64 x45, .int .u64 x46, .int .i64 x47, .int .u64 x48, .int .i64 x49, .int .u64 x50, .slice x51p x51n x51c], .bool false, .bool false]) w32) (ldI .u64 w30 ((g3.add 8).add 1) fun x52 => newK w30 #[.int .u64 0] 22 fun g53 w54 => stK w54 g53 (.int .u64 x52) fun w55 => drewK w55 fun w56 => (ldP w56 g1 fun x57 => optP x57 fun p58 => ldP w56 (p58.add 22) fun x59 => ldI .u64 w56 g53 fun x60 => CallR Tryz.prog 42 #[.pointer x59, .int .u64 x60] w56 fun v61 w62 => ∃ (y63 y64 : Int) (y65p : Option Addr) (y65n y65c : Nat) (y66p : Option Addr) (y66n y66c : Nat) (y67 : Int) (y68 : Bool), v61 = .tuple #[.agg #[.int .u64 y63, .int .i64 y64, .slice y65p y65n y65c, .slice y66p y66n y66c, .int .i64 y67], .bool y68] ∧ newK w62 #[.int .u64 0, .int .i64 0, .slice none 0 0, .slice none 0 0, .int .i64 0] 89 fun g69 w70 => (World.cell? w62 g53 = some (.int .u64 x60) ∧ World.cell? w70 g53 = some (.int .u64 x60)) ∧ (World.cell? w62 (p58.add 22) = some (.pointer x59) ∧ World.cell? w70 (p58.add 22) = some (.pointer x59)) ∧ (World.cell? w62 g1 = some (.pointer x57) ∧ World.cell? w70 g1 = some (.pointer x57)) ∧ stAll w70 g69 [.int .u64 y63, .int .i64 y64, .slice y65p y65n y65c, .slice y66p y66n y66c, .int .i64 y67] fun w71 => bcase (!y68) (CallR Tryz.prog 51 #[.int .i64 4, .pointer (some g3)] w71 fun v72 w73 => ∃ (y74 y75 y76 y77 y78 y79 y80 y81 y82 y83 : Int) (y84p : Option Addr) (y84n y84c : Nat) (y85 y86 y87 y88 y89 y90 y91 : Int) (y92p : Option Addr) (y92n y92c : Nat), v72 = .agg #[.int .i64 y74, .int .i64 y75, .int .i64 y76, .int .u64 y77, .int .u64 y78, .int .i64 y79, .int .i64 y80, .int .i64 y81, .int .i64 y82, .int .u64 y83, .slice y84p y84n y84c, .int .u64 y85, .int .i64 y86, .int .u64 y87, .int .i64 y88, .int .u64 y89, .int .i64 y90, .int .u64 y91, .slice y92p y92n y92c] ∧ stAll w73 g7 [.int .i64 y74, .int .i64 y75, .int .i64 y76, .int .u64 y77, .int .u64 y78, .int .i64 y79, .int .i64 y80, .int .i64 y81, .int .i64 y82, .int .u64 y83, .slice y84p y84n y84c, .int .u64 y85, .int .i64 y86, .int .u64 y87, .int .i64 y88, .int .u64 y89, .int .i64 y90, .int .u64 y91, .slice y92p y92n y92c] fun w93 => ldI .i64 w93 (g7.add 0) fun x94 => ldI .i64 w93 (g7.add 1) fun x95 => ldI .i64 w93 (g7.add 2) fun x96 => ldI .u64 w93 (g7.add 3) fun x97 => ldI .u64 w93 (g7.add 4) fun x98 => ldI .i64 w93 (g7.add 5) fun x99 => ldI .i64 w93 (g7.add 6) fun x100 => ldI .i64 w93 (g7.add 7) fun x101 => ldI .i64 w93 (g7.add 8) fun x102 => ldI .u64 w93 (g7.add 9) fun x103 => ldSl w93 (g7.add 10) fun x104p x104n x104c => ldI .u64 w93 (g7.add 11) fun x105 => ldI .i64 w93 (g7.add 12) fun x106 => ldI .u64 w93 (g7.add 13) fun x107 => ldI .i64 w93 (g7.add 14) fun x108 => ldI .u64 w93 (g7.add 15) fun x109 => ldI .i64 w93 (g7.add 16) fun x110 => ldI .u64 w93 (g7.add 17) fun x111 => ldSl w93 (g7.add 18) fun x112p x112n x112c => Q (.tuple #[.agg #[.int .i64 x94, .int .i64 x95, .int .i64 x96, .int .u64 x97, .int .u64 x98, .int .i64 x99, .int .i64 x100, .int .i64 x101, .int .i64 x102, .int .u64 x103, .slice x104p x104n x104c, .int .u64 x105, .int .i64 x106, .int .u64 x107, .int .i64 x108, .int .u64 x109, .int .i64 x110, .int .u64 x111, .slice x112p x112n x112c], .bool false, .bool true]) w93) (X19.j4 Q a3 g1 g3 g5 g7 g53 g3 w71)) ∧ (ldP w56 g1 fun x113 => optP x113 fun p114 => ldP w56 (p114.add 22) fun x115 => ldI .u64 w56 g53 fun x116 => newK w56 #[.int .u64 0, .int .i64 0, .slice none 0 0, .slice none 0 0, .int .i64 0] 89 fun g117 w118 => (World.cell? w56 g53 = some (.int .u64 x116) ∧ World.cell? w118 g53 = some (.int .u64 x116)) ∧ (World.cell? w56 (p114.add 22) = some (.pointer x115) ∧ World.cell? w118 (p114.add 22) = some (.pointer x115)) ∧ (World.cell? w56 g1 = some (.pointer x113) ∧ World.cell? w118 g1 = some (.pointer x113)) ∧ CallR Tryz.prog 42 #[.pointer x115, .int .u64 x116] w118 fun v119 w120 => ∃ (y121 y122 : Int) (y123p : Option Addr) (y123n y123c : Nat) (y124p : Option Addr) (y124n y124c : Nat) (y125 : Int) (y126 : Bool), v119 = .tuple #[.agg #[.int .u64 y121, .int .i64 y122, .slice y123p y123n y123c, .slice y124p y124n y124c, .int .i64 y125], .bool y126] ∧ stAll w120 g117 [.int .u64 y121, .int .i64 y122, .slice y123p y123n y123c, .slice y124p y124n y124c, .int .i64 y125] fun w127 => bcase (!y126) (CallR Tryz.prog 51 #[.int .i64 4, .pointer (some g3)] w127 fun v128 w129 => ∃ (y130 y131 y132 y133 y134 y135 y136 y137 y138 y139 : Int) (y140p : Option Addr) (y140n y140c : Nat) (y141 y142 y143 y144 y145 y146 y147 : Int) (y148p : Option Addr) (y148n y148c : Nat), v128 = .agg #[.int .i64 y130, .int .i64 y131, .int .i64 y132, .int .u64 y133, .int .u64 y134, .int .i64 y135, .int .i64 y136, .int .i64 y137, .int .i64 y138, .int .u64 y139, .slice y140p y140n y140c, .int .u64 y141, .int .i64 y142, .int .u64 y143, .int .i64 y144, .int .u64 y145, .int .i64 y146, .int .u64 y147, .slice y148p y148n y148c] ∧ stAll w129 g7 [.int .i64 y130, .int .i64 y131, .int .i64 y132, .int .u64 y133, .int .u64 y134, .int .i64 y135, .int .i64 y136, .int .i64 y137, .int .i64 y138, .int .u64 y139, .slice y140p y140n y140c, .int .u64 y141, .int .i64 y142, .int .u64 y143, .int .i64 y144, .int .u64 y145, .int .i64 y146, .int .u64 y147, .slice y148p y148n y148c] fun w149 => ldI .i64 w149 (g7.add 0) fun x150 => ldI .i64 w149 (g7.add 1) fun x151 => ldI .i64 w149 (g7.add 2) fun x152 => ldI .u64 w149 (g7.add 3) fun x153 => ldI .u64 w149 (g7.add 4) fun x154 => ldI .i64 w149 (g7.add 5) fun x155 => ldI .i64 w149 (g7.add 6) fun x156 => ldI .i64 w149 (g7.add 7) fun x157 => ldI .i64 w149 (g7.add 8) fun x158 => ldI .u64 w149 (g7.add 9) fun x159 => ldSl w149 (g7.add 10) fun x160p x160n x160c => ldI .u64 w149 (g7.add 11) fun x161 => ldI .i64 w149 (g7.add 12) fun x162 => ldI .u64 w149 (g7.add 13) fun x163 => ldI .i64 w149 (g7.add 14) fun x164 => ldI .u64 w149 (g7.add 15) fun x165 => ldI .i64 w149 (g7.add 16) fun x166 => ldI .u64 w149 (g7.add 17) fun x167 => ldSl w149 (g7.add 18) fun x168p x168n x168c => Q (.tuple #[.agg #[.int .i64 x150, .int .i64 x151, .int .i64 x152, .int .u64 x153, .int .u64 x154, .int .i64 x155, .int .i64 x156, .int .i64 x157, .int .i64 x158, .int .u64 x159, .slice x160p x160n x160c, .int .u64 x161, .int .i64 x162, .int .u64 x163, .int .i64 x164, .int .u64 x165, .int .i64 x166, .int .u64 x167, .slice x168p x168n x168c], .bool false, .bool true]) w149) (X19.j4 Q a3 g1 g3 g5 g7 g53 g3 w127)))
def X19.S (Q : QT) : Segs
  | 0, φ, ρ, w => qA (ρ 4) fun t4 => qA (ρ 8) fun t8 => qA (ρ 11) fun t11 => qF 51 (ρ 12) fun q2_0 => qC q2_0 fun q2_0o q2_1 => qA q2_0o fun t12_0 => qN q2_1 (qF 53 (ρ 17) fun q1_0 => qC q1_0 fun q1_0o q1_1 => qA q1_0o fun t17_0 => qC q1_1 fun q1_1o q1_2 => qA q1_1o fun t17_1 => qC q1_2 fun q1_2o q1_3 => qA q1_2o fun t17_2 => qC q1_3 fun q1_3o q1_4 => qA q1_3o fun t17_3 => qN q1_4 (qA (ρ 18) fun t18 => qB (ρ 91) fun t91 => X19.j0 Q t4 t8 t11 t12_0 t17_0 t17_1 t17_2 t17_3 t18 t91 w))
  | 1, φ, ρ, w => qA (ρ 4) fun t4 => qA (ρ 5) fun t5 => qA (ρ 8) fun t8 => qA (ρ 11) fun t11 => qF 51 (ρ 12) fun q4_0 => qC q4_0 fun q4_0o q4_1 => qA q4_0o fun t12_0 => qN q4_1 (qA (ρ 15) fun t15 => qB (ρ 16) fun t16 => qF 53 (ρ 17) fun q3_0 => qC q3_0 fun q3_0o q3_1 => qA q3_0o fun t17_0 => qC q3_1 fun q3_1o q3_2 => qA q3_1o fun t17_1 => qC q3_2 fun q3_2o q3_3 => qA q3_2o fun t17_2 => qC q3_3 fun q3_3o q3_4 => qA q3_3o fun t17_3 => qN q3_4 (qA (ρ 18) fun t18 => qB (ρ 73) fun t73 => X19.j1 Q t4 t5 t8 t11 t12_0 t15 t16 t17_0 t17_1 t17_2 t17_3 t18 t73 w))
  | 2, φ, ρ, w => qA (ρ 4) fun t4 => qA (ρ 5) fun t5 => qA (ρ 8) fun t8 => qA (ρ 11) fun t11 => qF 51 (ρ 12) fun q6_0 => qC q6_0 fun q6_0o q6_1 => qA q6_0o fun t12_0 => qN q6_1 (qA (ρ 15) fun t15 => qB (ρ 16) fun t16 => qF 53 (ρ 17) fun q5_0 => qC q5_0 fun q5_0o q5_1 => qA q5_0o fun t17_0 => qC q5_1 fun q5_1o q5_2 => qA q5_1o fun t17_1 => qC q5_2 fun q5_2o q5_3 => qA q5_2o fun t17_2 => qC q5_3 fun q5_3o q5_4 => qA q5_3o fun t17_3 => qN q5_4 (qA (ρ 18) fun t18 => qB (ρ 63) fun t63 => X19.j2 Q t4 t5 t8 t11 t12_0 t15 t16 t17_0 t17_1 t17_2 t17_3 t18 t63 w))
  | 3, φ, ρ, w => qI .u64 (ρ 3) fun t3 => qA (ρ 4) fun t4 => qA (ρ 5) fun t5 => qA (ρ 6) fun t6 => qA (ρ 8) fun t8 => qA (ρ 11) fun t11 => qF 51 (ρ 12) fun q7_0 => qC q7_0 fun q7_0o q7_1 => qA q7_0o fun t12_0 => qN q7_1 (qA (ρ 15) fun t15 => qB (ρ 16) fun t16 => X19.j3 Q t3 t4 t5 t6 t8 t11 t12_0 t15 t16 w)
  | 4, φ, ρ, w => qI .u64 (ρ 3) fun t3 => qA (ρ 4) fun t4 => qA (ρ 5) fun t5 => qA (ρ 6) fun t6 => qA (ρ 8) fun t8 => qA (ρ 11) fun t11 => qF 51 (ρ 12) fun q8_0 => qC q8_0 fun q8_0o q8_1 => qA q8_0o fun t12_0 => qN q8_1 (X19.j4 Q t3 t4 t5 t6 t8 t11 t12_0 w)
  | _, _, _, _ => False
noncomputable def X19.an : Ann := (.seq .leaf (.seq (.seq .leaf (.cond (.seq .leaf .leaf) .leaf)) (.seq .leaf (.seq .leaf (.seq (.seq (.draw [0, 1, 3, 7, 0, 31, 63, 127, 127, 0, 767, 2047] [[0, 1, 2, 3, 4, 5, 6, 7, 8, 9, 10, 11], [0, 1, 2, 3, 4, 9, 5, 6, 7, 8, 10, 11]]) (.seq .leaf (.cond (.seq .leaf .leaf) .leaf))) (.join 4 (.seq (.draw [0, 1, 3, 7, 0, 0, 32, 112, 255, 511, 1023, 1023, 0, 6143, 16383] [[0, 1, 2, 3, 4, 5, 6, 7, 8, 9, 10, 11, 12, 13, 14], [0, 1, 2, 3, 4, 5, 6, 7, 12, 8, 9, 10, 11, 13, 14], [0, 1, 2, 3, 4, 5, 6, 12, 7, 8, 9, 10, 11, 13, 14]]) (.join 3 (.seq .leaf (.seq .leaf (.seq (.block (.seq .leaf (.join 2 (.cond (.seq .leaf .leaf) (.seq .leaf (.join 1 (.cond (.seq .leaf (.seq .leaf .leaf)) (.seq .leaf (.join 0 (.cond (.seq .leaf .leaf) (.seq .leaf (.cond (.seq .leaf (.seq .leaf (.seq .leaf .leaf))) .leaf)))))))))))) (.seq (.draw [0, 1, 3, 7, 0, 31] [[0, 1, 2, 3, 4, 5]]) (.seq .leaf (.seq .leaf .leaf))))))))))))))
noncomputable def X19.c : Code := Tryz.f19.body.getD .skip
theorem X19.v (Q : QT) : V Tryz.prog (X19.S Q) X19.an X19.c (retC Tryz.prog Tryz.f19 Q) := ⟨trivial, ⟨⟨trivial, ⟨⟨trivial, trivial⟩, trivial⟩⟩, ⟨trivial, ⟨trivial, ⟨⟨trivial, ⟨trivial, ⟨⟨trivial, trivial⟩, trivial⟩⟩⟩, ⟨(by
    intro φ ρ w h
    simp only [X19.S] at h
    obtain ⟨t3, e3, h1⟩ := qI_elim h
    obtain ⟨t4, e4, h2⟩ := qA_elim h1
    obtain ⟨t5, e5, h3⟩ := qA_elim h2
    obtain ⟨t6, e6, h4⟩ := qA_elim h3
    obtain ⟨t8, e8, h5⟩ := qA_elim h4
    obtain ⟨t11, e11, h6⟩ := qA_elim h5
    obtain ⟨z12, e12, h7⟩ := qF_elim h6
    obtain ⟨v12_0, y12_0, f12_0, h8⟩ := qC_elim h7
    subst f12_0
    obtain ⟨t12_0, e12_0, h10⟩ := qA_elim h8
    injection e12_0 with e12_0; subst e12_0
    obtain ⟨f12n, h12⟩ := qN_elim h10
    subst f12n
    have h := h12
    exact ⟨(((((((Env.nil.put (some 3) (.int .u64 t3)).put (some 4) (.pointer (some t4))).put (some 5) (.pointer (some t5))).put (some 6) (.pointer (some t6))).put (some 8) (.pointer (some t8))).put (some 11) (.pointer (some t11))).put (some 12) (.func (.func 51) #[] #[.pointer (some t12_0)])), Env.le_put e12 (Env.le_put e11 (Env.le_put e8 (Env.le_put e6 (Env.le_put e5 (Env.le_put e4 (Env.le_put e3 (Env.le_nil _))))))), Eq.mp (by kernel_rfl) h⟩), ⟨trivial, ⟨(by
    intro φ ρ w h
    simp only [X19.S] at h
    obtain ⟨t3, e3, h1⟩ := qI_elim h
    obtain ⟨t4, e4, h2⟩ := qA_elim h1
    obtain ⟨t5, e5, h3⟩ := qA_elim h2
    obtain ⟨t6, e6, h4⟩ := qA_elim h3
    obtain ⟨t8, e8, h5⟩ := qA_elim h4
    obtain ⟨t11, e11, h6⟩ := qA_elim h5
    obtain ⟨z12, e12, h7⟩ := qF_elim h6
    obtain ⟨v12_0, y12_0, f12_0, h8⟩ := qC_elim h7
    subst f12_0
    obtain ⟨t12_0, e12_0, h10⟩ := qA_elim h8
    injection e12_0 with e12_0; subst e12_0
    obtain ⟨f12n, h12⟩ := qN_elim h10
    subst f12n
    obtain ⟨t15, e15, h14⟩ := qA_elim h12
    obtain ⟨t16, e16, h15⟩ := qB_elim h14
    have h := h15
    exact ⟨(((((((((Env.nil.put (some 3) (.int .u64 t3)).put (some 4) (.pointer (some t4))).put (some 5) (.pointer (some t5))).put (some 6) (.pointer (some t6))).put (some 8) (.pointer (some t8))).put (some 11) (.pointer (some t11))).put (some 12) (.func (.func 51) #[] #[.pointer (some t12_0)])).put (some 15) (.pointer (some t15))).put (some 16) (.bool t16)), Env.le_put e16 (Env.le_put e15 (Env.le_put e12 (Env.le_put e11 (Env.le_put e8 (Env.le_put e6 (Env.le_put e5 (Env.le_put e4 (Env.le_put e3 (Env.le_nil _))))))))), Eq.mp (by kernel_rfl) h⟩), ⟨trivial, ⟨trivial, ⟨⟨trivial, ⟨(by
    intro φ ρ w h
    simp only [X19.S] at h
    obtain ⟨t4, e4, h1⟩ := qA_elim h
    obtain ⟨t5, e5, h2⟩ := qA_elim h1
    obtain ⟨t8, e8, h3⟩ := qA_elim h2
    obtain ⟨t11, e11, h4⟩ := qA_elim h3
    obtain ⟨z12, e12, h5⟩ := qF_elim h4
    obtain ⟨v12_0, y12_0, f12_0, h6⟩ := qC_elim h5
    subst f12_0
    obtain ⟨t12_0, e12_0, h8⟩ := qA_elim h6
    injection e12_0 with e12_0; subst e12_0
    obtain ⟨f12n, h10⟩ := qN_elim h8
    subst f12n
    obtain ⟨t15, e15, h12⟩ := qA_elim h10
    obtain ⟨t16, e16, h13⟩ := qB_elim h12
    obtain ⟨z17, e17, h14⟩ := qF_elim h13
    obtain ⟨v17_0, y17_0, f17_0, h15⟩ := qC_elim h14
    subst f17_0
    obtain ⟨t17_0, e17_0, h17⟩ := qA_elim h15
    injection e17_0 with e17_0; subst e17_0
    obtain ⟨v17_1, y17_1, f17_1, h19⟩ := qC_elim h17
    subst f17_1
    obtain ⟨t17_1, e17_1, h21⟩ := qA_elim h19
    injection e17_1 with e17_1; subst e17_1
    obtain ⟨v17_2, y17_2, f17_2, h23⟩ := qC_elim h21
    subst f17_2
    obtain ⟨t17_2, e17_2, h25⟩ := qA_elim h23
    injection e17_2 with e17_2; subst e17_2
    obtain ⟨v17_3, y17_3, f17_3, h27⟩ := qC_elim h25
    subst f17_3
    obtain ⟨t17_3, e17_3, h29⟩ := qA_elim h27
    injection e17_3 with e17_3; subst e17_3
    obtain ⟨f17n, h31⟩ := qN_elim h29
    subst f17n
    obtain ⟨t18, e18, h33⟩ := qA_elim h31
    obtain ⟨t63, e63, h34⟩ := qB_elim h33
    have h := h34
    exact ⟨((((((((((Env.nil.put (some 4) (.pointer (some t4))).put (some 5) (.pointer (some t5))).put (some 8) (.pointer (some t8))).put (some 11) (.pointer (some t11))).put (some 12) (.func (.func 51) #[] #[.pointer (some t12_0)])).put (some 15) (.pointer (some t15))).put (some 16) (.bool t16)).put (some 17) (.func (.func 53) #[] #[.pointer (some t17_0), .pointer (some t17_1), .pointer (some t17_2), .pointer (some t17_3)])).put (some 18) (.pointer (some t18))).put (some 63) (.bool t63)), Env.le_put e63 (Env.le_put e18 (Env.le_put e17 (Env.le_put e16 (Env.le_put e15 (Env.le_put e12 (Env.le_put e11 (Env.le_put e8 (Env.le_put e5 (Env.le_put e4 (Env.le_nil _)))))))))), Eq.mp (by kernel_rfl) h⟩), ⟨⟨trivial, trivial⟩, ⟨trivial, ⟨(by
    intro φ ρ w h
    simp only [X19.S] at h
    obtain ⟨t4, e4, h1⟩ := qA_elim h
    obtain ⟨t5, e5, h2⟩ := qA_elim h1
    obtain ⟨t8, e8, h3⟩ := qA_elim h2
    obtain ⟨t11, e11, h4⟩ := qA_elim h3
    obtain ⟨z12, e12, h5⟩ := qF_elim h4
    obtain ⟨v12_0, y12_0, f12_0, h6⟩ := qC_elim h5
    subst f12_0
    obtain ⟨t12_0, e12_0, h8⟩ := qA_elim h6
    injection e12_0 with e12_0; subst e12_0
    obtain ⟨f12n, h10⟩ := qN_elim h8
    subst f12n
    obtain ⟨t15, e15, h12⟩ := qA_elim h10
    obtain ⟨t16, e16, h13⟩ := qB_elim h12
    obtain ⟨z17, e17, h14⟩ := qF_elim h13
    obtain ⟨v17_0, y17_0, f17_0, h15⟩ := qC_elim h14
    subst f17_0
    obtain ⟨t17_0, e17_0, h17⟩ := qA_elim h15
    injection e17_0 with e17_0; subst e17_0
    obtain ⟨v17_1, y17_1, f17_1, h19⟩ := qC_elim h17
    subst f17_1
    obtain ⟨t17_1, e17_1, h21⟩ := qA_elim h19
    injection e17_1 with e17_1; subst e17_1
    obtain ⟨v17_2, y17_2, f17_2, h23⟩ := qC_elim h21
    subst f17_2
    obtain ⟨t17_2, e17_2, h25⟩ := qA_elim h23
    injection e17_2 with e17_2; subst e17_2
    obtain ⟨v17_3, y17_3, f17_3, h27⟩ := qC_elim h25
    subst f17_3
    obtain ⟨t17_3, e17_3, h29⟩ := qA_elim h27
    injection e17_3 with e17_3; subst e17_3
    obtain ⟨f17n, h31⟩ := qN_elim h29
    subst f17n
    obtain ⟨t18, e18, h33⟩ := qA_elim h31
    obtain ⟨t73, e73, h34⟩ := qB_elim h33
    have h := h34
    exact ⟨((((((((((Env.nil.put (some 4) (.pointer (some t4))).put (some 5) (.pointer (some t5))).put (some 8) (.pointer (some t8))).put (some 11) (.pointer (some t11))).put (some 12) (.func (.func 51) #[] #[.pointer (some t12_0)])).put (some 15) (.pointer (some t15))).put (some 16) (.bool t16)).put (some 17) (.func (.func 53) #[] #[.pointer (some t17_0), .pointer (some t17_1), .pointer (some t17_2), .pointer (some t17_3)])).put (some 18) (.pointer (some t18))).put (some 73) (.bool t73)), Env.le_put e73 (Env.le_put e18 (Env.le_put e17 (Env.le_put e16 (Env.le_put e15 (Env.le_put e12 (Env.le_put e11 (Env.le_put e8 (Env.le_put e5 (Env.le_put e4 (Env.le_nil _)))))))))), Eq.mp (by kernel_rfl) h⟩), ⟨⟨trivial, ⟨trivial, trivial⟩⟩, ⟨trivial, ⟨(by
    intro φ ρ w h
    simp only [X19.S] at h
    obtain ⟨t4, e4, h1⟩ := qA_elim h
    obtain ⟨t8, e8, h2⟩ := qA_elim h1
    obtain ⟨t11, e11, h3⟩ := qA_elim h2
    obtain ⟨z12, e12, h4⟩ := qF_elim h3
    obtain ⟨v12_0, y12_0, f12_0, h5⟩ := qC_elim h4
    subst f12_0
    obtain ⟨t12_0, e12_0, h7⟩ := qA_elim h5
    injection e12_0 with e12_0; subst e12_0
    obtain ⟨f12n, h9⟩ := qN_elim h7
    subst f12n
    obtain ⟨z17, e17, h11⟩ := qF_elim h9
    obtain ⟨v17_0, y17_0, f17_0, h12⟩ := qC_elim h11
    subst f17_0
    obtain ⟨t17_0, e17_0, h14⟩ := qA_elim h12
    injection e17_0 with e17_0; subst e17_0
    obtain ⟨v17_1, y17_1, f17_1, h16⟩ := qC_elim h14
    subst f17_1
    obtain ⟨t17_1, e17_1, h18⟩ := qA_elim h16
    injection e17_1 with e17_1; subst e17_1
    obtain ⟨v17_2, y17_2, f17_2, h20⟩ := qC_elim h18
    subst f17_2
    obtain ⟨t17_2, e17_2, h22⟩ := qA_elim h20
    injection e17_2 with e17_2; subst e17_2
    obtain ⟨v17_3, y17_3, f17_3, h24⟩ := qC_elim h22
    subst f17_3
    obtain ⟨t17_3, e17_3, h26⟩ := qA_elim h24
    injection e17_3 with e17_3; subst e17_3
    obtain ⟨f17n, h28⟩ := qN_elim h26
    subst f17n
    obtain ⟨t18, e18, h30⟩ := qA_elim h28
    obtain ⟨t91, e91, h31⟩ := qB_elim h30
    have h := h31
    exact ⟨(((((((Env.nil.put (some 4) (.pointer (some t4))).put (some 8) (.pointer (some t8))).put (some 11) (.pointer (some t11))).put (some 12) (.func (.func 51) #[] #[.pointer (some t12_0)])).put (some 17) (.func (.func 53) #[] #[.pointer (some t17_0), .pointer (some t17_1), .pointer (some t17_2), .pointer (some t17_3)])).put (some 18) (.pointer (some t18))).put (some 91) (.bool t91)), Env.le_put e91 (Env.le_put e18 (Env.le_put e17 (Env.le_put e12 (Env.le_put e11 (Env.le_put e8 (Env.le_put e4 (Env.le_nil _))))))), Eq.mp (by kernel_rfl) h⟩), ⟨⟨trivial, trivial⟩, ⟨trivial, ⟨⟨trivial, ⟨trivial, ⟨trivial, trivial⟩⟩⟩, trivial⟩⟩⟩⟩⟩⟩⟩⟩⟩⟩⟩, ⟨trivial, ⟨trivial, ⟨trivial, trivial⟩⟩⟩⟩⟩⟩⟩⟩⟩⟩⟩⟩⟩⟩
theorem X19.sound (a0 : Option Addr) (a1_0 a1_1 a1_2 a1_3 a1_4 a1_5 a1_6 a1_7 a1_8 a1_9 : Int) (a1_10p : Option Addr) (a1_10n a1_10c : Nat) (a1_11 a1_12 a1_13 a1_14 a1_15 a1_16 a1_17 : Int) (a1_18p : Option Addr) (a1_18n a1_18c : Nat) (a2 : Bool) (a3 : Int) (w : World) (Q : QT) (h : X19.f a0 a1_0 a1_1 a1_2 a1_3 a1_4 a1_5 a1_6 a1_7 a1_8 a1_9 a1_10p a1_10n a1_10c a1_11 a1_12 a1_13 a1_14 a1_15 a1_16 a1_17 a1_18p a1_18n a1_18c a2 a3 w Q) : CallR Tryz.prog 19 #[.pointer a0, .agg #[.int .i64 a1_0, .int .i64 a1_1, .int .i64 a1_2, .int .u64 a1_3, .int .u64 a1_4, .int .i64 a1_5, .int .i64 a1_6, .int .i64 a1_7, .int .i64 a1_8, .int .u64 a1_9, .slice a1_10p a1_10n a1_10c, .int .u64 a1_11, .int .i64 a1_12, .int .u64 a1_13, .int .i64 a1_14, .int .u64 a1_15, .int .i64 a1_16, .int .u64 a1_17, .slice a1_18p a1_18n a1_18c], .bool a2, .int .u64 a3] w Q :=
  fn_sound noGr mixed Tryz.func19 (c := X19.c) (an := X19.an) (S := X19.S Q) (φ := fun _ => 0) (args := [.pointer a0, .agg #[.int .i64 a1_0, .int .i64 a1_1, .int .i64 a1_2, .int .u64 a1_3, .int .u64 a1_4, .int .i64 a1_5, .int .i64 a1_6, .int .i64 a1_7, .int .i64 a1_8, .int .u64 a1_9, .slice a1_10p a1_10n a1_10c, .int .u64 a1_11, .int .i64 a1_12, .int .u64 a1_13, .int .i64 a1_14, .int .u64 a1_15, .int .i64 a1_16, .int .u64 a1_17, .slice a1_18p a1_18n a1_18c], .bool a2, .int .u64 a3]) (by kernel_rfl) (by kernel_rfl) (by kernel_rfl) (X19.v Q) (Eq.mp (by kernel_rfl) h)
def X13.l0 (Q : QT) : Nat → (Option Addr) → (Option Addr) → Nat → Nat → (Option Addr) → Nat → Nat → Int → Int → World → Prop
  | 0, _, _, _, _, _, _, _, _, _, _ => False
  | k + 1, t0, t3p, t3n, t3c, t12p, t12n, t12c, t13, t14, w => bcase (decide (t14 < t13)) ((0 ≤ t14 ∧ t14 < ((t12n : Nat) : Int)) ∧ optP t12p fun p1 => ldI .u64 w (p1.add (Int.toNat t14 * 1)) fun x2 => optP t0 fun p3 => ldP w (p3.add 23) fun x4 => CallR Tryz.prog 48 #[.pointer x4, .int .u64 x2] w fun v5 w6 => ∃ (y7 y8 : Int) (y9 : Bool) (y10 y11 y12 : Int) (y13 : Bool), v5 = .tuple #[.agg #[.int .u64 y7, .int .i64 y8, .bool y9, .int .u64 y10, .int .u64 y11, .int .i64 y12], .bool y13] ∧ newK w6 #[.int .u64 0, .int .i64 0, .bool false, .int .u64 0, .int .u64 0, .int .i64 0] 52 fun g14 w15 => stAll w15 g14 [.int .u64 y7, .int .i64 y8, .bool y9, .int .u64 y10, .int .u64 y11, .int .i64 y12] fun w16 => ldI .u64 w16 (g14.add 0) fun x17 => ldI .i64 w16 (g14.add 1) fun x18 => ldB w16 (g14.add 2) fun x19 => ldI .u64 w16 (g14.add 3) fun x20 => ldI .u64 w16 (g14.add 4) fun x21 => ldI .i64 w16 (g14.add 5) fun x22 => newK w16 #[.int .u64 x17, .int .i64 x18, .bool x19, .int .u64 x20, .int .u64 x21, .int .i64 x22] 52 fun g23 w24 => RunR Tryz.prog (Builtin.append_ #[47, 47] 47 #[.slice t3p t3n t3c, .slice (some g23) 1 1]) w24 fun v25 w26 => ∃ (s27p : Option Addr) (s27n s27c : Nat), v25 = .slice s27p s27n s27c ∧ X13.l0 Q k t0 s27p s27n s27c t12p t12n t12c t13 (IntKind.wrap .i64 (t14 + (1 : Int))) w26) (Q (.slice t3p t3n t3c) w)
def X13.f (a0 : Option Addr) (w : World) (Q : QT) : Prop := optP a0 fun p1 => ldP w (p1.add 23) fun x2 => CallR Tryz.prog 47 #[.pointer x2] w fun v3 w4 => ∃ (y5p : Option Addr) (y5n y5c : Nat), v3 = .slice y5p y5n y5c ∧ ∃ m6, X13.l0 Q m6 a0 none 0 0 y5p y5n y5c ((y5n : Nat) : Int) (0 : Int) w4
def X13.S (Q : QT) : Segs
  | 0, φ, ρ, w => qP (ρ 0) fun t0 => qSl (ρ 3) fun t3p t3n t3c => qSl (ρ 12) fun t12p t12n t12c => qI .i64 (ρ 13) fun t13 => qI .i64 (ρ 14) fun t14 => X13.l0 Q (φ 0) t0 t3p t3n t3c t12p t12n t12c t13 t14 w
  | _, _, _, _ => False
noncomputable def X13.an : Ann := (.seq .leaf (.seq .leaf (.seq (.seq .leaf (.block (.loop 0 (.seq .leaf (.seq (.cond .leaf .leaf) (.seq (.block (.seq .leaf (.seq .leaf .leaf))) .leaf)))))) (.seq .leaf .leaf))))
noncomputable def X13.c : Code := Tryz.f13.body.getD .skip
theorem X13.v (Q : QT) : V Tryz.prog (X13.S Q) X13.an X13.c (retC Tryz.prog Tryz.f13 Q) := ⟨trivial, ⟨trivial, ⟨⟨trivial, ⟨(by
    intro φ ρ w h
    simp only [X13.S] at h
    obtain ⟨t0, e0, h⟩ := qP_elim h
    obtain ⟨t3p, t3n, t3c, e3, h⟩ := qSl_elim h
    obtain ⟨t12p, t12n, t12c, e12, h⟩ := qSl_elim h
    obtain ⟨t13, e13, h⟩ := qI_elim h
    obtain ⟨t14, e14, h⟩ := qI_elim h
    cases hk : φ 0 with
    | zero => rw [hk] at h; exact h.elim
    | succ k => rw [hk] at h; exact ⟨k, Nat.lt_succ_self k, (((((Env.nil.put (some 0) (.pointer t0)).put (some 3) (.slice t3p t3n t3c)).put (some 12) (.slice t12p t12n t12c)).put (some 13) (.int .i64 t13)).put (some 14) (.int .i64 t14)), Env.le_put e14 (Env.le_put e13 (Env.le_put e12 (Env.le_put e3 (Env.le_put e0 (Env.le_nil _))))), Eq.mp (by kernel_rfl) h⟩), ⟨trivial, ⟨⟨trivial, trivial⟩, ⟨⟨trivial, ⟨trivial, trivial⟩⟩, trivial⟩⟩⟩⟩⟩, ⟨trivial, trivial⟩⟩⟩⟩
theorem X13.sound (a0 : Option Addr) (w : World) (Q : QT) (h : X13.f a0 w Q) : CallR Tryz.prog 13 #[.pointer a0] w Q :=
  fn_sound noGr mixed Tryz.func13 (c := X13.c) (an := X13.an) (S := X13.S Q) (φ := fun _ => 0) (args := [.pointer a0]) (by kernel_rfl) (by kernel_rfl) (by kernel_rfl) (X13.v Q) (Eq.mp (by kernel_rfl) h)
def X22.j0 (Q : QT) (t0 : Option Addr) (t3 t4 t6 : Addr) (t7 : Bool) (w : World) : Prop := bcase t7 (drewK w fun w1 => ldI .u64 w1 (t3.add 13) fun x2 => stK w1 (t6.add 2) (.bool false) fun w3 => (World.cell? w1 (t3.add 13) = some (.int .u64 x2) ∧ World.cell? w3 (t3.add 13) = some (.int .u64 x2)) ∧ stK w3 (t6.add 3) (.int .u64 x2) fun w4 => ldI .u64 w4 (t6.add 0) fun x5 => ldI .i64 w4 (t6.add 1) fun x6 => ldB w4 (t6.add 2) fun x7 => ldI .u64 w4 (t6.add 3) fun x8 => ldI .u64 w4 (t6.add 4) fun x9 => ldI .i64 w4 (t6.add 5) fun x10 => CallR Tryz.prog 55 #[.pointer t0, .agg #[.int .u64 x5, .int .i64 x6, .bool x7, .int .u64 x8, .int .u64 x9, .int .i64 x10]] w4 fun v11 w12 => v11 = .tuple #[] ∧ ldI .i64 w12 (t3.add 2) fun x13 => ldI .i64 w12 (t3.add 1) fun x14 => ldI .i64 w12 ((t3.add 8).add 0) fun x15 => ldI .u64 w12 ((t3.add 8).add 1) fun x16 => ldI .u64 w12 (t3.add 13) fun x17 => stAll w12 t4 [.int .i64 7, .int .i64 x13, .int .i64 x14, .int .u64 0, .int .u64 0, .int .i64 0, .int .i64 0, .int .i64 0, .int .i64 x15, .int .u64 x16, .slice none 0 0, .int .u64 0, .int .i64 0, .int .u64 x17, .int .i64 0, .int .u64 0, .int .i64 0, .int .u64 0, .slice none 0 0] fun w18 => ldI .i64 w18 (t4.add 0) fun x19 => ldI .i64 w18 (t4.add 1) fun x20 => ldI .i64 w18 (t4.add 2) fun x21 => ldI .u64 w18 (t4.add 3) fun x22 => ldI .u64 w18 (t4.add 4) fun x23 => ldI .i64 w18 (t4.add 5) fun x24 => ldI .i64 w18 (t4.add 6) fun x25 => ldI .i64 w18 (t4.add 7) fun x26 => ldI .i64 w18 (t4.add 8) fun x27 => ldI .u64 w18 (t4.add 9) fun x28 => ldSl w18 (t4.add 10) fun x29p x29n x29c => ldI .u64 w18 (t4.add 11) fun x30 => ldI .i64 w18 (t4.add 12) fun x31 => ldI .u64 w18 (t4.add 13) fun x32 => ldI .i64 w18 (t4.add 14) fun x33 => ldI .u64 w18 (t4.add 15) fun x34 => ldI .i64 w18 (t4.add 16) fun x35 => ldI .u64 w18 (t4.add 17) fun x36 => ldSl w18 (t4.add 18) fun x37p x37n x37c => Q (.tuple #[.agg #[.int .i64 x19, .int .i64 x20, .int .i64 x21, .int .u64 x22, .int .u64 x23, .int .i64 x24, .int .i64 x25, .int .i64 x26, .int .i64 x27, .int .u64 x28, .slice x29p x29n x29c, .int .u64 x30, .int .i64 x31, .int .u64 x32, .int .i64 x33, .int .u64 x34, .int .i64 x35, .int .u64 x36, .slice x37p x37n x37c], .bool true]) w18) (ldI .i64 w (t3.add 2) fun x38 => ldI .i64 w (t3.add 1) fun x39 => ldI .i64 w ((t3.add 8).add 0) fun x40 => ldI .u64 w ((t3.add 8).add 1) fun x41 => ldI .u64 w (t3.add 13) fun x42 => stAll w t4 [.int .i64 7, .int .i64 x38, .int .i64 x39, .int .u64 0, .int .u64 0, .int .i64 0, .int .i64 0, .int .i64 0, .int .i64 x40, .int .u64 x41, .slice none 0 0, .int .u64 0, .int .i64 0, .int .u64 x42, .int .i64 0, .int .u64 0, .int .i64 0, .int .u64 0, .slice none 0 0] fun w43 => ldI .i64 w43 (t4.add 0) fun x44 => ldI .i64 w43 (t4.add 1) fun x45 => ldI .i64 w43 (t4.add 2) fun x46 => ldI .u64 w43 (t4.add 3) fun x47 => ldI .u64 w43 (t4.add 4) fun x48 => ldI .i64 w43 (t4.add 5) fun x49 => ldI .i64 w43 (t4.add 6) fun x50 => ldI .i64 w43 (t4.add 7) fun x51 => ldI .i64 w43 (t4.add 8) fun x52 => ldI .u64 w43 (t4.add 9) fun x53 => ldSl w43 (t4.add 10) fun x54p x54n x54c => ldI .u64 w43 (t4.add 11) fun x55 => ldI .i64 w43 (t4.add 12) fun x56 => ldI .u64 w43 (t4.add 13) fun x57 => ldI .i64 w43 (t4.add 14) fun x58 => ldI .u64 w43 (t4.add 15) fun x59 => ldI .i64 w43 (t4.add 16) fun x60 => ldI .u64 w43 (t4.add 17) fun x61 => ldSl w43 (t4.add 18) fun x62p x62n x62c => Q (.tuple #[.agg #[.int .i64 x44, .int .i64 x45, .int .i64 x46, .int .u64 x47, .int .u64 x48, .int .i64 x49, .int .i64 x50, .int .i64 x51, .int .i64 x52, .int .u64 x53, .slice x54p x54n x54c, .int .u64 x55, .int .i64 x56, .int .u64 x57, .int .i64 x58, .int .u64 x59, .int .i64 x60, .int .u64 x61, .slice x62p x62n x62c], .bool true]) w43)
def X22.j1 (Q : QT) (t0 : Option Addr) (t3 t4 t6 : Addr) (t7 : Bool) (w : World) : Prop := drewK w fun w1 => (optP t0 fun p2 => ldP w1 (p2.add 22) fun x3 => ldI .u64 w1 ((t3.add 8).add 1) fun x4 => CallR Tryz.prog 42 #[.pointer x3, .int .u64 x4] w1 fun v5 w6 => ∃ (y7 y8 : Int) (y9p : Option Addr) (y9n y9c : Nat) (y10p : Option Addr) (y10n y10c : Nat) (y11 : Int) (y12 : Bool), v5 = .tuple #[.agg #[.int .u64 y7, .int .i64 y8, .slice y9p y9n y9c, .slice y10p y10n y10c, .int .i64 y11], .bool y12] ∧ newK w6 #[.int .u64 0, .int .i64 0, .slice none 0 0, .slice none 0 0, .int .i64 0] 89 fun g13 w14 => (World.cell? w6 ((t3.add 8).add 1) = some (.int .u64 x4) ∧ World.cell? w14 ((t3.add 8).add 1) = some (.int .u64 x4)) ∧ (World.cell? w6 (p2.add 22) = some (.pointer x3) ∧ World.cell? w14 (p2.add 22) = some (.pointer x3)) ∧ stAll w14 g13 [.int .u64 y7, .int .i64 y8, .slice y9p y9n y9c, .slice y10p y10n y10c, .int .i64 y11] fun w15 => bcase (!t7) (bcase y12 (ldI .u64 w15 ((t3.add 8).add 1) fun x16 => ldI .i64 w15 (t3.add 1) fun x17 => stAll w15 t6 [.int .u64 x16, .int .i64 x17, .bool false, .int .u64 0, .int .u64 0, .int .i64 0] fun w18 => X22.j0 Q t0 t3 t4 t6 true w18) (X22.j0 Q t0 t3 t4 t6 t7 w15)) (X22.j0 Q t0 t3 t4 t6 t7 w15)) ∧ (optP t0 fun p19 => ldP w1 (p19.add 22) fun x20 => ldI .u64 w1 ((t3.add 8).add 1) fun x21 => newK w1 #[.int .u64 0, .int .i64 0, .slice none 0 0, .slice none 0 0, .int .i64 0] 89 fun g22 w23 => (World.cell? w1 ((t3.add 8).add 1) = some (.int .u64 x21) ∧ World.cell? w23 ((t3.add 8).add 1) = some (.int .u64 x21)) ∧ (World.cell? w1 (p19.add 22) = some (.pointer x20) ∧ World.cell? w23 (p19.add 22) = some (.pointer x20)) ∧ CallR Tryz.prog 42 #[.pointer x20, .int .u64 x21] w23 fun v24 w25 => ∃ (y26 y27 : Int) (y28p : Option Addr) (y28n y28c : Nat) (y29p : Option Addr) (y29n y29c : Nat) (y30 : Int) (y31 : Bool), v24 = .tuple #[.agg #[.int .u64 y26, .int .i64 y27, .slice y28p y28n y28c, .slice y29p y29n y29c, .int .i64 y30], .bool y31] ∧ stAll w25 g22 [.int .u64 y26, .int .i64 y27, .slice y28p y28n y28c, .slice y29p y29n y29c, .int .i64 y30] fun w32 => bcase (!t7) (bcase y31 (ldI .u64 w32 ((t3.add 8).add 1) fun x33 => ldI .i64 w32 (t3.add 1) fun x34 => stAll w32 t6 [.int .u64 x33, .int .i64 x34, .bool false, .int .u64 0, .int .u64 0, .int .i64 0] fun w35 => X22.j0 Q t0 t3 t4 t6 true w35) (X22.j0 Q t0 t3 t4 t6 t7 w32)) (X22.j0 Q t0 t3 t4 t6 t7 w32))
def X22.j2 (Q : QT) (t0 : Option Addr) (t3 t4 t6 : Addr) (t7 : Bool) (w : World) : Prop := bcase t7 (ldI .u64 w (t6.add 3) fun x1 => ldI .u64 w (t3.add 13) fun x2 => bcase (decide (x1 > x2)) (stAll w t4 [.int .i64 0, .int .i64 0, .int .i64 0, .int .u64 0, .int .u64 0, .int .i64 0, .int .i64 0, .int .i64 0, .int .i64 0, .int .u64 0, .slice none 0 0, .int .u64 0, .int .i64 0, .int .u64 0, .int .i64 0, .int .u64 0, .int .i64 0, .int .u64 0, .slice none 0 0] fun w3 => ldI .i64 w3 (t4.add 0) fun x4 => ldI .i64 w3 (t4.add 1) fun x5 => ldI .i64 w3 (t4.add 2) fun x6 => ldI .u64 w3 (t4.add 3) fun x7 => ldI .u64 w3 (t4.add 4) fun x8 => ldI .i64 w3 (t4.add 5) fun x9 => ldI .i64 w3 (t4.add 6) fun x10 => ldI .i64 w3 (t4.add 7) fun x11 => ldI .i64 w3 (t4.add 8) fun x12 => ldI .u64 w3 (t4.add 9) fun x13 => ldSl w3 (t4.add 10) fun x14p x14n x14c => ldI .u64 w3 (t4.add 11) fun x15 => ldI .i64 w3 (t4.add 12) fun x16 => ldI .u64 w3 (t4.add 13) fun x17 => ldI .i64 w3 (t4.add 14) fun x18 => ldI .u64 w3 (t4.add 15) fun x19 => ldI .i64 w3 (t4.add 16) fun x20 => ldI .u64 w3 (t4.add 17) fun x21 => ldSl w3 (t4.add 18) fun x22p x22n x22c => Q (.tuple #[.agg #[.int .i64 x4, .int .i64 x5, .int .i64 x6, .int .u64 x7, .int .u64 x8, .int .i64 x9, .int .i64 x10, .int .i64 x11, .int .i64 x12, .int .u64 x13, .slice x14p x14n x14c, .int .u64 x15, .int .i64 x16, .int .u64 x17, .int .i64 x18, .int .u64 x19, .int .i64 x20, .int .u64 x21, .slice x22p x22n x22c], .bool false]) w3) (X22.j1 Q t0 t3 t4 t6 t7 w)) (X22.j1 Q t0 t3 t4 t6 t7 w)
def X22.f (a0 : Option Addr) (a1_0 a1_1 a1_2 a1_3 a1_4 a1_5 a1_6 a1_7 a1_8 a1_9 : Int) (a1_10p : Option Addr) (a1_10n a1_10c : Nat) (a1_11 a1_12 a1_13 a1_14 a1_15 a1_16 a1_17 : Int) (a1_18p : Option Addr) (a1_18n a1_18c : Nat) (w : World) (Q : QT) : Prop := newK w #[.int .i64 a1_0, .int .i64 a1_1, .int .i64 a1_2, .int .u64 a1_3, .int .u64 a1_4, .int .i64 a1_5, .int .i64 a1_6, .int .i64 a1_7, .int .i64 a1_8, .int .u64 a1_9, .slice a1_10p a1_10n a1_10c, .int .u64 a1_11, .int .i64 a1_12, .int .u64 a1_13, .int .i64 a1_14, .int .u64 a1_15, .int .i64 a1_16, .int .u64 a1_17, .slice a1_18p a1_18n a1_18c] 41 fun g1 w2 => newK w2 #[.int .i64 0, .int .i64 0, .int .i64 0, .int .u64 0, .int .u64 0, .int .i64 0, .int .i64 0, .int .i64 0, .int .i64 0, .int .u64 0, .slice none 0 0, .int .u64 0, .int .i64 0, .int .u64 0, .int .i64 0, .int .u64 0, .int .i64 0, .int .u64 0, .slice none 0 0] 41 fun g3 w4 => ldI .i64 w4 (g1.add 0) fun x5 => ldI .i64 w4 (g1.add 1) fun x6 => ldI .i64 w4 (g1.add 2) fun x7 => ldI .u64 w4 (g1.add 3) fun x8 => ldI .u64 w4 (g1.add 4) fun x9 => ldI .i64 w4 (g1.add 5) fun x10 => ldI .i64 w4 (g1.add 6) fun x11 => ldI .i64 w4 (g1.add 7) fun x12 => ldI .i64 w4 (g1.add 8) fun x13 => ldI .u64 w4 (g1.add 9) fun x14 => ldSl w4 (g1.add 10) fun x15p x15n x15c => ldI .u64 w4 (g1.add 11) fun x16 => ldI .i64 w4 (g1.add 12) fun x17 => ldI .u64 w4 (g1.add 13) fun x18 => ldI .i64 w4 (g1.add 14) fun x19 => ldI .u64 w4 (g1.add 15) fun x20 => ldI .i64 w4 (g1.add 16) fun x21 => ldI .u64 w4 (g1.add 17) fun x22 => ldSl w4 (g1.add 18) fun x23p x23n x23c => CallR Tryz.prog 50 #[.pointer a0, .agg #[.int .i64 x5, .int .i64 x6, .int .i64 x7, .int .u64 x8, .int .u64 x9, .int .i64 x10, .int .i64 x11, .int .i64 x12, .int .i64 x13, .int .u64 x14, .slice x15p x15n x15c, .int .u64 x16, .int .i64 x17, .int .u64 x18, .int .i64 x19, .int .u64 x20, .int .i64 x21, .int .u64 x22, .slice x23p x23n x23c], .int .i64 6] w4 fun v24 w25 => ∃ (y26 : Bool), v24 = .bool y26 ∧ bcase (!y26) (stAll w25 g3 [.int .i64 0, .int .i64 0, .int .i64 0, .int .u64 0, .int .u64 0, .int .i64 0, .int .i64 0, .int .i64 0, .int .i64 0, .int .u64 0, .slice none 0 0, .int .u64 0, .int .i64 0, .int .u64 0, .int .i64 0, .int .u64 0, .int .i64 0, .int .u64 0, .slice none 0 0] fun w27 => ldI .i64 w27 (g3.add 0) fun x28 => ldI .i64 w27 (g3.add 1) fun x29 => ldI .i64 w27 (g3.add 2) fun x30 => ldI .u64 w27 (g3.add 3) fun x31 => ldI .u64 w27 (g3.add 4) fun x32 => ldI .i64 w27 (g3.add 5) fun x33 => ldI .i64 w27 (g3.add 6) fun x34 => ldI .i64 w27 (g3.add 7) fun x35 => ldI .i64 w27 (g3.add 8) fun x36 => ldI .u64 w27 (g3.add 9) fun x37 => ldSl w27 (g3.add 10) fun x38p x38n x38c => ldI .u64 w27 (g3.add 11) fun x39 => ldI .i64 w27 (g3.add 12) fun x40 => ldI .u64 w27 (g3.add 13) fun x41 => ldI .i64 w27 (g3.add 14) fun x42 => ldI .u64 w27 (g3.add 15) fun x43 => ldI .i64 w27 (g3.add 16) fun x44 => ldI .u64 w27 (g3.add 17) fun x45 => ldSl w27 (g3.add 18) fun x46p x46n x46c => Q (.tuple #[.agg #[.int .i64 x28, .int .i64 x29, .int .i64 x30, .int .u64 x31, .int .u64 x32, .int .i64 x33, .int .i64 x34, .int .i64 x35, .int .i64 x36, .int .u64 x37, .slice x38p x38n x38c, .int .u64 x39, .int .i64 x40, .int .u64 x41, .int .i64 x42, .int .u64 x43, .int .i64 x44, .int .u64 x45, .slice x46p x46n x46c], .bool false]) w27) (drewK w25 fun w47 => (optP a0 fun p48 => ldP w47 (p48.add 23) fun x49 => ldI .u64 w47 ((g1.add 8).add 1) fun x50 => ldI .i64 w47 (g1.add 1) fun x51 => CallR Tryz.prog 52 #[.int .u64 x50, .int .i64 x51] w47 fun v52 w53 => ∃ (y54 : Int), v52 = .int .u64 y54 ∧ (World.cell? w47 (p48.add 23) = some (.pointer x49) ∧ World.cell? w53 (p48.add 23) = some (.pointer x49)) ∧ CallR Tryz.prog 48 #[.pointer x49, .int .u64 y54] w53 fun v55 w56 => ∃ (y57 y58 : Int) (y59 : Bool) (y60 y61 y62 : Int) (y63 : Bool), v55 = .tuple #[.agg #[.int .u64 y57, .int .i64 y58, .bool y59, .int .u64 y60, .int .u64 y61, .int .i64 y62], .bool y63] ∧ newK w56 #[.int .u64 0, .int .i64 0, .bool false, .int .u64 0, .int .u64 0, .int .i64 0] 52 fun g64 w65 => (World.cell? w56 (g1.add 1) = some (.int .i64 x51) ∧ World.cell? w65 (g1.add 1) = some (.int .i64 x51)) ∧ (World.cell? w56 ((g1.add 8).add 1) = some (.int .u64 x50) ∧ World.cell? w65 ((g1.add 8).add 1) = some (.int .u64 x50)) ∧ (World.cell? w56 (p48.add 23) = some (.pointer x49) ∧ World.cell? w65 (p48.add 23) = some (.pointer x49)) ∧ stAll w65 g64 [.int .u64 y57, .int .i64 y58, .bool y59, .int .u64 y60, .int .u64 y61, .int .i64 y62] fun w66 => X22.j2 Q a0 g1 g3 g64 y63 w66) ∧ ((optP a0 fun p67 => ldP w47 (p67.add 23) fun x68 => ldI .u64 w47 ((g1.add 8).add 1) fun x69 => ldI .i64 w47 (g1.add 1) fun x70 => CallR Tryz.prog 52 #[.int .u64 x69, .int .i64 x70] w47 fun v71 w72 => ∃ (y73 : Int), v71 = .int .u64 y73 ∧ (World.cell? w47 (p67.add 23) = some (.pointer x68) ∧ World.cell? w72 (p67.add 23) = some (.pointer x68)) ∧ newK w72 #[.int .u64 0, .int .i64 0, .bool false, .int .u64 0, .int .u64 0, .int .i64 0] 52 fun g74 w75 => (World.cell? w72 (g1.add 1) = some (.int .i64 x70) ∧ World.cell? w75 (g1.add 1) = some (.int .i64 x70)) ∧ (World.cell? w72 ((g1.add 8).add 1) = some (.int .u64 x69) ∧ World.cell? w75 ((g1.add 8).add 1) = some (.int .u64 x69)) ∧ (World.cell? w72 (p67.add 23) = some (.pointer x68) ∧ World.cell? w75 (p67.add 23) = some (.pointer x68)) ∧ CallR Tryz.prog 48 #[.pointer x68, .int .u64 y73] w75 fun v76 w77 => ∃ (y78 y79 : Int) (y80 : Bool) (y81 y82 y83 : Int) (y84 : Bool), v76 = .tuple #[.agg #[.int .u64 y78, .int .i64 y79, .bool y80, .int .u64 y81, .int .u64 y82, .int .i64 y83], .bool y84] ∧ stAll w77 g74 [.int .u64 y78, .int .i64 y79, .bool y80, .int .u64 y81, .int .u64 y82, .int .i64 y83] fun w85 => X22.j2 Q a0 g1 g3 g74 y84 w85) ∧ (optP a0 fun p86 => ldP w47 (p86.add 23) fun x87 => ldI .u64 w47 ((g1.add 8).add 1) fun x88 => ldI .i64 w47 (g1.add 1) fun x89 => newK w47 #[.int .u64 0, .int .i64 0, .bool false, .int .u64 0, .int .u64 0, .int .i64 0] 52 fun g90 w91 => (World.cell? w47 (g1.add 1) = some (.int .i64 x89) ∧ World.cell? w91 (g1.add 1) = some (.int .i64 x89)) ∧ (World.cell? w47 ((g1.add 8).add 1) = some (.int .u64 x88) ∧ World.cell? w91 ((g1.add 8).add 1) = some (.int .u64 x88)) ∧ (World.cell? w47 (p86.add 23) = some (.pointer x87) ∧ World.cell? w91 (p86.add 23) = some (.pointer x87)) ∧ CallR Tryz.prog 52 #[.int .u64 x88, .int .i64 x89] w91 fun v92 w93 => ∃ (y94 : Int), v92 = .int .u64 y94 ∧ (World.cell? w91 (p86.add 23) = some (.pointer x87) ∧ World.cell? w93 (p86.add 23) = some (.pointer x87)) ∧ CallR Tryz.prog 48 #[.pointer x87, .int .u64 y94] w93 fun v95 w96 => ∃ (y97 y98 : Int) (y99 : Bool) (y100 y101 y102 : Int) (y103 : Bool), v95 = .tuple #[.agg #[.int .u64 y97, .int .i64 y98, .bool y99, .int .u64 y100, .int .u64 y101, .int .i64 y102], .bool y103] ∧ stAll w96 g90 [.int .u64 y97, .int .i64 y98, .bool y99, .int .u64 y100, .int .u64 y101, .int .i64 y102] fun w104 => X22.j2 Q a0 g1 g3 g90 y103 w104)))
def X22.S (Q : QT) : Segs
  | 0, φ, ρ, w => qP (ρ 0) fun t0 => qA (ρ 3) fun t3 => qA (ρ 4) fun t4 => qA (ρ 6) fun t6 => qB (ρ 7) fun t7 => X22.j0 Q t0 t3 t4 t6 t7 w
  | 1, φ, ρ, w => qP (ρ 0) fun t0 => qA (ρ 3) fun t3 => qA (ρ 4) fun t4 => qA (ρ 6) fun t6 => qB (ρ 7) fun t7 => X22.j1 Q t0 t3 t4 t6 t7 w
  | 2, φ, ρ, w => qP (ρ 0) fun t0 => qA (ρ 3) fun t3 => qA (ρ 4) fun t4 => qA (ρ 6) fun t6 => qB (ρ 7) fun t7 => X22.j2 Q t0 t3 t4 t6 t7 w
  | _, _, _, _ => False
noncomputable def X22.an : Ann := (.seq .leaf (.seq (.seq .leaf (.cond (.seq .leaf .leaf) .leaf)) (.seq (.draw [0, 1, 3, 7, 0, 16, 48, 0, 128, 496, 1023, 2047, 4095, 4095, 0, 24575, 65535] [[0, 1, 2, 3, 4, 5, 6, 7, 8, 9, 10, 11, 12, 13, 14, 15, 16], [0, 1, 2, 3, 4, 5, 6, 7, 8, 9, 14, 10, 11, 12, 13, 15, 16], [0, 1, 2, 3, 4, 5, 6, 7, 8, 14, 9, 10, 11, 12, 13, 15, 16]]) (.join 2 (.seq (.seq .leaf (.cond (.seq .leaf .leaf) .leaf)) (.join 1 (.seq (.seq (.draw [0, 1, 3, 7, 0, 16, 48, 127, 255, 511, 511, 0, 3071, 8191] [[0, 1, 2, 3, 4, 5, 6, 7, 8, 9, 10, 11, 12, 13], [0, 1, 2, 3, 4, 5, 6, 11, 7, 8, 9, 10, 12, 13]]) (.seq .leaf (.cond .leaf .leaf))) (.join 0 (.seq (.seq .leaf (.cond (.seq (.draw [0, 1, 0, 4, 15, 31] [[0, 1, 2, 3, 4, 5]]) .leaf) .leaf)) (.seq .leaf .leaf))))))))))
noncomputable def X22.c : Code := Tryz.f22.body.getD .skip
theorem X22.v (Q : QT) : V Tryz.prog (X22.S Q) X22.an X22.c (retC Tryz.prog Tryz.f22 Q) := ⟨trivial, ⟨⟨trivial, ⟨⟨trivial, trivial⟩, trivial⟩⟩, ⟨trivial, ⟨(by
    intro φ ρ w h
    simp only [X22.S] at h
    obtain ⟨t0, e0, h⟩ := qP_elim h
    obtain ⟨t3, e3, h⟩ := qA_elim h
    obtain ⟨t4, e4, h⟩ := qA_elim h
    obtain ⟨t6, e6, h⟩ := qA_elim h
    obtain ⟨t7, e7, h⟩ := qB_elim h
    exact ⟨(((((Env.nil.put (some 0) (.pointer t0)).put (some 3) (.pointer (some t3))).put (some 4) (.pointer (some t4))).put (some 6) (.pointer (some t6))).put (some 7) (.bool t7)), Env.le_put e7 (Env.le_put e6 (Env.le_put e4 (Env.le_put e3 (Env.le_put e0 (Env.le_nil _))))), Eq.mp (by kernel_rfl) h⟩), ⟨⟨trivial, ⟨⟨trivial, trivial⟩, trivial⟩⟩, ⟨(by
    intro φ ρ w h
    simp only [X22.S] at h
    obtain ⟨t0, e0, h⟩ := qP_elim h
    obtain ⟨t3, e3, h⟩ := qA_elim h
    obtain ⟨t4, e4, h⟩ := qA_elim h
    obtain ⟨t6, e6, h⟩ := qA_elim h
    obtain ⟨t7, e7, h⟩ := qB_elim h
    exact ⟨(((((Env.nil.put (some 0) (.pointer t0)).put (some 3) (.pointer (some t3))).put (some 4) (.pointer (some t4))).put (some 6) (.pointer (some t6))).put (some 7) (.bool t7)), Env.le_put e7 (Env.le_put e6 (Env.le_put e4 (Env.le_put e3 (Env.le_put e0 (Env.le_nil _))))), Eq.mp (by kernel_rfl) h⟩), ⟨⟨trivial, ⟨trivial, ⟨trivial, trivial⟩⟩⟩, ⟨(by
    intro φ ρ w h
    simp only [X22.S] at h
    obtain ⟨t0, e0, h⟩ := qP_elim h
    obtain ⟨t3, e3, h⟩ := qA_elim h
    obtain ⟨t4, e4, h⟩ := qA_elim h
    obtain ⟨t6, e6, h⟩ := qA_elim h
    obtain ⟨t7, e7, h⟩ := qB_elim h
    exact ⟨(((((Env.nil.put (some 0) (.pointer t0)).put (some 3) (.pointer (some t3))).put (some 4) (.pointer (some t4))).put (some 6) (.pointer (some t6))).put (some 7) (.bool t7)), Env.le_put e7 (Env.le_put e6 (Env.le_put e4 (Env.le_put e3 (Env.le_put e0 (Env.le_nil _))))), Eq.mp (by kernel_rfl) h⟩), ⟨⟨trivial, ⟨⟨trivial, trivial⟩, trivial⟩⟩, ⟨trivial, trivial⟩⟩⟩⟩⟩⟩⟩⟩⟩⟩
theorem X22.sound (a0 : Option Addr) (a1_0 a1_1 a1_2 a1_3 a1_4 a1_5 a1_6 a1_7 a1_8 a1_9 : Int) (a1_10p : Option Addr) (a1_10n a1_10c : Nat) (a1_11 a1_12 a1_13 a1_14 a1_15 a1_16 a1_17 : Int) (a1_18p : Option Addr) (a1_18n a1_18c : Nat) (w : World) (Q : QT) (h : X22.f a0 a1_0 a1_1 a1_2 a1_3 a1_4 a1_5 a1_6 a1_7 a1_8 a1_9 a1_10p a1_10n a1_10c a1_11 a1_12 a1_13 a1_14 a1_15 a1_16 a1_17 a1_18p a1_18n a1_18c w Q) : CallR Tryz.prog 22 #[.pointer a0, .agg #[.int .i64 a1_0, .int .i64 a1_1, .int .i64 a1_2, .int .u64 a1_3, .int .u64 a1_4, .int .i64 a1_5, .int .i64 a1_6, .int .i64 a1_7, .int .i64 a1_8, .int .u64 a1_9, .slice a1_10p a1_10n a1_10c, .int .u64 a1_11, .int .i64 a1_12, .int .u64 a1_13, .int .i64 a1_14, .int .u64 a1_15, .int .i64 a1_16, .int .u64 a1_17, .slice a1_18p a1_18n a1_18c]] w Q :=
  fn_sound noGr mixed Tryz.func22 (c := X22.c) (an := X22.an) (S := X22.S Q) (φ := fun _ => 0) (args := [.pointer a0, .agg #[.int .i64 a1_0, .int .i64 a1_1, .int .i64 a1_2, .int .u64 a1_3, .int .u64 a1_4, .int .i64 a1_5, .int .i64 a1_6, .int .i64 a1_7, .int .i64 a1_8, .int .u64 a1_9, .slice a1_10p a1_10n a1_10c, .int .u64 a1_11, .int .i64 a1_12, .int .u64 a1_13, .int .i64 a1_14, .int .u64 a1_15, .int .i64 a1_16, .int .u64 a1_17, .slice a1_18p a1_18n a1_18c]]) (by kernel_rfl) (by kernel_rfl) (by kernel_rfl) (X22.v Q) (Eq.mp (by kernel_rfl) h)
def X17.l0 (Q : QT) : Nat → (Option Addr) → Nat → Nat → (Option Addr) → Nat → Nat → Int → Int → World → Prop
  | 0, _, _, _, _, _, _, _, _, _ => False
  | k + 1, t5p, t5n, t5c, t10p, t10n, t10c, t11, t12, w => bcase (decide (t12 < t11)) ((0 ≤ t12 ∧ t12 < ((t10n : Nat) : Int)) ∧ optP t10p fun p1 => ldI .u64 w ((p1.add (Int.toNat t12 * 6)).add 0) fun x2 => ldI .i64 w ((p1.add (Int.toNat t12 * 6)).add 1) fun x3 => ldB w ((p1.add (Int.toNat t12 * 6)).add 2) fun x4 => ldI .u64 w ((p1.add (Int.toNat t12 * 6)).add 3) fun x5 => ldI .u64 w ((p1.add (Int.toNat t12 * 6)).add 4) fun x6 => ldI .i64 w ((p1.add (Int.toNat t12 * 6)).add 5) fun x7 => newK w #[.int .u64 0, .int .i64 0, .bool false, .int .u64 0, .int .u64 0, .int .i64 0] 52 fun g8 w9 => stAll w9 g8 [.int .u64 x2, .int .i64 x3, .bool x4, .int .u64 x5, .int .u64 x6, .int .i64 x7] fun w10 => ldB w10 (g8.add 2) fun x11 => bcase x11 (ldI .i64 w10 (g8.add 1) fun x12 => newK w10 #[.int .u64 (IntKind.wrap .u64 x12)] 22 fun g13 w14 => RunR Tryz.prog (Builtin.append_ #[39, 39] 39 #[.slice t5p t5n t5c, .slice (some g13) 1 1]) w14 fun v15 w16 => ∃ (s17p : Option Addr) (s17n s17c : Nat), v15 = .slice s17p s17n s17c ∧ X17.l0 Q k s17p s17n s17c t10p t10n t10c t11 (IntKind.wrap .i64 (t12 + (1 : Int))) w16) (X17.l0 Q k t5p t5n t5c t10p t10n t10c t11 (IntKind.wrap .i64 (t12 + (1 : Int))) w10)) (Q (.slice t5p t5n t5c) w)
def X17.f (a0 : Option Addr) (a1 : Int) (w : World) (Q : QT) : Prop := CallR Tryz.prog 49 #[.pointer a0, .int .u64 a1] w fun v1 w2 => ∃ (y3p : Option Addr) (y3n y3c : Nat), v1 = .slice y3p y3n y3c ∧ ∃ m4, X17.l0 Q m4 none 0 0 y3p y3n y3c ((y3n : Nat) : Int) (0 : Int) w2
def X17.S (Q : QT) : Segs
  | 0, φ, ρ, w => qSl (ρ 5) fun t5p t5n t5c => qSl (ρ 10) fun t10p t10n t10c => qI .i64 (ρ 11) fun t11 => qI .i64 (ρ 12) fun t12 => X17.l0 Q (φ 0) t5p t5n t5c t10p t10n t10c t11 t12 w
  | _, _, _, _ => False
noncomputable def X17.an : Ann := (.seq .leaf (.seq .leaf (.seq (.seq .leaf (.block (.loop 0 (.seq .leaf (.seq (.cond .leaf .leaf) (.seq (.block (.seq .leaf (.seq .leaf (.cond .leaf .leaf)))) .leaf)))))) (.seq .leaf .leaf))))
noncomputable def X17.c : Code := Tryz.f17.body.getD .skip
theorem X17.v (Q : QT) : V Tryz.prog (X17.S Q) X17.an X17.c (retC Tryz.prog Tryz.f17 Q) := ⟨trivial, ⟨trivial, ⟨⟨trivial, ⟨(by
    intro φ ρ w h
    simp only [X17.S] at h
    obtain ⟨t5p, t5n, t5c, e5, h⟩ := qSl_elim h
    obtain ⟨t10p, t10n, t10c, e10, h⟩ := qSl_elim h
    obtain ⟨t11, e11, h⟩ := qI_elim h
    obtain ⟨t12, e12, h⟩ := qI_elim h
    cases hk : φ 0 with
    | zero => rw [hk] at h; exact h.elim
    | succ k => rw [hk] at h; exact ⟨k, Nat.lt_succ_self k, ((((Env.nil.put (some 5) (.slice t5p t5n t5c)).put (some 10) (.slice t10p t10n t10c)).put (some 11) (.int .i64 t11)).put (some 12) (.int .i64 t12)), Env.le_put e12 (Env.le_put e11 (Env.le_put e10 (Env.le_put e5 (Env.le_nil _)))), Eq.mp (by kernel_rfl) h⟩), ⟨trivial, ⟨⟨trivial, trivial⟩, ⟨⟨trivial, ⟨trivial, ⟨trivial, trivial⟩⟩⟩, trivial⟩⟩⟩⟩⟩, ⟨trivial, trivial⟩⟩⟩⟩
theorem X17.sound (a0 : Option Addr) (a1 : Int) (w : World) (Q : QT) (h : X17.f a0 a1 w Q) : CallR Tryz.prog 17 #[.pointer a0, .int .u64 a1] w Q :=
  fn_sound noGr mixed Tryz.func17 (c := X17.c) (an := X17.an) (S := X17.S Q) (φ := fun _ => 0) (args := [.pointer a0, .int .u64 a1]) (by kernel_rfl) (by kernel_rfl) (by kernel_rfl) (X17.v Q) (Eq.mp (by kernel_rfl) h)
def X30.f (a0 : Option Addr) (a1 : Int) (w : World) (Q : QT) : Prop := newK w #[.int .u64 0, .int .i64 0, .bool false, .int .u64 0, .int .u64 0, .int .i64 0] 52 fun g1 w2 => drewK w2 fun w3 => optP a0 fun p4 => ldP w3 (p4.add 23) fun x5 => optP a0 fun p6 => ldI .u64 w3 (p6.add 25) fun x7 => CallR Tryz.prog 69 #[.pointer x5, .int .u64 x7] w3 fun v8 w9 => ∃ (y10 : Int) (y11 : Bool), v8 = .tuple #[.int .u64 y10, .bool y11] ∧ bcase (!y11) (stAll w9 g1 [.int .u64 0, .int .i64 0, .bool false, .int .u64 0, .int .u64 0, .int .i64 0] fun w12 => ldI .u64 w12 (g1.add 0) fun x13 => ldI .i64 w12 (g1.add 1) fun x14 => ldB w12 (g1.add 2) fun x15 => ldI .u64 w12 (g1.add 3) fun x16 => ldI .u64 w12 (g1.add 4) fun x17 => ldI .i64 w12 (g1.add 5) fun x18 => Q (.tuple #[.agg #[.int .u64 x13, .int .i64 x14, .bool x15, .int .u64 x16, .int .u64 x17, .int .i64 x18], .bool false]) w12) (optP a0 fun p19 => stK w9 (p19.add 25) (.int .u64 y10) fun w20 => optP a0 fun p21 => ldP w20 (p21.add 23) fun x22 => CallR Tryz.prog 48 #[.pointer x22, .int .u64 y10] w20 fun v23 w24 => ∃ (y25 y26 : Int) (y27 : Bool) (y28 y29 y30 : Int) (y31 : Bool), v23 = .tuple #[.agg #[.int .u64 y25, .int .i64 y26, .bool y27, .int .u64 y28, .int .u64 y29, .int .i64 y30], .bool y31] ∧ newK w24 #[.int .u64 0, .int .i64 0, .bool false, .int .u64 0, .int .u64 0, .int .i64 0] 52 fun g32 w33 => stAll w33 g32 [.int .u64 y25, .int .i64 y26, .bool y27, .int .u64 y28, .int .u64 y29, .int .i64 y30] fun w34 => drewK w34 fun w35 => ldB w35 (g32.add 2) fun x36 => bcase (!x36) (stAll w35 g1 [.int .u64 0, .int .i64 0, .bool false, .int .u64 0, .int .u64 0, .int .i64 0] fun w37 => ldI .u64 w37 (g1.add 0) fun x38 => ldI .i64 w37 (g1.add 1) fun x39 => ldB w37 (g1.add 2) fun x40 => ldI .u64 w37 (g1.add 3) fun x41 => ldI .u64 w37 (g1.add 4) fun x42 => ldI .i64 w37 (g1.add 5) fun x43 => Q (.tuple #[.agg #[.int .u64 x38, .int .i64 x39, .bool x40, .int .u64 x41, .int .u64 x42, .int .i64 x43], .bool false]) w37) (ldI .u64 w35 (g32.add 4) fun x44 => optP a0 fun p45 => ldI .u64 w35 ((p45.add 0).add 13) fun x46 => CallR Tryz.prog 70 #[.int .u64 x44, .int .u64 x46, .int .u64 a1] w35 fun v47 w48 => ∃ (y49 : Bool), v47 = .bool y49 ∧ bcase (!y49) (stAll w48 g1 [.int .u64 0, .int .i64 0, .bool false, .int .u64 0, .int .u64 0, .int .i64 0] fun w50 => ldI .u64 w50 (g1.add 0) fun x51 => ldI .i64 w50 (g1.add 1) fun x52 => ldB w50 (g1.add 2) fun x53 => ldI .u64 w50 (g1.add 3) fun x54 => ldI .u64 w50 (g1.add 4) fun x55 => ldI .i64 w50 (g1.add 5) fun x56 => Q (.tuple #[.agg #[.int .u64 x51, .int .i64 x52, .bool x53, .int .u64 x54, .int .u64 x55, .int .i64 x56], .bool false]) w50) (stK w48 (g32.add 2) (.bool false) fun w57 => ldI .u64 w57 (g32.add 0) fun x58 => ldI .i64 w57 (g32.add 1) fun x59 => ldB w57 (g32.add 2) fun x60 => ldI .u64 w57 (g32.add 3) fun x61 => ldI .u64 w57 (g32.add 4) fun x62 => ldI .i64 w57 (g32.add 5) fun x63 => CallR Tryz.prog 55 #[.pointer a0, .agg #[.int .u64 x58, .int .i64 x59, .bool x60, .int .u64 x61, .int .u64 x62, .int .i64 x63]] w57 fun v64 w65 => v64 = .tuple #[] ∧ ldI .u64 w65 (g32.add 0) fun x66 => ldI .i64 w65 (g32.add 1) fun x67 => ldB w65 (g32.add 2) fun x68 => ldI .u64 w65 (g32.add 3) fun x69 => ldI .u64 w65 (g32.add 4) fun x70 => ldI .i64 w65 (g32.add 5) fun x71 => stAll w65 g1 [.int .u64 x66, .int .i64 x67, .bool x68, .int .u64 x69, .int .u64 x70, .int .i64 x71] fun w72 => ldI .u64 w72 (g1.add 0) fun x73 => ldI .i64 w72 (g1.add 1) fun x74 => ldB w72 (g1.add 2) fun x75 => ldI .u64 w72 (g1.add 3) fun x76 => ldI .u64 w72 (g1.add 4) fun x77 => ldI .i64 w72 (g1.add 5) fun x78 => Q (.tuple #[.agg #[.int .u64 x73, .int .i64 x74, .bool x75, .int .u64 x76, .int .u64 x77, .int .i64 x78], .bool true]) w72)))
def X30.S (Q : QT) : Segs
  | _, _, _, _ => False
noncomputable def X30.an : Ann := (.seq .leaf (.seq (.draw [0, 1, 3, 7, 0, 16, 48, 112, 255, 511, 1023, 1023, 2047, 8191] [[0, 1, 2, 3, 4, 5, 6, 7, 8, 9, 10, 11, 12, 13]]) (.seq (.seq .leaf (.cond (.seq .leaf .leaf) .leaf)) (.seq .leaf (.seq .leaf (.seq (.seq (.draw [0, 1, 3, 7, 15, 31, 15, 79, 207, 463, 975, 15, 4095, 8191, 16383] [[0, 1, 2, 3, 4, 5, 6, 7, 8, 9, 10, 11, 12, 13, 14]]) (.cond (.seq .leaf .leaf) .leaf)) (.seq .leaf (.seq .leaf (.seq .leaf .leaf)))))))))
noncomputable def X30.c : Code := Tryz.f30.body.getD .skip
theorem X30.v (Q : QT) : V Tryz.prog (X30.S Q) X30.an X30.c (retC Tryz.prog Tryz.f30 Q) := ⟨trivial, ⟨trivial, ⟨⟨trivial, ⟨⟨trivial, trivial⟩, trivial⟩⟩, ⟨trivial, ⟨trivial, ⟨⟨trivial, ⟨⟨trivial, trivial⟩, trivial⟩⟩, ⟨trivial, ⟨trivial, ⟨trivial, trivial⟩⟩⟩⟩⟩⟩⟩⟩⟩
theorem X30.sound (a0 : Option Addr) (a1 : Int) (w : World) (Q : QT) (h : X30.f a0 a1 w Q) : CallR Tryz.prog 30 #[.pointer a0, .int .u64 a1] w Q :=
  fn_sound noGr mixed Tryz.func30 (c := X30.c) (an := X30.an) (S := X30.S Q) (φ := fun _ => 0) (args := [.pointer a0, .int .u64 a1]) (by kernel_rfl) (by kernel_rfl) (by kernel_rfl) (X30.v Q) (Eq.mp (by kernel_rfl) h)
def X25.j0 (Q : QT) (t0 : Option Addr) (t1 t2 : Int) (t10 : Bool) (w : World) : Prop := bcase t10 (Q (.tuple #[.int .u64 0, .int .i64 1]) w) (drewK w fun w1 => optP t0 fun p2 => ldM w1 (p2.add 4) fun x3 => ∃ y4 : Int, LenM Tryz.prog #[101] 3 (.map x3) w1 y4 ∧ optP t0 fun p5 => ldI .i64 w1 (p5.add 1) fun x6 => bcase (decide (y4 ≥ x6)) (Q (.tuple #[.int .u64 0, .int .i64 6]) w1) (optP t0 fun p7 => ldI .u64 w1 (p7.add 2) fun x8 => bcase (x8 == (72057594037927935 : Int)) (Q (.tuple #[.int .u64 0, .int .i64 7]) w1) (optP t0 fun p9 => ldP w1 (p9.add 3) fun x10 => CallR Tryz.prog 60 #[.pointer x10, .int .i64 (IntKind.wrap .i64 ((IntKind.wrap .i64 ((1 : Int) + t1)) + t2))] w1 fun v11 w12 => ∃ (y13 y14 : Int), v11 = .tuple #[.int .i64 y13, .int .i64 y14] ∧ bcase (y14 != (0 : Int)) (Q (.tuple #[.int .u64 0, .int .i64 y14]) w12) (optP t0 fun p15 => ldI .u64 w12 (p15.add 2) fun x16 => optP t0 fun p17 => stK w12 (p17.add 2) (.int .u64 (IntKind.wrap .u64 (x16 + (1 : Int)))) fun w18 => drewK w18 fun w19 => (optP t0 fun p20 => ldM w19 (p20.add 4) fun x21 => optP t0 fun p22 => ldI .u64 w19 (p22.add 2) fun x23 => RunR Tryz.prog (Instr.makeSlice 38 (.int .i64 t1) (.int .i64 t1)) w19 fun v24 w25 => ∃ (s26p : Option Addr) (s26n s26c : Nat), v24 = .slice s26p s26n s26c ∧ (World.cell? w19 (p22.add 2) = some (.int .u64 x23) ∧ World.cell? w25 (p22.add 2) = some (.int .u64 x23)) ∧ (World.cell? w19 (p20.add 4) = some (.map x21) ∧ World.cell? w25 (p20.add 4) = some (.map x21)) ∧ RunR Tryz.prog (Instr.makeSlice 39 (.int .i64 t2) (.int .i64 t2)) w25 fun v27 w28 => ∃ (s29p : Option Addr) (s29n s29c : Nat), v27 = .slice s29p s29n s29c ∧ (World.cell? w25 (p22.add 2) = some (.int .u64 x23) ∧ World.cell? w28 (p22.add 2) = some (.int .u64 x23)) ∧ (World.cell? w25 (p20.add 4) = some (.map x21) ∧ World.cell? w28 (p20.add 4) = some (.map x21)) ∧ newK w28 #[.int .i64 y13, .slice s26p s26n s26c, .slice s29p s29n s29c, .int .i64 0] 119 fun g30 w31 => (World.cell? w28 (p22.add 2) = some (.int .u64 x23) ∧ World.cell? w31 (p22.add 2) = some (.int .u64 x23)) ∧ (World.cell? w28 (p20.add 4) = some (.map x21) ∧ World.cell? w31 (p20.add 4) = some (.map x21)) ∧ RunR Tryz.prog (Instr.mapUpdate 101 (.map x21) (.int .u64 x23) (.pointer (some g30))) w31 fun _ w33 => optP t0 fun p34 => ldI .u64 w33 (p34.add 2) fun x35 => Q (.tuple #[.int .u64 x35, .int .i64 0]) w33) ∧ (optP t0 fun p36 => ldM w19 (p36.add 4) fun x37 => optP t0 fun p38 => ldI .u64 w19 (p38.add 2) fun x39 => RunR Tryz.prog (Instr.makeSlice 39 (.int .i64 t2) (.int .i64 t2)) w19 fun v40 w41 => ∃ (s42p : Option Addr) (s42n s42c : Nat), v40 = .slice s42p s42n s42c ∧ (World.cell? w19 (p38.add 2) = some (.int .u64 x39) ∧ World.cell? w41 (p38.add 2) = some (.int .u64 x39)) ∧ (World.cell? w19 (p36.add 4) = some (.map x37) ∧ World.cell? w41 (p36.add 4) = some (.map x37)) ∧ RunR Tryz.prog (Instr.makeSlice 38 (.int .i64 t1) (.int .i64 t1)) w41 fun v43 w44 => ∃ (s45p : Option Addr) (s45n s45c : Nat), v43 = .slice s45p s45n s45c ∧ (World.cell? w41 (p38.add 2) = some (.int .u64 x39) ∧ World.cell? w44 (p38.add 2) = some (.int .u64 x39)) ∧ (World.cell? w41 (p36.add 4) = some (.map x37) ∧ World.cell? w44 (p36.add 4) = some (.map x37)) ∧ newK w44 #[.int .i64 y13, .slice s45p s45n s45c, .slice s42p s42n s42c, .int .i64 0] 119 fun g46 w47 => (World.cell? w44 (p38.add 2) = some (.int .u64 x39) ∧ World.cell? w47 (p38.add 2) = some (.int .u64 x39)) ∧ (World.cell? w44 (p36.add 4) = some (.map x37) ∧ World.cell? w47 (p36.add 4) = some (.map x37)) ∧ RunR Tryz.prog (Instr.mapUpdate 101 (.map x37) (.int .u64 x39) (.pointer (some g46))) w47 fun _ w49 => optP t0 fun p50 => ldI .u64 w49 (p50.add 2) fun x51 => Q (.tuple #[.int .u64 x51, .int .i64 0]) w49)))))
def X25.f (a0 : Option Addr) (a1 a2 : Int) (w : World) (Q : QT) : Prop := CallR Tryz.prog 59 #[.int .i64 a1] w fun v1 w2 => ∃ (y3 : Bool), v1 = .bool y3 ∧ bcase (!y3) (X25.j0 Q a0 a1 a2 true w2) (CallR Tryz.prog 59 #[.int .i64 a2] w2 fun v4 w5 => ∃ (y6 : Bool), v4 = .bool y6 ∧ X25.j0 Q a0 a1 a2 (!y6) w5)
def X25.S (Q : QT) : Segs
  | 0, φ, ρ, w => qP (ρ 0) fun t0 => qI .i64 (ρ 1) fun t1 => qI .i64 (ρ 2) fun t2 => qB (ρ 10) fun t10 => X25.j0 Q t0 t1 t2 t10 w
  | _, _, _, _ => False
noncomputable def X25.an : Ann := (.seq .leaf (.seq (.block (.seq .leaf (.join 0 (.cond (.seq .leaf .leaf) (.seq (.draw [0, 1, 3, 7, 15, 0, 32, 96, 224, 511, 1023] [[0, 1, 2, 3, 4, 5, 6, 7, 8, 9, 10]]) (.cond (.seq .leaf .leaf) (.seq .leaf (.cond (.seq .leaf .leaf) .leaf)))))))) (.seq .leaf (.seq (.seq .leaf (.cond (.seq .leaf .leaf) .leaf)) (.seq .leaf (.seq (.draw [0, 1, 3, 7, 0, 16, 48, 112, 0, 0, 512, 0, 2048, 7936, 16128, 32767] [[0, 1, 2, 3, 4, 5, 6, 7, 8, 9, 10, 11, 12, 13, 14, 15], [0, 1, 2, 3, 4, 5, 6, 7, 8, 9, 11, 12, 10, 13, 14, 15]]) (.seq .leaf .leaf)))))))
noncomputable def X25.c : Code := Tryz.f25.body.getD .skip
theorem X25.v (Q : QT) : V Tryz.prog (X25.S Q) X25.an X25.c (retC Tryz.prog Tryz.f25 Q) := ⟨trivial, ⟨⟨trivial, ⟨(by
    intro φ ρ w h
    simp only [X25.S] at h
    obtain ⟨t0, e0, h⟩ := qP_elim h
    obtain ⟨t1, e1, h⟩ := qI_elim h
    obtain ⟨t2, e2, h⟩ := qI_elim h
    obtain ⟨t10, e10, h⟩ := qB_elim h
    exact ⟨((((Env.nil.put (some 0) (.pointer t0)).put (some 1) (.int .i64 t1)).put (some 2) (.int .i64 t2)).put (some 10) (.bool t10)), Env.le_put e10 (Env.le_put e2 (Env.le_put e1 (Env.le_put e0 (Env.le_nil _)))), Eq.mp (by kernel_rfl) h⟩), ⟨⟨trivial, trivial⟩, ⟨trivial, ⟨⟨trivial, trivial⟩, ⟨trivial, ⟨⟨trivial, trivial⟩, trivial⟩⟩⟩⟩⟩⟩⟩, ⟨trivial, ⟨⟨trivial, ⟨⟨trivial, trivial⟩, trivial⟩⟩, ⟨trivial, ⟨trivial, ⟨trivial, trivial⟩⟩⟩⟩⟩⟩⟩
theorem X25.sound (a0 : Option Addr) (a1 a2 : Int) (w : World) (Q : QT) (h : X25.f a0 a1 a2 w Q) : CallR Tryz.prog 25 #[.pointer a0, .int .i64 a1, .int .i64 a2] w Q :=
  fn_sound noGr mixed Tryz.func25 (c := X25.c) (an := X25.an) (S := X25.S Q) (φ := fun _ => 0) (args := [.pointer a0, .int .i64 a1, .int .i64 a2]) (by kernel_rfl) (by kernel_rfl) (by kernel_rfl) (X25.v Q) (Eq.mp (by kernel_rfl) h)
end Go.Proofs.YtnjmkhhaodgpbaaGreatX
namespace Go.Proofs.YtnjmkhhaodgpbaaGreatX
open Go.RowKit
structure Cfg where
  nodes : Int
  mutators : Int
  slots : Int
  cel : Int
  objects : Int
  stubs : Int
  calls : Int
  window : Int
  grey : Int
  bag : Int
  inbox : Int
  unit : Int
  drift : Int
  lease : Int
  wait : Int
  most : Int
  patience : Int
  suspect : Int
  trace : Int
  work : Int
  start : Int
  last : Int
deriving DecidableEq
def Cfg.cells (s : Cfg) : List Value := [.int .i64 s.nodes, .int .i64 s.mutators, .int .i64 s.slots, .int .i64 s.cel, .int .i64 s.objects, .int .i64 s.stubs, .int .i64 s.calls, .int .i64 s.window, .int .i64 s.grey, .int .i64 s.bag, .int .i64 s.inbox, .int .u64 s.unit, .int .u64 s.drift, .int .u64 s.lease, .int .u64 s.wait, .int .u64 s.most, .int .u64 s.patience, .int .i64 s.suspect, .int .i64 s.trace, .int .i64 s.work, .int .u64 s.start, .int .u64 s.last]
abbrev Cfg.val (s : Cfg) : Value := .agg #[.int .i64 s.nodes, .int .i64 s.mutators, .int .i64 s.slots, .int .i64 s.cel, .int .i64 s.objects, .int .i64 s.stubs, .int .i64 s.calls, .int .i64 s.window, .int .i64 s.grey, .int .i64 s.bag, .int .i64 s.inbox, .int .u64 s.unit, .int .u64 s.drift, .int .u64 s.lease, .int .u64 s.wait, .int .u64 s.most, .int .u64 s.patience, .int .i64 s.suspect, .int .i64 s.trace, .int .i64 s.work, .int .u64 s.start, .int .u64 s.last]
theorem Cfg.one (s : Cfg) : ∀ u ∈ s.cells, u.oneCell' = true := by
  intro u hu
  simp only [Cfg.cells, List.mem_cons, List.not_mem_nil, or_false] at hu
  rcases hu with rfl | rfl | rfl | rfl | rfl | rfl | rfl | rfl | rfl | rfl | rfl | rfl | rfl | rfl | rfl | rfl | rfl | rfl | rfl | rfl | rfl | rfl <;> rfl
theorem ld_Cfg {w : World} {p : Addr} {s : Cfg} {K : Int → Int → Int → Int → Int → Int → Int → Int → Int → Int → Int → Int → Int → Int → Int → Int → Int → Int → Int → Int → Int → Int → Prop} (h : At w p s.cells) (hk : K s.nodes s.mutators s.slots s.cel s.objects s.stubs s.calls s.window s.grey s.bag s.inbox s.unit s.drift s.lease s.wait s.most s.patience s.suspect s.trace s.work s.start s.last) :
    ldI .i64 w (p.add 0) fun x0 => ldI .i64 w (p.add 1) fun x1 => ldI .i64 w (p.add 2) fun x2 => ldI .i64 w (p.add 3) fun x3 => ldI .i64 w (p.add 4) fun x4 => ldI .i64 w (p.add 5) fun x5 => ldI .i64 w (p.add 6) fun x6 => ldI .i64 w (p.add 7) fun x7 => ldI .i64 w (p.add 8) fun x8 => ldI .i64 w (p.add 9) fun x9 => ldI .i64 w (p.add 10) fun x10 => ldI .u64 w (p.add 11) fun x11 => ldI .u64 w (p.add 12) fun x12 => ldI .u64 w (p.add 13) fun x13 => ldI .u64 w (p.add 14) fun x14 => ldI .u64 w (p.add 15) fun x15 => ldI .u64 w (p.add 16) fun x16 => ldI .i64 w (p.add 17) fun x17 => ldI .i64 w (p.add 18) fun x18 => ldI .i64 w (p.add 19) fun x19 => ldI .u64 w (p.add 20) fun x20 => ldI .u64 w (p.add 21) fun x21 => K x0 x1 x2 x3 x4 x5 x6 x7 x8 x9 x10 x11 x12 x13 x14 x15 x16 x17 x18 x19 x20 x21 := (ld_int (h 0 _ rfl) (ld_int (h 1 _ rfl) (ld_int (h 2 _ rfl) (ld_int (h 3 _ rfl) (ld_int (h 4 _ rfl) (ld_int (h 5 _ rfl) (ld_int (h 6 _ rfl) (ld_int (h 7 _ rfl) (ld_int (h 8 _ rfl) (ld_int (h 9 _ rfl) (ld_int (h 10 _ rfl) (ld_int (h 11 _ rfl) (ld_int (h 12 _ rfl) (ld_int (h 13 _ rfl) (ld_int (h 14 _ rfl) (ld_int (h 15 _ rfl) (ld_int (h 16 _ rfl) (ld_int (h 17 _ rfl) (ld_int (h 18 _ rfl) (ld_int (h 19 _ rfl) (ld_int (h 20 _ rfl) (ld_int (h 21 _ rfl) hk))))))))))))))))))))))
structure Raw where
  nodes : Int
  mutators : Int
  slots : Int
  cel : Int
  objects : Int
  stubs : Int
  calls : Int
  window : Int
  grey : Int
  bag : Int
  inbox : Int
  unit : Int
  drift : Int
  lease : Int
  wait : Int
  most : Int
  patience : Int
  suspect : Int
  trace : Int
  work : Int
  start : Int
  last : Int
deriving DecidableEq
def Raw.cells (s : Raw) : List Value := [.int .i64 s.nodes, .int .i64 s.mutators, .int .i64 s.slots, .int .i64 s.cel, .int .i64 s.objects, .int .i64 s.stubs, .int .i64 s.calls, .int .i64 s.window, .int .i64 s.grey, .int .i64 s.bag, .int .i64 s.inbox, .int .i64 s.unit, .int .i64 s.drift, .int .i64 s.lease, .int .i64 s.wait, .int .i64 s.most, .int .i64 s.patience, .int .i64 s.suspect, .int .i64 s.trace, .int .i64 s.work, .int .u64 s.start, .int .u64 s.last]
abbrev Raw.val (s : Raw) : Value := .agg #[.int .i64 s.nodes, .int .i64 s.mutators, .int .i64 s.slots, .int .i64 s.cel, .int .i64 s.objects, .int .i64 s.stubs, .int .i64 s.calls, .int .i64 s.window, .int .i64 s.grey, .int .i64 s.bag, .int .i64 s.inbox, .int .i64 s.unit, .int .i64 s.drift, .int .i64 s.lease, .int .i64 s.wait, .int .i64 s.most, .int .i64 s.patience, .int .i64 s.suspect, .int .i64 s.trace, .int .i64 s.work, .int .u64 s.start, .int .u64 s.last]
theorem ld_Raw {w : World} {p : Addr} {s : Raw} {K : Int → Int → Int → Int → Int → Int → Int → Int → Int → Int → Int → Int → Int → Int → Int → Int → Int → Int → Int → Int → Int → Int → Prop} (h : At w p s.cells) (hk : K s.nodes s.mutators s.slots s.cel s.objects s.stubs s.calls s.window s.grey s.bag s.inbox s.unit s.drift s.lease s.wait s.most s.patience s.suspect s.trace s.work s.start s.last) :
    ldI .i64 w (p.add 0) fun x0 => ldI .i64 w (p.add 1) fun x1 => ldI .i64 w (p.add 2) fun x2 => ldI .i64 w (p.add 3) fun x3 => ldI .i64 w (p.add 4) fun x4 => ldI .i64 w (p.add 5) fun x5 => ldI .i64 w (p.add 6) fun x6 => ldI .i64 w (p.add 7) fun x7 => ldI .i64 w (p.add 8) fun x8 => ldI .i64 w (p.add 9) fun x9 => ldI .i64 w (p.add 10) fun x10 => ldI .i64 w (p.add 11) fun x11 => ldI .i64 w (p.add 12) fun x12 => ldI .i64 w (p.add 13) fun x13 => ldI .i64 w (p.add 14) fun x14 => ldI .i64 w (p.add 15) fun x15 => ldI .i64 w (p.add 16) fun x16 => ldI .i64 w (p.add 17) fun x17 => ldI .i64 w (p.add 18) fun x18 => ldI .i64 w (p.add 19) fun x19 => ldI .u64 w (p.add 20) fun x20 => ldI .u64 w (p.add 21) fun x21 => K x0 x1 x2 x3 x4 x5 x6 x7 x8 x9 x10 x11 x12 x13 x14 x15 x16 x17 x18 x19 x20 x21 := (ld_int (h 0 _ rfl) (ld_int (h 1 _ rfl) (ld_int (h 2 _ rfl) (ld_int (h 3 _ rfl) (ld_int (h 4 _ rfl) (ld_int (h 5 _ rfl) (ld_int (h 6 _ rfl) (ld_int (h 7 _ rfl) (ld_int (h 8 _ rfl) (ld_int (h 9 _ rfl) (ld_int (h 10 _ rfl) (ld_int (h 11 _ rfl) (ld_int (h 12 _ rfl) (ld_int (h 13 _ rfl) (ld_int (h 14 _ rfl) (ld_int (h 15 _ rfl) (ld_int (h 16 _ rfl) (ld_int (h 17 _ rfl) (ld_int (h 18 _ rfl) (ld_int (h 19 _ rfl) (ld_int (h 20 _ rfl) (ld_int (h 21 _ rfl) hk))))))))))))))))))))))
structure Scn where
  serial : Int
  holder : Int
  present : Bool
  seq : Int
  at_ : Int
  dist : Int
deriving DecidableEq
def Scn.cells (s : Scn) : List Value := [.int .u64 s.serial, .int .i64 s.holder, .bool s.present, .int .u64 s.seq, .int .u64 s.at_, .int .i64 s.dist]
abbrev Scn.val (s : Scn) : Value := .agg #[.int .u64 s.serial, .int .i64 s.holder, .bool s.present, .int .u64 s.seq, .int .u64 s.at_, .int .i64 s.dist]
theorem Scn.len (s : Scn) : s.cells.length = 6 := rfl
theorem Scn.one (s : Scn) : ∀ u ∈ s.cells, u.oneCell' = true := by
  intro u hu
  simp only [Scn.cells, List.mem_cons, List.not_mem_nil, or_false] at hu
  rcases hu with rfl | rfl | rfl | rfl | rfl | rfl <;> rfl
theorem ld_Scn {w : World} {p : Addr} {s : Scn} {K : Int → Int → Bool → Int → Int → Int → Prop} (h : At w p s.cells) (hk : K s.serial s.holder s.present s.seq s.at_ s.dist) :
    ldI .u64 w (p.add 0) fun x0 => ldI .i64 w (p.add 1) fun x1 => ldB w (p.add 2) fun x2 => ldI .u64 w (p.add 3) fun x3 => ldI .u64 w (p.add 4) fun x4 => ldI .i64 w (p.add 5) fun x5 => K x0 x1 x2 x3 x4 x5 := (ld_int (h 0 _ rfl) (ld_int (h 1 _ rfl) (ld_bool (h 2 _ rfl) (ld_int (h 3 _ rfl) (ld_int (h 4 _ rfl) (ld_int (h 5 _ rfl) hk))))))
structure Obj where
  serial : Int
  cell : Int
  refsp : Option Addr
  refsn : Nat
  refsc : Nat
  valsp : Option Addr
  valsn : Nat
  valsc : Nat
  in_ : Int
def Obj.cells (s : Obj) : List Value := [.int .u64 s.serial, .int .i64 s.cell, .slice s.refsp s.refsn s.refsc, .slice s.valsp s.valsn s.valsc, .int .i64 s.in_]
theorem ld_Obj {w : World} {p : Addr} {s : Obj} {K : Int → Int → Option Addr → Nat → Nat → Option Addr → Nat → Nat → Int → Prop} (h : At w p s.cells) (hk : K s.serial s.cell s.refsp s.refsn s.refsc s.valsp s.valsn s.valsc s.in_) :
    ldI .u64 w (p.add 0) fun x0 => ldI .i64 w (p.add 1) fun x1 => ldSl w (p.add 2) fun x2p x2n x2c => ldSl w (p.add 3) fun x3p x3n x3c => ldI .i64 w (p.add 4) fun x4 => K x0 x1 x2p x2n x2c x3p x3n x3c x4 := (ld_int (h 0 _ rfl) (ld_int (h 1 _ rfl) (ld_sl (h 2 _ rfl) (ld_sl (h 3 _ rfl) (ld_int (h 4 _ rfl) hk)))))
end Go.Proofs.YtnjmkhhaodgpbaaGreatX
namespace Go.Proofs.YtnjmkhhaodgpbaaGreatX
open Go.RowKit
set_option maxRecDepth 100000
theorem Raw_of_lies {H : Type} {w : World} {n : Nat} {cs : List Value} {d : DataW H} (h : Lies Tryz.prog w (n + 2) 24 cs d) : ∃ x : Raw, cs = x.cells ∧ (Lit.int .u64 x.start).wf = true ∧ (Lit.int .u64 x.last).wf = true := by
  obtain ⟨hl, ds, hds, hdl, hf⟩ := lies_struct Tryz.underlying24 h
  rw [show Tryz.prog.cellsOf 24 = 22 by kernel_rfl] at hl
  match cs, hl with
  | [c0, c1, c2, c3, c4, c5, c6, c7, c8, c9, c10, c11, c12, c13, c14, c15, c16, c17, c18, c19, c20, c21], _ =>
  match ds, hdl with
  | [d0, d1, d2, d3, d4, d5, d6, d7, d8, d9, d10, d11, d12, d13, d14, d15, d16, d17, d18, d19, d20, d21], _ =>
  have g0 := hf 0 { name := "Nodes", type := 3, offset := 0, embedded := false, tag := "", pkgPath := "", byteOffset := 0 } d0 rfl rfl
  have g1 := hf 1 { name := "Mutators", type := 3, offset := 1, embedded := false, tag := "", pkgPath := "", byteOffset := 8 } d1 rfl rfl
  have g2 := hf 2 { name := "Slots", type := 3, offset := 2, embedded := false, tag := "", pkgPath := "", byteOffset := 16 } d2 rfl rfl
  have g3 := hf 3 { name := "Cells", type := 3, offset := 3, embedded := false, tag := "", pkgPath := "", byteOffset := 24 } d3 rfl rfl
  have g4 := hf 4 { name := "Objects", type := 3, offset := 4, embedded := false, tag := "", pkgPath := "", byteOffset := 32 } d4 rfl rfl
  have g5 := hf 5 { name := "Stubs", type := 3, offset := 5, embedded := false, tag := "", pkgPath := "", byteOffset := 40 } d5 rfl rfl
  have g6 := hf 6 { name := "Calls", type := 3, offset := 6, embedded := false, tag := "", pkgPath := "", byteOffset := 48 } d6 rfl rfl
  have g7 := hf 7 { name := "Window", type := 3, offset := 7, embedded := false, tag := "", pkgPath := "", byteOffset := 56 } d7 rfl rfl
  have g8 := hf 8 { name := "Grey", type := 3, offset := 8, embedded := false, tag := "", pkgPath := "", byteOffset := 64 } d8 rfl rfl
  have g9 := hf 9 { name := "Bag", type := 3, offset := 9, embedded := false, tag := "", pkgPath := "", byteOffset := 72 } d9 rfl rfl
  have g10 := hf 10 { name := "Inbox", type := 3, offset := 10, embedded := false, tag := "", pkgPath := "", byteOffset := 80 } d10 rfl rfl
  have g11 := hf 11 { name := "Unit", type := 3, offset := 11, embedded := false, tag := "", pkgPath := "", byteOffset := 88 } d11 rfl rfl
  have g12 := hf 12 { name := "Drift", type := 3, offset := 12, embedded := false, tag := "", pkgPath := "", byteOffset := 96 } d12 rfl rfl
  have g13 := hf 13 { name := "Lease", type := 3, offset := 13, embedded := false, tag := "", pkgPath := "", byteOffset := 104 } d13 rfl rfl
  have g14 := hf 14 { name := "Wait", type := 3, offset := 14, embedded := false, tag := "", pkgPath := "", byteOffset := 112 } d14 rfl rfl
  have g15 := hf 15 { name := "Most", type := 3, offset := 15, embedded := false, tag := "", pkgPath := "", byteOffset := 120 } d15 rfl rfl
  have g16 := hf 16 { name := "Patience", type := 3, offset := 16, embedded := false, tag := "", pkgPath := "", byteOffset := 128 } d16 rfl rfl
  have g17 := hf 17 { name := "Suspect", type := 3, offset := 17, embedded := false, tag := "", pkgPath := "", byteOffset := 136 } d17 rfl rfl
  have g18 := hf 18 { name := "Trace", type := 3, offset := 18, embedded := false, tag := "", pkgPath := "", byteOffset := 144 } d18 rfl rfl
  have g19 := hf 19 { name := "Work", type := 3, offset := 19, embedded := false, tag := "", pkgPath := "", byteOffset := 152 } d19 rfl rfl
  have g20 := hf 20 { name := "Start", type := 22, offset := 20, embedded := false, tag := "", pkgPath := "", byteOffset := 160 } d20 rfl rfl
  have g21 := hf 21 { name := "Last", type := 22, offset := 21, embedded := false, tag := "", pkgPath := "", byteOffset := 168 } d21 rfl rfl
  simp only [show Tryz.prog.cellsOf 3 = 1 by kernel_rfl, show Tryz.prog.cellsOf 22 = 1 by kernel_rfl, List.drop_zero, List.drop_succ_cons, List.take_succ_cons, List.take_zero] at g0 g1 g2 g3 g4 g5 g6 g7 g8 g9 g10 g11 g12 g13 g14 g15 g16 g17 g18 g19 g20 g21
  obtain ⟨x0, e0, _, w0⟩ := lies_int Tryz.underlying3 g0
  obtain ⟨x1, e1, _, w1⟩ := lies_int Tryz.underlying3 g1
  obtain ⟨x2, e2, _, w2⟩ := lies_int Tryz.underlying3 g2
  obtain ⟨x3, e3, _, w3⟩ := lies_int Tryz.underlying3 g3
  obtain ⟨x4, e4, _, w4⟩ := lies_int Tryz.underlying3 g4
  obtain ⟨x5, e5, _, w5⟩ := lies_int Tryz.underlying3 g5
  obtain ⟨x6, e6, _, w6⟩ := lies_int Tryz.underlying3 g6
  obtain ⟨x7, e7, _, w7⟩ := lies_int Tryz.underlying3 g7
  obtain ⟨x8, e8, _, w8⟩ := lies_int Tryz.underlying3 g8
  obtain ⟨x9, e9, _, w9⟩ := lies_int Tryz.underlying3 g9
  obtain ⟨x10, e10, _, w10⟩ := lies_int Tryz.underlying3 g10
  obtain ⟨x11, e11, _, w11⟩ := lies_int Tryz.underlying3 g11
  obtain ⟨x12, e12, _, w12⟩ := lies_int Tryz.underlying3 g12
  obtain ⟨x13, e13, _, w13⟩ := lies_int Tryz.underlying3 g13
  obtain ⟨x14, e14, _, w14⟩ := lies_int Tryz.underlying3 g14
  obtain ⟨x15, e15, _, w15⟩ := lies_int Tryz.underlying3 g15
  obtain ⟨x16, e16, _, w16⟩ := lies_int Tryz.underlying3 g16
  obtain ⟨x17, e17, _, w17⟩ := lies_int Tryz.underlying3 g17
  obtain ⟨x18, e18, _, w18⟩ := lies_int Tryz.underlying3 g18
  obtain ⟨x19, e19, _, w19⟩ := lies_int Tryz.underlying3 g19
  obtain ⟨x20, e20, _, w20⟩ := lies_int Tryz.underlying22 g20
  obtain ⟨x21, e21, _, w21⟩ := lies_int Tryz.underlying22 g21
  simp only [List.cons.injEq, and_true] at e0 e1 e2 e3 e4 e5 e6 e7 e8 e9 e10 e11 e12 e13 e14 e15 e16 e17 e18 e19 e20 e21
  subst e0 e1 e2 e3 e4 e5 e6 e7 e8 e9 e10 e11 e12 e13 e14 e15 e16 e17 e18 e19 e20 e21
  exact ⟨⟨x0, x1, x2, x3, x4, x5, x6, x7, x8, x9, x10, x11, x12, x13, x14, x15, x16, x17, x18, x19, x20, x21⟩, rfl, w20, w21⟩
end Go.Proofs.YtnjmkhhaodgpbaaGreatX
namespace Go.Proofs.YtnjmkhhaodgpbaaGreatX
open Go.RowKit
section
variable {w : World} {Q : QT}
theorem nan_79 {a : Int} (h : Q (.bool false) w) : CallR Tryz.prog 113 #[(Value.int .u64) a] w Q := by
  refine X113.sound _ _ _ ?_
  unfold X113.f
  simpa [strEq] using h
theorem less_79 {a b : Int} (h : Q (.bool (ilt a b)) w) : CallR Tryz.prog 99 #[(Value.int .u64) a, (Value.int .u64) b] w Q := by
  refine X99.sound _ _ _ _ ?_
  exact nan_79 ⟨_, rfl, h⟩
theorem isnan_79 {a : Int} (h : Q (.bool false) w) : CallR Tryz.prog 100 #[(Value.int .u64) a] w Q := by
  refine X100.sound _ _ _ ?_
  unfold X100.f
  simpa [strEq] using h
theorem cell_79 {p : Option Addr} {ks : List Int} (h : Cells w p (ks.map (Value.int .u64))) {i : Nat} {x : Int} (hi : ks[i]? = some x) : ∃ a, p = some a ∧ w.cell? (a.add (i * 1)) = some ((Value.int .u64) x) := by
  rw [Nat.mul_one]
  exact h i _ (by simp [hi])
theorem bs_l0_79 {p : Option Addr} {n c : Nat} {ks : List Int} {k : Int} (hc : Cells w p (ks.map (Value.int .u64))) (hl : ks.length = n) (hs : Srt ilt ks) (hn : n ≤ 140737488355328) :
    ∀ (m : Nat) (i j : Nat), j - i < m → i ≤ rank ilt ks k → rank ilt ks k ≤ j → j ≤ n → Q (.tuple #[.int .i64 (rank ilt ks k : Int), .bool (decide (ks[rank ilt ks k]? = some k))]) w → X79.l0 Q m p n c k (n : Int) (i : Int) (j : Int) w
  | 0, i, j, hm, _, _, _, _ => by omega
  | m + 1, i, j, hm, h1, h2, h3, hQ => by
    rw [X79.l0]
    refine bc_dec (fun hlt => ?_) (fun hge => ?_)
    · have e1 : IntKind.wrap .i64 (iShr .u64 (IntKind.wrap .u64 (IntKind.wrap .i64 ((i : Int) + (j : Int)))) 1) = (((i + j) / 2 : Nat) : Int) := by
        have : iShr .u64 (((i + j : Nat) : Int)) 1 = (((i + j) / 2 : Nat) : Int) := by
          unfold iShr
          rw [Int.fdiv_eq_ediv_of_nonneg _ (by decide)]
          rfl
        rw [i64w ((i : Int) + (j : Int)) (by omega) (by omega), u64w ((i : Int) + (j : Int)) (by omega) (by omega), show (i : Int) + (j : Int) = ((i + j : Nat) : Int) by omega, this, i64w _ (by omega) (by omega)]
      rw [e1]
      have hh : (i + j) / 2 < ks.length := by omega
      have hi : ks[(i + j) / 2]? = some (ks[(i + j) / 2]) := List.getElem?_eq_getElem hh
      generalize ks[(i + j) / 2] = x at hi
      obtain ⟨a, ha, hx⟩ := cell_79 hc hi
      refine ⟨by decide, ⟨by omega, by omega⟩, opt_some ha (ld_int (by rw [Int.toNat_natCast]; exact hx) (less_79 ⟨_, rfl, ?_⟩))⟩
      refine bc_bool (fun hxk => ?_) (fun hxk => ?_)
      · rw [show IntKind.wrap .i64 ((((i + j) / 2 : Nat) : Int) + 1) = (((i + j) / 2 + 1 : Nat) : Int) by rw [i64w _ (by omega) (by omega)]; omega]
        refine bs_l0_79 hc hl hs hn m _ j (by omega) ?_ h2 h3 hQ
        by_cases hr : rank ilt ks k ≤ (i + j) / 2
        · have := rank_ge ilt_lin hs hr hi; rw [this] at hxk; cases hxk
        · omega
      · refine bs_l0_79 hc hl hs hn m i _ (by omega) h1 ?_ (by omega) hQ
        by_cases hr : (i + j) / 2 < rank ilt ks k
        · have := rank_lt hr hi; rw [this] at hxk; cases hxk
        · omega
    · have hir : i = rank ilt ks k := by omega
      rw [hir]
      refine bc_dec (fun hlt => ?_) (fun hge2 => ?_)
      · have hh : rank ilt ks k < ks.length := by omega
        have hi : ks[rank ilt ks k]? = some (ks[rank ilt ks k]) := List.getElem?_eq_getElem hh
        rw [hi] at hQ
        generalize ks[rank ilt ks k] = x at hi hQ
        obtain ⟨a, ha, hx⟩ := cell_79 hc hi
        refine ⟨⟨by omega, by omega⟩, opt_some ha (ld_int (by rw [Int.toNat_natCast]; exact hx) (bc_eq (fun he => ?_) (fun hne => ?_)))⟩
        · subst he
          simpa using hQ
        · refine ⟨⟨by omega, by omega⟩, opt_some ha (ld_int (by rw [Int.toNat_natCast]; exact hx) (isnan_79 ⟨_, rfl, ?_⟩))⟩
          have : decide (some x = some k) = false := by simp [hne]
          rw [this] at hQ
          exact hQ
      · have hi : ks[rank ilt ks k]? = none := List.getElem?_eq_none (by omega)
        rw [hi] at hQ
        simpa using hQ
theorem bs_79 {p : Option Addr} {n c : Nat} {ks : List Int} {k : Int} (hc : Cells w p (ks.map (Value.int .u64))) (hl : ks.length = n) (hs : Srt ilt ks) (hn : n ≤ 140737488355328)
    (hQ : Q (.tuple #[.int .i64 (rank ilt ks k : Int), .bool (decide (ks[rank ilt ks k]? = some k))]) w) : CallR Tryz.prog 79 #[.slice p n c, (Value.int .u64) k] w Q := by
  refine X79.sound _ _ _ _ _ _ ⟨n + 1, ?_⟩
  have := rank_le (lt := ilt) ks k
  exact bs_l0_79 hc hl hs hn (n + 1) 0 n (by omega) (by omega) (by omega) (Nat.le_refl _) hQ
end
end Go.Proofs.YtnjmkhhaodgpbaaGreatX
namespace Go.Proofs.YtnjmkhhaodgpbaaGreatX
open Go.RowKit
theorem rowT39 : RowT Tryz.prog 39 22 1 8 := ⟨by kernel_rfl, ⟨Tryz.t22, Value.int .u64 0, by kernel_rfl, by kernel_rfl, by kernel_rfl, by kernel_rfl, by kernel_rfl⟩, by omega⟩
theorem zeroT39 : (Tryz.prog.info? 22).bind (·.zero) = some (Value.int .u64 0) := by kernel_rfl
theorem insGrow106 {L us cs X : List Value} {a : Nat} (h : a ≤ L.length) : ((L.take a ++ us ++ L.drop (a + us.length)).take (a + us.length) ++ cs ++ X).take (a + us.length + cs.length) = L.take a ++ us ++ cs := by
  have h1 : (L.take a ++ us).length = a + us.length := by simp; omega
  rw [show (L.take a ++ us ++ L.drop (a + us.length)).take (a + us.length) = L.take a ++ us by rw [← h1, List.take_left]]
  rw [show a + us.length + cs.length = (L.take a ++ us ++ cs).length by rw [List.length_append, h1], List.take_left]
theorem insRoom106 {cur us cs : List Value} {a : Nat} (h : a + us.length ≤ cur.length) :
    ((cur.take (a + us.length) ++ cs ++ cur.drop (a + us.length + cs.length)).take a ++ us ++ (cur.take (a + us.length) ++ cs ++ cur.drop (a + us.length + cs.length)).drop (a + us.length)).take (a + us.length + cs.length) = cur.take a ++ us ++ cs := by
  have h1 : (cur.take (a + us.length)).length = a + us.length := by simp; omega
  have x1 : (cur.take (a + us.length) ++ cs ++ cur.drop (a + us.length + cs.length)).take a = cur.take a := by
    rw [List.append_assoc, List.take_append_of_le_length (by omega), List.take_take, Nat.min_eq_left (by omega)]
  have x2 : (cur.take (a + us.length) ++ cs ++ cur.drop (a + us.length + cs.length)).drop (a + us.length) = cs ++ cur.drop (a + us.length + cs.length) := by
    generalize cur.take (a + us.length) = A at h1
    rw [← h1, List.append_assoc, List.drop_left]
  rw [x1, x2]
  have h2 : (cur.take a ++ us ++ cs).length = a + us.length + cs.length := by simp; omega
  rw [← h2, ← List.append_assoc, List.take_left]
theorem ins_106 {w : World} {p : Option Addr} {n c i gv : Nat} {xs us : List Value} {Q : QT} (ho : Own 22 1 w p n c xs) (hi : i ≤ n) (hv : Blk w gv us 22) (hu : us.length = 1) (h1 : ∀ v ∈ xs, v.oneCell' = true) (h1u : ∀ v ∈ us, v.oneCell' = true) (hg : gv ∉ fbl p) (hn : n + 1 ≤ 1048576)
    (hK : ∀ p' c' w', Own 22 1 w' p' (n + 1) c' (xs.take (i * 1) ++ us ++ xs.drop (i * 1)) → Fr (fbl p) w w' → (∀ z ∈ fbl p', z ∈ fbl p ∨ w.heap.size ≤ z) → Q (.slice p' (n + 1) c') w') :
    CallR Tryz.prog 106 #[.slice p n c, .int .i64 (i : Int), .slice (some (at0 gv 0)) 1 1] w Q := by
  refine X106.sound _ _ _ _ _ _ _ _ _ ?_
  have hle := ho.le
  have hlen : xs.length = n * 1 := ho.len
  have e1 : IntKind.wrap .i64 ((n : Int) + ((1 : Nat) : Int)) = ((n + 1 : Nat) : Int) := by rw [i64w _ (by omega) (by omega)]; omega
  have e2 : IntKind.wrap .i64 ((i : Int) + ((1 : Nat) : Int)) = ((i + 1 : Nat) : Int) := by rw [i64w _ (by omega) (by omega)]; omega
  have hvs : ∀ {w' : World}, Blk w' gv us 22 → Cells w' (some (at0 gv 0)) us := fun hv j u hj => ⟨at0 gv 0, rfl, by rw [add_at, Nat.zero_add]; exact hv.cell hj⟩
  have ei : (i + 1) * 1 = i * 1 + us.length := by omega
  have en : (n + 1) * 1 = i * 1 + us.length + (n - i) * 1 := by omega
  unfold X106.f
  simp only [e1, e2, toNat0, cutAt_zero', Nat.sub_zero, Int.toNat_natCast]
  refine ⟨⟨by omega, by omega, by omega⟩, bc_eq (fun h => absurd h (by decide)) (fun _ => bc_eq (fun hin => ?_) (fun hin => bc_dec (fun hgt => ?_) (fun hroom => ?_)))⟩
  · have hin : i = n := by omega
    subst hin
    refine app_own rowT39 ho (hvs hv) (by omega) (fun h => by cases h) h1u (by simp only [maxLen]; omega) (by omega) ?_
    intro p' c' w' o f e
    refine ⟨_, _, _, rfl, hK p' c' w' ?_ f e⟩
    rw [List.take_of_length_le (by omega), List.drop_eq_nil_of_le (by omega), List.append_nil]
    exact o
  · cases p with
    | none => have := ho.none_c; omega
    | some p =>
      obtain ⟨g, cur, rfl, hb, hcl, htk⟩ := Own.blk ho
      have e3 : IntKind.wrap .i64 (((n + 1 : Nat) : Int) - (i : Int)) = ((n + 1 - i : Nat) : Int) := by rw [i64w _ (by omega) (by omega)]; omega
      rw [e3]
      refine ⟨by omega, grow_blk rowT39 zeroT39 (by kernel_rfl) (xs := cur.take (i * 1)) (by rw [List.length_take]; omega) (fun j u hj => ?_) (by omega) (by omega) (by omega) (by omega) ?_⟩
      · rw [add_at, Nat.zero_add]
        rw [List.getElem?_take] at hj
        split at hj
        · exact hb.cell hj
        · cases hj
      intro C w1 hge hcm b1 f1
      rw [show i + (n + 1 - i) = n + 1 by omega] at *
      refine ⟨_, _, _, rfl, ?_⟩
      generalize hL : cur.take (i * 1) ++ zs (Value.int .u64 0) (n + 1 - i) ++ zs (Value.int .u64 0) (C - (n + 1)) = L at b1
      have hzc : (Value.int .u64 0).cells.size = 1 := by rfl
      have hLl : L.length = C * 1 := by rw [← hL, List.length_append, List.length_append, zs_length, zs_length, hzc, List.length_take]; omega
      have hLi : L.take (i * 1) = cur.take (i * 1) := by rw [← hL, List.append_assoc, List.take_append_of_le_length (by rw [List.length_take]; omega), List.take_take, Nat.min_self]
      have hv1 := hv.keep' f1
      have hb1 := hb.keep' f1
      have hgv := hv.lt
      have hgg := hb.lt
      simp only [cut_at (s := 1) (g := w.heap.size) (show C ≠ i by omega)]
      refine ⟨⟨by omega, by omega, by omega⟩, copy_blk rowT39 b1 (cs := us) (hvs hv1) (by rw [show Nat.min 1 (n + 1 - i) = 1 from Nat.min_eq_left (by omega)]; omega) (by omega) h1u ?_⟩
      intro w2 b2 f2
      unfold drewK
      have hb2 := (hb1.keep f2 (by simp; omega)).keep' (Fr.drew (w := w2))
      have b2' := b2.keep' (Fr.drew (w := w2))
      have hcs : (cur.drop (i * 1)).take ((n - i) * 1) = xs.drop (i * 1) := by rw [← htk, List.drop_take]; congr 1; omega
      have hcl2 : (xs.drop (i * 1)).length = (n - i) * 1 := by rw [List.length_drop]; omega
      by_cases hci : C = i + 1
      · omega
      simp only [cut_at (s := 1) (g := w.heap.size) (show C ≠ i + 1 from hci), cut_at (s := 1) (g := g) (show c ≠ i by omega)]
      refine ⟨_, rfl, ⟨by omega, by omega, by omega⟩, ⟨by omega, by omega, by omega⟩, copy_blk rowT39 b2' (cs := xs.drop (i * 1)) (fun j v hj => ⟨_, rfl, ?_⟩) (by rw [hcl2, show Nat.min (n - i) (n + 1 - (i + 1)) = n - i from Nat.min_eq_left (by omega)]) (by rw [hcl2]; simp only [List.length_append, List.length_take, List.length_drop]; omega) (fun u hu => h1 u (List.mem_of_mem_drop hu)) ?_⟩
      · rw [add_at]
        refine hb2.cell ?_
        rw [← hcs, List.getElem?_take] at hj
        split at hj
        · rwa [List.getElem?_drop] at hj
        · cases hj
      intro w3 b3 f3
      have hext : ∀ x ∈ [w.heap.size], x ∈ fbl (some (at0 g 0)) ∨ w.heap.size ≤ x := fun x hx => .inr (by simp at hx; omega)
      refine ⟨_, rfl, hK (some (at0 w.heap.size 0)) C w3 (own_blk b3 (by rw [hcl2]; simp only [List.length_append, List.length_take, List.length_drop]; omega) (by omega) hcm ?_) (((f1.any.trans f2 hext).tr Fr.drew).trans f3 hext) (fun z hz => .inr (by simp [fbl, at0] at hz; omega))⟩
      have a1 : xs.take (i * 1) = L.take (i * 1) := by rw [hLi, ← htk, List.take_take, Nat.min_eq_left (by omega)]
      rw [en, ei, a1, ← hcl2]
      exact insGrow106 (by omega)
  · cases p with
    | none => have := ho.none_c; omega
    | some p =>
      have hmx := own_max ho
      obtain ⟨g, cur, rfl, hb, hcl, htk⟩ := Own.blk ho
      have hne : gv ≠ g := fun h => hg (by simp [fbl, at0, h])
      simp only [cut_at (s := 1) (g := g) (show c ≠ i + 1 by omega), cut_at (s := 1) (g := g) (show c ≠ i by omega)]
      refine ⟨by omega, ⟨by omega, by omega, by omega⟩, ?_⟩
      refine ⟨_, _, by rw [run_callFunc_extern (fn := Tryz.f121) Tryz.func121 (by kernel_rfl) (by kernel_rfl) (by kernel_rfl) (e := Extern.SlicesOverlaps.overlaps #[39, 39] #[4]) (by kernel_rfl), overlaps_apart rowT39 hv hb hne (by omega)]; rfl, _, rfl, ?_⟩
      refine bc_bool (fun _ => ?_) (fun h => absurd h (by decide))
      unfold drewK
      have hb1 := hb.keep' (Fr.drew (w := w))
      have hv1 := hv.keep' (Fr.drew (w := w))
      have hcs : (cur.drop (i * 1)).take ((n - i) * 1) = xs.drop (i * 1) := by rw [← htk, List.drop_take]; congr 1; omega
      have hcl2 : (xs.drop (i * 1)).length = (n - i) * 1 := by rw [List.length_drop]; omega
      refine ⟨⟨by omega, by omega, by omega⟩, ⟨by omega, by omega, by omega⟩, ?_⟩
      refine copy_blk rowT39 hb1 (cs := xs.drop (i * 1)) (fun j v hj => ⟨_, rfl, ?_⟩) (by rw [hcl2, show Nat.min (n + 1 - i) (n + 1 - (i + 1)) = n - i from Nat.min_eq_right (by omega) |>.trans (by omega)]) (by rw [hcl2]; omega) (fun u hu => h1 u (List.mem_of_mem_drop hu)) ?_
      · rw [add_at]
        refine hb1.cell ?_
        rw [← hcs, List.getElem?_take] at hj
        split at hj
        · rwa [List.getElem?_drop] at hj
        · cases hj
      intro w2 b2 f2
      have hv2 := hv1.keep f2 (by simp [hne])
      refine ⟨_, rfl, ⟨by omega, by omega, by omega⟩, ?_⟩
      refine copy_blk rowT39 b2 (cs := us) (hvs hv2) (by rw [show Nat.min 1 (n + 1 - i) = 1 from Nat.min_eq_left (by omega)]; omega) (by rw [hcl2]; simp only [List.length_append, List.length_take, List.length_drop]; omega) h1u ?_
      intro w3 b3 f3
      refine ⟨_, rfl, hK _ _ w3 (own_blk b3 (by rw [hcl2]; simp only [List.length_append, List.length_take, List.length_drop]; omega) (by omega) hmx ?_) ((Fr.drew.tr f2).tr f3) (fun z hz => .inl hz)⟩
      have a1 : xs.take (i * 1) = cur.take (i * 1) := by rw [← htk, List.take_take, Nat.min_eq_left (by omega)]
      rw [en, ei, a1, ← hcl2]
      exact insRoom106 (by omega)
end Go.Proofs.YtnjmkhhaodgpbaaGreatX
namespace Go.Proofs.YtnjmkhhaodgpbaaGreatX
open Go.RowKit
theorem rowT47 : RowT Tryz.prog 47 52 6 48 := ⟨by kernel_rfl, ⟨Tryz.t52, Value.agg #[.int .u64 0, .int .i64 0, .bool false, .int .u64 0, .int .u64 0, .int .i64 0], by kernel_rfl, by kernel_rfl, by kernel_rfl, by kernel_rfl, by kernel_rfl⟩, by omega⟩
theorem zeroT47 : (Tryz.prog.info? 52).bind (·.zero) = some (Value.agg #[.int .u64 0, .int .i64 0, .bool false, .int .u64 0, .int .u64 0, .int .i64 0]) := by kernel_rfl
theorem insGrow107 {L us cs X : List Value} {a : Nat} (h : a ≤ L.length) : ((L.take a ++ us ++ L.drop (a + us.length)).take (a + us.length) ++ cs ++ X).take (a + us.length + cs.length) = L.take a ++ us ++ cs := by
  have h1 : (L.take a ++ us).length = a + us.length := by simp; omega
  rw [show (L.take a ++ us ++ L.drop (a + us.length)).take (a + us.length) = L.take a ++ us by rw [← h1, List.take_left]]
  rw [show a + us.length + cs.length = (L.take a ++ us ++ cs).length by rw [List.length_append, h1], List.take_left]
theorem insRoom107 {cur us cs : List Value} {a : Nat} (h : a + us.length ≤ cur.length) :
    ((cur.take (a + us.length) ++ cs ++ cur.drop (a + us.length + cs.length)).take a ++ us ++ (cur.take (a + us.length) ++ cs ++ cur.drop (a + us.length + cs.length)).drop (a + us.length)).take (a + us.length + cs.length) = cur.take a ++ us ++ cs := by
  have h1 : (cur.take (a + us.length)).length = a + us.length := by simp; omega
  have x1 : (cur.take (a + us.length) ++ cs ++ cur.drop (a + us.length + cs.length)).take a = cur.take a := by
    rw [List.append_assoc, List.take_append_of_le_length (by omega), List.take_take, Nat.min_eq_left (by omega)]
  have x2 : (cur.take (a + us.length) ++ cs ++ cur.drop (a + us.length + cs.length)).drop (a + us.length) = cs ++ cur.drop (a + us.length + cs.length) := by
    generalize cur.take (a + us.length) = A at h1
    rw [← h1, List.append_assoc, List.drop_left]
  rw [x1, x2]
  have h2 : (cur.take a ++ us ++ cs).length = a + us.length + cs.length := by simp; omega
  rw [← h2, ← List.append_assoc, List.take_left]
theorem ins_107 {w : World} {p : Option Addr} {n c i gv : Nat} {xs us : List Value} {Q : QT} (ho : Own 52 6 w p n c xs) (hi : i ≤ n) (hv : Blk w gv us 52) (hu : us.length = 6) (h1 : ∀ v ∈ xs, v.oneCell' = true) (h1u : ∀ v ∈ us, v.oneCell' = true) (hg : gv ∉ fbl p) (hn : n + 1 ≤ 1048576)
    (hK : ∀ p' c' w', Own 52 6 w' p' (n + 1) c' (xs.take (i * 6) ++ us ++ xs.drop (i * 6)) → Fr (fbl p) w w' → (∀ z ∈ fbl p', z ∈ fbl p ∨ w.heap.size ≤ z) → Q (.slice p' (n + 1) c') w') :
    CallR Tryz.prog 107 #[.slice p n c, .int .i64 (i : Int), .slice (some (at0 gv 0)) 1 1] w Q := by
  refine X107.sound _ _ _ _ _ _ _ _ _ ?_
  have hle := ho.le
  have hlen : xs.length = n * 6 := ho.len
  have e1 : IntKind.wrap .i64 ((n : Int) + ((1 : Nat) : Int)) = ((n + 1 : Nat) : Int) := by rw [i64w _ (by omega) (by omega)]; omega
  have e2 : IntKind.wrap .i64 ((i : Int) + ((1 : Nat) : Int)) = ((i + 1 : Nat) : Int) := by rw [i64w _ (by omega) (by omega)]; omega
  have hvs : ∀ {w' : World}, Blk w' gv us 52 → Cells w' (some (at0 gv 0)) us := fun hv j u hj => ⟨at0 gv 0, rfl, by rw [add_at, Nat.zero_add]; exact hv.cell hj⟩
  have ei : (i + 1) * 6 = i * 6 + us.length := by omega
  have en : (n + 1) * 6 = i * 6 + us.length + (n - i) * 6 := by omega
  unfold X107.f
  simp only [e1, e2, toNat0, cutAt_zero', Nat.sub_zero, Int.toNat_natCast]
  refine ⟨⟨by omega, by omega, by omega⟩, bc_eq (fun h => absurd h (by decide)) (fun _ => bc_eq (fun hin => ?_) (fun hin => bc_dec (fun hgt => ?_) (fun hroom => ?_)))⟩
  · have hin : i = n := by omega
    subst hin
    refine app_own rowT47 ho (hvs hv) (by omega) (fun h => by cases h) h1u (by simp only [maxLen]; omega) (by omega) ?_
    intro p' c' w' o f e
    refine ⟨_, _, _, rfl, hK p' c' w' ?_ f e⟩
    rw [List.take_of_length_le (by omega), List.drop_eq_nil_of_le (by omega), List.append_nil]
    exact o
  · cases p with
    | none => have := ho.none_c; omega
    | some p =>
      obtain ⟨g, cur, rfl, hb, hcl, htk⟩ := Own.blk ho
      have e3 : IntKind.wrap .i64 (((n + 1 : Nat) : Int) - (i : Int)) = ((n + 1 - i : Nat) : Int) := by rw [i64w _ (by omega) (by omega)]; omega
      rw [e3]
      refine ⟨by omega, grow_blk rowT47 zeroT47 (by kernel_rfl) (xs := cur.take (i * 6)) (by rw [List.length_take]; omega) (fun j u hj => ?_) (by omega) (by omega) (by omega) (by omega) ?_⟩
      · rw [add_at, Nat.zero_add]
        rw [List.getElem?_take] at hj
        split at hj
        · exact hb.cell hj
        · cases hj
      intro C w1 hge hcm b1 f1
      rw [show i + (n + 1 - i) = n + 1 by omega] at *
      refine ⟨_, _, _, rfl, ?_⟩
      generalize hL : cur.take (i * 6) ++ zs (Value.agg #[.int .u64 0, .int .i64 0, .bool false, .int .u64 0, .int .u64 0, .int .i64 0]) (n + 1 - i) ++ zs (Value.agg #[.int .u64 0, .int .i64 0, .bool false, .int .u64 0, .int .u64 0, .int .i64 0]) (C - (n + 1)) = L at b1
      have hzc : (Value.agg #[.int .u64 0, .int .i64 0, .bool false, .int .u64 0, .int .u64 0, .int .i64 0]).cells.size = 6 := by rfl
      have hLl : L.length = C * 6 := by rw [← hL, List.length_append, List.length_append, zs_length, zs_length, hzc, List.length_take]; omega
      have hLi : L.take (i * 6) = cur.take (i * 6) := by rw [← hL, List.append_assoc, List.take_append_of_le_length (by rw [List.length_take]; omega), List.take_take, Nat.min_self]
      have hv1 := hv.keep' f1
      have hb1 := hb.keep' f1
      have hgv := hv.lt
      have hgg := hb.lt
      simp only [cut_at (s := 6) (g := w.heap.size) (show C ≠ i by omega)]
      refine ⟨⟨by omega, by omega, by omega⟩, copy_blk rowT47 b1 (cs := us) (hvs hv1) (by rw [show Nat.min 1 (n + 1 - i) = 1 from Nat.min_eq_left (by omega)]; omega) (by omega) h1u ?_⟩
      intro w2 b2 f2
      unfold drewK
      have hb2 := (hb1.keep f2 (by simp; omega)).keep' (Fr.drew (w := w2))
      have b2' := b2.keep' (Fr.drew (w := w2))
      have hcs : (cur.drop (i * 6)).take ((n - i) * 6) = xs.drop (i * 6) := by rw [← htk, List.drop_take]; congr 1; omega
      have hcl2 : (xs.drop (i * 6)).length = (n - i) * 6 := by rw [List.length_drop]; omega
      by_cases hci : C = i + 1
      · omega
      simp only [cut_at (s := 6) (g := w.heap.size) (show C ≠ i + 1 from hci), cut_at (s := 6) (g := g) (show c ≠ i by omega)]
      refine ⟨_, rfl, ⟨by omega, by omega, by omega⟩, ⟨by omega, by omega, by omega⟩, copy_blk rowT47 b2' (cs := xs.drop (i * 6)) (fun j v hj => ⟨_, rfl, ?_⟩) (by rw [hcl2, show Nat.min (n - i) (n + 1 - (i + 1)) = n - i from Nat.min_eq_left (by omega)]) (by rw [hcl2]; simp only [List.length_append, List.length_take, List.length_drop]; omega) (fun u hu => h1 u (List.mem_of_mem_drop hu)) ?_⟩
      · rw [add_at]
        refine hb2.cell ?_
        rw [← hcs, List.getElem?_take] at hj
        split at hj
        · rwa [List.getElem?_drop] at hj
        · cases hj
      intro w3 b3 f3
      have hext : ∀ x ∈ [w.heap.size], x ∈ fbl (some (at0 g 0)) ∨ w.heap.size ≤ x := fun x hx => .inr (by simp at hx; omega)
      refine ⟨_, rfl, hK (some (at0 w.heap.size 0)) C w3 (own_blk b3 (by rw [hcl2]; simp only [List.length_append, List.length_take, List.length_drop]; omega) (by omega) hcm ?_) (((f1.any.trans f2 hext).tr Fr.drew).trans f3 hext) (fun z hz => .inr (by simp [fbl, at0] at hz; omega))⟩
      have a1 : xs.take (i * 6) = L.take (i * 6) := by rw [hLi, ← htk, List.take_take, Nat.min_eq_left (by omega)]
      rw [en, ei, a1, ← hcl2]
      exact insGrow107 (by omega)
  · cases p with
    | none => have := ho.none_c; omega
    | some p =>
      have hmx := own_max ho
      obtain ⟨g, cur, rfl, hb, hcl, htk⟩ := Own.blk ho
      have hne : gv ≠ g := fun h => hg (by simp [fbl, at0, h])
      simp only [cut_at (s := 6) (g := g) (show c ≠ i + 1 by omega), cut_at (s := 6) (g := g) (show c ≠ i by omega)]
      refine ⟨by omega, ⟨by omega, by omega, by omega⟩, ?_⟩
      refine ⟨_, _, by rw [run_callFunc_extern (fn := Tryz.f123) Tryz.func123 (by kernel_rfl) (by kernel_rfl) (by kernel_rfl) (e := Extern.SlicesOverlaps.overlaps #[47, 47] #[4]) (by kernel_rfl), overlaps_apart rowT47 hv hb hne (by omega)]; rfl, _, rfl, ?_⟩
      refine bc_bool (fun _ => ?_) (fun h => absurd h (by decide))
      unfold drewK
      have hb1 := hb.keep' (Fr.drew (w := w))
      have hv1 := hv.keep' (Fr.drew (w := w))
      have hcs : (cur.drop (i * 6)).take ((n - i) * 6) = xs.drop (i * 6) := by rw [← htk, List.drop_take]; congr 1; omega
      have hcl2 : (xs.drop (i * 6)).length = (n - i) * 6 := by rw [List.length_drop]; omega
      refine ⟨⟨by omega, by omega, by omega⟩, ⟨by omega, by omega, by omega⟩, ?_⟩
      refine copy_blk rowT47 hb1 (cs := xs.drop (i * 6)) (fun j v hj => ⟨_, rfl, ?_⟩) (by rw [hcl2, show Nat.min (n + 1 - i) (n + 1 - (i + 1)) = n - i from Nat.min_eq_right (by omega) |>.trans (by omega)]) (by rw [hcl2]; omega) (fun u hu => h1 u (List.mem_of_mem_drop hu)) ?_
      · rw [add_at]
        refine hb1.cell ?_
        rw [← hcs, List.getElem?_take] at hj
        split at hj
        · rwa [List.getElem?_drop] at hj
        · cases hj
      intro w2 b2 f2
      have hv2 := hv1.keep f2 (by simp [hne])
      refine ⟨_, rfl, ⟨by omega, by omega, by omega⟩, ?_⟩
      refine copy_blk rowT47 b2 (cs := us) (hvs hv2) (by rw [show Nat.min 1 (n + 1 - i) = 1 from Nat.min_eq_left (by omega)]; omega) (by rw [hcl2]; simp only [List.length_append, List.length_take, List.length_drop]; omega) h1u ?_
      intro w3 b3 f3
      refine ⟨_, rfl, hK _ _ w3 (own_blk b3 (by rw [hcl2]; simp only [List.length_append, List.length_take, List.length_drop]; omega) (by omega) hmx ?_) ((Fr.drew.tr f2).tr f3) (fun z hz => .inl hz)⟩
      have a1 : xs.take (i * 6) = cur.take (i * 6) := by rw [← htk, List.take_take, Nat.min_eq_left (by omega)]
      rw [en, ei, a1, ← hcl2]
      exact insRoom107 (by omega)
end Go.Proofs.YtnjmkhhaodgpbaaGreatX
namespace Go.Proofs.YtnjmkhhaodgpbaaGreatX
open Go.RowKit
def vc_SC (e : Int × Scn) : List Value := e.2.cells
theorem vc_len_SC (e : Int × Scn) : (vc_SC e).length = 6 := e.2.len
structure Tab_SC (w : World) (a : Addr) (foot : List Nat) (most : Int) (l : List (Int × Scn)) (g : Nat) (pk pv : Option Addr) (ck cv : Nat) : Prop where
  ad : a = at0 g 0
  blk : Blk w g [.slice pk l.length ck, .slice pv l.length cv, .int .i64 most] 127
  ks : Own 22 1 w pk l.length ck ((keys l).map (Value.int .u64))
  vs : Own 52 6 w pv l.length cv (l.flatMap vc_SC)
  ft : foot = g :: (fbl pk ++ fbl pv)
  gk : g ∉ fbl pk
  gv : g ∉ fbl pv
  kv : ∀ x ∈ fbl pk, x ∉ fbl pv
  srt : Srt ilt (keys l)
  le : (l.length : Int) ≤ most
  top : most ≤ 4096
def T_SC (w : World) (a : Addr) (foot : List Nat) (most : Int) (l : List (Int × Scn)) : Prop := ∃ g pk pv ck cv, Tab_SC w a foot most l g pk pv ck cv
section
variable {w w' : World} {a : Addr} {foot S : List Nat} {most : Int} {l : List (Int × Scn)} {Q : QT}
theorem T_SC.keep (h : T_SC w a foot most l) (f : Fr S w w') (hd : ∀ x ∈ foot, x ∉ S) : T_SC w' a foot most l := by
  obtain ⟨g, pk, pv, ck, cv, t⟩ := h
  refine ⟨g, pk, pv, ck, cv, t.ad, t.blk.keep f (hd g ?_), t.ks.keep f (fun x hx => hd x ?_), t.vs.keep f (fun x hx => hd x ?_), t.ft, t.gk, t.gv, t.kv, t.srt, t.le, t.top⟩ <;> rw [t.ft] <;> simp_all
theorem T_SC.keep' (h : T_SC w a foot most l) (f : Fr [] w w') : T_SC w' a foot most l := h.keep f (by simp)
theorem T_SC.lt (h : T_SC w a foot most l) : ∀ x ∈ foot, x < w.heap.size := by
  obtain ⟨g, pk, pv, ck, cv, t⟩ := h
  intro x hx
  rw [t.ft] at hx
  rcases List.mem_cons.1 hx with rfl | hx
  · exact t.blk.lt
  · rcases List.mem_append.1 hx with hx | hx
    · exact t.ks.lt x hx
    · exact t.vs.lt x hx
theorem T_SC.size (h : T_SC w a foot most l) : (l.length : Int) ≤ most ∧ most ≤ 4096 := by obtain ⟨g, pk, pv, ck, cv, t⟩ := h; exact ⟨t.le, t.top⟩
theorem fm_one_SC (l : List (Int × Scn)) : ∀ u ∈ l.flatMap vc_SC, u.oneCell' = true := by
  intro u hu
  obtain ⟨e, _, he⟩ := List.mem_flatMap.1 hu
  exact e.2.one u he
theorem km_one_SC (ks : List Int) : ∀ u ∈ ks.map (Value.int .u64), u.oneCell' = true := by
  intro u hu
  obtain ⟨e, _, rfl⟩ := List.mem_map.1 hu
  rfl
theorem new_SC {m : Int} (hbad : (m < 1 ∨ 4096 < m) → Q (.tuple #[.pointer none, .int .i64 1]) w)
    (hK : 1 ≤ m → m ≤ 4096 → ∀ w', T_SC w' (at0 w.heap.size 0) [w.heap.size] m [] → Fr [] w w' → Q (.tuple #[.pointer (some (at0 w.heap.size 0)), .int .i64 0]) w') :
    CallR Tryz.prog 63 #[.int .i64 m] w Q := by
  refine X63.sound _ _ _ ?_
  unfold X63.f
  refine bc_dec (fun h => hbad (.inl h)) (fun h => bc_dec (fun h2 => hbad (.inr h2)) (fun h2 => ?_))
  refine hK (by omega) (by omega) _ ⟨w.heap.size, none, none, 0, 0, rfl, Blk.made w _ _, Own.nil, Own.nil, rfl, by simp [fbl], by simp [fbl], by simp [fbl], List.Pairwise.nil, by simp; omega, by omega⟩ (Fr.alloc _ _)
theorem put_SC {k : Int} {v : Scn} (h : T_SC w a foot most l)
    (hno : has ilt l k = false → most ≤ l.length → ∀ w', Fr [] w w' → Q (.bool false) w')
    (hK : (has ilt l k = true ∨ (l.length : Int) < most) → ∀ foot' w', T_SC w' a foot' most (put ilt l k v) → Fr foot w w' → (∀ x ∈ foot', x ∈ foot ∨ w.heap.size ≤ x) → Q (.bool true) w') :
    CallR Tryz.prog 82 #[.pointer (some a), (Value.int .u64) k, v.val] w Q := by
  obtain ⟨g, pk, pv, ck, cv, t⟩ := h
  obtain ⟨rfl, hb, hk, hvs, hft, hgk, hgv, hkv, hs, hle, htop⟩ := t
  apply X82.sound
  unfold X82.f
  simp only [optP_some]
  refine newB fun gv w2 bv f2 hgv2 => ?_
  have hgl := hb.lt
  have hkl := hk.lt
  have hvl := hvs.lt
  have hb := hb.keep' f2
  have hk := hk.keep' f2
  have hvs := hvs.keep' f2
  refine ld_sl (hb.cat 0 _ rfl) (bs_79 hk.cells (by simp) hs (by omega) ⟨_, _, rfl, ?_⟩)
  have hat : rank ilt (keys l) k = at_ ilt l k := rfl
  have hhas : decide ((keys l)[at_ ilt l k]? = some k) = has ilt l k := rfl
  rw [hat, hhas]
  refine bc_bool (fun hh => ?_) (fun hh => ?_)
  · have hlt := at_lt hh
    refine drawn fun w9 f9 e9 => ?_
    have f09 := f2.tr f9
    refine ld_sl ((hb.keep' f9).cat 1 _ rfl) (ld_Scn (bv.keep' f9).cat ⟨⟨by omega, by omega⟩, ?_⟩)
    rw [Int.toNat_natCast]
    refine own_put vc_len_SC (hvs.keep' f9) hlt rfl (k, v) fun w22 o22 f22 => ?_
    have hput : put ilt l k v = l.set (at_ ilt l k) (k, v) := by unfold put; rw [if_pos hh]
    have hkeys : keys (put ilt l k v) = keys l := by
      rw [hput, keys, List.map_set]
      simp only [has, decide_eq_true_eq] at hh
      obtain ⟨h1, h2⟩ := List.getElem?_eq_some_iff.1 hh
      have : ((k, v).1 : Int) = (keys l)[at_ ilt l k] := h2.symm
      rw [this, List.set_getElem_self]
    have hln : (put ilt l k v).length = l.length := by rw [hput, List.length_set]
    refine hK (.inl hh) _ _ ⟨g, pk, pv, ck, cv, rfl, ?_, ?_, ?_, rfl, hgk, hgv, hkv, by rw [hkeys]; exact hs, by rw [hln]; exact hle, htop⟩ (f09.any.sub f22 fun x hx => by rw [hft]; simp [hx]) (fun x hx => .inl (by rw [hft]; exact hx))
    · rw [hln]; exact (hb.keep' f9).keep f22 hgv
    · rw [hln, hkeys]; exact (hk.keep' f9).keep f22 hkv
    · rw [hln, hput]; exact o22
  · refine drawn fun w9 f9 e9 => ?_
    have f09 := f2.tr f9
    have hb9 := hb.keep' f9
    refine ld_sl (hb9.cat 0 _ rfl) (ld_int (hb9.cat 2 _ rfl) (bc_dec (fun hge => ?_) (fun hlt => ?_)))
    · exact hno hh (by omega) _ f09
    · refine ld_sl (hb9.cat 0 _ rfl) (newB fun g1 w1 bk f1 hg1 => ?_)
      have f01 := f09.tr f1
      have s1 := f09.size
      have s2 := f01.size
      have hk1 := hk.keep' (f9.tr f1)
      have hv1 := hvs.keep' (f9.tr f1)
      have hb1 := hb9.keep' f1
      have bv1 := bv.keep' (f9.tr f1)
      have s02 := f2.size
      refine ins_106 hk1 (at_le l k) bk rfl (km_one_SC _) (fun u hu => by simp at hu; subst hu; rfl) (fun hm => by have := hkl _ hm; omega) (by omega) ?_
      intro pk' ck' w2 hk2 f2' e2
      refine ⟨_, _, _, rfl, ?_⟩
      have hb2 := hb1.keep f2' hgk
      have hv2 := hv1.keep f2' (fun x hx hm => hkv x hm hx)
      have bv2 := bv1.keep f2' (fun hm => by have := hkl _ hm; omega)
      refine stB hb2 (by simp) fun w3 hb3 f3 => ?_
      have hgk' : g ∉ fbl pk' := fun hm => by rcases e2 g hm with h | h; exact hgk h; omega
      have hk3 := hk2.keep f3 (fun x hx hm => hgk' (by simp at hm; rwa [← hm]))
      have hv3 := hv2.keep f3 (fun x hx hm => hgv (by simp at hm; rwa [← hm]))
      have bv3 := bv2.keep f3 (fun hm => by simp at hm; omega)
      have f03 : Fr (g :: fbl pk) w w3 := (f01.any.sub f2' fun x hx => by simp [hx]).inl f3 (by simp)
      have s3 := f03.size
      have s03 := f3.size
      have hkl2 := hk2.lt
      refine drawn fun w4 f4 e4 => ?_
      have hb4 := hb3.keep' f4
      refine ld_sl (hb4.cat 1 _ rfl) (ld_Scn (bv3.keep' f4).cat (newB fun g5 w5 b5 f5 hg5 => ⟨⟨hb4.cat 1 _ rfl, (hb4.keep' f5).cat 1 _ rfl⟩, ?_⟩))
      have f45 := f4.tr f5
      have hb5 := hb4.keep' f5
      have hk5 := hk3.keep' f45
      have hv5 := hv3.keep' f45
      have s5 := f45.size
      refine ins_107 hv5 (at_le l k) b5 v.len (fm_one_SC _) v.one (fun hm => by have := hvl _ hm; omega) (by omega) ?_
      intro pv' cv' w6 hv6 f6 e6
      refine ⟨_, _, _, rfl, ?_⟩
      have hb6 := hb5.keep f6 hgv
      have hkv' : ∀ x ∈ fbl pk', x ∉ fbl pv' := fun x hx hm => by
        have h1 := hkl2 x hx
        rcases e6 x hm with h | h
        · rcases e2 x hx with h' | h'
          · exact hkv x h' h
          · have := hvl x h; omega
        · omega
      have hk6 := hk5.keep f6 (fun x hx hm => by
        rcases e2 x hx with h' | h'
        · exact hkv x h' hm
        · have := hvl x hm; omega)
      have hgv' : g ∉ fbl pv' := fun hm => by rcases e6 g hm with h | h; exact hgv h; omega
      refine stB hb6 (by simp) fun w7 hb7 f7 => ?_
      have hk7 := hk6.keep f7 (fun x hx hm => hgk' (by simp at hm; rwa [← hm]))
      have hv7 := hv6.keep f7 (fun x hx hm => hgv' (by simp at hm; rwa [← hm]))
      have f07 : Fr foot w w7 := by
        rw [hft]
        exact (((f03.mono (fun x hx => by simp at hx; rcases hx with h | h <;> simp [h])).tr f45.any).sub f6 fun x hx => by simp [hx]).inl f7 (by simp)
      have hput : put ilt l k v = l.take (at_ ilt l k) ++ (k, v) :: l.drop (at_ ilt l k) := by unfold put; rw [if_neg (by simp [hh])]
      have hln : (put ilt l k v).length = l.length + 1 := by rw [put_length, if_neg (by simp [hh])]
      refine hK (.inr (by omega)) _ _ ⟨g, pk', pv', ck', cv', rfl, ?_, ?_, ?_, rfl, hgk', hgv', hkv', put_srt ilt_lin hs, by rw [hln]; omega, htop⟩ f07 ?_
      · rw [hln]; exact hb7
      · rw [hln, hput]
        have : (keys (l.take (at_ ilt l k) ++ (k, v) :: l.drop (at_ ilt l k))).map (Value.int .u64) = ((keys l).map (Value.int .u64)).take (at_ ilt l k * 1) ++ [(Value.int .u64) k] ++ ((keys l).map (Value.int .u64)).drop (at_ ilt l k * 1) := by
          simp [keys, List.map_take, List.map_drop]
        rw [this]; exact hk7
      · rw [hln, hput, flat_ins vc_len_SC]; exact hv7
      · intro x hx
        rw [hft]
        rcases List.mem_cons.1 hx with rfl | hx
        · exact .inl (by simp)
        · rcases List.mem_append.1 hx with hx | hx
          · rcases e2 x hx with h | h
            · exact .inl (by simp [h])
            · exact .inr (by omega)
          · rcases e6 x hx with h | h
            · exact .inl (by simp [h])
            · exact .inr (by omega)
theorem get_SC {k : Int} (h : T_SC w a foot most l) (hno : get ilt l k = none → ∀ w', Fr [] w w' → Q (.tuple #[(⟨0, 0, false, 0, 0, 0⟩ : Scn).val, .bool false]) w') (hK : ∀ v, get ilt l k = some v → ∀ w', Fr [] w w' → Q (.tuple #[v.val, .bool true]) w') :
    CallR Tryz.prog 48 #[.pointer (some a), (Value.int .u64) k] w Q := by
  obtain ⟨g, pk, pv, ck, cv, t⟩ := h
  obtain ⟨rfl, hb, hk, hvs, hft, hgk, hgv, hkv, hs, hle, htop⟩ := t
  refine X48.sound _ _ _ _ ?_
  unfold X48.f
  simp only [optP_some]
  refine newB fun g1 w2 b1 f2 hg1 => ?_
  have hb := hb.keep' f2
  have hk := hk.keep' f2
  have hvs := hvs.keep' f2
  refine ld_sl (hb.cat 0 _ rfl) (bs_79 hk.cells (by simp) hs (by omega) ⟨_, _, rfl, ?_⟩)
  have hat : rank ilt (keys l) k = at_ ilt l k := rfl
  have hhas : decide ((keys l)[at_ ilt l k]? = some k) = has ilt l k := rfl
  rw [hat, hhas]
  refine bc_bool (fun hh => ?_) (fun hh => ?_)
  · refine newB fun g9 w10 b9 f10 hg9 => ?_
    refine ld_Scn (s := ⟨0, 0, false, 0, 0, 0⟩) b9.cat (stAllB (b1.keep' f10) rfl fun w20 b20 f20 => ld_Scn (s := ⟨0, 0, false, 0, 0, 0⟩) b20.cat ?_)
    exact hno (by unfold get; rw [if_neg (by simpa using hh)]) _ ((f2.tr f10).loc f20 hg1)
  · have hh : has ilt l k = true := by simpa using hh
    have hlt := at_lt hh
    refine ld_sl (hb.cat 1 _ rfl) ⟨⟨by omega, by omega⟩, ?_⟩
    have hi := List.getElem?_eq_getElem hlt
    obtain ⟨p, hp, hc⟩ := own_at vc_len_SC hvs rfl hi
    rw [Int.toNat_natCast]
    refine opt_some hp (ld_Scn (s := (l[at_ ilt l k]).2) hc (stAllB b1 rfl fun w20 b20 f20 => ld_Scn (s := (l[at_ ilt l k]).2) b20.cat ?_))
    exact hK _ (by unfold get; rw [if_pos hh, hi]; rfl) _ (f2.loc f20 hg1)
end
end Go.Proofs.YtnjmkhhaodgpbaaGreatX
namespace Go.Proofs.YtnjmkhhaodgpbaaGreatX
open Go.RowKit
theorem delMid95 {cur cs X zs : List Value} {a u : Nat} (h : a + u + cs.length ≤ cur.length) :
    ((cur.take a ++ cs ++ X).take (a + cs.length) ++ zs).take (a + cs.length) = cur.take a ++ cs := by
  have h1 : (cur.take a ++ cs).length = a + cs.length := by simp; omega
  rw [← h1, List.take_left, List.take_left]
theorem del_95 {w : World} {p : Option Addr} {n c i : Nat} {xs : List Value} {Q : QT} (ho : Own 22 1 w p n c xs) (hi : i < n) (h1 : ∀ v ∈ xs, v.oneCell' = true) (hn : n ≤ 1048576)
    (hK : ∀ w', Own 22 1 w' p (n - 1) c (xs.take (i * 1) ++ xs.drop ((i + 1) * 1)) → Fr (fbl p) w w' → Q (.slice p (n - 1) c) w') :
    CallR Tryz.prog 95 #[.slice p n c, .int .i64 (i : Int), .int .i64 (IntKind.wrap .i64 ((i : Int) + 1))] w Q := by
  have e2 : IntKind.wrap .i64 ((i : Int) + 1) = ((i + 1 : Nat) : Int) := by rw [i64w _ (by omega) (by omega)]; omega
  rw [e2]
  refine X95.sound _ _ _ _ _ _ _ ?_
  have hle := ho.le
  have hlen : xs.length = n * 1 := ho.len
  cases p with
  | none => have := ho.none_c; omega
  | some p =>
    have hmx := own_max ho
    obtain ⟨g, cur, rfl, hb, hcl, htk⟩ := Own.blk ho
    unfold X95.f
    simp only [toNat0, cutAt_zero', Nat.sub_zero, Int.toNat_natCast]
    refine slice3 rowT39 (by omega) (by omega) (by omega) ?_
    intro q
    refine ⟨_, _, _, rfl, bc_eq (fun h => by omega) (fun _ => ?_)⟩
    unfold drewK
    have hb1 := hb.keep' (Fr.drew (w := w))
    refine ⟨⟨by omega, by omega, by omega⟩, ⟨by omega, by omega, by omega⟩, ?_⟩
    obtain ⟨ti, z, hinf, hz, hsz, hby, hzs⟩ := rowT39.info
    have hzo : ∀ v ∈ zs (Value.int .u64 0) 1, v.oneCell' = true := by decide +kernel
    have hcs : (cur.drop ((i + 1) * 1)).take ((n - (i + 1)) * 1) = xs.drop ((i + 1) * 1) := by rw [← htk, List.drop_take, show (n - (i + 1)) * 1 = n * 1 - (i + 1) * 1 by omega]
    have hcl2 : (xs.drop ((i + 1) * 1)).length = (n - (i + 1)) * 1 := by rw [List.length_drop]; omega
    obtain ⟨o, ho2, hat⟩ : ∃ o, cutAt 1 c (i + 1) (some (at0 g 0)) = some (at0 g o) ∧ ∀ j u, (xs.drop ((i + 1) * 1))[j]? = some u → w.drew.cell? ((at0 g o).add j) = some u := by
      by_cases hc : c = i + 1
      · refine ⟨0, by unfold cutAt; rw [if_pos hc], fun j u hj => ?_⟩
        have : (xs.drop ((i + 1) * 1)) = [] := List.drop_eq_nil_of_le (by omega)
        rw [this] at hj
        cases hj
      · refine ⟨(i + 1) * 1, cut_at hc, fun j u hj => ?_⟩
        rw [add_at]
        refine hb1.cell ?_
        rw [← hcs, List.getElem?_take] at hj
        split at hj
        · rwa [List.getElem?_drop] at hj
        · cases hj
    rw [ho2]
    have hr := run_append_room (P := Tryz.prog) (w := w.drew) 39 39 22 ti rowT39.under hinf g i c cur.toArray hb1 (at0 g o) (n - (i + 1)) (c - (i + 1)) (xs.drop ((i + 1) * 1)) (by rw [hsz]; exact hcl2) hat (fun u hu => h1 u (List.mem_of_mem_drop hu)) (by omega) (by rw [hsz, hcl2]; simp; omega)
    refine ⟨_, _, hr, ?_⟩
    rw [show i + (n - (i + 1)) = n - 1 by omega, hsz]
    have f2 : Fr [g] w.drew (w.drew.setRow g (cur.toArray.toList.take (i * 1) ++ xs.drop ((i + 1) * 1) ++ cur.toArray.toList.drop (i * 1 + (xs.drop ((i + 1) * 1)).length)).toArray) := ⟨rfl, rfl, rfl, by simp, fun k _ hk => setRow_other _ g k _ (fun e => hk (by simp [e]))⟩
    have b2 : Blk (w.drew.setRow g (cur.toArray.toList.take (i * 1) ++ xs.drop ((i + 1) * 1) ++ cur.toArray.toList.drop (i * 1 + (xs.drop ((i + 1) * 1)).length)).toArray) g (cur.take (i * 1) ++ xs.drop ((i + 1) * 1) ++ cur.drop (i * 1 + (xs.drop ((i + 1) * 1)).length)) 22 := setRow_heap w.drew g cur.toArray _ 22 (0, 0) hb1
    generalize (w.drew.setRow g (cur.toArray.toList.take (i * 1) ++ xs.drop ((i + 1) * 1) ++ cur.toArray.toList.drop (i * 1 + (xs.drop ((i + 1) * 1)).length)).toArray) = w2 at b2 f2 ⊢
    refine ⟨_, _, _, rfl, ⟨by omega, by omega, by omega⟩, ?_⟩
    rw [show (⟨g, 0, none⟩ : Addr) = at0 g 0 from rfl]
    rw [cut_at (s := 1) (g := g) (show c ≠ n - 1 by omega), show n - (n - 1) = 1 by omega]
    have hz'' : (Tryz.prog.info? 22).bind (·.zero) = some (Value.int .u64 0) := zeroT39
    refine clear_blk rowT39 hz'' hzo b2 (by omega) (by rw [hcl2]; simp only [List.length_append, List.length_take, List.length_drop]; omega) ?_
    intro w3 b3 f3
    refine ⟨rfl, hK w3 (own_blk b3 ?_ (by omega) hmx ?_) ((Fr.drew.tr f2).tr f3)⟩
    · have : (zs (Value.int .u64 0) 1).length = 1 := by rw [zs_length]; rfl
      rw [List.length_append, List.length_append, this]
      simp only [List.length_append, List.length_take, List.length_drop]; omega
    · have a1 : xs.take (i * 1) = cur.take (i * 1) := by rw [← htk, List.take_take, Nat.min_eq_left (by omega)]
      rw [a1, show (n - 1) * 1 = i * 1 + (xs.drop ((i + 1) * 1)).length by rw [hcl2]; omega, List.append_assoc ((cur.take (i * 1) ++ xs.drop ((i + 1) * 1) ++ cur.drop (i * 1 + (xs.drop ((i + 1) * 1)).length)).take _)]
      exact delMid95 (u := 1) (by rw [hcl2]; omega)
end Go.Proofs.YtnjmkhhaodgpbaaGreatX
namespace Go.Proofs.YtnjmkhhaodgpbaaGreatX
open Go.RowKit
theorem delMid96 {cur cs X zs : List Value} {a u : Nat} (h : a + u + cs.length ≤ cur.length) :
    ((cur.take a ++ cs ++ X).take (a + cs.length) ++ zs).take (a + cs.length) = cur.take a ++ cs := by
  have h1 : (cur.take a ++ cs).length = a + cs.length := by simp; omega
  rw [← h1, List.take_left, List.take_left]
theorem del_96 {w : World} {p : Option Addr} {n c i : Nat} {xs : List Value} {Q : QT} (ho : Own 52 6 w p n c xs) (hi : i < n) (h1 : ∀ v ∈ xs, v.oneCell' = true) (hn : n ≤ 1048576)
    (hK : ∀ w', Own 52 6 w' p (n - 1) c (xs.take (i * 6) ++ xs.drop ((i + 1) * 6)) → Fr (fbl p) w w' → Q (.slice p (n - 1) c) w') :
    CallR Tryz.prog 96 #[.slice p n c, .int .i64 (i : Int), .int .i64 (IntKind.wrap .i64 ((i : Int) + 1))] w Q := by
  have e2 : IntKind.wrap .i64 ((i : Int) + 1) = ((i + 1 : Nat) : Int) := by rw [i64w _ (by omega) (by omega)]; omega
  rw [e2]
  refine X96.sound _ _ _ _ _ _ _ ?_
  have hle := ho.le
  have hlen : xs.length = n * 6 := ho.len
  cases p with
  | none => have := ho.none_c; omega
  | some p =>
    have hmx := own_max ho
    obtain ⟨g, cur, rfl, hb, hcl, htk⟩ := Own.blk ho
    unfold X96.f
    simp only [toNat0, cutAt_zero', Nat.sub_zero, Int.toNat_natCast]
    refine slice3 rowT47 (by omega) (by omega) (by omega) ?_
    intro q
    refine ⟨_, _, _, rfl, bc_eq (fun h => by omega) (fun _ => ?_)⟩
    unfold drewK
    have hb1 := hb.keep' (Fr.drew (w := w))
    refine ⟨⟨by omega, by omega, by omega⟩, ⟨by omega, by omega, by omega⟩, ?_⟩
    obtain ⟨ti, z, hinf, hz, hsz, hby, hzs⟩ := rowT47.info
    have hzo : ∀ v ∈ zs (Value.agg #[.int .u64 0, .int .i64 0, .bool false, .int .u64 0, .int .u64 0, .int .i64 0]) 1, v.oneCell' = true := by decide +kernel
    have hcs : (cur.drop ((i + 1) * 6)).take ((n - (i + 1)) * 6) = xs.drop ((i + 1) * 6) := by rw [← htk, List.drop_take, show (n - (i + 1)) * 6 = n * 6 - (i + 1) * 6 by omega]
    have hcl2 : (xs.drop ((i + 1) * 6)).length = (n - (i + 1)) * 6 := by rw [List.length_drop]; omega
    obtain ⟨o, ho2, hat⟩ : ∃ o, cutAt 6 c (i + 1) (some (at0 g 0)) = some (at0 g o) ∧ ∀ j u, (xs.drop ((i + 1) * 6))[j]? = some u → w.drew.cell? ((at0 g o).add j) = some u := by
      by_cases hc : c = i + 1
      · refine ⟨0, by unfold cutAt; rw [if_pos hc], fun j u hj => ?_⟩
        have : (xs.drop ((i + 1) * 6)) = [] := List.drop_eq_nil_of_le (by omega)
        rw [this] at hj
        cases hj
      · refine ⟨(i + 1) * 6, cut_at hc, fun j u hj => ?_⟩
        rw [add_at]
        refine hb1.cell ?_
        rw [← hcs, List.getElem?_take] at hj
        split at hj
        · rwa [List.getElem?_drop] at hj
        · cases hj
    rw [ho2]
    have hr := run_append_room (P := Tryz.prog) (w := w.drew) 47 47 52 ti rowT47.under hinf g i c cur.toArray hb1 (at0 g o) (n - (i + 1)) (c - (i + 1)) (xs.drop ((i + 1) * 6)) (by rw [hsz]; exact hcl2) hat (fun u hu => h1 u (List.mem_of_mem_drop hu)) (by omega) (by rw [hsz, hcl2]; simp; omega)
    refine ⟨_, _, hr, ?_⟩
    rw [show i + (n - (i + 1)) = n - 1 by omega, hsz]
    have f2 : Fr [g] w.drew (w.drew.setRow g (cur.toArray.toList.take (i * 6) ++ xs.drop ((i + 1) * 6) ++ cur.toArray.toList.drop (i * 6 + (xs.drop ((i + 1) * 6)).length)).toArray) := ⟨rfl, rfl, rfl, by simp, fun k _ hk => setRow_other _ g k _ (fun e => hk (by simp [e]))⟩
    have b2 : Blk (w.drew.setRow g (cur.toArray.toList.take (i * 6) ++ xs.drop ((i + 1) * 6) ++ cur.toArray.toList.drop (i * 6 + (xs.drop ((i + 1) * 6)).length)).toArray) g (cur.take (i * 6) ++ xs.drop ((i + 1) * 6) ++ cur.drop (i * 6 + (xs.drop ((i + 1) * 6)).length)) 52 := setRow_heap w.drew g cur.toArray _ 52 (0, 0) hb1
    generalize (w.drew.setRow g (cur.toArray.toList.take (i * 6) ++ xs.drop ((i + 1) * 6) ++ cur.toArray.toList.drop (i * 6 + (xs.drop ((i + 1) * 6)).length)).toArray) = w2 at b2 f2 ⊢
    refine ⟨_, _, _, rfl, ⟨by omega, by omega, by omega⟩, ?_⟩
    rw [show (⟨g, 0, none⟩ : Addr) = at0 g 0 from rfl]
    rw [cut_at (s := 6) (g := g) (show c ≠ n - 1 by omega), show n - (n - 1) = 1 by omega]
    have hz'' : (Tryz.prog.info? 52).bind (·.zero) = some (Value.agg #[.int .u64 0, .int .i64 0, .bool false, .int .u64 0, .int .u64 0, .int .i64 0]) := zeroT47
    refine clear_blk rowT47 hz'' hzo b2 (by omega) (by rw [hcl2]; simp only [List.length_append, List.length_take, List.length_drop]; omega) ?_
    intro w3 b3 f3
    refine ⟨rfl, hK w3 (own_blk b3 ?_ (by omega) hmx ?_) ((Fr.drew.tr f2).tr f3)⟩
    · have : (zs (Value.agg #[.int .u64 0, .int .i64 0, .bool false, .int .u64 0, .int .u64 0, .int .i64 0]) 1).length = 6 := by rw [zs_length]; rfl
      rw [List.length_append, List.length_append, this]
      simp only [List.length_append, List.length_take, List.length_drop]; omega
    · have a1 : xs.take (i * 6) = cur.take (i * 6) := by rw [← htk, List.take_take, Nat.min_eq_left (by omega)]
      rw [a1, show (n - 1) * 6 = i * 6 + (xs.drop ((i + 1) * 6)).length by rw [hcl2]; omega, List.append_assoc ((cur.take (i * 6) ++ xs.drop ((i + 1) * 6) ++ cur.drop (i * 6 + (xs.drop ((i + 1) * 6)).length)).take _)]
      exact delMid96 (u := 6) (by rw [hcl2]; omega)
end Go.Proofs.YtnjmkhhaodgpbaaGreatX
