/- What the claim needs of the calculus and of the walks, part 3: XT2 MStruct TTabCB TDel74 TDel75 TMoreCB QMsg QRight QFits PCall. -/
import Derived.Test.YtdgoalhnkegbmaaGreatC2
namespace Go.Proofs.YtdgoalhnkegbmaaGreatX
open Go.RowKit
set_option linter.unusedVariables false
set_option maxRecDepth 100000
/-! ### mooring/mooringhand.Config: function 4 -/
def X4.j0 (Q : Value → World → Prop) (t1 : Addr) (t2 : Addr) (t3 : Addr) (w : World) : Prop := ldI .i64 w (t1.add 4) fun x1 => CallR Tryz.prog 10 #[.int .i64 x1, .int .i64 (14 : Int)] w fun v2 w3 => ∃ (y4 : Int), v2 = .int .i64 y4 ∧ stK w3 (t3.add 4) (.int .i64 (IntKind.wrap .i64 ((2 : Int) + y4))) fun w5 => ldI .i64 w5 (t1.add 5) fun x6 => CallR Tryz.prog 10 #[.int .i64 x6, .int .i64 (10 : Int)] w5 fun v7 w8 => ∃ (y9 : Int), v7 = .int .i64 y9 ∧ stK w8 (t3.add 5) (.int .i64 (IntKind.wrap .i64 ((2 : Int) + y9))) fun w10 => ldI .i64 w10 (t1.add 6) fun x11 => CallR Tryz.prog 10 #[.int .i64 x11, .int .i64 (6 : Int)] w10 fun v12 w13 => ∃ (y14 : Int), v12 = .int .i64 y14 ∧ stK w13 (t3.add 6) (.int .i64 (IntKind.wrap .i64 ((1 : Int) + y14))) fun w15 => ldI .i64 w15 (t1.add 7) fun x16 => CallR Tryz.prog 10 #[.int .i64 x16, .int .i64 (4 : Int)] w15 fun v17 w18 => ∃ (y19 : Int), v17 = .int .i64 y19 ∧ stK w18 (t3.add 7) (.int .i64 (IntKind.wrap .i64 ((1 : Int) + y19))) fun w20 => ldI .i64 w20 (t1.add 8) fun x21 => CallR Tryz.prog 10 #[.int .i64 x21, .int .i64 (8 : Int)] w20 fun v22 w23 => ∃ (y24 : Int), v22 = .int .i64 y24 ∧ stK w23 (t3.add 8) (.int .i64 (IntKind.wrap .i64 ((1 : Int) + y24))) fun w25 => ldI .i64 w25 (t1.add 9) fun x26 => CallR Tryz.prog 10 #[.int .i64 x26, .int .i64 (60 : Int)] w25 fun v27 w28 => ∃ (y29 : Int), v27 = .int .i64 y29 ∧ stK w28 (t3.add 9) (.int .i64 (IntKind.wrap .i64 ((4 : Int) + y29))) fun w30 => ldI .i64 w30 (t1.add 10) fun x31 => CallR Tryz.prog 10 #[.int .i64 x31, .int .i64 (4 : Int)] w30 fun v32 w33 => ∃ (y34 : Int), v32 = .int .i64 y34 ∧ stK w33 (t3.add 10) (.int .i64 (IntKind.wrap .i64 ((1 : Int) + y34))) fun w35 => ldI .i64 w35 (t1.add 11) fun x36 => CallR Tryz.prog 10 #[.int .i64 x36, .int .i64 (20 : Int)] w35 fun v37 w38 => ∃ (y39 : Int), v37 = .int .i64 y39 ∧ stK w38 (t3.add 11) (.int .u64 (IntKind.wrap .u64 (IntKind.wrap .i64 ((4 : Int) + y39)))) fun w40 => ldI .i64 w40 (t1.add 12) fun x41 => ldI .u64 w40 (t3.add 11) fun x42 => (2 : Int) ≠ 0 ∧ CallR Tryz.prog 10 #[.int .i64 x41, .int .i64 (IntKind.wrap .i64 (Int.tdiv (IntKind.wrap .i64 x42) (2 : Int)))] w40 fun v43 w44 => ∃ (y45 : Int), v43 = .int .i64 y45 ∧ stK w44 (t3.add 12) (.int .u64 (IntKind.wrap .u64 y45)) fun w46 => drewK w46 fun w47 => ldI .u64 w47 (t3.add 11) fun x48 => ldI .i64 w47 (t1.add 13) fun x49 => CallR Tryz.prog 10 #[.int .i64 x49, .int .i64 (200 : Int)] w47 fun v50 w51 => ∃ (y52 : Int), v50 = .int .i64 y52 ∧ (World.cell? w47 (t3.add 11) = some (.int .u64 x48) ∧ World.cell? w51 (t3.add 11) = some (.int .u64 x48)) ∧ stK w51 (t3.add 13) (.int .u64 (IntKind.wrap .u64 (x48 * (IntKind.wrap .u64 (IntKind.wrap .i64 ((40 : Int) + y52)))))) fun w53 => ldI .i64 w53 (t1.add 14) fun x54 => CallR Tryz.prog 10 #[.int .i64 x54, .int .i64 (30 : Int)] w53 fun v55 w56 => ∃ (y57 : Int), v55 = .int .i64 y57 ∧ stK w56 (t3.add 14) (.int .u64 (IntKind.wrap .u64 (IntKind.wrap .i64 ((1 : Int) + y57)))) fun w58 => drewK w58 fun w59 => ldI .u64 w59 (t3.add 14) fun x60 => ldI .i64 w59 (t1.add 15) fun x61 => CallR Tryz.prog 10 #[.int .i64 x61, .int .i64 (60 : Int)] w59 fun v62 w63 => ∃ (y64 : Int), v62 = .int .i64 y64 ∧ (World.cell? w59 (t3.add 14) = some (.int .u64 x60) ∧ World.cell? w63 (t3.add 14) = some (.int .u64 x60)) ∧ stK w63 (t3.add 15) (.int .u64 (IntKind.wrap .u64 (x60 + (IntKind.wrap .u64 y64)))) fun w65 => drewK w65 fun w66 => ldI .u64 w66 (t3.add 11) fun x67 => ldI .i64 w66 (t1.add 16) fun x68 => CallR Tryz.prog 10 #[.int .i64 x68, .int .i64 (60 : Int)] w66 fun v69 w70 => ∃ (y71 : Int), v69 = .int .i64 y71 ∧ (World.cell? w66 (t3.add 11) = some (.int .u64 x67) ∧ World.cell? w70 (t3.add 11) = some (.int .u64 x67)) ∧ stK w70 (t3.add 16) (.int .u64 (IntKind.wrap .u64 (x67 * (IntKind.wrap .u64 (IntKind.wrap .i64 ((1 : Int) + y71)))))) fun w72 => ldI .i64 w72 (t1.add 17) fun x73 => CallR Tryz.prog 10 #[.int .i64 x73, .int .i64 (4 : Int)] w72 fun v74 w75 => ∃ (y76 : Int), v74 = .int .i64 y76 ∧ stK w75 (t3.add 17) (.int .i64 (IntKind.wrap .i64 ((1 : Int) + y76))) fun w77 => drewK w77 fun w78 => ldI .i64 w78 (t3.add 17) fun x79 => ldI .i64 w78 (t1.add 18) fun x80 => CallR Tryz.prog 10 #[.int .i64 x80, .int .i64 (4 : Int)] w78 fun v81 w82 => ∃ (y83 : Int), v81 = .int .i64 y83 ∧ (World.cell? w78 (t3.add 17) = some (.int .i64 x79) ∧ World.cell? w82 (t3.add 17) = some (.int .i64 x79)) ∧ stK w82 (t3.add 18) (.int .i64 (IntKind.wrap .i64 ((IntKind.wrap .i64 (x79 + (1 : Int))) + y83))) fun w84 => ldI .i64 w84 (t1.add 19) fun x85 => CallR Tryz.prog 10 #[.int .i64 x85, .int .i64 (12 : Int)] w84 fun v86 w87 => ∃ (y88 : Int), v86 = .int .i64 y88 ∧ stK w87 (t3.add 19) (.int .i64 (IntKind.wrap .i64 ((1 : Int) + y88))) fun w89 => ldI .u64 w89 (t1.add 20) fun x90 => (1000 : Int) ≠ 0 ∧ stK w89 (t3.add 20) (.int .u64 (Int.tmod x90 (1000 : Int))) fun w91 => ldI .u64 w91 (t1.add 21) fun x92 => (1000 : Int) ≠ 0 ∧ stK w91 (t3.add 21) (.int .u64 (Int.tmod x92 (1000 : Int))) fun w93 => ldI .i64 w93 (t3.add 0) fun x94 => ldI .i64 w93 (t3.add 1) fun x95 => ldI .i64 w93 (t3.add 2) fun x96 => ldI .i64 w93 (t3.add 3) fun x97 => ldI .i64 w93 (t3.add 4) fun x98 => ldI .i64 w93 (t3.add 5) fun x99 => ldI .i64 w93 (t3.add 6) fun x100 => ldI .i64 w93 (t3.add 7) fun x101 => ldI .i64 w93 (t3.add 8) fun x102 => ldI .i64 w93 (t3.add 9) fun x103 => ldI .i64 w93 (t3.add 10) fun x104 => ldI .u64 w93 (t3.add 11) fun x105 => ldI .u64 w93 (t3.add 12) fun x106 => ldI .u64 w93 (t3.add 13) fun x107 => ldI .u64 w93 (t3.add 14) fun x108 => ldI .u64 w93 (t3.add 15) fun x109 => ldI .u64 w93 (t3.add 16) fun x110 => ldI .i64 w93 (t3.add 17) fun x111 => ldI .i64 w93 (t3.add 18) fun x112 => ldI .i64 w93 (t3.add 19) fun x113 => ldI .u64 w93 (t3.add 20) fun x114 => ldI .u64 w93 (t3.add 21) fun x115 => stAll w93 t2 [.int .i64 x94, .int .i64 x95, .int .i64 x96, .int .i64 x97, .int .i64 x98, .int .i64 x99, .int .i64 x100, .int .i64 x101, .int .i64 x102, .int .i64 x103, .int .i64 x104, .int .u64 x105, .int .u64 x106, .int .u64 x107, .int .u64 x108, .int .u64 x109, .int .u64 x110, .int .i64 x111, .int .i64 x112, .int .i64 x113, .int .u64 x114, .int .u64 x115] fun w116 => ldI .i64 w116 (t2.add 0) fun x117 => ldI .i64 w116 (t2.add 1) fun x118 => ldI .i64 w116 (t2.add 2) fun x119 => ldI .i64 w116 (t2.add 3) fun x120 => ldI .i64 w116 (t2.add 4) fun x121 => ldI .i64 w116 (t2.add 5) fun x122 => ldI .i64 w116 (t2.add 6) fun x123 => ldI .i64 w116 (t2.add 7) fun x124 => ldI .i64 w116 (t2.add 8) fun x125 => ldI .i64 w116 (t2.add 9) fun x126 => ldI .i64 w116 (t2.add 10) fun x127 => ldI .u64 w116 (t2.add 11) fun x128 => ldI .u64 w116 (t2.add 12) fun x129 => ldI .u64 w116 (t2.add 13) fun x130 => ldI .u64 w116 (t2.add 14) fun x131 => ldI .u64 w116 (t2.add 15) fun x132 => ldI .u64 w116 (t2.add 16) fun x133 => ldI .i64 w116 (t2.add 17) fun x134 => ldI .i64 w116 (t2.add 18) fun x135 => ldI .i64 w116 (t2.add 19) fun x136 => ldI .u64 w116 (t2.add 20) fun x137 => ldI .u64 w116 (t2.add 21) fun x138 => Q (.agg #[.int .i64 x117, .int .i64 x118, .int .i64 x119, .int .i64 x120, .int .i64 x121, .int .i64 x122, .int .i64 x123, .int .i64 x124, .int .i64 x125, .int .i64 x126, .int .i64 x127, .int .u64 x128, .int .u64 x129, .int .u64 x130, .int .u64 x131, .int .u64 x132, .int .u64 x133, .int .i64 x134, .int .i64 x135, .int .i64 x136, .int .u64 x137, .int .u64 x138]) w116
def X4.f (a0_0 : Int) (a0_1 : Int) (a0_2 : Int) (a0_3 : Int) (a0_4 : Int) (a0_5 : Int) (a0_6 : Int) (a0_7 : Int) (a0_8 : Int) (a0_9 : Int) (a0_10 : Int) (a0_11 : Int) (a0_12 : Int) (a0_13 : Int) (a0_14 : Int) (a0_15 : Int) (a0_16 : Int) (a0_17 : Int) (a0_18 : Int) (a0_19 : Int) (a0_20 : Int) (a0_21 : Int) (w : World) (Q : Value → World → Prop) : Prop := newK w #[.int .i64 a0_0, .int .i64 a0_1, .int .i64 a0_2, .int .i64 a0_3, .int .i64 a0_4, .int .i64 a0_5, .int .i64 a0_6, .int .i64 a0_7, .int .i64 a0_8, .int .i64 a0_9, .int .i64 a0_10, .int .i64 a0_11, .int .i64 a0_12, .int .i64 a0_13, .int .i64 a0_14, .int .i64 a0_15, .int .i64 a0_16, .int .i64 a0_17, .int .i64 a0_18, .int .i64 a0_19, .int .u64 a0_20, .int .u64 a0_21] 24 fun g1 w2 => newK w2 #[.int .i64 (0 : Int), .int .i64 (0 : Int), .int .i64 (0 : Int), .int .i64 (0 : Int), .int .i64 (0 : Int), .int .i64 (0 : Int), .int .i64 (0 : Int), .int .i64 (0 : Int), .int .i64 (0 : Int), .int .i64 (0 : Int), .int .i64 (0 : Int), .int .u64 (0 : Int), .int .u64 (0 : Int), .int .u64 (0 : Int), .int .u64 (0 : Int), .int .u64 (0 : Int), .int .u64 (0 : Int), .int .i64 (0 : Int), .int .i64 (0 : Int), .int .i64 (0 : Int), .int .u64 (0 : Int), .int .u64 (0 : Int)] 27 fun g3 w4 => drewK w4 fun w5 => (ldI .i64 w5 (g1.add 0) fun x6 => CallR Tryz.prog 10 #[.int .i64 x6, .int .i64 (3 : Int)] w5 fun v7 w8 => ∃ (y9 : Int), v7 = .int .i64 y9 ∧ ldI .i64 w8 (g1.add 1) fun x10 => (World.cell? w5 (g1.add 1) = some (.int .i64 x10) ∧ World.cell? w8 (g1.add 1) = some (.int .i64 x10)) ∧ CallR Tryz.prog 10 #[.int .i64 x10, .int .i64 (3 : Int)] w8 fun v11 w12 => ∃ (y13 : Int), v11 = .int .i64 y13 ∧ ldI .i64 w12 (g1.add 2) fun x14 => (World.cell? w8 (g1.add 2) = some (.int .i64 x14) ∧ World.cell? w12 (g1.add 2) = some (.int .i64 x14)) ∧ (World.cell? w5 (g1.add 2) = some (.int .i64 x14) ∧ World.cell? w8 (g1.add 2) = some (.int .i64 x14)) ∧ CallR Tryz.prog 10 #[.int .i64 x14, .int .i64 (4 : Int)] w12 fun v15 w16 => ∃ (y17 : Int), v15 = .int .i64 y17 ∧ ldI .i64 w16 (g1.add 3) fun x18 => (World.cell? w12 (g1.add 3) = some (.int .i64 x18) ∧ World.cell? w16 (g1.add 3) = some (.int .i64 x18)) ∧ (World.cell? w8 (g1.add 3) = some (.int .i64 x18) ∧ World.cell? w12 (g1.add 3) = some (.int .i64 x18)) ∧ (World.cell? w5 (g1.add 3) = some (.int .i64 x18) ∧ World.cell? w8 (g1.add 3) = some (.int .i64 x18)) ∧ CallR Tryz.prog 10 #[.int .i64 x18, .int .i64 (8 : Int)] w16 fun v19 w20 => ∃ (y21 : Int), v19 = .int .i64 y21 ∧ newK w20 #[.int .i64 (0 : Int), .int .i64 (0 : Int), .int .i64 (0 : Int), .int .i64 (0 : Int), .int .i64 (0 : Int), .int .i64 (0 : Int), .int .i64 (0 : Int), .int .i64 (0 : Int), .int .i64 (0 : Int), .int .i64 (0 : Int), .int .i64 (0 : Int), .int .u64 (0 : Int), .int .u64 (0 : Int), .int .u64 (0 : Int), .int .u64 (0 : Int), .int .u64 (0 : Int), .int .u64 (0 : Int), .int .i64 (0 : Int), .int .i64 (0 : Int), .int .i64 (0 : Int), .int .u64 (0 : Int), .int .u64 (0 : Int)] 27 fun g22 w23 => (World.cell? w20 (g1.add 3) = some (.int .i64 x18) ∧ World.cell? w23 (g1.add 3) = some (.int .i64 x18)) ∧ (World.cell? w20 (g1.add 2) = some (.int .i64 x14) ∧ World.cell? w23 (g1.add 2) = some (.int .i64 x14)) ∧ (World.cell? w20 (g1.add 1) = some (.int .i64 x10) ∧ World.cell? w23 (g1.add 1) = some (.int .i64 x10)) ∧ (World.cell? w20 (g1.add 0) = some (.int .i64 x6) ∧ World.cell? w23 (g1.add 0) = some (.int .i64 x6)) ∧ stAll w23 g22 [.int .i64 (IntKind.wrap .i64 ((2 : Int) + y9)), .int .i64 (IntKind.wrap .i64 ((1 : Int) + y13)), .int .i64 (IntKind.wrap .i64 ((2 : Int) + y17)), .int .i64 (IntKind.wrap .i64 ((16 : Int) * (IntKind.wrap .i64 ((1 : Int) + y21)))), .int .i64 (0 : Int), .int .i64 (0 : Int), .int .i64 (0 : Int), .int .i64 (0 : Int), .int .i64 (0 : Int), .int .i64 (0 : Int), .int .i64 (0 : Int), .int .u64 (0 : Int), .int .u64 (0 : Int), .int .u64 (0 : Int), .int .u64 (0 : Int), .int .u64 (0 : Int), .int .u64 (0 : Int), .int .i64 (0 : Int), .int .i64 (0 : Int), .int .i64 (0 : Int), .int .u64 (0 : Int), .int .u64 (0 : Int)] fun w24 => X4.j0 Q g1 g3 g22 w24) ∧ ((ldI .i64 w5 (g1.add 0) fun x25 => CallR Tryz.prog 10 #[.int .i64 x25, .int .i64 (3 : Int)] w5 fun v26 w27 => ∃ (y28 : Int), v26 = .int .i64 y28 ∧ ldI .i64 w27 (g1.add 1) fun x29 => (World.cell? w5 (g1.add 1) = some (.int .i64 x29) ∧ World.cell? w27 (g1.add 1) = some (.int .i64 x29)) ∧ CallR Tryz.prog 10 #[.int .i64 x29, .int .i64 (3 : Int)] w27 fun v30 w31 => ∃ (y32 : Int), v30 = .int .i64 y32 ∧ ldI .i64 w31 (g1.add 2) fun x33 => (World.cell? w27 (g1.add 2) = some (.int .i64 x33) ∧ World.cell? w31 (g1.add 2) = some (.int .i64 x33)) ∧ (World.cell? w5 (g1.add 2) = some (.int .i64 x33) ∧ World.cell? w27 (g1.add 2) = some (.int .i64 x33)) ∧ CallR Tryz.prog 10 #[.int .i64 x33, .int .i64 (4 : Int)] w31 fun v34 w35 => ∃ (y36 : Int), v34 = .int .i64 y36 ∧ ldI .i64 w35 (g1.add 3) fun x37 => (World.cell? w31 (g1.add 3) = some (.int .i64 x37) ∧ World.cell? w35 (g1.add 3) = some (.int .i64 x37)) ∧ (World.cell? w27 (g1.add 3) = some (.int .i64 x37) ∧ World.cell? w31 (g1.add 3) = some (.int .i64 x37)) ∧ (World.cell? w5 (g1.add 3) = some (.int .i64 x37) ∧ World.cell? w27 (g1.add 3) = some (.int .i64 x37)) ∧ newK w35 #[.int .i64 (0 : Int), .int .i64 (0 : Int), .int .i64 (0 : Int), .int .i64 (0 : Int), .int .i64 (0 : Int), .int .i64 (0 : Int), .int .i64 (0 : Int), .int .i64 (0 : Int), .int .i64 (0 : Int), .int .i64 (0 : Int), .int .i64 (0 : Int), .int .u64 (0 : Int), .int .u64 (0 : Int), .int .u64 (0 : Int), .int .u64 (0 : Int), .int .u64 (0 : Int), .int .u64 (0 : Int), .int .i64 (0 : Int), .int .i64 (0 : Int), .int .i64 (0 : Int), .int .u64 (0 : Int), .int .u64 (0 : Int)] 27 fun g38 w39 => (World.cell? w35 (g1.add 3) = some (.int .i64 x37) ∧ World.cell? w39 (g1.add 3) = some (.int .i64 x37)) ∧ (World.cell? w35 (g1.add 2) = some (.int .i64 x33) ∧ World.cell? w39 (g1.add 2) = some (.int .i64 x33)) ∧ (World.cell? w35 (g1.add 1) = some (.int .i64 x29) ∧ World.cell? w39 (g1.add 1) = some (.int .i64 x29)) ∧ (World.cell? w35 (g1.add 0) = some (.int .i64 x25) ∧ World.cell? w39 (g1.add 0) = some (.int .i64 x25)) ∧ CallR Tryz.prog 10 #[.int .i64 x37, .int .i64 (8 : Int)] w39 fun v40 w41 => ∃ (y42 : Int), v40 = .int .i64 y42 ∧ stAll w41 g38 [.int .i64 (IntKind.wrap .i64 ((2 : Int) + y28)), .int .i64 (IntKind.wrap .i64 ((1 : Int) + y32)), .int .i64 (IntKind.wrap .i64 ((2 : Int) + y36)), .int .i64 (IntKind.wrap .i64 ((16 : Int) * (IntKind.wrap .i64 ((1 : Int) + y42)))), .int .i64 (0 : Int), .int .i64 (0 : Int), .int .i64 (0 : Int), .int .i64 (0 : Int), .int .i64 (0 : Int), .int .i64 (0 : Int), .int .i64 (0 : Int), .int .u64 (0 : Int), .int .u64 (0 : Int), .int .u64 (0 : Int), .int .u64 (0 : Int), .int .u64 (0 : Int), .int .u64 (0 : Int), .int .i64 (0 : Int), .int .i64 (0 : Int), .int .i64 (0 : Int), .int .u64 (0 : Int), .int .u64 (0 : Int)] fun w43 => X4.j0 Q g1 g3 g38 w43) ∧ ((ldI .i64 w5 (g1.add 0) fun x44 => CallR Tryz.prog 10 #[.int .i64 x44, .int .i64 (3 : Int)] w5 fun v45 w46 => ∃ (y47 : Int), v45 = .int .i64 y47 ∧ ldI .i64 w46 (g1.add 1) fun x48 => (World.cell? w5 (g1.add 1) = some (.int .i64 x48) ∧ World.cell? w46 (g1.add 1) = some (.int .i64 x48)) ∧ CallR Tryz.prog 10 #[.int .i64 x48, .int .i64 (3 : Int)] w46 fun v49 w50 => ∃ (y51 : Int), v49 = .int .i64 y51 ∧ ldI .i64 w50 (g1.add 2) fun x52 => (World.cell? w46 (g1.add 2) = some (.int .i64 x52) ∧ World.cell? w50 (g1.add 2) = some (.int .i64 x52)) ∧ (World.cell? w5 (g1.add 2) = some (.int .i64 x52) ∧ World.cell? w46 (g1.add 2) = some (.int .i64 x52)) ∧ ldI .i64 w50 (g1.add 3) fun x53 => (World.cell? w46 (g1.add 3) = some (.int .i64 x53) ∧ World.cell? w50 (g1.add 3) = some (.int .i64 x53)) ∧ (World.cell? w5 (g1.add 3) = some (.int .i64 x53) ∧ World.cell? w46 (g1.add 3) = some (.int .i64 x53)) ∧ newK w50 #[.int .i64 (0 : Int), .int .i64 (0 : Int), .int .i64 (0 : Int), .int .i64 (0 : Int), .int .i64 (0 : Int), .int .i64 (0 : Int), .int .i64 (0 : Int), .int .i64 (0 : Int), .int .i64 (0 : Int), .int .i64 (0 : Int), .int .i64 (0 : Int), .int .u64 (0 : Int), .int .u64 (0 : Int), .int .u64 (0 : Int), .int .u64 (0 : Int), .int .u64 (0 : Int), .int .u64 (0 : Int), .int .i64 (0 : Int), .int .i64 (0 : Int), .int .i64 (0 : Int), .int .u64 (0 : Int), .int .u64 (0 : Int)] 27 fun g54 w55 => (World.cell? w50 (g1.add 3) = some (.int .i64 x53) ∧ World.cell? w55 (g1.add 3) = some (.int .i64 x53)) ∧ (World.cell? w50 (g1.add 2) = some (.int .i64 x52) ∧ World.cell? w55 (g1.add 2) = some (.int .i64 x52)) ∧ (World.cell? w50 (g1.add 1) = some (.int .i64 x48) ∧ World.cell? w55 (g1.add 1) = some (.int .i64 x48)) ∧ (World.cell? w50 (g1.add 0) = some (.int .i64 x44) ∧ World.cell? w55 (g1.add 0) = some (.int .i64 x44)) ∧ CallR Tryz.prog 10 #[.int .i64 x52, .int .i64 (4 : Int)] w55 fun v56 w57 => ∃ (y58 : Int), v56 = .int .i64 y58 ∧ (World.cell? w55 (g1.add 3) = some (.int .i64 x53) ∧ World.cell? w57 (g1.add 3) = some (.int .i64 x53)) ∧ CallR Tryz.prog 10 #[.int .i64 x53, .int .i64 (8 : Int)] w57 fun v59 w60 => ∃ (y61 : Int), v59 = .int .i64 y61 ∧ stAll w60 g54 [.int .i64 (IntKind.wrap .i64 ((2 : Int) + y47)), .int .i64 (IntKind.wrap .i64 ((1 : Int) + y51)), .int .i64 (IntKind.wrap .i64 ((2 : Int) + y58)), .int .i64 (IntKind.wrap .i64 ((16 : Int) * (IntKind.wrap .i64 ((1 : Int) + y61)))), .int .i64 (0 : Int), .int .i64 (0 : Int), .int .i64 (0 : Int), .int .i64 (0 : Int), .int .i64 (0 : Int), .int .i64 (0 : Int), .int .i64 (0 : Int), .int .u64 (0 : Int), .int .u64 (0 : Int), .int .u64 (0 : Int), .int .u64 (0 : Int), .int .u64 (0 : Int), .int .u64 (0 : Int), .int .i64 (0 : Int), .int .i64 (0 : Int), .int .i64 (0 : Int), .int .u64 (0 : Int), .int .u64 (0 : Int)] fun w62 => X4.j0 Q g1 g3 g54 w62) ∧ ((ldI .i64 w5 (g1.add 0) fun x63 => CallR Tryz.prog 10 #[.int .i64 x63, .int .i64 (3 : Int)] w5 fun v64 w65 => ∃ (y66 : Int), v64 = .int .i64 y66 ∧ ldI .i64 w65 (g1.add 1) fun x67 => (World.cell? w5 (g1.add 1) = some (.int .i64 x67) ∧ World.cell? w65 (g1.add 1) = some (.int .i64 x67)) ∧ ldI .i64 w65 (g1.add 2) fun x68 => (World.cell? w5 (g1.add 2) = some (.int .i64 x68) ∧ World.cell? w65 (g1.add 2) = some (.int .i64 x68)) ∧ ldI .i64 w65 (g1.add 3) fun x69 => (World.cell? w5 (g1.add 3) = some (.int .i64 x69) ∧ World.cell? w65 (g1.add 3) = some (.int .i64 x69)) ∧ newK w65 #[.int .i64 (0 : Int), .int .i64 (0 : Int), .int .i64 (0 : Int), .int .i64 (0 : Int), .int .i64 (0 : Int), .int .i64 (0 : Int), .int .i64 (0 : Int), .int .i64 (0 : Int), .int .i64 (0 : Int), .int .i64 (0 : Int), .int .i64 (0 : Int), .int .u64 (0 : Int), .int .u64 (0 : Int), .int .u64 (0 : Int), .int .u64 (0 : Int), .int .u64 (0 : Int), .int .u64 (0 : Int), .int .i64 (0 : Int), .int .i64 (0 : Int), .int .i64 (0 : Int), .int .u64 (0 : Int), .int .u64 (0 : Int)] 27 fun g70 w71 => (World.cell? w65 (g1.add 3) = some (.int .i64 x69) ∧ World.cell? w71 (g1.add 3) = some (.int .i64 x69)) ∧ (World.cell? w65 (g1.add 2) = some (.int .i64 x68) ∧ World.cell? w71 (g1.add 2) = some (.int .i64 x68)) ∧ (World.cell? w65 (g1.add 1) = some (.int .i64 x67) ∧ World.cell? w71 (g1.add 1) = some (.int .i64 x67)) ∧ (World.cell? w65 (g1.add 0) = some (.int .i64 x63) ∧ World.cell? w71 (g1.add 0) = some (.int .i64 x63)) ∧ CallR Tryz.prog 10 #[.int .i64 x67, .int .i64 (3 : Int)] w71 fun v72 w73 => ∃ (y74 : Int), v72 = .int .i64 y74 ∧ (World.cell? w71 (g1.add 3) = some (.int .i64 x69) ∧ World.cell? w73 (g1.add 3) = some (.int .i64 x69)) ∧ (World.cell? w71 (g1.add 2) = some (.int .i64 x68) ∧ World.cell? w73 (g1.add 2) = some (.int .i64 x68)) ∧ CallR Tryz.prog 10 #[.int .i64 x68, .int .i64 (4 : Int)] w73 fun v75 w76 => ∃ (y77 : Int), v75 = .int .i64 y77 ∧ (World.cell? w73 (g1.add 3) = some (.int .i64 x69) ∧ World.cell? w76 (g1.add 3) = some (.int .i64 x69)) ∧ CallR Tryz.prog 10 #[.int .i64 x69, .int .i64 (8 : Int)] w76 fun v78 w79 => ∃ (y80 : Int), v78 = .int .i64 y80 ∧ stAll w79 g70 [.int .i64 (IntKind.wrap .i64 ((2 : Int) + y66)), .int .i64 (IntKind.wrap .i64 ((1 : Int) + y74)), .int .i64 (IntKind.wrap .i64 ((2 : Int) + y77)), .int .i64 (IntKind.wrap .i64 ((16 : Int) * (IntKind.wrap .i64 ((1 : Int) + y80)))), .int .i64 (0 : Int), .int .i64 (0 : Int), .int .i64 (0 : Int), .int .i64 (0 : Int), .int .i64 (0 : Int), .int .i64 (0 : Int), .int .i64 (0 : Int), .int .u64 (0 : Int), .int .u64 (0 : Int), .int .u64 (0 : Int), .int .u64 (0 : Int), .int .u64 (0 : Int), .int .u64 (0 : Int), .int .i64 (0 : Int), .int .i64 (0 : Int), .int .i64 (0 : Int), .int .u64 (0 : Int), .int .u64 (0 : Int)] fun w81 => X4.j0 Q g1 g3 g70 w81) ∧ (ldI .i64 w5 (g1.add 0) fun x82 => ldI .i64 w5 (g1.add 1) fun x83 => ldI .i64 w5 (g1.add 2) fun x84 => ldI .i64 w5 (g1.add 3) fun x85 => newK w5 #[.int .i64 (0 : Int), .int .i64 (0 : Int), .int .i64 (0 : Int), .int .i64 (0 : Int), .int .i64 (0 : Int), .int .i64 (0 : Int), .int .i64 (0 : Int), .int .i64 (0 : Int), .int .i64 (0 : Int), .int .i64 (0 : Int), .int .i64 (0 : Int), .int .u64 (0 : Int), .int .u64 (0 : Int), .int .u64 (0 : Int), .int .u64 (0 : Int), .int .u64 (0 : Int), .int .u64 (0 : Int), .int .i64 (0 : Int), .int .i64 (0 : Int), .int .i64 (0 : Int), .int .u64 (0 : Int), .int .u64 (0 : Int)] 27 fun g86 w87 => (World.cell? w5 (g1.add 3) = some (.int .i64 x85) ∧ World.cell? w87 (g1.add 3) = some (.int .i64 x85)) ∧ (World.cell? w5 (g1.add 2) = some (.int .i64 x84) ∧ World.cell? w87 (g1.add 2) = some (.int .i64 x84)) ∧ (World.cell? w5 (g1.add 1) = some (.int .i64 x83) ∧ World.cell? w87 (g1.add 1) = some (.int .i64 x83)) ∧ (World.cell? w5 (g1.add 0) = some (.int .i64 x82) ∧ World.cell? w87 (g1.add 0) = some (.int .i64 x82)) ∧ CallR Tryz.prog 10 #[.int .i64 x82, .int .i64 (3 : Int)] w87 fun v88 w89 => ∃ (y90 : Int), v88 = .int .i64 y90 ∧ (World.cell? w87 (g1.add 3) = some (.int .i64 x85) ∧ World.cell? w89 (g1.add 3) = some (.int .i64 x85)) ∧ (World.cell? w87 (g1.add 2) = some (.int .i64 x84) ∧ World.cell? w89 (g1.add 2) = some (.int .i64 x84)) ∧ (World.cell? w87 (g1.add 1) = some (.int .i64 x83) ∧ World.cell? w89 (g1.add 1) = some (.int .i64 x83)) ∧ CallR Tryz.prog 10 #[.int .i64 x83, .int .i64 (3 : Int)] w89 fun v91 w92 => ∃ (y93 : Int), v91 = .int .i64 y93 ∧ (World.cell? w89 (g1.add 3) = some (.int .i64 x85) ∧ World.cell? w92 (g1.add 3) = some (.int .i64 x85)) ∧ (World.cell? w89 (g1.add 2) = some (.int .i64 x84) ∧ World.cell? w92 (g1.add 2) = some (.int .i64 x84)) ∧ CallR Tryz.prog 10 #[.int .i64 x84, .int .i64 (4 : Int)] w92 fun v94 w95 => ∃ (y96 : Int), v94 = .int .i64 y96 ∧ (World.cell? w92 (g1.add 3) = some (.int .i64 x85) ∧ World.cell? w95 (g1.add 3) = some (.int .i64 x85)) ∧ CallR Tryz.prog 10 #[.int .i64 x85, .int .i64 (8 : Int)] w95 fun v97 w98 => ∃ (y99 : Int), v97 = .int .i64 y99 ∧ stAll w98 g86 [.int .i64 (IntKind.wrap .i64 ((2 : Int) + y90)), .int .i64 (IntKind.wrap .i64 ((1 : Int) + y93)), .int .i64 (IntKind.wrap .i64 ((2 : Int) + y96)), .int .i64 (IntKind.wrap .i64 ((16 : Int) * (IntKind.wrap .i64 ((1 : Int) + y99)))), .int .i64 (0 : Int), .int .i64 (0 : Int), .int .i64 (0 : Int), .int .i64 (0 : Int), .int .i64 (0 : Int), .int .i64 (0 : Int), .int .i64 (0 : Int), .int .u64 (0 : Int), .int .u64 (0 : Int), .int .u64 (0 : Int), .int .u64 (0 : Int), .int .u64 (0 : Int), .int .u64 (0 : Int), .int .i64 (0 : Int), .int .i64 (0 : Int), .int .i64 (0 : Int), .int .u64 (0 : Int), .int .u64 (0 : Int)] fun w100 => X4.j0 Q g1 g3 g86 w100))))
def X4.S (Q : Value → World → Prop) : Segs
  | 0, φ, ρ, w => qA (ρ 1) fun t1 => qA (ρ 2) fun t2 => qA (ρ 3) fun t3 => X4.j0 Q t1 t2 t3 w
  | _, _, _, _ => False
noncomputable def X4.an : Ann := (.seq .leaf (.seq (.draw [0, 1, 3, 7, 0, 16, 55, 119, 0, 256, 887, 1911, 0, 4096, 14199, 30583, 63351, 131071, 0, 524287] [[0, 1, 2, 3, 4, 5, 6, 7, 8, 9, 10, 11, 12, 13, 14, 15, 16, 17, 18, 19], [0, 1, 2, 3, 4, 5, 6, 7, 8, 9, 10, 11, 12, 13, 18, 14, 15, 16, 17, 19], [0, 1, 2, 3, 4, 5, 6, 7, 8, 9, 12, 13, 18, 10, 11, 14, 15, 16, 17, 19], [0, 1, 2, 3, 4, 5, 8, 9, 12, 13, 18, 6, 7, 10, 11, 14, 15, 16, 17, 19], [0, 1, 4, 5, 8, 9, 12, 13, 18, 2, 3, 6, 7, 10, 11, 14, 15, 16, 17, 19]]) (.join 0 (.seq .leaf (.seq .leaf (.seq .leaf (.seq .leaf (.seq .leaf (.seq .leaf (.seq .leaf (.seq .leaf (.seq .leaf (.seq (.draw [0, 1, 0, 4, 12, 28, 60, 127, 255, 511] [[0, 1, 2, 3, 4, 5, 6, 7, 8, 9]]) (.seq .leaf (.seq (.draw [0, 1, 0, 4, 12, 28, 63, 127, 255] [[0, 1, 2, 3, 4, 5, 6, 7, 8]]) (.seq (.draw [0, 1, 0, 4, 12, 28, 60, 127, 255, 511] [[0, 1, 2, 3, 4, 5, 6, 7, 8, 9]]) (.seq .leaf (.seq (.draw [0, 1, 3, 0, 8, 24, 63, 127, 255] [[0, 1, 2, 3, 4, 5, 6, 7, 8]]) (.seq .leaf (.seq .leaf (.seq .leaf (.seq .leaf .leaf))))))))))))))))))))))
noncomputable def X4.c : Code := Tryz.f4.body.getD .skip
theorem X4.v (Q : Value → World → Prop) : V Tryz.prog (X4.S Q) X4.an X4.c (retC Tryz.prog Tryz.f4 Q) := ⟨trivial, ⟨trivial, ⟨(by
    intro φ ρ w h
    simp only [X4.S] at h
    obtain ⟨t1, e1, h⟩ := qA_elim h
    obtain ⟨t2, e2, h⟩ := qA_elim h
    obtain ⟨t3, e3, h⟩ := qA_elim h
    exact ⟨(((Env.nil.put (some 1) (.pointer (some t1))).put (some 2) (.pointer (some t2))).put (some 3) (.pointer (some t3))), Env.le_put e3 (Env.le_put e2 (Env.le_put e1 (Env.le_nil _))), Eq.mp (by kernel_rfl) h⟩), ⟨trivial, ⟨trivial, ⟨trivial, ⟨trivial, ⟨trivial, ⟨trivial, ⟨trivial, ⟨trivial, ⟨trivial, ⟨trivial, ⟨trivial, ⟨trivial, ⟨trivial, ⟨trivial, ⟨trivial, ⟨trivial, ⟨trivial, ⟨trivial, ⟨trivial, trivial⟩⟩⟩⟩⟩⟩⟩⟩⟩⟩⟩⟩⟩⟩⟩⟩⟩⟩⟩⟩⟩⟩
theorem X4.sound (a0_0 : Int) (a0_1 : Int) (a0_2 : Int) (a0_3 : Int) (a0_4 : Int) (a0_5 : Int) (a0_6 : Int) (a0_7 : Int) (a0_8 : Int) (a0_9 : Int) (a0_10 : Int) (a0_11 : Int) (a0_12 : Int) (a0_13 : Int) (a0_14 : Int) (a0_15 : Int) (a0_16 : Int) (a0_17 : Int) (a0_18 : Int) (a0_19 : Int) (a0_20 : Int) (a0_21 : Int) (w : World) (Q : Value → World → Prop) (h : X4.f a0_0 a0_1 a0_2 a0_3 a0_4 a0_5 a0_6 a0_7 a0_8 a0_9 a0_10 a0_11 a0_12 a0_13 a0_14 a0_15 a0_16 a0_17 a0_18 a0_19 a0_20 a0_21 w Q) : CallR Tryz.prog 4 #[.agg #[.int .i64 a0_0, .int .i64 a0_1, .int .i64 a0_2, .int .i64 a0_3, .int .i64 a0_4, .int .i64 a0_5, .int .i64 a0_6, .int .i64 a0_7, .int .i64 a0_8, .int .i64 a0_9, .int .i64 a0_10, .int .i64 a0_11, .int .i64 a0_12, .int .i64 a0_13, .int .i64 a0_14, .int .i64 a0_15, .int .i64 a0_16, .int .i64 a0_17, .int .i64 a0_18, .int .i64 a0_19, .int .u64 a0_20, .int .u64 a0_21]] w Q :=
  fn_sound noGr mixed Tryz.func4 (c := X4.c) (an := X4.an) (S := X4.S Q) (φ := fun _ => 0) (args := [.agg #[.int .i64 a0_0, .int .i64 a0_1, .int .i64 a0_2, .int .i64 a0_3, .int .i64 a0_4, .int .i64 a0_5, .int .i64 a0_6, .int .i64 a0_7, .int .i64 a0_8, .int .i64 a0_9, .int .i64 a0_10, .int .i64 a0_11, .int .i64 a0_12, .int .i64 a0_13, .int .i64 a0_14, .int .i64 a0_15, .int .i64 a0_16, .int .i64 a0_17, .int .i64 a0_18, .int .i64 a0_19, .int .u64 a0_20, .int .u64 a0_21]]) (by kernel_rfl) (by kernel_rfl) (by kernel_rfl) (X4.v Q) (Eq.mp (by kernel_rfl) h)
/-! ### mooring/caller.New: function 5 -/
def X5.l0 (Q : Value → World → Prop) : Nat → Int → Addr → Int → Int → World → Prop
  | 0, _, _, _, _, _ => False
  | k + 1, t2, t10, t51, t52, w => bcase (decide (t52 < t51)) (ldSl w (t10.add 24) fun x1p x1n x1c => (0 ≤ t52 ∧ t52 < ((x1n : Nat) : Int)) ∧ optP x1p fun p2 => stK w (p2.add (Int.toNat t52 * 1)) (.int .u64 t2) fun w3 => X5.l0 Q k t2 t10 t51 (IntKind.wrap .i64 (t52 + (1 : Int))) w3) (Q (.tuple #[.pointer (some t10), .int .i64 (0 : Int)]) w)
def X5.j1 (Q : Value → World → Prop) (t1 : Int) (t2 : Int) (t3 : Addr) (w : World) : Prop := ldI .i64 w (t3.add 6) fun x1 => CallR Tryz.prog 12 #[.int .i64 x1] w fun v2 w3 => ∃ (y4 : Option Addr) (y5 : Int), v2 = .tuple #[.pointer y4, .int .i64 y5] ∧ bcase (y5 != (0 : Int)) (Q (.tuple #[.pointer none, .int .i64 (1 : Int)]) w3) (drewK w3 fun w6 => ldI .i64 w6 (t3.add 0) fun x7 => ldI .i64 w6 (t3.add 1) fun x8 => ldI .i64 w6 (t3.add 2) fun x9 => ldI .i64 w6 (t3.add 3) fun x10 => ldI .i64 w6 (t3.add 4) fun x11 => ldI .i64 w6 (t3.add 5) fun x12 => ldI .i64 w6 (t3.add 6) fun x13 => ldI .i64 w6 (t3.add 7) fun x14 => ldI .i64 w6 (t3.add 8) fun x15 => ldI .i64 w6 (t3.add 9) fun x16 => ldI .i64 w6 (t3.add 10) fun x17 => ldI .u64 w6 (t3.add 11) fun x18 => ldI .u64 w6 (t3.add 12) fun x19 => ldI .u64 w6 (t3.add 13) fun x20 => ldI .u64 w6 (t3.add 14) fun x21 => ldI .u64 w6 (t3.add 15) fun x22 => ldI .u64 w6 (t3.add 16) fun x23 => ldI .i64 w6 (t3.add 17) fun x24 => ldI .i64 w6 (t3.add 18) fun x25 => ldI .i64 w6 (t3.add 19) fun x26 => ldI .u64 w6 (t3.add 20) fun x27 => ldI .u64 w6 (t3.add 21) fun x28 => ldI .i64 w6 (t3.add 0) fun x29 => RunR Tryz.prog (Instr.makeSlice 51 (.int .i64 (IntKind.wrap .i64 (x29 + (1 : Int)))) (.int .i64 (IntKind.wrap .i64 (x29 + (1 : Int))))) w6 fun v30 w31 => ∃ (s32p : Option Addr) (s32n s32c : Nat), v30 = .slice s32p s32n s32c ∧ ((∀ j u, ([.int .i64 x7, .int .i64 x8, .int .i64 x9, .int .i64 x10, .int .i64 x11, .int .i64 x12, .int .i64 x13, .int .i64 x14, .int .i64 x15, .int .i64 x16, .int .i64 x17, .int .u64 x18, .int .u64 x19, .int .u64 x20, .int .u64 x21, .int .u64 x22, .int .u64 x23, .int .i64 x24, .int .i64 x25, .int .i64 x26, .int .u64 x27, .int .u64 x28] : List Value)[j]? = some u → World.cell? w6 (t3.add j) = some u) ∧ (∀ j u, ([.int .i64 x7, .int .i64 x8, .int .i64 x9, .int .i64 x10, .int .i64 x11, .int .i64 x12, .int .i64 x13, .int .i64 x14, .int .i64 x15, .int .i64 x16, .int .i64 x17, .int .u64 x18, .int .u64 x19, .int .u64 x20, .int .u64 x21, .int .u64 x22, .int .u64 x23, .int .i64 x24, .int .i64 x25, .int .i64 x26, .int .u64 x27, .int .u64 x28] : List Value)[j]? = some u → World.cell? w31 (t3.add j) = some u)) ∧ newK w31 #[.int .i64 x7, .int .i64 x8, .int .i64 x9, .int .i64 x10, .int .i64 x11, .int .i64 x12, .int .i64 x13, .int .i64 x14, .int .i64 x15, .int .i64 x16, .int .i64 x17, .int .u64 x18, .int .u64 x19, .int .u64 x20, .int .u64 x21, .int .u64 x22, .int .u64 x23, .int .i64 x24, .int .i64 x25, .int .i64 x26, .int .u64 x27, .int .u64 x28, .int .i64 t1, .int .u64 t2, .slice s32p s32n s32c, .pointer y4, .int .u64 (0 : Int)] 53 fun g33 w34 => ldSl w34 (g33.add 24) fun x35p x35n x35c => ∃ m36, X5.l0 Q m36 t2 g33 ((x35n : Nat) : Int) (0 : Int) w34)
def X5.f (a0_0 : Int) (a0_1 : Int) (a0_2 : Int) (a0_3 : Int) (a0_4 : Int) (a0_5 : Int) (a0_6 : Int) (a0_7 : Int) (a0_8 : Int) (a0_9 : Int) (a0_10 : Int) (a0_11 : Int) (a0_12 : Int) (a0_13 : Int) (a0_14 : Int) (a0_15 : Int) (a0_16 : Int) (a0_17 : Int) (a0_18 : Int) (a0_19 : Int) (a0_20 : Int) (a0_21 : Int) (a1 : Int) (a2 : Int) (w : World) (Q : Value → World → Prop) : Prop := newK w #[.int .i64 a0_0, .int .i64 a0_1, .int .i64 a0_2, .int .i64 a0_3, .int .i64 a0_4, .int .i64 a0_5, .int .i64 a0_6, .int .i64 a0_7, .int .i64 a0_8, .int .i64 a0_9, .int .i64 a0_10, .int .u64 a0_11, .int .u64 a0_12, .int .u64 a0_13, .int .u64 a0_14, .int .u64 a0_15, .int .u64 a0_16, .int .i64 a0_17, .int .i64 a0_18, .int .i64 a0_19, .int .u64 a0_20, .int .u64 a0_21] 27 fun g1 w2 => ldI .i64 w2 (g1.add 0) fun x3 => ldI .i64 w2 (g1.add 1) fun x4 => ldI .i64 w2 (g1.add 2) fun x5 => ldI .i64 w2 (g1.add 3) fun x6 => ldI .i64 w2 (g1.add 4) fun x7 => ldI .i64 w2 (g1.add 5) fun x8 => ldI .i64 w2 (g1.add 6) fun x9 => ldI .i64 w2 (g1.add 7) fun x10 => ldI .i64 w2 (g1.add 8) fun x11 => ldI .i64 w2 (g1.add 9) fun x12 => ldI .i64 w2 (g1.add 10) fun x13 => ldI .u64 w2 (g1.add 11) fun x14 => ldI .u64 w2 (g1.add 12) fun x15 => ldI .u64 w2 (g1.add 13) fun x16 => ldI .u64 w2 (g1.add 14) fun x17 => ldI .u64 w2 (g1.add 15) fun x18 => ldI .u64 w2 (g1.add 16) fun x19 => ldI .i64 w2 (g1.add 17) fun x20 => ldI .i64 w2 (g1.add 18) fun x21 => ldI .i64 w2 (g1.add 19) fun x22 => ldI .u64 w2 (g1.add 20) fun x23 => ldI .u64 w2 (g1.add 21) fun x24 => CallR Tryz.prog 11 #[.agg #[.int .i64 x3, .int .i64 x4, .int .i64 x5, .int .i64 x6, .int .i64 x7, .int .i64 x8, .int .i64 x9, .int .i64 x10, .int .i64 x11, .int .i64 x12, .int .i64 x13, .int .u64 x14, .int .u64 x15, .int .u64 x16, .int .u64 x17, .int .u64 x18, .int .u64 x19, .int .i64 x20, .int .i64 x21, .int .i64 x22, .int .u64 x23, .int .u64 x24]] w2 fun v25 w26 => ∃ (y27 : Bool), v25 = .bool y27 ∧ bcase (!y27) (Q (.tuple #[.pointer none, .int .i64 (1 : Int)]) w26) (bcase (decide (a1 < (1 : Int))) (Q (.tuple #[.pointer none, .int .i64 (1 : Int)]) w26) (ldI .i64 w26 (g1.add 0) fun x28 => bcase (decide (a1 > x28)) (Q (.tuple #[.pointer none, .int .i64 (1 : Int)]) w26) (bcase (decide (a2 > (72057594037927935 : Int))) (Q (.tuple #[.pointer none, .int .i64 (1 : Int)]) w26) (X5.j1 Q a1 a2 g1 w26))))
def X5.S (Q : Value → World → Prop) : Segs
  | 0, φ, ρ, w => qI .u64 (ρ 2) fun t2 => qA (ρ 10) fun t10 => qI .i64 (ρ 51) fun t51 => qI .i64 (ρ 52) fun t52 => X5.l0 Q (φ 0) t2 t10 t51 t52 w
  | 1, φ, ρ, w => qI .i64 (ρ 1) fun t1 => qI .u64 (ρ 2) fun t2 => qA (ρ 3) fun t3 => X5.j1 Q t1 t2 t3 w
  | _, _, _, _ => False
noncomputable def X5.an : Ann := (.seq .leaf (.seq (.seq .leaf (.cond (.seq .leaf .leaf) .leaf)) (.join 1 (.seq .leaf (.seq (.seq .leaf (.cond (.seq .leaf .leaf) .leaf)) (.seq (.draw [0, 0, 0, 0, 8, 24, 56, 0, 255, 511, 1023] [[0, 1, 2, 3, 4, 5, 6, 7, 8, 9, 10]]) (.seq (.seq .leaf (.block (.loop 0 (.seq .leaf (.seq (.cond .leaf .leaf) (.seq (.block (.seq .leaf .leaf)) .leaf)))))) (.seq .leaf .leaf))))))))
noncomputable def X5.c : Code := Tryz.f5.body.getD .skip
theorem X5.v (Q : Value → World → Prop) : V Tryz.prog (X5.S Q) X5.an X5.c (retC Tryz.prog Tryz.f5 Q) := ⟨trivial, ⟨⟨trivial, ⟨⟨trivial, trivial⟩, trivial⟩⟩, ⟨(by
    intro φ ρ w h
    simp only [X5.S] at h
    obtain ⟨t1, e1, h⟩ := qI_elim h
    obtain ⟨t2, e2, h⟩ := qI_elim h
    obtain ⟨t3, e3, h⟩ := qA_elim h
    exact ⟨(((Env.nil.put (some 1) (.int .i64 t1)).put (some 2) (.int .u64 t2)).put (some 3) (.pointer (some t3))), Env.le_put e3 (Env.le_put e2 (Env.le_put e1 (Env.le_nil _))), Eq.mp (by kernel_rfl) h⟩), ⟨trivial, ⟨⟨trivial, ⟨⟨trivial, trivial⟩, trivial⟩⟩, ⟨trivial, ⟨⟨trivial, ⟨(by
    intro φ ρ w h
    simp only [X5.S] at h
    obtain ⟨t2, e2, h⟩ := qI_elim h
    obtain ⟨t10, e10, h⟩ := qA_elim h
    obtain ⟨t51, e51, h⟩ := qI_elim h
    obtain ⟨t52, e52, h⟩ := qI_elim h
    cases hk : φ 0 with
    | zero => rw [hk] at h; exact h.elim
    | succ k => rw [hk] at h; exact ⟨k, Nat.lt_succ_self k, ((((Env.nil.put (some 2) (.int .u64 t2)).put (some 10) (.pointer (some t10))).put (some 51) (.int .i64 t51)).put (some 52) (.int .i64 t52)), Env.le_put e52 (Env.le_put e51 (Env.le_put e10 (Env.le_put e2 (Env.le_nil _)))), Eq.mp (by kernel_rfl) h⟩), ⟨trivial, ⟨⟨trivial, trivial⟩, ⟨⟨trivial, trivial⟩, trivial⟩⟩⟩⟩⟩, ⟨trivial, trivial⟩⟩⟩⟩⟩⟩⟩⟩
theorem X5.sound (a0_0 : Int) (a0_1 : Int) (a0_2 : Int) (a0_3 : Int) (a0_4 : Int) (a0_5 : Int) (a0_6 : Int) (a0_7 : Int) (a0_8 : Int) (a0_9 : Int) (a0_10 : Int) (a0_11 : Int) (a0_12 : Int) (a0_13 : Int) (a0_14 : Int) (a0_15 : Int) (a0_16 : Int) (a0_17 : Int) (a0_18 : Int) (a0_19 : Int) (a0_20 : Int) (a0_21 : Int) (a1 : Int) (a2 : Int) (w : World) (Q : Value → World → Prop) (h : X5.f a0_0 a0_1 a0_2 a0_3 a0_4 a0_5 a0_6 a0_7 a0_8 a0_9 a0_10 a0_11 a0_12 a0_13 a0_14 a0_15 a0_16 a0_17 a0_18 a0_19 a0_20 a0_21 a1 a2 w Q) : CallR Tryz.prog 5 #[.agg #[.int .i64 a0_0, .int .i64 a0_1, .int .i64 a0_2, .int .i64 a0_3, .int .i64 a0_4, .int .i64 a0_5, .int .i64 a0_6, .int .i64 a0_7, .int .i64 a0_8, .int .i64 a0_9, .int .i64 a0_10, .int .u64 a0_11, .int .u64 a0_12, .int .u64 a0_13, .int .u64 a0_14, .int .u64 a0_15, .int .u64 a0_16, .int .i64 a0_17, .int .i64 a0_18, .int .i64 a0_19, .int .u64 a0_20, .int .u64 a0_21], .int .i64 a1, .int .u64 a2] w Q :=
  fn_sound noGr mixed Tryz.func5 (c := X5.c) (an := X5.an) (S := X5.S Q) (φ := fun _ => 0) (args := [.agg #[.int .i64 a0_0, .int .i64 a0_1, .int .i64 a0_2, .int .i64 a0_3, .int .i64 a0_4, .int .i64 a0_5, .int .i64 a0_6, .int .i64 a0_7, .int .i64 a0_8, .int .i64 a0_9, .int .i64 a0_10, .int .u64 a0_11, .int .u64 a0_12, .int .u64 a0_13, .int .u64 a0_14, .int .u64 a0_15, .int .u64 a0_16, .int .i64 a0_17, .int .i64 a0_18, .int .i64 a0_19, .int .u64 a0_20, .int .u64 a0_21], .int .i64 a1, .int .u64 a2]) (by kernel_rfl) (by kernel_rfl) (by kernel_rfl) (X5.v Q) (Eq.mp (by kernel_rfl) h)
/-! ### mooring/mooringhand.Pick: function 10 -/
def X10.f (a0 : Int) (a1 : Int) (w : World) (Q : Value → World → Prop) : Prop := a1 ≠ 0 ∧ bcase (decide ((Int.tmod a0 a1) < (0 : Int))) (Q (.int .i64 (IntKind.wrap .i64 ((Int.tmod a0 a1) + a1))) w) (Q (.int .i64 (Int.tmod a0 a1)) w)
def X10.S (Q : Value → World → Prop) : Segs
  | _, _, _, _ => False
noncomputable def X10.an : Ann := (.seq .leaf (.seq .leaf (.seq (.seq .leaf (.cond .leaf .leaf)) (.seq .leaf .leaf))))
noncomputable def X10.c : Code := Tryz.f10.body.getD .skip
theorem X10.v (Q : Value → World → Prop) : V Tryz.prog (X10.S Q) X10.an X10.c (retC Tryz.prog Tryz.f10 Q) := ⟨trivial, ⟨trivial, ⟨⟨trivial, ⟨trivial, trivial⟩⟩, ⟨trivial, trivial⟩⟩⟩⟩
theorem X10.sound (a0 : Int) (a1 : Int) (w : World) (Q : Value → World → Prop) (h : X10.f a0 a1 w Q) : CallR Tryz.prog 10 #[.int .i64 a0, .int .i64 a1] w Q :=
  fn_sound noGr mixed Tryz.func10 (c := X10.c) (an := X10.an) (S := X10.S Q) (φ := fun _ => 0) (args := [.int .i64 a0, .int .i64 a1]) (by kernel_rfl) (by kernel_rfl) (by kernel_rfl) (X10.v Q) (Eq.mp (by kernel_rfl) h)
/-! ### mooring/mooringlaw20.args: function 25 -/
def X25.j1 (Q : Value → World → Prop) (b0 : Addr → Addr → Int → Int → Addr → Option Addr → Nat → Nat → Int → World → Prop) (t3 : Addr) (t7 : Addr) (t9 : Int) (t10 : Int) (t11 : Addr) (t12p : Option Addr) (t12n : Nat) (t12c : Nat) (t13 : Int) (w : World) : Prop := drewK w fun w1 => ldSl w1 (t3.add 8) fun x2p x2n x2c => (0 ≤ t13 ∧ t13 < ((x2n : Nat) : Int)) ∧ optP x2p fun p3 => ldI .i64 w1 ((p3.add (Int.toNat t13 * 2)).add 0) fun x4 => CallR Tryz.prog 10 #[.int .i64 x4, .int .i64 (3 : Int)] w1 fun v5 w6 => ∃ (y7 : Int), v5 = .int .i64 y7 ∧ ldSl w6 (t3.add 8) fun x8p x8n x8c => (World.cell? w1 (t3.add 8) = some (.slice x8p x8n x8c) ∧ World.cell? w6 (t3.add 8) = some (.slice x8p x8n x8c)) ∧ (0 ≤ t13 ∧ t13 < ((x8n : Nat) : Int)) ∧ optP x8p fun p9 => ldI .u64 w6 ((p9.add (Int.toNat t13 * 2)).add 1) fun x10 => (World.cell? w1 ((p9.add (Int.toNat t13 * 2)).add 1) = some (.int .u64 x10) ∧ World.cell? w6 ((p9.add (Int.toNat t13 * 2)).add 1) = some (.int .u64 x10)) ∧ (5 : Int) ≠ 0 ∧ newK w6 #[.int .i64 (IntKind.wrap .i64 ((1 : Int) + y7)), .int .u64 (IntKind.wrap .u64 ((1 : Int) + (Int.tmod x10 (5 : Int))))] 37 fun g11 w12 => RunR Tryz.prog (Builtin.append_ #[38, 38] 38 #[.slice t12p t12n t12c, .slice (some g11) 1 1]) w12 fun v13 w14 => ∃ (s15p : Option Addr) (s15n s15c : Nat), v13 = .slice s15p s15n s15c ∧ b0 t3 t7 t9 t10 t11 s15p s15n s15c (IntKind.wrap .i64 (t13 + (1 : Int))) w14
def X25.l0 (Q : Value → World → Prop) : Nat → Addr → Addr → Int → Int → Addr → (Option Addr) → Nat → Nat → Int → World → Prop
  | 0, _, _, _, _, _, _, _, _, _, _ => False
  | k + 1, t3, t7, t9, t10, t11, t12p, t12n, t12c, t13, w => ldSl w (t3.add 8) fun x1p x1n x1c => bcase (decide (t13 < ((x1n : Nat) : Int))) (bcase (decide (t13 < (2 : Int))) (X25.j1 Q (X25.l0 Q k) t3 t7 t9 t10 t11 t12p t12n t12c t13 w) (drewK w fun w2 => ldI .i64 w2 (t3.add 3) fun x3 => CallR Tryz.prog 10 #[.int .i64 x3, .int .i64 (64 : Int)] w2 fun v4 w5 => ∃ (y6 : Int), v4 = .int .i64 y6 ∧ ldI .i64 w5 (t11.add 0) fun x7 => ldI .u64 w5 (t11.add 1) fun x8 => ((∀ j u, ([.int .i64 x7, .int .u64 x8] : List Value)[j]? = some u → World.cell? w2 (t11.add j) = some u) ∧ (∀ j u, ([.int .i64 x7, .int .u64 x8] : List Value)[j]? = some u → World.cell? w5 (t11.add j) = some u)) ∧ stAll w5 t7 [.int .i64 x7, .int .u64 x8] fun w9 => ldI .i64 w9 (t7.add 0) fun x10 => ldI .u64 w9 (t7.add 1) fun x11 => Q (.tuple #[.int .i64 t9, .int .i64 t10, .int .i64 y6, .agg #[.int .i64 x10, .int .u64 x11], .slice t12p t12n t12c]) w9)) (drewK w fun w12 => ldI .i64 w12 (t3.add 3) fun x13 => CallR Tryz.prog 10 #[.int .i64 x13, .int .i64 (64 : Int)] w12 fun v14 w15 => ∃ (y16 : Int), v14 = .int .i64 y16 ∧ ldI .i64 w15 (t11.add 0) fun x17 => ldI .u64 w15 (t11.add 1) fun x18 => ((∀ j u, ([.int .i64 x17, .int .u64 x18] : List Value)[j]? = some u → World.cell? w12 (t11.add j) = some u) ∧ (∀ j u, ([.int .i64 x17, .int .u64 x18] : List Value)[j]? = some u → World.cell? w15 (t11.add j) = some u)) ∧ stAll w15 t7 [.int .i64 x17, .int .u64 x18] fun w19 => ldI .i64 w19 (t7.add 0) fun x20 => ldI .u64 w19 (t7.add 1) fun x21 => Q (.tuple #[.int .i64 t9, .int .i64 t10, .int .i64 y16, .agg #[.int .i64 x20, .int .u64 x21], .slice t12p t12n t12c]) w19)
def X25.j2 (Q : Value → World → Prop) (t3 : Addr) (t7 : Addr) (t9 : Int) (t10 : Int) (t11 : Addr) (w : World) : Prop := ∃ m1, X25.l0 Q m1 t3 t7 t9 t10 t11 none 0 0 (0 : Int) w
def X25.f (a0_0 : Int) (a0_1 : Int) (a0_2 : Int) (a0_3 : Int) (a0_4 : Int) (a0_5 : Int) (a0_6 : Int) (a0_7 : Int) (a0_8 : Int) (a0_9 : Int) (a0_10 : Int) (a0_11 : Int) (a0_12 : Int) (a0_13 : Int) (a0_14 : Int) (a0_15 : Int) (a0_16 : Int) (a0_17 : Int) (a0_18 : Int) (a0_19 : Int) (a0_20 : Int) (a0_21 : Int) (a1_0 : Int) (a1_1 : Int) (a1_2 : Int) (a1_3 : Int) (a1_4 : Int) (a1_5 : Int) (a1_6 : Int) (a1_7 : Int) (a1_8p : Option Addr) (a1_8n : Nat) (a1_8c : Nat) (a1_9 : Bool) (w : World) (Q : Value → World → Prop) : Prop := newK w #[.int .i64 a0_0, .int .i64 a0_1, .int .i64 a0_2, .int .i64 a0_3, .int .i64 a0_4, .int .i64 a0_5, .int .i64 a0_6, .int .i64 a0_7, .int .i64 a0_8, .int .i64 a0_9, .int .i64 a0_10, .int .u64 a0_11, .int .u64 a0_12, .int .u64 a0_13, .int .u64 a0_14, .int .u64 a0_15, .int .u64 a0_16, .int .i64 a0_17, .int .i64 a0_18, .int .i64 a0_19, .int .u64 a0_20, .int .u64 a0_21] 27 fun g1 w2 => newK w2 #[.int .i64 a1_0, .int .i64 a1_1, .int .i64 a1_2, .int .i64 a1_3, .int .u64 a1_4, .int .u64 a1_5, .int .i64 a1_6, .int .u64 a1_7, .slice a1_8p a1_8n a1_8c, .bool a1_9] 40 fun g3 w4 => newK w4 #[.int .i64 (0 : Int), .int .u64 (0 : Int)] 37 fun g5 w6 => ldB w6 (g3.add 9) fun x7 => bcase (!x7) (drewK w6 fun w8 => ldI .i64 w8 (g3.add 1) fun x9 => ldI .i64 w8 (g3.add 2) fun x10 => ldI .i64 w8 (g3.add 3) fun x11 => ldI .i64 w8 ((g3.add 6).add 0) fun x12 => ldI .u64 w8 ((g3.add 6).add 1) fun x13 => ldSl w8 (g3.add 8) fun x14p x14n x14c => stAll w8 g5 [.int .i64 x12, .int .u64 x13] fun w15 => (World.cell? w8 (g3.add 8) = some (.slice x14p x14n x14c) ∧ World.cell? w15 (g3.add 8) = some (.slice x14p x14n x14c)) ∧ ldI .i64 w15 (g5.add 0) fun x16 => ldI .u64 w15 (g5.add 1) fun x17 => Q (.tuple #[.int .i64 x9, .int .i64 x10, .int .i64 x11, .agg #[.int .i64 x16, .int .u64 x17], .slice x14p x14n x14c]) w15) (ldI .i64 w6 (g3.add 1) fun x18 => ldI .i64 w6 (g1.add 0) fun x19 => CallR Tryz.prog 10 #[.int .i64 x18, .int .i64 (IntKind.wrap .i64 (x19 + (1 : Int)))] w6 fun v20 w21 => ∃ (y22 : Int), v20 = .int .i64 y22 ∧ ldI .i64 w21 (g3.add 2) fun x23 => CallR Tryz.prog 10 #[.int .i64 x23, .int .i64 (6 : Int)] w21 fun v24 w25 => ∃ (y26 : Int), v24 = .int .i64 y26 ∧ ldI .u64 w25 (g3.add 4) fun x27 => (4 : Int) ≠ 0 ∧ newK w25 #[.int .i64 (0 : Int), .int .u64 (0 : Int)] 37 fun g28 w29 => stAll w29 g28 [.int .i64 (IntKind.wrap .i64 ((1 : Int) + y22)), .int .u64 (IntKind.wrap .u64 ((1 : Int) + (Int.tmod x27 (4 : Int))))] fun w30 => bcase ((IntKind.wrap .i64 ((1 : Int) + y26)) == (1 : Int)) (stAll w30 g28 [.int .i64 (0 : Int), .int .u64 (0 : Int)] fun w31 => X25.j2 Q g3 g5 (IntKind.wrap .i64 ((1 : Int) + y22)) (IntKind.wrap .i64 ((1 : Int) + y26)) g28 w31) (bcase ((IntKind.wrap .i64 ((1 : Int) + y26)) == (6 : Int)) (stAll w30 g28 [.int .i64 (0 : Int), .int .u64 (0 : Int)] fun w32 => X25.j2 Q g3 g5 (IntKind.wrap .i64 ((1 : Int) + y22)) (IntKind.wrap .i64 ((1 : Int) + y26)) g28 w32) (X25.j2 Q g3 g5 (IntKind.wrap .i64 ((1 : Int) + y22)) (IntKind.wrap .i64 ((1 : Int) + y26)) g28 w30)))
def X25.S (Q : Value → World → Prop) : Segs
  | 0, φ, ρ, w => qA (ρ 3) fun t3 => qA (ρ 7) fun t7 => qI .i64 (ρ 9) fun t9 => qI .i64 (ρ 10) fun t10 => qA (ρ 11) fun t11 => qSl (ρ 12) fun t12p t12n t12c => qI .i64 (ρ 13) fun t13 => X25.l0 Q (φ 0) t3 t7 t9 t10 t11 t12p t12n t12c t13 w
  | 1, φ, ρ, w => qA (ρ 3) fun t3 => qA (ρ 7) fun t7 => qI .i64 (ρ 9) fun t9 => qI .i64 (ρ 10) fun t10 => qA (ρ 11) fun t11 => qSl (ρ 12) fun t12p t12n t12c => qI .i64 (ρ 13) fun t13 => X25.j1 Q (X25.l0 Q (φ 0)) t3 t7 t9 t10 t11 t12p t12n t12c t13 w
  | 2, φ, ρ, w => qA (ρ 3) fun t3 => qA (ρ 7) fun t7 => qI .i64 (ρ 9) fun t9 => qI .i64 (ρ 10) fun t10 => qA (ρ 11) fun t11 => X25.j2 Q t3 t7 t9 t10 t11 w
  | _, _, _, _ => False
noncomputable def X25.an : Ann := (.seq .leaf (.seq (.seq .leaf (.cond (.seq (.draw [0, 1, 0, 4, 0, 16, 0, 64, 0, 256, 3, 1039, 3135, 7423, 16383] [[0, 1, 2, 3, 4, 5, 6, 7, 8, 9, 10, 11, 12, 13, 14]]) .leaf) .leaf)) (.seq .leaf (.seq .leaf (.seq .leaf (.seq (.seq .leaf (.cond .leaf .leaf)) (.join 2 (.seq .leaf (.seq (.seq .leaf (.block (.loop 0 (.seq (.seq .leaf (.cond .leaf .leaf)) (.join 1 (.seq (.block (.draw [0, 0, 2, 0, 14, 30, 62, 126, 254, 0, 512, 0, 3584, 7680, 15872, 32256, 65024, 131070, 262142, 524287, 1048575] [[0, 1, 2, 3, 4, 5, 6, 7, 8, 9, 10, 11, 12, 13, 14, 15, 16, 17, 18, 19, 20]])) .leaf)))))) (.seq (.draw [0, 0, 0, 4, 12, 0, 0, 29, 159, 415, 959, 2047] [[0, 1, 2, 3, 4, 5, 6, 7, 8, 9, 10, 11]]) .leaf))))))))))
noncomputable def X25.c : Code := Tryz.f25.body.getD .skip
theorem X25.v (Q : Value → World → Prop) : V Tryz.prog (X25.S Q) X25.an X25.c (retC Tryz.prog Tryz.f25 Q) := ⟨trivial, ⟨⟨trivial, ⟨⟨trivial, trivial⟩, trivial⟩⟩, ⟨trivial, ⟨trivial, ⟨trivial, ⟨⟨trivial, ⟨trivial, trivial⟩⟩, ⟨(by
    intro φ ρ w h
    simp only [X25.S] at h
    obtain ⟨t3, e3, h⟩ := qA_elim h
    obtain ⟨t7, e7, h⟩ := qA_elim h
    obtain ⟨t9, e9, h⟩ := qI_elim h
    obtain ⟨t10, e10, h⟩ := qI_elim h
    obtain ⟨t11, e11, h⟩ := qA_elim h
    exact ⟨(((((Env.nil.put (some 3) (.pointer (some t3))).put (some 7) (.pointer (some t7))).put (some 9) (.int .i64 t9)).put (some 10) (.int .i64 t10)).put (some 11) (.pointer (some t11))), Env.le_put e11 (Env.le_put e10 (Env.le_put e9 (Env.le_put e7 (Env.le_put e3 (Env.le_nil _))))), Eq.mp (by kernel_rfl) h⟩), ⟨trivial, ⟨⟨trivial, ⟨(by
    intro φ ρ w h
    simp only [X25.S] at h
    obtain ⟨t3, e3, h⟩ := qA_elim h
    obtain ⟨t7, e7, h⟩ := qA_elim h
    obtain ⟨t9, e9, h⟩ := qI_elim h
    obtain ⟨t10, e10, h⟩ := qI_elim h
    obtain ⟨t11, e11, h⟩ := qA_elim h
    obtain ⟨t12p, t12n, t12c, e12, h⟩ := qSl_elim h
    obtain ⟨t13, e13, h⟩ := qI_elim h
    cases hk : φ 0 with
    | zero => rw [hk] at h; exact h.elim
    | succ k => rw [hk] at h; exact ⟨k, Nat.lt_succ_self k, (((((((Env.nil.put (some 3) (.pointer (some t3))).put (some 7) (.pointer (some t7))).put (some 9) (.int .i64 t9)).put (some 10) (.int .i64 t10)).put (some 11) (.pointer (some t11))).put (some 12) (.slice t12p t12n t12c)).put (some 13) (.int .i64 t13)), Env.le_put e13 (Env.le_put e12 (Env.le_put e11 (Env.le_put e10 (Env.le_put e9 (Env.le_put e7 (Env.le_put e3 (Env.le_nil _))))))), Eq.mp (by kernel_rfl) h⟩), ⟨⟨trivial, ⟨trivial, trivial⟩⟩, ⟨(by
    intro φ ρ w h
    simp only [X25.S] at h
    obtain ⟨t3, e3, h⟩ := qA_elim h
    obtain ⟨t7, e7, h⟩ := qA_elim h
    obtain ⟨t9, e9, h⟩ := qI_elim h
    obtain ⟨t10, e10, h⟩ := qI_elim h
    obtain ⟨t11, e11, h⟩ := qA_elim h
    obtain ⟨t12p, t12n, t12c, e12, h⟩ := qSl_elim h
    obtain ⟨t13, e13, h⟩ := qI_elim h
    exact ⟨(((((((Env.nil.put (some 3) (.pointer (some t3))).put (some 7) (.pointer (some t7))).put (some 9) (.int .i64 t9)).put (some 10) (.int .i64 t10)).put (some 11) (.pointer (some t11))).put (some 12) (.slice t12p t12n t12c)).put (some 13) (.int .i64 t13)), Env.le_put e13 (Env.le_put e12 (Env.le_put e11 (Env.le_put e10 (Env.le_put e9 (Env.le_put e7 (Env.le_put e3 (Env.le_nil _))))))), Eq.mp (by kernel_rfl) h⟩), ⟨trivial, trivial⟩⟩⟩⟩⟩, ⟨trivial, trivial⟩⟩⟩⟩⟩⟩⟩⟩⟩⟩
theorem X25.sound (a0_0 : Int) (a0_1 : Int) (a0_2 : Int) (a0_3 : Int) (a0_4 : Int) (a0_5 : Int) (a0_6 : Int) (a0_7 : Int) (a0_8 : Int) (a0_9 : Int) (a0_10 : Int) (a0_11 : Int) (a0_12 : Int) (a0_13 : Int) (a0_14 : Int) (a0_15 : Int) (a0_16 : Int) (a0_17 : Int) (a0_18 : Int) (a0_19 : Int) (a0_20 : Int) (a0_21 : Int) (a1_0 : Int) (a1_1 : Int) (a1_2 : Int) (a1_3 : Int) (a1_4 : Int) (a1_5 : Int) (a1_6 : Int) (a1_7 : Int) (a1_8p : Option Addr) (a1_8n : Nat) (a1_8c : Nat) (a1_9 : Bool) (w : World) (Q : Value → World → Prop) (h : X25.f a0_0 a0_1 a0_2 a0_3 a0_4 a0_5 a0_6 a0_7 a0_8 a0_9 a0_10 a0_11 a0_12 a0_13 a0_14 a0_15 a0_16 a0_17 a0_18 a0_19 a0_20 a0_21 a1_0 a1_1 a1_2 a1_3 a1_4 a1_5 a1_6 a1_7 a1_8p a1_8n a1_8c a1_9 w Q) : CallR Tryz.prog 25 #[.agg #[.int .i64 a0_0, .int .i64 a0_1, .int .i64 a0_2, .int .i64 a0_3, .int .i64 a0_4, .int .i64 a0_5, .int .i64 a0_6, .int .i64 a0_7, .int .i64 a0_8, .int .i64 a0_9, .int .i64 a0_10, .int .u64 a0_11, .int .u64 a0_12, .int .u64 a0_13, .int .u64 a0_14, .int .u64 a0_15, .int .u64 a0_16, .int .i64 a0_17, .int .i64 a0_18, .int .i64 a0_19, .int .u64 a0_20, .int .u64 a0_21], .agg #[.int .i64 a1_0, .int .i64 a1_1, .int .i64 a1_2, .int .i64 a1_3, .int .u64 a1_4, .int .u64 a1_5, .int .i64 a1_6, .int .u64 a1_7, .slice a1_8p a1_8n a1_8c, .bool a1_9]] w Q :=
  fn_sound noGr mixed Tryz.func25 (c := X25.c) (an := X25.an) (S := X25.S Q) (φ := fun _ => 0) (args := [.agg #[.int .i64 a0_0, .int .i64 a0_1, .int .i64 a0_2, .int .i64 a0_3, .int .i64 a0_4, .int .i64 a0_5, .int .i64 a0_6, .int .i64 a0_7, .int .i64 a0_8, .int .i64 a0_9, .int .i64 a0_10, .int .u64 a0_11, .int .u64 a0_12, .int .u64 a0_13, .int .u64 a0_14, .int .u64 a0_15, .int .u64 a0_16, .int .i64 a0_17, .int .i64 a0_18, .int .i64 a0_19, .int .u64 a0_20, .int .u64 a0_21], .agg #[.int .i64 a1_0, .int .i64 a1_1, .int .i64 a1_2, .int .i64 a1_3, .int .u64 a1_4, .int .u64 a1_5, .int .i64 a1_6, .int .u64 a1_7, .slice a1_8p a1_8n a1_8c, .bool a1_9]]) (by kernel_rfl) (by kernel_rfl) (by kernel_rfl) (X25.v Q) (Eq.mp (by kernel_rfl) h)
/-! ### (*mooring/caller.Table).Begin: function 13 -/
def X13.j1 (Q : Value → World → Prop) (t0 : Option Addr) (t1 : Int) (t18 : Addr) (w : World) : Prop := optP t0 fun p1 => ldSl w (p1.add 24) fun x2p x2n x2c => (0 ≤ t1 ∧ t1 < ((x2n : Nat) : Int)) ∧ optP x2p fun p3 => ldI .u64 w (p3.add (Int.toNat t1 * 1)) fun x4 => (0 ≤ t1 ∧ t1 < ((x2n : Nat) : Int)) ∧ optP x2p fun p5 => stK w (p5.add (Int.toNat t1 * 1)) (.int .u64 (IntKind.wrap .u64 (x4 + (1 : Int)))) fun w6 => optP t0 fun p7 => ldSl w6 (p7.add 24) fun x8p x8n x8c => (0 ≤ t1 ∧ t1 < ((x8n : Nat) : Int)) ∧ optP x8p fun p9 => ldI .u64 w6 (p9.add (Int.toNat t1 * 1)) fun x10 => stK w6 (t18.add 1) (.int .u64 x10) fun w11 => ldI .i64 w11 (t18.add 0) fun x12 => ldI .u64 w11 (t18.add 1) fun x13 => ldI .i64 w11 (t18.add 2) fun x14 => ldI .i64 w11 (t18.add 3) fun x15 => ldI .i64 w11 (t18.add 4) fun x16 => ldI .u64 w11 (t18.add 5) fun x17 => ldSl w11 (t18.add 6) fun x18p x18n x18c => ldI .u64 w11 (t18.add 7) fun x19 => ldI .i64 w11 (t18.add 8) fun x20 => ldI .i64 w11 (t18.add 9) fun x21 => ldSl w11 (t18.add 10) fun x22p x22n x22c => ldI .u64 w11 (t18.add 11) fun x23 => ldI .u64 w11 (t18.add 12) fun x24 => ldI .u64 w11 (t18.add 13) fun x25 => ldI .u64 w11 (t18.add 14) fun x26 => CallR Tryz.prog 40 #[.pointer t0, .agg #[.int .i64 x12, .int .u64 x13, .int .i64 x14, .int .i64 x15, .int .i64 x16, .int .u64 x17, .slice x18p x18n x18c, .int .u64 x19, .int .i64 x20, .int .i64 x21, .slice x22p x22n x22c, .int .u64 x23, .int .u64 x24, .int .u64 x25, .int .u64 x26]] w11 fun v27 w28 => v27 = .tuple #[] ∧ ldI .u64 w28 (t18.add 1) fun x29 => Q (.tuple #[.int .u64 x29, .int .i64 (0 : Int)]) w28
def X13.j0 (Q : Value → World → Prop) (t0 : Option Addr) (t1 : Int) (t18 : Addr) (t33 : Bool) (w : World) : Prop := bcase t33 (Q (.tuple #[.int .u64 (0 : Int), .int .i64 (1 : Int)]) w) (drewK w fun w1 => optP t0 fun p2 => ldP w1 (p2.add 25) fun x3 => CallR Tryz.prog 39 #[.pointer x3] w1 fun v4 w5 => ∃ (y6 : Int), v4 = .int .i64 y6 ∧ optP t0 fun p7 => ldI .i64 w5 ((p7.add 0).add 6) fun x8 => (World.cell? w1 ((p7.add 0).add 6) = some (.int .i64 x8) ∧ World.cell? w5 ((p7.add 0).add 6) = some (.int .i64 x8)) ∧ bcase (decide (y6 ≥ x8)) (Q (.tuple #[.int .u64 (0 : Int), .int .i64 (6 : Int)]) w5) (optP t0 fun p9 => ldSl w5 (p9.add 24) fun x10p x10n x10c => (0 ≤ t1 ∧ t1 < ((x10n : Nat) : Int)) ∧ optP x10p fun p11 => ldI .u64 w5 (p11.add (Int.toNat t1 * 1)) fun x12 => CallR Tryz.prog 31 #[.pointer t0, .int .i64 t1] w5 fun v13 w14 => ∃ (y15 : Int), v13 = .int .u64 y15 ∧ (World.cell? w5 (p11.add (Int.toNat t1 * 1)) = some (.int .u64 x12) ∧ World.cell? w14 (p11.add (Int.toNat t1 * 1)) = some (.int .u64 x12)) ∧ (World.cell? w5 (p9.add 24) = some (.slice x10p x10n x10c) ∧ World.cell? w14 (p9.add 24) = some (.slice x10p x10n x10c)) ∧ optP t0 fun p16 => ldI .i64 w14 ((p16.add 0).add 7) fun x17 => (World.cell? w5 ((p16.add 0).add 7) = some (.int .i64 x17) ∧ World.cell? w14 ((p16.add 0).add 7) = some (.int .i64 x17)) ∧ bcase (decide ((IntKind.wrap .u64 ((IntKind.wrap .u64 (x12 + (1 : Int))) - y15)) ≥ (IntKind.wrap .u64 x17))) (Q (.tuple #[.int .u64 (0 : Int), .int .i64 (6 : Int)]) w14) (optP t0 fun p18 => ldSl w14 (p18.add 24) fun x19p x19n x19c => (0 ≤ t1 ∧ t1 < ((x19n : Nat) : Int)) ∧ optP x19p fun p20 => ldI .u64 w14 (p20.add (Int.toNat t1 * 1)) fun x21 => bcase (x21 == (72057594037927935 : Int)) (Q (.tuple #[.int .u64 (0 : Int), .int .i64 (7 : Int)]) w14) (X13.j1 Q t0 t1 t18 w14))))
def X13.f (a0 : Option Addr) (a1 : Int) (a2 : Int) (a3 : Int) (a4_0 : Int) (a4_1 : Int) (a5 : Int) (a6p : Option Addr) (a6n : Nat) (a6c : Nat) (a7 : Int) (w : World) (Q : Value → World → Prop) : Prop := newK w #[.int .i64 a4_0, .int .u64 a4_1] 37 fun g1 w2 => ldI .i64 w2 (g1.add 0) fun x3 => ldI .u64 w2 (g1.add 1) fun x4 => CallR Tryz.prog 36 #[.agg #[.int .i64 a1, .int .u64 (1 : Int), .int .i64 a2, .int .i64 a3, .int .i64 x3, .int .u64 x4, .slice a6p a6n a6c, .int .u64 a5, .int .i64 (1 : Int), .int .i64 (0 : Int), .slice none 0 0, .int .u64 (0 : Int), .int .u64 a7, .int .u64 (0 : Int), .int .u64 a7]] w2 fun v5 w6 => ∃ (y7 : Int) (y8 : Int) (y9 : Int) (y10 : Int) (y11 : Int) (y12 : Int) (y13p : Option Addr) (y13n y13c : Nat) (y14 : Int) (y15 : Int) (y16 : Int) (y17p : Option Addr) (y17n y17c : Nat) (y18 : Int) (y19 : Int) (y20 : Int) (y21 : Int), v5 = .agg #[.int .i64 y7, .int .u64 y8, .int .i64 y9, .int .i64 y10, .int .i64 y11, .int .u64 y12, .slice y13p y13n y13c, .int .u64 y14, .int .i64 y15, .int .i64 y16, .slice y17p y17n y17c, .int .u64 y18, .int .u64 y19, .int .u64 y20, .int .u64 y21] ∧ newK w6 #[.int .i64 (0 : Int), .int .u64 (0 : Int), .int .i64 (0 : Int), .int .i64 (0 : Int), .int .i64 (0 : Int), .int .u64 (0 : Int), .slice none 0 0, .int .u64 (0 : Int), .int .i64 (0 : Int), .int .i64 (0 : Int), .slice none 0 0, .int .u64 (0 : Int), .int .u64 (0 : Int), .int .u64 (0 : Int), .int .u64 (0 : Int)] 50 fun g22 w23 => stAll w23 g22 [.int .i64 y7, .int .u64 y8, .int .i64 y9, .int .i64 y10, .int .i64 y11, .int .u64 y12, .slice y13p y13n y13c, .int .u64 y14, .int .i64 y15, .int .i64 y16, .slice y17p y17n y17c, .int .u64 y18, .int .u64 y19, .int .u64 y20, .int .u64 y21] fun w24 => ldI .i64 w24 (g1.add 0) fun x25 => ldI .u64 w24 (g1.add 1) fun x26 => isStruct Tryz.prog 37 ∧ optP a0 fun p27 => ldI .i64 w24 ((p27.add 0).add 0) fun x28 => bcase (decide (a1 > x28)) (X13.j0 Q a0 a1 g22 true w24) (ldI .i64 w24 (g22.add 0) fun x29 => ldI .u64 w24 (g22.add 1) fun x30 => ldI .i64 w24 (g22.add 2) fun x31 => ldI .i64 w24 (g22.add 3) fun x32 => ldI .i64 w24 (g22.add 4) fun x33 => ldI .u64 w24 (g22.add 5) fun x34 => ldSl w24 (g22.add 6) fun x35p x35n x35c => ldI .u64 w24 (g22.add 7) fun x36 => ldI .i64 w24 (g22.add 8) fun x37 => ldI .i64 w24 (g22.add 9) fun x38 => ldSl w24 (g22.add 10) fun x39p x39n x39c => ldI .u64 w24 (g22.add 11) fun x40 => ldI .u64 w24 (g22.add 12) fun x41 => ldI .u64 w24 (g22.add 13) fun x42 => ldI .u64 w24 (g22.add 14) fun x43 => CallR Tryz.prog 38 #[.pointer a0, .agg #[.int .i64 x29, .int .u64 x30, .int .i64 x31, .int .i64 x32, .int .i64 x33, .int .u64 x34, .slice x35p x35n x35c, .int .u64 x36, .int .i64 x37, .int .i64 x38, .slice x39p x39n x39c, .int .u64 x40, .int .u64 x41, .int .u64 x42, .int .u64 x43], .int .u64 (1 : Int)] w24 fun v44 w45 => ∃ (y46 : Int) (y47 : Int) (y48 : Int) (y49 : Int) (y50 : Int) (y51 : Int) (y52 : Int) (y53 : Int) (y54 : Int) (y55 : Int) (y56p : Option Addr) (y56n y56c : Nat) (y57 : Int) (y58 : Int) (y59 : Int) (y60 : Int) (y61 : Int) (y62 : Int) (y63 : Int) (y64p : Option Addr) (y64n y64c : Nat), v44 = .agg #[.int .i64 y46, .int .i64 y47, .int .i64 y48, .int .u64 y49, .int .u64 y50, .int .i64 y51, .int .i64 y52, .int .i64 y53, .int .i64 y54, .int .u64 y55, .slice y56p y56n y56c, .int .u64 y57, .int .i64 y58, .int .u64 y59, .int .i64 y60, .int .u64 y61, .int .i64 y62, .int .u64 y63, .slice y64p y64n y64c] ∧ CallR Tryz.prog 37 #[.agg #[.int .i64 y46, .int .i64 y47, .int .i64 y48, .int .u64 y49, .int .u64 y50, .int .i64 y51, .int .i64 y52, .int .i64 y53, .int .i64 y54, .int .u64 y55, .slice y56p y56n y56c, .int .u64 y57, .int .i64 y58, .int .u64 y59, .int .i64 y60, .int .u64 y61, .int .i64 y62, .int .u64 y63, .slice y64p y64n y64c]] w45 fun v65 w66 => ∃ (y67 : Bool), v65 = .bool y67 ∧ bcase (!y67) (X13.j0 Q a0 a1 g22 true w66) (bcase (!((x25 == (0 : Int)) && ((x26 == (0 : Int)) && true))) (ldI .i64 w66 (g1.add 0) fun x68 => X13.j0 Q a0 a1 g22 (x68 != a1) w66) (X13.j0 Q a0 a1 g22 false w66)))
def X13.S (Q : Value → World → Prop) : Segs
  | 0, φ, ρ, w => qP (ρ 0) fun t0 => qI .i64 (ρ 1) fun t1 => qA (ρ 18) fun t18 => qB (ρ 33) fun t33 => X13.j0 Q t0 t1 t18 t33 w
  | 1, φ, ρ, w => qP (ρ 0) fun t0 => qI .i64 (ρ 1) fun t1 => qA (ρ 18) fun t18 => X13.j1 Q t0 t1 t18 w
  | _, _, _, _ => False
noncomputable def X13.an : Ann := (.seq .leaf (.seq .leaf (.seq .leaf (.seq (.block (.seq .leaf (.join 0 (.cond (.seq .leaf .leaf) (.seq (.draw [0, 1, 3, 7, 15, 0, 32, 96, 224, 480, 1023, 2047, 4095, 8191, 16383, 32767, 4095, 131071, 262143, 524287, 4095, 4095, 3149823, 8388607, 4095, 16781311, 50335743, 117444607, 251662335, 520097791, 1073741823, 2147483647, 4294967295] [[0, 1, 2, 3, 4, 5, 6, 7, 8, 9, 10, 11, 12, 13, 14, 15, 16, 17, 18, 19, 20, 21, 22, 23, 24, 25, 26, 27, 28, 29, 30, 31, 32]]) (.cond (.seq .leaf .leaf) (.seq .leaf (.cond (.seq .leaf .leaf) .leaf)))))))) (.join 1 (.seq .leaf (.seq .leaf (.seq .leaf (.seq .leaf .leaf)))))))))
noncomputable def X13.c : Code := Tryz.f13.body.getD .skip
theorem X13.v (Q : Value → World → Prop) : V Tryz.prog (X13.S Q) X13.an X13.c (retC Tryz.prog Tryz.f13 Q) := ⟨trivial, ⟨trivial, ⟨trivial, ⟨⟨trivial, ⟨(by
    intro φ ρ w h
    simp only [X13.S] at h
    obtain ⟨t0, e0, h⟩ := qP_elim h
    obtain ⟨t1, e1, h⟩ := qI_elim h
    obtain ⟨t18, e18, h⟩ := qA_elim h
    obtain ⟨t33, e33, h⟩ := qB_elim h
    exact ⟨((((Env.nil.put (some 0) (.pointer t0)).put (some 1) (.int .i64 t1)).put (some 18) (.pointer (some t18))).put (some 33) (.bool t33)), Env.le_put e33 (Env.le_put e18 (Env.le_put e1 (Env.le_put e0 (Env.le_nil _)))), Eq.mp (by kernel_rfl) h⟩), ⟨⟨trivial, trivial⟩, ⟨trivial, ⟨⟨trivial, trivial⟩, ⟨trivial, ⟨⟨trivial, trivial⟩, trivial⟩⟩⟩⟩⟩⟩⟩, ⟨(by
    intro φ ρ w h
    simp only [X13.S] at h
    obtain ⟨t0, e0, h⟩ := qP_elim h
    obtain ⟨t1, e1, h⟩ := qI_elim h
    obtain ⟨t18, e18, h⟩ := qA_elim h
    exact ⟨(((Env.nil.put (some 0) (.pointer t0)).put (some 1) (.int .i64 t1)).put (some 18) (.pointer (some t18))), Env.le_put e18 (Env.le_put e1 (Env.le_put e0 (Env.le_nil _))), Eq.mp (by kernel_rfl) h⟩), ⟨trivial, ⟨trivial, ⟨trivial, ⟨trivial, trivial⟩⟩⟩⟩⟩⟩⟩⟩⟩
theorem X13.sound (a0 : Option Addr) (a1 : Int) (a2 : Int) (a3 : Int) (a4_0 : Int) (a4_1 : Int) (a5 : Int) (a6p : Option Addr) (a6n : Nat) (a6c : Nat) (a7 : Int) (w : World) (Q : Value → World → Prop) (h : X13.f a0 a1 a2 a3 a4_0 a4_1 a5 a6p a6n a6c a7 w Q) : CallR Tryz.prog 13 #[.pointer a0, .int .i64 a1, .int .i64 a2, .int .i64 a3, .agg #[.int .i64 a4_0, .int .u64 a4_1], .int .u64 a5, .slice a6p a6n a6c, .int .u64 a7] w Q :=
  fn_sound noGr mixed Tryz.func13 (c := X13.c) (an := X13.an) (S := X13.S Q) (φ := fun _ => 0) (args := [.pointer a0, .int .i64 a1, .int .i64 a2, .int .i64 a3, .agg #[.int .i64 a4_0, .int .u64 a4_1], .int .u64 a5, .slice a6p a6n a6c, .int .u64 a7]) (by kernel_rfl) (by kernel_rfl) (by kernel_rfl) (X13.v Q) (Eq.mp (by kernel_rfl) h)
/-! ### (*mooring/caller.Table).Step: function 14 -/
def X14.j0 (Q : Value → World → Prop) (t0 : Option Addr) (t1 : Int) (t4 : Addr) (t5 : Addr) (t9 : Addr) (t11 : Addr) (w : World) : Prop := stK w (t9.add 12) (.int .u64 t1) fun w1 => drewK w1 fun w2 => ldI .u64 w2 (t9.add 13) fun x3 => optP t0 fun p4 => ldI .u64 w2 ((p4.add 0).add 14) fun x5 => optP t0 fun p6 => ldI .u64 w2 ((p6.add 0).add 15) fun x7 => CallR Tryz.prog 44 #[.int .u64 x3, .int .u64 x5, .int .u64 x7] w2 fun v8 w9 => ∃ (y10 : Int), v8 = .int .u64 y10 ∧ stK w9 (t9.add 13) (.int .u64 y10) fun w11 => ldI .i64 w11 (t9.add 0) fun x12 => ldI .u64 w11 (t9.add 1) fun x13 => ldI .i64 w11 (t9.add 2) fun x14 => ldI .i64 w11 (t9.add 3) fun x15 => ldI .i64 w11 (t9.add 4) fun x16 => ldI .u64 w11 (t9.add 5) fun x17 => ldSl w11 (t9.add 6) fun x18p x18n x18c => ldI .u64 w11 (t9.add 7) fun x19 => ldI .i64 w11 (t9.add 8) fun x20 => ldI .i64 w11 (t9.add 9) fun x21 => ldSl w11 (t9.add 10) fun x22p x22n x22c => ldI .u64 w11 (t9.add 11) fun x23 => ldI .u64 w11 (t9.add 12) fun x24 => ldI .u64 w11 (t9.add 13) fun x25 => ldI .u64 w11 (t9.add 14) fun x26 => CallR Tryz.prog 40 #[.pointer t0, .agg #[.int .i64 x12, .int .u64 x13, .int .i64 x14, .int .i64 x15, .int .i64 x16, .int .u64 x17, .slice x18p x18n x18c, .int .u64 x19, .int .i64 x20, .int .i64 x21, .slice x22p x22n x22c, .int .u64 x23, .int .u64 x24, .int .u64 x25, .int .u64 x26]] w11 fun v27 w28 => v27 = .tuple #[] ∧ drewK w28 fun w29 => ldI .i64 w29 (t11.add 0) fun x30 => ldI .u64 w29 (t11.add 1) fun x31 => ldI .i64 w29 (t11.add 2) fun x32 => ldI .i64 w29 (t11.add 3) fun x33 => ldI .i64 w29 (t11.add 4) fun x34 => ldI .u64 w29 (t11.add 5) fun x35 => ldSl w29 (t11.add 6) fun x36p x36n x36c => ldI .u64 w29 (t11.add 7) fun x37 => ldI .i64 w29 (t11.add 8) fun x38 => ldI .i64 w29 (t11.add 9) fun x39 => ldSl w29 (t11.add 10) fun x40p x40n x40c => ldI .u64 w29 (t11.add 11) fun x41 => ldI .u64 w29 (t11.add 12) fun x42 => ldI .u64 w29 (t11.add 13) fun x43 => ldI .u64 w29 (t11.add 14) fun x44 => ldI .i64 w29 (t9.add 0) fun x45 => ldI .u64 w29 (t9.add 1) fun x46 => ldI .i64 w29 (t9.add 2) fun x47 => ldI .i64 w29 (t9.add 3) fun x48 => ldI .i64 w29 (t9.add 4) fun x49 => ldI .u64 w29 (t9.add 5) fun x50 => ldSl w29 (t9.add 6) fun x51p x51n x51c => ldI .u64 w29 (t9.add 7) fun x52 => ldI .i64 w29 (t9.add 8) fun x53 => ldI .i64 w29 (t9.add 9) fun x54 => ldSl w29 (t9.add 10) fun x55p x55n x55c => ldI .u64 w29 (t9.add 11) fun x56 => ldI .u64 w29 (t9.add 12) fun x57 => ldI .u64 w29 (t9.add 13) fun x58 => ldI .u64 w29 (t9.add 14) fun x59 => ldI .i64 w29 (t9.add 0) fun x60 => CallR Tryz.prog 31 #[.pointer t0, .int .i64 x60] w29 fun v61 w62 => ∃ (y63 : Int), v61 = .int .u64 y63 ∧ ((∀ j u, ([.int .i64 x45, .int .u64 x46, .int .i64 x47, .int .i64 x48, .int .i64 x49, .int .u64 x50, .slice x51p x51n x51c, .int .u64 x52, .int .i64 x53, .int .i64 x54, .slice x55p x55n x55c, .int .u64 x56, .int .u64 x57, .int .u64 x58, .int .u64 x59] : List Value)[j]? = some u → World.cell? w29 (t9.add j) = some u) ∧ (∀ j u, ([.int .i64 x45, .int .u64 x46, .int .i64 x47, .int .i64 x48, .int .i64 x49, .int .u64 x50, .slice x51p x51n x51c, .int .u64 x52, .int .i64 x53, .int .i64 x54, .slice x55p x55n x55c, .int .u64 x56, .int .u64 x57, .int .u64 x58, .int .u64 x59] : List Value)[j]? = some u → World.cell? w62 (t9.add j) = some u)) ∧ ((∀ j u, ([.int .i64 x30, .int .u64 x31, .int .i64 x32, .int .i64 x33, .int .i64 x34, .int .u64 x35, .slice x36p x36n x36c, .int .u64 x37, .int .i64 x38, .int .i64 x39, .slice x40p x40n x40c, .int .u64 x41, .int .u64 x42, .int .u64 x43, .int .u64 x44] : List Value)[j]? = some u → World.cell? w29 (t11.add j) = some u) ∧ (∀ j u, ([.int .i64 x30, .int .u64 x31, .int .i64 x32, .int .i64 x33, .int .i64 x34, .int .u64 x35, .slice x36p x36n x36c, .int .u64 x37, .int .i64 x38, .int .i64 x39, .slice x40p x40n x40c, .int .u64 x41, .int .u64 x42, .int .u64 x43, .int .u64 x44] : List Value)[j]? = some u → World.cell? w62 (t11.add j) = some u)) ∧ CallR Tryz.prog 38 #[.pointer t0, .agg #[.int .i64 x45, .int .u64 x46, .int .i64 x47, .int .i64 x48, .int .i64 x49, .int .u64 x50, .slice x51p x51n x51c, .int .u64 x52, .int .i64 x53, .int .i64 x54, .slice x55p x55n x55c, .int .u64 x56, .int .u64 x57, .int .u64 x58, .int .u64 x59], .int .u64 y63] w62 fun v64 w65 => ∃ (y66 : Int) (y67 : Int) (y68 : Int) (y69 : Int) (y70 : Int) (y71 : Int) (y72 : Int) (y73 : Int) (y74 : Int) (y75 : Int) (y76p : Option Addr) (y76n y76c : Nat) (y77 : Int) (y78 : Int) (y79 : Int) (y80 : Int) (y81 : Int) (y82 : Int) (y83 : Int) (y84p : Option Addr) (y84n y84c : Nat), v64 = .agg #[.int .i64 y66, .int .i64 y67, .int .i64 y68, .int .u64 y69, .int .u64 y70, .int .i64 y71, .int .i64 y72, .int .i64 y73, .int .i64 y74, .int .u64 y75, .slice y76p y76n y76c, .int .u64 y77, .int .i64 y78, .int .u64 y79, .int .i64 y80, .int .u64 y81, .int .i64 y82, .int .u64 y83, .slice y84p y84n y84c] ∧ ((∀ j u, ([.int .i64 x30, .int .u64 x31, .int .i64 x32, .int .i64 x33, .int .i64 x34, .int .u64 x35, .slice x36p x36n x36c, .int .u64 x37, .int .i64 x38, .int .i64 x39, .slice x40p x40n x40c, .int .u64 x41, .int .u64 x42, .int .u64 x43, .int .u64 x44] : List Value)[j]? = some u → World.cell? w62 (t11.add j) = some u) ∧ (∀ j u, ([.int .i64 x30, .int .u64 x31, .int .i64 x32, .int .i64 x33, .int .i64 x34, .int .u64 x35, .slice x36p x36n x36c, .int .u64 x37, .int .i64 x38, .int .i64 x39, .slice x40p x40n x40c, .int .u64 x41, .int .u64 x42, .int .u64 x43, .int .u64 x44] : List Value)[j]? = some u → World.cell? w65 (t11.add j) = some u)) ∧ stAll w65 t4 [.int .i64 x30, .int .u64 x31, .int .i64 x32, .int .i64 x33, .int .i64 x34, .int .u64 x35, .slice x36p x36n x36c, .int .u64 x37, .int .i64 x38, .int .i64 x39, .slice x40p x40n x40c, .int .u64 x41, .int .u64 x42, .int .u64 x43, .int .u64 x44] fun w85 => stAll w85 t5 [.int .i64 y66, .int .i64 y67, .int .i64 y68, .int .u64 y69, .int .u64 y70, .int .i64 y71, .int .i64 y72, .int .i64 y73, .int .i64 y74, .int .u64 y75, .slice y76p y76n y76c, .int .u64 y77, .int .i64 y78, .int .u64 y79, .int .i64 y80, .int .u64 y81, .int .i64 y82, .int .u64 y83, .slice y84p y84n y84c] fun w86 => ldI .i64 w86 (t4.add 0) fun x87 => ldI .u64 w86 (t4.add 1) fun x88 => ldI .i64 w86 (t4.add 2) fun x89 => ldI .i64 w86 (t4.add 3) fun x90 => ldI .i64 w86 (t4.add 4) fun x91 => ldI .u64 w86 (t4.add 5) fun x92 => ldSl w86 (t4.add 6) fun x93p x93n x93c => ldI .u64 w86 (t4.add 7) fun x94 => ldI .i64 w86 (t4.add 8) fun x95 => ldI .i64 w86 (t4.add 9) fun x96 => ldSl w86 (t4.add 10) fun x97p x97n x97c => ldI .u64 w86 (t4.add 11) fun x98 => ldI .u64 w86 (t4.add 12) fun x99 => ldI .u64 w86 (t4.add 13) fun x100 => ldI .u64 w86 (t4.add 14) fun x101 => ldI .i64 w86 (t5.add 0) fun x102 => ldI .i64 w86 (t5.add 1) fun x103 => ldI .i64 w86 (t5.add 2) fun x104 => ldI .u64 w86 (t5.add 3) fun x105 => ldI .u64 w86 (t5.add 4) fun x106 => ldI .i64 w86 (t5.add 5) fun x107 => ldI .i64 w86 (t5.add 6) fun x108 => ldI .i64 w86 (t5.add 7) fun x109 => ldI .i64 w86 (t5.add 8) fun x110 => ldI .u64 w86 (t5.add 9) fun x111 => ldSl w86 (t5.add 10) fun x112p x112n x112c => ldI .u64 w86 (t5.add 11) fun x113 => ldI .i64 w86 (t5.add 12) fun x114 => ldI .u64 w86 (t5.add 13) fun x115 => ldI .i64 w86 (t5.add 14) fun x116 => ldI .u64 w86 (t5.add 15) fun x117 => ldI .i64 w86 (t5.add 16) fun x118 => ldI .u64 w86 (t5.add 17) fun x119 => ldSl w86 (t5.add 18) fun x120p x120n x120c => Q (.tuple #[.agg #[.int .i64 x87, .int .u64 x88, .int .i64 x89, .int .i64 x90, .int .i64 x91, .int .u64 x92, .slice x93p x93n x93c, .int .u64 x94, .int .i64 x95, .int .i64 x96, .slice x97p x97n x97c, .int .u64 x98, .int .u64 x99, .int .u64 x100, .int .u64 x101], .agg #[.int .i64 x102, .int .i64 x103, .int .i64 x104, .int .u64 x105, .int .u64 x106, .int .i64 x107, .int .i64 x108, .int .i64 x109, .int .i64 x110, .int .u64 x111, .slice x112p x112n x112c, .int .u64 x113, .int .i64 x114, .int .u64 x115, .int .i64 x116, .int .u64 x117, .int .i64 x118, .int .u64 x119, .slice x120p x120n x120c], .bool true]) w86
def X14.f (a0 : Option Addr) (a1 : Int) (w : World) (Q : Value → World → Prop) : Prop := newK w #[.int .i64 (0 : Int), .int .u64 (0 : Int), .int .i64 (0 : Int), .int .i64 (0 : Int), .int .i64 (0 : Int), .int .u64 (0 : Int), .slice none 0 0, .int .u64 (0 : Int), .int .i64 (0 : Int), .int .i64 (0 : Int), .slice none 0 0, .int .u64 (0 : Int), .int .u64 (0 : Int), .int .u64 (0 : Int), .int .u64 (0 : Int)] 50 fun g1 w2 => newK w2 #[.int .i64 (0 : Int), .int .i64 (0 : Int), .int .i64 (0 : Int), .int .u64 (0 : Int), .int .u64 (0 : Int), .int .i64 (0 : Int), .int .i64 (0 : Int), .int .i64 (0 : Int), .int .i64 (0 : Int), .int .u64 (0 : Int), .slice none 0 0, .int .u64 (0 : Int), .int .i64 (0 : Int), .int .u64 (0 : Int), .int .i64 (0 : Int), .int .u64 (0 : Int), .int .i64 (0 : Int), .int .u64 (0 : Int), .slice none 0 0] 63 fun g3 w4 => drewK w4 fun w5 => optP a0 fun p6 => ldP w5 (p6.add 25) fun x7 => optP a0 fun p8 => ldI .u64 w5 (p8.add 26) fun x9 => CallR Tryz.prog 41 #[.pointer x7, .int .u64 x9] w5 fun v10 w11 => ∃ (y12 : Int) (y13 : Bool), v10 = .tuple #[.int .u64 y12, .bool y13] ∧ bcase (!y13) (stAll w11 g1 [.int .i64 (0 : Int), .int .u64 (0 : Int), .int .i64 (0 : Int), .int .i64 (0 : Int), .int .i64 (0 : Int), .int .u64 (0 : Int), .slice none 0 0, .int .u64 (0 : Int), .int .i64 (0 : Int), .int .i64 (0 : Int), .slice none 0 0, .int .u64 (0 : Int), .int .u64 (0 : Int), .int .u64 (0 : Int), .int .u64 (0 : Int)] fun w14 => stAll w14 g3 [.int .i64 (0 : Int), .int .i64 (0 : Int), .int .i64 (0 : Int), .int .u64 (0 : Int), .int .u64 (0 : Int), .int .i64 (0 : Int), .int .i64 (0 : Int), .int .i64 (0 : Int), .int .i64 (0 : Int), .int .u64 (0 : Int), .slice none 0 0, .int .u64 (0 : Int), .int .i64 (0 : Int), .int .u64 (0 : Int), .int .i64 (0 : Int), .int .u64 (0 : Int), .int .i64 (0 : Int), .int .u64 (0 : Int), .slice none 0 0] fun w15 => ldI .i64 w15 (g1.add 0) fun x16 => ldI .u64 w15 (g1.add 1) fun x17 => ldI .i64 w15 (g1.add 2) fun x18 => ldI .i64 w15 (g1.add 3) fun x19 => ldI .i64 w15 (g1.add 4) fun x20 => ldI .u64 w15 (g1.add 5) fun x21 => ldSl w15 (g1.add 6) fun x22p x22n x22c => ldI .u64 w15 (g1.add 7) fun x23 => ldI .i64 w15 (g1.add 8) fun x24 => ldI .i64 w15 (g1.add 9) fun x25 => ldSl w15 (g1.add 10) fun x26p x26n x26c => ldI .u64 w15 (g1.add 11) fun x27 => ldI .u64 w15 (g1.add 12) fun x28 => ldI .u64 w15 (g1.add 13) fun x29 => ldI .u64 w15 (g1.add 14) fun x30 => ldI .i64 w15 (g3.add 0) fun x31 => ldI .i64 w15 (g3.add 1) fun x32 => ldI .i64 w15 (g3.add 2) fun x33 => ldI .u64 w15 (g3.add 3) fun x34 => ldI .u64 w15 (g3.add 4) fun x35 => ldI .i64 w15 (g3.add 5) fun x36 => ldI .i64 w15 (g3.add 6) fun x37 => ldI .i64 w15 (g3.add 7) fun x38 => ldI .i64 w15 (g3.add 8) fun x39 => ldI .u64 w15 (g3.add 9) fun x40 => ldSl w15 (g3.add 10) fun x41p x41n x41c => ldI .u64 w15 (g3.add 11) fun x42 => ldI .i64 w15 (g3.add 12) fun x43 => ldI .u64 w15 (g3.add 13) fun x44 => ldI .i64 w15 (g3.add 14) fun x45 => ldI .u64 w15 (g3.add 15) fun x46 => ldI .i64 w15 (g3.add 16) fun x47 => ldI .u64 w15 (g3.add 17) fun x48 => ldSl w15 (g3.add 18) fun x49p x49n x49c => Q (.tuple #[.agg #[.int .i64 x16, .int .u64 x17, .int .i64 x18, .int .i64 x19, .int .i64 x20, .int .u64 x21, .slice x22p x22n x22c, .int .u64 x23, .int .i64 x24, .int .i64 x25, .slice x26p x26n x26c, .int .u64 x27, .int .u64 x28, .int .u64 x29, .int .u64 x30], .agg #[.int .i64 x31, .int .i64 x32, .int .i64 x33, .int .u64 x34, .int .u64 x35, .int .i64 x36, .int .i64 x37, .int .i64 x38, .int .i64 x39, .int .u64 x40, .slice x41p x41n x41c, .int .u64 x42, .int .i64 x43, .int .u64 x44, .int .i64 x45, .int .u64 x46, .int .i64 x47, .int .u64 x48, .slice x49p x49n x49c], .bool false]) w15) (optP a0 fun p50 => stK w11 (p50.add 26) (.int .u64 y12) fun w51 => optP a0 fun p52 => ldP w51 (p52.add 25) fun x53 => CallR Tryz.prog 42 #[.pointer x53, .int .u64 y12] w51 fun v54 w55 => ∃ (y56 : Int) (y57 : Int) (y58 : Int) (y59 : Int) (y60 : Int) (y61 : Int) (y62p : Option Addr) (y62n y62c : Nat) (y63 : Int) (y64 : Int) (y65 : Int) (y66p : Option Addr) (y66n y66c : Nat) (y67 : Int) (y68 : Int) (y69 : Int) (y70 : Int) (y71 : Bool), v54 = .tuple #[.agg #[.int .i64 y56, .int .u64 y57, .int .i64 y58, .int .i64 y59, .int .i64 y60, .int .u64 y61, .slice y62p y62n y62c, .int .u64 y63, .int .i64 y64, .int .i64 y65, .slice y66p y66n y66c, .int .u64 y67, .int .u64 y68, .int .u64 y69, .int .u64 y70], .bool y71] ∧ newK w55 #[.int .i64 (0 : Int), .int .u64 (0 : Int), .int .i64 (0 : Int), .int .i64 (0 : Int), .int .i64 (0 : Int), .int .u64 (0 : Int), .slice none 0 0, .int .u64 (0 : Int), .int .i64 (0 : Int), .int .i64 (0 : Int), .slice none 0 0, .int .u64 (0 : Int), .int .u64 (0 : Int), .int .u64 (0 : Int), .int .u64 (0 : Int)] 50 fun g72 w73 => stAll w73 g72 [.int .i64 y56, .int .u64 y57, .int .i64 y58, .int .i64 y59, .int .i64 y60, .int .u64 y61, .slice y62p y62n y62c, .int .u64 y63, .int .i64 y64, .int .i64 y65, .slice y66p y66n y66c, .int .u64 y67, .int .u64 y68, .int .u64 y69, .int .u64 y70] fun w74 => ldI .i64 w74 (g72.add 0) fun x75 => ldI .u64 w74 (g72.add 1) fun x76 => ldI .i64 w74 (g72.add 2) fun x77 => ldI .i64 w74 (g72.add 3) fun x78 => ldI .i64 w74 (g72.add 4) fun x79 => ldI .u64 w74 (g72.add 5) fun x80 => ldSl w74 (g72.add 6) fun x81p x81n x81c => ldI .u64 w74 (g72.add 7) fun x82 => ldI .i64 w74 (g72.add 8) fun x83 => ldI .i64 w74 (g72.add 9) fun x84 => ldSl w74 (g72.add 10) fun x85p x85n x85c => ldI .u64 w74 (g72.add 11) fun x86 => ldI .u64 w74 (g72.add 12) fun x87 => ldI .u64 w74 (g72.add 13) fun x88 => ldI .u64 w74 (g72.add 14) fun x89 => CallR Tryz.prog 36 #[.agg #[.int .i64 x75, .int .u64 x76, .int .i64 x77, .int .i64 x78, .int .i64 x79, .int .u64 x80, .slice x81p x81n x81c, .int .u64 x82, .int .i64 x83, .int .i64 x84, .slice x85p x85n x85c, .int .u64 x86, .int .u64 x87, .int .u64 x88, .int .u64 x89]] w74 fun v90 w91 => ∃ (y92 : Int) (y93 : Int) (y94 : Int) (y95 : Int) (y96 : Int) (y97 : Int) (y98p : Option Addr) (y98n y98c : Nat) (y99 : Int) (y100 : Int) (y101 : Int) (y102p : Option Addr) (y102n y102c : Nat) (y103 : Int) (y104 : Int) (y105 : Int) (y106 : Int), v90 = .agg #[.int .i64 y92, .int .u64 y93, .int .i64 y94, .int .i64 y95, .int .i64 y96, .int .u64 y97, .slice y98p y98n y98c, .int .u64 y99, .int .i64 y100, .int .i64 y101, .slice y102p y102n y102c, .int .u64 y103, .int .u64 y104, .int .u64 y105, .int .u64 y106] ∧ newK w91 #[.int .i64 (0 : Int), .int .u64 (0 : Int), .int .i64 (0 : Int), .int .i64 (0 : Int), .int .i64 (0 : Int), .int .u64 (0 : Int), .slice none 0 0, .int .u64 (0 : Int), .int .i64 (0 : Int), .int .i64 (0 : Int), .slice none 0 0, .int .u64 (0 : Int), .int .u64 (0 : Int), .int .u64 (0 : Int), .int .u64 (0 : Int)] 50 fun g107 w108 => stAll w108 g107 [.int .i64 y92, .int .u64 y93, .int .i64 y94, .int .i64 y95, .int .i64 y96, .int .u64 y97, .slice y98p y98n y98c, .int .u64 y99, .int .i64 y100, .int .i64 y101, .slice y102p y102n y102c, .int .u64 y103, .int .u64 y104, .int .u64 y105, .int .u64 y106] fun w109 => ldI .i64 w109 (g72.add 8) fun x110 => bcase (x110 != (1 : Int)) (ldI .i64 w109 (g72.add 8) fun x111 => bcase (x111 != (4 : Int)) (ldI .i64 w109 (g107.add 0) fun x112 => ldI .u64 w109 (g107.add 1) fun x113 => ldI .i64 w109 (g107.add 2) fun x114 => ldI .i64 w109 (g107.add 3) fun x115 => ldI .i64 w109 (g107.add 4) fun x116 => ldI .u64 w109 (g107.add 5) fun x117 => ldSl w109 (g107.add 6) fun x118p x118n x118c => ldI .u64 w109 (g107.add 7) fun x119 => ldI .i64 w109 (g107.add 8) fun x120 => ldI .i64 w109 (g107.add 9) fun x121 => ldSl w109 (g107.add 10) fun x122p x122n x122c => ldI .u64 w109 (g107.add 11) fun x123 => ldI .u64 w109 (g107.add 12) fun x124 => ldI .u64 w109 (g107.add 13) fun x125 => ldI .u64 w109 (g107.add 14) fun x126 => stAll w109 g1 [.int .i64 x112, .int .u64 x113, .int .i64 x114, .int .i64 x115, .int .i64 x116, .int .u64 x117, .slice x118p x118n x118c, .int .u64 x119, .int .i64 x120, .int .i64 x121, .slice x122p x122n x122c, .int .u64 x123, .int .u64 x124, .int .u64 x125, .int .u64 x126] fun w127 => stAll w127 g3 [.int .i64 (0 : Int), .int .i64 (0 : Int), .int .i64 (0 : Int), .int .u64 (0 : Int), .int .u64 (0 : Int), .int .i64 (0 : Int), .int .i64 (0 : Int), .int .i64 (0 : Int), .int .i64 (0 : Int), .int .u64 (0 : Int), .slice none 0 0, .int .u64 (0 : Int), .int .i64 (0 : Int), .int .u64 (0 : Int), .int .i64 (0 : Int), .int .u64 (0 : Int), .int .i64 (0 : Int), .int .u64 (0 : Int), .slice none 0 0] fun w128 => ldI .i64 w128 (g1.add 0) fun x129 => ldI .u64 w128 (g1.add 1) fun x130 => ldI .i64 w128 (g1.add 2) fun x131 => ldI .i64 w128 (g1.add 3) fun x132 => ldI .i64 w128 (g1.add 4) fun x133 => ldI .u64 w128 (g1.add 5) fun x134 => ldSl w128 (g1.add 6) fun x135p x135n x135c => ldI .u64 w128 (g1.add 7) fun x136 => ldI .i64 w128 (g1.add 8) fun x137 => ldI .i64 w128 (g1.add 9) fun x138 => ldSl w128 (g1.add 10) fun x139p x139n x139c => ldI .u64 w128 (g1.add 11) fun x140 => ldI .u64 w128 (g1.add 12) fun x141 => ldI .u64 w128 (g1.add 13) fun x142 => ldI .u64 w128 (g1.add 14) fun x143 => ldI .i64 w128 (g3.add 0) fun x144 => ldI .i64 w128 (g3.add 1) fun x145 => ldI .i64 w128 (g3.add 2) fun x146 => ldI .u64 w128 (g3.add 3) fun x147 => ldI .u64 w128 (g3.add 4) fun x148 => ldI .i64 w128 (g3.add 5) fun x149 => ldI .i64 w128 (g3.add 6) fun x150 => ldI .i64 w128 (g3.add 7) fun x151 => ldI .i64 w128 (g3.add 8) fun x152 => ldI .u64 w128 (g3.add 9) fun x153 => ldSl w128 (g3.add 10) fun x154p x154n x154c => ldI .u64 w128 (g3.add 11) fun x155 => ldI .i64 w128 (g3.add 12) fun x156 => ldI .u64 w128 (g3.add 13) fun x157 => ldI .i64 w128 (g3.add 14) fun x158 => ldI .u64 w128 (g3.add 15) fun x159 => ldI .i64 w128 (g3.add 16) fun x160 => ldI .u64 w128 (g3.add 17) fun x161 => ldSl w128 (g3.add 18) fun x162p x162n x162c => Q (.tuple #[.agg #[.int .i64 x129, .int .u64 x130, .int .i64 x131, .int .i64 x132, .int .i64 x133, .int .u64 x134, .slice x135p x135n x135c, .int .u64 x136, .int .i64 x137, .int .i64 x138, .slice x139p x139n x139c, .int .u64 x140, .int .u64 x141, .int .u64 x142, .int .u64 x143], .agg #[.int .i64 x144, .int .i64 x145, .int .i64 x146, .int .u64 x147, .int .u64 x148, .int .i64 x149, .int .i64 x150, .int .i64 x151, .int .i64 x152, .int .u64 x153, .slice x154p x154n x154c, .int .u64 x155, .int .i64 x156, .int .u64 x157, .int .i64 x158, .int .u64 x159, .int .i64 x160, .int .u64 x161, .slice x162p x162n x162c], .bool false]) w128) (ldI .u64 w109 (g72.add 12) fun x163 => ldI .u64 w109 (g72.add 13) fun x164 => CallR Tryz.prog 43 #[.int .u64 x163, .int .u64 x164, .int .u64 a1] w109 fun v165 w166 => ∃ (y167 : Bool), v165 = .bool y167 ∧ bcase (!y167) (ldI .i64 w166 (g107.add 0) fun x168 => ldI .u64 w166 (g107.add 1) fun x169 => ldI .i64 w166 (g107.add 2) fun x170 => ldI .i64 w166 (g107.add 3) fun x171 => ldI .i64 w166 (g107.add 4) fun x172 => ldI .u64 w166 (g107.add 5) fun x173 => ldSl w166 (g107.add 6) fun x174p x174n x174c => ldI .u64 w166 (g107.add 7) fun x175 => ldI .i64 w166 (g107.add 8) fun x176 => ldI .i64 w166 (g107.add 9) fun x177 => ldSl w166 (g107.add 10) fun x178p x178n x178c => ldI .u64 w166 (g107.add 11) fun x179 => ldI .u64 w166 (g107.add 12) fun x180 => ldI .u64 w166 (g107.add 13) fun x181 => ldI .u64 w166 (g107.add 14) fun x182 => stAll w166 g1 [.int .i64 x168, .int .u64 x169, .int .i64 x170, .int .i64 x171, .int .i64 x172, .int .u64 x173, .slice x174p x174n x174c, .int .u64 x175, .int .i64 x176, .int .i64 x177, .slice x178p x178n x178c, .int .u64 x179, .int .u64 x180, .int .u64 x181, .int .u64 x182] fun w183 => stAll w183 g3 [.int .i64 (0 : Int), .int .i64 (0 : Int), .int .i64 (0 : Int), .int .u64 (0 : Int), .int .u64 (0 : Int), .int .i64 (0 : Int), .int .i64 (0 : Int), .int .i64 (0 : Int), .int .i64 (0 : Int), .int .u64 (0 : Int), .slice none 0 0, .int .u64 (0 : Int), .int .i64 (0 : Int), .int .u64 (0 : Int), .int .i64 (0 : Int), .int .u64 (0 : Int), .int .i64 (0 : Int), .int .u64 (0 : Int), .slice none 0 0] fun w184 => ldI .i64 w184 (g1.add 0) fun x185 => ldI .u64 w184 (g1.add 1) fun x186 => ldI .i64 w184 (g1.add 2) fun x187 => ldI .i64 w184 (g1.add 3) fun x188 => ldI .i64 w184 (g1.add 4) fun x189 => ldI .u64 w184 (g1.add 5) fun x190 => ldSl w184 (g1.add 6) fun x191p x191n x191c => ldI .u64 w184 (g1.add 7) fun x192 => ldI .i64 w184 (g1.add 8) fun x193 => ldI .i64 w184 (g1.add 9) fun x194 => ldSl w184 (g1.add 10) fun x195p x195n x195c => ldI .u64 w184 (g1.add 11) fun x196 => ldI .u64 w184 (g1.add 12) fun x197 => ldI .u64 w184 (g1.add 13) fun x198 => ldI .u64 w184 (g1.add 14) fun x199 => ldI .i64 w184 (g3.add 0) fun x200 => ldI .i64 w184 (g3.add 1) fun x201 => ldI .i64 w184 (g3.add 2) fun x202 => ldI .u64 w184 (g3.add 3) fun x203 => ldI .u64 w184 (g3.add 4) fun x204 => ldI .i64 w184 (g3.add 5) fun x205 => ldI .i64 w184 (g3.add 6) fun x206 => ldI .i64 w184 (g3.add 7) fun x207 => ldI .i64 w184 (g3.add 8) fun x208 => ldI .u64 w184 (g3.add 9) fun x209 => ldSl w184 (g3.add 10) fun x210p x210n x210c => ldI .u64 w184 (g3.add 11) fun x211 => ldI .i64 w184 (g3.add 12) fun x212 => ldI .u64 w184 (g3.add 13) fun x213 => ldI .i64 w184 (g3.add 14) fun x214 => ldI .u64 w184 (g3.add 15) fun x215 => ldI .i64 w184 (g3.add 16) fun x216 => ldI .u64 w184 (g3.add 17) fun x217 => ldSl w184 (g3.add 18) fun x218p x218n x218c => Q (.tuple #[.agg #[.int .i64 x185, .int .u64 x186, .int .i64 x187, .int .i64 x188, .int .i64 x189, .int .u64 x190, .slice x191p x191n x191c, .int .u64 x192, .int .i64 x193, .int .i64 x194, .slice x195p x195n x195c, .int .u64 x196, .int .u64 x197, .int .u64 x198, .int .u64 x199], .agg #[.int .i64 x200, .int .i64 x201, .int .i64 x202, .int .u64 x203, .int .u64 x204, .int .i64 x205, .int .i64 x206, .int .i64 x207, .int .i64 x208, .int .u64 x209, .slice x210p x210n x210c, .int .u64 x211, .int .i64 x212, .int .u64 x213, .int .i64 x214, .int .u64 x215, .int .i64 x216, .int .u64 x217, .slice x218p x218n x218c], .bool false]) w184) (X14.j0 Q a0 a1 g1 g3 g72 g107 w166))) (ldI .u64 w109 (g72.add 12) fun x219 => ldI .u64 w109 (g72.add 13) fun x220 => CallR Tryz.prog 43 #[.int .u64 x219, .int .u64 x220, .int .u64 a1] w109 fun v221 w222 => ∃ (y223 : Bool), v221 = .bool y223 ∧ bcase (!y223) (ldI .i64 w222 (g107.add 0) fun x224 => ldI .u64 w222 (g107.add 1) fun x225 => ldI .i64 w222 (g107.add 2) fun x226 => ldI .i64 w222 (g107.add 3) fun x227 => ldI .i64 w222 (g107.add 4) fun x228 => ldI .u64 w222 (g107.add 5) fun x229 => ldSl w222 (g107.add 6) fun x230p x230n x230c => ldI .u64 w222 (g107.add 7) fun x231 => ldI .i64 w222 (g107.add 8) fun x232 => ldI .i64 w222 (g107.add 9) fun x233 => ldSl w222 (g107.add 10) fun x234p x234n x234c => ldI .u64 w222 (g107.add 11) fun x235 => ldI .u64 w222 (g107.add 12) fun x236 => ldI .u64 w222 (g107.add 13) fun x237 => ldI .u64 w222 (g107.add 14) fun x238 => stAll w222 g1 [.int .i64 x224, .int .u64 x225, .int .i64 x226, .int .i64 x227, .int .i64 x228, .int .u64 x229, .slice x230p x230n x230c, .int .u64 x231, .int .i64 x232, .int .i64 x233, .slice x234p x234n x234c, .int .u64 x235, .int .u64 x236, .int .u64 x237, .int .u64 x238] fun w239 => stAll w239 g3 [.int .i64 (0 : Int), .int .i64 (0 : Int), .int .i64 (0 : Int), .int .u64 (0 : Int), .int .u64 (0 : Int), .int .i64 (0 : Int), .int .i64 (0 : Int), .int .i64 (0 : Int), .int .i64 (0 : Int), .int .u64 (0 : Int), .slice none 0 0, .int .u64 (0 : Int), .int .i64 (0 : Int), .int .u64 (0 : Int), .int .i64 (0 : Int), .int .u64 (0 : Int), .int .i64 (0 : Int), .int .u64 (0 : Int), .slice none 0 0] fun w240 => ldI .i64 w240 (g1.add 0) fun x241 => ldI .u64 w240 (g1.add 1) fun x242 => ldI .i64 w240 (g1.add 2) fun x243 => ldI .i64 w240 (g1.add 3) fun x244 => ldI .i64 w240 (g1.add 4) fun x245 => ldI .u64 w240 (g1.add 5) fun x246 => ldSl w240 (g1.add 6) fun x247p x247n x247c => ldI .u64 w240 (g1.add 7) fun x248 => ldI .i64 w240 (g1.add 8) fun x249 => ldI .i64 w240 (g1.add 9) fun x250 => ldSl w240 (g1.add 10) fun x251p x251n x251c => ldI .u64 w240 (g1.add 11) fun x252 => ldI .u64 w240 (g1.add 12) fun x253 => ldI .u64 w240 (g1.add 13) fun x254 => ldI .u64 w240 (g1.add 14) fun x255 => ldI .i64 w240 (g3.add 0) fun x256 => ldI .i64 w240 (g3.add 1) fun x257 => ldI .i64 w240 (g3.add 2) fun x258 => ldI .u64 w240 (g3.add 3) fun x259 => ldI .u64 w240 (g3.add 4) fun x260 => ldI .i64 w240 (g3.add 5) fun x261 => ldI .i64 w240 (g3.add 6) fun x262 => ldI .i64 w240 (g3.add 7) fun x263 => ldI .i64 w240 (g3.add 8) fun x264 => ldI .u64 w240 (g3.add 9) fun x265 => ldSl w240 (g3.add 10) fun x266p x266n x266c => ldI .u64 w240 (g3.add 11) fun x267 => ldI .i64 w240 (g3.add 12) fun x268 => ldI .u64 w240 (g3.add 13) fun x269 => ldI .i64 w240 (g3.add 14) fun x270 => ldI .u64 w240 (g3.add 15) fun x271 => ldI .i64 w240 (g3.add 16) fun x272 => ldI .u64 w240 (g3.add 17) fun x273 => ldSl w240 (g3.add 18) fun x274p x274n x274c => Q (.tuple #[.agg #[.int .i64 x241, .int .u64 x242, .int .i64 x243, .int .i64 x244, .int .i64 x245, .int .u64 x246, .slice x247p x247n x247c, .int .u64 x248, .int .i64 x249, .int .i64 x250, .slice x251p x251n x251c, .int .u64 x252, .int .u64 x253, .int .u64 x254, .int .u64 x255], .agg #[.int .i64 x256, .int .i64 x257, .int .i64 x258, .int .u64 x259, .int .u64 x260, .int .i64 x261, .int .i64 x262, .int .i64 x263, .int .i64 x264, .int .u64 x265, .slice x266p x266n x266c, .int .u64 x267, .int .i64 x268, .int .u64 x269, .int .i64 x270, .int .u64 x271, .int .i64 x272, .int .u64 x273, .slice x274p x274n x274c], .bool false]) w240) (X14.j0 Q a0 a1 g1 g3 g72 g107 w222)))
def X14.S (Q : Value → World → Prop) : Segs
  | 0, φ, ρ, w => qP (ρ 0) fun t0 => qI .u64 (ρ 1) fun t1 => qA (ρ 4) fun t4 => qA (ρ 5) fun t5 => qA (ρ 9) fun t9 => qA (ρ 11) fun t11 => X14.j0 Q t0 t1 t4 t5 t9 t11 w
  | _, _, _, _ => False
noncomputable def X14.an : Ann := (.seq .leaf (.seq (.draw [0, 1, 3, 7, 0, 16, 48, 112, 255, 511, 1023, 1023, 2047, 8191] [[0, 1, 2, 3, 4, 5, 6, 7, 8, 9, 10, 11, 12, 13]]) (.seq (.seq .leaf (.cond (.seq .leaf .leaf) .leaf)) (.seq .leaf (.seq .leaf (.seq .leaf (.seq (.seq .leaf (.cond (.seq .leaf .leaf) .leaf)) (.join 0 (.seq .leaf (.seq (.draw [0, 1, 0, 4, 12, 28, 60, 0, 128, 384, 896, 1920, 4095, 8191, 16383] [[0, 1, 2, 3, 4, 5, 6, 7, 8, 9, 10, 11, 12, 13, 14]]) (.seq .leaf (.seq (.draw [0, 0, 0, 0, 0, 16, 56, 126, 255, 511, 1023] [[0, 1, 2, 3, 4, 5, 6, 7, 8, 9, 10]]) .leaf))))))))))))
noncomputable def X14.c : Code := Tryz.f14.body.getD .skip
theorem X14.v (Q : Value → World → Prop) : V Tryz.prog (X14.S Q) X14.an X14.c (retC Tryz.prog Tryz.f14 Q) := ⟨trivial, ⟨trivial, ⟨⟨trivial, ⟨⟨trivial, trivial⟩, trivial⟩⟩, ⟨trivial, ⟨trivial, ⟨trivial, ⟨⟨trivial, ⟨⟨trivial, trivial⟩, trivial⟩⟩, ⟨(by
    intro φ ρ w h
    simp only [X14.S] at h
    obtain ⟨t0, e0, h⟩ := qP_elim h
    obtain ⟨t1, e1, h⟩ := qI_elim h
    obtain ⟨t4, e4, h⟩ := qA_elim h
    obtain ⟨t5, e5, h⟩ := qA_elim h
    obtain ⟨t9, e9, h⟩ := qA_elim h
    obtain ⟨t11, e11, h⟩ := qA_elim h
    exact ⟨((((((Env.nil.put (some 0) (.pointer t0)).put (some 1) (.int .u64 t1)).put (some 4) (.pointer (some t4))).put (some 5) (.pointer (some t5))).put (some 9) (.pointer (some t9))).put (some 11) (.pointer (some t11))), Env.le_put e11 (Env.le_put e9 (Env.le_put e5 (Env.le_put e4 (Env.le_put e1 (Env.le_put e0 (Env.le_nil _)))))), Eq.mp (by kernel_rfl) h⟩), ⟨trivial, ⟨trivial, ⟨trivial, ⟨trivial, trivial⟩⟩⟩⟩⟩⟩⟩⟩⟩⟩⟩⟩
theorem X14.sound (a0 : Option Addr) (a1 : Int) (w : World) (Q : Value → World → Prop) (h : X14.f a0 a1 w Q) : CallR Tryz.prog 14 #[.pointer a0, .int .u64 a1] w Q :=
  fn_sound noGr mixed Tryz.func14 (c := X14.c) (an := X14.an) (S := X14.S Q) (φ := fun _ => 0) (args := [.pointer a0, .int .u64 a1]) (by kernel_rfl) (by kernel_rfl) (by kernel_rfl) (X14.v Q) (Eq.mp (by kernel_rfl) h)
/-! ### mooring/mooringref2.IDs: function 22 -/
def X22.l0 (Q : Value → World → Prop) : Nat → (Option Addr) → Nat → Nat → (Option Addr) → Nat → Nat → Int → World → Prop
  | 0, _, _, _, _, _, _, _, _ => False
  | k + 1, t0p, t0n, t0c, t1p, t1n, t1c, t5, w => bcase (decide (t5 < ((t0n : Nat) : Int))) (drewK w fun w1 => (0 ≤ t5 ∧ t5 < ((t0n : Nat) : Int)) ∧ optP t0p fun p2 => ldI .i64 w1 ((p2.add (Int.toNat t5 * 2)).add 0) fun x3 => ldI .u64 w1 ((p2.add (Int.toNat t5 * 2)).add 1) fun x4 => (0 ≤ t5 ∧ t5 < ((t1n : Nat) : Int)) ∧ optP t1p fun p5 => ldI .i64 w1 ((p5.add (Int.toNat t5 * 2)).add 0) fun x6 => ldI .u64 w1 ((p5.add (Int.toNat t5 * 2)).add 1) fun x7 => isStruct Tryz.prog 37 ∧ bcase (!((x3 == x6) && ((x4 == x7) && true))) (Q (.bool false) w1) (X22.l0 Q k t0p t0n t0c t1p t1n t1c (IntKind.wrap .i64 (t5 + (1 : Int))) w1)) (Q (.bool true) w)
def X22.f (a0p : Option Addr) (a0n : Nat) (a0c : Nat) (a1p : Option Addr) (a1n : Nat) (a1c : Nat) (w : World) (Q : Value → World → Prop) : Prop := bcase (((a0n : Nat) : Int) != ((a1n : Nat) : Int)) (Q (.bool false) w) (∃ m1, X22.l0 Q m1 a0p a0n a0c a1p a1n a1c (0 : Int) w)
def X22.S (Q : Value → World → Prop) : Segs
  | 0, φ, ρ, w => qSl (ρ 0) fun t0p t0n t0c => qSl (ρ 1) fun t1p t1n t1c => qI .i64 (ρ 5) fun t5 => X22.l0 Q (φ 0) t0p t0n t0c t1p t1n t1c t5 w
  | _, _, _, _ => False
noncomputable def X22.an : Ann := (.seq .leaf (.seq (.seq .leaf (.cond (.seq .leaf .leaf) .leaf)) (.seq (.seq .leaf (.block (.loop 0 (.seq (.seq .leaf (.cond .leaf .leaf)) (.seq (.block (.seq (.draw [0, 0, 3, 7, 0, 0, 48, 112, 255] [[0, 1, 2, 3, 4, 5, 6, 7, 8]]) (.cond (.seq .leaf .leaf) .leaf))) .leaf))))) (.seq .leaf .leaf))))
noncomputable def X22.c : Code := Tryz.f22.body.getD .skip
theorem X22.v (Q : Value → World → Prop) : V Tryz.prog (X22.S Q) X22.an X22.c (retC Tryz.prog Tryz.f22 Q) := ⟨trivial, ⟨⟨trivial, ⟨⟨trivial, trivial⟩, trivial⟩⟩, ⟨⟨trivial, ⟨(by
    intro φ ρ w h
    simp only [X22.S] at h
    obtain ⟨t0p, t0n, t0c, e0, h⟩ := qSl_elim h
    obtain ⟨t1p, t1n, t1c, e1, h⟩ := qSl_elim h
    obtain ⟨t5, e5, h⟩ := qI_elim h
    cases hk : φ 0 with
    | zero => rw [hk] at h; exact h.elim
    | succ k => rw [hk] at h; exact ⟨k, Nat.lt_succ_self k, (((Env.nil.put (some 0) (.slice t0p t0n t0c)).put (some 1) (.slice t1p t1n t1c)).put (some 5) (.int .i64 t5)), Env.le_put e5 (Env.le_put e1 (Env.le_put e0 (Env.le_nil _))), Eq.mp (by kernel_rfl) h⟩), ⟨⟨trivial, ⟨trivial, trivial⟩⟩, ⟨⟨trivial, ⟨⟨trivial, trivial⟩, trivial⟩⟩, trivial⟩⟩⟩⟩, ⟨trivial, trivial⟩⟩⟩⟩
theorem X22.sound (a0p : Option Addr) (a0n : Nat) (a0c : Nat) (a1p : Option Addr) (a1n : Nat) (a1c : Nat) (w : World) (Q : Value → World → Prop) (h : X22.f a0p a0n a0c a1p a1n a1c w Q) : CallR Tryz.prog 22 #[.slice a0p a0n a0c, .slice a1p a1n a1c] w Q :=
  fn_sound noGr mixed Tryz.func22 (c := X22.c) (an := X22.an) (S := X22.S Q) (φ := fun _ => 0) (args := [.slice a0p a0n a0c, .slice a1p a1n a1c]) (by kernel_rfl) (by kernel_rfl) (by kernel_rfl) (X22.v Q) (Eq.mp (by kernel_rfl) h)
/-! ### (*mooring/caller.Table).Reply: function 15 -/
def X15.j0 (Q : Value → World → Prop) (t0 : Option Addr) (t3 : Addr) (w : World) : Prop := ldI .i64 w (t3.add 1) fun x1 => ldI .u64 w (t3.add 3) fun x2 => CallR Tryz.prog 46 #[.pointer t0, .int .i64 x1, .int .u64 x2] w fun v3 w4 => ∃ (y5 : Int) (y6 : Int) (y7 : Int) (y8 : Int) (y9 : Int) (y10 : Int) (y11p : Option Addr) (y11n y11c : Nat) (y12 : Int) (y13 : Int) (y14 : Int) (y15p : Option Addr) (y15n y15c : Nat) (y16 : Int) (y17 : Int) (y18 : Int) (y19 : Int) (y20 : Bool), v3 = .tuple #[.agg #[.int .i64 y5, .int .u64 y6, .int .i64 y7, .int .i64 y8, .int .i64 y9, .int .u64 y10, .slice y11p y11n y11c, .int .u64 y12, .int .i64 y13, .int .i64 y14, .slice y15p y15n y15c, .int .u64 y16, .int .u64 y17, .int .u64 y18, .int .u64 y19], .bool y20] ∧ newK w4 #[.int .i64 (0 : Int), .int .u64 (0 : Int), .int .i64 (0 : Int), .int .i64 (0 : Int), .int .i64 (0 : Int), .int .u64 (0 : Int), .slice none 0 0, .int .u64 (0 : Int), .int .i64 (0 : Int), .int .i64 (0 : Int), .slice none 0 0, .int .u64 (0 : Int), .int .u64 (0 : Int), .int .u64 (0 : Int), .int .u64 (0 : Int)] 50 fun g21 w22 => stAll w22 g21 [.int .i64 y5, .int .u64 y6, .int .i64 y7, .int .i64 y8, .int .i64 y9, .int .u64 y10, .slice y11p y11n y11c, .int .u64 y12, .int .i64 y13, .int .i64 y14, .slice y15p y15n y15c, .int .u64 y16, .int .u64 y17, .int .u64 y18, .int .u64 y19] fun w23 => bcase (!y20) (drewK w23 fun w24 => ldI .u64 w24 (t3.add 3) fun x25 => optP t0 fun p26 => ldI .u64 w24 (p26.add 23) fun x27 => bcase (decide (x25 > x27)) (ldI .u64 w24 (t3.add 3) fun x28 => optP t0 fun p29 => ldSl w24 (p29.add 24) fun x30p x30n x30c => ldI .i64 w24 (t3.add 1) fun x31 => (0 ≤ x31 ∧ x31 < ((x30n : Nat) : Int)) ∧ optP x30p fun p32 => ldI .u64 w24 (p32.add (Int.toNat x31 * 1)) fun x33 => Q (.tuple #[.slice none 0 0, .bool (decide (x28 ≤ x33))]) w24) (Q (.tuple #[.slice none 0 0, .bool false]) w24)) (ldI .i64 w23 (g21.add 8) fun x34 => bcase (x34 == (1 : Int)) (drewK w23 fun w35 => ldI .i64 w35 (t3.add 12) fun x36 => ldI .u64 w35 (t3.add 11) fun x37 => stK w35 (g21.add 8) (.int .i64 (2 : Int)) fun w38 => (World.cell? w35 (t3.add 11) = some (.int .u64 x37) ∧ World.cell? w38 (t3.add 11) = some (.int .u64 x37)) ∧ (World.cell? w35 (t3.add 12) = some (.int .i64 x36) ∧ World.cell? w38 (t3.add 12) = some (.int .i64 x36)) ∧ stK w38 (g21.add 9) (.int .i64 x36) fun w39 => (World.cell? w38 (t3.add 11) = some (.int .u64 x37) ∧ World.cell? w39 (t3.add 11) = some (.int .u64 x37)) ∧ stK w39 (g21.add 11) (.int .u64 x37) fun w40 => newK w40 #[] 37 fun g41 w42 => ldSl w42 (t3.add 10) fun x43p x43n x43c => RunR Tryz.prog (Builtin.append_ #[38, 38] 38 #[.slice (some g41) 0 0, .slice x43p x43n x43c]) w42 fun v44 w45 => ∃ (s46p : Option Addr) (s46n s46c : Nat), v44 = .slice s46p s46n s46c ∧ stK w45 (g21.add 10) (.slice s46p s46n s46c) fun w47 => ldI .i64 w47 (g21.add 0) fun x48 => ldI .u64 w47 (g21.add 1) fun x49 => ldI .i64 w47 (g21.add 2) fun x50 => ldI .i64 w47 (g21.add 3) fun x51 => ldI .i64 w47 (g21.add 4) fun x52 => ldI .u64 w47 (g21.add 5) fun x53 => ldSl w47 (g21.add 6) fun x54p x54n x54c => ldI .u64 w47 (g21.add 7) fun x55 => ldI .i64 w47 (g21.add 8) fun x56 => ldI .i64 w47 (g21.add 9) fun x57 => ldSl w47 (g21.add 10) fun x58p x58n x58c => ldI .u64 w47 (g21.add 11) fun x59 => ldI .u64 w47 (g21.add 12) fun x60 => ldI .u64 w47 (g21.add 13) fun x61 => ldI .u64 w47 (g21.add 14) fun x62 => CallR Tryz.prog 40 #[.pointer t0, .agg #[.int .i64 x48, .int .u64 x49, .int .i64 x50, .int .i64 x51, .int .i64 x52, .int .u64 x53, .slice x54p x54n x54c, .int .u64 x55, .int .i64 x56, .int .i64 x57, .slice x58p x58n x58c, .int .u64 x59, .int .u64 x60, .int .u64 x61, .int .u64 x62]] w47 fun v63 w64 => v63 = .tuple #[] ∧ newK w64 #[] 37 fun g65 w66 => ldSl w66 (t3.add 10) fun x67p x67n x67c => RunR Tryz.prog (Builtin.append_ #[38, 38] 38 #[.slice (some g65) 0 0, .slice x67p x67n x67c]) w66 fun v68 w69 => ∃ (s70p : Option Addr) (s70n s70c : Nat), v68 = .slice s70p s70n s70c ∧ Q (.tuple #[.slice s70p s70n s70c, .bool false]) w69) (bcase (x34 == (4 : Int)) (drewK w23 fun w71 => optP t0 fun p72 => ldP w71 (p72.add 25) fun x73 => ldI .i64 w71 (g21.add 0) fun x74 => ldI .u64 w71 (g21.add 1) fun x75 => CallR Tryz.prog 48 #[.int .i64 x74, .int .u64 x75] w71 fun v76 w77 => ∃ (y78 : Int), v76 = .int .u64 y78 ∧ (World.cell? w71 (p72.add 25) = some (.pointer x73) ∧ World.cell? w77 (p72.add 25) = some (.pointer x73)) ∧ CallR Tryz.prog 47 #[.pointer x73, .int .u64 y78] w77 fun v79 w80 => ∃ (y81 : Bool), v79 = .bool y81 ∧ Q (.tuple #[.slice none 0 0, .bool true]) w80) (bcase (x34 == (3 : Int)) (Q (.tuple #[.slice none 0 0, .bool true]) w23) (Q (.tuple #[.slice none 0 0, .bool false]) w23))))
def X15.f (a0 : Option Addr) (a1_0 : Int) (a1_1 : Int) (a1_2 : Int) (a1_3 : Int) (a1_4 : Int) (a1_5 : Int) (a1_6 : Int) (a1_7 : Int) (a1_8 : Int) (a1_9 : Int) (a1_10p : Option Addr) (a1_10n : Nat) (a1_10c : Nat) (a1_11 : Int) (a1_12 : Int) (a1_13 : Int) (a1_14 : Int) (a1_15 : Int) (a1_16 : Int) (a1_17 : Int) (a1_18p : Option Addr) (a1_18n : Nat) (a1_18c : Nat) (w : World) (Q : Value → World → Prop) : Prop := newK w #[.int .i64 a1_0, .int .i64 a1_1, .int .i64 a1_2, .int .u64 a1_3, .int .u64 a1_4, .int .i64 a1_5, .int .i64 a1_6, .int .i64 a1_7, .int .i64 a1_8, .int .u64 a1_9, .slice a1_10p a1_10n a1_10c, .int .u64 a1_11, .int .i64 a1_12, .int .u64 a1_13, .int .i64 a1_14, .int .u64 a1_15, .int .i64 a1_16, .int .u64 a1_17, .slice a1_18p a1_18n a1_18c] 63 fun g1 w2 => drewK w2 fun w3 => ldI .i64 w3 (g1.add 0) fun x4 => bcase (x4 != (2 : Int)) (Q (.tuple #[.slice none 0 0, .bool false]) w3) (ldI .i64 w3 (g1.add 2) fun x5 => optP a0 fun p6 => ldI .i64 w3 (p6.add 22) fun x7 => bcase (x5 != x7) (Q (.tuple #[.slice none 0 0, .bool false]) w3) (ldI .i64 w3 (g1.add 1) fun x8 => CallR Tryz.prog 45 #[.pointer a0, .int .i64 x8] w3 fun v9 w10 => ∃ (y11 : Bool), v9 = .bool y11 ∧ bcase (!y11) (Q (.tuple #[.slice none 0 0, .bool false]) w10) (X15.j0 Q a0 g1 w10)))
def X15.S (Q : Value → World → Prop) : Segs
  | 0, φ, ρ, w => qP (ρ 0) fun t0 => qA (ρ 3) fun t3 => X15.j0 Q t0 t3 w
  | _, _, _, _ => False
noncomputable def X15.an : Ann := (.seq .leaf (.seq (.seq (.draw [0, 1, 3, 7, 15, 31, 15, 79, 207, 463, 1023, 2047, 4095, 8191, 8191, 24575, 65535, 131071, 262143] [[0, 1, 2, 3, 4, 5, 6, 7, 8, 9, 10, 11, 12, 13, 14, 15, 16, 17, 18]]) (.cond (.seq .leaf .leaf) .leaf)) (.join 0 (.seq .leaf (.seq (.seq .leaf (.cond (.seq (.draw [0, 1, 0, 4, 12, 28, 63, 127, 255, 511, 255, 1279, 3327, 7423, 255, 16639, 64767, 130303, 262143, 524287, 255, 2097151] [[0, 1, 2, 3, 4, 5, 6, 7, 8, 9, 10, 11, 12, 13, 14, 15, 16, 17, 18, 19, 20, 21]]) .leaf) .leaf)) (.seq (.seq .leaf (.block (.seq (.block (.seq (.block (.seq (.block (.seq (.seq (.seq .leaf (.cond .leaf .leaf)) (.seq (.seq .leaf (.cond .leaf .leaf)) (.seq .leaf (.cond .leaf .leaf)))) .leaf)) (.seq (.seq (.draw [0, 1, 0, 4, 0, 16, 51, 115, 255, 511] [[0, 1, 2, 3, 4, 5, 6, 7, 8, 9]]) (.seq .leaf (.seq .leaf (.seq .leaf .leaf)))) .leaf))) (.draw [0, 1, 3, 7, 0, 16, 0, 64, 240, 511] [[0, 1, 2, 3, 4, 5, 6, 7, 8, 9]]))) (.seq (.seq .leaf .leaf) .leaf)))) (.seq .leaf .leaf)))))))
noncomputable def X15.c : Code := Tryz.f15.body.getD .skip
theorem X15.v (Q : Value → World → Prop) : V Tryz.prog (X15.S Q) X15.an X15.c (retC Tryz.prog Tryz.f15 Q) := ⟨trivial, ⟨⟨trivial, ⟨⟨trivial, trivial⟩, trivial⟩⟩, ⟨(by
    intro φ ρ w h
    simp only [X15.S] at h
    obtain ⟨t0, e0, h⟩ := qP_elim h
    obtain ⟨t3, e3, h⟩ := qA_elim h
    exact ⟨((Env.nil.put (some 0) (.pointer t0)).put (some 3) (.pointer (some t3))), Env.le_put e3 (Env.le_put e0 (Env.le_nil _)), Eq.mp (by kernel_rfl) h⟩), ⟨trivial, ⟨⟨trivial, ⟨⟨trivial, trivial⟩, trivial⟩⟩, ⟨⟨trivial, ⟨⟨⟨⟨⟨⟨trivial, ⟨trivial, trivial⟩⟩, ⟨⟨trivial, ⟨trivial, trivial⟩⟩, ⟨trivial, ⟨trivial, trivial⟩⟩⟩⟩, trivial⟩, ⟨⟨trivial, ⟨trivial, ⟨trivial, ⟨trivial, trivial⟩⟩⟩⟩, trivial⟩⟩, trivial⟩, ⟨⟨trivial, trivial⟩, trivial⟩⟩⟩, ⟨trivial, trivial⟩⟩⟩⟩⟩⟩⟩
theorem X15.sound (a0 : Option Addr) (a1_0 : Int) (a1_1 : Int) (a1_2 : Int) (a1_3 : Int) (a1_4 : Int) (a1_5 : Int) (a1_6 : Int) (a1_7 : Int) (a1_8 : Int) (a1_9 : Int) (a1_10p : Option Addr) (a1_10n : Nat) (a1_10c : Nat) (a1_11 : Int) (a1_12 : Int) (a1_13 : Int) (a1_14 : Int) (a1_15 : Int) (a1_16 : Int) (a1_17 : Int) (a1_18p : Option Addr) (a1_18n : Nat) (a1_18c : Nat) (w : World) (Q : Value → World → Prop) (h : X15.f a0 a1_0 a1_1 a1_2 a1_3 a1_4 a1_5 a1_6 a1_7 a1_8 a1_9 a1_10p a1_10n a1_10c a1_11 a1_12 a1_13 a1_14 a1_15 a1_16 a1_17 a1_18p a1_18n a1_18c w Q) : CallR Tryz.prog 15 #[.pointer a0, .agg #[.int .i64 a1_0, .int .i64 a1_1, .int .i64 a1_2, .int .u64 a1_3, .int .u64 a1_4, .int .i64 a1_5, .int .i64 a1_6, .int .i64 a1_7, .int .i64 a1_8, .int .u64 a1_9, .slice a1_10p a1_10n a1_10c, .int .u64 a1_11, .int .i64 a1_12, .int .u64 a1_13, .int .i64 a1_14, .int .u64 a1_15, .int .i64 a1_16, .int .u64 a1_17, .slice a1_18p a1_18n a1_18c]] w Q :=
  fn_sound noGr mixed Tryz.func15 (c := X15.c) (an := X15.an) (S := X15.S Q) (φ := fun _ => 0) (args := [.pointer a0, .agg #[.int .i64 a1_0, .int .i64 a1_1, .int .i64 a1_2, .int .u64 a1_3, .int .u64 a1_4, .int .i64 a1_5, .int .i64 a1_6, .int .i64 a1_7, .int .i64 a1_8, .int .u64 a1_9, .slice a1_10p a1_10n a1_10c, .int .u64 a1_11, .int .i64 a1_12, .int .u64 a1_13, .int .i64 a1_14, .int .u64 a1_15, .int .i64 a1_16, .int .u64 a1_17, .slice a1_18p a1_18n a1_18c]]) (by kernel_rfl) (by kernel_rfl) (by kernel_rfl) (X15.v Q) (Eq.mp (by kernel_rfl) h)
/-! ### (*mooring/caller.Table).Floor: function 31 -/
def X31.f (a0 : Option Addr) (a1 : Int) (w : World) (Q : Value → World → Prop) : Prop := CallR Tryz.prog 45 #[.pointer a0, .int .i64 a1] w fun v1 w2 => ∃ (y3 : Bool), v1 = .bool y3 ∧ bcase (!y3) (Q (.int .u64 (0 : Int)) w2) (drewK w2 fun w4 => optP a0 fun p5 => ldP w4 (p5.add 25) fun x6 => CallR Tryz.prog 48 #[.int .i64 a1, .int .u64 (0 : Int)] w4 fun v7 w8 => ∃ (y9 : Int), v7 = .int .u64 y9 ∧ (World.cell? w4 (p5.add 25) = some (.pointer x6) ∧ World.cell? w8 (p5.add 25) = some (.pointer x6)) ∧ CallR Tryz.prog 65 #[.pointer x6, .int .u64 y9] w8 fun v10 w11 => ∃ (y12 : Int) (y13 : Bool), v10 = .tuple #[.int .u64 y12, .bool y13] ∧ bcase (!y13) (optP a0 fun p14 => ldSl w11 (p14.add 24) fun x15p x15n x15c => (0 ≤ a1 ∧ a1 < ((x15n : Nat) : Int)) ∧ optP x15p fun p16 => ldI .u64 w11 (p16.add (Int.toNat a1 * 1)) fun x17 => Q (.int .u64 (IntKind.wrap .u64 (x17 + (1 : Int)))) w11) (0 ≤ (56 : Int) ∧ bcase ((IntKind.wrap .i64 (iShr .u64 y12 (56 : Int))) != a1) (optP a0 fun p18 => ldSl w11 (p18.add 24) fun x19p x19n x19c => (0 ≤ a1 ∧ a1 < ((x19n : Nat) : Int)) ∧ optP x19p fun p20 => ldI .u64 w11 (p20.add (Int.toNat a1 * 1)) fun x21 => Q (.int .u64 (IntKind.wrap .u64 (x21 + (1 : Int)))) w11) (Q (.int .u64 (iAnd .u64 y12 (72057594037927935 : Int))) w11)))
def X31.S (Q : Value → World → Prop) : Segs
  | _, _, _, _ => False
noncomputable def X31.an : Ann := (.seq .leaf (.seq (.seq .leaf (.cond (.seq .leaf .leaf) .leaf)) (.seq (.draw [0, 1, 3, 7, 0, 16, 63, 127, 255, 255, 511, 2047] [[0, 1, 2, 3, 4, 5, 6, 7, 8, 9, 10, 11]]) (.seq (.seq .leaf (.cond (.seq .leaf .leaf) .leaf)) (.seq .leaf .leaf)))))
noncomputable def X31.c : Code := Tryz.f31.body.getD .skip
theorem X31.v (Q : Value → World → Prop) : V Tryz.prog (X31.S Q) X31.an X31.c (retC Tryz.prog Tryz.f31 Q) := ⟨trivial, ⟨⟨trivial, ⟨⟨trivial, trivial⟩, trivial⟩⟩, ⟨trivial, ⟨⟨trivial, ⟨⟨trivial, trivial⟩, trivial⟩⟩, ⟨trivial, trivial⟩⟩⟩⟩⟩
theorem X31.sound (a0 : Option Addr) (a1 : Int) (w : World) (Q : Value → World → Prop) (h : X31.f a0 a1 w Q) : CallR Tryz.prog 31 #[.pointer a0, .int .i64 a1] w Q :=
  fn_sound noGr mixed Tryz.func31 (c := X31.c) (an := X31.an) (S := X31.S Q) (φ := fun _ => 0) (args := [.pointer a0, .int .i64 a1]) (by kernel_rfl) (by kernel_rfl) (by kernel_rfl) (X31.v Q) (Eq.mp (by kernel_rfl) h)
/-! ### (*mooring/caller.Table).All: function 28 -/
def X28.l0 (Q : Value → World → Prop) : Nat → (Option Addr) → (Option Addr) → Nat → Nat → (Option Addr) → Nat → Nat → Int → Int → World → Prop
  | 0, _, _, _, _, _, _, _, _, _, _ => False
  | k + 1, t0, t3p, t3n, t3c, t12p, t12n, t12c, t13, t14, w => bcase (decide (t14 < t13)) ((0 ≤ t14 ∧ t14 < ((t12n : Nat) : Int)) ∧ optP t12p fun p1 => ldI .u64 w (p1.add (Int.toNat t14 * 1)) fun x2 => optP t0 fun p3 => ldP w (p3.add 25) fun x4 => CallR Tryz.prog 42 #[.pointer x4, .int .u64 x2] w fun v5 w6 => ∃ (y7 : Int) (y8 : Int) (y9 : Int) (y10 : Int) (y11 : Int) (y12 : Int) (y13p : Option Addr) (y13n y13c : Nat) (y14 : Int) (y15 : Int) (y16 : Int) (y17p : Option Addr) (y17n y17c : Nat) (y18 : Int) (y19 : Int) (y20 : Int) (y21 : Int) (y22 : Bool), v5 = .tuple #[.agg #[.int .i64 y7, .int .u64 y8, .int .i64 y9, .int .i64 y10, .int .i64 y11, .int .u64 y12, .slice y13p y13n y13c, .int .u64 y14, .int .i64 y15, .int .i64 y16, .slice y17p y17n y17c, .int .u64 y18, .int .u64 y19, .int .u64 y20, .int .u64 y21], .bool y22] ∧ newK w6 #[.int .i64 (0 : Int), .int .u64 (0 : Int), .int .i64 (0 : Int), .int .i64 (0 : Int), .int .i64 (0 : Int), .int .u64 (0 : Int), .slice none 0 0, .int .u64 (0 : Int), .int .i64 (0 : Int), .int .i64 (0 : Int), .slice none 0 0, .int .u64 (0 : Int), .int .u64 (0 : Int), .int .u64 (0 : Int), .int .u64 (0 : Int)] 50 fun g23 w24 => stAll w24 g23 [.int .i64 y7, .int .u64 y8, .int .i64 y9, .int .i64 y10, .int .i64 y11, .int .u64 y12, .slice y13p y13n y13c, .int .u64 y14, .int .i64 y15, .int .i64 y16, .slice y17p y17n y17c, .int .u64 y18, .int .u64 y19, .int .u64 y20, .int .u64 y21] fun w25 => ldI .i64 w25 (g23.add 0) fun x26 => ldI .u64 w25 (g23.add 1) fun x27 => ldI .i64 w25 (g23.add 2) fun x28 => ldI .i64 w25 (g23.add 3) fun x29 => ldI .i64 w25 (g23.add 4) fun x30 => ldI .u64 w25 (g23.add 5) fun x31 => ldSl w25 (g23.add 6) fun x32p x32n x32c => ldI .u64 w25 (g23.add 7) fun x33 => ldI .i64 w25 (g23.add 8) fun x34 => ldI .i64 w25 (g23.add 9) fun x35 => ldSl w25 (g23.add 10) fun x36p x36n x36c => ldI .u64 w25 (g23.add 11) fun x37 => ldI .u64 w25 (g23.add 12) fun x38 => ldI .u64 w25 (g23.add 13) fun x39 => ldI .u64 w25 (g23.add 14) fun x40 => CallR Tryz.prog 36 #[.agg #[.int .i64 x26, .int .u64 x27, .int .i64 x28, .int .i64 x29, .int .i64 x30, .int .u64 x31, .slice x32p x32n x32c, .int .u64 x33, .int .i64 x34, .int .i64 x35, .slice x36p x36n x36c, .int .u64 x37, .int .u64 x38, .int .u64 x39, .int .u64 x40]] w25 fun v41 w42 => ∃ (y43 : Int) (y44 : Int) (y45 : Int) (y46 : Int) (y47 : Int) (y48 : Int) (y49p : Option Addr) (y49n y49c : Nat) (y50 : Int) (y51 : Int) (y52 : Int) (y53p : Option Addr) (y53n y53c : Nat) (y54 : Int) (y55 : Int) (y56 : Int) (y57 : Int), v41 = .agg #[.int .i64 y43, .int .u64 y44, .int .i64 y45, .int .i64 y46, .int .i64 y47, .int .u64 y48, .slice y49p y49n y49c, .int .u64 y50, .int .i64 y51, .int .i64 y52, .slice y53p y53n y53c, .int .u64 y54, .int .u64 y55, .int .u64 y56, .int .u64 y57] ∧ newK w42 #[.int .i64 y43, .int .u64 y44, .int .i64 y45, .int .i64 y46, .int .i64 y47, .int .u64 y48, .slice y49p y49n y49c, .int .u64 y50, .int .i64 y51, .int .i64 y52, .slice y53p y53n y53c, .int .u64 y54, .int .u64 y55, .int .u64 y56, .int .u64 y57] 50 fun g58 w59 => RunR Tryz.prog (Builtin.append_ #[55, 55] 55 #[.slice t3p t3n t3c, .slice (some g58) 1 1]) w59 fun v60 w61 => ∃ (s62p : Option Addr) (s62n s62c : Nat), v60 = .slice s62p s62n s62c ∧ X28.l0 Q k t0 s62p s62n s62c t12p t12n t12c t13 (IntKind.wrap .i64 (t14 + (1 : Int))) w61) (Q (.slice t3p t3n t3c) w)
def X28.f (a0 : Option Addr) (w : World) (Q : Value → World → Prop) : Prop := optP a0 fun p1 => ldP w (p1.add 25) fun x2 => CallR Tryz.prog 62 #[.pointer x2] w fun v3 w4 => ∃ (y5p : Option Addr) (y5n y5c : Nat), v3 = .slice y5p y5n y5c ∧ ∃ m6, X28.l0 Q m6 a0 none 0 0 y5p y5n y5c ((y5n : Nat) : Int) (0 : Int) w4
def X28.S (Q : Value → World → Prop) : Segs
  | 0, φ, ρ, w => qP (ρ 0) fun t0 => qSl (ρ 3) fun t3p t3n t3c => qSl (ρ 12) fun t12p t12n t12c => qI .i64 (ρ 13) fun t13 => qI .i64 (ρ 14) fun t14 => X28.l0 Q (φ 0) t0 t3p t3n t3c t12p t12n t12c t13 t14 w
  | _, _, _, _ => False
noncomputable def X28.an : Ann := (.seq .leaf (.seq .leaf (.seq (.seq .leaf (.block (.loop 0 (.seq .leaf (.seq (.cond .leaf .leaf) (.seq (.block (.seq .leaf (.seq .leaf .leaf))) .leaf)))))) (.seq .leaf .leaf))))
noncomputable def X28.c : Code := Tryz.f28.body.getD .skip
theorem X28.v (Q : Value → World → Prop) : V Tryz.prog (X28.S Q) X28.an X28.c (retC Tryz.prog Tryz.f28 Q) := ⟨trivial, ⟨trivial, ⟨⟨trivial, ⟨(by
    intro φ ρ w h
    simp only [X28.S] at h
    obtain ⟨t0, e0, h⟩ := qP_elim h
    obtain ⟨t3p, t3n, t3c, e3, h⟩ := qSl_elim h
    obtain ⟨t12p, t12n, t12c, e12, h⟩ := qSl_elim h
    obtain ⟨t13, e13, h⟩ := qI_elim h
    obtain ⟨t14, e14, h⟩ := qI_elim h
    cases hk : φ 0 with
    | zero => rw [hk] at h; exact h.elim
    | succ k => rw [hk] at h; exact ⟨k, Nat.lt_succ_self k, (((((Env.nil.put (some 0) (.pointer t0)).put (some 3) (.slice t3p t3n t3c)).put (some 12) (.slice t12p t12n t12c)).put (some 13) (.int .i64 t13)).put (some 14) (.int .i64 t14)), Env.le_put e14 (Env.le_put e13 (Env.le_put e12 (Env.le_put e3 (Env.le_put e0 (Env.le_nil _))))), Eq.mp (by kernel_rfl) h⟩), ⟨trivial, ⟨⟨trivial, trivial⟩, ⟨⟨trivial, ⟨trivial, trivial⟩⟩, trivial⟩⟩⟩⟩⟩, ⟨trivial, trivial⟩⟩⟩⟩
theorem X28.sound (a0 : Option Addr) (w : World) (Q : Value → World → Prop) (h : X28.f a0 w Q) : CallR Tryz.prog 28 #[.pointer a0] w Q :=
  fn_sound noGr mixed Tryz.func28 (c := X28.c) (an := X28.an) (S := X28.S Q) (φ := fun _ => 0) (args := [.pointer a0]) (by kernel_rfl) (by kernel_rfl) (by kernel_rfl) (X28.v Q) (Eq.mp (by kernel_rfl) h)
/-! ### (*mooring/caller.Table).Held: function 29 -/
def X29.l1 (Q : Value → World → Prop) (b0 : Option Addr → Nat → Nat → Option Addr → Nat → Nat → Int → Int → World → Prop) : Nat → (Option Addr) → Nat → Nat → (Option Addr) → Nat → Nat → Int → Int → (Option Addr) → Nat → Nat → Int → Int → World → Prop
  | 0, _, _, _, _, _, _, _, _, _, _, _, _, _, _ => False
  | k + 1, t3p, t3n, t3c, t10p, t10n, t10c, t11, t12, t26p, t26n, t26c, t27, t28, w => bcase (decide (t28 < t27)) ((0 ≤ t28 ∧ t28 < ((t26n : Nat) : Int)) ∧ optP t26p fun p1 => ldI .i64 w ((p1.add (Int.toNat t28 * 2)).add 0) fun x2 => ldI .u64 w ((p1.add (Int.toNat t28 * 2)).add 1) fun x3 => newK w #[.int .i64 (0 : Int), .int .u64 (0 : Int)] 37 fun g4 w5 => stAll w5 g4 [.int .i64 x2, .int .u64 x3] fun w6 => ldI .i64 w6 (g4.add 0) fun x7 => ldI .u64 w6 (g4.add 1) fun x8 => isStruct Tryz.prog 37 ∧ bcase (!((x7 == (0 : Int)) && ((x8 == (0 : Int)) && true))) (ldI .i64 w6 (g4.add 0) fun x9 => ldI .u64 w6 (g4.add 1) fun x10 => newK w6 #[.int .i64 x9, .int .u64 x10] 37 fun g11 w12 => RunR Tryz.prog (Builtin.append_ #[38, 38] 38 #[.slice t3p t3n t3c, .slice (some g11) 1 1]) w12 fun v13 w14 => ∃ (s15p : Option Addr) (s15n s15c : Nat), v13 = .slice s15p s15n s15c ∧ X29.l1 Q b0 k s15p s15n s15c t10p t10n t10c t11 t12 t26p t26n t26c t27 (IntKind.wrap .i64 (t28 + (1 : Int))) w14) (X29.l1 Q b0 k t3p t3n t3c t10p t10n t10c t11 t12 t26p t26n t26c t27 (IntKind.wrap .i64 (t28 + (1 : Int))) w6)) (b0 t3p t3n t3c t10p t10n t10c t11 (IntKind.wrap .i64 (t12 + (1 : Int))) w)
def X29.j2 (Q : Value → World → Prop) (b0 : Option Addr → Nat → Nat → Option Addr → Nat → Nat → Int → Int → World → Prop) (t3p : Option Addr) (t3n : Nat) (t3c : Nat) (t6p : Option Addr) (t6n : Nat) (t6c : Nat) (t10p : Option Addr) (t10n : Nat) (t10c : Nat) (t11 : Int) (t12 : Int) (w : World) : Prop := ∃ m1, X29.l1 Q b0 m1 t3p t3n t3c t10p t10n t10c t11 t12 t6p t6n t6c ((t6n : Nat) : Int) (0 : Int) w
def X29.l0 (Q : Value → World → Prop) : Nat → (Option Addr) → Nat → Nat → (Option Addr) → Nat → Nat → Int → Int → World → Prop
  | 0, _, _, _, _, _, _, _, _, _ => False
  | k + 1, t3p, t3n, t3c, t10p, t10n, t10c, t11, t12, w => bcase (decide (t12 < t11)) ((0 ≤ t12 ∧ t12 < ((t10n : Nat) : Int)) ∧ optP t10p fun p1 => ldI .i64 w ((p1.add (Int.toNat t12 * 15)).add 0) fun x2 => ldI .u64 w ((p1.add (Int.toNat t12 * 15)).add 1) fun x3 => ldI .i64 w ((p1.add (Int.toNat t12 * 15)).add 2) fun x4 => ldI .i64 w ((p1.add (Int.toNat t12 * 15)).add 3) fun x5 => ldI .i64 w ((p1.add (Int.toNat t12 * 15)).add 4) fun x6 => ldI .u64 w ((p1.add (Int.toNat t12 * 15)).add 5) fun x7 => ldSl w ((p1.add (Int.toNat t12 * 15)).add 6) fun x8p x8n x8c => ldI .u64 w ((p1.add (Int.toNat t12 * 15)).add 7) fun x9 => ldI .i64 w ((p1.add (Int.toNat t12 * 15)).add 8) fun x10 => ldI .i64 w ((p1.add (Int.toNat t12 * 15)).add 9) fun x11 => ldSl w ((p1.add (Int.toNat t12 * 15)).add 10) fun x12p x12n x12c => ldI .u64 w ((p1.add (Int.toNat t12 * 15)).add 11) fun x13 => ldI .u64 w ((p1.add (Int.toNat t12 * 15)).add 12) fun x14 => ldI .u64 w ((p1.add (Int.toNat t12 * 15)).add 13) fun x15 => ldI .u64 w ((p1.add (Int.toNat t12 * 15)).add 14) fun x16 => newK w #[.int .i64 (0 : Int), .int .u64 (0 : Int), .int .i64 (0 : Int), .int .i64 (0 : Int), .int .i64 (0 : Int), .int .u64 (0 : Int), .slice none 0 0, .int .u64 (0 : Int), .int .i64 (0 : Int), .int .i64 (0 : Int), .slice none 0 0, .int .u64 (0 : Int), .int .u64 (0 : Int), .int .u64 (0 : Int), .int .u64 (0 : Int)] 50 fun g17 w18 => stAll w18 g17 [.int .i64 x2, .int .u64 x3, .int .i64 x4, .int .i64 x5, .int .i64 x6, .int .u64 x7, .slice x8p x8n x8c, .int .u64 x9, .int .i64 x10, .int .i64 x11, .slice x12p x12n x12c, .int .u64 x13, .int .u64 x14, .int .u64 x15, .int .u64 x16] fun w19 => ldSl w19 (g17.add 10) fun x20p x20n x20c => ldI .i64 w19 (g17.add 0) fun x21 => ldI .u64 w19 (g17.add 1) fun x22 => ldI .i64 w19 (g17.add 2) fun x23 => ldI .i64 w19 (g17.add 3) fun x24 => ldI .i64 w19 (g17.add 4) fun x25 => ldI .u64 w19 (g17.add 5) fun x26 => ldSl w19 (g17.add 6) fun x27p x27n x27c => ldI .u64 w19 (g17.add 7) fun x28 => ldI .i64 w19 (g17.add 8) fun x29 => ldI .i64 w19 (g17.add 9) fun x30 => ldSl w19 (g17.add 10) fun x31p x31n x31c => ldI .u64 w19 (g17.add 11) fun x32 => ldI .u64 w19 (g17.add 12) fun x33 => ldI .u64 w19 (g17.add 13) fun x34 => ldI .u64 w19 (g17.add 14) fun x35 => CallR Tryz.prog 63 #[.agg #[.int .i64 x21, .int .u64 x22, .int .i64 x23, .int .i64 x24, .int .i64 x25, .int .u64 x26, .slice x27p x27n x27c, .int .u64 x28, .int .i64 x29, .int .i64 x30, .slice x31p x31n x31c, .int .u64 x32, .int .u64 x33, .int .u64 x34, .int .u64 x35]] w19 fun v36 w37 => ∃ (y38 : Bool), v36 = .bool y38 ∧ bcase y38 (ldI .i64 w37 ((g17.add 4).add 0) fun x39 => ldI .u64 w37 ((g17.add 4).add 1) fun x40 => newK w37 #[.int .i64 x39, .int .u64 x40] 37 fun g41 w42 => ldSl w42 (g17.add 6) fun x43p x43n x43c => RunR Tryz.prog (Builtin.append_ #[38, 38] 38 #[.slice (some g41) 1 1, .slice x43p x43n x43c]) w42 fun v44 w45 => ∃ (s46p : Option Addr) (s46n s46c : Nat), v44 = .slice s46p s46n s46c ∧ X29.j2 Q (X29.l0 Q k) t3p t3n t3c s46p s46n s46c t10p t10n t10c t11 t12 w45) (X29.j2 Q (X29.l0 Q k) t3p t3n t3c x20p x20n x20c t10p t10n t10c t11 t12 w37)) (Q (.slice t3p t3n t3c) w)
def X29.f (a0 : Option Addr) (w : World) (Q : Value → World → Prop) : Prop := CallR Tryz.prog 28 #[.pointer a0] w fun v1 w2 => ∃ (y3p : Option Addr) (y3n y3c : Nat), v1 = .slice y3p y3n y3c ∧ ∃ m4, X29.l0 Q m4 none 0 0 y3p y3n y3c ((y3n : Nat) : Int) (0 : Int) w2
def X29.S (Q : Value → World → Prop) : Segs
  | 0, φ, ρ, w => qSl (ρ 3) fun t3p t3n t3c => qSl (ρ 10) fun t10p t10n t10c => qI .i64 (ρ 11) fun t11 => qI .i64 (ρ 12) fun t12 => X29.l0 Q (φ 0) t3p t3n t3c t10p t10n t10c t11 t12 w
  | 1, φ, ρ, w => qSl (ρ 3) fun t3p t3n t3c => qSl (ρ 10) fun t10p t10n t10c => qI .i64 (ρ 11) fun t11 => qI .i64 (ρ 12) fun t12 => qSl (ρ 26) fun t26p t26n t26c => qI .i64 (ρ 27) fun t27 => qI .i64 (ρ 28) fun t28 => X29.l1 Q (X29.l0 Q (φ 0)) (φ 1) t3p t3n t3c t10p t10n t10c t11 t12 t26p t26n t26c t27 t28 w
  | 2, φ, ρ, w => qSl (ρ 3) fun t3p t3n t3c => qSl (ρ 6) fun t6p t6n t6c => qSl (ρ 10) fun t10p t10n t10c => qI .i64 (ρ 11) fun t11 => qI .i64 (ρ 12) fun t12 => X29.j2 Q (X29.l0 Q (φ 0)) t3p t3n t3c t6p t6n t6c t10p t10n t10c t11 t12 w
  | _, _, _, _ => False
noncomputable def X29.an : Ann := (.seq .leaf (.seq .leaf (.seq (.seq .leaf (.block (.loop 0 (.seq .leaf (.seq (.cond .leaf .leaf) (.seq (.block (.seq .leaf (.seq .leaf (.seq (.seq .leaf (.cond .leaf .leaf)) (.join 2 (.seq .leaf (.block (.loop 1 (.seq .leaf (.seq (.cond .leaf .leaf) (.seq (.block (.seq .leaf (.seq .leaf (.cond .leaf .leaf)))) .leaf))))))))))) .leaf)))))) (.seq .leaf .leaf))))
noncomputable def X29.c : Code := Tryz.f29.body.getD .skip
theorem X29.v (Q : Value → World → Prop) : V Tryz.prog (X29.S Q) X29.an X29.c (retC Tryz.prog Tryz.f29 Q) := ⟨trivial, ⟨trivial, ⟨⟨trivial, ⟨(by
    intro φ ρ w h
    simp only [X29.S] at h
    obtain ⟨t3p, t3n, t3c, e3, h⟩ := qSl_elim h
    obtain ⟨t10p, t10n, t10c, e10, h⟩ := qSl_elim h
    obtain ⟨t11, e11, h⟩ := qI_elim h
    obtain ⟨t12, e12, h⟩ := qI_elim h
    cases hk : φ 0 with
    | zero => rw [hk] at h; exact h.elim
    | succ k => rw [hk] at h; exact ⟨k, Nat.lt_succ_self k, ((((Env.nil.put (some 3) (.slice t3p t3n t3c)).put (some 10) (.slice t10p t10n t10c)).put (some 11) (.int .i64 t11)).put (some 12) (.int .i64 t12)), Env.le_put e12 (Env.le_put e11 (Env.le_put e10 (Env.le_put e3 (Env.le_nil _)))), Eq.mp (by kernel_rfl) h⟩), ⟨trivial, ⟨⟨trivial, trivial⟩, ⟨⟨trivial, ⟨trivial, ⟨⟨trivial, ⟨trivial, trivial⟩⟩, ⟨(by
    intro φ ρ w h
    simp only [X29.S] at h
    obtain ⟨t3p, t3n, t3c, e3, h⟩ := qSl_elim h
    obtain ⟨t6p, t6n, t6c, e6, h⟩ := qSl_elim h
    obtain ⟨t10p, t10n, t10c, e10, h⟩ := qSl_elim h
    obtain ⟨t11, e11, h⟩ := qI_elim h
    obtain ⟨t12, e12, h⟩ := qI_elim h
    exact ⟨(((((Env.nil.put (some 3) (.slice t3p t3n t3c)).put (some 6) (.slice t6p t6n t6c)).put (some 10) (.slice t10p t10n t10c)).put (some 11) (.int .i64 t11)).put (some 12) (.int .i64 t12)), Env.le_put e12 (Env.le_put e11 (Env.le_put e10 (Env.le_put e6 (Env.le_put e3 (Env.le_nil _))))), Eq.mp (by kernel_rfl) h⟩), ⟨trivial, ⟨(by
    intro φ ρ w h
    simp only [X29.S] at h
    obtain ⟨t3p, t3n, t3c, e3, h⟩ := qSl_elim h
    obtain ⟨t10p, t10n, t10c, e10, h⟩ := qSl_elim h
    obtain ⟨t11, e11, h⟩ := qI_elim h
    obtain ⟨t12, e12, h⟩ := qI_elim h
    obtain ⟨t26p, t26n, t26c, e26, h⟩ := qSl_elim h
    obtain ⟨t27, e27, h⟩ := qI_elim h
    obtain ⟨t28, e28, h⟩ := qI_elim h
    cases hk : φ 1 with
    | zero => rw [hk] at h; exact h.elim
    | succ k => rw [hk] at h; exact ⟨k, Nat.lt_succ_self k, (((((((Env.nil.put (some 3) (.slice t3p t3n t3c)).put (some 10) (.slice t10p t10n t10c)).put (some 11) (.int .i64 t11)).put (some 12) (.int .i64 t12)).put (some 26) (.slice t26p t26n t26c)).put (some 27) (.int .i64 t27)).put (some 28) (.int .i64 t28)), Env.le_put e28 (Env.le_put e27 (Env.le_put e26 (Env.le_put e12 (Env.le_put e11 (Env.le_put e10 (Env.le_put e3 (Env.le_nil _))))))), Eq.mp (by kernel_rfl) h⟩), ⟨trivial, ⟨⟨trivial, trivial⟩, ⟨⟨trivial, ⟨trivial, ⟨trivial, trivial⟩⟩⟩, trivial⟩⟩⟩⟩⟩⟩⟩⟩⟩, trivial⟩⟩⟩⟩⟩, ⟨trivial, trivial⟩⟩⟩⟩
theorem X29.sound (a0 : Option Addr) (w : World) (Q : Value → World → Prop) (h : X29.f a0 w Q) : CallR Tryz.prog 29 #[.pointer a0] w Q :=
  fn_sound noGr mixed Tryz.func29 (c := X29.c) (an := X29.an) (S := X29.S Q) (φ := fun _ => 0) (args := [.pointer a0]) (by kernel_rfl) (by kernel_rfl) (by kernel_rfl) (X29.v Q) (Eq.mp (by kernel_rfl) h)
/-! ### (*mooring/caller.Table).Await: function 17 -/
def X17.j0 (Q : Value → World → Prop) (t0 : Option Addr) (t1 : Int) (t2 : Int) (t3 : Int) (t8 : Addr) (t11 : Addr) (t20 : Bool) (w : World) : Prop := bcase t20 (stAll w t8 [.int .i64 (0 : Int), .int .u64 (0 : Int), .int .i64 (0 : Int), .int .i64 (0 : Int), .int .i64 (0 : Int), .int .u64 (0 : Int), .slice none 0 0, .int .u64 (0 : Int), .int .i64 (0 : Int), .int .i64 (0 : Int), .slice none 0 0, .int .u64 (0 : Int), .int .u64 (0 : Int), .int .u64 (0 : Int), .int .u64 (0 : Int)] fun w1 => ldI .i64 w1 (t8.add 0) fun x2 => ldI .u64 w1 (t8.add 1) fun x3 => ldI .i64 w1 (t8.add 2) fun x4 => ldI .i64 w1 (t8.add 3) fun x5 => ldI .i64 w1 (t8.add 4) fun x6 => ldI .u64 w1 (t8.add 5) fun x7 => ldSl w1 (t8.add 6) fun x8p x8n x8c => ldI .u64 w1 (t8.add 7) fun x9 => ldI .i64 w1 (t8.add 8) fun x10 => ldI .i64 w1 (t8.add 9) fun x11 => ldSl w1 (t8.add 10) fun x12p x12n x12c => ldI .u64 w1 (t8.add 11) fun x13 => ldI .u64 w1 (t8.add 12) fun x14 => ldI .u64 w1 (t8.add 13) fun x15 => ldI .u64 w1 (t8.add 14) fun x16 => Q (.tuple #[.agg #[.int .i64 x2, .int .u64 x3, .int .i64 x4, .int .i64 x5, .int .i64 x6, .int .u64 x7, .slice x8p x8n x8c, .int .u64 x9, .int .i64 x10, .int .i64 x11, .slice x12p x12n x12c, .int .u64 x13, .int .u64 x14, .int .u64 x15, .int .u64 x16], .bool false, .int .i64 (5 : Int)]) w1) (ldI .i64 w (t11.add 8) fun x17 => bcase (x17 == (3 : Int)) (drewK w fun w18 => optP t0 fun p19 => ldP w18 (p19.add 25) fun x20 => CallR Tryz.prog 48 #[.int .i64 t1, .int .u64 t2] w18 fun v21 w22 => ∃ (y23 : Int), v21 = .int .u64 y23 ∧ (World.cell? w18 (p19.add 25) = some (.pointer x20) ∧ World.cell? w22 (p19.add 25) = some (.pointer x20)) ∧ CallR Tryz.prog 47 #[.pointer x20, .int .u64 y23] w22 fun v24 w25 => ∃ (y26 : Bool), v24 = .bool y26 ∧ ldI .i64 w25 (t11.add 0) fun x27 => ldI .u64 w25 (t11.add 1) fun x28 => ldI .i64 w25 (t11.add 2) fun x29 => ldI .i64 w25 (t11.add 3) fun x30 => ldI .i64 w25 (t11.add 4) fun x31 => ldI .u64 w25 (t11.add 5) fun x32 => ldSl w25 (t11.add 6) fun x33p x33n x33c => ldI .u64 w25 (t11.add 7) fun x34 => ldI .i64 w25 (t11.add 8) fun x35 => ldI .i64 w25 (t11.add 9) fun x36 => ldSl w25 (t11.add 10) fun x37p x37n x37c => ldI .u64 w25 (t11.add 11) fun x38 => ldI .u64 w25 (t11.add 12) fun x39 => ldI .u64 w25 (t11.add 13) fun x40 => ldI .u64 w25 (t11.add 14) fun x41 => CallR Tryz.prog 36 #[.agg #[.int .i64 x27, .int .u64 x28, .int .i64 x29, .int .i64 x30, .int .i64 x31, .int .u64 x32, .slice x33p x33n x33c, .int .u64 x34, .int .i64 x35, .int .i64 x36, .slice x37p x37n x37c, .int .u64 x38, .int .u64 x39, .int .u64 x40, .int .u64 x41]] w25 fun v42 w43 => ∃ (y44 : Int) (y45 : Int) (y46 : Int) (y47 : Int) (y48 : Int) (y49 : Int) (y50p : Option Addr) (y50n y50c : Nat) (y51 : Int) (y52 : Int) (y53 : Int) (y54p : Option Addr) (y54n y54c : Nat) (y55 : Int) (y56 : Int) (y57 : Int) (y58 : Int), v42 = .agg #[.int .i64 y44, .int .u64 y45, .int .i64 y46, .int .i64 y47, .int .i64 y48, .int .u64 y49, .slice y50p y50n y50c, .int .u64 y51, .int .i64 y52, .int .i64 y53, .slice y54p y54n y54c, .int .u64 y55, .int .u64 y56, .int .u64 y57, .int .u64 y58] ∧ stAll w43 t8 [.int .i64 y44, .int .u64 y45, .int .i64 y46, .int .i64 y47, .int .i64 y48, .int .u64 y49, .slice y50p y50n y50c, .int .u64 y51, .int .i64 y52, .int .i64 y53, .slice y54p y54n y54c, .int .u64 y55, .int .u64 y56, .int .u64 y57, .int .u64 y58] fun w59 => ldI .i64 w59 (t8.add 0) fun x60 => ldI .u64 w59 (t8.add 1) fun x61 => ldI .i64 w59 (t8.add 2) fun x62 => ldI .i64 w59 (t8.add 3) fun x63 => ldI .i64 w59 (t8.add 4) fun x64 => ldI .u64 w59 (t8.add 5) fun x65 => ldSl w59 (t8.add 6) fun x66p x66n x66c => ldI .u64 w59 (t8.add 7) fun x67 => ldI .i64 w59 (t8.add 8) fun x68 => ldI .i64 w59 (t8.add 9) fun x69 => ldSl w59 (t8.add 10) fun x70p x70n x70c => ldI .u64 w59 (t8.add 11) fun x71 => ldI .u64 w59 (t8.add 12) fun x72 => ldI .u64 w59 (t8.add 13) fun x73 => ldI .u64 w59 (t8.add 14) fun x74 => Q (.tuple #[.agg #[.int .i64 x60, .int .u64 x61, .int .i64 x62, .int .i64 x63, .int .i64 x64, .int .u64 x65, .slice x66p x66n x66c, .int .u64 x67, .int .i64 x68, .int .i64 x69, .slice x70p x70n x70c, .int .u64 x71, .int .u64 x72, .int .u64 x73, .int .u64 x74], .bool false, .int .i64 (0 : Int)]) w59) (drewK w fun w75 => ldI .u64 w75 (t11.add 14) fun x76 => optP t0 fun p77 => ldI .u64 w75 ((p77.add 0).add 16) fun x78 => CallR Tryz.prog 43 #[.int .u64 x76, .int .u64 x78, .int .u64 t3] w75 fun v79 w80 => ∃ (y81 : Bool), v79 = .bool y81 ∧ bcase (!y81) (stAll w80 t8 [.int .i64 (0 : Int), .int .u64 (0 : Int), .int .i64 (0 : Int), .int .i64 (0 : Int), .int .i64 (0 : Int), .int .u64 (0 : Int), .slice none 0 0, .int .u64 (0 : Int), .int .i64 (0 : Int), .int .i64 (0 : Int), .slice none 0 0, .int .u64 (0 : Int), .int .u64 (0 : Int), .int .u64 (0 : Int), .int .u64 (0 : Int)] fun w82 => ldI .i64 w82 (t8.add 0) fun x83 => ldI .u64 w82 (t8.add 1) fun x84 => ldI .i64 w82 (t8.add 2) fun x85 => ldI .i64 w82 (t8.add 3) fun x86 => ldI .i64 w82 (t8.add 4) fun x87 => ldI .u64 w82 (t8.add 5) fun x88 => ldSl w82 (t8.add 6) fun x89p x89n x89c => ldI .u64 w82 (t8.add 7) fun x90 => ldI .i64 w82 (t8.add 8) fun x91 => ldI .i64 w82 (t8.add 9) fun x92 => ldSl w82 (t8.add 10) fun x93p x93n x93c => ldI .u64 w82 (t8.add 11) fun x94 => ldI .u64 w82 (t8.add 12) fun x95 => ldI .u64 w82 (t8.add 13) fun x96 => ldI .u64 w82 (t8.add 14) fun x97 => Q (.tuple #[.agg #[.int .i64 x83, .int .u64 x84, .int .i64 x85, .int .i64 x86, .int .i64 x87, .int .u64 x88, .slice x89p x89n x89c, .int .u64 x90, .int .i64 x91, .int .i64 x92, .slice x93p x93n x93c, .int .u64 x94, .int .u64 x95, .int .u64 x96, .int .u64 x97], .bool false, .int .i64 (8 : Int)]) w82) (ldI .i64 w80 (t11.add 8) fun x98 => bcase (x98 == (2 : Int)) (drewK w80 fun w99 => optP t0 fun p100 => ldP w99 (p100.add 25) fun x101 => CallR Tryz.prog 48 #[.int .i64 t1, .int .u64 t2] w99 fun v102 w103 => ∃ (y104 : Int), v102 = .int .u64 y104 ∧ (World.cell? w99 (p100.add 25) = some (.pointer x101) ∧ World.cell? w103 (p100.add 25) = some (.pointer x101)) ∧ CallR Tryz.prog 47 #[.pointer x101, .int .u64 y104] w103 fun v105 w106 => ∃ (y107 : Bool), v105 = .bool y107 ∧ stAll w106 t8 [.int .i64 (0 : Int), .int .u64 (0 : Int), .int .i64 (0 : Int), .int .i64 (0 : Int), .int .i64 (0 : Int), .int .u64 (0 : Int), .slice none 0 0, .int .u64 (0 : Int), .int .i64 (0 : Int), .int .i64 (0 : Int), .slice none 0 0, .int .u64 (0 : Int), .int .u64 (0 : Int), .int .u64 (0 : Int), .int .u64 (0 : Int)] fun w108 => ldI .i64 w108 (t8.add 0) fun x109 => ldI .u64 w108 (t8.add 1) fun x110 => ldI .i64 w108 (t8.add 2) fun x111 => ldI .i64 w108 (t8.add 3) fun x112 => ldI .i64 w108 (t8.add 4) fun x113 => ldI .u64 w108 (t8.add 5) fun x114 => ldSl w108 (t8.add 6) fun x115p x115n x115c => ldI .u64 w108 (t8.add 7) fun x116 => ldI .i64 w108 (t8.add 8) fun x117 => ldI .i64 w108 (t8.add 9) fun x118 => ldSl w108 (t8.add 10) fun x119p x119n x119c => ldI .u64 w108 (t8.add 11) fun x120 => ldI .u64 w108 (t8.add 12) fun x121 => ldI .u64 w108 (t8.add 13) fun x122 => ldI .u64 w108 (t8.add 14) fun x123 => Q (.tuple #[.agg #[.int .i64 x109, .int .u64 x110, .int .i64 x111, .int .i64 x112, .int .i64 x113, .int .u64 x114, .slice x115p x115n x115c, .int .u64 x116, .int .i64 x117, .int .i64 x118, .slice x119p x119n x119c, .int .u64 x120, .int .u64 x121, .int .u64 x122, .int .u64 x123], .bool true, .int .i64 (3 : Int)]) w108) (stK w80 (t11.add 8) (.int .i64 (4 : Int)) fun w124 => ldI .i64 w124 (t11.add 0) fun x125 => ldI .u64 w124 (t11.add 1) fun x126 => ldI .i64 w124 (t11.add 2) fun x127 => ldI .i64 w124 (t11.add 3) fun x128 => ldI .i64 w124 (t11.add 4) fun x129 => ldI .u64 w124 (t11.add 5) fun x130 => ldSl w124 (t11.add 6) fun x131p x131n x131c => ldI .u64 w124 (t11.add 7) fun x132 => ldI .i64 w124 (t11.add 8) fun x133 => ldI .i64 w124 (t11.add 9) fun x134 => ldSl w124 (t11.add 10) fun x135p x135n x135c => ldI .u64 w124 (t11.add 11) fun x136 => ldI .u64 w124 (t11.add 12) fun x137 => ldI .u64 w124 (t11.add 13) fun x138 => ldI .u64 w124 (t11.add 14) fun x139 => CallR Tryz.prog 40 #[.pointer t0, .agg #[.int .i64 x125, .int .u64 x126, .int .i64 x127, .int .i64 x128, .int .i64 x129, .int .u64 x130, .slice x131p x131n x131c, .int .u64 x132, .int .i64 x133, .int .i64 x134, .slice x135p x135n x135c, .int .u64 x136, .int .u64 x137, .int .u64 x138, .int .u64 x139]] w124 fun v140 w141 => v140 = .tuple #[] ∧ stAll w141 t8 [.int .i64 (0 : Int), .int .u64 (0 : Int), .int .i64 (0 : Int), .int .i64 (0 : Int), .int .i64 (0 : Int), .int .u64 (0 : Int), .slice none 0 0, .int .u64 (0 : Int), .int .i64 (0 : Int), .int .i64 (0 : Int), .slice none 0 0, .int .u64 (0 : Int), .int .u64 (0 : Int), .int .u64 (0 : Int), .int .u64 (0 : Int)] fun w142 => ldI .i64 w142 (t8.add 0) fun x143 => ldI .u64 w142 (t8.add 1) fun x144 => ldI .i64 w142 (t8.add 2) fun x145 => ldI .i64 w142 (t8.add 3) fun x146 => ldI .i64 w142 (t8.add 4) fun x147 => ldI .u64 w142 (t8.add 5) fun x148 => ldSl w142 (t8.add 6) fun x149p x149n x149c => ldI .u64 w142 (t8.add 7) fun x150 => ldI .i64 w142 (t8.add 8) fun x151 => ldI .i64 w142 (t8.add 9) fun x152 => ldSl w142 (t8.add 10) fun x153p x153n x153c => ldI .u64 w142 (t8.add 11) fun x154 => ldI .u64 w142 (t8.add 12) fun x155 => ldI .u64 w142 (t8.add 13) fun x156 => ldI .u64 w142 (t8.add 14) fun x157 => Q (.tuple #[.agg #[.int .i64 x143, .int .u64 x144, .int .i64 x145, .int .i64 x146, .int .i64 x147, .int .u64 x148, .slice x149p x149n x149c, .int .u64 x150, .int .i64 x151, .int .i64 x152, .slice x153p x153n x153c, .int .u64 x154, .int .u64 x155, .int .u64 x156, .int .u64 x157], .bool false, .int .i64 (3 : Int)]) w142))))
def X17.f (a0 : Option Addr) (a1 : Int) (a2 : Int) (a3 : Int) (w : World) (Q : Value → World → Prop) : Prop := newK w #[.int .i64 (0 : Int), .int .u64 (0 : Int), .int .i64 (0 : Int), .int .i64 (0 : Int), .int .i64 (0 : Int), .int .u64 (0 : Int), .slice none 0 0, .int .u64 (0 : Int), .int .i64 (0 : Int), .int .i64 (0 : Int), .slice none 0 0, .int .u64 (0 : Int), .int .u64 (0 : Int), .int .u64 (0 : Int), .int .u64 (0 : Int)] 50 fun g1 w2 => CallR Tryz.prog 46 #[.pointer a0, .int .i64 a1, .int .u64 a2] w2 fun v3 w4 => ∃ (y5 : Int) (y6 : Int) (y7 : Int) (y8 : Int) (y9 : Int) (y10 : Int) (y11p : Option Addr) (y11n y11c : Nat) (y12 : Int) (y13 : Int) (y14 : Int) (y15p : Option Addr) (y15n y15c : Nat) (y16 : Int) (y17 : Int) (y18 : Int) (y19 : Int) (y20 : Bool), v3 = .tuple #[.agg #[.int .i64 y5, .int .u64 y6, .int .i64 y7, .int .i64 y8, .int .i64 y9, .int .u64 y10, .slice y11p y11n y11c, .int .u64 y12, .int .i64 y13, .int .i64 y14, .slice y15p y15n y15c, .int .u64 y16, .int .u64 y17, .int .u64 y18, .int .u64 y19], .bool y20] ∧ newK w4 #[.int .i64 (0 : Int), .int .u64 (0 : Int), .int .i64 (0 : Int), .int .i64 (0 : Int), .int .i64 (0 : Int), .int .u64 (0 : Int), .slice none 0 0, .int .u64 (0 : Int), .int .i64 (0 : Int), .int .i64 (0 : Int), .slice none 0 0, .int .u64 (0 : Int), .int .u64 (0 : Int), .int .u64 (0 : Int), .int .u64 (0 : Int)] 50 fun g21 w22 => stAll w22 g21 [.int .i64 y5, .int .u64 y6, .int .i64 y7, .int .i64 y8, .int .i64 y9, .int .u64 y10, .slice y11p y11n y11c, .int .u64 y12, .int .i64 y13, .int .i64 y14, .slice y15p y15n y15c, .int .u64 y16, .int .u64 y17, .int .u64 y18, .int .u64 y19] fun w23 => bcase (!y20) (X17.j0 Q a0 a1 a2 a3 g1 g21 true w23) (ldI .i64 w23 (g21.add 8) fun x24 => X17.j0 Q a0 a1 a2 a3 g1 g21 (x24 == (4 : Int)) w23)
def X17.S (Q : Value → World → Prop) : Segs
  | 0, φ, ρ, w => qP (ρ 0) fun t0 => qI .i64 (ρ 1) fun t1 => qI .u64 (ρ 2) fun t2 => qI .u64 (ρ 3) fun t3 => qA (ρ 8) fun t8 => qA (ρ 11) fun t11 => qB (ρ 20) fun t20 => X17.j0 Q t0 t1 t2 t3 t8 t11 t20 w
  | _, _, _, _ => False
noncomputable def X17.an : Ann := (.seq .leaf (.seq .leaf (.seq (.block (.seq .leaf (.join 0 (.cond (.seq .leaf .leaf) (.seq .leaf (.cond (.seq (.draw [0, 1, 3, 7, 0, 0, 48, 127] [[0, 1, 2, 3, 4, 5, 6, 7]]) (.seq .leaf .leaf)) (.seq (.draw [0, 1, 0, 4, 12, 28, 60, 0, 255, 511, 1023] [[0, 1, 2, 3, 4, 5, 6, 7, 8, 9, 10]]) (.cond (.seq .leaf .leaf) (.seq .leaf (.cond (.seq (.draw [0, 1, 3, 7, 0, 0, 48, 127] [[0, 1, 2, 3, 4, 5, 6, 7]]) (.seq .leaf .leaf)) .leaf)))))))))) (.seq .leaf (.seq .leaf (.seq .leaf .leaf))))))
noncomputable def X17.c : Code := Tryz.f17.body.getD .skip
theorem X17.v (Q : Value → World → Prop) : V Tryz.prog (X17.S Q) X17.an X17.c (retC Tryz.prog Tryz.f17 Q) := ⟨trivial, ⟨trivial, ⟨⟨trivial, ⟨(by
    intro φ ρ w h
    simp only [X17.S] at h
    obtain ⟨t0, e0, h⟩ := qP_elim h
    obtain ⟨t1, e1, h⟩ := qI_elim h
    obtain ⟨t2, e2, h⟩ := qI_elim h
    obtain ⟨t3, e3, h⟩ := qI_elim h
    obtain ⟨t8, e8, h⟩ := qA_elim h
    obtain ⟨t11, e11, h⟩ := qA_elim h
    obtain ⟨t20, e20, h⟩ := qB_elim h
    exact ⟨(((((((Env.nil.put (some 0) (.pointer t0)).put (some 1) (.int .i64 t1)).put (some 2) (.int .u64 t2)).put (some 3) (.int .u64 t3)).put (some 8) (.pointer (some t8))).put (some 11) (.pointer (some t11))).put (some 20) (.bool t20)), Env.le_put e20 (Env.le_put e11 (Env.le_put e8 (Env.le_put e3 (Env.le_put e2 (Env.le_put e1 (Env.le_put e0 (Env.le_nil _))))))), Eq.mp (by kernel_rfl) h⟩), ⟨⟨trivial, trivial⟩, ⟨trivial, ⟨⟨trivial, ⟨trivial, trivial⟩⟩, ⟨trivial, ⟨⟨trivial, trivial⟩, ⟨trivial, ⟨⟨trivial, ⟨trivial, trivial⟩⟩, trivial⟩⟩⟩⟩⟩⟩⟩⟩⟩, ⟨trivial, ⟨trivial, ⟨trivial, trivial⟩⟩⟩⟩⟩⟩
theorem X17.sound (a0 : Option Addr) (a1 : Int) (a2 : Int) (a3 : Int) (w : World) (Q : Value → World → Prop) (h : X17.f a0 a1 a2 a3 w Q) : CallR Tryz.prog 17 #[.pointer a0, .int .i64 a1, .int .u64 a2, .int .u64 a3] w Q :=
  fn_sound noGr mixed Tryz.func17 (c := X17.c) (an := X17.an) (S := X17.S Q) (φ := fun _ => 0) (args := [.pointer a0, .int .i64 a1, .int .u64 a2, .int .u64 a3]) (by kernel_rfl) (by kernel_rfl) (by kernel_rfl) (X17.v Q) (Eq.mp (by kernel_rfl) h)
/-! ### (*mooring/caller.Table).Pinned: function 33 -/
def X33.l1 (Q : Value → World → Prop) (b0 : Addr → Option Addr → Nat → Nat → Int → Int → World → Prop) : Nat → Addr → Addr → (Option Addr) → Nat → Nat → Int → Int → (Option Addr) → Nat → Nat → Int → Int → World → Prop
  | 0, _, _, _, _, _, _, _, _, _, _, _, _, _ => False
  | k + 1, t3, t6, t10p, t10n, t10c, t11, t12, t17p, t17n, t17c, t18, t19, w => bcase (decide (t19 < t18)) ((0 ≤ t19 ∧ t19 < ((t17n : Nat) : Int)) ∧ optP t17p fun p1 => ldI .i64 w ((p1.add (Int.toNat t19 * 2)).add 0) fun x2 => ldI .u64 w ((p1.add (Int.toNat t19 * 2)).add 1) fun x3 => newK w #[.int .i64 (0 : Int), .int .u64 (0 : Int)] 37 fun g4 w5 => stAll w5 g4 [.int .i64 x2, .int .u64 x3] fun w6 => ldI .i64 w6 (t6.add 0) fun x7 => ldI .u64 w6 (t6.add 1) fun x8 => ldI .i64 w6 (t6.add 2) fun x9 => ldI .i64 w6 (t6.add 3) fun x10 => ldI .i64 w6 (t6.add 4) fun x11 => ldI .u64 w6 (t6.add 5) fun x12 => ldSl w6 (t6.add 6) fun x13p x13n x13c => ldI .u64 w6 (t6.add 7) fun x14 => ldI .i64 w6 (t6.add 8) fun x15 => ldI .i64 w6 (t6.add 9) fun x16 => ldSl w6 (t6.add 10) fun x17p x17n x17c => ldI .u64 w6 (t6.add 11) fun x18 => ldI .u64 w6 (t6.add 12) fun x19 => ldI .u64 w6 (t6.add 13) fun x20 => ldI .u64 w6 (t6.add 14) fun x21 => CallR Tryz.prog 63 #[.agg #[.int .i64 x7, .int .u64 x8, .int .i64 x9, .int .i64 x10, .int .i64 x11, .int .u64 x12, .slice x13p x13n x13c, .int .u64 x14, .int .i64 x15, .int .i64 x16, .slice x17p x17n x17c, .int .u64 x18, .int .u64 x19, .int .u64 x20, .int .u64 x21]] w6 fun v22 w23 => ∃ (y24 : Bool), v22 = .bool y24 ∧ bcase y24 (ldI .i64 w23 (g4.add 0) fun x25 => ldI .u64 w23 (g4.add 1) fun x26 => ldI .i64 w23 (t3.add 0) fun x27 => ldI .u64 w23 (t3.add 1) fun x28 => isStruct Tryz.prog 37 ∧ bcase ((x25 == x27) && ((x26 == x28) && true)) (ldI .i64 w23 (g4.add 0) fun x29 => ldI .u64 w23 (g4.add 1) fun x30 => isStruct Tryz.prog 37 ∧ bcase (!((x29 == (0 : Int)) && ((x30 == (0 : Int)) && true))) (Q (.bool true) w23) (X33.l1 Q b0 k t3 t6 t10p t10n t10c t11 t12 t17p t17n t17c t18 (IntKind.wrap .i64 (t19 + (1 : Int))) w23)) (X33.l1 Q b0 k t3 t6 t10p t10n t10c t11 t12 t17p t17n t17c t18 (IntKind.wrap .i64 (t19 + (1 : Int))) w23)) (X33.l1 Q b0 k t3 t6 t10p t10n t10c t11 t12 t17p t17n t17c t18 (IntKind.wrap .i64 (t19 + (1 : Int))) w23)) (b0 t3 t10p t10n t10c t11 (IntKind.wrap .i64 (t12 + (1 : Int))) w)
def X33.l0 (Q : Value → World → Prop) : Nat → Addr → (Option Addr) → Nat → Nat → Int → Int → World → Prop
  | 0, _, _, _, _, _, _, _ => False
  | k + 1, t3, t10p, t10n, t10c, t11, t12, w => bcase (decide (t12 < t11)) ((0 ≤ t12 ∧ t12 < ((t10n : Nat) : Int)) ∧ optP t10p fun p1 => ldI .i64 w ((p1.add (Int.toNat t12 * 15)).add 0) fun x2 => ldI .u64 w ((p1.add (Int.toNat t12 * 15)).add 1) fun x3 => ldI .i64 w ((p1.add (Int.toNat t12 * 15)).add 2) fun x4 => ldI .i64 w ((p1.add (Int.toNat t12 * 15)).add 3) fun x5 => ldI .i64 w ((p1.add (Int.toNat t12 * 15)).add 4) fun x6 => ldI .u64 w ((p1.add (Int.toNat t12 * 15)).add 5) fun x7 => ldSl w ((p1.add (Int.toNat t12 * 15)).add 6) fun x8p x8n x8c => ldI .u64 w ((p1.add (Int.toNat t12 * 15)).add 7) fun x9 => ldI .i64 w ((p1.add (Int.toNat t12 * 15)).add 8) fun x10 => ldI .i64 w ((p1.add (Int.toNat t12 * 15)).add 9) fun x11 => ldSl w ((p1.add (Int.toNat t12 * 15)).add 10) fun x12p x12n x12c => ldI .u64 w ((p1.add (Int.toNat t12 * 15)).add 11) fun x13 => ldI .u64 w ((p1.add (Int.toNat t12 * 15)).add 12) fun x14 => ldI .u64 w ((p1.add (Int.toNat t12 * 15)).add 13) fun x15 => ldI .u64 w ((p1.add (Int.toNat t12 * 15)).add 14) fun x16 => newK w #[.int .i64 (0 : Int), .int .u64 (0 : Int), .int .i64 (0 : Int), .int .i64 (0 : Int), .int .i64 (0 : Int), .int .u64 (0 : Int), .slice none 0 0, .int .u64 (0 : Int), .int .i64 (0 : Int), .int .i64 (0 : Int), .slice none 0 0, .int .u64 (0 : Int), .int .u64 (0 : Int), .int .u64 (0 : Int), .int .u64 (0 : Int)] 50 fun g17 w18 => stAll w18 g17 [.int .i64 x2, .int .u64 x3, .int .i64 x4, .int .i64 x5, .int .i64 x6, .int .u64 x7, .slice x8p x8n x8c, .int .u64 x9, .int .i64 x10, .int .i64 x11, .slice x12p x12n x12c, .int .u64 x13, .int .u64 x14, .int .u64 x15, .int .u64 x16] fun w19 => ldSl w19 (g17.add 6) fun x20p x20n x20c => ∃ m21, X33.l1 Q (X33.l0 Q k) m21 t3 g17 t10p t10n t10c t11 t12 x20p x20n x20c ((x20n : Nat) : Int) (0 : Int) w19) (Q (.bool false) w)
def X33.f (a0 : Option Addr) (a1_0 : Int) (a1_1 : Int) (w : World) (Q : Value → World → Prop) : Prop := newK w #[.int .i64 a1_0, .int .u64 a1_1] 37 fun g1 w2 => CallR Tryz.prog 28 #[.pointer a0] w2 fun v3 w4 => ∃ (y5p : Option Addr) (y5n y5c : Nat), v3 = .slice y5p y5n y5c ∧ ∃ m6, X33.l0 Q m6 g1 y5p y5n y5c ((y5n : Nat) : Int) (0 : Int) w4
def X33.S (Q : Value → World → Prop) : Segs
  | 0, φ, ρ, w => qA (ρ 3) fun t3 => qSl (ρ 10) fun t10p t10n t10c => qI .i64 (ρ 11) fun t11 => qI .i64 (ρ 12) fun t12 => X33.l0 Q (φ 0) t3 t10p t10n t10c t11 t12 w
  | 1, φ, ρ, w => qA (ρ 3) fun t3 => qA (ρ 6) fun t6 => qSl (ρ 10) fun t10p t10n t10c => qI .i64 (ρ 11) fun t11 => qI .i64 (ρ 12) fun t12 => qSl (ρ 17) fun t17p t17n t17c => qI .i64 (ρ 18) fun t18 => qI .i64 (ρ 19) fun t19 => X33.l1 Q (X33.l0 Q (φ 0)) (φ 1) t3 t6 t10p t10n t10c t11 t12 t17p t17n t17c t18 t19 w
  | _, _, _, _ => False
noncomputable def X33.an : Ann := (.seq .leaf (.seq (.seq .leaf (.block (.loop 0 (.seq .leaf (.seq (.cond .leaf .leaf) (.seq (.block (.seq .leaf (.seq .leaf (.block (.loop 1 (.seq .leaf (.seq (.cond .leaf .leaf) (.seq (.block (.seq .leaf (.seq .leaf (.cond (.seq .leaf .leaf) .leaf)))) .leaf)))))))) .leaf)))))) (.seq .leaf .leaf)))
noncomputable def X33.c : Code := Tryz.f33.body.getD .skip
theorem X33.v (Q : Value → World → Prop) : V Tryz.prog (X33.S Q) X33.an X33.c (retC Tryz.prog Tryz.f33 Q) := ⟨trivial, ⟨⟨trivial, ⟨(by
    intro φ ρ w h
    simp only [X33.S] at h
    obtain ⟨t3, e3, h⟩ := qA_elim h
    obtain ⟨t10p, t10n, t10c, e10, h⟩ := qSl_elim h
    obtain ⟨t11, e11, h⟩ := qI_elim h
    obtain ⟨t12, e12, h⟩ := qI_elim h
    cases hk : φ 0 with
    | zero => rw [hk] at h; exact h.elim
    | succ k => rw [hk] at h; exact ⟨k, Nat.lt_succ_self k, ((((Env.nil.put (some 3) (.pointer (some t3))).put (some 10) (.slice t10p t10n t10c)).put (some 11) (.int .i64 t11)).put (some 12) (.int .i64 t12)), Env.le_put e12 (Env.le_put e11 (Env.le_put e10 (Env.le_put e3 (Env.le_nil _)))), Eq.mp (by kernel_rfl) h⟩), ⟨trivial, ⟨⟨trivial, trivial⟩, ⟨⟨trivial, ⟨trivial, ⟨(by
    intro φ ρ w h
    simp only [X33.S] at h
    obtain ⟨t3, e3, h⟩ := qA_elim h
    obtain ⟨t6, e6, h⟩ := qA_elim h
    obtain ⟨t10p, t10n, t10c, e10, h⟩ := qSl_elim h
    obtain ⟨t11, e11, h⟩ := qI_elim h
    obtain ⟨t12, e12, h⟩ := qI_elim h
    obtain ⟨t17p, t17n, t17c, e17, h⟩ := qSl_elim h
    obtain ⟨t18, e18, h⟩ := qI_elim h
    obtain ⟨t19, e19, h⟩ := qI_elim h
    cases hk : φ 1 with
    | zero => rw [hk] at h; exact h.elim
    | succ k => rw [hk] at h; exact ⟨k, Nat.lt_succ_self k, ((((((((Env.nil.put (some 3) (.pointer (some t3))).put (some 6) (.pointer (some t6))).put (some 10) (.slice t10p t10n t10c)).put (some 11) (.int .i64 t11)).put (some 12) (.int .i64 t12)).put (some 17) (.slice t17p t17n t17c)).put (some 18) (.int .i64 t18)).put (some 19) (.int .i64 t19)), Env.le_put e19 (Env.le_put e18 (Env.le_put e17 (Env.le_put e12 (Env.le_put e11 (Env.le_put e10 (Env.le_put e6 (Env.le_put e3 (Env.le_nil _)))))))), Eq.mp (by kernel_rfl) h⟩), ⟨trivial, ⟨⟨trivial, trivial⟩, ⟨⟨trivial, ⟨trivial, ⟨⟨trivial, trivial⟩, trivial⟩⟩⟩, trivial⟩⟩⟩⟩⟩⟩, trivial⟩⟩⟩⟩⟩, ⟨trivial, trivial⟩⟩⟩
theorem X33.sound (a0 : Option Addr) (a1_0 : Int) (a1_1 : Int) (w : World) (Q : Value → World → Prop) (h : X33.f a0 a1_0 a1_1 w Q) : CallR Tryz.prog 33 #[.pointer a0, .agg #[.int .i64 a1_0, .int .u64 a1_1]] w Q :=
  fn_sound noGr mixed Tryz.func33 (c := X33.c) (an := X33.an) (S := X33.S Q) (φ := fun _ => 0) (args := [.pointer a0, .agg #[.int .i64 a1_0, .int .u64 a1_1]]) (by kernel_rfl) (by kernel_rfl) (by kernel_rfl) (X33.v Q) (Eq.mp (by kernel_rfl) h)
/-! ### (*mooring/caller.Table).Settle: function 16 -/
def X16.j0 (Q : Value → World → Prop) (t0 : Option Addr) (t3 : Int) (t9 : Addr) (w : World) : Prop := stK w (t9.add 8) (.int .i64 (3 : Int)) fun w1 => bcase (t3 != (0 : Int)) (stK w1 (t9.add 9) (.int .i64 t3) fun w2 => stK w2 (t9.add 11) (.int .u64 (0 : Int)) fun w3 => stK w3 (t9.add 10) (.slice none 0 0) fun w4 => ldI .i64 w4 (t9.add 0) fun x5 => ldI .u64 w4 (t9.add 1) fun x6 => ldI .i64 w4 (t9.add 2) fun x7 => ldI .i64 w4 (t9.add 3) fun x8 => ldI .i64 w4 (t9.add 4) fun x9 => ldI .u64 w4 (t9.add 5) fun x10 => ldSl w4 (t9.add 6) fun x11p x11n x11c => ldI .u64 w4 (t9.add 7) fun x12 => ldI .i64 w4 (t9.add 8) fun x13 => ldI .i64 w4 (t9.add 9) fun x14 => ldSl w4 (t9.add 10) fun x15p x15n x15c => ldI .u64 w4 (t9.add 11) fun x16 => ldI .u64 w4 (t9.add 12) fun x17 => ldI .u64 w4 (t9.add 13) fun x18 => ldI .u64 w4 (t9.add 14) fun x19 => CallR Tryz.prog 40 #[.pointer t0, .agg #[.int .i64 x5, .int .u64 x6, .int .i64 x7, .int .i64 x8, .int .i64 x9, .int .u64 x10, .slice x11p x11n x11c, .int .u64 x12, .int .i64 x13, .int .i64 x14, .slice x15p x15n x15c, .int .u64 x16, .int .u64 x17, .int .u64 x18, .int .u64 x19]] w4 fun v20 w21 => v20 = .tuple #[] ∧ Q (.bool true) w21) (ldI .i64 w1 (t9.add 0) fun x22 => ldI .u64 w1 (t9.add 1) fun x23 => ldI .i64 w1 (t9.add 2) fun x24 => ldI .i64 w1 (t9.add 3) fun x25 => ldI .i64 w1 (t9.add 4) fun x26 => ldI .u64 w1 (t9.add 5) fun x27 => ldSl w1 (t9.add 6) fun x28p x28n x28c => ldI .u64 w1 (t9.add 7) fun x29 => ldI .i64 w1 (t9.add 8) fun x30 => ldI .i64 w1 (t9.add 9) fun x31 => ldSl w1 (t9.add 10) fun x32p x32n x32c => ldI .u64 w1 (t9.add 11) fun x33 => ldI .u64 w1 (t9.add 12) fun x34 => ldI .u64 w1 (t9.add 13) fun x35 => ldI .u64 w1 (t9.add 14) fun x36 => CallR Tryz.prog 40 #[.pointer t0, .agg #[.int .i64 x22, .int .u64 x23, .int .i64 x24, .int .i64 x25, .int .i64 x26, .int .u64 x27, .slice x28p x28n x28c, .int .u64 x29, .int .i64 x30, .int .i64 x31, .slice x32p x32n x32c, .int .u64 x33, .int .u64 x34, .int .u64 x35, .int .u64 x36]] w1 fun v37 w38 => v37 = .tuple #[] ∧ Q (.bool true) w38)
def X16.f (a0 : Option Addr) (a1 : Int) (a2 : Int) (a3 : Int) (w : World) (Q : Value → World → Prop) : Prop := CallR Tryz.prog 46 #[.pointer a0, .int .i64 a1, .int .u64 a2] w fun v1 w2 => ∃ (y3 : Int) (y4 : Int) (y5 : Int) (y6 : Int) (y7 : Int) (y8 : Int) (y9p : Option Addr) (y9n y9c : Nat) (y10 : Int) (y11 : Int) (y12 : Int) (y13p : Option Addr) (y13n y13c : Nat) (y14 : Int) (y15 : Int) (y16 : Int) (y17 : Int) (y18 : Bool), v1 = .tuple #[.agg #[.int .i64 y3, .int .u64 y4, .int .i64 y5, .int .i64 y6, .int .i64 y7, .int .u64 y8, .slice y9p y9n y9c, .int .u64 y10, .int .i64 y11, .int .i64 y12, .slice y13p y13n y13c, .int .u64 y14, .int .u64 y15, .int .u64 y16, .int .u64 y17], .bool y18] ∧ newK w2 #[.int .i64 (0 : Int), .int .u64 (0 : Int), .int .i64 (0 : Int), .int .i64 (0 : Int), .int .i64 (0 : Int), .int .u64 (0 : Int), .slice none 0 0, .int .u64 (0 : Int), .int .i64 (0 : Int), .int .i64 (0 : Int), .slice none 0 0, .int .u64 (0 : Int), .int .u64 (0 : Int), .int .u64 (0 : Int), .int .u64 (0 : Int)] 50 fun g19 w20 => stAll w20 g19 [.int .i64 y3, .int .u64 y4, .int .i64 y5, .int .i64 y6, .int .i64 y7, .int .u64 y8, .slice y9p y9n y9c, .int .u64 y10, .int .i64 y11, .int .i64 y12, .slice y13p y13n y13c, .int .u64 y14, .int .u64 y15, .int .u64 y16, .int .u64 y17] fun w21 => bcase (!y18) (Q (.bool false) w21) (ldI .i64 w21 (g19.add 8) fun x22 => bcase (x22 != (2 : Int)) (Q (.bool false) w21) (X16.j0 Q a0 a3 g19 w21))
def X16.S (Q : Value → World → Prop) : Segs
  | 0, φ, ρ, w => qP (ρ 0) fun t0 => qI .i64 (ρ 3) fun t3 => qA (ρ 9) fun t9 => X16.j0 Q t0 t3 t9 w
  | _, _, _, _ => False
noncomputable def X16.an : Ann := (.seq .leaf (.seq .leaf (.seq (.seq .leaf (.cond (.seq .leaf .leaf) .leaf)) (.join 0 (.seq .leaf (.seq (.seq .leaf (.cond .leaf .leaf)) (.seq .leaf (.seq .leaf .leaf))))))))
noncomputable def X16.c : Code := Tryz.f16.body.getD .skip
theorem X16.v (Q : Value → World → Prop) : V Tryz.prog (X16.S Q) X16.an X16.c (retC Tryz.prog Tryz.f16 Q) := ⟨trivial, ⟨trivial, ⟨⟨trivial, ⟨⟨trivial, trivial⟩, trivial⟩⟩, ⟨(by
    intro φ ρ w h
    simp only [X16.S] at h
    obtain ⟨t0, e0, h⟩ := qP_elim h
    obtain ⟨t3, e3, h⟩ := qI_elim h
    obtain ⟨t9, e9, h⟩ := qA_elim h
    exact ⟨(((Env.nil.put (some 0) (.pointer t0)).put (some 3) (.int .i64 t3)).put (some 9) (.pointer (some t9))), Env.le_put e9 (Env.le_put e3 (Env.le_put e0 (Env.le_nil _))), Eq.mp (by kernel_rfl) h⟩), ⟨trivial, ⟨⟨trivial, ⟨trivial, trivial⟩⟩, ⟨trivial, ⟨trivial, trivial⟩⟩⟩⟩⟩⟩⟩⟩
theorem X16.sound (a0 : Option Addr) (a1 : Int) (a2 : Int) (a3 : Int) (w : World) (Q : Value → World → Prop) (h : X16.f a0 a1 a2 a3 w Q) : CallR Tryz.prog 16 #[.pointer a0, .int .i64 a1, .int .u64 a2, .int .i64 a3] w Q :=
  fn_sound noGr mixed Tryz.func16 (c := X16.c) (an := X16.an) (S := X16.S Q) (φ := fun _ => 0) (args := [.pointer a0, .int .i64 a1, .int .u64 a2, .int .i64 a3]) (by kernel_rfl) (by kernel_rfl) (by kernel_rfl) (X16.v Q) (Eq.mp (by kernel_rfl) h)
/-! ### mooring/api.May: function 11 -/
def X11.j0 (Q : Value → World → Prop) (t1 : Addr) (t3 : Bool) (t4 : Bool) (t5 : Bool) (t6 : Bool) (w : World) : Prop := bcase t3 (bcase t4 (bcase t5 (bcase t6 (ldI .i64 w (t1.add 17) fun x1 => CallR Tryz.prog 35 #[.int .i64 x1, .int .i64 (38 : Int)] w fun v2 w3 => ∃ (y4 : Bool), v2 = .bool y4 ∧ bcase y4 (ldI .i64 w3 (t1.add 18) fun x5 => ldI .i64 w3 (t1.add 17) fun x6 => bcase (decide (x5 > x6)) (ldI .i64 w3 (t1.add 18) fun x7 => bcase (decide (x7 < (40 : Int))) (ldI .i64 w3 (t1.add 19) fun x8 => CallR Tryz.prog 35 #[.int .i64 x8, .int .i64 (64 : Int)] w3 fun v9 w10 => ∃ (y11 : Bool), v9 = .bool y11 ∧ bcase y11 (ldI .u64 w10 (t1.add 20) fun x12 => bcase (decide (x12 ≤ (4611686018427387904 : Int))) (ldI .u64 w10 (t1.add 21) fun x13 => Q (.bool (decide (x13 ≤ (72057594037927935 : Int)))) w10) (Q (.bool false) w10)) (Q (.bool false) w10)) (Q (.bool false) w3)) (Q (.bool false) w3)) (Q (.bool false) w3)) (Q (.bool false) w)) (Q (.bool false) w)) (Q (.bool false) w)) (Q (.bool false) w)
def X11.j1 (Q : Value → World → Prop) (t1 : Addr) (t3 : Bool) (t4 : Bool) (t5 : Bool) (w : World) : Prop := ldI .u64 w (t1.add 14) fun x1 => bcase (decide (x1 ≥ (1 : Int))) (ldI .u64 w (t1.add 14) fun x2 => ldI .u64 w (t1.add 15) fun x3 => bcase (decide (x2 ≤ x3)) (ldI .u64 w (t1.add 15) fun x4 => bcase (decide (x4 ≤ (4294967295 : Int))) (ldI .u64 w (t1.add 16) fun x5 => bcase (decide (x5 ≥ (1 : Int))) (ldI .u64 w (t1.add 16) fun x6 => X11.j0 Q t1 t3 t4 t5 (decide (x6 ≤ (4294967295 : Int))) w) (X11.j0 Q t1 t3 t4 t5 false w)) (X11.j0 Q t1 t3 t4 t5 false w)) (X11.j0 Q t1 t3 t4 t5 false w)) (X11.j0 Q t1 t3 t4 t5 false w)
def X11.j2 (Q : Value → World → Prop) (t1 : Addr) (t3 : Bool) (t4 : Bool) (w : World) : Prop := ldI .u64 w (t1.add 11) fun x1 => bcase (decide (x1 ≥ (1 : Int))) (ldI .u64 w (t1.add 11) fun x2 => bcase (decide (x2 ≤ (1048576 : Int))) (ldI .u64 w (t1.add 12) fun x3 => ldI .u64 w (t1.add 11) fun x4 => bcase (decide (x3 < x4)) (ldI .u64 w (t1.add 13) fun x5 => bcase (decide (x5 ≤ (4294967295 : Int))) (ldI .u64 w (t1.add 13) fun x6 => ldI .u64 w (t1.add 11) fun x7 => ldI .u64 w (t1.add 12) fun x8 => ldI .u64 w (t1.add 11) fun x9 => ldI .u64 w (t1.add 12) fun x10 => X11.j1 Q t1 t3 t4 (decide ((IntKind.wrap .u64 (x6 * (IntKind.wrap .u64 (x7 - x8)))) ≥ (IntKind.wrap .u64 ((8 : Int) * (IntKind.wrap .u64 (x9 + x10)))))) w) (X11.j1 Q t1 t3 t4 false w)) (X11.j1 Q t1 t3 t4 false w)) (X11.j1 Q t1 t3 t4 false w)) (X11.j1 Q t1 t3 t4 false w)
def X11.j3 (Q : Value → World → Prop) (t1 : Addr) (t3 : Bool) (w : World) : Prop := ldI .i64 w (t1.add 4) fun x1 => CallR Tryz.prog 35 #[.int .i64 x1, .int .i64 (64 : Int)] w fun v2 w3 => ∃ (y4 : Bool), v2 = .bool y4 ∧ bcase y4 (ldI .i64 w3 (t1.add 5) fun x5 => CallR Tryz.prog 35 #[.int .i64 x5, .int .i64 (64 : Int)] w3 fun v6 w7 => ∃ (y8 : Bool), v6 = .bool y8 ∧ bcase y8 (ldI .i64 w7 (t1.add 6) fun x9 => CallR Tryz.prog 35 #[.int .i64 x9, .int .i64 (16 : Int)] w7 fun v10 w11 => ∃ (y12 : Bool), v10 = .bool y12 ∧ bcase y12 (ldI .i64 w11 (t1.add 7) fun x13 => CallR Tryz.prog 35 #[.int .i64 x13, .int .i64 (8 : Int)] w11 fun v14 w15 => ∃ (y16 : Bool), v14 = .bool y16 ∧ bcase y16 (ldI .i64 w15 (t1.add 8) fun x17 => CallR Tryz.prog 35 #[.int .i64 x17, .int .i64 (64 : Int)] w15 fun v18 w19 => ∃ (y20 : Bool), v18 = .bool y20 ∧ bcase y20 (ldI .i64 w19 (t1.add 9) fun x21 => CallR Tryz.prog 35 #[.int .i64 x21, .int .i64 (256 : Int)] w19 fun v22 w23 => ∃ (y24 : Bool), v22 = .bool y24 ∧ bcase y24 (ldI .i64 w23 (t1.add 10) fun x25 => CallR Tryz.prog 35 #[.int .i64 x25, .int .i64 (16 : Int)] w23 fun v26 w27 => ∃ (y28 : Bool), v26 = .bool y28 ∧ X11.j2 Q t1 t3 y28 w27) (X11.j2 Q t1 t3 false w23)) (X11.j2 Q t1 t3 false w19)) (X11.j2 Q t1 t3 false w15)) (X11.j2 Q t1 t3 false w11)) (X11.j2 Q t1 t3 false w7)) (X11.j2 Q t1 t3 false w3)
def X11.f (a0_0 : Int) (a0_1 : Int) (a0_2 : Int) (a0_3 : Int) (a0_4 : Int) (a0_5 : Int) (a0_6 : Int) (a0_7 : Int) (a0_8 : Int) (a0_9 : Int) (a0_10 : Int) (a0_11 : Int) (a0_12 : Int) (a0_13 : Int) (a0_14 : Int) (a0_15 : Int) (a0_16 : Int) (a0_17 : Int) (a0_18 : Int) (a0_19 : Int) (a0_20 : Int) (a0_21 : Int) (w : World) (Q : Value → World → Prop) : Prop := newK w #[.int .i64 a0_0, .int .i64 a0_1, .int .i64 a0_2, .int .i64 a0_3, .int .i64 a0_4, .int .i64 a0_5, .int .i64 a0_6, .int .i64 a0_7, .int .i64 a0_8, .int .i64 a0_9, .int .i64 a0_10, .int .u64 a0_11, .int .u64 a0_12, .int .u64 a0_13, .int .u64 a0_14, .int .u64 a0_15, .int .u64 a0_16, .int .i64 a0_17, .int .i64 a0_18, .int .i64 a0_19, .int .u64 a0_20, .int .u64 a0_21] 27 fun g1 w2 => ldI .i64 w2 (g1.add 0) fun x3 => CallR Tryz.prog 35 #[.int .i64 x3, .int .i64 (64 : Int)] w2 fun v4 w5 => ∃ (y6 : Bool), v4 = .bool y6 ∧ bcase y6 (ldI .i64 w5 (g1.add 1) fun x7 => CallR Tryz.prog 35 #[.int .i64 x7, .int .i64 (4 : Int)] w5 fun v8 w9 => ∃ (y10 : Bool), v8 = .bool y10 ∧ bcase y10 (ldI .i64 w9 (g1.add 2) fun x11 => CallR Tryz.prog 35 #[.int .i64 x11, .int .i64 (8 : Int)] w9 fun v12 w13 => ∃ (y14 : Bool), v12 = .bool y14 ∧ bcase y14 (ldI .i64 w13 (g1.add 3) fun x15 => CallR Tryz.prog 35 #[.int .i64 x15, .int .i64 (4096 : Int)] w13 fun v16 w17 => ∃ (y18 : Bool), v16 = .bool y18 ∧ bcase y18 (ldI .i64 w17 (g1.add 3) fun x19 => (16 : Int) ≠ 0 ∧ X11.j3 Q g1 ((Int.tmod x19 (16 : Int)) == (0 : Int)) w17) (X11.j3 Q g1 false w17)) (X11.j3 Q g1 false w13)) (X11.j3 Q g1 false w9)) (X11.j3 Q g1 false w5)
def X11.S (Q : Value → World → Prop) : Segs
  | 0, φ, ρ, w => qA (ρ 1) fun t1 => qB (ρ 3) fun t3 => qB (ρ 4) fun t4 => qB (ρ 5) fun t5 => qB (ρ 6) fun t6 => X11.j0 Q t1 t3 t4 t5 t6 w
  | 1, φ, ρ, w => qA (ρ 1) fun t1 => qB (ρ 3) fun t3 => qB (ρ 4) fun t4 => qB (ρ 5) fun t5 => X11.j1 Q t1 t3 t4 t5 w
  | 2, φ, ρ, w => qA (ρ 1) fun t1 => qB (ρ 3) fun t3 => qB (ρ 4) fun t4 => X11.j2 Q t1 t3 t4 w
  | 3, φ, ρ, w => qA (ρ 1) fun t1 => qB (ρ 3) fun t3 => X11.j3 Q t1 t3 w
  | _, _, _, _ => False
noncomputable def X11.an : Ann := (.seq .leaf (.seq .leaf (.join 3 (.seq .leaf (.join 2 (.seq .leaf (.join 1 (.seq .leaf (.join 0 (.seq .leaf .leaf))))))))))
noncomputable def X11.c : Code := Tryz.f11.body.getD .skip
theorem X11.v (Q : Value → World → Prop) : V Tryz.prog (X11.S Q) X11.an X11.c (retC Tryz.prog Tryz.f11 Q) := ⟨trivial, ⟨trivial, ⟨(by
    intro φ ρ w h
    simp only [X11.S] at h
    obtain ⟨t1, e1, h⟩ := qA_elim h
    obtain ⟨t3, e3, h⟩ := qB_elim h
    exact ⟨((Env.nil.put (some 1) (.pointer (some t1))).put (some 3) (.bool t3)), Env.le_put e3 (Env.le_put e1 (Env.le_nil _)), Eq.mp (by kernel_rfl) h⟩), ⟨trivial, ⟨(by
    intro φ ρ w h
    simp only [X11.S] at h
    obtain ⟨t1, e1, h⟩ := qA_elim h
    obtain ⟨t3, e3, h⟩ := qB_elim h
    obtain ⟨t4, e4, h⟩ := qB_elim h
    exact ⟨(((Env.nil.put (some 1) (.pointer (some t1))).put (some 3) (.bool t3)).put (some 4) (.bool t4)), Env.le_put e4 (Env.le_put e3 (Env.le_put e1 (Env.le_nil _))), Eq.mp (by kernel_rfl) h⟩), ⟨trivial, ⟨(by
    intro φ ρ w h
    simp only [X11.S] at h
    obtain ⟨t1, e1, h⟩ := qA_elim h
    obtain ⟨t3, e3, h⟩ := qB_elim h
    obtain ⟨t4, e4, h⟩ := qB_elim h
    obtain ⟨t5, e5, h⟩ := qB_elim h
    exact ⟨((((Env.nil.put (some 1) (.pointer (some t1))).put (some 3) (.bool t3)).put (some 4) (.bool t4)).put (some 5) (.bool t5)), Env.le_put e5 (Env.le_put e4 (Env.le_put e3 (Env.le_put e1 (Env.le_nil _)))), Eq.mp (by kernel_rfl) h⟩), ⟨trivial, ⟨(by
    intro φ ρ w h
    simp only [X11.S] at h
    obtain ⟨t1, e1, h⟩ := qA_elim h
    obtain ⟨t3, e3, h⟩ := qB_elim h
    obtain ⟨t4, e4, h⟩ := qB_elim h
    obtain ⟨t5, e5, h⟩ := qB_elim h
    obtain ⟨t6, e6, h⟩ := qB_elim h
    exact ⟨(((((Env.nil.put (some 1) (.pointer (some t1))).put (some 3) (.bool t3)).put (some 4) (.bool t4)).put (some 5) (.bool t5)).put (some 6) (.bool t6)), Env.le_put e6 (Env.le_put e5 (Env.le_put e4 (Env.le_put e3 (Env.le_put e1 (Env.le_nil _))))), Eq.mp (by kernel_rfl) h⟩), ⟨trivial, trivial⟩⟩⟩⟩⟩⟩⟩⟩⟩⟩
theorem X11.sound (a0_0 : Int) (a0_1 : Int) (a0_2 : Int) (a0_3 : Int) (a0_4 : Int) (a0_5 : Int) (a0_6 : Int) (a0_7 : Int) (a0_8 : Int) (a0_9 : Int) (a0_10 : Int) (a0_11 : Int) (a0_12 : Int) (a0_13 : Int) (a0_14 : Int) (a0_15 : Int) (a0_16 : Int) (a0_17 : Int) (a0_18 : Int) (a0_19 : Int) (a0_20 : Int) (a0_21 : Int) (w : World) (Q : Value → World → Prop) (h : X11.f a0_0 a0_1 a0_2 a0_3 a0_4 a0_5 a0_6 a0_7 a0_8 a0_9 a0_10 a0_11 a0_12 a0_13 a0_14 a0_15 a0_16 a0_17 a0_18 a0_19 a0_20 a0_21 w Q) : CallR Tryz.prog 11 #[.agg #[.int .i64 a0_0, .int .i64 a0_1, .int .i64 a0_2, .int .i64 a0_3, .int .i64 a0_4, .int .i64 a0_5, .int .i64 a0_6, .int .i64 a0_7, .int .i64 a0_8, .int .i64 a0_9, .int .i64 a0_10, .int .u64 a0_11, .int .u64 a0_12, .int .u64 a0_13, .int .u64 a0_14, .int .u64 a0_15, .int .u64 a0_16, .int .i64 a0_17, .int .i64 a0_18, .int .i64 a0_19, .int .u64 a0_20, .int .u64 a0_21]] w Q :=
  fn_sound noGr mixed Tryz.func11 (c := X11.c) (an := X11.an) (S := X11.S Q) (φ := fun _ => 0) (args := [.agg #[.int .i64 a0_0, .int .i64 a0_1, .int .i64 a0_2, .int .i64 a0_3, .int .i64 a0_4, .int .i64 a0_5, .int .i64 a0_6, .int .i64 a0_7, .int .i64 a0_8, .int .i64 a0_9, .int .i64 a0_10, .int .u64 a0_11, .int .u64 a0_12, .int .u64 a0_13, .int .u64 a0_14, .int .u64 a0_15, .int .u64 a0_16, .int .i64 a0_17, .int .i64 a0_18, .int .i64 a0_19, .int .u64 a0_20, .int .u64 a0_21]]) (by kernel_rfl) (by kernel_rfl) (by kernel_rfl) (X11.v Q) (Eq.mp (by kernel_rfl) h)
/-! ### mooring/caller.twin: function 36 -/
def X36.f (a0_0 : Int) (a0_1 : Int) (a0_2 : Int) (a0_3 : Int) (a0_4 : Int) (a0_5 : Int) (a0_6p : Option Addr) (a0_6n : Nat) (a0_6c : Nat) (a0_7 : Int) (a0_8 : Int) (a0_9 : Int) (a0_10p : Option Addr) (a0_10n : Nat) (a0_10c : Nat) (a0_11 : Int) (a0_12 : Int) (a0_13 : Int) (a0_14 : Int) (w : World) (Q : Value → World → Prop) : Prop := newK w #[.int .i64 a0_0, .int .u64 a0_1, .int .i64 a0_2, .int .i64 a0_3, .int .i64 a0_4, .int .u64 a0_5, .slice a0_6p a0_6n a0_6c, .int .u64 a0_7, .int .i64 a0_8, .int .i64 a0_9, .slice a0_10p a0_10n a0_10c, .int .u64 a0_11, .int .u64 a0_12, .int .u64 a0_13, .int .u64 a0_14] 50 fun g1 w2 => newK w2 #[.int .i64 (0 : Int), .int .u64 (0 : Int), .int .i64 (0 : Int), .int .i64 (0 : Int), .int .i64 (0 : Int), .int .u64 (0 : Int), .slice none 0 0, .int .u64 (0 : Int), .int .i64 (0 : Int), .int .i64 (0 : Int), .slice none 0 0, .int .u64 (0 : Int), .int .u64 (0 : Int), .int .u64 (0 : Int), .int .u64 (0 : Int)] 50 fun g3 w4 => newK w4 #[] 37 fun g5 w6 => ldSl w6 (g1.add 6) fun x7p x7n x7c => RunR Tryz.prog (Builtin.append_ #[38, 38] 38 #[.slice (some g5) 0 0, .slice x7p x7n x7c]) w6 fun v8 w9 => ∃ (s10p : Option Addr) (s10n s10c : Nat), v8 = .slice s10p s10n s10c ∧ stK w9 (g1.add 6) (.slice s10p s10n s10c) fun w11 => newK w11 #[] 37 fun g12 w13 => ldSl w13 (g1.add 10) fun x14p x14n x14c => RunR Tryz.prog (Builtin.append_ #[38, 38] 38 #[.slice (some g12) 0 0, .slice x14p x14n x14c]) w13 fun v15 w16 => ∃ (s17p : Option Addr) (s17n s17c : Nat), v15 = .slice s17p s17n s17c ∧ stK w16 (g1.add 10) (.slice s17p s17n s17c) fun w18 => ldI .i64 w18 (g1.add 0) fun x19 => ldI .u64 w18 (g1.add 1) fun x20 => ldI .i64 w18 (g1.add 2) fun x21 => ldI .i64 w18 (g1.add 3) fun x22 => ldI .i64 w18 (g1.add 4) fun x23 => ldI .u64 w18 (g1.add 5) fun x24 => ldSl w18 (g1.add 6) fun x25p x25n x25c => ldI .u64 w18 (g1.add 7) fun x26 => ldI .i64 w18 (g1.add 8) fun x27 => ldI .i64 w18 (g1.add 9) fun x28 => ldSl w18 (g1.add 10) fun x29p x29n x29c => ldI .u64 w18 (g1.add 11) fun x30 => ldI .u64 w18 (g1.add 12) fun x31 => ldI .u64 w18 (g1.add 13) fun x32 => ldI .u64 w18 (g1.add 14) fun x33 => stAll w18 g3 [.int .i64 x19, .int .u64 x20, .int .i64 x21, .int .i64 x22, .int .i64 x23, .int .u64 x24, .slice x25p x25n x25c, .int .u64 x26, .int .i64 x27, .int .i64 x28, .slice x29p x29n x29c, .int .u64 x30, .int .u64 x31, .int .u64 x32, .int .u64 x33] fun w34 => ldI .i64 w34 (g3.add 0) fun x35 => ldI .u64 w34 (g3.add 1) fun x36 => ldI .i64 w34 (g3.add 2) fun x37 => ldI .i64 w34 (g3.add 3) fun x38 => ldI .i64 w34 (g3.add 4) fun x39 => ldI .u64 w34 (g3.add 5) fun x40 => ldSl w34 (g3.add 6) fun x41p x41n x41c => ldI .u64 w34 (g3.add 7) fun x42 => ldI .i64 w34 (g3.add 8) fun x43 => ldI .i64 w34 (g3.add 9) fun x44 => ldSl w34 (g3.add 10) fun x45p x45n x45c => ldI .u64 w34 (g3.add 11) fun x46 => ldI .u64 w34 (g3.add 12) fun x47 => ldI .u64 w34 (g3.add 13) fun x48 => ldI .u64 w34 (g3.add 14) fun x49 => Q (.agg #[.int .i64 x35, .int .u64 x36, .int .i64 x37, .int .i64 x38, .int .i64 x39, .int .u64 x40, .slice x41p x41n x41c, .int .u64 x42, .int .i64 x43, .int .i64 x44, .slice x45p x45n x45c, .int .u64 x46, .int .u64 x47, .int .u64 x48, .int .u64 x49]) w34
def X36.S (Q : Value → World → Prop) : Segs
  | _, _, _, _ => False
noncomputable def X36.an : Ann := (.seq .leaf (.seq .leaf (.seq .leaf (.seq .leaf .leaf))))
noncomputable def X36.c : Code := Tryz.f36.body.getD .skip
theorem X36.v (Q : Value → World → Prop) : V Tryz.prog (X36.S Q) X36.an X36.c (retC Tryz.prog Tryz.f36 Q) := ⟨trivial, ⟨trivial, ⟨trivial, ⟨trivial, trivial⟩⟩⟩⟩
theorem X36.sound (a0_0 : Int) (a0_1 : Int) (a0_2 : Int) (a0_3 : Int) (a0_4 : Int) (a0_5 : Int) (a0_6p : Option Addr) (a0_6n : Nat) (a0_6c : Nat) (a0_7 : Int) (a0_8 : Int) (a0_9 : Int) (a0_10p : Option Addr) (a0_10n : Nat) (a0_10c : Nat) (a0_11 : Int) (a0_12 : Int) (a0_13 : Int) (a0_14 : Int) (w : World) (Q : Value → World → Prop) (h : X36.f a0_0 a0_1 a0_2 a0_3 a0_4 a0_5 a0_6p a0_6n a0_6c a0_7 a0_8 a0_9 a0_10p a0_10n a0_10c a0_11 a0_12 a0_13 a0_14 w Q) : CallR Tryz.prog 36 #[.agg #[.int .i64 a0_0, .int .u64 a0_1, .int .i64 a0_2, .int .i64 a0_3, .int .i64 a0_4, .int .u64 a0_5, .slice a0_6p a0_6n a0_6c, .int .u64 a0_7, .int .i64 a0_8, .int .i64 a0_9, .slice a0_10p a0_10n a0_10c, .int .u64 a0_11, .int .u64 a0_12, .int .u64 a0_13, .int .u64 a0_14]] w Q :=
  fn_sound noGr mixed Tryz.func36 (c := X36.c) (an := X36.an) (S := X36.S Q) (φ := fun _ => 0) (args := [.agg #[.int .i64 a0_0, .int .u64 a0_1, .int .i64 a0_2, .int .i64 a0_3, .int .i64 a0_4, .int .u64 a0_5, .slice a0_6p a0_6n a0_6c, .int .u64 a0_7, .int .i64 a0_8, .int .i64 a0_9, .slice a0_10p a0_10n a0_10c, .int .u64 a0_11, .int .u64 a0_12, .int .u64 a0_13, .int .u64 a0_14]]) (by kernel_rfl) (by kernel_rfl) (by kernel_rfl) (X36.v Q) (Eq.mp (by kernel_rfl) h)
/-! ### (*mooring/caller.Table).asks: function 38 -/
def X38.f (a0 : Option Addr) (a1_0 : Int) (a1_1 : Int) (a1_2 : Int) (a1_3 : Int) (a1_4 : Int) (a1_5 : Int) (a1_6p : Option Addr) (a1_6n : Nat) (a1_6c : Nat) (a1_7 : Int) (a1_8 : Int) (a1_9 : Int) (a1_10p : Option Addr) (a1_10n : Nat) (a1_10c : Nat) (a1_11 : Int) (a1_12 : Int) (a1_13 : Int) (a1_14 : Int) (a2 : Int) (w : World) (Q : Value → World → Prop) : Prop := newK w #[.int .i64 a1_0, .int .u64 a1_1, .int .i64 a1_2, .int .i64 a1_3, .int .i64 a1_4, .int .u64 a1_5, .slice a1_6p a1_6n a1_6c, .int .u64 a1_7, .int .i64 a1_8, .int .i64 a1_9, .slice a1_10p a1_10n a1_10c, .int .u64 a1_11, .int .u64 a1_12, .int .u64 a1_13, .int .u64 a1_14] 50 fun g1 w2 => newK w2 #[.int .i64 (0 : Int), .int .i64 (0 : Int), .int .i64 (0 : Int), .int .u64 (0 : Int), .int .u64 (0 : Int), .int .i64 (0 : Int), .int .i64 (0 : Int), .int .i64 (0 : Int), .int .i64 (0 : Int), .int .u64 (0 : Int), .slice none 0 0, .int .u64 (0 : Int), .int .i64 (0 : Int), .int .u64 (0 : Int), .int .i64 (0 : Int), .int .u64 (0 : Int), .int .i64 (0 : Int), .int .u64 (0 : Int), .slice none 0 0] 63 fun g3 w4 => drewK w4 fun w5 => optP a0 fun p6 => ldI .i64 w5 (p6.add 22) fun x7 => ldI .i64 w5 (g1.add 0) fun x8 => ldI .u64 w5 (g1.add 1) fun x9 => ldI .i64 w5 (g1.add 2) fun x10 => ldI .i64 w5 (g1.add 3) fun x11 => ldI .i64 w5 ((g1.add 4).add 0) fun x12 => ldI .u64 w5 ((g1.add 4).add 1) fun x13 => ldI .u64 w5 (g1.add 7) fun x14 => newK w5 #[] 37 fun g15 w16 => (World.cell? w5 (g1.add 7) = some (.int .u64 x14) ∧ World.cell? w16 (g1.add 7) = some (.int .u64 x14)) ∧ ((∀ j u, ([.int .i64 x12, .int .u64 x13] : List Value)[j]? = some u → World.cell? w5 ((g1.add 4).add j) = some u) ∧ (∀ j u, ([.int .i64 x12, .int .u64 x13] : List Value)[j]? = some u → World.cell? w16 ((g1.add 4).add j) = some u)) ∧ (World.cell? w5 (g1.add 3) = some (.int .i64 x11) ∧ World.cell? w16 (g1.add 3) = some (.int .i64 x11)) ∧ (World.cell? w5 (g1.add 2) = some (.int .i64 x10) ∧ World.cell? w16 (g1.add 2) = some (.int .i64 x10)) ∧ (World.cell? w5 (g1.add 1) = some (.int .u64 x9) ∧ World.cell? w16 (g1.add 1) = some (.int .u64 x9)) ∧ (World.cell? w5 (g1.add 0) = some (.int .i64 x8) ∧ World.cell? w16 (g1.add 0) = some (.int .i64 x8)) ∧ (World.cell? w5 (p6.add 22) = some (.int .i64 x7) ∧ World.cell? w16 (p6.add 22) = some (.int .i64 x7)) ∧ ldSl w16 (g1.add 6) fun x17p x17n x17c => (World.cell? w5 (g1.add 6) = some (.slice x17p x17n x17c) ∧ World.cell? w16 (g1.add 6) = some (.slice x17p x17n x17c)) ∧ RunR Tryz.prog (Builtin.append_ #[38, 38] 38 #[.slice (some g15) 0 0, .slice x17p x17n x17c]) w16 fun v18 w19 => ∃ (s20p : Option Addr) (s20n s20c : Nat), v18 = .slice s20p s20n s20c ∧ (World.cell? w16 (g1.add 7) = some (.int .u64 x14) ∧ World.cell? w19 (g1.add 7) = some (.int .u64 x14)) ∧ ((∀ j u, ([.int .i64 x12, .int .u64 x13] : List Value)[j]? = some u → World.cell? w16 ((g1.add 4).add j) = some u) ∧ (∀ j u, ([.int .i64 x12, .int .u64 x13] : List Value)[j]? = some u → World.cell? w19 ((g1.add 4).add j) = some u)) ∧ (World.cell? w16 (g1.add 3) = some (.int .i64 x11) ∧ World.cell? w19 (g1.add 3) = some (.int .i64 x11)) ∧ (World.cell? w16 (g1.add 2) = some (.int .i64 x10) ∧ World.cell? w19 (g1.add 2) = some (.int .i64 x10)) ∧ (World.cell? w16 (g1.add 1) = some (.int .u64 x9) ∧ World.cell? w19 (g1.add 1) = some (.int .u64 x9)) ∧ (World.cell? w16 (g1.add 0) = some (.int .i64 x8) ∧ World.cell? w19 (g1.add 0) = some (.int .i64 x8)) ∧ (World.cell? w16 (p6.add 22) = some (.int .i64 x7) ∧ World.cell? w19 (p6.add 22) = some (.int .i64 x7)) ∧ stAll w19 g3 [.int .i64 (1 : Int), .int .i64 x7, .int .i64 x8, .int .u64 x9, .int .u64 a2, .int .i64 x10, .int .i64 x11, .int .i64 (0 : Int), .int .i64 x12, .int .u64 x13, .slice s20p s20n s20c, .int .u64 x14, .int .i64 (0 : Int), .int .u64 (0 : Int), .int .i64 (0 : Int), .int .u64 (0 : Int), .int .i64 (0 : Int), .int .u64 (0 : Int), .slice none 0 0] fun w21 => ldI .i64 w21 (g3.add 0) fun x22 => ldI .i64 w21 (g3.add 1) fun x23 => ldI .i64 w21 (g3.add 2) fun x24 => ldI .u64 w21 (g3.add 3) fun x25 => ldI .u64 w21 (g3.add 4) fun x26 => ldI .i64 w21 (g3.add 5) fun x27 => ldI .i64 w21 (g3.add 6) fun x28 => ldI .i64 w21 (g3.add 7) fun x29 => ldI .i64 w21 (g3.add 8) fun x30 => ldI .u64 w21 (g3.add 9) fun x31 => ldSl w21 (g3.add 10) fun x32p x32n x32c => ldI .u64 w21 (g3.add 11) fun x33 => ldI .i64 w21 (g3.add 12) fun x34 => ldI .u64 w21 (g3.add 13) fun x35 => ldI .i64 w21 (g3.add 14) fun x36 => ldI .u64 w21 (g3.add 15) fun x37 => ldI .i64 w21 (g3.add 16) fun x38 => ldI .u64 w21 (g3.add 17) fun x39 => ldSl w21 (g3.add 18) fun x40p x40n x40c => Q (.agg #[.int .i64 x22, .int .i64 x23, .int .i64 x24, .int .u64 x25, .int .u64 x26, .int .i64 x27, .int .i64 x28, .int .i64 x29, .int .i64 x30, .int .u64 x31, .slice x32p x32n x32c, .int .u64 x33, .int .i64 x34, .int .u64 x35, .int .i64 x36, .int .u64 x37, .int .i64 x38, .int .u64 x39, .slice x40p x40n x40c]) w21
def X38.S (Q : Value → World → Prop) : Segs
  | _, _, _, _ => False
noncomputable def X38.an : Ann := (.seq .leaf (.seq (.draw [0, 1, 3, 7, 0, 16, 0, 64, 0, 0, 512, 0, 2048, 0, 8192, 0, 32768, 0, 0, 262144, 917504, 2097151, 4194303] [[0, 1, 2, 3, 4, 5, 6, 7, 8, 9, 10, 11, 12, 13, 14, 15, 16, 17, 18, 19, 20, 21, 22]]) .leaf))
noncomputable def X38.c : Code := Tryz.f38.body.getD .skip
theorem X38.v (Q : Value → World → Prop) : V Tryz.prog (X38.S Q) X38.an X38.c (retC Tryz.prog Tryz.f38 Q) := ⟨trivial, ⟨trivial, trivial⟩⟩
theorem X38.sound (a0 : Option Addr) (a1_0 : Int) (a1_1 : Int) (a1_2 : Int) (a1_3 : Int) (a1_4 : Int) (a1_5 : Int) (a1_6p : Option Addr) (a1_6n : Nat) (a1_6c : Nat) (a1_7 : Int) (a1_8 : Int) (a1_9 : Int) (a1_10p : Option Addr) (a1_10n : Nat) (a1_10c : Nat) (a1_11 : Int) (a1_12 : Int) (a1_13 : Int) (a1_14 : Int) (a2 : Int) (w : World) (Q : Value → World → Prop) (h : X38.f a0 a1_0 a1_1 a1_2 a1_3 a1_4 a1_5 a1_6p a1_6n a1_6c a1_7 a1_8 a1_9 a1_10p a1_10n a1_10c a1_11 a1_12 a1_13 a1_14 a2 w Q) : CallR Tryz.prog 38 #[.pointer a0, .agg #[.int .i64 a1_0, .int .u64 a1_1, .int .i64 a1_2, .int .i64 a1_3, .int .i64 a1_4, .int .u64 a1_5, .slice a1_6p a1_6n a1_6c, .int .u64 a1_7, .int .i64 a1_8, .int .i64 a1_9, .slice a1_10p a1_10n a1_10c, .int .u64 a1_11, .int .u64 a1_12, .int .u64 a1_13, .int .u64 a1_14], .int .u64 a2] w Q :=
  fn_sound noGr mixed Tryz.func38 (c := X38.c) (an := X38.an) (S := X38.S Q) (φ := fun _ => 0) (args := [.pointer a0, .agg #[.int .i64 a1_0, .int .u64 a1_1, .int .i64 a1_2, .int .i64 a1_3, .int .i64 a1_4, .int .u64 a1_5, .slice a1_6p a1_6n a1_6c, .int .u64 a1_7, .int .i64 a1_8, .int .i64 a1_9, .slice a1_10p a1_10n a1_10c, .int .u64 a1_11, .int .u64 a1_12, .int .u64 a1_13, .int .u64 a1_14], .int .u64 a2]) (by kernel_rfl) (by kernel_rfl) (by kernel_rfl) (X38.v Q) (Eq.mp (by kernel_rfl) h)
/-! ### (*mooring/caller.Table).put: function 40 -/
def X40.f (a0 : Option Addr) (a1_0 : Int) (a1_1 : Int) (a1_2 : Int) (a1_3 : Int) (a1_4 : Int) (a1_5 : Int) (a1_6p : Option Addr) (a1_6n : Nat) (a1_6c : Nat) (a1_7 : Int) (a1_8 : Int) (a1_9 : Int) (a1_10p : Option Addr) (a1_10n : Nat) (a1_10c : Nat) (a1_11 : Int) (a1_12 : Int) (a1_13 : Int) (a1_14 : Int) (w : World) (Q : Value → World → Prop) : Prop := newK w #[.int .i64 a1_0, .int .u64 a1_1, .int .i64 a1_2, .int .i64 a1_3, .int .i64 a1_4, .int .u64 a1_5, .slice a1_6p a1_6n a1_6c, .int .u64 a1_7, .int .i64 a1_8, .int .i64 a1_9, .slice a1_10p a1_10n a1_10c, .int .u64 a1_11, .int .u64 a1_12, .int .u64 a1_13, .int .u64 a1_14] 50 fun g1 w2 => drewK w2 fun w3 => optP a0 fun p4 => ldP w3 (p4.add 25) fun x5 => ldI .i64 w3 (g1.add 0) fun x6 => ldI .u64 w3 (g1.add 1) fun x7 => CallR Tryz.prog 48 #[.int .i64 x6, .int .u64 x7] w3 fun v8 w9 => ∃ (y10 : Int), v8 = .int .u64 y10 ∧ (World.cell? w3 (p4.add 25) = some (.pointer x5) ∧ World.cell? w9 (p4.add 25) = some (.pointer x5)) ∧ ldI .i64 w9 (g1.add 0) fun x11 => ldI .u64 w9 (g1.add 1) fun x12 => ldI .i64 w9 (g1.add 2) fun x13 => ldI .i64 w9 (g1.add 3) fun x14 => ldI .i64 w9 (g1.add 4) fun x15 => ldI .u64 w9 (g1.add 5) fun x16 => ldSl w9 (g1.add 6) fun x17p x17n x17c => ldI .u64 w9 (g1.add 7) fun x18 => ldI .i64 w9 (g1.add 8) fun x19 => ldI .i64 w9 (g1.add 9) fun x20 => ldSl w9 (g1.add 10) fun x21p x21n x21c => ldI .u64 w9 (g1.add 11) fun x22 => ldI .u64 w9 (g1.add 12) fun x23 => ldI .u64 w9 (g1.add 13) fun x24 => ldI .u64 w9 (g1.add 14) fun x25 => ((∀ j u, ([.int .i64 x11, .int .u64 x12, .int .i64 x13, .int .i64 x14, .int .i64 x15, .int .u64 x16, .slice x17p x17n x17c, .int .u64 x18, .int .i64 x19, .int .i64 x20, .slice x21p x21n x21c, .int .u64 x22, .int .u64 x23, .int .u64 x24, .int .u64 x25] : List Value)[j]? = some u → World.cell? w3 (g1.add j) = some u) ∧ (∀ j u, ([.int .i64 x11, .int .u64 x12, .int .i64 x13, .int .i64 x14, .int .i64 x15, .int .u64 x16, .slice x17p x17n x17c, .int .u64 x18, .int .i64 x19, .int .i64 x20, .slice x21p x21n x21c, .int .u64 x22, .int .u64 x23, .int .u64 x24, .int .u64 x25] : List Value)[j]? = some u → World.cell? w9 (g1.add j) = some u)) ∧ CallR Tryz.prog 71 #[.pointer x5, .int .u64 y10, .agg #[.int .i64 x11, .int .u64 x12, .int .i64 x13, .int .i64 x14, .int .i64 x15, .int .u64 x16, .slice x17p x17n x17c, .int .u64 x18, .int .i64 x19, .int .i64 x20, .slice x21p x21n x21c, .int .u64 x22, .int .u64 x23, .int .u64 x24, .int .u64 x25]] w9 fun v26 w27 => ∃ (y28 : Bool), v26 = .bool y28 ∧ Q (.tuple #[]) w27
def X40.S (Q : Value → World → Prop) : Segs
  | _, _, _, _ => False
noncomputable def X40.an : Ann := (.seq .leaf (.draw [0, 1, 3, 7, 0, 16, 0, 64, 240, 0, 1023] [[0, 1, 2, 3, 4, 5, 6, 7, 8, 9, 10]]))
noncomputable def X40.c : Code := Tryz.f40.body.getD .skip
theorem X40.v (Q : Value → World → Prop) : V Tryz.prog (X40.S Q) X40.an X40.c (retC Tryz.prog Tryz.f40 Q) := ⟨trivial, trivial⟩
theorem X40.sound (a0 : Option Addr) (a1_0 : Int) (a1_1 : Int) (a1_2 : Int) (a1_3 : Int) (a1_4 : Int) (a1_5 : Int) (a1_6p : Option Addr) (a1_6n : Nat) (a1_6c : Nat) (a1_7 : Int) (a1_8 : Int) (a1_9 : Int) (a1_10p : Option Addr) (a1_10n : Nat) (a1_10c : Nat) (a1_11 : Int) (a1_12 : Int) (a1_13 : Int) (a1_14 : Int) (w : World) (Q : Value → World → Prop) (h : X40.f a0 a1_0 a1_1 a1_2 a1_3 a1_4 a1_5 a1_6p a1_6n a1_6c a1_7 a1_8 a1_9 a1_10p a1_10n a1_10c a1_11 a1_12 a1_13 a1_14 w Q) : CallR Tryz.prog 40 #[.pointer a0, .agg #[.int .i64 a1_0, .int .u64 a1_1, .int .i64 a1_2, .int .i64 a1_3, .int .i64 a1_4, .int .u64 a1_5, .slice a1_6p a1_6n a1_6c, .int .u64 a1_7, .int .i64 a1_8, .int .i64 a1_9, .slice a1_10p a1_10n a1_10c, .int .u64 a1_11, .int .u64 a1_12, .int .u64 a1_13, .int .u64 a1_14]] w Q :=
  fn_sound noGr mixed Tryz.func40 (c := X40.c) (an := X40.an) (S := X40.S Q) (φ := fun _ => 0) (args := [.pointer a0, .agg #[.int .i64 a1_0, .int .u64 a1_1, .int .i64 a1_2, .int .i64 a1_3, .int .i64 a1_4, .int .u64 a1_5, .slice a1_6p a1_6n a1_6c, .int .u64 a1_7, .int .i64 a1_8, .int .i64 a1_9, .slice a1_10p a1_10n a1_10c, .int .u64 a1_11, .int .u64 a1_12, .int .u64 a1_13, .int .u64 a1_14]]) (by kernel_rfl) (by kernel_rfl) (by kernel_rfl) (X40.v Q) (Eq.mp (by kernel_rfl) h)
/-! ### (*mooring/caller.Table).other: function 45 -/
def X45.f (a0 : Option Addr) (a1 : Int) (w : World) (Q : Value → World → Prop) : Prop := bcase (decide (a1 ≥ (1 : Int))) (optP a0 fun p1 => ldI .i64 w ((p1.add 0).add 0) fun x2 => bcase (decide (a1 ≤ x2)) (optP a0 fun p3 => ldI .i64 w (p3.add 22) fun x4 => Q (.bool (a1 != x4)) w) (Q (.bool false) w)) (Q (.bool false) w)
def X45.S (Q : Value → World → Prop) : Segs
  | _, _, _, _ => False
noncomputable def X45.an : Ann := (.seq .leaf (.seq .leaf .leaf))
noncomputable def X45.c : Code := Tryz.f45.body.getD .skip
theorem X45.v (Q : Value → World → Prop) : V Tryz.prog (X45.S Q) X45.an X45.c (retC Tryz.prog Tryz.f45 Q) := ⟨trivial, ⟨trivial, trivial⟩⟩
theorem X45.sound (a0 : Option Addr) (a1 : Int) (w : World) (Q : Value → World → Prop) (h : X45.f a0 a1 w Q) : CallR Tryz.prog 45 #[.pointer a0, .int .i64 a1] w Q :=
  fn_sound noGr mixed Tryz.func45 (c := X45.c) (an := X45.an) (S := X45.S Q) (φ := fun _ => 0) (args := [.pointer a0, .int .i64 a1]) (by kernel_rfl) (by kernel_rfl) (by kernel_rfl) (X45.v Q) (Eq.mp (by kernel_rfl) h)
/-! ### (*mooring/caller.Table).get: function 46 -/
def X46.f (a0 : Option Addr) (a1 : Int) (a2 : Int) (w : World) (Q : Value → World → Prop) : Prop := newK w #[.int .i64 (0 : Int), .int .u64 (0 : Int), .int .i64 (0 : Int), .int .i64 (0 : Int), .int .i64 (0 : Int), .int .u64 (0 : Int), .slice none 0 0, .int .u64 (0 : Int), .int .i64 (0 : Int), .int .i64 (0 : Int), .slice none 0 0, .int .u64 (0 : Int), .int .u64 (0 : Int), .int .u64 (0 : Int), .int .u64 (0 : Int)] 50 fun g1 w2 => CallR Tryz.prog 45 #[.pointer a0, .int .i64 a1] w2 fun v3 w4 => ∃ (y5 : Bool), v3 = .bool y5 ∧ bcase (!y5) (stAll w4 g1 [.int .i64 (0 : Int), .int .u64 (0 : Int), .int .i64 (0 : Int), .int .i64 (0 : Int), .int .i64 (0 : Int), .int .u64 (0 : Int), .slice none 0 0, .int .u64 (0 : Int), .int .i64 (0 : Int), .int .i64 (0 : Int), .slice none 0 0, .int .u64 (0 : Int), .int .u64 (0 : Int), .int .u64 (0 : Int), .int .u64 (0 : Int)] fun w6 => ldI .i64 w6 (g1.add 0) fun x7 => ldI .u64 w6 (g1.add 1) fun x8 => ldI .i64 w6 (g1.add 2) fun x9 => ldI .i64 w6 (g1.add 3) fun x10 => ldI .i64 w6 (g1.add 4) fun x11 => ldI .u64 w6 (g1.add 5) fun x12 => ldSl w6 (g1.add 6) fun x13p x13n x13c => ldI .u64 w6 (g1.add 7) fun x14 => ldI .i64 w6 (g1.add 8) fun x15 => ldI .i64 w6 (g1.add 9) fun x16 => ldSl w6 (g1.add 10) fun x17p x17n x17c => ldI .u64 w6 (g1.add 11) fun x18 => ldI .u64 w6 (g1.add 12) fun x19 => ldI .u64 w6 (g1.add 13) fun x20 => ldI .u64 w6 (g1.add 14) fun x21 => Q (.tuple #[.agg #[.int .i64 x7, .int .u64 x8, .int .i64 x9, .int .i64 x10, .int .i64 x11, .int .u64 x12, .slice x13p x13n x13c, .int .u64 x14, .int .i64 x15, .int .i64 x16, .slice x17p x17n x17c, .int .u64 x18, .int .u64 x19, .int .u64 x20, .int .u64 x21], .bool false]) w6) (bcase (decide (a2 > (72057594037927935 : Int))) (stAll w4 g1 [.int .i64 (0 : Int), .int .u64 (0 : Int), .int .i64 (0 : Int), .int .i64 (0 : Int), .int .i64 (0 : Int), .int .u64 (0 : Int), .slice none 0 0, .int .u64 (0 : Int), .int .i64 (0 : Int), .int .i64 (0 : Int), .slice none 0 0, .int .u64 (0 : Int), .int .u64 (0 : Int), .int .u64 (0 : Int), .int .u64 (0 : Int)] fun w22 => ldI .i64 w22 (g1.add 0) fun x23 => ldI .u64 w22 (g1.add 1) fun x24 => ldI .i64 w22 (g1.add 2) fun x25 => ldI .i64 w22 (g1.add 3) fun x26 => ldI .i64 w22 (g1.add 4) fun x27 => ldI .u64 w22 (g1.add 5) fun x28 => ldSl w22 (g1.add 6) fun x29p x29n x29c => ldI .u64 w22 (g1.add 7) fun x30 => ldI .i64 w22 (g1.add 8) fun x31 => ldI .i64 w22 (g1.add 9) fun x32 => ldSl w22 (g1.add 10) fun x33p x33n x33c => ldI .u64 w22 (g1.add 11) fun x34 => ldI .u64 w22 (g1.add 12) fun x35 => ldI .u64 w22 (g1.add 13) fun x36 => ldI .u64 w22 (g1.add 14) fun x37 => Q (.tuple #[.agg #[.int .i64 x23, .int .u64 x24, .int .i64 x25, .int .i64 x26, .int .i64 x27, .int .u64 x28, .slice x29p x29n x29c, .int .u64 x30, .int .i64 x31, .int .i64 x32, .slice x33p x33n x33c, .int .u64 x34, .int .u64 x35, .int .u64 x36, .int .u64 x37], .bool false]) w22) (drewK w4 fun w38 => optP a0 fun p39 => ldP w38 (p39.add 25) fun x40 => CallR Tryz.prog 48 #[.int .i64 a1, .int .u64 a2] w38 fun v41 w42 => ∃ (y43 : Int), v41 = .int .u64 y43 ∧ (World.cell? w38 (p39.add 25) = some (.pointer x40) ∧ World.cell? w42 (p39.add 25) = some (.pointer x40)) ∧ CallR Tryz.prog 42 #[.pointer x40, .int .u64 y43] w42 fun v44 w45 => ∃ (y46 : Int) (y47 : Int) (y48 : Int) (y49 : Int) (y50 : Int) (y51 : Int) (y52p : Option Addr) (y52n y52c : Nat) (y53 : Int) (y54 : Int) (y55 : Int) (y56p : Option Addr) (y56n y56c : Nat) (y57 : Int) (y58 : Int) (y59 : Int) (y60 : Int) (y61 : Bool), v44 = .tuple #[.agg #[.int .i64 y46, .int .u64 y47, .int .i64 y48, .int .i64 y49, .int .i64 y50, .int .u64 y51, .slice y52p y52n y52c, .int .u64 y53, .int .i64 y54, .int .i64 y55, .slice y56p y56n y56c, .int .u64 y57, .int .u64 y58, .int .u64 y59, .int .u64 y60], .bool y61] ∧ stAll w45 g1 [.int .i64 y46, .int .u64 y47, .int .i64 y48, .int .i64 y49, .int .i64 y50, .int .u64 y51, .slice y52p y52n y52c, .int .u64 y53, .int .i64 y54, .int .i64 y55, .slice y56p y56n y56c, .int .u64 y57, .int .u64 y58, .int .u64 y59, .int .u64 y60] fun w62 => ldI .i64 w62 (g1.add 0) fun x63 => ldI .u64 w62 (g1.add 1) fun x64 => ldI .i64 w62 (g1.add 2) fun x65 => ldI .i64 w62 (g1.add 3) fun x66 => ldI .i64 w62 (g1.add 4) fun x67 => ldI .u64 w62 (g1.add 5) fun x68 => ldSl w62 (g1.add 6) fun x69p x69n x69c => ldI .u64 w62 (g1.add 7) fun x70 => ldI .i64 w62 (g1.add 8) fun x71 => ldI .i64 w62 (g1.add 9) fun x72 => ldSl w62 (g1.add 10) fun x73p x73n x73c => ldI .u64 w62 (g1.add 11) fun x74 => ldI .u64 w62 (g1.add 12) fun x75 => ldI .u64 w62 (g1.add 13) fun x76 => ldI .u64 w62 (g1.add 14) fun x77 => Q (.tuple #[.agg #[.int .i64 x63, .int .u64 x64, .int .i64 x65, .int .i64 x66, .int .i64 x67, .int .u64 x68, .slice x69p x69n x69c, .int .u64 x70, .int .i64 x71, .int .i64 x72, .slice x73p x73n x73c, .int .u64 x74, .int .u64 x75, .int .u64 x76, .int .u64 x77], .bool y61]) w62))
def X46.S (Q : Value → World → Prop) : Segs
  | _, _, _, _ => False
noncomputable def X46.an : Ann := (.seq .leaf (.seq (.seq .leaf (.cond (.seq .leaf .leaf) .leaf)) (.seq (.draw [0, 1, 3, 7, 0, 0, 48, 127, 255, 255, 1023, 2047] [[0, 1, 2, 3, 4, 5, 6, 7, 8, 9, 10, 11]]) .leaf)))
noncomputable def X46.c : Code := Tryz.f46.body.getD .skip
theorem X46.v (Q : Value → World → Prop) : V Tryz.prog (X46.S Q) X46.an X46.c (retC Tryz.prog Tryz.f46 Q) := ⟨trivial, ⟨⟨trivial, ⟨⟨trivial, trivial⟩, trivial⟩⟩, ⟨trivial, trivial⟩⟩⟩
theorem X46.sound (a0 : Option Addr) (a1 : Int) (a2 : Int) (w : World) (Q : Value → World → Prop) (h : X46.f a0 a1 a2 w Q) : CallR Tryz.prog 46 #[.pointer a0, .int .i64 a1, .int .u64 a2] w Q :=
  fn_sound noGr mixed Tryz.func46 (c := X46.c) (an := X46.an) (S := X46.S Q) (φ := fun _ => 0) (args := [.pointer a0, .int .i64 a1, .int .u64 a2]) (by kernel_rfl) (by kernel_rfl) (by kernel_rfl) (X46.v Q) (Eq.mp (by kernel_rfl) h)
/-! ### mooring/caller.key: function 48 -/
def X48.f (a0 : Int) (a1 : Int) (w : World) (Q : Value → World → Prop) : Prop := CallR Tryz.prog 76 #[.agg #[.int .i64 a0, .int .u64 a1]] w fun v1 w2 => ∃ (y3 : Int), v1 = .int .u64 y3 ∧ Q (.int .u64 y3) w2
def X48.S (Q : Value → World → Prop) : Segs
  | _, _, _, _ => False
noncomputable def X48.an : Ann := (.seq .leaf (.seq .leaf .leaf))
noncomputable def X48.c : Code := Tryz.f48.body.getD .skip
theorem X48.v (Q : Value → World → Prop) : V Tryz.prog (X48.S Q) X48.an X48.c (retC Tryz.prog Tryz.f48 Q) := ⟨trivial, ⟨trivial, trivial⟩⟩
theorem X48.sound (a0 : Int) (a1 : Int) (w : World) (Q : Value → World → Prop) (h : X48.f a0 a1 w Q) : CallR Tryz.prog 48 #[.int .i64 a0, .int .u64 a1] w Q :=
  fn_sound noGr mixed Tryz.func48 (c := X48.c) (an := X48.an) (S := X48.S Q) (φ := fun _ => 0) (args := [.int .i64 a0, .int .u64 a1]) (by kernel_rfl) (by kernel_rfl) (by kernel_rfl) (X48.v Q) (Eq.mp (by kernel_rfl) h)
/-! ### mooring/caller.open: function 63 -/
def X63.f (a0_0 : Int) (a0_1 : Int) (a0_2 : Int) (a0_3 : Int) (a0_4 : Int) (a0_5 : Int) (a0_6p : Option Addr) (a0_6n : Nat) (a0_6c : Nat) (a0_7 : Int) (a0_8 : Int) (a0_9 : Int) (a0_10p : Option Addr) (a0_10n : Nat) (a0_10c : Nat) (a0_11 : Int) (a0_12 : Int) (a0_13 : Int) (a0_14 : Int) (w : World) (Q : Value → World → Prop) : Prop := newK w #[.int .i64 a0_0, .int .u64 a0_1, .int .i64 a0_2, .int .i64 a0_3, .int .i64 a0_4, .int .u64 a0_5, .slice a0_6p a0_6n a0_6c, .int .u64 a0_7, .int .i64 a0_8, .int .i64 a0_9, .slice a0_10p a0_10n a0_10c, .int .u64 a0_11, .int .u64 a0_12, .int .u64 a0_13, .int .u64 a0_14] 50 fun g1 w2 => ldI .i64 w2 (g1.add 8) fun x3 => bcase (x3 == (1 : Int)) (Q (.bool true) w2) (ldI .i64 w2 (g1.add 8) fun x4 => Q (.bool (x4 == (4 : Int))) w2)
def X63.S (Q : Value → World → Prop) : Segs
  | _, _, _, _ => False
noncomputable def X63.an : Ann := (.seq .leaf (.seq .leaf .leaf))
noncomputable def X63.c : Code := Tryz.f63.body.getD .skip
theorem X63.v (Q : Value → World → Prop) : V Tryz.prog (X63.S Q) X63.an X63.c (retC Tryz.prog Tryz.f63 Q) := ⟨trivial, ⟨trivial, trivial⟩⟩
theorem X63.sound (a0_0 : Int) (a0_1 : Int) (a0_2 : Int) (a0_3 : Int) (a0_4 : Int) (a0_5 : Int) (a0_6p : Option Addr) (a0_6n : Nat) (a0_6c : Nat) (a0_7 : Int) (a0_8 : Int) (a0_9 : Int) (a0_10p : Option Addr) (a0_10n : Nat) (a0_10c : Nat) (a0_11 : Int) (a0_12 : Int) (a0_13 : Int) (a0_14 : Int) (w : World) (Q : Value → World → Prop) (h : X63.f a0_0 a0_1 a0_2 a0_3 a0_4 a0_5 a0_6p a0_6n a0_6c a0_7 a0_8 a0_9 a0_10p a0_10n a0_10c a0_11 a0_12 a0_13 a0_14 w Q) : CallR Tryz.prog 63 #[.agg #[.int .i64 a0_0, .int .u64 a0_1, .int .i64 a0_2, .int .i64 a0_3, .int .i64 a0_4, .int .u64 a0_5, .slice a0_6p a0_6n a0_6c, .int .u64 a0_7, .int .i64 a0_8, .int .i64 a0_9, .slice a0_10p a0_10n a0_10c, .int .u64 a0_11, .int .u64 a0_12, .int .u64 a0_13, .int .u64 a0_14]] w Q :=
  fn_sound noGr mixed Tryz.func63 (c := X63.c) (an := X63.an) (S := X63.S Q) (φ := fun _ => 0) (args := [.agg #[.int .i64 a0_0, .int .u64 a0_1, .int .i64 a0_2, .int .i64 a0_3, .int .i64 a0_4, .int .u64 a0_5, .slice a0_6p a0_6n a0_6c, .int .u64 a0_7, .int .i64 a0_8, .int .i64 a0_9, .slice a0_10p a0_10n a0_10c, .int .u64 a0_11, .int .u64 a0_12, .int .u64 a0_13, .int .u64 a0_14]]) (by kernel_rfl) (by kernel_rfl) (by kernel_rfl) (X63.v Q) (Eq.mp (by kernel_rfl) h)
end Go.Proofs.YtdgoalhnkegbmaaGreatX
namespace Go.Proofs.YtdgoalhnkegbmaaGreatX
open Go.RowKit
set_option linter.unusedVariables false
structure Cfg where
  nodes : Int
  mutators : Int
  slots : Int
  cel : Int
  objects : Int
  stubs : Int
  calls : Int
  window : Int
  grey : Int
  bag : Int
  inbox : Int
  unit : Int
  drift : Int
  lease : Int
  wait : Int
  most : Int
  patience : Int
  suspect : Int
  trace : Int
  work : Int
  start : Int
  last : Int
deriving DecidableEq
def Cfg.cells (s : Cfg) : List Value := [.int .i64 s.nodes, .int .i64 s.mutators, .int .i64 s.slots, .int .i64 s.cel, .int .i64 s.objects, .int .i64 s.stubs, .int .i64 s.calls, .int .i64 s.window, .int .i64 s.grey, .int .i64 s.bag, .int .i64 s.inbox, .int .u64 s.unit, .int .u64 s.drift, .int .u64 s.lease, .int .u64 s.wait, .int .u64 s.most, .int .u64 s.patience, .int .i64 s.suspect, .int .i64 s.trace, .int .i64 s.work, .int .u64 s.start, .int .u64 s.last]
abbrev Cfg.val (s : Cfg) : Value := .agg #[.int .i64 s.nodes, .int .i64 s.mutators, .int .i64 s.slots, .int .i64 s.cel, .int .i64 s.objects, .int .i64 s.stubs, .int .i64 s.calls, .int .i64 s.window, .int .i64 s.grey, .int .i64 s.bag, .int .i64 s.inbox, .int .u64 s.unit, .int .u64 s.drift, .int .u64 s.lease, .int .u64 s.wait, .int .u64 s.most, .int .u64 s.patience, .int .i64 s.suspect, .int .i64 s.trace, .int .i64 s.work, .int .u64 s.start, .int .u64 s.last]
theorem Cfg.one (s : Cfg) : ∀ u ∈ s.cells, u.oneCell' = true := by
  intro u hu
  simp only [Cfg.cells, List.mem_cons, List.not_mem_nil, or_false] at hu
  rcases hu with rfl | rfl | rfl | rfl | rfl | rfl | rfl | rfl | rfl | rfl | rfl | rfl | rfl | rfl | rfl | rfl | rfl | rfl | rfl | rfl | rfl | rfl <;> rfl
theorem ld_Cfg {w : World} {p : Addr} {s : Cfg} {K : Int → Int → Int → Int → Int → Int → Int → Int → Int → Int → Int → Int → Int → Int → Int → Int → Int → Int → Int → Int → Int → Int → Prop} (h : At w p s.cells) (hk : K s.nodes s.mutators s.slots s.cel s.objects s.stubs s.calls s.window s.grey s.bag s.inbox s.unit s.drift s.lease s.wait s.most s.patience s.suspect s.trace s.work s.start s.last) :
    ldI .i64 w (p.add 0) fun x0 => ldI .i64 w (p.add 1) fun x1 => ldI .i64 w (p.add 2) fun x2 => ldI .i64 w (p.add 3) fun x3 => ldI .i64 w (p.add 4) fun x4 => ldI .i64 w (p.add 5) fun x5 => ldI .i64 w (p.add 6) fun x6 => ldI .i64 w (p.add 7) fun x7 => ldI .i64 w (p.add 8) fun x8 => ldI .i64 w (p.add 9) fun x9 => ldI .i64 w (p.add 10) fun x10 => ldI .u64 w (p.add 11) fun x11 => ldI .u64 w (p.add 12) fun x12 => ldI .u64 w (p.add 13) fun x13 => ldI .u64 w (p.add 14) fun x14 => ldI .u64 w (p.add 15) fun x15 => ldI .u64 w (p.add 16) fun x16 => ldI .i64 w (p.add 17) fun x17 => ldI .i64 w (p.add 18) fun x18 => ldI .i64 w (p.add 19) fun x19 => ldI .u64 w (p.add 20) fun x20 => ldI .u64 w (p.add 21) fun x21 => K x0 x1 x2 x3 x4 x5 x6 x7 x8 x9 x10 x11 x12 x13 x14 x15 x16 x17 x18 x19 x20 x21 := (ld_int (h 0 _ rfl) (ld_int (h 1 _ rfl) (ld_int (h 2 _ rfl) (ld_int (h 3 _ rfl) (ld_int (h 4 _ rfl) (ld_int (h 5 _ rfl) (ld_int (h 6 _ rfl) (ld_int (h 7 _ rfl) (ld_int (h 8 _ rfl) (ld_int (h 9 _ rfl) (ld_int (h 10 _ rfl) (ld_int (h 11 _ rfl) (ld_int (h 12 _ rfl) (ld_int (h 13 _ rfl) (ld_int (h 14 _ rfl) (ld_int (h 15 _ rfl) (ld_int (h 16 _ rfl) (ld_int (h 17 _ rfl) (ld_int (h 18 _ rfl) (ld_int (h 19 _ rfl) (ld_int (h 20 _ rfl) (ld_int (h 21 _ rfl) hk))))))))))))))))))))))
structure Raw where
  nodes : Int
  mutators : Int
  slots : Int
  cel : Int
  objects : Int
  stubs : Int
  calls : Int
  window : Int
  grey : Int
  bag : Int
  inbox : Int
  unit : Int
  drift : Int
  lease : Int
  wait : Int
  most : Int
  patience : Int
  suspect : Int
  trace : Int
  work : Int
  start : Int
  last : Int
deriving DecidableEq
def Raw.cells (s : Raw) : List Value := [.int .i64 s.nodes, .int .i64 s.mutators, .int .i64 s.slots, .int .i64 s.cel, .int .i64 s.objects, .int .i64 s.stubs, .int .i64 s.calls, .int .i64 s.window, .int .i64 s.grey, .int .i64 s.bag, .int .i64 s.inbox, .int .i64 s.unit, .int .i64 s.drift, .int .i64 s.lease, .int .i64 s.wait, .int .i64 s.most, .int .i64 s.patience, .int .i64 s.suspect, .int .i64 s.trace, .int .i64 s.work, .int .u64 s.start, .int .u64 s.last]
abbrev Raw.val (s : Raw) : Value := .agg #[.int .i64 s.nodes, .int .i64 s.mutators, .int .i64 s.slots, .int .i64 s.cel, .int .i64 s.objects, .int .i64 s.stubs, .int .i64 s.calls, .int .i64 s.window, .int .i64 s.grey, .int .i64 s.bag, .int .i64 s.inbox, .int .i64 s.unit, .int .i64 s.drift, .int .i64 s.lease, .int .i64 s.wait, .int .i64 s.most, .int .i64 s.patience, .int .i64 s.suspect, .int .i64 s.trace, .int .i64 s.work, .int .u64 s.start, .int .u64 s.last]
theorem ld_Raw {w : World} {p : Addr} {s : Raw} {K : Int → Int → Int → Int → Int → Int → Int → Int → Int → Int → Int → Int → Int → Int → Int → Int → Int → Int → Int → Int → Int → Int → Prop} (h : At w p s.cells) (hk : K s.nodes s.mutators s.slots s.cel s.objects s.stubs s.calls s.window s.grey s.bag s.inbox s.unit s.drift s.lease s.wait s.most s.patience s.suspect s.trace s.work s.start s.last) :
    ldI .i64 w (p.add 0) fun x0 => ldI .i64 w (p.add 1) fun x1 => ldI .i64 w (p.add 2) fun x2 => ldI .i64 w (p.add 3) fun x3 => ldI .i64 w (p.add 4) fun x4 => ldI .i64 w (p.add 5) fun x5 => ldI .i64 w (p.add 6) fun x6 => ldI .i64 w (p.add 7) fun x7 => ldI .i64 w (p.add 8) fun x8 => ldI .i64 w (p.add 9) fun x9 => ldI .i64 w (p.add 10) fun x10 => ldI .i64 w (p.add 11) fun x11 => ldI .i64 w (p.add 12) fun x12 => ldI .i64 w (p.add 13) fun x13 => ldI .i64 w (p.add 14) fun x14 => ldI .i64 w (p.add 15) fun x15 => ldI .i64 w (p.add 16) fun x16 => ldI .i64 w (p.add 17) fun x17 => ldI .i64 w (p.add 18) fun x18 => ldI .i64 w (p.add 19) fun x19 => ldI .u64 w (p.add 20) fun x20 => ldI .u64 w (p.add 21) fun x21 => K x0 x1 x2 x3 x4 x5 x6 x7 x8 x9 x10 x11 x12 x13 x14 x15 x16 x17 x18 x19 x20 x21 := (ld_int (h 0 _ rfl) (ld_int (h 1 _ rfl) (ld_int (h 2 _ rfl) (ld_int (h 3 _ rfl) (ld_int (h 4 _ rfl) (ld_int (h 5 _ rfl) (ld_int (h 6 _ rfl) (ld_int (h 7 _ rfl) (ld_int (h 8 _ rfl) (ld_int (h 9 _ rfl) (ld_int (h 10 _ rfl) (ld_int (h 11 _ rfl) (ld_int (h 12 _ rfl) (ld_int (h 13 _ rfl) (ld_int (h 14 _ rfl) (ld_int (h 15 _ rfl) (ld_int (h 16 _ rfl) (ld_int (h 17 _ rfl) (ld_int (h 18 _ rfl) (ld_int (h 19 _ rfl) (ld_int (h 20 _ rfl) (ld_int (h 21 _ rfl) hk))))))))))))))))))))))
structure Idn where
  nd : Int
  sr : Int
deriving DecidableEq
def Idn.cells (s : Idn) : List Value := [.int .i64 s.nd, .int .u64 s.sr]
structure Cl where
  to : Int
  num : Int
  op : Int
  field : Int
  tn : Int
  ts : Int
  refsp : Option Addr
  refsn : Nat
  refsc : Nat
  value : Int
  state : Int
  code : Int
  resultp : Option Addr
  resultn : Nat
  resultc : Nat
  back : Int
  sent : Int
  wait : Int
  born : Int
def Cl.cells (s : Cl) : List Value := [.int .i64 s.to, .int .u64 s.num, .int .i64 s.op, .int .i64 s.field, .int .i64 s.tn, .int .u64 s.ts, .slice s.refsp s.refsn s.refsc, .int .u64 s.value, .int .i64 s.state, .int .i64 s.code, .slice s.resultp s.resultn s.resultc, .int .u64 s.back, .int .u64 s.sent, .int .u64 s.wait, .int .u64 s.born]
abbrev Cl.val (s : Cl) : Value := .agg #[.int .i64 s.to, .int .u64 s.num, .int .i64 s.op, .int .i64 s.field, .int .i64 s.tn, .int .u64 s.ts, .slice s.refsp s.refsn s.refsc, .int .u64 s.value, .int .i64 s.state, .int .i64 s.code, .slice s.resultp s.resultn s.resultc, .int .u64 s.back, .int .u64 s.sent, .int .u64 s.wait, .int .u64 s.born]
theorem Cl.len (s : Cl) : s.cells.length = 15 := rfl
theorem Cl.one (s : Cl) : ∀ u ∈ s.cells, u.oneCell' = true := by
  intro u hu
  simp only [Cl.cells, List.mem_cons, List.not_mem_nil, or_false] at hu
  rcases hu with rfl | rfl | rfl | rfl | rfl | rfl | rfl | rfl | rfl | rfl | rfl | rfl | rfl | rfl | rfl <;> rfl
theorem ld_Cl {w : World} {p : Addr} {s : Cl} {K : Int → Int → Int → Int → Int → Int → Option Addr → Nat → Nat → Int → Int → Int → Option Addr → Nat → Nat → Int → Int → Int → Int → Prop} (h : At w p s.cells) (hk : K s.to s.num s.op s.field s.tn s.ts s.refsp s.refsn s.refsc s.value s.state s.code s.resultp s.resultn s.resultc s.back s.sent s.wait s.born) :
    ldI .i64 w (p.add 0) fun x0 => ldI .u64 w (p.add 1) fun x1 => ldI .i64 w (p.add 2) fun x2 => ldI .i64 w (p.add 3) fun x3 => ldI .i64 w (p.add 4) fun x4 => ldI .u64 w (p.add 5) fun x5 => ldSl w (p.add 6) fun x6p x6n x6c => ldI .u64 w (p.add 7) fun x7 => ldI .i64 w (p.add 8) fun x8 => ldI .i64 w (p.add 9) fun x9 => ldSl w (p.add 10) fun x10p x10n x10c => ldI .u64 w (p.add 11) fun x11 => ldI .u64 w (p.add 12) fun x12 => ldI .u64 w (p.add 13) fun x13 => ldI .u64 w (p.add 14) fun x14 => K x0 x1 x2 x3 x4 x5 x6p x6n x6c x7 x8 x9 x10p x10n x10c x11 x12 x13 x14 := (ld_int (h 0 _ rfl) (ld_int (h 1 _ rfl) (ld_int (h 2 _ rfl) (ld_int (h 3 _ rfl) (ld_int (h 4 _ rfl) (ld_int (h 5 _ rfl) (ld_sl (h 6 _ rfl) (ld_int (h 7 _ rfl) (ld_int (h 8 _ rfl) (ld_int (h 9 _ rfl) (ld_sl (h 10 _ rfl) (ld_int (h 11 _ rfl) (ld_int (h 12 _ rfl) (ld_int (h 13 _ rfl) (ld_int (h 14 _ rfl) hk)))))))))))))))
end Go.Proofs.YtdgoalhnkegbmaaGreatX
namespace Go.Proofs.YtdgoalhnkegbmaaGreatX
open Go.RowKit
set_option linter.unusedVariables false
set_option linter.unusedSimpArgs false
def vc_CB (e : Int × Cl) : List Value := e.2.cells
theorem vc_len_CB (e : Int × Cl) : (vc_CB e).length = 15 := e.2.len
structure Tab_CB (w : World) (a : Addr) (foot : List Nat) (most : Int) (l : List (Int × Cl)) (g : Nat) (pk pv : Option Addr) (ck cv : Nat) : Prop where
  ad : a = at0 g 0
  blk : Blk w g [.slice pk l.length ck, .slice pv l.length cv, .int .i64 most] 83
  ks : Own 22 1 w pk l.length ck ((keys l).map (Value.int .u64))
  vs : Own 50 15 w pv l.length cv (l.flatMap vc_CB)
  ft : foot = g :: (fbl pk ++ fbl pv)
  gk : g ∉ fbl pk
  gv : g ∉ fbl pv
  kv : ∀ x ∈ fbl pk, x ∉ fbl pv
  srt : Srt ilt (keys l)
  le : (l.length : Int) ≤ most
  top : most ≤ 4096
def T_CB (w : World) (a : Addr) (foot : List Nat) (most : Int) (l : List (Int × Cl)) : Prop := ∃ g pk pv ck cv, Tab_CB w a foot most l g pk pv ck cv
section
variable {w w' : World} {a : Addr} {foot S : List Nat} {most : Int} {l : List (Int × Cl)} {Q : Value → World → Prop}
theorem T_CB.keep (h : T_CB w a foot most l) (f : Fr S w w') (hd : ∀ x ∈ foot, x ∉ S) : T_CB w' a foot most l := by
  obtain ⟨g, pk, pv, ck, cv, t⟩ := h
  refine ⟨g, pk, pv, ck, cv, t.ad, t.blk.keep f (hd g ?_), t.ks.keep f (fun x hx => hd x ?_), t.vs.keep f (fun x hx => hd x ?_), t.ft, t.gk, t.gv, t.kv, t.srt, t.le, t.top⟩ <;> rw [t.ft] <;> simp_all
theorem T_CB.keep' (h : T_CB w a foot most l) (f : Fr [] w w') : T_CB w' a foot most l := h.keep f (by simp)
theorem T_CB.lt (h : T_CB w a foot most l) : ∀ x ∈ foot, x < w.heap.size := by
  obtain ⟨g, pk, pv, ck, cv, t⟩ := h
  intro x hx
  rw [t.ft] at hx
  rcases List.mem_cons.1 hx with rfl | hx
  · exact t.blk.lt
  · rcases List.mem_append.1 hx with hx | hx
    · exact t.ks.lt x hx
    · exact t.vs.lt x hx
theorem T_CB.sorted (h : T_CB w a foot most l) : Srt ilt (keys l) := by obtain ⟨g, pk, pv, ck, cv, t⟩ := h; exact t.srt
theorem T_CB.size (h : T_CB w a foot most l) : (l.length : Int) ≤ most ∧ most ≤ 4096 := by obtain ⟨g, pk, pv, ck, cv, t⟩ := h; exact ⟨t.le, t.top⟩
theorem fm_one_CB (l : List (Int × Cl)) : ∀ u ∈ l.flatMap vc_CB, u.oneCell' = true := by
  intro u hu
  obtain ⟨e, _, he⟩ := List.mem_flatMap.1 hu
  exact e.2.one u he
theorem km_one_CB (ks : List Int) : ∀ u ∈ ks.map (Value.int .u64), u.oneCell' = true := by
  intro u hu
  obtain ⟨e, _, rfl⟩ := List.mem_map.1 hu
  rfl
theorem new_CB {m : Int} (hbad : (m < 1 ∨ 4096 < m) → Q (.tuple #[.pointer none, .int .i64 1]) w)
    (hK : 1 ≤ m → m ≤ 4096 → ∀ w', T_CB w' (at0 w.heap.size 0) [w.heap.size] m [] → Fr [] w w' → Q (.tuple #[.pointer (some (at0 w.heap.size 0)), .int .i64 0]) w') :
    CallR Tryz.prog 12 #[.int .i64 m] w Q := by
  refine X12.sound _ _ _ ?_
  unfold X12.f
  refine bc_dec (fun h => hbad (.inl h)) (fun h => bc_dec (fun h2 => hbad (.inr h2)) (fun h2 => ?_))
  refine hK (by omega) (by omega) _ ⟨w.heap.size, none, none, 0, 0, rfl, Blk.made w _ _, Own.nil, Own.nil, rfl, by simp [fbl], by simp [fbl], by simp [fbl], List.Pairwise.nil, by simp; omega, by omega⟩ (Fr.alloc _ _)
theorem put_CB {k : Int} {v : Cl} (h : T_CB w a foot most l)
    (hno : has ilt l k = false → most ≤ l.length → ∀ w', Fr [] w w' → Q (.bool false) w')
    (hK : (has ilt l k = true ∨ (l.length : Int) < most) → ∀ foot' w', T_CB w' a foot' most (put ilt l k v) → Fr foot w w' → (∀ x ∈ foot', x ∈ foot ∨ w.heap.size ≤ x) → Q (.bool true) w') :
    CallR Tryz.prog 71 #[.pointer (some a), (Value.int .u64) k, v.val] w Q := by
  obtain ⟨g, pk, pv, ck, cv, t⟩ := h
  obtain ⟨rfl, hb, hk, hvs, hft, hgk, hgv, hkv, hs, hle, htop⟩ := t
  apply X71.sound
  unfold X71.f
  simp only [optP_some]
  refine newB fun gv w2 bv f2 hgv2 => ?_
  have hgl := hb.lt
  have hkl := hk.lt
  have hvl := hvs.lt
  have hb := hb.keep' f2
  have hk := hk.keep' f2
  have hvs := hvs.keep' f2
  refine ld_sl (hb.cat 0 _ rfl) (bs_73 hk.cells (by simp) hs (by omega) ⟨_, _, rfl, ?_⟩)
  have hat : rank ilt (keys l) k = at_ ilt l k := rfl
  have hhas : decide ((keys l)[at_ ilt l k]? = some k) = has ilt l k := rfl
  rw [hat, hhas]
  refine bc_bool (fun hh => ?_) (fun hh => ?_)
  · have hlt := at_lt hh
    refine drawn fun w9 f9 e9 => ?_
    have f09 := f2.tr f9
    refine ld_sl ((hb.keep' f9).cat 1 _ rfl) (ld_Cl (bv.keep' f9).cat ⟨⟨by omega, by omega⟩, ?_⟩)
    rw [Int.toNat_natCast]
    refine own_put vc_len_CB (hvs.keep' f9) hlt rfl (k, v) fun w22 o22 f22 => ?_
    have hput : put ilt l k v = l.set (at_ ilt l k) (k, v) := by unfold put; rw [if_pos hh]
    have hkeys : keys (put ilt l k v) = keys l := by
      rw [hput, keys, List.map_set]
      simp only [has, decide_eq_true_eq] at hh
      obtain ⟨h1, h2⟩ := List.getElem?_eq_some_iff.1 hh
      have : ((k, v).1 : Int) = (keys l)[at_ ilt l k] := h2.symm
      rw [this, List.set_getElem_self]
    have hln : (put ilt l k v).length = l.length := by rw [hput, List.length_set]
    refine hK (.inl hh) _ _ ⟨g, pk, pv, ck, cv, rfl, ?_, ?_, ?_, rfl, hgk, hgv, hkv, by rw [hkeys]; exact hs, by rw [hln]; exact hle, htop⟩ (f09.any.sub f22 fun x hx => by rw [hft]; simp [hx]) (fun x hx => .inl (by rw [hft]; exact hx))
    · rw [hln]; exact (hb.keep' f9).keep f22 hgv
    · rw [hln, hkeys]; exact (hk.keep' f9).keep f22 hkv
    · rw [hln, hput]; exact o22
  · refine drawn fun w9 f9 e9 => ?_
    have f09 := f2.tr f9
    have hb9 := hb.keep' f9
    refine ld_sl (hb9.cat 0 _ rfl) (ld_int (hb9.cat 2 _ rfl) (bc_dec (fun hge => ?_) (fun hlt => ?_)))
    · exact hno hh (by omega) _ f09
    · refine ld_sl (hb9.cat 0 _ rfl) (newB fun g1 w1 bk f1 hg1 => ?_)
      have f01 := f09.tr f1
      have s1 := f09.size
      have s2 := f01.size
      have hk1 := hk.keep' (f9.tr f1)
      have hv1 := hvs.keep' (f9.tr f1)
      have hb1 := hb9.keep' f1
      have bv1 := bv.keep' (f9.tr f1)
      have s02 := f2.size
      refine ins_93 hk1 (at_le l k) bk rfl (km_one_CB _) (fun u hu => by simp at hu; subst hu; rfl) (fun hm => by have := hkl _ hm; omega) (by omega) ?_
      intro pk' ck' w2 hk2 f2' e2
      refine ⟨_, _, _, rfl, ?_⟩
      have hb2 := hb1.keep f2' hgk
      have hv2 := hv1.keep f2' (fun x hx hm => hkv x hm hx)
      have bv2 := bv1.keep f2' (fun hm => by have := hkl _ hm; omega)
      refine stB hb2 (by simp) fun w3 hb3 f3 => ?_
      have hgk' : g ∉ fbl pk' := fun hm => by rcases e2 g hm with h | h; exact hgk h; omega
      have hk3 := hk2.keep f3 (fun x hx hm => hgk' (by simp at hm; rwa [← hm]))
      have hv3 := hv2.keep f3 (fun x hx hm => hgv (by simp at hm; rwa [← hm]))
      have bv3 := bv2.keep f3 (fun hm => by simp at hm; omega)
      have f03 : Fr (g :: fbl pk) w w3 := (f01.any.sub f2' fun x hx => by simp [hx]).inl f3 (by simp)
      have s3 := f03.size
      have s03 := f3.size
      have hkl2 := hk2.lt
      refine drawn fun w4 f4 e4 => ?_
      have hb4 := hb3.keep' f4
      refine ld_sl (hb4.cat 1 _ rfl) (ld_Cl (bv3.keep' f4).cat (newB fun g5 w5 b5 f5 hg5 => ⟨⟨hb4.cat 1 _ rfl, (hb4.keep' f5).cat 1 _ rfl⟩, ?_⟩))
      have f45 := f4.tr f5
      have hb5 := hb4.keep' f5
      have hk5 := hk3.keep' f45
      have hv5 := hv3.keep' f45
      have s5 := f45.size
      refine ins_94 hv5 (at_le l k) b5 v.len (fm_one_CB _) v.one (fun hm => by have := hvl _ hm; omega) (by omega) ?_
      intro pv' cv' w6 hv6 f6 e6
      refine ⟨_, _, _, rfl, ?_⟩
      have hb6 := hb5.keep f6 hgv
      have hkv' : ∀ x ∈ fbl pk', x ∉ fbl pv' := fun x hx hm => by
        have h1 := hkl2 x hx
        rcases e6 x hm with h | h
        · rcases e2 x hx with h' | h'
          · exact hkv x h' h
          · have := hvl x h; omega
        · omega
      have hk6 := hk5.keep f6 (fun x hx hm => by
        rcases e2 x hx with h' | h'
        · exact hkv x h' hm
        · have := hvl x hm; omega)
      have hgv' : g ∉ fbl pv' := fun hm => by rcases e6 g hm with h | h; exact hgv h; omega
      refine stB hb6 (by simp) fun w7 hb7 f7 => ?_
      have hk7 := hk6.keep f7 (fun x hx hm => hgk' (by simp at hm; rwa [← hm]))
      have hv7 := hv6.keep f7 (fun x hx hm => hgv' (by simp at hm; rwa [← hm]))
      have f07 : Fr foot w w7 := by
        rw [hft]
        exact (((f03.mono (fun x hx => by simp at hx; rcases hx with h | h <;> simp [h])).tr f45.any).sub f6 fun x hx => by simp [hx]).inl f7 (by simp)
      have hput : put ilt l k v = l.take (at_ ilt l k) ++ (k, v) :: l.drop (at_ ilt l k) := by unfold put; rw [if_neg (by simp [hh])]
      have hln : (put ilt l k v).length = l.length + 1 := by rw [put_length, if_neg (by simp [hh])]
      refine hK (.inr (by omega)) _ _ ⟨g, pk', pv', ck', cv', rfl, ?_, ?_, ?_, rfl, hgk', hgv', hkv', put_srt ilt_lin hs, by rw [hln]; omega, htop⟩ f07 ?_
      · rw [hln]; exact hb7
      · rw [hln, hput]
        have : (keys (l.take (at_ ilt l k) ++ (k, v) :: l.drop (at_ ilt l k))).map (Value.int .u64) = ((keys l).map (Value.int .u64)).take (at_ ilt l k * 1) ++ [(Value.int .u64) k] ++ ((keys l).map (Value.int .u64)).drop (at_ ilt l k * 1) := by
          simp [keys, List.map_take, List.map_drop]
        rw [this]; exact hk7
      · rw [hln, hput, flat_ins vc_len_CB]; exact hv7
      · intro x hx
        rw [hft]
        rcases List.mem_cons.1 hx with rfl | hx
        · exact .inl (by simp)
        · rcases List.mem_append.1 hx with hx | hx
          · rcases e2 x hx with h | h
            · exact .inl (by simp [h])
            · exact .inr (by omega)
          · rcases e6 x hx with h | h
            · exact .inl (by simp [h])
            · exact .inr (by omega)
theorem get_CB {k : Int} (h : T_CB w a foot most l) (hno : get ilt l k = none → ∀ w', Fr [] w w' → Q (.tuple #[(⟨0, 0, 0, 0, 0, 0, none, 0, 0, 0, 0, 0, none, 0, 0, 0, 0, 0, 0⟩ : Cl).val, .bool false]) w') (hK : ∀ v, get ilt l k = some v → ∀ w', Fr [] w w' → Q (.tuple #[v.val, .bool true]) w') :
    CallR Tryz.prog 42 #[.pointer (some a), (Value.int .u64) k] w Q := by
  obtain ⟨g, pk, pv, ck, cv, t⟩ := h
  obtain ⟨rfl, hb, hk, hvs, hft, hgk, hgv, hkv, hs, hle, htop⟩ := t
  refine X42.sound _ _ _ _ ?_
  unfold X42.f
  simp only [optP_some]
  refine newB fun g1 w2 b1 f2 hg1 => ?_
  have hb := hb.keep' f2
  have hk := hk.keep' f2
  have hvs := hvs.keep' f2
  refine ld_sl (hb.cat 0 _ rfl) (bs_73 hk.cells (by simp) hs (by omega) ⟨_, _, rfl, ?_⟩)
  have hat : rank ilt (keys l) k = at_ ilt l k := rfl
  have hhas : decide ((keys l)[at_ ilt l k]? = some k) = has ilt l k := rfl
  rw [hat, hhas]
  refine bc_bool (fun hh => ?_) (fun hh => ?_)
  · refine newB fun g9 w10 b9 f10 hg9 => ?_
    refine ld_Cl (s := ⟨0, 0, 0, 0, 0, 0, none, 0, 0, 0, 0, 0, none, 0, 0, 0, 0, 0, 0⟩) b9.cat (stAllB (b1.keep' f10) rfl fun w20 b20 f20 => ld_Cl (s := ⟨0, 0, 0, 0, 0, 0, none, 0, 0, 0, 0, 0, none, 0, 0, 0, 0, 0, 0⟩) b20.cat ?_)
    exact hno (by unfold get; rw [if_neg (by simpa using hh)]) _ ((f2.tr f10).loc f20 hg1)
  · have hh : has ilt l k = true := by simpa using hh
    have hlt := at_lt hh
    refine ld_sl (hb.cat 1 _ rfl) ⟨⟨by omega, by omega⟩, ?_⟩
    have hi := List.getElem?_eq_getElem hlt
    obtain ⟨p, hp, hc⟩ := own_at vc_len_CB hvs rfl hi
    rw [Int.toNat_natCast]
    refine opt_some hp (ld_Cl (s := (l[at_ ilt l k]).2) hc (stAllB b1 rfl fun w20 b20 f20 => ld_Cl (s := (l[at_ ilt l k]).2) b20.cat ?_))
    exact hK _ (by unfold get; rw [if_pos hh, hi]; rfl) _ (f2.loc f20 hg1)
end
end Go.Proofs.YtdgoalhnkegbmaaGreatX
namespace Go.Proofs.YtdgoalhnkegbmaaGreatX
open Go.RowKit
set_option linter.unusedVariables false
set_option linter.unusedSimpArgs false
theorem delMid74 {cur cs X zs : List Value} {a u : Nat} (h : a + u + cs.length ≤ cur.length) :
    ((cur.take a ++ cs ++ X).take (a + cs.length) ++ zs).take (a + cs.length) = cur.take a ++ cs := by
  have h1 : (cur.take a ++ cs).length = a + cs.length := by simp; omega
  rw [← h1, List.take_left, List.take_left]
theorem del_74 {w : World} {p : Option Addr} {n c i : Nat} {xs : List Value} {Q : Value → World → Prop} (ho : Own 22 1 w p n c xs) (hi : i < n) (h1 : ∀ v ∈ xs, v.oneCell' = true) (hn : n ≤ 1048576)
    (hK : ∀ w', Own 22 1 w' p (n - 1) c (xs.take (i * 1) ++ xs.drop ((i + 1) * 1)) → Fr (fbl p) w w' → Q (.slice p (n - 1) c) w') :
    CallR Tryz.prog 74 #[.slice p n c, .int .i64 (i : Int), .int .i64 (IntKind.wrap .i64 ((i : Int) + 1))] w Q := by
  have e2 : IntKind.wrap .i64 ((i : Int) + 1) = ((i + 1 : Nat) : Int) := by rw [i64w _ (by omega) (by omega)]; omega
  rw [e2]
  refine X74.sound _ _ _ _ _ _ _ ?_
  have hle := ho.le
  have hlen : xs.length = n * 1 := ho.len
  cases p with
  | none => have := ho.none_c; omega
  | some p =>
    have hmx := own_max ho
    obtain ⟨g, cur, rfl, hb, hcl, htk⟩ := Own.blk ho
    unfold X74.f
    simp only [toNat0, cutAt_zero', Nat.sub_zero, Int.toNat_natCast]
    refine slice3 rowT51 (by omega) (by omega) (by omega) ?_
    intro q
    refine ⟨_, _, _, rfl, bc_eq (fun h => by omega) (fun _ => ?_)⟩
    unfold drewK
    have hb1 := hb.keep' (Fr.drew (w := w))
    refine ⟨⟨by omega, by omega, by omega⟩, ⟨by omega, by omega, by omega⟩, ?_⟩
    obtain ⟨ti, z, hinf, hz, hsz, hby, hzs⟩ := rowT51.info
    have hzo : ∀ v ∈ zs (Value.int .u64 0) 1, v.oneCell' = true := by decide +kernel
    have hcs : (cur.drop ((i + 1) * 1)).take ((n - (i + 1)) * 1) = xs.drop ((i + 1) * 1) := by rw [← htk, List.drop_take, show (n - (i + 1)) * 1 = n * 1 - (i + 1) * 1 by omega]
    have hcl2 : (xs.drop ((i + 1) * 1)).length = (n - (i + 1)) * 1 := by rw [List.length_drop]; omega
    obtain ⟨o, ho2, hat⟩ : ∃ o, cutAt 1 c (i + 1) (some (at0 g 0)) = some (at0 g o) ∧ ∀ j u, (xs.drop ((i + 1) * 1))[j]? = some u → w.drew.cell? ((at0 g o).add j) = some u := by
      by_cases hc : c = i + 1
      · refine ⟨0, by unfold cutAt; rw [if_pos hc], fun j u hj => ?_⟩
        have : (xs.drop ((i + 1) * 1)) = [] := List.drop_eq_nil_of_le (by omega)
        rw [this] at hj
        cases hj
      · refine ⟨(i + 1) * 1, cut_at hc, fun j u hj => ?_⟩
        rw [add_at]
        refine hb1.cell ?_
        rw [← hcs, List.getElem?_take] at hj
        split at hj
        · rwa [List.getElem?_drop] at hj
        · cases hj
    rw [ho2]
    have hr := run_append_room (P := Tryz.prog) (w := w.drew) 51 51 22 ti rowT51.under hinf g i c cur.toArray hb1 (at0 g o) (n - (i + 1)) (c - (i + 1)) (xs.drop ((i + 1) * 1)) (by rw [hsz]; exact hcl2) hat (fun u hu => h1 u (List.mem_of_mem_drop hu)) (by omega) (by rw [hsz, hcl2]; simp; omega)
    refine ⟨_, _, hr, ?_⟩
    rw [show i + (n - (i + 1)) = n - 1 by omega, hsz]
    have f2 : Fr [g] w.drew (w.drew.setRow g (cur.toArray.toList.take (i * 1) ++ xs.drop ((i + 1) * 1) ++ cur.toArray.toList.drop (i * 1 + (xs.drop ((i + 1) * 1)).length)).toArray) := ⟨rfl, rfl, rfl, by simp, fun k _ hk => setRow_other _ g k _ (fun e => hk (by simp [e]))⟩
    have b2 : Blk (w.drew.setRow g (cur.toArray.toList.take (i * 1) ++ xs.drop ((i + 1) * 1) ++ cur.toArray.toList.drop (i * 1 + (xs.drop ((i + 1) * 1)).length)).toArray) g (cur.take (i * 1) ++ xs.drop ((i + 1) * 1) ++ cur.drop (i * 1 + (xs.drop ((i + 1) * 1)).length)) 22 := setRow_heap w.drew g cur.toArray _ 22 (0, 0) hb1
    generalize (w.drew.setRow g (cur.toArray.toList.take (i * 1) ++ xs.drop ((i + 1) * 1) ++ cur.toArray.toList.drop (i * 1 + (xs.drop ((i + 1) * 1)).length)).toArray) = w2 at b2 f2 ⊢
    refine ⟨_, _, _, rfl, ⟨by omega, by omega, by omega⟩, ?_⟩
    rw [show (⟨g, 0, none⟩ : Addr) = at0 g 0 from rfl]
    rw [cut_at (s := 1) (g := g) (show c ≠ n - 1 by omega), show n - (n - 1) = 1 by omega]
    have hz'' : (Tryz.prog.info? 22).bind (·.zero) = some (Value.int .u64 0) := zeroT51
    refine clear_blk rowT51 hz'' hzo b2 (by omega) (by rw [hcl2]; simp only [List.length_append, List.length_take, List.length_drop]; omega) ?_
    intro w3 b3 f3
    refine ⟨rfl, hK w3 (own_blk b3 ?_ (by omega) hmx ?_) ((Fr.drew.tr f2).tr f3)⟩
    · have : (zs (Value.int .u64 0) 1).length = 1 := by rw [zs_length]; rfl
      rw [List.length_append, List.length_append, this]
      simp only [List.length_append, List.length_take, List.length_drop]; omega
    · have a1 : xs.take (i * 1) = cur.take (i * 1) := by rw [← htk, List.take_take, Nat.min_eq_left (by omega)]
      rw [a1, show (n - 1) * 1 = i * 1 + (xs.drop ((i + 1) * 1)).length by rw [hcl2]; omega, List.append_assoc ((cur.take (i * 1) ++ xs.drop ((i + 1) * 1) ++ cur.drop (i * 1 + (xs.drop ((i + 1) * 1)).length)).take _)]
      exact delMid74 (u := 1) (by rw [hcl2]; omega)
end Go.Proofs.YtdgoalhnkegbmaaGreatX
namespace Go.Proofs.YtdgoalhnkegbmaaGreatX
open Go.RowKit
set_option linter.unusedVariables false
set_option linter.unusedSimpArgs false
theorem delMid75 {cur cs X zs : List Value} {a u : Nat} (h : a + u + cs.length ≤ cur.length) :
    ((cur.take a ++ cs ++ X).take (a + cs.length) ++ zs).take (a + cs.length) = cur.take a ++ cs := by
  have h1 : (cur.take a ++ cs).length = a + cs.length := by simp; omega
  rw [← h1, List.take_left, List.take_left]
theorem del_75 {w : World} {p : Option Addr} {n c i : Nat} {xs : List Value} {Q : Value → World → Prop} (ho : Own 50 15 w p n c xs) (hi : i < n) (h1 : ∀ v ∈ xs, v.oneCell' = true) (hn : n ≤ 1048576)
    (hK : ∀ w', Own 50 15 w' p (n - 1) c (xs.take (i * 15) ++ xs.drop ((i + 1) * 15)) → Fr (fbl p) w w' → Q (.slice p (n - 1) c) w') :
    CallR Tryz.prog 75 #[.slice p n c, .int .i64 (i : Int), .int .i64 (IntKind.wrap .i64 ((i : Int) + 1))] w Q := by
  have e2 : IntKind.wrap .i64 ((i : Int) + 1) = ((i + 1 : Nat) : Int) := by rw [i64w _ (by omega) (by omega)]; omega
  rw [e2]
  refine X75.sound _ _ _ _ _ _ _ ?_
  have hle := ho.le
  have hlen : xs.length = n * 15 := ho.len
  cases p with
  | none => have := ho.none_c; omega
  | some p =>
    have hmx := own_max ho
    obtain ⟨g, cur, rfl, hb, hcl, htk⟩ := Own.blk ho
    unfold X75.f
    simp only [toNat0, cutAt_zero', Nat.sub_zero, Int.toNat_natCast]
    refine slice3 rowT55 (by omega) (by omega) (by omega) ?_
    intro q
    refine ⟨_, _, _, rfl, bc_eq (fun h => by omega) (fun _ => ?_)⟩
    unfold drewK
    have hb1 := hb.keep' (Fr.drew (w := w))
    refine ⟨⟨by omega, by omega, by omega⟩, ⟨by omega, by omega, by omega⟩, ?_⟩
    obtain ⟨ti, z, hinf, hz, hsz, hby, hzs⟩ := rowT55.info
    have hzo : ∀ v ∈ zs (Value.agg #[.int .i64 0, .int .u64 0, .int .i64 0, .int .i64 0, .int .i64 0, .int .u64 0, .slice none 0 0, .int .u64 0, .int .i64 0, .int .i64 0, .slice none 0 0, .int .u64 0, .int .u64 0, .int .u64 0, .int .u64 0]) 1, v.oneCell' = true := by decide +kernel
    have hcs : (cur.drop ((i + 1) * 15)).take ((n - (i + 1)) * 15) = xs.drop ((i + 1) * 15) := by rw [← htk, List.drop_take, show (n - (i + 1)) * 15 = n * 15 - (i + 1) * 15 by omega]
    have hcl2 : (xs.drop ((i + 1) * 15)).length = (n - (i + 1)) * 15 := by rw [List.length_drop]; omega
    obtain ⟨o, ho2, hat⟩ : ∃ o, cutAt 15 c (i + 1) (some (at0 g 0)) = some (at0 g o) ∧ ∀ j u, (xs.drop ((i + 1) * 15))[j]? = some u → w.drew.cell? ((at0 g o).add j) = some u := by
      by_cases hc : c = i + 1
      · refine ⟨0, by unfold cutAt; rw [if_pos hc], fun j u hj => ?_⟩
        have : (xs.drop ((i + 1) * 15)) = [] := List.drop_eq_nil_of_le (by omega)
        rw [this] at hj
        cases hj
      · refine ⟨(i + 1) * 15, cut_at hc, fun j u hj => ?_⟩
        rw [add_at]
        refine hb1.cell ?_
        rw [← hcs, List.getElem?_take] at hj
        split at hj
        · rwa [List.getElem?_drop] at hj
        · cases hj
    rw [ho2]
    have hr := run_append_room (P := Tryz.prog) (w := w.drew) 55 55 50 ti rowT55.under hinf g i c cur.toArray hb1 (at0 g o) (n - (i + 1)) (c - (i + 1)) (xs.drop ((i + 1) * 15)) (by rw [hsz]; exact hcl2) hat (fun u hu => h1 u (List.mem_of_mem_drop hu)) (by omega) (by rw [hsz, hcl2]; simp; omega)
    refine ⟨_, _, hr, ?_⟩
    rw [show i + (n - (i + 1)) = n - 1 by omega, hsz]
    have f2 : Fr [g] w.drew (w.drew.setRow g (cur.toArray.toList.take (i * 15) ++ xs.drop ((i + 1) * 15) ++ cur.toArray.toList.drop (i * 15 + (xs.drop ((i + 1) * 15)).length)).toArray) := ⟨rfl, rfl, rfl, by simp, fun k _ hk => setRow_other _ g k _ (fun e => hk (by simp [e]))⟩
    have b2 : Blk (w.drew.setRow g (cur.toArray.toList.take (i * 15) ++ xs.drop ((i + 1) * 15) ++ cur.toArray.toList.drop (i * 15 + (xs.drop ((i + 1) * 15)).length)).toArray) g (cur.take (i * 15) ++ xs.drop ((i + 1) * 15) ++ cur.drop (i * 15 + (xs.drop ((i + 1) * 15)).length)) 50 := setRow_heap w.drew g cur.toArray _ 50 (0, 0) hb1
    generalize (w.drew.setRow g (cur.toArray.toList.take (i * 15) ++ xs.drop ((i + 1) * 15) ++ cur.toArray.toList.drop (i * 15 + (xs.drop ((i + 1) * 15)).length)).toArray) = w2 at b2 f2 ⊢
    refine ⟨_, _, _, rfl, ⟨by omega, by omega, by omega⟩, ?_⟩
    rw [show (⟨g, 0, none⟩ : Addr) = at0 g 0 from rfl]
    rw [cut_at (s := 15) (g := g) (show c ≠ n - 1 by omega), show n - (n - 1) = 1 by omega]
    have hz'' : (Tryz.prog.info? 50).bind (·.zero) = some (Value.agg #[.int .i64 0, .int .u64 0, .int .i64 0, .int .i64 0, .int .i64 0, .int .u64 0, .slice none 0 0, .int .u64 0, .int .i64 0, .int .i64 0, .slice none 0 0, .int .u64 0, .int .u64 0, .int .u64 0, .int .u64 0]) := zeroT55
    refine clear_blk rowT55 hz'' hzo b2 (by omega) (by rw [hcl2]; simp only [List.length_append, List.length_take, List.length_drop]; omega) ?_
    intro w3 b3 f3
    refine ⟨rfl, hK w3 (own_blk b3 ?_ (by omega) hmx ?_) ((Fr.drew.tr f2).tr f3)⟩
    · have : (zs (Value.agg #[.int .i64 0, .int .u64 0, .int .i64 0, .int .i64 0, .int .i64 0, .int .u64 0, .slice none 0 0, .int .u64 0, .int .i64 0, .int .i64 0, .slice none 0 0, .int .u64 0, .int .u64 0, .int .u64 0, .int .u64 0]) 1).length = 15 := by rw [zs_length]; rfl
      rw [List.length_append, List.length_append, this]
      simp only [List.length_append, List.length_take, List.length_drop]; omega
    · have a1 : xs.take (i * 15) = cur.take (i * 15) := by rw [← htk, List.take_take, Nat.min_eq_left (by omega)]
      rw [a1, show (n - 1) * 15 = i * 15 + (xs.drop ((i + 1) * 15)).length by rw [hcl2]; omega, List.append_assoc ((cur.take (i * 15) ++ xs.drop ((i + 1) * 15) ++ cur.drop (i * 15 + (xs.drop ((i + 1) * 15)).length)).take _)]
      exact delMid75 (u := 15) (by rw [hcl2]; omega)
end Go.Proofs.YtdgoalhnkegbmaaGreatX
namespace Go.Proofs.YtdgoalhnkegbmaaGreatX
open Go.RowKit
set_option linter.unusedVariables false
set_option linter.unusedSimpArgs false
section
variable {w w' : World} {a : Addr} {foot S : List Nat} {most : Int} {l : List (Int × Cl)} {Q : Value → World → Prop}
/-- the key in a place, or none -/
def ktup_CB (o : Option Int) : Value := .tuple #[(Value.int .u64) (o.getD 0), .bool o.isSome]
theorem from_CB {i : Nat} (h : T_CB w a foot most l) (hi : i ≤ 9223372036854775807) (hK : Q (ktup_CB (keys l)[i]?) w) : CallR Tryz.prog 85 #[.pointer (some a), .int .i64 (i : Int)] w Q := by
  obtain ⟨g, pk, pv, ck, cv, t⟩ := h
  obtain ⟨rfl, hb, hk, hvs, hft, hgk, hgv, hkv, hs, hle, htop⟩ := t
  refine X85.sound _ _ _ _ ?_
  unfold X85.f
  simp only [optP_some, add_at, Nat.zero_add, Nat.add_zero]
  refine bc_neg (by omega) (ld_sl (hb.cell rfl) (bc_dec (fun hge => ?_) (fun hlt => ?_)))
  · rw [List.getElem?_eq_none (by simp; omega)] at hK
    exact hK
  · have hlt' : i < (keys l).length := by simp; omega
    have hi' := List.getElem?_eq_getElem hlt'
    rw [hi'] at hK
    generalize (keys l)[i] = x at hi' hK
    refine ld_sl (hb.cell rfl) ⟨⟨by omega, by omega⟩, ?_⟩
    obtain ⟨p, hp, hc⟩ := cell_73 hk.cells hi'
    exact opt_some hp (ld_int (by rw [Int.toNat_natCast]; exact hc) hK)
theorem next_CB {k : Int} (h : T_CB w a foot most l) (hK : Q (ktup_CB (next ilt l k)) w) : CallR Tryz.prog 65 #[.pointer (some a), (Value.int .u64) k] w Q := by
  have h0 := h
  obtain ⟨g, pk, pv, ck, cv, t⟩ := h
  obtain ⟨rfl, hb, hk, hvs, hft, hgk, hgv, hkv, hs, hle, htop⟩ := t
  refine X65.sound _ _ _ _ ?_
  unfold X65.f
  simp only [optP_some, add_at, Nat.zero_add, Nat.add_zero]
  refine ld_sl (hb.cell rfl) (bs_73 hk.cells (by simp) hs (by omega) ⟨_, _, rfl, ?_⟩)
  have hat : rank ilt (keys l) k = at_ ilt l k := rfl
  have hhas : decide ((keys l)[at_ ilt l k]? = some k) = has ilt l k := rfl
  have hal := at_le (lt := ilt) l k
  rw [hat, hhas]
  unfold next at hK
  refine bc_bool (fun hh => ?_) (fun hh => ?_)
  · rw [show IntKind.wrap .i64 ((at_ ilt l k : Int) + 1) = ((at_ ilt l k + 1 : Nat) : Int) by rw [i64w _ (by omega) (by omega)]; omega]
    rw [if_pos hh] at hK
    exact from_CB h0 (by omega) ⟨_, _, rfl, hK⟩
  · rw [if_neg (by simp [hh])] at hK
    exact from_CB h0 (by omega) ⟨_, _, rfl, hK⟩
end
section
variable {w w' : World} {a : Addr} {foot S : List Nat} {most : Int} {l : List (Int × Cl)} {Q : Value → World → Prop}
theorem first_CB (h : T_CB w a foot most l) (hK : Q (ktup_CB (keys l)[0]?) w) : CallR Tryz.prog 72 #[.pointer (some a)] w Q := by
  refine X72.sound _ _ _ ?_
  exact from_CB (i := 0) h (by omega) ⟨_, _, rfl, hK⟩
theorem after_CB {k : Int} (h : T_CB w a foot most l) (hK : Q (ktup_CB (after ilt l k)) w) : CallR Tryz.prog 41 #[.pointer (some a), (Value.int .u64) k] w Q := by
  refine X41.sound _ _ _ _ ?_
  unfold X41.f
  refine next_CB h ⟨_, _, rfl, ?_⟩
  unfold after at hK
  cases hn : next ilt l k with
  | none =>
    rw [hn] at hK
    exact bc_bool (fun _ => first_CB h ⟨_, _, rfl, hK⟩) (fun h => by cases h)
  | some x =>
    rw [hn] at hK
    exact bc_bool (fun h => by cases h) (fun _ => hK)
end
theorem len_CB {w : World} {a : Addr} {foot : List Nat} {most : Int} {l : List (Int × Cl)} {Q : Value → World → Prop} (h : T_CB w a foot most l) (hK : Q (.int .i64 (l.length : Int)) w) : CallR Tryz.prog 39 #[.pointer (some a)] w Q := by
  obtain ⟨g, pk, pv, ck, cv, t⟩ := h
  obtain ⟨rfl, hb, hk, hvs, hft, hgk, hgv, hkv, hs, hle, htop⟩ := t
  refine X39.sound _ _ _ ?_
  unfold X39.f
  simp only [optP_some, add_at, Nat.zero_add, Nat.add_zero]
  exact ld_sl (hb.cell rfl) hK
theorem keys_CB {w : World} {a : Addr} {foot : List Nat} {most : Int} {l : List (Int × Cl)} {Q : Value → World → Prop} (h : T_CB w a foot most l)
    (hK : ∀ p c w', Own 22 1 w' p l.length c ((keys l).map (Value.int .u64)) → Fr [] w w' → (∀ x ∈ fbl p, w.heap.size ≤ x) → Q (.slice p l.length c) w') : CallR Tryz.prog 62 #[.pointer (some a)] w Q := by
  obtain ⟨g, pk, pv, ck, cv, t⟩ := h
  obtain ⟨rfl, hb, hk, hvs, hft, hgk, hgv, hkv, hs, hle, htop⟩ := t
  refine X62.sound _ _ _ ?_
  unfold X62.f newK
  simp only [optP_some, add_at, Nat.zero_add, Nat.add_zero]
  have f1 : Fr [] w (w.alloc (.cells #[] 22)) := Fr.alloc _ _
  have ho := Own.made (w := w) (e := 22) (sz := 1) #[] 0 (Nat.zero_le _) rfl
  have hb1 := hb.keep' f1
  have hk1 := hk.keep' f1
  have s1 := f1.size
  generalize w.alloc (.cells #[] 22) = w1 at *
  refine ld_sl (hb1.cell rfl) ?_
  refine app_own rowT51 ho hk1.cells (by simp) (fun h => by subst h; exact hk1.none_c.2.1) (km_one_CB _) (by simp only [maxLen]; omega) (by omega) ?_
  intro p' c' w' h1 h2 h3
  rw [Nat.zero_add] at h1 ⊢
  refine ⟨_, _, _, rfl, hK p' c' w' (by simpa using h1) ?_ ?_⟩
  · exact f1.trans h2 (fun x hx => by simp [fbl] at hx; exact .inr (by omega))
  · intro x hx
    rcases h3 x hx with h | h
    · simp [fbl] at h; omega
    · omega
section
variable {w w' : World} {a : Addr} {foot S : List Nat} {most : Int} {l : List (Int × Cl)} {Q : Value → World → Prop}
theorem drop_CB {k : Int} (h : T_CB w a foot most l) (hK : ∀ w', T_CB w' a foot most (drp ilt l k) → Fr foot w w' → Q (.bool (has ilt l k)) w') :
    CallR Tryz.prog 47 #[.pointer (some a), (Value.int .u64) k] w Q := by
  have h0 := h
  obtain ⟨g, pk, pv, ck, cv, t⟩ := h
  obtain ⟨rfl, hb, hk, hvs, hft, hgk, hgv, hkv, hs, hle, htop⟩ := t
  refine X47.sound _ _ _ _ ?_
  unfold X47.f
  simp only [optP_some, add_at, Nat.zero_add, Nat.add_zero]
  refine ld_sl (hb.cell rfl) (bs_73 hk.cells (by simp) hs (by omega) ⟨_, _, rfl, ?_⟩)
  have hat : rank ilt (keys l) k = at_ ilt l k := rfl
  have hhas : decide ((keys l)[at_ ilt l k]? = some k) = has ilt l k := rfl
  have hgl := hb.lt
  rw [hat, hhas]
  refine bc_bool (fun hh => ?_) (fun hh => ?_)
  · have hlt := at_lt hh
    rw [hh] at hK ⊢
    refine ld_sl (hb.cell rfl) (del_74 hk hlt (km_one_CB _) (by omega) ?_)
    intro w2 hk2 f2
    refine ⟨_, _, _, rfl, ?_⟩
    have hb2 := hb.keep f2 hgk
    have hv2 := hvs.keep f2 (fun x hx hm => hkv x hm hx)
    refine ⟨hb2.storeOk (by simp), ?_⟩
    have hb3 := hb2.set 0 (.slice pk (l.length - 1) ck)
    have f3 : Fr [g] w2 (w2.setCell (at0 g 0) (.slice pk (l.length - 1) ck)) := Fr.setCell (by simp [at0]) _
    have hk3 := hk2.keep f3 (fun x hx hm => hgk (by simp at hm; rwa [← hm]))
    have hv3 := hv2.keep f3 (fun x hx hm => hgv (by simp at hm; rwa [← hm]))
    generalize w2.setCell (at0 g 0) (.slice pk (l.length - 1) ck) = w3 at *
    refine ld_sl (hb3.cell rfl) (del_75 hv3 hlt (fm_one_CB _) (by omega) ?_)
    intro w5 hv5 f5
    refine ⟨_, _, _, rfl, ?_⟩
    have hb5 := hb3.keep f5 hgv
    have hk5 := hk3.keep f5 hkv
    refine ⟨hb5.storeOk (by simp), ?_⟩
    have hb6 := hb5.set 1 (.slice pv (l.length - 1) cv)
    have f6 : Fr [g] w5 (w5.setCell (at0 g 1) (.slice pv (l.length - 1) cv)) := Fr.setCell (by simp [at0]) _
    have hk6 := hk5.keep f6 (fun x hx hm => hgk (by simp at hm; rwa [← hm]))
    have hv6 := hv5.keep f6 (fun x hx hm => hgv (by simp at hm; rwa [← hm]))
    have hd : drp ilt l k = l.take (at_ ilt l k) ++ l.drop (at_ ilt l k + 1) := by unfold drp; rw [if_pos hh]
    have hln : (drp ilt l k).length = l.length - 1 := by rw [drp_length, if_pos hh]
    refine hK _ ⟨g, pk, pv, ck, cv, rfl, ?_, ?_, ?_, hft, hgk, hgv, hkv, drp_srt ilt_lin hs, by rw [hln]; omega, htop⟩ ?_
    · rw [hln]; exact hb6
    · rw [hln, hd]
      have : (keys (l.take (at_ ilt l k) ++ l.drop (at_ ilt l k + 1))).map (Value.int .u64) = ((keys l).map (Value.int .u64)).take (at_ ilt l k * 1) ++ ((keys l).map (Value.int .u64)).drop ((at_ ilt l k + 1) * 1) := by
        simp [keys, List.map_take, List.map_drop]
      rw [this]; exact hk6
    · rw [hln, hd, flat_del vc_len_CB]; exact hv6
    · rw [hft]
      exact (((f2.mono (fun x hx => by simp [hx])).trans f3 (fun x hx => .inl (by simp at hx; simp [hx]))).trans f5 (fun x hx => .inl (by simp [hx]))).trans f6 (fun x hx => .inl (by simp at hx; simp [hx]))
  · have hd : drp ilt l k = l := by unfold drp; rw [if_neg (by simp [hh])]
    rw [hd] at hK
    rw [hh] at hK ⊢
    exact hK w h0 (Fr.refl w)
end
end Go.Proofs.YtdgoalhnkegbmaaGreatX
namespace Go.Proofs.YtdgoalhnkegbmaaGreatX
set_option linter.unusedVariables false
set_option linter.unusedSimpArgs false
structure Msg where
  kind : Int
  frm : Int
  to : Int
  call : Int
  floor : Int
  op : Int
  field : Int
  item : Int
  tn : Int
  ts : Int
  refs : List (Int × Int)
  value : Int
  code : Int
  seq : Int
  voucher : Int
  at_ : Int
  dist : Int
  stamp : Int
  list : List Int
/-- a field of a kind: bit i of the program's number -/
def fieldsN (k : Int) : Nat :=
  if k = 1 then 1 + 2 + 8 + 16 + 32 + 2048 + 4096 else if k = 2 then 1 + 1024 + 2048 + 4096 else if k = 3 then 1 else if k = 4 then 32 + 64 + 128 + 256 + 512
  else if k = 5 then 32 + 64 + 256 + 1024 else if k = 6 then 32 + 64 else if k = 7 then 32 + 64 else if k = 8 then 1 + 4 + 8 + 32 else if k = 9 then 1 + 4 + 1024 + 8192 + 16384
  else if k = 10 then 1 + 4 + 32 + 8192 else if k = 11 then 1 + 4 else 0
def hasF (k : Int) (i : Nat) : Bool := (fieldsN k).testBit i
def okSerial (n : Int) : Prop := 1 ≤ n ∧ n ≤ 72057594037927935
def okID (x : Int × Int) : Prop := (x.1 = 0 ∧ x.2 = 0) ∨ ((1 ≤ x.1 ∧ x.1 ≤ 64) ∧ okSerial x.2)
def noID (x : Int × Int) : Prop := x.1 = 0 ∧ x.2 = 0
/-- numbers that rise -/
def rise (l : List Int) : Prop := ∀ (i : Nat) (n : Int), l[i]? = some n → okSerial n ∧ ∀ (j : Nat) (p : Int), i = j + 1 → l[j]? = some p → p < n
def opsN (k : Int) : Int := if k = 8 then 3 else 6
def codesN (k : Int) : Int := if k = 9 then 2 else 10
/-- what has no target -/
def aimsNone (m : Msg) : Prop := (m.kind = 1 ∧ (m.op = 1 ∨ m.op = 6)) ∨ (m.kind = 8 ∧ m.op = 3)
def fits (m : Msg) : Nat → Prop
  | 0 => okSerial m.call
  | 1 => 1 ≤ m.floor ∧ m.floor ≤ m.call
  | 2 => 0 ≤ m.item ∧ m.item ≤ 4095
  | 3 => 1 ≤ m.op ∧ m.op ≤ opsN m.kind
  | 4 => 0 ≤ m.field ∧ m.field ≤ 63
  | 5 => okID (m.tn, m.ts) ∧ (noID (m.tn, m.ts) ↔ aimsNone m)
  | 6 => okSerial m.seq
  | 7 => 1 ≤ m.voucher ∧ m.voucher ≤ 64
  | 9 => 1 ≤ m.dist ∧ m.dist ≤ 40
  | 10 => 0 ≤ m.code ∧ m.code ≤ codesN m.kind
  | 12 => (∀ x ∈ m.refs, okID x) ∧ m.refs.length ≤ 2
  | 14 => rise m.list ∧ m.list.length ≤ 64
  | _ => True
def bare (m : Msg) : Nat → Prop
  | 0 => m.call = 0
  | 1 => m.floor = 0
  | 2 => m.item = 0
  | 3 => m.op = 0
  | 4 => m.field = 0
  | 5 => noID (m.tn, m.ts)
  | 6 => m.seq = 0
  | 7 => m.voucher = 0
  | 8 => m.at_ = 0
  | 9 => m.dist = 0
  | 10 => m.code = 0
  | 11 => m.value = 0
  | 12 => m.refs.length = 0
  | 13 => m.stamp = 0
  | _ => m.list.length = 0
def okF (m : Msg) (i : Nat) : Prop := if hasF m.kind i then fits m i else bare m i
def Right (m : Msg) : Prop := fieldsN m.kind ≠ 0 ∧ (1 ≤ m.frm ∧ m.frm ≤ 64) ∧ (1 ≤ m.to ∧ m.to ≤ 64) ∧ m.frm ≠ m.to ∧ ∀ i, i < 15 → okF m i
/-! ### The document's -/
def numberR (h : Bool) (n lo hi : Int) : Prop := if h then lo ≤ n ∧ n ≤ hi else n = 0
def serialR (h : Bool) (n : Int) : Prop := if h then okSerial n else n = 0
def numbersR (m : Msg) : Prop :=
  (serialR (hasF m.kind 0) m.call ∧ numberR (hasF m.kind 3) m.op 1 (opsN m.kind) ∧ numberR (hasF m.kind 4) m.field 0 63 ∧ numberR (hasF m.kind 2) m.item 0 4095 ∧ numberR (hasF m.kind 10) m.code 0 (codesN m.kind)) ∧
  (serialR (hasF m.kind 6) m.seq ∧ numberR (hasF m.kind 7) m.voucher 1 64 ∧ numberR (hasF m.kind 9) m.dist 1 40) ∧
  (if hasF m.kind 1 then 1 ≤ m.floor ∧ m.floor ≤ m.call else m.floor = 0) ∧
  ((hasF m.kind 11 = true ∨ m.value = 0) ∧ (hasF m.kind 8 = true ∨ m.at_ = 0) ∧ (hasF m.kind 13 = true ∨ m.stamp = 0))
def targetR (m : Msg) : Prop := if hasF m.kind 5 then okID (m.tn, m.ts) ∧ (noID (m.tn, m.ts) ↔ aimsNone m) else noID (m.tn, m.ts)
def RightR (m : Msg) : Prop := (1 ≤ m.kind ∧ m.kind ≤ 11) ∧ (1 ≤ m.frm ∧ m.frm ≤ 64) ∧ (1 ≤ m.to ∧ m.to ≤ 64) ∧ m.frm ≠ m.to ∧ numbersR m ∧ targetR m ∧
  (0 < m.refs.length → hasF m.kind 12 = true) ∧ m.refs.length ≤ 2 ∧ (0 < m.list.length → hasF m.kind 14 = true) ∧ m.list.length ≤ 64 ∧ (∀ x ∈ m.refs, okID x) ∧ rise m.list
theorem all15 {p : Nat → Prop} : (∀ i, i < 15 → p i) ↔ p 0 ∧ p 1 ∧ p 2 ∧ p 3 ∧ p 4 ∧ p 5 ∧ p 6 ∧ p 7 ∧ p 8 ∧ p 9 ∧ p 10 ∧ p 11 ∧ p 12 ∧ p 13 ∧ p 14 := by
  constructor
  · intro h
    exact ⟨h 0 (by omega), h 1 (by omega), h 2 (by omega), h 3 (by omega), h 4 (by omega), h 5 (by omega), h 6 (by omega), h 7 (by omega), h 8 (by omega), h 9 (by omega), h 10 (by omega), h 11 (by omega), h 12 (by omega), h 13 (by omega), h 14 (by omega)⟩
  · rintro ⟨h0, h1, h2, h3, h4, h5, h6, h7, h8, h9, h10, h11, h12, h13, h14⟩ i hi
    match i, hi with
    | 0, _ => exact h0
    | 1, _ => exact h1
    | 2, _ => exact h2
    | 3, _ => exact h3
    | 4, _ => exact h4
    | 5, _ => exact h5
    | 6, _ => exact h6
    | 7, _ => exact h7
    | 8, _ => exact h8
    | 9, _ => exact h9
    | 10, _ => exact h10
    | 11, _ => exact h11
    | 12, _ => exact h12
    | 13, _ => exact h13
    | 14, _ => exact h14
theorem fieldsN_zero {k : Int} : fieldsN k ≠ 0 ↔ 1 ≤ k ∧ k ≤ 11 := by
  unfold fieldsN
  constructor
  · intro h
    by_cases h1 : k = 1 ∨ k = 2 ∨ k = 3 ∨ k = 4 ∨ k = 5 ∨ k = 6 ∨ k = 7 ∨ k = 8 ∨ k = 9 ∨ k = 10 ∨ k = 11
    · omega
    · simp only [not_or] at h1
      obtain ⟨h1, h2, h3, h4, h5, h6, h7, h8, h9, h10, h11⟩ := h1
      simp [h1, h2, h3, h4, h5, h6, h7, h8, h9, h10, h11] at h
  · intro h
    have : k = 1 ∨ k = 2 ∨ k = 3 ∨ k = 4 ∨ k = 5 ∨ k = 6 ∨ k = 7 ∨ k = 8 ∨ k = 9 ∨ k = 10 ∨ k = 11 := by omega
    rcases this with rfl | rfl | rfl | rfl | rfl | rfl | rfl | rfl | rfl | rfl | rfl <;> simp
theorem rise_nil : rise [] := fun i n h => by simp at h
theorem right_iff (m : Msg) : Right m ↔ RightR m := by
  unfold Right RightR numbersR targetR
  rw [all15, fieldsN_zero]
  simp only [okF, fits, bare, numberR, serialR]
  have hr : m.refs.length = 0 → ∀ x ∈ m.refs, okID x := fun h x hx => by rw [List.eq_nil_of_length_eq_zero h] at hx; cases hx
  have hl : m.list.length = 0 → rise m.list := fun h => by rw [List.eq_nil_of_length_eq_zero h]; exact rise_nil
  generalize hasF m.kind 0 = b0
  generalize hasF m.kind 1 = b1
  generalize hasF m.kind 2 = b2
  generalize hasF m.kind 3 = b3
  generalize hasF m.kind 4 = b4
  generalize hasF m.kind 5 = b5
  generalize hasF m.kind 6 = b6
  generalize hasF m.kind 7 = b7
  generalize hasF m.kind 8 = b8
  generalize hasF m.kind 9 = b9
  generalize hasF m.kind 10 = b10
  generalize hasF m.kind 11 = b11
  generalize hasF m.kind 12 = b12
  generalize hasF m.kind 13 = b13
  generalize hasF m.kind 14 = b14
  constructor
  · rintro ⟨a1, a2, a3, a4, h0, h1, h2, h3, h4, h5, h6, h7, h8, h9, h10, h11, h12, h13, h14⟩
    refine ⟨a1, a2, a3, a4, ⟨⟨h0, h3, h4, h2, h10⟩, ⟨h6, h7, h9⟩, h1, ?_, ?_, ?_⟩, h5, ?_, ?_, ?_, ?_, ?_, ?_⟩
    · cases b11 <;> simp_all
    · cases b8 <;> simp_all
    · cases b13 <;> simp_all
    · cases b12 <;> simp_all
    · cases b12 <;> simp_all
    · cases b14 <;> simp_all
    · cases b14 <;> simp_all
    · cases b12 <;> simp_all
    · cases b14
      · exact hl (by simpa using h14)
      · simp at h14; exact h14.1
  · rintro ⟨a1, a2, a3, a4, ⟨⟨h0, h3, h4, h2, h10⟩, ⟨h6, h7, h9⟩, h1, h11, h8, h13⟩, h5, c1, c2, c3, c4, c5, c6⟩
    refine ⟨a1, a2, a3, a4, h0, h1, h2, h3, h4, h5, h6, h7, ?_, h9, h10, ?_, ?_, ?_, ?_⟩
    · cases b8 <;> simp_all
    · cases b11 <;> simp_all
    · cases b12
      · simp at c1 ⊢; exact c1
      · simp; exact ⟨fun a b h => c5 (a, b) h, c2⟩
    · cases b13 <;> simp_all
    · cases b14
      · simp at c3 ⊢; exact c3
      · simp; exact ⟨c6, c4⟩
end Go.Proofs.YtdgoalhnkegbmaaGreatX
namespace Go.Proofs.YtdgoalhnkegbmaaGreatX
open Go.RowKit
set_option linter.unusedVariables false
set_option linter.unusedSimpArgs false
set_option maxRecDepth 100000
abbrev Msg.cells (m : Msg) (rp : Option Addr) (rc : Nat) (lp : Option Addr) (lc : Nat) : List Value :=
  [.int .i64 m.kind, .int .i64 m.frm, .int .i64 m.to, .int .u64 m.call, .int .u64 m.floor, .int .i64 m.op, .int .i64 m.field, .int .i64 m.item, .int .i64 m.tn, .int .u64 m.ts, .slice rp m.refs.length rc,
   .int .u64 m.value, .int .i64 m.code, .int .u64 m.seq, .int .i64 m.voucher, .int .u64 m.at_, .int .i64 m.dist, .int .u64 m.stamp, .slice lp m.list.length lc]
abbrev idc (x : Int × Int) : List Value := [.int .i64 x.1, .int .u64 x.2]
theorem idc_len (x : Int × Int) : (idc x).length = 2 := rfl
/-- a message's lists, as they lie -/
structure MM (w : World) (m : Msg) (rp : Option Addr) (rc : Nat) (lp : Option Addr) (lc : Nat) : Prop where
  refs : Cells w rp (m.refs.flatMap idc)
  rle : m.refs.length ≤ rc
  rnil : rp = none → rc = 0
  rby : m.refs.length * 16 ≤ 140737488355328
  list : Cells w lp (m.list.map (Value.int .u64))
  lle : m.list.length ≤ lc
  lnil : lp = none → lc = 0
  lby : m.list.length * 8 ≤ 140737488355328
theorem MM.keep {w w' : World} {m : Msg} {rp lp : Option Addr} {rc lc : Nat} {S : List Nat} (h : MM w m rp rc lp lc) (f : Fr S w w') (hr : ∀ k ∈ fbl rp, k ∉ S) (hl : ∀ k ∈ fbl lp, k ∉ S) : MM w' m rp rc lp lc :=
  ⟨h.refs.keep f hr, h.rle, h.rnil, h.rby, h.list.keep f hl, h.lle, h.lnil, h.lby⟩
theorem MM.rsz {w : World} {m : Msg} {rp lp : Option Addr} {rc lc : Nat} (h : MM w m rp rc lp lc) : m.refs.length ≤ 140737488355328 := by have := h.rby; omega
theorem MM.lsz {w : World} {m : Msg} {rp lp : Option Addr} {rc lc : Nat} (h : MM w m rp rc lp lc) : m.list.length ≤ 140737488355328 := by have := h.lby; omega
theorem MM.keep' {w w' : World} {m : Msg} {rp lp : Option Addr} {rc lc : Nat} (h : MM w m rp rc lp lc) (f : Fr [] w w') : MM w' m rp rc lp lc := h.keep f (by simp) (by simp)
/-- an answer that is a bool -/
def Ans (Q : Value → World → Prop) (P : Prop) (w : World) : Prop := ∀ (b : Bool) w', (b = true ↔ P) → Fr [] w w' → Q (.bool b) w'
theorem isS24 : isStruct Tryz.prog 37 := ⟨_, Tryz.underlying37⟩
section
variable {w : World} {Q : Value → World → Prop}
theorem in_spec {n lo hi : Int} (hQ : ∀ b : Bool, (b = true ↔ lo ≤ n ∧ n ≤ hi) → Q (.bool b) w) : CallR Tryz.prog 68 #[.int .i64 n, .int .i64 lo, .int .i64 hi] w Q := by
  refine X68.sound _ _ _ _ _ ?_
  exact bc_dec (fun h => hQ _ (by simp; omega)) (fun h => hQ _ (by simp; omega))
theorem serial_spec {n : Int} (hQ : ∀ b : Bool, (b = true ↔ okSerial n) → Q (.bool b) w) : CallR Tryz.prog 86 #[.int .u64 n] w Q := by
  refine X86.sound _ _ _ ?_
  exact bc_dec (fun h => hQ _ (by simp [okSerial]; omega)) (fun h => hQ _ (by simp [okSerial]; omega))
theorem ops_spec {k : Int} (hQ : Q (.int .i64 (opsN k)) w) : CallR Tryz.prog 87 #[.int .i64 k] w Q := by
  refine X87.sound _ _ _ ?_
  unfold opsN at hQ
  exact bc_eq (fun h => by rw [if_pos h] at hQ; exact hQ) (fun h => by rw [if_neg h] at hQ; exact hQ)
theorem codes_spec {k : Int} (hQ : Q (.int .i64 (codesN k)) w) : CallR Tryz.prog 90 #[.int .i64 k] w Q := by
  refine X90.sound _ _ _ ?_
  unfold codesN at hQ
  exact bc_eq (fun h => by rw [if_pos h] at hQ; exact hQ) (fun h => by rw [if_neg h] at hQ; exact hQ)
theorem fields_spec {k : Int} (hQ : Q (.int .i64 ((fieldsN k : Nat) : Int)) w) : CallR Tryz.prog 67 #[.int .i64 k] w Q := by
  refine X67.sound _ _ _ ?_
  unfold X67.f
  have e1 : iOr .i64 (iOr .i64 0 7168) 1 = 7169 := by decide +kernel
  have e2 : iOr .i64 0 1 = 1 := by decide +kernel
  have e3 : iOr .i64 (iOr .i64 0 896) 96 = 992 := by decide +kernel
  have e4 : iOr .i64 0 96 = 96 := by decide +kernel
  have e5 : iOr .i64 0 1376 = 1376 := by decide +kernel
  have e6 : iOr .i64 (iOr .i64 0 25600) 5 = 25605 := by decide +kernel
  have e7 : iOr .i64 0 5 = 5 := by decide +kernel
  have e8 : iOr .i64 0 8229 = 8229 := by decide +kernel
  simp only [e1, e2, e3, e4, e5, e6, e7, e8]
  unfold fieldsN at hQ
  refine bc_eq (fun h => by subst h; exact hQ) (fun h1 => bc_eq (fun h => by subst h; exact hQ) (fun h2 => bc_eq (fun h => by subst h; exact hQ) (fun h3 => bc_eq (fun h => by subst h; exact hQ) (fun h4 => bc_eq (fun h6 => ?_) (fun h6 => ?_)))))
  · exact bc_eq (fun _ => by subst h6; exact hQ) (fun h => absurd h6 h)
  · refine bc_eq (fun h => by subst h; exact hQ) (fun h7 => bc_eq (fun h => by subst h; exact hQ) (fun h5 => bc_eq (fun h => by subst h; exact hQ) (fun h8 => bc_eq (fun h => by subst h; exact hQ) (fun h9 => bc_eq (fun h => by subst h; exact hQ) (fun h11 => bc_eq (fun h => by subst h; exact hQ) (fun h10 => ?_))))))
    rw [if_neg h1, if_neg h2, if_neg h3, if_neg h4, if_neg h5, if_neg h6, if_neg h7, if_neg h8, if_neg h9, if_neg h10, if_neg h11] at hQ
    exact hQ
theorem and_noID {x y : Int} : (((x == (0 : Int)) && ((y == (0 : Int)) && true)) = true) ↔ noID (x, y) := by
  unfold noID; simp
/-- a value that was handed in, in a block of its own -/
theorem made {cs : Array Value} {e : TypeId} : Blk (w.alloc (.cells cs e)) w.heap.size cs.toList e ∧ Fr [] w (w.alloc (.cells cs e)) := ⟨Blk.made w cs e, Fr.alloc _ _⟩
theorem right_spec {x y : Int} (hQ : Ans Q (okID (x, y)) w) : CallR Tryz.prog 88 #[.agg #[.int .i64 x, .int .u64 y]] w Q := by
  refine X88.sound _ _ _ _ ?_
  unfold X88.f newK
  obtain ⟨hb, f⟩ := made (w := w) (cs := #[.int .i64 x, .int .u64 y]) (e := 37)
  rw [show (⟨w.heap.size, 0, none⟩ : Addr) = at0 w.heap.size 0 from rfl]
  simp only [add_at, Nat.zero_add]
  generalize w.alloc _ = w2 at *
  refine ld_int (hb.cell rfl) (ld_int (hb.cell rfl) ⟨isS24, bc_bool (fun h => ?_) (fun h => ?_)⟩)
  · exact hQ _ _ (by have := and_noID.1 h; unfold noID at this; unfold okID; simp_all) f
  · have hn : ¬ noID (x, y) := fun hh => by rw [and_noID.2 hh] at h; cases h
    unfold noID at hn
    refine ld_int (hb.cell rfl) (in_spec fun b hb1 => ⟨_, rfl, bc_bool (fun e => ?_) (fun e => ?_)⟩)
    · refine ld_int (hb.cell rfl) (serial_spec fun c hc => ⟨_, rfl, hQ _ _ ?_ f⟩)
      rw [hc]
      have := hb1.1 e
      unfold okID
      simp only at hn ⊢
      constructor
      · intro h; exact .inr ⟨this, h⟩
      · rintro (h | h)
        · exact absurd h hn
        · exact h.2
    · refine hQ _ _ ?_ f
      have : ¬ (1 ≤ x ∧ x ≤ 64) := fun h => by rw [hb1.2 h] at e; cases e
      unfold okID
      simp only at hn ⊢
      constructor
      · intro h; cases h
      · rintro (h | h)
        · exact absurd h hn
        · exact absurd h.1 this
theorem allRight_l0 {p : Option Addr} {n c : Nat} {l : List (Int × Int)} (hc : Cells w p (l.flatMap idc)) (hl : l.length = n) (hn : n ≤ 140737488355328) (hQ : Ans Q ((∀ x ∈ l, okID x) ∧ l.length ≤ 2) w) :
    ∀ (f i : Nat) (w' : World), n - i < f → Fr [] w w' → i ≤ n → (∀ x ∈ l.take i, okID x) → X91.l0 Q f p n c p n c (n : Int) (i : Int) w'
  | 0, i, w', hf, _, _, _ => by omega
  | f + 1, i, w', hf, hw, hi, hp => by
    rw [X91.l0]
    refine bc_dec (fun h1 => ?_) (fun h1 => ?_)
    · have hlt : i < l.length := by omega
      have hg := List.getElem?_eq_getElem hlt
      have htk : l.take (i + 1) = l.take i ++ [l[i]] := (List.take_append_getElem hlt).symm
      have hmem : l[i] ∈ l := List.getElem_mem hlt
      generalize l[i] = x at hg htk hmem
      obtain ⟨q, hq, c0⟩ := (hc.keep' hw) _ _ (flat_get idc_len l hg (j := 0) rfl)
      obtain ⟨q', hq', c1⟩ := (hc.keep' hw) _ _ (flat_get idc_len l hg (j := 1) rfl)
      rw [hq] at hq'; injection hq' with hq'; subst hq'
      refine ⟨⟨by omega, by omega⟩, opt_some hq ?_⟩
      rw [Int.toNat_natCast]
      simp only [add_add]
      refine ld_int c0 (ld_int c1 ?_)
      unfold newK
      obtain ⟨hb, fa⟩ := made (w := w') (cs := #[.int .i64 0, .int .u64 0]) (e := 37)
      have hgl : w'.heap.size < (w'.alloc (.cells #[.int .i64 0, .int .u64 0] 37)).heap.size := hb.lt
      rw [show (⟨w'.heap.size, 0, none⟩ : Addr) = at0 w'.heap.size 0 from rfl]
      have s0 := hw.size
      have fa' : Fr [] w (w'.alloc (.cells #[.int .i64 0, .int .u64 0] 37)) := hw.tr fa
      generalize w'.alloc _ = w2 at *
      refine stAll_blk hb (by simp) ?_
      intro w3 b3 f3
      have f3' : Fr [] w w3 := fa'.trans f3 (fun x hx => by simp at hx; exact .inr (by omega))
      simp only [add_at, Nat.zero_add]
      refine ld_int (b3.cell rfl) (ld_int (b3.cell rfl) (right_spec fun b w4 hb4 f4 => ⟨_, rfl, ?_⟩))
      refine bc_bool (fun h => ?_) (fun h => ?_)
      · have hbf : b = false := by cases b; rfl; cases h
        subst hbf
        refine hQ _ _ ⟨fun h => (by cases h), fun h => ?_⟩ (f3'.tr f4)
        exact hb4.2 (h.1 x hmem)
      · have hbt : b = true := by cases b; cases h; rfl
        rw [show IntKind.wrap .i64 ((i : Int) + 1) = ((i + 1 : Nat) : Int) by rw [i64w _ (by omega) (by omega)]; omega]
        refine allRight_l0 hc hl hn hQ f (i + 1) w4 (by omega) (f3'.tr f4) (by omega) (fun y hy => ?_)
        rw [htk] at hy
        rcases List.mem_append.1 hy with hy | hy
        · exact hp y hy
        · rw [List.mem_singleton.1 hy]; exact hb4.1 hbt
    · refine hQ _ _ ?_ hw
      have : l.take i = l := List.take_of_length_le (by omega)
      rw [this] at hp
      simp only [decide_eq_true_eq]
      constructor
      · intro h; exact ⟨hp, by omega⟩
      · intro h; omega
theorem allRight_spec {p : Option Addr} {n c : Nat} {l : List (Int × Int)} (hc : Cells w p (l.flatMap idc)) (hl : l.length = n) (hn : n ≤ 140737488355328) (hQ : Ans Q ((∀ x ∈ l, okID x) ∧ l.length ≤ 2) w) : CallR Tryz.prog 91 #[.slice p n c] w Q := by
  refine X91.sound _ _ _ _ _ ⟨n + 1, ?_⟩
  exact allRight_l0 hc hl hn hQ (n + 1) 0 w (by omega) (Fr.refl w) (by omega) (by simp)
theorem cell_u64 {p : Option Addr} {l : List Int} (hc : Cells w p (l.map (Value.int .u64))) {i : Nat} {x : Int} (hi : l[i]? = some x) : ∃ a, p = some a ∧ w.cell? (a.add (i * 1)) = some (.int .u64 x) := by
  rw [Nat.mul_one]
  exact hc i _ (by simp [hi])
/-- the numbers ahead of a place rise -/
def riseTo (l : List Int) (i : Nat) : Prop := ∀ (j : Nat) (n : Int), j < i → l[j]? = some n → okSerial n ∧ ∀ (k : Nat) (p : Int), j = k + 1 → l[k]? = some p → p < n
theorem riseTo_all {l : List Int} : riseTo l l.length ↔ rise l := by
  constructor
  · intro h i n hi
    exact h i n (List.getElem?_eq_some_iff.1 hi).1 hi
  · intro h i n _ hi
    exact h i n hi
theorem rising_l0 {p : Option Addr} {n c : Nat} {l : List Int} (hc : Cells w p (l.map (Value.int .u64))) (hl : l.length = n) (hn : n ≤ 140737488355328) (hQ : ∀ b : Bool, (b = true ↔ rise l ∧ l.length ≤ 64) → Q (.bool b) w) :
    ∀ (f i : Nat), n - i < f → i ≤ n → riseTo l i → X92.l0 Q f p n c p n c (n : Int) (i : Int) w
  | 0, i, hf, _, _ => by omega
  | f + 1, i, hf, hi, hp => by
    rw [X92.l0]
    refine bc_dec (fun h1 => ?_) (fun h1 => ?_)
    · have hlt : i < l.length := by omega
      have hg := List.getElem?_eq_getElem hlt
      generalize l[i] = x at hg
      obtain ⟨q, hq, c0⟩ := cell_u64 hc hg
      refine ⟨⟨by omega, by omega⟩, opt_some hq (ld_int (by rw [Int.toNat_natCast]; exact c0) (serial_spec fun b hb => ⟨_, rfl, bc_bool (fun h => ?_) (fun h => ?_)⟩))⟩
      · have hbf : b = false := by cases b; rfl; cases h
        subst hbf
        exact hQ _ ⟨fun h => (by cases h), fun h => hb.2 (h.1 i x hg).1⟩
      · have hbt : b = true := by cases b; cases h; rfl
        have hok := hb.1 hbt
        have e2 : IntKind.wrap .i64 ((i : Int) + 1) = ((i + 1 : Nat) : Int) := by rw [i64w _ (by omega) (by omega)]; omega
        rw [e2]
        refine bc_dec (fun h0 => ?_) (fun h0 => ?_)
        · have e1 : IntKind.wrap .i64 ((i : Int) - 1) = ((i - 1 : Nat) : Int) := by rw [i64w _ (by omega) (by omega)]; omega
          rw [e1]
          have hlt1 : i - 1 < l.length := by omega
          have hg1 := List.getElem?_eq_getElem hlt1
          generalize l[i - 1] = y at hg1
          obtain ⟨q1, hq1, c1⟩ := cell_u64 hc hg1
          refine ⟨⟨by omega, by omega⟩, opt_some hq1 (ld_int (by rw [Int.toNat_natCast]; exact c1) (bc_dec (fun hle => ?_) (fun hle => ?_)))⟩
          · exact hQ _ ⟨fun h => (by cases h), fun h => by have := (h.1 i x hg).2 (i - 1) y (by omega) hg1; omega⟩
          · refine rising_l0 hc hl hn hQ f (i + 1) (by omega) (by omega) (fun j z hj hz => ?_)
            by_cases e : j = i
            · subst e
              rw [hg] at hz; injection hz with hz; subst hz
              refine ⟨hok, fun k u hk hu => ?_⟩
              have : k = j - 1 := by omega
              subst this
              rw [hg1] at hu; injection hu with hu; omega
            · exact hp j z (by omega) hz
        · refine rising_l0 hc hl hn hQ f (i + 1) (by omega) (by omega) (fun j z hj hz => ?_)
          have : j = 0 := by omega
          subst this
          have : i = 0 := by omega
          subst this
          rw [hg] at hz; injection hz with hz; subst hz
          exact ⟨hok, fun k u hk => by omega⟩
    · have : i = l.length := by omega
      subst this
      refine hQ _ ?_
      rw [riseTo_all] at hp
      simp only [decide_eq_true_eq]
      constructor
      · intro h; exact ⟨hp, by omega⟩
      · intro h; omega
theorem rising_spec {p : Option Addr} {n c : Nat} {l : List Int} (hc : Cells w p (l.map (Value.int .u64))) (hl : l.length = n) (hn : n ≤ 140737488355328) (hQ : ∀ b : Bool, (b = true ↔ rise l ∧ l.length ≤ 64) → Q (.bool b) w) : CallR Tryz.prog 92 #[.slice p n c] w Q := by
  refine X92.sound _ _ _ _ _ ⟨n + 1, ?_⟩
  exact rising_l0 hc hl hn hQ (n + 1) 0 (by omega) (by omega) (fun j _ hj => by omega)
end
end Go.Proofs.YtdgoalhnkegbmaaGreatX
namespace Go.Proofs.YtdgoalhnkegbmaaGreatX
open Go.RowKit
set_option linter.unusedVariables false
set_option linter.unusedSimpArgs false
set_option maxRecDepth 100000
section
variable {w : World} {Q : Value → World → Prop} {m : Msg} {rp lp : Option Addr} {rc lc g : Nat}
abbrev msgV (m : Msg) (rp : Option Addr) (rc : Nat) (lp : Option Addr) (lc : Nat) : Value := .agg (m.cells rp rc lp lc).toArray
/-- all that a message has is loaded -/
theorem ld_msg {K : Int → Int → Int → Int → Int → Int → Int → Int → Int → Int → Option Addr → Nat → Nat → Int → Int → Int → Int → Int → Int → Int → Option Addr → Nat → Nat → Prop} (hb : Blk w g (m.cells rp rc lp lc) 63)
    (h : K m.kind m.frm m.to m.call m.floor m.op m.field m.item m.tn m.ts rp m.refs.length rc m.value m.code m.seq m.voucher m.at_ m.dist m.stamp lp m.list.length lc) :
    ldI .i64 w (at0 g 0) fun x1 => ldI .i64 w (at0 g 1) fun x2 => ldI .i64 w (at0 g 2) fun x3 => ldI .u64 w (at0 g 3) fun x4 => ldI .u64 w (at0 g 4) fun x5 => ldI .i64 w (at0 g 5) fun x6 => ldI .i64 w (at0 g 6) fun x7 => ldI .i64 w (at0 g 7) fun x8 => ldI .i64 w (at0 g 8) fun x9 => ldI .u64 w (at0 g 9) fun x10 => ldSl w (at0 g 10) fun x11p x11n x11c => ldI .u64 w (at0 g 11) fun x12 => ldI .i64 w (at0 g 12) fun x13 => ldI .u64 w (at0 g 13) fun x14 => ldI .i64 w (at0 g 14) fun x15 => ldI .u64 w (at0 g 15) fun x16 => ldI .i64 w (at0 g 16) fun x17 => ldI .u64 w (at0 g 17) fun x18 => ldSl w (at0 g 18) fun x19p x19n x19c => K x1 x2 x3 x4 x5 x6 x7 x8 x9 x10 x11p x11n x11c x12 x13 x14 x15 x16 x17 x18 x19p x19n x19c :=
  ld_int (hb.cell rfl) (ld_int (hb.cell rfl) (ld_int (hb.cell rfl) (ld_int (hb.cell rfl) (ld_int (hb.cell rfl) (ld_int (hb.cell rfl) (ld_int (hb.cell rfl) (ld_int (hb.cell rfl) (ld_int (hb.cell rfl) (ld_int (hb.cell rfl) (ld_sl (hb.cell rfl) (ld_int (hb.cell rfl) (ld_int (hb.cell rfl) (ld_int (hb.cell rfl) (ld_int (hb.cell rfl) (ld_int (hb.cell rfl) (ld_int (hb.cell rfl) (ld_int (hb.cell rfl) (ld_sl (hb.cell rfl) h))))))))))))))))))
theorem bc_eqt {a b : Int} {A B : Prop} (h : a = b) (x : A) : bcase (a == b) A B := bc_eq (fun _ => x) (fun hn => absurd h hn)
theorem bc_eqf {a b : Int} {A B : Prop} (h : a ≠ b) (x : B) : bcase (a == b) A B := bc_eq (fun he => absurd he h) (fun _ => x)
theorem aims_spec (hQ : Ans Q (noID (m.tn, m.ts) ↔ aimsNone m) w) : CallR Tryz.prog 89 #[msgV m rp rc lp lc] w Q := by
  apply X89.sound
  unfold X89.f newK
  obtain ⟨hb, f⟩ := made (w := w) (cs := (m.cells rp rc lp lc).toArray) (e := 63)
  rw [show (⟨w.heap.size, 0, none⟩ : Addr) = at0 w.heap.size 0 from rfl]
  simp only [add_at, Nat.zero_add, Nat.add_zero]
  generalize w.alloc _ = w2 at *
  refine ld_int (hb.cell rfl) (ld_int (hb.cell rfl) ⟨isS24, ld_int (hb.cell rfl) ?_⟩)
  have key : ∀ (c b : Bool), (b = true ↔ aimsNone m) → c = (((m.tn == (0 : Int)) && ((m.ts == (0 : Int)) && true)) == b) → Q (.bool c) w2 := by
    intro c b hb hc
    subst hc
    refine hQ _ _ ?_ f
    have := and_noID (x := m.tn) (y := m.ts)
    rw [← hb, ← this]
    cases ((m.tn == (0 : Int)) && ((m.ts == (0 : Int)) && true)) <;> cases b <;> simp
  refine bc_eq (fun h1 => ?_) (fun h1 => bc_eq (fun h8 => ?_) (fun h8 => ?_))
  · refine ld_int (hb.cell rfl) (bc_eq (fun h => ?_) (fun h => ?_))
    · exact key _ true (by simp [aimsNone, h1, h]) rfl
    · refine ld_int (hb.cell rfl) (key _ (m.op == 6) ?_ rfl)
      simp [aimsNone, h1, h]
  · refine ld_int (hb.cell rfl) (key _ (m.op == 3) ?_ rfl)
    simp [aimsNone, h1, h8]
  · refine key _ false ?_ ?_
    · simp [aimsNone, h1, h8]
    · cases ((m.tn == (0 : Int)) && ((m.ts == (0 : Int)) && true)) <;> rfl
theorem fits_spec {i : Nat} (hi : i < 15) (h : MM w m rp rc lp lc) (hQ : Ans Q (fits m i) w) : CallR Tryz.prog 69 #[msgV m rp rc lp lc, .int .i64 ((2 ^ i : Nat) : Int)] w Q := by
  apply X69.sound
  unfold X69.f newK
  obtain ⟨hb, f⟩ := made (w := w) (cs := (m.cells rp rc lp lc).toArray) (e := 63)
  rw [show (⟨w.heap.size, 0, none⟩ : Addr) = at0 w.heap.size 0 from rfl]
  simp only [add_at, Nat.zero_add, Nat.add_zero]
  have h2 := h.keep' f
  generalize w.alloc _ = w2 at *
  have hb2 := hb.keep' (Fr.drew (w := w2))
  have f2 := f.tr (Fr.drew (S := []) (w := w2))
  have hc : i = 0 ∨ i = 1 ∨ i = 2 ∨ i = 3 ∨ i = 4 ∨ i = 5 ∨ i = 6 ∨ i = 7 ∨ i = 8 ∨ i = 9 ∨ i = 10 ∨ i = 11 ∨ i = 12 ∨ i = 13 ∨ i = 14 := by omega
  rcases hc with rfl | rfl | rfl | rfl | rfl | rfl | rfl | rfl | rfl | rfl | rfl | rfl | rfl | rfl | rfl
  all_goals repeat refine bc_eqf (by decide) ?_
  · refine bc_eqt rfl (ld_int (hb.cell rfl) (serial_spec fun b hb' => ⟨_, rfl, hQ b _ hb' f⟩))
  · refine bc_eqt rfl (ld_int (hb.cell rfl) (bc_dec (fun h1 => ld_int (hb.cell rfl) (ld_int (hb.cell rfl) (hQ _ _ ?_ f))) (fun h1 => hQ _ _ ?_ f)))
    · simp only [fits, decide_eq_true_eq]; omega
    · simp only [fits]; exact ⟨fun h => (by cases h), fun h => by omega⟩
  · refine bc_eqt rfl (ld_int (hb.cell rfl) (in_spec fun b hb' => ⟨_, rfl, hQ b _ hb' f⟩))
  · refine bc_eqt rfl (ld_int (hb2.cell rfl) (ld_int (hb2.cell rfl) (ops_spec ⟨_, rfl, ⟨hb2.cell rfl, hb2.cell rfl⟩, in_spec fun b hb' => ⟨_, rfl, hQ b _ hb' f2⟩⟩)))
  · refine bc_eqt rfl (ld_int (hb.cell rfl) (in_spec fun b hb' => ⟨_, rfl, hQ b _ hb' f⟩))
  · refine bc_eqt rfl (ld_int (hb.cell rfl) (ld_int (hb.cell rfl) (right_spec fun b w3 hb' f3 => ⟨_, rfl, bc_bool (fun e => ?_) (fun e => ?_)⟩)))
    · have hb3 := hb.keep' f3
      refine ld_msg hb3 (aims_spec (m := m) (rp := rp) (rc := rc) (lp := lp) (lc := lc) fun c w4 hc f4 => ⟨_, rfl, hQ _ _ ?_ ((f.tr f3).tr f4)⟩)
      rw [hc]
      exact ⟨fun h => ⟨hb'.1 e, h⟩, fun h => h.2⟩
    · refine hQ _ _ ?_ (f.tr f3)
      exact ⟨fun h => (by cases h), fun h => by rw [hb'.2 h.1] at e; cases e⟩
  · refine bc_eqt rfl (ld_int (hb.cell rfl) (serial_spec fun b hb' => ⟨_, rfl, hQ b _ hb' f⟩))
  · refine bc_eqt rfl (ld_int (hb.cell rfl) (in_spec fun b hb' => ⟨_, rfl, hQ b _ hb' f⟩))
  · exact hQ _ _ (by simp [fits]) f
  · refine bc_eqt rfl (ld_int (hb.cell rfl) (in_spec fun b hb' => ⟨_, rfl, hQ b _ hb' f⟩))
  · refine bc_eqt rfl (ld_int (hb2.cell rfl) (ld_int (hb2.cell rfl) (codes_spec ⟨_, rfl, ⟨hb2.cell rfl, hb2.cell rfl⟩, in_spec fun b hb' => ⟨_, rfl, hQ b _ hb' f2⟩⟩)))
  · exact hQ _ _ (by simp [fits]) f
  · refine bc_eqt rfl (ld_sl (hb.cell rfl) (allRight_spec h2.refs rfl h2.rsz fun b w3 hb' f3 => ⟨_, rfl, hQ b _ hb' (f.tr f3)⟩))
  · exact hQ _ _ (by simp [fits]) f
  · refine bc_eqt rfl (ld_sl (hb.cell rfl) (rising_spec h2.list rfl h2.lsz fun b hb' => ⟨_, rfl, hQ b _ hb' f⟩))
theorem bare_spec {i : Nat} (hi : i < 15) (hQ : Ans Q (bare m i) w) : CallR Tryz.prog 70 #[msgV m rp rc lp lc, .int .i64 ((2 ^ i : Nat) : Int)] w Q := by
  apply X70.sound
  unfold X70.f newK
  obtain ⟨hb, f⟩ := made (w := w) (cs := (m.cells rp rc lp lc).toArray) (e := 63)
  rw [show (⟨w.heap.size, 0, none⟩ : Addr) = at0 w.heap.size 0 from rfl]
  simp only [add_at, Nat.zero_add, Nat.add_zero]
  generalize w.alloc _ = w2 at *
  have hc : i = 0 ∨ i = 1 ∨ i = 2 ∨ i = 3 ∨ i = 4 ∨ i = 5 ∨ i = 6 ∨ i = 7 ∨ i = 8 ∨ i = 9 ∨ i = 10 ∨ i = 11 ∨ i = 12 ∨ i = 13 ∨ i = 14 := by omega
  rcases hc with rfl | rfl | rfl | rfl | rfl | rfl | rfl | rfl | rfl | rfl | rfl | rfl | rfl | rfl | rfl
  all_goals repeat refine bc_eqf (by decide) ?_
  · exact bc_eqt rfl (ld_int (hb.cell rfl) (hQ _ _ (by simp [bare]) f))
  · exact bc_eqt rfl (ld_int (hb.cell rfl) (hQ _ _ (by simp [bare]) f))
  · exact bc_eqt rfl (ld_int (hb.cell rfl) (hQ _ _ (by simp [bare]) f))
  · exact bc_eqt rfl (ld_int (hb.cell rfl) (hQ _ _ (by simp [bare]) f))
  · exact bc_eqt rfl (ld_int (hb.cell rfl) (hQ _ _ (by simp [bare]) f))
  · exact bc_eqt rfl (ld_int (hb.cell rfl) (ld_int (hb.cell rfl) ⟨isS24, hQ _ _ and_noID f⟩))
  · exact bc_eqt rfl (ld_int (hb.cell rfl) (hQ _ _ (by simp [bare]) f))
  · exact bc_eqt rfl (ld_int (hb.cell rfl) (hQ _ _ (by simp [bare]) f))
  · exact bc_eqt rfl (ld_int (hb.cell rfl) (hQ _ _ (by simp [bare]) f))
  · exact bc_eqt rfl (ld_int (hb.cell rfl) (hQ _ _ (by simp [bare]) f))
  · exact bc_eqt rfl (ld_int (hb.cell rfl) (hQ _ _ (by simp [bare]) f))
  · exact bc_eqt rfl (ld_int (hb.cell rfl) (hQ _ _ (by simp [bare]) f))
  · exact bc_eqt rfl (ld_sl (hb.cell rfl) (hQ _ _ (by simp [bare]) f))
  · exact bc_eqt rfl (ld_int (hb.cell rfl) (hQ _ _ (by simp [bare]) f))
  · exact ld_sl (hb.cell rfl) (hQ _ _ (by simp [bare]) f)
theorem hasBit_fin : ∀ k : Fin 12, ∀ i : Fin 15, iAnd .i64 ((fieldsN (k.val : Int) : Nat) : Int) ((2 ^ i.val : Nat) : Int) ≠ 0 ↔ hasF (k.val : Int) i.val = true := by decide +kernel
theorem fieldsN_out {k : Int} (h : ¬ (1 ≤ k ∧ k ≤ 11)) : fieldsN k = 0 := by
  by_cases h2 : fieldsN k = 0
  · exact h2
  · exact absurd (fieldsN_zero.1 h2) h
theorem hasBit {k : Int} {i : Nat} (hi : i < 15) : iAnd .i64 ((fieldsN k : Nat) : Int) ((2 ^ i : Nat) : Int) ≠ 0 ↔ hasF k i = true := by
  by_cases h : 1 ≤ k ∧ k ≤ 11
  · have := hasBit_fin ⟨k.toNat, by omega⟩ ⟨i, hi⟩
    simp only [] at this
    rwa [show ((k.toNat : Nat) : Int) = k by omega] at this
  · have e := fieldsN_out h
    have := hasBit_fin 0 ⟨i, hi⟩
    unfold hasF at *
    rw [e]
    exact this
theorem shl1 {i : Nat} (hi : i < 15) : iShl .i64 ((2 ^ i : Nat) : Int) 1 = ((2 ^ (i + 1) : Nat) : Int) := by
  have key : ∀ i : Fin 15, iShl .i64 ((2 ^ i.val : Nat) : Int) 1 = ((2 ^ (i.val + 1) : Nat) : Int) := by decide +kernel
  exact key ⟨i, hi⟩
theorem right_l0 (hb : Blk w g (m.cells rp rc lp lc) 63) (h : MM w m rp rc lp lc) (hQ : Ans Q (∀ i, i < 15 → okF m i) w) (f : Nat) : ∀ (i : Nat) (w' : World), 15 - i < f → Fr [] w w' → i ≤ 15 → (∀ j, j < i → okF m j) →
    X37.l0 Q f (at0 g 0) ((fieldsN m.kind : Nat) : Int) ((2 ^ i : Nat) : Int) w' := by
  induction f with
  | zero => intro i w' hf; omega
  | succ f ih =>
    intro i w' hf hw hi hp
    rw [X37.l0]
    have hb' := hb.keep' hw
    simp only [add_at, Nat.zero_add, Nat.add_zero]
    generalize hN : (32768 : Int) = N
    refine bc_dec (fun h1 => ?_) (fun h1 => ?_)
    · have hlt : i < 15 := by
        by_cases e : i = 15
        · subst e; subst hN; exact absurd h1 (by decide)
        · omega
      have hbit := hasBit (k := m.kind) hlt
      rw [shl1 hlt]
      have go : okF m i → ∀ w2, Fr [] w w2 → X37.l0 Q f (at0 g 0) ((fieldsN m.kind : Nat) : Int) ((2 ^ (i + 1) : Nat) : Int) w2 := fun ho w2 f2 =>
        ih (i + 1) w2 (by omega) f2 (by omega) (fun j hj => by
          by_cases e : j = i
          · rw [e]; exact ho
          · exact hp j (by omega))
      refine bc_ne (fun hne => ?_) (fun he => ?_)
      · have hh := hbit.1 hne
        refine ld_msg hb' (fits_spec (m := m) (rp := rp) (rc := rc) (lp := lp) (lc := lc) hlt (h.keep' hw) fun b w2 hb2 f2 => ⟨_, rfl, bc_bool (fun e => ?_) (fun e => ?_)⟩)
        · have hbf : b = false := by cases b; rfl; cases e
          subst hbf
          refine hQ _ _ ⟨fun h => (by cases h), fun h => ?_⟩ (hw.tr f2)
          have := h i hlt
          unfold okF at this
          rw [if_pos hh] at this
          exact hb2.2 this
        · have hbt : b = true := by cases b; cases e; rfl
          refine bc_eq (fun h0 => absurd h0 hne) (fun _ => ⟨by decide, go ?_ _ (hw.tr f2)⟩)
          unfold okF
          rw [if_pos hh]
          exact hb2.1 hbt
      · have hh : hasF m.kind i = false := by
          cases e : hasF m.kind i with
          | false => rfl
          | true => exact absurd he (hbit.2 e)
        refine bc_eq (fun _ => ?_) (fun h0 => absurd he h0)
        refine ld_msg hb' (bare_spec (m := m) (rp := rp) (rc := rc) (lp := lp) (lc := lc) hlt fun b w2 hb2 f2 => ⟨_, rfl, bc_bool (fun e => ?_) (fun e => ?_)⟩)
        · have hbf : b = false := by cases b; rfl; cases e
          subst hbf
          refine hQ _ _ ⟨fun h => (by cases h), fun h => ?_⟩ (hw.tr f2)
          have := h i hlt
          unfold okF at this
          rw [if_neg (by simp [hh])] at this
          exact hb2.2 this
        · have hbt : b = true := by cases b; cases e; rfl
          refine ⟨by decide, go ?_ _ (hw.tr f2)⟩
          unfold okF
          rw [if_neg (by simp [hh])]
          exact hb2.1 hbt
    · have : i = 15 := by
        by_cases e : i = 15
        · exact e
        · have : (2 : Nat) ^ i ≤ 2 ^ 14 := Nat.pow_le_pow_right (by omega) (by omega)
          omega
      subst this
      exact hQ _ _ (by simp; exact hp) hw
theorem Right_spec (h : MM w m rp rc lp lc) (hQ : Ans Q (Right m) w) : CallR Tryz.prog 37 #[msgV m rp rc lp lc] w Q := by
  apply X37.sound
  unfold X37.f newK
  obtain ⟨hb, f⟩ := made (w := w) (cs := (m.cells rp rc lp lc).toArray) (e := 63)
  rw [show (⟨w.heap.size, 0, none⟩ : Addr) = at0 w.heap.size 0 from rfl]
  simp only [add_at, Nat.zero_add, Nat.add_zero]
  have h2 := h.keep' f
  generalize w.alloc _ = w2 at *
  have no : ¬ Right m → Q (.bool false) w2 := fun hn => hQ _ _ ⟨fun h => (by cases h), fun h => absurd h hn⟩ f
  refine ld_int (hb.cell rfl) (fields_spec ⟨_, rfl, bc_eq (fun h0 => no fun h => h.1 (by omega)) (fun h0 => ?_)⟩)
  refine ld_int (hb.cell rfl) (in_spec fun b1 hb1 => ⟨_, rfl, bc_bool (fun e => no fun h => ?_) (fun e1 => ?_)⟩)
  · rw [hb1.2 h.2.1] at e; cases e
  refine ld_int (hb.cell rfl) (in_spec fun b2 hb2 => ⟨_, rfl, bc_bool (fun e => no fun h => ?_) (fun e2 => ?_)⟩)
  · rw [hb2.2 h.2.2.1] at e; cases e
  refine ld_int (hb.cell rfl) (ld_int (hb.cell rfl) (bc_eq (fun e => no fun h => h.2.2.2.1 e) (fun e3 => ?_)))
  unfold X37.j1
  have t1 : b1 = true := by cases b1; cases e1; rfl
  have t2 : b2 = true := by cases b2; cases e2; rfl
  refine ⟨16, right_l0 (w := w2) hb h2 (fun b w3 hb3 f3 => hQ b w3 ?_ (f.tr f3)) 16 0 w2 (by omega) (Fr.refl _) (by omega) (fun j hj => by omega)⟩
  rw [hb3]
  exact ⟨fun h => ⟨fun e => h0 (by rw [e]; rfl), hb1.1 t1, hb2.1 t2, e3, h⟩, fun h => h.2.2.2.2⟩
end
end Go.Proofs.YtdgoalhnkegbmaaGreatX
namespace Go.Proofs.YtdgoalhnkegbmaaGreatX
open Go.RowKit
set_option linter.unusedVariables false
set_option linter.unusedSimpArgs false
/-- a call, its lists as such -/
structure Cp where
  to : Int
  num : Int
  op : Int
  field : Int
  tn : Int
  ts : Int
  refs : List (Int × Int)
  value : Int
  state : Int
  code : Int
  result : List (Int × Int)
  back : Int
  sent : Int
  wait : Int
  born : Int
def Cp.cl (y : Cp) (rp : Option Addr) (rc : Nat) (sp : Option Addr) (sc : Nat) : Cl :=
  ⟨y.to, y.num, y.op, y.field, y.tn, y.ts, rp, y.refs.length, rc, y.value, y.state, y.code, sp, y.result.length, sc, y.back, y.sent, y.wait, y.born⟩
/-- IDs in a row of their own -/
abbrev IdRow (w : World) (p : Option Addr) (c : Nat) (l : List (Int × Int)) : Prop := Own 37 2 w p l.length c (l.flatMap idc)
structure CRel (w : World) (foot al : List Nat) (x : Cl) (y : Cp) : Prop where
  lr : y.refs.length ≤ 8796093022208
  ls : y.result.length ≤ 8796093022208
  ex : ∃ rp rc sp sc, x = y.cl rp rc sp sc ∧ IdRow w rp rc y.refs ∧ IdRow w sp sc y.result ∧ (∀ k ∈ fbl rp, k ∉ foot ∧ k ∈ al) ∧ (∀ k ∈ fbl sp, k ∉ foot ∧ k ∈ al)
structure Rl (w : World) (foot al : List Nat) (lm : List (Int × Cl)) (L : List (Int × Cp)) : Prop where
  len : lm.length = L.length
  el : ∀ (i : Nat) (e : Int × Cl), lm[i]? = some e → ∃ f : Int × Cp, L[i]? = some f ∧ e.1 = f.1 ∧ CRel w foot al e.2 f.2
theorem CRel.keep {w w' : World} {foot al F : List Nat} {x : Cl} {y : Cp} (h : CRel w foot al x y) (f : Fr F w w') (hd : ∀ k ∈ al, k ∉ foot → k ∉ F) : CRel w' foot al x y := by
  obtain ⟨rp, rc, sp, sc, h1, h2, h3, h4, h5⟩ := h.ex
  exact ⟨h.lr, h.ls, rp, rc, sp, sc, h1, h2.keep f (fun k hk => hd k (h4 k hk).2 (h4 k hk).1), h3.keep f (fun k hk => hd k (h5 k hk).2 (h5 k hk).1), h4, h5⟩
/-- other feet, more blocks -/
theorem CRel.mono {w : World} {foot al foot' al' : List Nat} {x : Cl} {y : Cp} (h : CRel w foot al x y) (h1 : ∀ k ∈ al, k ∉ foot → k ∉ foot') (h2 : ∀ k ∈ al, k ∉ foot → k ∈ al') : CRel w foot' al' x y := by
  obtain ⟨rp, rc, sp, sc, e1, e2, e3, h4, h5⟩ := h.ex
  exact ⟨h.lr, h.ls, rp, rc, sp, sc, e1, e2, e3, fun k hk => ⟨h1 k (h4 k hk).2 (h4 k hk).1, h2 k (h4 k hk).2 (h4 k hk).1⟩, fun k hk => ⟨h1 k (h5 k hk).2 (h5 k hk).1, h2 k (h5 k hk).2 (h5 k hk).1⟩⟩
section
variable {w w' : World} {foot al foot' al' F : List Nat} {lm : List (Int × Cl)} {L : List (Int × Cp)} {k : Int} {x : Cl} {y : Cp}
theorem Rl.keep (h : Rl w foot al lm L) (f : Fr F w w') (hd : ∀ k ∈ al, k ∉ foot → k ∉ F) : Rl w' foot al lm L := ⟨h.len, fun i e he => by
  obtain ⟨g, h1, h2, h3⟩ := h.el i e he
  exact ⟨g, h1, h2, h3.keep f hd⟩⟩
theorem Rl.mono (h : Rl w foot al lm L) (h1 : ∀ k ∈ al, k ∉ foot → k ∉ foot') (h2 : ∀ k ∈ al, k ∉ foot → k ∈ al') : Rl w foot' al' lm L := ⟨h.len, fun i e he => by
  obtain ⟨g, e1, e2, e3⟩ := h.el i e he
  exact ⟨g, e1, e2, e3.mono h1 h2⟩⟩
theorem keysG_get {β : Type} {l : List (Int × β)} (i : Nat) : (keys l)[i]? = (l[i]?).map (·.1) := by unfold keys; rw [List.getElem?_map]
theorem Rl.keys (h : Rl w foot al lm L) : keys lm = keys L := by
  apply List.ext_getElem?
  intro i
  rw [keysG_get, keysG_get]
  cases he : lm[i]? with
  | none =>
    have : L.length ≤ i := by rw [← h.len]; exact List.getElem?_eq_none_iff.1 he
    rw [List.getElem?_eq_none this]
    rfl
  | some e =>
    obtain ⟨f, h1, h2, _⟩ := h.el i e he
    rw [h1]
    simp [h2]
theorem at_keys {β γ : Type} {l : List (Int × β)} {m : List (Int × γ)} (h : Go.Proofs.YtdgoalhnkegbmaaGreatX.keys l = Go.Proofs.YtdgoalhnkegbmaaGreatX.keys m) (k : Int) : at_ ilt l k = at_ ilt m k := by unfold at_; rw [h]
theorem has_keys {β γ : Type} {l : List (Int × β)} {m : List (Int × γ)} (h : Go.Proofs.YtdgoalhnkegbmaaGreatX.keys l = Go.Proofs.YtdgoalhnkegbmaaGreatX.keys m) (k : Int) : has ilt l k = has ilt m k := by unfold has; rw [h, at_keys h]
theorem next_keys {β γ : Type} {l : List (Int × β)} {m : List (Int × γ)} (h : Go.Proofs.YtdgoalhnkegbmaaGreatX.keys l = Go.Proofs.YtdgoalhnkegbmaaGreatX.keys m) (k : Int) : next ilt l k = next ilt m k := by unfold next; rw [h, has_keys h, at_keys h]
theorem after_keys {β γ : Type} {l : List (Int × β)} {m : List (Int × γ)} (h : Go.Proofs.YtdgoalhnkegbmaaGreatX.keys l = Go.Proofs.YtdgoalhnkegbmaaGreatX.keys m) (k : Int) : after ilt l k = after ilt m k := by unfold after; rw [h, next_keys h]
theorem Rl.get (h : Rl w foot al lm L) (k : Int) : (Go.Proofs.YtdgoalhnkegbmaaGreatX.get ilt lm k = none ∧ Go.Proofs.YtdgoalhnkegbmaaGreatX.get ilt L k = none) ∨ ∃ x y, Go.Proofs.YtdgoalhnkegbmaaGreatX.get ilt lm k = some x ∧ Go.Proofs.YtdgoalhnkegbmaaGreatX.get ilt L k = some y ∧ CRel w foot al x y := by
  have hk := has_keys h.keys k
  have ha := at_keys h.keys k
  unfold Go.Proofs.YtdgoalhnkegbmaaGreatX.get
  rw [hk, ha]
  by_cases hh : has ilt L k = true
  · rw [if_pos hh, if_pos hh]
    have hlt : at_ ilt L k < L.length := at_lt hh
    have hlt2 : at_ ilt L k < lm.length := by rw [h.len]; exact hlt
    have he := List.getElem?_eq_getElem hlt2
    generalize lm[at_ ilt L k] = e at he
    obtain ⟨f, h1, _, h3⟩ := h.el _ e he
    exact .inr ⟨e.2, f.2, by rw [he]; rfl, by rw [h1]; rfl, h3⟩
  · rw [if_neg hh, if_neg hh]
    exact .inl ⟨rfl, rfl⟩
theorem Rl.put (h : Rl w foot al lm L) (k : Int) (r : CRel w foot al x y) : Rl w foot al (Go.Proofs.YtdgoalhnkegbmaaGreatX.put ilt lm k x) (Go.Proofs.YtdgoalhnkegbmaaGreatX.put ilt L k y) := by
  have hk := has_keys h.keys k
  have ha := at_keys h.keys k
  have hl := h.len
  refine ⟨by rw [put_length, put_length, hk, h.len], fun i e he => ?_⟩
  unfold Go.Proofs.YtdgoalhnkegbmaaGreatX.put at he ⊢
  rw [hk, ha] at he
  by_cases hh : has ilt L k = true
  · rw [if_pos hh] at he ⊢
    rw [List.getElem?_set] at he ⊢
    by_cases hi : at_ ilt L k = i
    · rw [if_pos hi] at he ⊢
      split at he
      · rename_i hlt
        injection he with he; subst he
        exact ⟨(k, y), by rw [if_pos (by omega)], rfl, r⟩
      · cases he
    · rw [if_neg hi] at he ⊢
      exact h.el i e he
  · rw [if_neg hh] at he ⊢
    have hal : at_ ilt L k ≤ L.length := at_le L k
    have htl : (lm.take (at_ ilt L k)).length = at_ ilt L k := by rw [List.length_take]; omega
    have htL : (L.take (at_ ilt L k)).length = at_ ilt L k := by rw [List.length_take]; omega
    by_cases h1 : i < at_ ilt L k
    · rw [List.getElem?_append_left (by omega), List.getElem?_take_of_lt h1] at he
      rw [List.getElem?_append_left (by omega), List.getElem?_take_of_lt h1]
      exact h.el i e he
    · rw [List.getElem?_append_right (by omega), htl] at he
      rw [List.getElem?_append_right (by omega), htL]
      by_cases h2 : i - at_ ilt L k = 0
      · rw [h2] at he ⊢
        simp only [List.getElem?_cons_zero, Option.some.injEq] at he ⊢
        subst he
        exact ⟨(k, y), rfl, rfl, r⟩
      · obtain ⟨j, hj⟩ : ∃ j, i - at_ ilt L k = j + 1 := ⟨i - at_ ilt L k - 1, by omega⟩
        rw [hj, List.getElem?_cons_succ, List.getElem?_drop] at he
        rw [hj, List.getElem?_cons_succ, List.getElem?_drop]
        exact h.el _ e he
theorem Rl.drp (h : Rl w foot al lm L) (k : Int) : Rl w foot al (Go.Proofs.YtdgoalhnkegbmaaGreatX.drp ilt lm k) (Go.Proofs.YtdgoalhnkegbmaaGreatX.drp ilt L k) := by
  have hk := has_keys h.keys k
  have ha := at_keys h.keys k
  have hl := h.len
  refine ⟨by rw [drp_length, drp_length, hk, h.len], fun i e he => ?_⟩
  unfold Go.Proofs.YtdgoalhnkegbmaaGreatX.drp at he ⊢
  rw [hk, ha] at he
  by_cases hh : has ilt L k = true
  · rw [if_pos hh] at he ⊢
    have hal : at_ ilt L k ≤ L.length := at_le L k
    have htl : (lm.take (at_ ilt L k)).length = at_ ilt L k := by rw [List.length_take]; omega
    have htL : (L.take (at_ ilt L k)).length = at_ ilt L k := by rw [List.length_take]; omega
    by_cases h1 : i < at_ ilt L k
    · rw [List.getElem?_append_left (by omega), List.getElem?_take_of_lt h1] at he
      rw [List.getElem?_append_left (by omega), List.getElem?_take_of_lt h1]
      exact h.el i e he
    · rw [List.getElem?_append_right (by omega), htl, List.getElem?_drop] at he
      rw [List.getElem?_append_right (by omega), htL, List.getElem?_drop]
      exact h.el _ e he
  · rw [if_neg hh] at he ⊢
    exact h.el i e he
end
end Go.Proofs.YtdgoalhnkegbmaaGreatX
