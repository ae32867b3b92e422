/- What the claim needs of the calculus and of the walks, part 5: XT4 RTabCB RTabPCB RTabDCB L20RBase. -/
import Derived.Test.YtdgoalhnkegbmaaGreatC4
namespace Go.Proofs.YtdgoalhnkegbmaaGreatX
open Go.RowKit
set_option linter.unusedVariables false
set_option maxRecDepth 100000
/-! ### mooring/mooringref20.NewCalls: function 6 -/
def X6.l0 (Q : Value → World → Prop) : Nat → Int → Addr → Int → World → Prop
  | 0, _, _, _, _ => False
  | k + 1, t2, t7, t8, w => bcase (decide (t8 < (65 : Int))) ((0 ≤ t8 ∧ t8 < ((65 : Nat) : Int)) ∧ stK w ((t7.add 23).add (Int.toNat t8 * 1)) (.int .u64 t2) fun w1 => X6.l0 Q k t2 t7 (IntKind.wrap .i64 (t8 + (1 : Int))) w1) (Q (.pointer (some t7)) w)
def X6.j1 (Q : Value → World → Prop) (t1 : Int) (t2 : Int) (t3 : Addr) (w : World) : Prop := ldI .i64 w (t3.add 0) fun x1 => ldI .i64 w (t3.add 1) fun x2 => ldI .i64 w (t3.add 2) fun x3 => ldI .i64 w (t3.add 3) fun x4 => ldI .i64 w (t3.add 4) fun x5 => ldI .i64 w (t3.add 5) fun x6 => ldI .i64 w (t3.add 6) fun x7 => ldI .i64 w (t3.add 7) fun x8 => ldI .i64 w (t3.add 8) fun x9 => ldI .i64 w (t3.add 9) fun x10 => ldI .i64 w (t3.add 10) fun x11 => ldI .u64 w (t3.add 11) fun x12 => ldI .u64 w (t3.add 12) fun x13 => ldI .u64 w (t3.add 13) fun x14 => ldI .u64 w (t3.add 14) fun x15 => ldI .u64 w (t3.add 15) fun x16 => ldI .u64 w (t3.add 16) fun x17 => ldI .i64 w (t3.add 17) fun x18 => ldI .i64 w (t3.add 18) fun x19 => ldI .i64 w (t3.add 19) fun x20 => ldI .u64 w (t3.add 20) fun x21 => ldI .u64 w (t3.add 21) fun x22 => newK w #[.int .i64 x1, .int .i64 x2, .int .i64 x3, .int .i64 x4, .int .i64 x5, .int .i64 x6, .int .i64 x7, .int .i64 x8, .int .i64 x9, .int .i64 x10, .int .i64 x11, .int .u64 x12, .int .u64 x13, .int .u64 x14, .int .u64 x15, .int .u64 x16, .int .u64 x17, .int .i64 x18, .int .i64 x19, .int .i64 x20, .int .u64 x21, .int .u64 x22, .int .i64 t1, .int .u64 (0 : Int), .int .u64 (0 : Int), .int .u64 (0 : Int), .int .u64 (0 : Int), .int .u64 (0 : Int), .int .u64 (0 : Int), .int .u64 (0 : Int), .int .u64 (0 : Int), .int .u64 (0 : Int), .int .u64 (0 : Int), .int .u64 (0 : Int), .int .u64 (0 : Int), .int .u64 (0 : Int), .int .u64 (0 : Int), .int .u64 (0 : Int), .int .u64 (0 : Int), .int .u64 (0 : Int), .int .u64 (0 : Int), .int .u64 (0 : Int), .int .u64 (0 : Int), .int .u64 (0 : Int), .int .u64 (0 : Int), .int .u64 (0 : Int), .int .u64 (0 : Int), .int .u64 (0 : Int), .int .u64 (0 : Int), .int .u64 (0 : Int), .int .u64 (0 : Int), .int .u64 (0 : Int), .int .u64 (0 : Int), .int .u64 (0 : Int), .int .u64 (0 : Int), .int .u64 (0 : Int), .int .u64 (0 : Int), .int .u64 (0 : Int), .int .u64 (0 : Int), .int .u64 (0 : Int), .int .u64 (0 : Int), .int .u64 (0 : Int), .int .u64 (0 : Int), .int .u64 (0 : Int), .int .u64 (0 : Int), .int .u64 (0 : Int), .int .u64 (0 : Int), .int .u64 (0 : Int), .int .u64 (0 : Int), .int .u64 (0 : Int), .int .u64 (0 : Int), .int .u64 (0 : Int), .int .u64 (0 : Int), .int .u64 (0 : Int), .int .u64 (0 : Int), .int .u64 (0 : Int), .int .u64 (0 : Int), .int .u64 (0 : Int), .int .u64 (0 : Int), .int .u64 (0 : Int), .int .u64 (0 : Int), .int .u64 (0 : Int), .int .u64 (0 : Int), .int .u64 (0 : Int), .int .u64 (0 : Int), .int .u64 (0 : Int), .int .u64 (0 : Int), .int .u64 (0 : Int), .int .u64 t2, .int .i64 (0 : Int), .slice none 0 0, .slice none 0 0, .int .u64 (0 : Int)] 59 fun g23 w24 => ldI .i64 w24 (t3.add 6) fun x25 => stK w24 ((g23.add 89).add 0) (.int .i64 x25) fun w26 => ∃ m27, X6.l0 Q m27 t2 g23 (0 : Int) w26
def X6.f (a0_0 : Int) (a0_1 : Int) (a0_2 : Int) (a0_3 : Int) (a0_4 : Int) (a0_5 : Int) (a0_6 : Int) (a0_7 : Int) (a0_8 : Int) (a0_9 : Int) (a0_10 : Int) (a0_11 : Int) (a0_12 : Int) (a0_13 : Int) (a0_14 : Int) (a0_15 : Int) (a0_16 : Int) (a0_17 : Int) (a0_18 : Int) (a0_19 : Int) (a0_20 : Int) (a0_21 : Int) (a1 : Int) (a2 : Int) (w : World) (Q : Value → World → Prop) : Prop := newK w #[.int .i64 a0_0, .int .i64 a0_1, .int .i64 a0_2, .int .i64 a0_3, .int .i64 a0_4, .int .i64 a0_5, .int .i64 a0_6, .int .i64 a0_7, .int .i64 a0_8, .int .i64 a0_9, .int .i64 a0_10, .int .u64 a0_11, .int .u64 a0_12, .int .u64 a0_13, .int .u64 a0_14, .int .u64 a0_15, .int .u64 a0_16, .int .i64 a0_17, .int .i64 a0_18, .int .i64 a0_19, .int .u64 a0_20, .int .u64 a0_21] 27 fun g1 w2 => ldI .i64 w2 (g1.add 0) fun x3 => ldI .i64 w2 (g1.add 1) fun x4 => ldI .i64 w2 (g1.add 2) fun x5 => ldI .i64 w2 (g1.add 3) fun x6 => ldI .i64 w2 (g1.add 4) fun x7 => ldI .i64 w2 (g1.add 5) fun x8 => ldI .i64 w2 (g1.add 6) fun x9 => ldI .i64 w2 (g1.add 7) fun x10 => ldI .i64 w2 (g1.add 8) fun x11 => ldI .i64 w2 (g1.add 9) fun x12 => ldI .i64 w2 (g1.add 10) fun x13 => ldI .u64 w2 (g1.add 11) fun x14 => ldI .u64 w2 (g1.add 12) fun x15 => ldI .u64 w2 (g1.add 13) fun x16 => ldI .u64 w2 (g1.add 14) fun x17 => ldI .u64 w2 (g1.add 15) fun x18 => ldI .u64 w2 (g1.add 16) fun x19 => ldI .i64 w2 (g1.add 17) fun x20 => ldI .i64 w2 (g1.add 18) fun x21 => ldI .i64 w2 (g1.add 19) fun x22 => ldI .u64 w2 (g1.add 20) fun x23 => ldI .u64 w2 (g1.add 21) fun x24 => CallR Tryz.prog 11 #[.agg #[.int .i64 x3, .int .i64 x4, .int .i64 x5, .int .i64 x6, .int .i64 x7, .int .i64 x8, .int .i64 x9, .int .i64 x10, .int .i64 x11, .int .i64 x12, .int .i64 x13, .int .u64 x14, .int .u64 x15, .int .u64 x16, .int .u64 x17, .int .u64 x18, .int .u64 x19, .int .i64 x20, .int .i64 x21, .int .i64 x22, .int .u64 x23, .int .u64 x24]] w2 fun v25 w26 => ∃ (y27 : Bool), v25 = .bool y27 ∧ bcase (!y27) (Q (.pointer none) w26) (bcase (decide (a1 < (1 : Int))) (Q (.pointer none) w26) (ldI .i64 w26 (g1.add 0) fun x28 => bcase (decide (a1 > x28)) (Q (.pointer none) w26) (bcase (decide (a2 > (72057594037927935 : Int))) (Q (.pointer none) w26) (X6.j1 Q a1 a2 g1 w26))))
def X6.S (Q : Value → World → Prop) : Segs
  | 0, φ, ρ, w => qI .u64 (ρ 2) fun t2 => qA (ρ 7) fun t7 => qI .i64 (ρ 8) fun t8 => X6.l0 Q (φ 0) t2 t7 t8 w
  | 1, φ, ρ, w => qI .i64 (ρ 1) fun t1 => qI .u64 (ρ 2) fun t2 => qA (ρ 3) fun t3 => X6.j1 Q t1 t2 t3 w
  | _, _, _, _ => False
noncomputable def X6.an : Ann := (.seq .leaf (.seq (.seq .leaf (.cond (.seq .leaf .leaf) .leaf)) (.join 1 (.seq .leaf (.seq .leaf (.seq (.seq .leaf (.block (.loop 0 (.seq (.seq .leaf (.cond .leaf .leaf)) (.seq (.block .leaf) .leaf))))) (.seq .leaf .leaf)))))))
noncomputable def X6.c : Code := Tryz.f6.body.getD .skip
theorem X6.v (Q : Value → World → Prop) : V Tryz.prog (X6.S Q) X6.an X6.c (retC Tryz.prog Tryz.f6 Q) := ⟨trivial, ⟨⟨trivial, ⟨⟨trivial, trivial⟩, trivial⟩⟩, ⟨(by
    intro φ ρ w h
    simp only [X6.S] at h
    obtain ⟨t1, e1, h⟩ := qI_elim h
    obtain ⟨t2, e2, h⟩ := qI_elim h
    obtain ⟨t3, e3, h⟩ := qA_elim h
    exact ⟨(((Env.nil.put (some 1) (.int .i64 t1)).put (some 2) (.int .u64 t2)).put (some 3) (.pointer (some t3))), Env.le_put e3 (Env.le_put e2 (Env.le_put e1 (Env.le_nil _))), Eq.mp (by kernel_rfl) h⟩), ⟨trivial, ⟨trivial, ⟨⟨trivial, ⟨(by
    intro φ ρ w h
    simp only [X6.S] at h
    obtain ⟨t2, e2, h⟩ := qI_elim h
    obtain ⟨t7, e7, h⟩ := qA_elim h
    obtain ⟨t8, e8, h⟩ := qI_elim h
    cases hk : φ 0 with
    | zero => rw [hk] at h; exact h.elim
    | succ k => rw [hk] at h; exact ⟨k, Nat.lt_succ_self k, (((Env.nil.put (some 2) (.int .u64 t2)).put (some 7) (.pointer (some t7))).put (some 8) (.int .i64 t8)), Env.le_put e8 (Env.le_put e7 (Env.le_put e2 (Env.le_nil _))), Eq.mp (by kernel_rfl) h⟩), ⟨⟨trivial, ⟨trivial, trivial⟩⟩, ⟨trivial, trivial⟩⟩⟩⟩, ⟨trivial, trivial⟩⟩⟩⟩⟩⟩⟩
theorem X6.sound (a0_0 : Int) (a0_1 : Int) (a0_2 : Int) (a0_3 : Int) (a0_4 : Int) (a0_5 : Int) (a0_6 : Int) (a0_7 : Int) (a0_8 : Int) (a0_9 : Int) (a0_10 : Int) (a0_11 : Int) (a0_12 : Int) (a0_13 : Int) (a0_14 : Int) (a0_15 : Int) (a0_16 : Int) (a0_17 : Int) (a0_18 : Int) (a0_19 : Int) (a0_20 : Int) (a0_21 : Int) (a1 : Int) (a2 : Int) (w : World) (Q : Value → World → Prop) (h : X6.f a0_0 a0_1 a0_2 a0_3 a0_4 a0_5 a0_6 a0_7 a0_8 a0_9 a0_10 a0_11 a0_12 a0_13 a0_14 a0_15 a0_16 a0_17 a0_18 a0_19 a0_20 a0_21 a1 a2 w Q) : CallR Tryz.prog 6 #[.agg #[.int .i64 a0_0, .int .i64 a0_1, .int .i64 a0_2, .int .i64 a0_3, .int .i64 a0_4, .int .i64 a0_5, .int .i64 a0_6, .int .i64 a0_7, .int .i64 a0_8, .int .i64 a0_9, .int .i64 a0_10, .int .u64 a0_11, .int .u64 a0_12, .int .u64 a0_13, .int .u64 a0_14, .int .u64 a0_15, .int .u64 a0_16, .int .i64 a0_17, .int .i64 a0_18, .int .i64 a0_19, .int .u64 a0_20, .int .u64 a0_21], .int .i64 a1, .int .u64 a2] w Q :=
  fn_sound noGr mixed Tryz.func6 (c := X6.c) (an := X6.an) (S := X6.S Q) (φ := fun _ => 0) (args := [.agg #[.int .i64 a0_0, .int .i64 a0_1, .int .i64 a0_2, .int .i64 a0_3, .int .i64 a0_4, .int .i64 a0_5, .int .i64 a0_6, .int .i64 a0_7, .int .i64 a0_8, .int .i64 a0_9, .int .i64 a0_10, .int .u64 a0_11, .int .u64 a0_12, .int .u64 a0_13, .int .u64 a0_14, .int .u64 a0_15, .int .u64 a0_16, .int .i64 a0_17, .int .i64 a0_18, .int .i64 a0_19, .int .u64 a0_20, .int .u64 a0_21], .int .i64 a1, .int .u64 a2]) (by kernel_rfl) (by kernel_rfl) (by kernel_rfl) (X6.v Q) (Eq.mp (by kernel_rfl) h)
/-! ### (*mooring/mooringref20.Calls).Begin: function 26 -/
def X26.j0 (Q : Value → World → Prop) (t0 : Option Addr) (t1 : Int) (t2 : Int) (t3 : Int) (t5 : Int) (t6p : Option Addr) (t6n : Nat) (t6c : Nat) (t7 : Int) (t12 : Addr) (w : World) : Prop := optP t0 fun p1 => (0 ≤ t1 ∧ t1 < ((65 : Nat) : Int)) ∧ ldI .u64 w ((p1.add 23).add (Int.toNat t1 * 1)) fun x2 => bcase (decide (x2 ≥ (72057594037927935 : Int))) (Q (.tuple #[.int .u64 (0 : Int), .int .i64 (7 : Int)]) w) (drewK w fun w3 => optP t0 fun p4 => (0 ≤ t1 ∧ t1 < ((65 : Nat) : Int)) ∧ ldI .u64 w3 ((p4.add 23).add (Int.toNat t1 * 1)) fun x5 => optP t0 fun p6 => (0 ≤ t1 ∧ t1 < ((65 : Nat) : Int)) ∧ stK w3 ((p6.add 23).add (Int.toNat t1 * 1)) (.int .u64 (IntKind.wrap .u64 (x5 + (1 : Int)))) fun w7 => optP t0 fun p8 => (0 ≤ t1 ∧ t1 < ((65 : Nat) : Int)) ∧ ldI .u64 w7 ((p8.add 23).add (Int.toNat t1 * 1)) fun x9 => drewK w7 fun w10 => optP t0 fun p11 => CallR Tryz.prog 58 #[.int .i64 t1, .int .u64 x9] w10 fun v12 w13 => ∃ (y14 : Int), v12 = .int .u64 y14 ∧ ldI .i64 w13 (t12.add 0) fun x15 => ldI .u64 w13 (t12.add 1) fun x16 => ((∀ j u, ([.int .i64 x15, .int .u64 x16] : List Value)[j]? = some u → World.cell? w10 (t12.add j) = some u) ∧ (∀ j u, ([.int .i64 x15, .int .u64 x16] : List Value)[j]? = some u → World.cell? w13 (t12.add j) = some u)) ∧ CallR Tryz.prog 55 #[.slice t6p t6n t6c] w13 fun v17 w18 => ∃ (y19p : Option Addr) (y19n y19c : Nat), v17 = .slice y19p y19n y19c ∧ ((∀ j u, ([.int .i64 x15, .int .u64 x16] : List Value)[j]? = some u → World.cell? w13 (t12.add j) = some u) ∧ (∀ j u, ([.int .i64 x15, .int .u64 x16] : List Value)[j]? = some u → World.cell? w18 (t12.add j) = some u)) ∧ CallR Tryz.prog 54 #[.pointer (some (p11.add 89)), .int .u64 y14, .agg #[.int .i64 t1, .int .u64 x9, .int .i64 t2, .int .i64 t3, .int .i64 x15, .int .u64 x16, .slice y19p y19n y19c, .int .u64 t5, .int .i64 (1 : Int), .int .i64 (0 : Int), .slice none 0 0, .int .u64 (0 : Int), .int .u64 t7, .int .u64 (0 : Int), .int .u64 t7]] w18 fun v20 w21 => ∃ (y22 : Bool), v20 = .bool y22 ∧ Q (.tuple #[.int .u64 x9, .int .i64 (0 : Int)]) w21)
def X26.j1 (Q : Value → World → Prop) (t0 : Option Addr) (t1 : Int) (t2 : Int) (t3 : Int) (t5 : Int) (t6p : Option Addr) (t6n : Nat) (t6c : Nat) (t7 : Int) (t12 : Addr) (w : World) : Prop := drewK w fun w1 => optP t0 fun p2 => ldSl w1 ((p2.add 89).add 2) fun x3p x3n x3c => optP t0 fun p4 => ldI .i64 w1 ((p4.add 0).add 6) fun x5 => bcase (decide (((x3n : Nat) : Int) ≥ x5)) (Q (.tuple #[.int .u64 (0 : Int), .int .i64 (6 : Int)]) w1) (optP t0 fun p6 => (0 ≤ t1 ∧ t1 < ((65 : Nat) : Int)) ∧ ldI .u64 w1 ((p6.add 23).add (Int.toNat t1 * 1)) fun x7 => CallR Tryz.prog 32 #[.pointer t0, .int .i64 t1] w1 fun v8 w9 => ∃ (y10 : Int), v8 = .int .u64 y10 ∧ (World.cell? w1 ((p6.add 23).add (Int.toNat t1 * 1)) = some (.int .u64 x7) ∧ World.cell? w9 ((p6.add 23).add (Int.toNat t1 * 1)) = some (.int .u64 x7)) ∧ optP t0 fun p11 => ldI .i64 w9 ((p11.add 0).add 7) fun x12 => (World.cell? w1 ((p11.add 0).add 7) = some (.int .i64 x12) ∧ World.cell? w9 ((p11.add 0).add 7) = some (.int .i64 x12)) ∧ bcase (decide ((IntKind.wrap .u64 ((IntKind.wrap .u64 (x7 + (1 : Int))) - y10)) ≥ (IntKind.wrap .u64 x12))) (Q (.tuple #[.int .u64 (0 : Int), .int .i64 (6 : Int)]) w9) (X26.j0 Q t0 t1 t2 t3 t5 t6p t6n t6c t7 t12 w9))
def X26.f (a0 : Option Addr) (a1 : Int) (a2 : Int) (a3 : Int) (a4_0 : Int) (a4_1 : Int) (a5 : Int) (a6p : Option Addr) (a6n : Nat) (a6c : Nat) (a7 : Int) (w : World) (Q : Value → World → Prop) : Prop := newK w #[.int .i64 a4_0, .int .u64 a4_1] 37 fun g1 w2 => drewK w2 fun w3 => optP a0 fun p4 => ldI .i64 w3 (p4.add 22) fun x5 => ldI .i64 w3 (g1.add 0) fun x6 => ldI .u64 w3 (g1.add 1) fun x7 => newK w3 #[.int .i64 (0 : Int), .int .i64 (0 : Int), .int .i64 (0 : Int), .int .u64 (0 : Int), .int .u64 (0 : Int), .int .i64 (0 : Int), .int .i64 (0 : Int), .int .i64 (0 : Int), .int .i64 (0 : Int), .int .u64 (0 : Int), .slice none 0 0, .int .u64 (0 : Int), .int .i64 (0 : Int), .int .u64 (0 : Int), .int .i64 (0 : Int), .int .u64 (0 : Int), .int .i64 (0 : Int), .int .u64 (0 : Int), .slice none 0 0] 63 fun g8 w9 => ((∀ j u, ([.int .i64 x6, .int .u64 x7] : List Value)[j]? = some u → World.cell? w3 (g1.add j) = some u) ∧ (∀ j u, ([.int .i64 x6, .int .u64 x7] : List Value)[j]? = some u → World.cell? w9 (g1.add j) = some u)) ∧ (World.cell? w3 (p4.add 22) = some (.int .i64 x5) ∧ World.cell? w9 (p4.add 22) = some (.int .i64 x5)) ∧ stAll w9 g8 [.int .i64 (1 : Int), .int .i64 x5, .int .i64 a1, .int .u64 (1 : Int), .int .u64 (1 : Int), .int .i64 a2, .int .i64 a3, .int .i64 (0 : Int), .int .i64 x6, .int .u64 x7, .slice a6p a6n a6c, .int .u64 a5, .int .i64 (0 : Int), .int .u64 (0 : Int), .int .i64 (0 : Int), .int .u64 (0 : Int), .int .i64 (0 : Int), .int .u64 (0 : Int), .slice none 0 0] fun w10 => optP a0 fun p11 => ldI .i64 w10 ((p11.add 0).add 0) fun x12 => bcase (decide (a1 > x12)) (Q (.tuple #[.int .u64 (0 : Int), .int .i64 (1 : Int)]) w10) (ldI .i64 w10 (g8.add 0) fun x13 => ldI .i64 w10 (g8.add 1) fun x14 => ldI .i64 w10 (g8.add 2) fun x15 => ldI .u64 w10 (g8.add 3) fun x16 => ldI .u64 w10 (g8.add 4) fun x17 => ldI .i64 w10 (g8.add 5) fun x18 => ldI .i64 w10 (g8.add 6) fun x19 => ldI .i64 w10 (g8.add 7) fun x20 => ldI .i64 w10 (g8.add 8) fun x21 => ldI .u64 w10 (g8.add 9) fun x22 => ldSl w10 (g8.add 10) fun x23p x23n x23c => ldI .u64 w10 (g8.add 11) fun x24 => ldI .i64 w10 (g8.add 12) fun x25 => ldI .u64 w10 (g8.add 13) fun x26 => ldI .i64 w10 (g8.add 14) fun x27 => ldI .u64 w10 (g8.add 15) fun x28 => ldI .i64 w10 (g8.add 16) fun x29 => ldI .u64 w10 (g8.add 17) fun x30 => ldSl w10 (g8.add 18) fun x31p x31n x31c => CallR Tryz.prog 60 #[.agg #[.int .i64 x13, .int .i64 x14, .int .i64 x15, .int .u64 x16, .int .u64 x17, .int .i64 x18, .int .i64 x19, .int .i64 x20, .int .i64 x21, .int .u64 x22, .slice x23p x23n x23c, .int .u64 x24, .int .i64 x25, .int .u64 x26, .int .i64 x27, .int .u64 x28, .int .i64 x29, .int .u64 x30, .slice x31p x31n x31c]] w10 fun v32 w33 => ∃ (y34 : Bool), v32 = .bool y34 ∧ bcase (!y34) (Q (.tuple #[.int .u64 (0 : Int), .int .i64 (1 : Int)]) w33) (ldI .i64 w33 (g1.add 0) fun x35 => ldI .u64 w33 (g1.add 1) fun x36 => CallR Tryz.prog 61 #[.agg #[.int .i64 x35, .int .u64 x36]] w33 fun v37 w38 => ∃ (y39 : Bool), v37 = .bool y39 ∧ bcase (!y39) (ldI .i64 w38 (g1.add 0) fun x40 => bcase (x40 != a1) (Q (.tuple #[.int .u64 (0 : Int), .int .i64 (1 : Int)]) w38) (X26.j1 Q a0 a1 a2 a3 a5 a6p a6n a6c a7 g1 w38)) (X26.j1 Q a0 a1 a2 a3 a5 a6p a6n a6c a7 g1 w38)))
def X26.S (Q : Value → World → Prop) : Segs
  | 0, φ, ρ, w => qP (ρ 0) fun t0 => qI .i64 (ρ 1) fun t1 => qI .i64 (ρ 2) fun t2 => qI .i64 (ρ 3) fun t3 => qI .u64 (ρ 5) fun t5 => qSl (ρ 6) fun t6p t6n t6c => qI .u64 (ρ 7) fun t7 => qA (ρ 12) fun t12 => X26.j0 Q t0 t1 t2 t3 t5 t6p t6n t6c t7 t12 w
  | 1, φ, ρ, w => qP (ρ 0) fun t0 => qI .i64 (ρ 1) fun t1 => qI .i64 (ρ 2) fun t2 => qI .i64 (ρ 3) fun t3 => qI .u64 (ρ 5) fun t5 => qSl (ρ 6) fun t6p t6n t6c => qI .u64 (ρ 7) fun t7 => qA (ρ 12) fun t12 => X26.j1 Q t0 t1 t2 t3 t5 t6p t6n t6c t7 t12 w
  | _, _, _, _ => False
noncomputable def X26.an : Ann := (.seq .leaf (.seq (.draw [0, 1, 3, 7, 0, 0, 0, 0, 0, 0, 1023, 0, 4095] [[0, 1, 2, 3, 4, 5, 6, 7, 8, 9, 10, 11, 12]]) (.seq (.seq .leaf (.cond (.seq .leaf .leaf) .leaf)) (.join 1 (.seq (.seq (.draw [0, 1, 3, 7, 15, 31, 0, 64, 192, 448, 960, 2047, 4095, 8191, 8191, 16383, 49151, 131071, 262143, 524287, 8191, 8191, 3153919, 8388607, 8191, 16785407, 50339839, 117448703, 251666431, 520101887, 1073741823, 2147483647] [[0, 1, 2, 3, 4, 5, 6, 7, 8, 9, 10, 11, 12, 13, 14, 15, 16, 17, 18, 19, 20, 21, 22, 23, 24, 25, 26, 27, 28, 29, 30, 31]]) (.cond (.seq .leaf .leaf) .leaf)) (.join 0 (.seq (.seq .leaf (.cond (.seq .leaf .leaf) .leaf)) (.seq (.draw [0, 0, 1, 5, 15, 31, 63, 1, 129, 511, 1023] [[0, 1, 2, 3, 4, 5, 6, 7, 8, 9, 10]]) (.seq .leaf (.seq (.draw [0, 1, 3, 0, 0, 24, 0, 0, 0, 0, 0, 0, 2104, 0, 0, 0, 65528, 131071] [[0, 1, 2, 3, 4, 5, 6, 7, 8, 9, 10, 11, 12, 13, 14, 15, 16, 17]]) (.seq .leaf .leaf)))))))))))
noncomputable def X26.c : Code := Tryz.f26.body.getD .skip
theorem X26.v (Q : Value → World → Prop) : V Tryz.prog (X26.S Q) X26.an X26.c (retC Tryz.prog Tryz.f26 Q) := ⟨trivial, ⟨trivial, ⟨⟨trivial, ⟨⟨trivial, trivial⟩, trivial⟩⟩, ⟨(by
    intro φ ρ w h
    simp only [X26.S] at h
    obtain ⟨t0, e0, h⟩ := qP_elim h
    obtain ⟨t1, e1, h⟩ := qI_elim h
    obtain ⟨t2, e2, h⟩ := qI_elim h
    obtain ⟨t3, e3, h⟩ := qI_elim h
    obtain ⟨t5, e5, h⟩ := qI_elim h
    obtain ⟨t6p, t6n, t6c, e6, h⟩ := qSl_elim h
    obtain ⟨t7, e7, h⟩ := qI_elim h
    obtain ⟨t12, e12, h⟩ := qA_elim h
    exact ⟨((((((((Env.nil.put (some 0) (.pointer t0)).put (some 1) (.int .i64 t1)).put (some 2) (.int .i64 t2)).put (some 3) (.int .i64 t3)).put (some 5) (.int .u64 t5)).put (some 6) (.slice t6p t6n t6c)).put (some 7) (.int .u64 t7)).put (some 12) (.pointer (some t12))), Env.le_put e12 (Env.le_put e7 (Env.le_put e6 (Env.le_put e5 (Env.le_put e3 (Env.le_put e2 (Env.le_put e1 (Env.le_put e0 (Env.le_nil _)))))))), Eq.mp (by kernel_rfl) h⟩), ⟨⟨trivial, ⟨⟨trivial, trivial⟩, trivial⟩⟩, ⟨(by
    intro φ ρ w h
    simp only [X26.S] at h
    obtain ⟨t0, e0, h⟩ := qP_elim h
    obtain ⟨t1, e1, h⟩ := qI_elim h
    obtain ⟨t2, e2, h⟩ := qI_elim h
    obtain ⟨t3, e3, h⟩ := qI_elim h
    obtain ⟨t5, e5, h⟩ := qI_elim h
    obtain ⟨t6p, t6n, t6c, e6, h⟩ := qSl_elim h
    obtain ⟨t7, e7, h⟩ := qI_elim h
    obtain ⟨t12, e12, h⟩ := qA_elim h
    exact ⟨((((((((Env.nil.put (some 0) (.pointer t0)).put (some 1) (.int .i64 t1)).put (some 2) (.int .i64 t2)).put (some 3) (.int .i64 t3)).put (some 5) (.int .u64 t5)).put (some 6) (.slice t6p t6n t6c)).put (some 7) (.int .u64 t7)).put (some 12) (.pointer (some t12))), Env.le_put e12 (Env.le_put e7 (Env.le_put e6 (Env.le_put e5 (Env.le_put e3 (Env.le_put e2 (Env.le_put e1 (Env.le_put e0 (Env.le_nil _)))))))), Eq.mp (by kernel_rfl) h⟩), ⟨⟨trivial, ⟨⟨trivial, trivial⟩, trivial⟩⟩, ⟨trivial, ⟨trivial, ⟨trivial, ⟨trivial, trivial⟩⟩⟩⟩⟩⟩⟩⟩⟩⟩⟩
theorem X26.sound (a0 : Option Addr) (a1 : Int) (a2 : Int) (a3 : Int) (a4_0 : Int) (a4_1 : Int) (a5 : Int) (a6p : Option Addr) (a6n : Nat) (a6c : Nat) (a7 : Int) (w : World) (Q : Value → World → Prop) (h : X26.f a0 a1 a2 a3 a4_0 a4_1 a5 a6p a6n a6c a7 w Q) : CallR Tryz.prog 26 #[.pointer a0, .int .i64 a1, .int .i64 a2, .int .i64 a3, .agg #[.int .i64 a4_0, .int .u64 a4_1], .int .u64 a5, .slice a6p a6n a6c, .int .u64 a7] w Q :=
  fn_sound noGr mixed Tryz.func26 (c := X26.c) (an := X26.an) (S := X26.S Q) (φ := fun _ => 0) (args := [.pointer a0, .int .i64 a1, .int .i64 a2, .int .i64 a3, .agg #[.int .i64 a4_0, .int .u64 a4_1], .int .u64 a5, .slice a6p a6n a6c, .int .u64 a7]) (by kernel_rfl) (by kernel_rfl) (by kernel_rfl) (X26.v Q) (Eq.mp (by kernel_rfl) h)
/-! ### mooring/mooringref2.Right: function 60 -/
def X60.l1 (Q : Value → World → Prop) : Nat → Addr → Int → World → Prop
  | 0, _, _, _ => False
  | k + 1, t1, t4, w => ldSl w (t1.add 18) fun x1p x1n x1c => bcase (decide (t4 < ((x1n : Nat) : Int))) (drewK w fun w2 => ldSl w2 (t1.add 18) fun x3p x3n x3c => (0 ≤ t4 ∧ t4 < ((x3n : Nat) : Int)) ∧ optP x3p fun p4 => ldI .u64 w2 (p4.add (Int.toNat t4 * 1)) fun x5 => bcase (decide (x5 < (1 : Int))) (Q (.bool false) w2) (ldSl w2 (t1.add 18) fun x6p x6n x6c => (0 ≤ t4 ∧ t4 < ((x6n : Nat) : Int)) ∧ optP x6p fun p7 => ldI .u64 w2 (p7.add (Int.toNat t4 * 1)) fun x8 => bcase (decide (x8 > (72057594037927935 : Int))) (Q (.bool false) w2) (bcase (decide (t4 > (0 : Int))) (ldSl w2 (t1.add 18) fun x9p x9n x9c => (0 ≤ t4 ∧ t4 < ((x9n : Nat) : Int)) ∧ optP x9p fun p10 => ldI .u64 w2 (p10.add (Int.toNat t4 * 1)) fun x11 => ldSl w2 (t1.add 18) fun x12p x12n x12c => (0 ≤ (IntKind.wrap .i64 (t4 - (1 : Int))) ∧ (IntKind.wrap .i64 (t4 - (1 : Int))) < ((x12n : Nat) : Int)) ∧ optP x12p fun p13 => ldI .u64 w2 (p13.add (Int.toNat (IntKind.wrap .i64 (t4 - (1 : Int))) * 1)) fun x14 => bcase (decide (x11 ≤ x14)) (Q (.bool false) w2) (X60.l1 Q k t1 (IntKind.wrap .i64 (t4 + (1 : Int))) w2)) (X60.l1 Q k t1 (IntKind.wrap .i64 (t4 + (1 : Int))) w2)))) (Q (.bool true) w)
def X60.l0 (Q : Value → World → Prop) : Nat → Addr → Int → World → Prop
  | 0, _, _, _ => False
  | k + 1, t1, t3, w => ldSl w (t1.add 10) fun x1p x1n x1c => bcase (decide (t3 < ((x1n : Nat) : Int))) (ldSl w (t1.add 10) fun x2p x2n x2c => (0 ≤ t3 ∧ t3 < ((x2n : Nat) : Int)) ∧ optP x2p fun p3 => ldI .i64 w ((p3.add (Int.toNat t3 * 2)).add 0) fun x4 => ldI .u64 w ((p3.add (Int.toNat t3 * 2)).add 1) fun x5 => CallR Tryz.prog 84 #[.agg #[.int .i64 x4, .int .u64 x5]] w fun v6 w7 => ∃ (y8 : Bool), v6 = .bool y8 ∧ bcase (!y8) (Q (.bool false) w7) (X60.l0 Q k t1 (IntKind.wrap .i64 (t3 + (1 : Int))) w7)) (∃ m9, X60.l1 Q m9 t1 (0 : Int) w)
def X60.j2 (Q : Value → World → Prop) (t1 : Addr) (w : World) : Prop := ∃ m1, X60.l0 Q m1 t1 (0 : Int) w
def X60.j3 (Q : Value → World → Prop) (t1 : Addr) (w : World) : Prop := ldSl w (t1.add 10) fun x1p x1n x1c => bcase (decide (((x1n : Nat) : Int) > (0 : Int))) (ldI .i64 w (t1.add 0) fun x2 => CallR Tryz.prog 83 #[.int .i64 x2, .string (⟨#[114, 101, 102, 115]⟩ : ByteArray)] w fun v3 w4 => ∃ (y5 : Bool), v3 = .bool y5 ∧ bcase (!y5) (Q (.bool false) w4) (ldSl w4 (t1.add 10) fun x6p x6n x6c => bcase (decide (((x6n : Nat) : Int) > (2 : Int))) (Q (.bool false) w4) (ldSl w4 (t1.add 18) fun x7p x7n x7c => bcase (decide (((x7n : Nat) : Int) > (0 : Int))) (ldI .i64 w4 (t1.add 0) fun x8 => CallR Tryz.prog 83 #[.int .i64 x8, .string (⟨#[108, 105, 115, 116]⟩ : ByteArray)] w4 fun v9 w10 => ∃ (y11 : Bool), v9 = .bool y11 ∧ bcase (!y11) (Q (.bool false) w10) (ldSl w10 (t1.add 18) fun x12p x12n x12c => bcase (decide (((x12n : Nat) : Int) > (64 : Int))) (Q (.bool false) w10) (X60.j2 Q t1 w10))) (ldSl w4 (t1.add 18) fun x13p x13n x13c => bcase (decide (((x13n : Nat) : Int) > (64 : Int))) (Q (.bool false) w4) (X60.j2 Q t1 w4))))) (ldSl w (t1.add 10) fun x14p x14n x14c => bcase (decide (((x14n : Nat) : Int) > (2 : Int))) (Q (.bool false) w) (ldSl w (t1.add 18) fun x15p x15n x15c => bcase (decide (((x15n : Nat) : Int) > (0 : Int))) (ldI .i64 w (t1.add 0) fun x16 => CallR Tryz.prog 83 #[.int .i64 x16, .string (⟨#[108, 105, 115, 116]⟩ : ByteArray)] w fun v17 w18 => ∃ (y19 : Bool), v17 = .bool y19 ∧ bcase (!y19) (Q (.bool false) w18) (ldSl w18 (t1.add 18) fun x20p x20n x20c => bcase (decide (((x20n : Nat) : Int) > (64 : Int))) (Q (.bool false) w18) (X60.j2 Q t1 w18))) (ldSl w (t1.add 18) fun x21p x21n x21c => bcase (decide (((x21n : Nat) : Int) > (64 : Int))) (Q (.bool false) w) (X60.j2 Q t1 w))))
def X60.f (a0_0 : Int) (a0_1 : Int) (a0_2 : Int) (a0_3 : Int) (a0_4 : Int) (a0_5 : Int) (a0_6 : Int) (a0_7 : Int) (a0_8 : Int) (a0_9 : Int) (a0_10p : Option Addr) (a0_10n : Nat) (a0_10c : Nat) (a0_11 : Int) (a0_12 : Int) (a0_13 : Int) (a0_14 : Int) (a0_15 : Int) (a0_16 : Int) (a0_17 : Int) (a0_18p : Option Addr) (a0_18n : Nat) (a0_18c : Nat) (w : World) (Q : Value → World → Prop) : Prop := newK w #[.int .i64 a0_0, .int .i64 a0_1, .int .i64 a0_2, .int .u64 a0_3, .int .u64 a0_4, .int .i64 a0_5, .int .i64 a0_6, .int .i64 a0_7, .int .i64 a0_8, .int .u64 a0_9, .slice a0_10p a0_10n a0_10c, .int .u64 a0_11, .int .i64 a0_12, .int .u64 a0_13, .int .i64 a0_14, .int .u64 a0_15, .int .i64 a0_16, .int .u64 a0_17, .slice a0_18p a0_18n a0_18c] 63 fun g1 w2 => ldI .i64 w2 (g1.add 0) fun x3 => CallR Tryz.prog 80 #[.int .i64 x3, .int .i64 (1 : Int), .int .i64 (11 : Int)] w2 fun v4 w5 => ∃ (y6 : Bool), v4 = .bool y6 ∧ bcase (!y6) (Q (.bool false) w5) (ldI .i64 w5 (g1.add 1) fun x7 => CallR Tryz.prog 80 #[.int .i64 x7, .int .i64 (1 : Int), .int .i64 (64 : Int)] w5 fun v8 w9 => ∃ (y10 : Bool), v8 = .bool y10 ∧ bcase (!y10) (Q (.bool false) w9) (ldI .i64 w9 (g1.add 2) fun x11 => CallR Tryz.prog 80 #[.int .i64 x11, .int .i64 (1 : Int), .int .i64 (64 : Int)] w9 fun v12 w13 => ∃ (y14 : Bool), v12 = .bool y14 ∧ bcase (!y14) (Q (.bool false) w13) (ldI .i64 w13 (g1.add 1) fun x15 => ldI .i64 w13 (g1.add 2) fun x16 => bcase (x15 == x16) (Q (.bool false) w13) (ldI .i64 w13 (g1.add 0) fun x17 => ldI .i64 w13 (g1.add 1) fun x18 => ldI .i64 w13 (g1.add 2) fun x19 => ldI .u64 w13 (g1.add 3) fun x20 => ldI .u64 w13 (g1.add 4) fun x21 => ldI .i64 w13 (g1.add 5) fun x22 => ldI .i64 w13 (g1.add 6) fun x23 => ldI .i64 w13 (g1.add 7) fun x24 => ldI .i64 w13 (g1.add 8) fun x25 => ldI .u64 w13 (g1.add 9) fun x26 => ldSl w13 (g1.add 10) fun x27p x27n x27c => ldI .u64 w13 (g1.add 11) fun x28 => ldI .i64 w13 (g1.add 12) fun x29 => ldI .u64 w13 (g1.add 13) fun x30 => ldI .i64 w13 (g1.add 14) fun x31 => ldI .u64 w13 (g1.add 15) fun x32 => ldI .i64 w13 (g1.add 16) fun x33 => ldI .u64 w13 (g1.add 17) fun x34 => ldSl w13 (g1.add 18) fun x35p x35n x35c => CallR Tryz.prog 81 #[.agg #[.int .i64 x17, .int .i64 x18, .int .i64 x19, .int .u64 x20, .int .u64 x21, .int .i64 x22, .int .i64 x23, .int .i64 x24, .int .i64 x25, .int .u64 x26, .slice x27p x27n x27c, .int .u64 x28, .int .i64 x29, .int .u64 x30, .int .i64 x31, .int .u64 x32, .int .i64 x33, .int .u64 x34, .slice x35p x35n x35c]] w13 fun v36 w37 => ∃ (y38 : Bool), v36 = .bool y38 ∧ bcase (!y38) (Q (.bool false) w37) (ldI .i64 w37 (g1.add 0) fun x39 => ldI .i64 w37 (g1.add 1) fun x40 => ldI .i64 w37 (g1.add 2) fun x41 => ldI .u64 w37 (g1.add 3) fun x42 => ldI .u64 w37 (g1.add 4) fun x43 => ldI .i64 w37 (g1.add 5) fun x44 => ldI .i64 w37 (g1.add 6) fun x45 => ldI .i64 w37 (g1.add 7) fun x46 => ldI .i64 w37 (g1.add 8) fun x47 => ldI .u64 w37 (g1.add 9) fun x48 => ldSl w37 (g1.add 10) fun x49p x49n x49c => ldI .u64 w37 (g1.add 11) fun x50 => ldI .i64 w37 (g1.add 12) fun x51 => ldI .u64 w37 (g1.add 13) fun x52 => ldI .i64 w37 (g1.add 14) fun x53 => ldI .u64 w37 (g1.add 15) fun x54 => ldI .i64 w37 (g1.add 16) fun x55 => ldI .u64 w37 (g1.add 17) fun x56 => ldSl w37 (g1.add 18) fun x57p x57n x57c => CallR Tryz.prog 82 #[.agg #[.int .i64 x39, .int .i64 x40, .int .i64 x41, .int .u64 x42, .int .u64 x43, .int .i64 x44, .int .i64 x45, .int .i64 x46, .int .i64 x47, .int .u64 x48, .slice x49p x49n x49c, .int .u64 x50, .int .i64 x51, .int .u64 x52, .int .i64 x53, .int .u64 x54, .int .i64 x55, .int .u64 x56, .slice x57p x57n x57c]] w37 fun v58 w59 => ∃ (y60 : Bool), v58 = .bool y60 ∧ bcase (!y60) (Q (.bool false) w59) (X60.j3 Q g1 w59))))))
def X60.S (Q : Value → World → Prop) : Segs
  | 0, φ, ρ, w => qA (ρ 1) fun t1 => qI .i64 (ρ 3) fun t3 => X60.l0 Q (φ 0) t1 t3 w
  | 1, φ, ρ, w => qA (ρ 1) fun t1 => qI .i64 (ρ 4) fun t4 => X60.l1 Q (φ 1) t1 t4 w
  | 2, φ, ρ, w => qA (ρ 1) fun t1 => X60.j2 Q t1 w
  | 3, φ, ρ, w => qA (ρ 1) fun t1 => X60.j3 Q t1 w
  | _, _, _, _ => False
noncomputable def X60.an : Ann := (.seq .leaf (.seq (.seq .leaf (.cond (.seq .leaf .leaf) .leaf)) (.join 3 (.seq (.seq .leaf (.cond (.seq .leaf .leaf) .leaf)) (.join 2 (.seq (.seq .leaf (.block (.loop 0 (.seq (.seq .leaf (.cond .leaf .leaf)) (.seq (.block (.seq .leaf (.cond (.seq .leaf .leaf) .leaf))) .leaf))))) (.seq (.seq .leaf (.block (.loop 1 (.seq (.seq .leaf (.cond .leaf .leaf)) (.seq (.block (.seq (.draw [0, 1, 0, 7, 15, 31, 63, 127, 255, 127, 1023, 2047, 4095, 8191, 16383, 32767, 65535, 131071, 262143, 524287, 262143, 2097151, 4194303, 262143, 8650751, 262143, 33816575, 126091263, 260308991, 536870911, 1073741823, 2147483647] [[0, 1, 2, 3, 4, 5, 6, 7, 8, 9, 10, 11, 12, 13, 14, 15, 16, 17, 18, 19, 20, 21, 22, 23, 24, 25, 26, 27, 28, 29, 30, 31]]) (.cond (.seq .leaf .leaf) .leaf))) .leaf))))) (.seq .leaf .leaf))))))))
noncomputable def X60.c : Code := Tryz.f60.body.getD .skip
theorem X60.v (Q : Value → World → Prop) : V Tryz.prog (X60.S Q) X60.an X60.c (retC Tryz.prog Tryz.f60 Q) := ⟨trivial, ⟨⟨trivial, ⟨⟨trivial, trivial⟩, trivial⟩⟩, ⟨(by
    intro φ ρ w h
    simp only [X60.S] at h
    obtain ⟨t1, e1, h⟩ := qA_elim h
    exact ⟨(Env.nil.put (some 1) (.pointer (some t1))), Env.le_put e1 (Env.le_nil _), Eq.mp (by kernel_rfl) h⟩), ⟨⟨trivial, ⟨⟨trivial, trivial⟩, trivial⟩⟩, ⟨(by
    intro φ ρ w h
    simp only [X60.S] at h
    obtain ⟨t1, e1, h⟩ := qA_elim h
    exact ⟨(Env.nil.put (some 1) (.pointer (some t1))), Env.le_put e1 (Env.le_nil _), Eq.mp (by kernel_rfl) h⟩), ⟨⟨trivial, ⟨(by
    intro φ ρ w h
    simp only [X60.S] at h
    obtain ⟨t1, e1, h⟩ := qA_elim h
    obtain ⟨t3, e3, h⟩ := qI_elim h
    cases hk : φ 0 with
    | zero => rw [hk] at h; exact h.elim
    | succ k => rw [hk] at h; exact ⟨k, Nat.lt_succ_self k, ((Env.nil.put (some 1) (.pointer (some t1))).put (some 3) (.int .i64 t3)), Env.le_put e3 (Env.le_put e1 (Env.le_nil _)), Eq.mp (by kernel_rfl) h⟩), ⟨⟨trivial, ⟨trivial, trivial⟩⟩, ⟨⟨trivial, ⟨⟨trivial, trivial⟩, trivial⟩⟩, trivial⟩⟩⟩⟩, ⟨⟨trivial, ⟨(by
    intro φ ρ w h
    simp only [X60.S] at h
    obtain ⟨t1, e1, h⟩ := qA_elim h
    obtain ⟨t4, e4, h⟩ := qI_elim h
    cases hk : φ 1 with
    | zero => rw [hk] at h; exact h.elim
    | succ k => rw [hk] at h; exact ⟨k, Nat.lt_succ_self k, ((Env.nil.put (some 1) (.pointer (some t1))).put (some 4) (.int .i64 t4)), Env.le_put e4 (Env.le_put e1 (Env.le_nil _)), Eq.mp (by kernel_rfl) h⟩), ⟨⟨trivial, ⟨trivial, trivial⟩⟩, ⟨⟨trivial, ⟨⟨trivial, trivial⟩, trivial⟩⟩, trivial⟩⟩⟩⟩, ⟨trivial, trivial⟩⟩⟩⟩⟩⟩⟩⟩
theorem X60.sound (a0_0 : Int) (a0_1 : Int) (a0_2 : Int) (a0_3 : Int) (a0_4 : Int) (a0_5 : Int) (a0_6 : Int) (a0_7 : Int) (a0_8 : Int) (a0_9 : Int) (a0_10p : Option Addr) (a0_10n : Nat) (a0_10c : Nat) (a0_11 : Int) (a0_12 : Int) (a0_13 : Int) (a0_14 : Int) (a0_15 : Int) (a0_16 : Int) (a0_17 : Int) (a0_18p : Option Addr) (a0_18n : Nat) (a0_18c : Nat) (w : World) (Q : Value → World → Prop) (h : X60.f a0_0 a0_1 a0_2 a0_3 a0_4 a0_5 a0_6 a0_7 a0_8 a0_9 a0_10p a0_10n a0_10c a0_11 a0_12 a0_13 a0_14 a0_15 a0_16 a0_17 a0_18p a0_18n a0_18c w Q) : CallR Tryz.prog 60 #[.agg #[.int .i64 a0_0, .int .i64 a0_1, .int .i64 a0_2, .int .u64 a0_3, .int .u64 a0_4, .int .i64 a0_5, .int .i64 a0_6, .int .i64 a0_7, .int .i64 a0_8, .int .u64 a0_9, .slice a0_10p a0_10n a0_10c, .int .u64 a0_11, .int .i64 a0_12, .int .u64 a0_13, .int .i64 a0_14, .int .u64 a0_15, .int .i64 a0_16, .int .u64 a0_17, .slice a0_18p a0_18n a0_18c]] w Q :=
  fn_sound noGr mixed Tryz.func60 (c := X60.c) (an := X60.an) (S := X60.S Q) (φ := fun _ => 0) (args := [.agg #[.int .i64 a0_0, .int .i64 a0_1, .int .i64 a0_2, .int .u64 a0_3, .int .u64 a0_4, .int .i64 a0_5, .int .i64 a0_6, .int .i64 a0_7, .int .i64 a0_8, .int .u64 a0_9, .slice a0_10p a0_10n a0_10c, .int .u64 a0_11, .int .i64 a0_12, .int .u64 a0_13, .int .i64 a0_14, .int .u64 a0_15, .int .i64 a0_16, .int .u64 a0_17, .slice a0_18p a0_18n a0_18c]]) (by kernel_rfl) (by kernel_rfl) (by kernel_rfl) (X60.v Q) (Eq.mp (by kernel_rfl) h)
/-! ### mooring/mooringref2.None: function 61 -/
def X61.f (a0_0 : Int) (a0_1 : Int) (w : World) (Q : Value → World → Prop) : Prop := newK w #[.int .i64 a0_0, .int .u64 a0_1] 37 fun g1 w2 => ldI .i64 w2 (g1.add 0) fun x3 => bcase (x3 == (0 : Int)) (ldI .u64 w2 (g1.add 1) fun x4 => Q (.bool (x4 == (0 : Int))) w2) (Q (.bool false) w2)
def X61.S (Q : Value → World → Prop) : Segs
  | _, _, _, _ => False
noncomputable def X61.an : Ann := (.seq .leaf (.seq .leaf .leaf))
noncomputable def X61.c : Code := Tryz.f61.body.getD .skip
theorem X61.v (Q : Value → World → Prop) : V Tryz.prog (X61.S Q) X61.an X61.c (retC Tryz.prog Tryz.f61 Q) := ⟨trivial, ⟨trivial, trivial⟩⟩
theorem X61.sound (a0_0 : Int) (a0_1 : Int) (w : World) (Q : Value → World → Prop) (h : X61.f a0_0 a0_1 w Q) : CallR Tryz.prog 61 #[.agg #[.int .i64 a0_0, .int .u64 a0_1]] w Q :=
  fn_sound noGr mixed Tryz.func61 (c := X61.c) (an := X61.an) (S := X61.S Q) (φ := fun _ => 0) (args := [.agg #[.int .i64 a0_0, .int .u64 a0_1]]) (by kernel_rfl) (by kernel_rfl) (by kernel_rfl) (X61.v Q) (Eq.mp (by kernel_rfl) h)
/-! ### (*mooring/mooringref20.Calls).Floor: function 32 -/
def X32.l0 (Q : Value → World → Prop) : Nat → (Option Addr) → Int → Int → World → Prop
  | 0, _, _, _, _ => False
  | k + 1, t0, t1, t5, w => optP t0 fun p1 => ldSl w ((p1.add 89).add 2) fun x2p x2n x2c => bcase (decide (t5 < ((x2n : Nat) : Int))) (optP t0 fun p3 => ldSl w ((p3.add 89).add 2) fun x4p x4n x4c => (0 ≤ t5 ∧ t5 < ((x4n : Nat) : Int)) ∧ optP x4p fun p5 => ldI .i64 w ((p5.add (Int.toNat t5 * 15)).add 0) fun x6 => bcase (x6 == t1) (optP t0 fun p7 => ldSl w ((p7.add 89).add 2) fun x8p x8n x8c => (0 ≤ t5 ∧ t5 < ((x8n : Nat) : Int)) ∧ optP x8p fun p9 => ldI .u64 w ((p9.add (Int.toNat t5 * 15)).add 1) fun x10 => Q (.int .u64 x10) w) (X32.l0 Q k t0 t1 (IntKind.wrap .i64 (t5 + (1 : Int))) w)) (optP t0 fun p11 => (0 ≤ t1 ∧ t1 < ((65 : Nat) : Int)) ∧ ldI .u64 w ((p11.add 23).add (Int.toNat t1 * 1)) fun x12 => Q (.int .u64 (IntKind.wrap .u64 (x12 + (1 : Int)))) w)
def X32.j1 (Q : Value → World → Prop) (t0 : Option Addr) (t1 : Int) (w : World) : Prop := ∃ m1, X32.l0 Q m1 t0 t1 (0 : Int) w
def X32.f (a0 : Option Addr) (a1 : Int) (w : World) (Q : Value → World → Prop) : Prop := bcase (decide (a1 < (1 : Int))) (Q (.int .u64 (0 : Int)) w) (optP a0 fun p1 => ldI .i64 w ((p1.add 0).add 0) fun x2 => bcase (decide (a1 > x2)) (Q (.int .u64 (0 : Int)) w) (optP a0 fun p3 => ldI .i64 w (p3.add 22) fun x4 => bcase (a1 == x4) (Q (.int .u64 (0 : Int)) w) (X32.j1 Q a0 a1 w)))
def X32.S (Q : Value → World → Prop) : Segs
  | 0, φ, ρ, w => qP (ρ 0) fun t0 => qI .i64 (ρ 1) fun t1 => qI .i64 (ρ 5) fun t5 => X32.l0 Q (φ 0) t0 t1 t5 w
  | 1, φ, ρ, w => qP (ρ 0) fun t0 => qI .i64 (ρ 1) fun t1 => X32.j1 Q t0 t1 w
  | _, _, _, _ => False
noncomputable def X32.an : Ann := (.seq .leaf (.seq (.seq .leaf (.cond (.seq .leaf .leaf) .leaf)) (.join 1 (.seq (.seq .leaf (.block (.loop 0 (.seq (.seq .leaf (.cond .leaf .leaf)) (.seq (.block (.seq .leaf (.cond (.seq .leaf .leaf) .leaf))) .leaf))))) (.seq .leaf .leaf)))))
noncomputable def X32.c : Code := Tryz.f32.body.getD .skip
theorem X32.v (Q : Value → World → Prop) : V Tryz.prog (X32.S Q) X32.an X32.c (retC Tryz.prog Tryz.f32 Q) := ⟨trivial, ⟨⟨trivial, ⟨⟨trivial, trivial⟩, trivial⟩⟩, ⟨(by
    intro φ ρ w h
    simp only [X32.S] at h
    obtain ⟨t0, e0, h⟩ := qP_elim h
    obtain ⟨t1, e1, h⟩ := qI_elim h
    exact ⟨((Env.nil.put (some 0) (.pointer t0)).put (some 1) (.int .i64 t1)), Env.le_put e1 (Env.le_put e0 (Env.le_nil _)), Eq.mp (by kernel_rfl) h⟩), ⟨⟨trivial, ⟨(by
    intro φ ρ w h
    simp only [X32.S] at h
    obtain ⟨t0, e0, h⟩ := qP_elim h
    obtain ⟨t1, e1, h⟩ := qI_elim h
    obtain ⟨t5, e5, h⟩ := qI_elim h
    cases hk : φ 0 with
    | zero => rw [hk] at h; exact h.elim
    | succ k => rw [hk] at h; exact ⟨k, Nat.lt_succ_self k, (((Env.nil.put (some 0) (.pointer t0)).put (some 1) (.int .i64 t1)).put (some 5) (.int .i64 t5)), Env.le_put e5 (Env.le_put e1 (Env.le_put e0 (Env.le_nil _))), Eq.mp (by kernel_rfl) h⟩), ⟨⟨trivial, ⟨trivial, trivial⟩⟩, ⟨⟨trivial, ⟨⟨trivial, trivial⟩, trivial⟩⟩, trivial⟩⟩⟩⟩, ⟨trivial, trivial⟩⟩⟩⟩⟩
theorem X32.sound (a0 : Option Addr) (a1 : Int) (w : World) (Q : Value → World → Prop) (h : X32.f a0 a1 w Q) : CallR Tryz.prog 32 #[.pointer a0, .int .i64 a1] w Q :=
  fn_sound noGr mixed Tryz.func32 (c := X32.c) (an := X32.an) (S := X32.S Q) (φ := fun _ => 0) (args := [.pointer a0, .int .i64 a1]) (by kernel_rfl) (by kernel_rfl) (by kernel_rfl) (X32.v Q) (Eq.mp (by kernel_rfl) h)
/-! ### (*mooring/mooringref4.CallTable).Put: function 54 -/
def X54.j0 (Q : Value → World → Prop) (t0 : Option Addr) (t5 : Addr) (t7 : Int) (t9p : Option Addr) (t9n : Nat) (t9c : Nat) (t10p : Option Addr) (t10n : Nat) (t10c : Nat) (w : World) : Prop := drewK w fun w1 => (optP t0 fun p2 => ldSl w1 (p2.add 2) fun x3p x3n x3c => (0 ≤ ((0 : Nat) : Int) ∧ ((0 : Nat) : Int) ≤ t7 ∧ t7 ≤ ((x3c : Nat) : Int)) ∧ RunR Tryz.prog (Builtin.append_ #[55, 55] 55 #[.slice t10p t10n t10c, .slice (cutAt 15 x3c (Int.toNat ((0 : Nat) : Int)) x3p) (Int.toNat t7 - Int.toNat ((0 : Nat) : Int)) (x3c - Int.toNat ((0 : Nat) : Int))]) w1 fun v4 w5 => ∃ (s6p : Option Addr) (s6n s6c : Nat), v4 = .slice s6p s6n s6c ∧ ldI .i64 w5 (t5.add 0) fun x7 => ldI .u64 w5 (t5.add 1) fun x8 => ldI .i64 w5 (t5.add 2) fun x9 => ldI .i64 w5 (t5.add 3) fun x10 => ldI .i64 w5 (t5.add 4) fun x11 => ldI .u64 w5 (t5.add 5) fun x12 => ldSl w5 (t5.add 6) fun x13p x13n x13c => ldI .u64 w5 (t5.add 7) fun x14 => ldI .i64 w5 (t5.add 8) fun x15 => ldI .i64 w5 (t5.add 9) fun x16 => ldSl w5 (t5.add 10) fun x17p x17n x17c => ldI .u64 w5 (t5.add 11) fun x18 => ldI .u64 w5 (t5.add 12) fun x19 => ldI .u64 w5 (t5.add 13) fun x20 => ldI .u64 w5 (t5.add 14) fun x21 => ((∀ j u, ([.int .i64 x7, .int .u64 x8, .int .i64 x9, .int .i64 x10, .int .i64 x11, .int .u64 x12, .slice x13p x13n x13c, .int .u64 x14, .int .i64 x15, .int .i64 x16, .slice x17p x17n x17c, .int .u64 x18, .int .u64 x19, .int .u64 x20, .int .u64 x21] : List Value)[j]? = some u → World.cell? w1 (t5.add j) = some u) ∧ (∀ j u, ([.int .i64 x7, .int .u64 x8, .int .i64 x9, .int .i64 x10, .int .i64 x11, .int .u64 x12, .slice x13p x13n x13c, .int .u64 x14, .int .i64 x15, .int .i64 x16, .slice x17p x17n x17c, .int .u64 x18, .int .u64 x19, .int .u64 x20, .int .u64 x21] : List Value)[j]? = some u → World.cell? w5 (t5.add j) = some u)) ∧ newK w5 #[.int .i64 x7, .int .u64 x8, .int .i64 x9, .int .i64 x10, .int .i64 x11, .int .u64 x12, .slice x13p x13n x13c, .int .u64 x14, .int .i64 x15, .int .i64 x16, .slice x17p x17n x17c, .int .u64 x18, .int .u64 x19, .int .u64 x20, .int .u64 x21] 50 fun g22 w23 => (World.cell? w5 (p2.add 2) = some (.slice x3p x3n x3c) ∧ World.cell? w23 (p2.add 2) = some (.slice x3p x3n x3c)) ∧ RunR Tryz.prog (Builtin.append_ #[55, 55] 55 #[.slice s6p s6n s6c, .slice (some g22) 1 1]) w23 fun v24 w25 => ∃ (s26p : Option Addr) (s26n s26c : Nat), v24 = .slice s26p s26n s26c ∧ optP t0 fun p27 => ldSl w25 (p27.add 2) fun x28p x28n x28c => (World.cell? w23 (p27.add 2) = some (.slice x28p x28n x28c) ∧ World.cell? w25 (p27.add 2) = some (.slice x28p x28n x28c)) ∧ (World.cell? w5 (p27.add 2) = some (.slice x28p x28n x28c) ∧ World.cell? w23 (p27.add 2) = some (.slice x28p x28n x28c)) ∧ (World.cell? w1 (p27.add 2) = some (.slice x28p x28n x28c) ∧ World.cell? w5 (p27.add 2) = some (.slice x28p x28n x28c)) ∧ (0 ≤ t7 ∧ t7 ≤ ((x28n : Nat) : Int) ∧ ((x28n : Nat) : Int) ≤ ((x28c : Nat) : Int)) ∧ RunR Tryz.prog (Builtin.append_ #[55, 55] 55 #[.slice s26p s26n s26c, .slice (cutAt 15 x28c (Int.toNat t7) x28p) (Int.toNat ((x28n : Nat) : Int) - Int.toNat t7) (x28c - Int.toNat t7)]) w25 fun v29 w30 => ∃ (s31p : Option Addr) (s31n s31c : Nat), v29 = .slice s31p s31n s31c ∧ optP t0 fun p32 => stK w30 (p32.add 1) (.slice t9p t9n t9c) fun w33 => optP t0 fun p34 => stK w33 (p34.add 2) (.slice s31p s31n s31c) fun w35 => Q (.bool true) w35) ∧ (optP t0 fun p36 => ldSl w1 (p36.add 2) fun x37p x37n x37c => (0 ≤ ((0 : Nat) : Int) ∧ ((0 : Nat) : Int) ≤ t7 ∧ t7 ≤ ((x37c : Nat) : Int)) ∧ ldI .i64 w1 (t5.add 0) fun x38 => ldI .u64 w1 (t5.add 1) fun x39 => ldI .i64 w1 (t5.add 2) fun x40 => ldI .i64 w1 (t5.add 3) fun x41 => ldI .i64 w1 (t5.add 4) fun x42 => ldI .u64 w1 (t5.add 5) fun x43 => ldSl w1 (t5.add 6) fun x44p x44n x44c => ldI .u64 w1 (t5.add 7) fun x45 => ldI .i64 w1 (t5.add 8) fun x46 => ldI .i64 w1 (t5.add 9) fun x47 => ldSl w1 (t5.add 10) fun x48p x48n x48c => ldI .u64 w1 (t5.add 11) fun x49 => ldI .u64 w1 (t5.add 12) fun x50 => ldI .u64 w1 (t5.add 13) fun x51 => ldI .u64 w1 (t5.add 14) fun x52 => newK w1 #[.int .i64 x38, .int .u64 x39, .int .i64 x40, .int .i64 x41, .int .i64 x42, .int .u64 x43, .slice x44p x44n x44c, .int .u64 x45, .int .i64 x46, .int .i64 x47, .slice x48p x48n x48c, .int .u64 x49, .int .u64 x50, .int .u64 x51, .int .u64 x52] 50 fun g53 w54 => (World.cell? w1 (p36.add 2) = some (.slice x37p x37n x37c) ∧ World.cell? w54 (p36.add 2) = some (.slice x37p x37n x37c)) ∧ RunR Tryz.prog (Builtin.append_ #[55, 55] 55 #[.slice t10p t10n t10c, .slice (cutAt 15 x37c (Int.toNat ((0 : Nat) : Int)) x37p) (Int.toNat t7 - Int.toNat ((0 : Nat) : Int)) (x37c - Int.toNat ((0 : Nat) : Int))]) w54 fun v55 w56 => ∃ (s57p : Option Addr) (s57n s57c : Nat), v55 = .slice s57p s57n s57c ∧ ((∀ j u, ([.int .i64 x38, .int .u64 x39, .int .i64 x40, .int .i64 x41, .int .i64 x42, .int .u64 x43, .slice x44p x44n x44c, .int .u64 x45, .int .i64 x46, .int .i64 x47, .slice x48p x48n x48c, .int .u64 x49, .int .u64 x50, .int .u64 x51, .int .u64 x52] : List Value)[j]? = some u → World.cell? w54 (t5.add j) = some u) ∧ (∀ j u, ([.int .i64 x38, .int .u64 x39, .int .i64 x40, .int .i64 x41, .int .i64 x42, .int .u64 x43, .slice x44p x44n x44c, .int .u64 x45, .int .i64 x46, .int .i64 x47, .slice x48p x48n x48c, .int .u64 x49, .int .u64 x50, .int .u64 x51, .int .u64 x52] : List Value)[j]? = some u → World.cell? w56 (t5.add j) = some u)) ∧ RunR Tryz.prog (Builtin.append_ #[55, 55] 55 #[.slice s57p s57n s57c, .slice (some g53) 1 1]) w56 fun v58 w59 => ∃ (s60p : Option Addr) (s60n s60c : Nat), v58 = .slice s60p s60n s60c ∧ optP t0 fun p61 => ldSl w59 (p61.add 2) fun x62p x62n x62c => (World.cell? w56 (p61.add 2) = some (.slice x62p x62n x62c) ∧ World.cell? w59 (p61.add 2) = some (.slice x62p x62n x62c)) ∧ (World.cell? w54 (p61.add 2) = some (.slice x62p x62n x62c) ∧ World.cell? w56 (p61.add 2) = some (.slice x62p x62n x62c)) ∧ (World.cell? w1 (p61.add 2) = some (.slice x62p x62n x62c) ∧ World.cell? w54 (p61.add 2) = some (.slice x62p x62n x62c)) ∧ (0 ≤ t7 ∧ t7 ≤ ((x62n : Nat) : Int) ∧ ((x62n : Nat) : Int) ≤ ((x62c : Nat) : Int)) ∧ RunR Tryz.prog (Builtin.append_ #[55, 55] 55 #[.slice s60p s60n s60c, .slice (cutAt 15 x62c (Int.toNat t7) x62p) (Int.toNat ((x62n : Nat) : Int) - Int.toNat t7) (x62c - Int.toNat t7)]) w59 fun v63 w64 => ∃ (s65p : Option Addr) (s65n s65c : Nat), v63 = .slice s65p s65n s65c ∧ optP t0 fun p66 => stK w64 (p66.add 1) (.slice t9p t9n t9c) fun w67 => optP t0 fun p68 => stK w67 (p68.add 2) (.slice s65p s65n s65c) fun w69 => Q (.bool true) w69)
def X54.f (a0 : Option Addr) (a1 : Int) (a2_0 : Int) (a2_1 : Int) (a2_2 : Int) (a2_3 : Int) (a2_4 : Int) (a2_5 : Int) (a2_6p : Option Addr) (a2_6n : Nat) (a2_6c : Nat) (a2_7 : Int) (a2_8 : Int) (a2_9 : Int) (a2_10p : Option Addr) (a2_10n : Nat) (a2_10c : Nat) (a2_11 : Int) (a2_12 : Int) (a2_13 : Int) (a2_14 : Int) (w : World) (Q : Value → World → Prop) : Prop := newK w #[.int .i64 a2_0, .int .u64 a2_1, .int .i64 a2_2, .int .i64 a2_3, .int .i64 a2_4, .int .u64 a2_5, .slice a2_6p a2_6n a2_6c, .int .u64 a2_7, .int .i64 a2_8, .int .i64 a2_9, .slice a2_10p a2_10n a2_10c, .int .u64 a2_11, .int .u64 a2_12, .int .u64 a2_13, .int .u64 a2_14] 50 fun g1 w2 => CallR Tryz.prog 79 #[.pointer a0, .int .u64 a1] w2 fun v3 w4 => ∃ (y5 : Int) (y6 : Bool), v3 = .tuple #[.int .i64 y5, .bool y6] ∧ bcase y6 (drewK w4 fun w7 => optP a0 fun p8 => ldSl w7 (p8.add 2) fun x9p x9n x9c => ldI .i64 w7 (g1.add 0) fun x10 => ldI .u64 w7 (g1.add 1) fun x11 => ldI .i64 w7 (g1.add 2) fun x12 => ldI .i64 w7 (g1.add 3) fun x13 => ldI .i64 w7 (g1.add 4) fun x14 => ldI .u64 w7 (g1.add 5) fun x15 => ldSl w7 (g1.add 6) fun x16p x16n x16c => ldI .u64 w7 (g1.add 7) fun x17 => ldI .i64 w7 (g1.add 8) fun x18 => ldI .i64 w7 (g1.add 9) fun x19 => ldSl w7 (g1.add 10) fun x20p x20n x20c => ldI .u64 w7 (g1.add 11) fun x21 => ldI .u64 w7 (g1.add 12) fun x22 => ldI .u64 w7 (g1.add 13) fun x23 => ldI .u64 w7 (g1.add 14) fun x24 => (0 ≤ y5 ∧ y5 < ((x9n : Nat) : Int)) ∧ optP x9p fun p25 => stAll w7 (p25.add (Int.toNat y5 * 15)) [.int .i64 x10, .int .u64 x11, .int .i64 x12, .int .i64 x13, .int .i64 x14, .int .u64 x15, .slice x16p x16n x16c, .int .u64 x17, .int .i64 x18, .int .i64 x19, .slice x20p x20n x20c, .int .u64 x21, .int .u64 x22, .int .u64 x23, .int .u64 x24] fun w26 => Q (.bool true) w26) (drewK w4 fun w27 => optP a0 fun p28 => ldSl w27 (p28.add 1) fun x29p x29n x29c => optP a0 fun p30 => ldI .i64 w27 (p30.add 0) fun x31 => bcase (decide (((x29n : Nat) : Int) ≥ x31)) (Q (.bool false) w27) (drewK w27 fun w32 => (optP a0 fun p33 => ldSl w32 (p33.add 1) fun x34p x34n x34c => (0 ≤ ((0 : Nat) : Int) ∧ ((0 : Nat) : Int) ≤ y5 ∧ y5 ≤ ((x34c : Nat) : Int)) ∧ RunR Tryz.prog (Builtin.append_ #[51, 51] 51 #[.slice none 0 0, .slice (cutAt 1 x34c (Int.toNat ((0 : Nat) : Int)) x34p) (Int.toNat y5 - Int.toNat ((0 : Nat) : Int)) (x34c - Int.toNat ((0 : Nat) : Int))]) w32 fun v35 w36 => ∃ (s37p : Option Addr) (s37n s37c : Nat), v35 = .slice s37p s37n s37c ∧ newK w36 #[.int .u64 a1] 22 fun g38 w39 => (World.cell? w36 (p33.add 1) = some (.slice x34p x34n x34c) ∧ World.cell? w39 (p33.add 1) = some (.slice x34p x34n x34c)) ∧ RunR Tryz.prog (Builtin.append_ #[51, 51] 51 #[.slice s37p s37n s37c, .slice (some g38) 1 1]) w39 fun v40 w41 => ∃ (s42p : Option Addr) (s42n s42c : Nat), v40 = .slice s42p s42n s42c ∧ optP a0 fun p43 => ldSl w41 (p43.add 1) fun x44p x44n x44c => (World.cell? w39 (p43.add 1) = some (.slice x44p x44n x44c) ∧ World.cell? w41 (p43.add 1) = some (.slice x44p x44n x44c)) ∧ (World.cell? w36 (p43.add 1) = some (.slice x44p x44n x44c) ∧ World.cell? w39 (p43.add 1) = some (.slice x44p x44n x44c)) ∧ (World.cell? w32 (p43.add 1) = some (.slice x44p x44n x44c) ∧ World.cell? w36 (p43.add 1) = some (.slice x44p x44n x44c)) ∧ (0 ≤ y5 ∧ y5 ≤ ((x44n : Nat) : Int) ∧ ((x44n : Nat) : Int) ≤ ((x44c : Nat) : Int)) ∧ RunR Tryz.prog (Builtin.append_ #[51, 51] 51 #[.slice s42p s42n s42c, .slice (cutAt 1 x44c (Int.toNat y5) x44p) (Int.toNat ((x44n : Nat) : Int) - Int.toNat y5) (x44c - Int.toNat y5)]) w41 fun v45 w46 => ∃ (s47p : Option Addr) (s47n s47c : Nat), v45 = .slice s47p s47n s47c ∧ X54.j0 Q a0 g1 y5 s47p s47n s47c none 0 0 w46) ∧ (optP a0 fun p48 => ldSl w32 (p48.add 1) fun x49p x49n x49c => (0 ≤ ((0 : Nat) : Int) ∧ ((0 : Nat) : Int) ≤ y5 ∧ y5 ≤ ((x49c : Nat) : Int)) ∧ newK w32 #[.int .u64 a1] 22 fun g50 w51 => (World.cell? w32 (p48.add 1) = some (.slice x49p x49n x49c) ∧ World.cell? w51 (p48.add 1) = some (.slice x49p x49n x49c)) ∧ RunR Tryz.prog (Builtin.append_ #[51, 51] 51 #[.slice none 0 0, .slice (cutAt 1 x49c (Int.toNat ((0 : Nat) : Int)) x49p) (Int.toNat y5 - Int.toNat ((0 : Nat) : Int)) (x49c - Int.toNat ((0 : Nat) : Int))]) w51 fun v52 w53 => ∃ (s54p : Option Addr) (s54n s54c : Nat), v52 = .slice s54p s54n s54c ∧ RunR Tryz.prog (Builtin.append_ #[51, 51] 51 #[.slice s54p s54n s54c, .slice (some g50) 1 1]) w53 fun v55 w56 => ∃ (s57p : Option Addr) (s57n s57c : Nat), v55 = .slice s57p s57n s57c ∧ optP a0 fun p58 => ldSl w56 (p58.add 1) fun x59p x59n x59c => (World.cell? w53 (p58.add 1) = some (.slice x59p x59n x59c) ∧ World.cell? w56 (p58.add 1) = some (.slice x59p x59n x59c)) ∧ (World.cell? w51 (p58.add 1) = some (.slice x59p x59n x59c) ∧ World.cell? w53 (p58.add 1) = some (.slice x59p x59n x59c)) ∧ (World.cell? w32 (p58.add 1) = some (.slice x59p x59n x59c) ∧ World.cell? w51 (p58.add 1) = some (.slice x59p x59n x59c)) ∧ (0 ≤ y5 ∧ y5 ≤ ((x59n : Nat) : Int) ∧ ((x59n : Nat) : Int) ≤ ((x59c : Nat) : Int)) ∧ RunR Tryz.prog (Builtin.append_ #[51, 51] 51 #[.slice s57p s57n s57c, .slice (cutAt 1 x59c (Int.toNat y5) x59p) (Int.toNat ((x59n : Nat) : Int) - Int.toNat y5) (x59c - Int.toNat y5)]) w56 fun v60 w61 => ∃ (s62p : Option Addr) (s62n s62c : Nat), v60 = .slice s62p s62n s62c ∧ X54.j0 Q a0 g1 y5 s62p s62n s62c none 0 0 w61)))
def X54.S (Q : Value → World → Prop) : Segs
  | 0, φ, ρ, w => qP (ρ 0) fun t0 => qA (ρ 5) fun t5 => qI .i64 (ρ 7) fun t7 => qSl (ρ 9) fun t9p t9n t9c => qSl (ρ 10) fun t10p t10n t10c => X54.j0 Q t0 t5 t7 t9p t9n t9c t10p t10n t10c w
  | _, _, _, _ => False
noncomputable def X54.an : Ann := (.seq .leaf (.seq .leaf (.seq (.seq .leaf (.cond (.seq (.draw [0, 1, 3, 7, 0, 0, 63, 127] [[0, 1, 2, 3, 4, 5, 6, 7]]) (.seq .leaf .leaf)) .leaf)) (.seq (.seq (.draw [0, 1, 3, 7, 15, 0, 32, 96, 224, 511] [[0, 1, 2, 3, 4, 5, 6, 7, 8, 9]]) (.cond (.seq .leaf .leaf) .leaf)) (.seq .leaf (.seq .leaf (.seq (.draw [0, 0, 2, 6, 14, 0, 62, 127, 0, 256, 1023, 0, 2048, 6144, 14336, 0, 63488, 131071, 262143] [[0, 1, 2, 3, 4, 5, 6, 7, 8, 9, 10, 11, 12, 13, 14, 15, 16, 17, 18], [0, 1, 2, 3, 4, 5, 6, 8, 9, 7, 10, 11, 12, 13, 14, 15, 16, 17, 18]]) (.join 0 (.seq (.draw [0, 0, 2, 6, 14, 0, 62, 127, 0, 256, 1023, 0, 2048, 6144, 14336, 0, 63488, 131071, 262143] [[0, 1, 2, 3, 4, 5, 6, 7, 8, 9, 10, 11, 12, 13, 14, 15, 16, 17, 18], [0, 1, 2, 3, 4, 5, 6, 8, 9, 7, 10, 11, 12, 13, 14, 15, 16, 17, 18]]) (.seq .leaf (.seq .leaf (.seq .leaf .leaf))))))))))))
noncomputable def X54.c : Code := Tryz.f54.body.getD .skip
theorem X54.v (Q : Value → World → Prop) : V Tryz.prog (X54.S Q) X54.an X54.c (retC Tryz.prog Tryz.f54 Q) := ⟨trivial, ⟨trivial, ⟨⟨trivial, ⟨⟨trivial, ⟨trivial, trivial⟩⟩, trivial⟩⟩, ⟨⟨trivial, ⟨⟨trivial, trivial⟩, trivial⟩⟩, ⟨trivial, ⟨trivial, ⟨trivial, ⟨(by
    intro φ ρ w h
    simp only [X54.S] at h
    obtain ⟨t0, e0, h⟩ := qP_elim h
    obtain ⟨t5, e5, h⟩ := qA_elim h
    obtain ⟨t7, e7, h⟩ := qI_elim h
    obtain ⟨t9p, t9n, t9c, e9, h⟩ := qSl_elim h
    obtain ⟨t10p, t10n, t10c, e10, h⟩ := qSl_elim h
    exact ⟨(((((Env.nil.put (some 0) (.pointer t0)).put (some 5) (.pointer (some t5))).put (some 7) (.int .i64 t7)).put (some 9) (.slice t9p t9n t9c)).put (some 10) (.slice t10p t10n t10c)), Env.le_put e10 (Env.le_put e9 (Env.le_put e7 (Env.le_put e5 (Env.le_put e0 (Env.le_nil _))))), Eq.mp (by kernel_rfl) h⟩), ⟨trivial, ⟨trivial, ⟨trivial, ⟨trivial, trivial⟩⟩⟩⟩⟩⟩⟩⟩⟩⟩⟩⟩
theorem X54.sound (a0 : Option Addr) (a1 : Int) (a2_0 : Int) (a2_1 : Int) (a2_2 : Int) (a2_3 : Int) (a2_4 : Int) (a2_5 : Int) (a2_6p : Option Addr) (a2_6n : Nat) (a2_6c : Nat) (a2_7 : Int) (a2_8 : Int) (a2_9 : Int) (a2_10p : Option Addr) (a2_10n : Nat) (a2_10c : Nat) (a2_11 : Int) (a2_12 : Int) (a2_13 : Int) (a2_14 : Int) (w : World) (Q : Value → World → Prop) (h : X54.f a0 a1 a2_0 a2_1 a2_2 a2_3 a2_4 a2_5 a2_6p a2_6n a2_6c a2_7 a2_8 a2_9 a2_10p a2_10n a2_10c a2_11 a2_12 a2_13 a2_14 w Q) : CallR Tryz.prog 54 #[.pointer a0, .int .u64 a1, .agg #[.int .i64 a2_0, .int .u64 a2_1, .int .i64 a2_2, .int .i64 a2_3, .int .i64 a2_4, .int .u64 a2_5, .slice a2_6p a2_6n a2_6c, .int .u64 a2_7, .int .i64 a2_8, .int .i64 a2_9, .slice a2_10p a2_10n a2_10c, .int .u64 a2_11, .int .u64 a2_12, .int .u64 a2_13, .int .u64 a2_14]] w Q :=
  fn_sound noGr mixed Tryz.func54 (c := X54.c) (an := X54.an) (S := X54.S Q) (φ := fun _ => 0) (args := [.pointer a0, .int .u64 a1, .agg #[.int .i64 a2_0, .int .u64 a2_1, .int .i64 a2_2, .int .i64 a2_3, .int .i64 a2_4, .int .u64 a2_5, .slice a2_6p a2_6n a2_6c, .int .u64 a2_7, .int .i64 a2_8, .int .i64 a2_9, .slice a2_10p a2_10n a2_10c, .int .u64 a2_11, .int .u64 a2_12, .int .u64 a2_13, .int .u64 a2_14]]) (by kernel_rfl) (by kernel_rfl) (by kernel_rfl) (X54.v Q) (Eq.mp (by kernel_rfl) h)
/-! ### mooring/mooringref20.key: function 58 -/
def X58.f (a0 : Int) (a1 : Int) (w : World) (Q : Value → World → Prop) : Prop := 0 ≤ (56 : Int) ∧ Q (.int .u64 (iOr .u64 (iShl .u64 (IntKind.wrap .u64 a0) (56 : Int)) a1)) w
def X58.S (Q : Value → World → Prop) : Segs
  | _, _, _, _ => False
noncomputable def X58.an : Ann := (.seq .leaf (.seq .leaf .leaf))
noncomputable def X58.c : Code := Tryz.f58.body.getD .skip
theorem X58.v (Q : Value → World → Prop) : V Tryz.prog (X58.S Q) X58.an X58.c (retC Tryz.prog Tryz.f58 Q) := ⟨trivial, ⟨trivial, trivial⟩⟩
theorem X58.sound (a0 : Int) (a1 : Int) (w : World) (Q : Value → World → Prop) (h : X58.f a0 a1 w Q) : CallR Tryz.prog 58 #[.int .i64 a0, .int .u64 a1] w Q :=
  fn_sound noGr mixed Tryz.func58 (c := X58.c) (an := X58.an) (S := X58.S Q) (φ := fun _ => 0) (args := [.int .i64 a0, .int .u64 a1]) (by kernel_rfl) (by kernel_rfl) (by kernel_rfl) (X58.v Q) (Eq.mp (by kernel_rfl) h)
/-! ### mooring/mooringref20.ids: function 55 -/
def X55.f (a0p : Option Addr) (a0n : Nat) (a0c : Nat) (w : World) (Q : Value → World → Prop) : Prop := newK w #[] 37 fun g1 w2 => RunR Tryz.prog (Builtin.append_ #[38, 38] 38 #[.slice (some g1) 0 0, .slice a0p a0n a0c]) w2 fun v3 w4 => ∃ (s5p : Option Addr) (s5n s5c : Nat), v3 = .slice s5p s5n s5c ∧ Q (.slice s5p s5n s5c) w4
def X55.S (Q : Value → World → Prop) : Segs
  | _, _, _, _ => False
noncomputable def X55.an : Ann := (.seq .leaf (.seq .leaf .leaf))
noncomputable def X55.c : Code := Tryz.f55.body.getD .skip
theorem X55.v (Q : Value → World → Prop) : V Tryz.prog (X55.S Q) X55.an X55.c (retC Tryz.prog Tryz.f55 Q) := ⟨trivial, ⟨trivial, trivial⟩⟩
theorem X55.sound (a0p : Option Addr) (a0n : Nat) (a0c : Nat) (w : World) (Q : Value → World → Prop) (h : X55.f a0p a0n a0c w Q) : CallR Tryz.prog 55 #[.slice a0p a0n a0c] w Q :=
  fn_sound noGr mixed Tryz.func55 (c := X55.c) (an := X55.an) (S := X55.S Q) (φ := fun _ => 0) (args := [.slice a0p a0n a0c]) (by kernel_rfl) (by kernel_rfl) (by kernel_rfl) (X55.v Q) (Eq.mp (by kernel_rfl) h)
/-! ### (*mooring/mooringref20.Calls).Step: function 18 -/
def X18.j0 (Q : Value → World → Prop) (t0 : Option Addr) (t1 : Int) (t4 : Addr) (t5 : Addr) (t7 : Int) (t9 : Addr) (t11 : Addr) (w : World) : Prop := stK w (t9.add 12) (.int .u64 t1) fun w1 => drewK w1 fun w2 => ldI .u64 w2 (t9.add 13) fun x3 => optP t0 fun p4 => ldI .u64 w2 ((p4.add 0).add 14) fun x5 => optP t0 fun p6 => ldI .u64 w2 ((p6.add 0).add 15) fun x7 => CallR Tryz.prog 53 #[.int .u64 x3, .int .u64 x5, .int .u64 x7] w2 fun v8 w9 => ∃ (y10 : Int), v8 = .int .u64 y10 ∧ stK w9 (t9.add 13) (.int .u64 y10) fun w11 => drewK w11 fun w12 => optP t0 fun p13 => ldI .i64 w12 (t9.add 0) fun x14 => ldI .u64 w12 (t9.add 1) fun x15 => ldI .i64 w12 (t9.add 2) fun x16 => ldI .i64 w12 (t9.add 3) fun x17 => ldI .i64 w12 (t9.add 4) fun x18 => ldI .u64 w12 (t9.add 5) fun x19 => ldSl w12 (t9.add 6) fun x20p x20n x20c => ldI .u64 w12 (t9.add 7) fun x21 => ldI .i64 w12 (t9.add 8) fun x22 => ldI .i64 w12 (t9.add 9) fun x23 => ldSl w12 (t9.add 10) fun x24p x24n x24c => ldI .u64 w12 (t9.add 11) fun x25 => ldI .u64 w12 (t9.add 12) fun x26 => ldI .u64 w12 (t9.add 13) fun x27 => ldI .u64 w12 (t9.add 14) fun x28 => CallR Tryz.prog 54 #[.pointer (some (p13.add 89)), .int .u64 t7, .agg #[.int .i64 x14, .int .u64 x15, .int .i64 x16, .int .i64 x17, .int .i64 x18, .int .u64 x19, .slice x20p x20n x20c, .int .u64 x21, .int .i64 x22, .int .i64 x23, .slice x24p x24n x24c, .int .u64 x25, .int .u64 x26, .int .u64 x27, .int .u64 x28]] w12 fun v29 w30 => ∃ (y31 : Bool), v29 = .bool y31 ∧ drewK w30 fun w32 => ldI .i64 w32 (t11.add 0) fun x33 => ldI .u64 w32 (t11.add 1) fun x34 => ldI .i64 w32 (t11.add 2) fun x35 => ldI .i64 w32 (t11.add 3) fun x36 => ldI .i64 w32 (t11.add 4) fun x37 => ldI .u64 w32 (t11.add 5) fun x38 => ldSl w32 (t11.add 6) fun x39p x39n x39c => ldI .u64 w32 (t11.add 7) fun x40 => ldI .i64 w32 (t11.add 8) fun x41 => ldI .i64 w32 (t11.add 9) fun x42 => ldSl w32 (t11.add 10) fun x43p x43n x43c => ldI .u64 w32 (t11.add 11) fun x44 => ldI .u64 w32 (t11.add 12) fun x45 => ldI .u64 w32 (t11.add 13) fun x46 => ldI .u64 w32 (t11.add 14) fun x47 => optP t0 fun p48 => ldI .i64 w32 (p48.add 22) fun x49 => ldI .i64 w32 (t9.add 0) fun x50 => ldI .u64 w32 (t9.add 1) fun x51 => ldI .i64 w32 (t9.add 0) fun x52 => CallR Tryz.prog 32 #[.pointer t0, .int .i64 x52] w32 fun v53 w54 => ∃ (y55 : Int), v53 = .int .u64 y55 ∧ (World.cell? w32 (t9.add 1) = some (.int .u64 x51) ∧ World.cell? w54 (t9.add 1) = some (.int .u64 x51)) ∧ (World.cell? w32 (t9.add 0) = some (.int .i64 x50) ∧ World.cell? w54 (t9.add 0) = some (.int .i64 x50)) ∧ (World.cell? w32 (p48.add 22) = some (.int .i64 x49) ∧ World.cell? w54 (p48.add 22) = some (.int .i64 x49)) ∧ ((∀ j u, ([.int .i64 x33, .int .u64 x34, .int .i64 x35, .int .i64 x36, .int .i64 x37, .int .u64 x38, .slice x39p x39n x39c, .int .u64 x40, .int .i64 x41, .int .i64 x42, .slice x43p x43n x43c, .int .u64 x44, .int .u64 x45, .int .u64 x46, .int .u64 x47] : List Value)[j]? = some u → World.cell? w32 (t11.add j) = some u) ∧ (∀ j u, ([.int .i64 x33, .int .u64 x34, .int .i64 x35, .int .i64 x36, .int .i64 x37, .int .u64 x38, .slice x39p x39n x39c, .int .u64 x40, .int .i64 x41, .int .i64 x42, .slice x43p x43n x43c, .int .u64 x44, .int .u64 x45, .int .u64 x46, .int .u64 x47] : List Value)[j]? = some u → World.cell? w54 (t11.add j) = some u)) ∧ ldI .i64 w54 (t9.add 2) fun x56 => (World.cell? w32 (t9.add 2) = some (.int .i64 x56) ∧ World.cell? w54 (t9.add 2) = some (.int .i64 x56)) ∧ ldI .i64 w54 (t9.add 3) fun x57 => (World.cell? w32 (t9.add 3) = some (.int .i64 x57) ∧ World.cell? w54 (t9.add 3) = some (.int .i64 x57)) ∧ ldI .i64 w54 ((t9.add 4).add 0) fun x58 => ldI .u64 w54 ((t9.add 4).add 1) fun x59 => ((∀ j u, ([.int .i64 x58, .int .u64 x59] : List Value)[j]? = some u → World.cell? w32 ((t9.add 4).add j) = some u) ∧ (∀ j u, ([.int .i64 x58, .int .u64 x59] : List Value)[j]? = some u → World.cell? w54 ((t9.add 4).add j) = some u)) ∧ ldI .u64 w54 (t9.add 7) fun x60 => (World.cell? w32 (t9.add 7) = some (.int .u64 x60) ∧ World.cell? w54 (t9.add 7) = some (.int .u64 x60)) ∧ ldSl w54 (t9.add 6) fun x61p x61n x61c => (World.cell? w32 (t9.add 6) = some (.slice x61p x61n x61c) ∧ World.cell? w54 (t9.add 6) = some (.slice x61p x61n x61c)) ∧ CallR Tryz.prog 55 #[.slice x61p x61n x61c] w54 fun v62 w63 => ∃ (y64p : Option Addr) (y64n y64c : Nat), v62 = .slice y64p y64n y64c ∧ (World.cell? w54 (t9.add 7) = some (.int .u64 x60) ∧ World.cell? w63 (t9.add 7) = some (.int .u64 x60)) ∧ ((∀ j u, ([.int .i64 x58, .int .u64 x59] : List Value)[j]? = some u → World.cell? w54 ((t9.add 4).add j) = some u) ∧ (∀ j u, ([.int .i64 x58, .int .u64 x59] : List Value)[j]? = some u → World.cell? w63 ((t9.add 4).add j) = some u)) ∧ (World.cell? w54 (t9.add 3) = some (.int .i64 x57) ∧ World.cell? w63 (t9.add 3) = some (.int .i64 x57)) ∧ (World.cell? w54 (t9.add 2) = some (.int .i64 x56) ∧ World.cell? w63 (t9.add 2) = some (.int .i64 x56)) ∧ (World.cell? w54 (t9.add 1) = some (.int .u64 x51) ∧ World.cell? w63 (t9.add 1) = some (.int .u64 x51)) ∧ (World.cell? w54 (t9.add 0) = some (.int .i64 x50) ∧ World.cell? w63 (t9.add 0) = some (.int .i64 x50)) ∧ (World.cell? w54 (p48.add 22) = some (.int .i64 x49) ∧ World.cell? w63 (p48.add 22) = some (.int .i64 x49)) ∧ ((∀ j u, ([.int .i64 x33, .int .u64 x34, .int .i64 x35, .int .i64 x36, .int .i64 x37, .int .u64 x38, .slice x39p x39n x39c, .int .u64 x40, .int .i64 x41, .int .i64 x42, .slice x43p x43n x43c, .int .u64 x44, .int .u64 x45, .int .u64 x46, .int .u64 x47] : List Value)[j]? = some u → World.cell? w54 (t11.add j) = some u) ∧ (∀ j u, ([.int .i64 x33, .int .u64 x34, .int .i64 x35, .int .i64 x36, .int .i64 x37, .int .u64 x38, .slice x39p x39n x39c, .int .u64 x40, .int .i64 x41, .int .i64 x42, .slice x43p x43n x43c, .int .u64 x44, .int .u64 x45, .int .u64 x46, .int .u64 x47] : List Value)[j]? = some u → World.cell? w63 (t11.add j) = some u)) ∧ stAll w63 t4 [.int .i64 x33, .int .u64 x34, .int .i64 x35, .int .i64 x36, .int .i64 x37, .int .u64 x38, .slice x39p x39n x39c, .int .u64 x40, .int .i64 x41, .int .i64 x42, .slice x43p x43n x43c, .int .u64 x44, .int .u64 x45, .int .u64 x46, .int .u64 x47] fun w65 => (World.cell? w63 (t9.add 7) = some (.int .u64 x60) ∧ World.cell? w65 (t9.add 7) = some (.int .u64 x60)) ∧ ((∀ j u, ([.int .i64 x58, .int .u64 x59] : List Value)[j]? = some u → World.cell? w63 ((t9.add 4).add j) = some u) ∧ (∀ j u, ([.int .i64 x58, .int .u64 x59] : List Value)[j]? = some u → World.cell? w65 ((t9.add 4).add j) = some u)) ∧ (World.cell? w63 (t9.add 3) = some (.int .i64 x57) ∧ World.cell? w65 (t9.add 3) = some (.int .i64 x57)) ∧ (World.cell? w63 (t9.add 2) = some (.int .i64 x56) ∧ World.cell? w65 (t9.add 2) = some (.int .i64 x56)) ∧ (World.cell? w63 (t9.add 1) = some (.int .u64 x51) ∧ World.cell? w65 (t9.add 1) = some (.int .u64 x51)) ∧ (World.cell? w63 (t9.add 0) = some (.int .i64 x50) ∧ World.cell? w65 (t9.add 0) = some (.int .i64 x50)) ∧ (World.cell? w63 (p48.add 22) = some (.int .i64 x49) ∧ World.cell? w65 (p48.add 22) = some (.int .i64 x49)) ∧ stAll w65 t5 [.int .i64 (1 : Int), .int .i64 x49, .int .i64 x50, .int .u64 x51, .int .u64 y55, .int .i64 x56, .int .i64 x57, .int .i64 (0 : Int), .int .i64 x58, .int .u64 x59, .slice y64p y64n y64c, .int .u64 x60, .int .i64 (0 : Int), .int .u64 (0 : Int), .int .i64 (0 : Int), .int .u64 (0 : Int), .int .i64 (0 : Int), .int .u64 (0 : Int), .slice none 0 0] fun w66 => ldI .i64 w66 (t4.add 0) fun x67 => ldI .u64 w66 (t4.add 1) fun x68 => ldI .i64 w66 (t4.add 2) fun x69 => ldI .i64 w66 (t4.add 3) fun x70 => ldI .i64 w66 (t4.add 4) fun x71 => ldI .u64 w66 (t4.add 5) fun x72 => ldSl w66 (t4.add 6) fun x73p x73n x73c => ldI .u64 w66 (t4.add 7) fun x74 => ldI .i64 w66 (t4.add 8) fun x75 => ldI .i64 w66 (t4.add 9) fun x76 => ldSl w66 (t4.add 10) fun x77p x77n x77c => ldI .u64 w66 (t4.add 11) fun x78 => ldI .u64 w66 (t4.add 12) fun x79 => ldI .u64 w66 (t4.add 13) fun x80 => ldI .u64 w66 (t4.add 14) fun x81 => ldI .i64 w66 (t5.add 0) fun x82 => ldI .i64 w66 (t5.add 1) fun x83 => ldI .i64 w66 (t5.add 2) fun x84 => ldI .u64 w66 (t5.add 3) fun x85 => ldI .u64 w66 (t5.add 4) fun x86 => ldI .i64 w66 (t5.add 5) fun x87 => ldI .i64 w66 (t5.add 6) fun x88 => ldI .i64 w66 (t5.add 7) fun x89 => ldI .i64 w66 (t5.add 8) fun x90 => ldI .u64 w66 (t5.add 9) fun x91 => ldSl w66 (t5.add 10) fun x92p x92n x92c => ldI .u64 w66 (t5.add 11) fun x93 => ldI .i64 w66 (t5.add 12) fun x94 => ldI .u64 w66 (t5.add 13) fun x95 => ldI .i64 w66 (t5.add 14) fun x96 => ldI .u64 w66 (t5.add 15) fun x97 => ldI .i64 w66 (t5.add 16) fun x98 => ldI .u64 w66 (t5.add 17) fun x99 => ldSl w66 (t5.add 18) fun x100p x100n x100c => Q (.tuple #[.agg #[.int .i64 x67, .int .u64 x68, .int .i64 x69, .int .i64 x70, .int .i64 x71, .int .u64 x72, .slice x73p x73n x73c, .int .u64 x74, .int .i64 x75, .int .i64 x76, .slice x77p x77n x77c, .int .u64 x78, .int .u64 x79, .int .u64 x80, .int .u64 x81], .agg #[.int .i64 x82, .int .i64 x83, .int .i64 x84, .int .u64 x85, .int .u64 x86, .int .i64 x87, .int .i64 x88, .int .i64 x89, .int .i64 x90, .int .u64 x91, .slice x92p x92n x92c, .int .u64 x93, .int .i64 x94, .int .u64 x95, .int .i64 x96, .int .u64 x97, .int .i64 x98, .int .u64 x99, .slice x100p x100n x100c], .bool true]) w66
def X18.f (a0 : Option Addr) (a1 : Int) (w : World) (Q : Value → World → Prop) : Prop := newK w #[.int .i64 (0 : Int), .int .u64 (0 : Int), .int .i64 (0 : Int), .int .i64 (0 : Int), .int .i64 (0 : Int), .int .u64 (0 : Int), .slice none 0 0, .int .u64 (0 : Int), .int .i64 (0 : Int), .int .i64 (0 : Int), .slice none 0 0, .int .u64 (0 : Int), .int .u64 (0 : Int), .int .u64 (0 : Int), .int .u64 (0 : Int)] 50 fun g1 w2 => newK w2 #[.int .i64 (0 : Int), .int .i64 (0 : Int), .int .i64 (0 : Int), .int .u64 (0 : Int), .int .u64 (0 : Int), .int .i64 (0 : Int), .int .i64 (0 : Int), .int .i64 (0 : Int), .int .i64 (0 : Int), .int .u64 (0 : Int), .slice none 0 0, .int .u64 (0 : Int), .int .i64 (0 : Int), .int .u64 (0 : Int), .int .i64 (0 : Int), .int .u64 (0 : Int), .int .i64 (0 : Int), .int .u64 (0 : Int), .slice none 0 0] 63 fun g3 w4 => drewK w4 fun w5 => optP a0 fun p6 => optP a0 fun p7 => ldI .u64 w5 (p7.add 92) fun x8 => CallR Tryz.prog 49 #[.pointer (some (p6.add 89)), .int .u64 x8] w5 fun v9 w10 => ∃ (y11 : Int) (y12 : Bool), v9 = .tuple #[.int .u64 y11, .bool y12] ∧ bcase (!y12) (stAll w10 g1 [.int .i64 (0 : Int), .int .u64 (0 : Int), .int .i64 (0 : Int), .int .i64 (0 : Int), .int .i64 (0 : Int), .int .u64 (0 : Int), .slice none 0 0, .int .u64 (0 : Int), .int .i64 (0 : Int), .int .i64 (0 : Int), .slice none 0 0, .int .u64 (0 : Int), .int .u64 (0 : Int), .int .u64 (0 : Int), .int .u64 (0 : Int)] fun w13 => stAll w13 g3 [.int .i64 (0 : Int), .int .i64 (0 : Int), .int .i64 (0 : Int), .int .u64 (0 : Int), .int .u64 (0 : Int), .int .i64 (0 : Int), .int .i64 (0 : Int), .int .i64 (0 : Int), .int .i64 (0 : Int), .int .u64 (0 : Int), .slice none 0 0, .int .u64 (0 : Int), .int .i64 (0 : Int), .int .u64 (0 : Int), .int .i64 (0 : Int), .int .u64 (0 : Int), .int .i64 (0 : Int), .int .u64 (0 : Int), .slice none 0 0] fun w14 => ldI .i64 w14 (g1.add 0) fun x15 => ldI .u64 w14 (g1.add 1) fun x16 => ldI .i64 w14 (g1.add 2) fun x17 => ldI .i64 w14 (g1.add 3) fun x18 => ldI .i64 w14 (g1.add 4) fun x19 => ldI .u64 w14 (g1.add 5) fun x20 => ldSl w14 (g1.add 6) fun x21p x21n x21c => ldI .u64 w14 (g1.add 7) fun x22 => ldI .i64 w14 (g1.add 8) fun x23 => ldI .i64 w14 (g1.add 9) fun x24 => ldSl w14 (g1.add 10) fun x25p x25n x25c => ldI .u64 w14 (g1.add 11) fun x26 => ldI .u64 w14 (g1.add 12) fun x27 => ldI .u64 w14 (g1.add 13) fun x28 => ldI .u64 w14 (g1.add 14) fun x29 => ldI .i64 w14 (g3.add 0) fun x30 => ldI .i64 w14 (g3.add 1) fun x31 => ldI .i64 w14 (g3.add 2) fun x32 => ldI .u64 w14 (g3.add 3) fun x33 => ldI .u64 w14 (g3.add 4) fun x34 => ldI .i64 w14 (g3.add 5) fun x35 => ldI .i64 w14 (g3.add 6) fun x36 => ldI .i64 w14 (g3.add 7) fun x37 => ldI .i64 w14 (g3.add 8) fun x38 => ldI .u64 w14 (g3.add 9) fun x39 => ldSl w14 (g3.add 10) fun x40p x40n x40c => ldI .u64 w14 (g3.add 11) fun x41 => ldI .i64 w14 (g3.add 12) fun x42 => ldI .u64 w14 (g3.add 13) fun x43 => ldI .i64 w14 (g3.add 14) fun x44 => ldI .u64 w14 (g3.add 15) fun x45 => ldI .i64 w14 (g3.add 16) fun x46 => ldI .u64 w14 (g3.add 17) fun x47 => ldSl w14 (g3.add 18) fun x48p x48n x48c => Q (.tuple #[.agg #[.int .i64 x15, .int .u64 x16, .int .i64 x17, .int .i64 x18, .int .i64 x19, .int .u64 x20, .slice x21p x21n x21c, .int .u64 x22, .int .i64 x23, .int .i64 x24, .slice x25p x25n x25c, .int .u64 x26, .int .u64 x27, .int .u64 x28, .int .u64 x29], .agg #[.int .i64 x30, .int .i64 x31, .int .i64 x32, .int .u64 x33, .int .u64 x34, .int .i64 x35, .int .i64 x36, .int .i64 x37, .int .i64 x38, .int .u64 x39, .slice x40p x40n x40c, .int .u64 x41, .int .i64 x42, .int .u64 x43, .int .i64 x44, .int .u64 x45, .int .i64 x46, .int .u64 x47, .slice x48p x48n x48c], .bool false]) w14) (optP a0 fun p49 => stK w10 (p49.add 92) (.int .u64 y11) fun w50 => optP a0 fun p51 => CallR Tryz.prog 50 #[.pointer (some (p51.add 89)), .int .u64 y11] w50 fun v52 w53 => ∃ (y54 : Int) (y55 : Int) (y56 : Int) (y57 : Int) (y58 : Int) (y59 : Int) (y60p : Option Addr) (y60n y60c : Nat) (y61 : Int) (y62 : Int) (y63 : Int) (y64p : Option Addr) (y64n y64c : Nat) (y65 : Int) (y66 : Int) (y67 : Int) (y68 : Int) (y69 : Bool), v52 = .tuple #[.agg #[.int .i64 y54, .int .u64 y55, .int .i64 y56, .int .i64 y57, .int .i64 y58, .int .u64 y59, .slice y60p y60n y60c, .int .u64 y61, .int .i64 y62, .int .i64 y63, .slice y64p y64n y64c, .int .u64 y65, .int .u64 y66, .int .u64 y67, .int .u64 y68], .bool y69] ∧ newK w53 #[.int .i64 (0 : Int), .int .u64 (0 : Int), .int .i64 (0 : Int), .int .i64 (0 : Int), .int .i64 (0 : Int), .int .u64 (0 : Int), .slice none 0 0, .int .u64 (0 : Int), .int .i64 (0 : Int), .int .i64 (0 : Int), .slice none 0 0, .int .u64 (0 : Int), .int .u64 (0 : Int), .int .u64 (0 : Int), .int .u64 (0 : Int)] 50 fun g70 w71 => stAll w71 g70 [.int .i64 y54, .int .u64 y55, .int .i64 y56, .int .i64 y57, .int .i64 y58, .int .u64 y59, .slice y60p y60n y60c, .int .u64 y61, .int .i64 y62, .int .i64 y63, .slice y64p y64n y64c, .int .u64 y65, .int .u64 y66, .int .u64 y67, .int .u64 y68] fun w72 => ldI .i64 w72 (g70.add 0) fun x73 => ldI .u64 w72 (g70.add 1) fun x74 => ldI .i64 w72 (g70.add 2) fun x75 => ldI .i64 w72 (g70.add 3) fun x76 => ldI .i64 w72 (g70.add 4) fun x77 => ldI .u64 w72 (g70.add 5) fun x78 => ldSl w72 (g70.add 6) fun x79p x79n x79c => ldI .u64 w72 (g70.add 7) fun x80 => ldI .i64 w72 (g70.add 8) fun x81 => ldI .i64 w72 (g70.add 9) fun x82 => ldSl w72 (g70.add 10) fun x83p x83n x83c => ldI .u64 w72 (g70.add 11) fun x84 => ldI .u64 w72 (g70.add 12) fun x85 => ldI .u64 w72 (g70.add 13) fun x86 => ldI .u64 w72 (g70.add 14) fun x87 => CallR Tryz.prog 51 #[.agg #[.int .i64 x73, .int .u64 x74, .int .i64 x75, .int .i64 x76, .int .i64 x77, .int .u64 x78, .slice x79p x79n x79c, .int .u64 x80, .int .i64 x81, .int .i64 x82, .slice x83p x83n x83c, .int .u64 x84, .int .u64 x85, .int .u64 x86, .int .u64 x87]] w72 fun v88 w89 => ∃ (y90 : Int) (y91 : Int) (y92 : Int) (y93 : Int) (y94 : Int) (y95 : Int) (y96p : Option Addr) (y96n y96c : Nat) (y97 : Int) (y98 : Int) (y99 : Int) (y100p : Option Addr) (y100n y100c : Nat) (y101 : Int) (y102 : Int) (y103 : Int) (y104 : Int), v88 = .agg #[.int .i64 y90, .int .u64 y91, .int .i64 y92, .int .i64 y93, .int .i64 y94, .int .u64 y95, .slice y96p y96n y96c, .int .u64 y97, .int .i64 y98, .int .i64 y99, .slice y100p y100n y100c, .int .u64 y101, .int .u64 y102, .int .u64 y103, .int .u64 y104] ∧ newK w89 #[.int .i64 (0 : Int), .int .u64 (0 : Int), .int .i64 (0 : Int), .int .i64 (0 : Int), .int .i64 (0 : Int), .int .u64 (0 : Int), .slice none 0 0, .int .u64 (0 : Int), .int .i64 (0 : Int), .int .i64 (0 : Int), .slice none 0 0, .int .u64 (0 : Int), .int .u64 (0 : Int), .int .u64 (0 : Int), .int .u64 (0 : Int)] 50 fun g105 w106 => stAll w106 g105 [.int .i64 y90, .int .u64 y91, .int .i64 y92, .int .i64 y93, .int .i64 y94, .int .u64 y95, .slice y96p y96n y96c, .int .u64 y97, .int .i64 y98, .int .i64 y99, .slice y100p y100n y100c, .int .u64 y101, .int .u64 y102, .int .u64 y103, .int .u64 y104] fun w107 => ldI .i64 w107 (g70.add 8) fun x108 => bcase (x108 != (1 : Int)) (ldI .i64 w107 (g70.add 8) fun x109 => bcase (x109 != (4 : Int)) (ldI .i64 w107 (g105.add 0) fun x110 => ldI .u64 w107 (g105.add 1) fun x111 => ldI .i64 w107 (g105.add 2) fun x112 => ldI .i64 w107 (g105.add 3) fun x113 => ldI .i64 w107 (g105.add 4) fun x114 => ldI .u64 w107 (g105.add 5) fun x115 => ldSl w107 (g105.add 6) fun x116p x116n x116c => ldI .u64 w107 (g105.add 7) fun x117 => ldI .i64 w107 (g105.add 8) fun x118 => ldI .i64 w107 (g105.add 9) fun x119 => ldSl w107 (g105.add 10) fun x120p x120n x120c => ldI .u64 w107 (g105.add 11) fun x121 => ldI .u64 w107 (g105.add 12) fun x122 => ldI .u64 w107 (g105.add 13) fun x123 => ldI .u64 w107 (g105.add 14) fun x124 => stAll w107 g1 [.int .i64 x110, .int .u64 x111, .int .i64 x112, .int .i64 x113, .int .i64 x114, .int .u64 x115, .slice x116p x116n x116c, .int .u64 x117, .int .i64 x118, .int .i64 x119, .slice x120p x120n x120c, .int .u64 x121, .int .u64 x122, .int .u64 x123, .int .u64 x124] fun w125 => stAll w125 g3 [.int .i64 (0 : Int), .int .i64 (0 : Int), .int .i64 (0 : Int), .int .u64 (0 : Int), .int .u64 (0 : Int), .int .i64 (0 : Int), .int .i64 (0 : Int), .int .i64 (0 : Int), .int .i64 (0 : Int), .int .u64 (0 : Int), .slice none 0 0, .int .u64 (0 : Int), .int .i64 (0 : Int), .int .u64 (0 : Int), .int .i64 (0 : Int), .int .u64 (0 : Int), .int .i64 (0 : Int), .int .u64 (0 : Int), .slice none 0 0] fun w126 => ldI .i64 w126 (g1.add 0) fun x127 => ldI .u64 w126 (g1.add 1) fun x128 => ldI .i64 w126 (g1.add 2) fun x129 => ldI .i64 w126 (g1.add 3) fun x130 => ldI .i64 w126 (g1.add 4) fun x131 => ldI .u64 w126 (g1.add 5) fun x132 => ldSl w126 (g1.add 6) fun x133p x133n x133c => ldI .u64 w126 (g1.add 7) fun x134 => ldI .i64 w126 (g1.add 8) fun x135 => ldI .i64 w126 (g1.add 9) fun x136 => ldSl w126 (g1.add 10) fun x137p x137n x137c => ldI .u64 w126 (g1.add 11) fun x138 => ldI .u64 w126 (g1.add 12) fun x139 => ldI .u64 w126 (g1.add 13) fun x140 => ldI .u64 w126 (g1.add 14) fun x141 => ldI .i64 w126 (g3.add 0) fun x142 => ldI .i64 w126 (g3.add 1) fun x143 => ldI .i64 w126 (g3.add 2) fun x144 => ldI .u64 w126 (g3.add 3) fun x145 => ldI .u64 w126 (g3.add 4) fun x146 => ldI .i64 w126 (g3.add 5) fun x147 => ldI .i64 w126 (g3.add 6) fun x148 => ldI .i64 w126 (g3.add 7) fun x149 => ldI .i64 w126 (g3.add 8) fun x150 => ldI .u64 w126 (g3.add 9) fun x151 => ldSl w126 (g3.add 10) fun x152p x152n x152c => ldI .u64 w126 (g3.add 11) fun x153 => ldI .i64 w126 (g3.add 12) fun x154 => ldI .u64 w126 (g3.add 13) fun x155 => ldI .i64 w126 (g3.add 14) fun x156 => ldI .u64 w126 (g3.add 15) fun x157 => ldI .i64 w126 (g3.add 16) fun x158 => ldI .u64 w126 (g3.add 17) fun x159 => ldSl w126 (g3.add 18) fun x160p x160n x160c => Q (.tuple #[.agg #[.int .i64 x127, .int .u64 x128, .int .i64 x129, .int .i64 x130, .int .i64 x131, .int .u64 x132, .slice x133p x133n x133c, .int .u64 x134, .int .i64 x135, .int .i64 x136, .slice x137p x137n x137c, .int .u64 x138, .int .u64 x139, .int .u64 x140, .int .u64 x141], .agg #[.int .i64 x142, .int .i64 x143, .int .i64 x144, .int .u64 x145, .int .u64 x146, .int .i64 x147, .int .i64 x148, .int .i64 x149, .int .i64 x150, .int .u64 x151, .slice x152p x152n x152c, .int .u64 x153, .int .i64 x154, .int .u64 x155, .int .i64 x156, .int .u64 x157, .int .i64 x158, .int .u64 x159, .slice x160p x160n x160c], .bool false]) w126) (ldI .u64 w107 (g70.add 12) fun x161 => ldI .u64 w107 (g70.add 13) fun x162 => CallR Tryz.prog 52 #[.int .u64 x161, .int .u64 x162, .int .u64 a1] w107 fun v163 w164 => ∃ (y165 : Bool), v163 = .bool y165 ∧ bcase (!y165) (ldI .i64 w164 (g105.add 0) fun x166 => ldI .u64 w164 (g105.add 1) fun x167 => ldI .i64 w164 (g105.add 2) fun x168 => ldI .i64 w164 (g105.add 3) fun x169 => ldI .i64 w164 (g105.add 4) fun x170 => ldI .u64 w164 (g105.add 5) fun x171 => ldSl w164 (g105.add 6) fun x172p x172n x172c => ldI .u64 w164 (g105.add 7) fun x173 => ldI .i64 w164 (g105.add 8) fun x174 => ldI .i64 w164 (g105.add 9) fun x175 => ldSl w164 (g105.add 10) fun x176p x176n x176c => ldI .u64 w164 (g105.add 11) fun x177 => ldI .u64 w164 (g105.add 12) fun x178 => ldI .u64 w164 (g105.add 13) fun x179 => ldI .u64 w164 (g105.add 14) fun x180 => stAll w164 g1 [.int .i64 x166, .int .u64 x167, .int .i64 x168, .int .i64 x169, .int .i64 x170, .int .u64 x171, .slice x172p x172n x172c, .int .u64 x173, .int .i64 x174, .int .i64 x175, .slice x176p x176n x176c, .int .u64 x177, .int .u64 x178, .int .u64 x179, .int .u64 x180] fun w181 => stAll w181 g3 [.int .i64 (0 : Int), .int .i64 (0 : Int), .int .i64 (0 : Int), .int .u64 (0 : Int), .int .u64 (0 : Int), .int .i64 (0 : Int), .int .i64 (0 : Int), .int .i64 (0 : Int), .int .i64 (0 : Int), .int .u64 (0 : Int), .slice none 0 0, .int .u64 (0 : Int), .int .i64 (0 : Int), .int .u64 (0 : Int), .int .i64 (0 : Int), .int .u64 (0 : Int), .int .i64 (0 : Int), .int .u64 (0 : Int), .slice none 0 0] fun w182 => ldI .i64 w182 (g1.add 0) fun x183 => ldI .u64 w182 (g1.add 1) fun x184 => ldI .i64 w182 (g1.add 2) fun x185 => ldI .i64 w182 (g1.add 3) fun x186 => ldI .i64 w182 (g1.add 4) fun x187 => ldI .u64 w182 (g1.add 5) fun x188 => ldSl w182 (g1.add 6) fun x189p x189n x189c => ldI .u64 w182 (g1.add 7) fun x190 => ldI .i64 w182 (g1.add 8) fun x191 => ldI .i64 w182 (g1.add 9) fun x192 => ldSl w182 (g1.add 10) fun x193p x193n x193c => ldI .u64 w182 (g1.add 11) fun x194 => ldI .u64 w182 (g1.add 12) fun x195 => ldI .u64 w182 (g1.add 13) fun x196 => ldI .u64 w182 (g1.add 14) fun x197 => ldI .i64 w182 (g3.add 0) fun x198 => ldI .i64 w182 (g3.add 1) fun x199 => ldI .i64 w182 (g3.add 2) fun x200 => ldI .u64 w182 (g3.add 3) fun x201 => ldI .u64 w182 (g3.add 4) fun x202 => ldI .i64 w182 (g3.add 5) fun x203 => ldI .i64 w182 (g3.add 6) fun x204 => ldI .i64 w182 (g3.add 7) fun x205 => ldI .i64 w182 (g3.add 8) fun x206 => ldI .u64 w182 (g3.add 9) fun x207 => ldSl w182 (g3.add 10) fun x208p x208n x208c => ldI .u64 w182 (g3.add 11) fun x209 => ldI .i64 w182 (g3.add 12) fun x210 => ldI .u64 w182 (g3.add 13) fun x211 => ldI .i64 w182 (g3.add 14) fun x212 => ldI .u64 w182 (g3.add 15) fun x213 => ldI .i64 w182 (g3.add 16) fun x214 => ldI .u64 w182 (g3.add 17) fun x215 => ldSl w182 (g3.add 18) fun x216p x216n x216c => Q (.tuple #[.agg #[.int .i64 x183, .int .u64 x184, .int .i64 x185, .int .i64 x186, .int .i64 x187, .int .u64 x188, .slice x189p x189n x189c, .int .u64 x190, .int .i64 x191, .int .i64 x192, .slice x193p x193n x193c, .int .u64 x194, .int .u64 x195, .int .u64 x196, .int .u64 x197], .agg #[.int .i64 x198, .int .i64 x199, .int .i64 x200, .int .u64 x201, .int .u64 x202, .int .i64 x203, .int .i64 x204, .int .i64 x205, .int .i64 x206, .int .u64 x207, .slice x208p x208n x208c, .int .u64 x209, .int .i64 x210, .int .u64 x211, .int .i64 x212, .int .u64 x213, .int .i64 x214, .int .u64 x215, .slice x216p x216n x216c], .bool false]) w182) (X18.j0 Q a0 a1 g1 g3 y11 g70 g105 w164))) (ldI .u64 w107 (g70.add 12) fun x217 => ldI .u64 w107 (g70.add 13) fun x218 => CallR Tryz.prog 52 #[.int .u64 x217, .int .u64 x218, .int .u64 a1] w107 fun v219 w220 => ∃ (y221 : Bool), v219 = .bool y221 ∧ bcase (!y221) (ldI .i64 w220 (g105.add 0) fun x222 => ldI .u64 w220 (g105.add 1) fun x223 => ldI .i64 w220 (g105.add 2) fun x224 => ldI .i64 w220 (g105.add 3) fun x225 => ldI .i64 w220 (g105.add 4) fun x226 => ldI .u64 w220 (g105.add 5) fun x227 => ldSl w220 (g105.add 6) fun x228p x228n x228c => ldI .u64 w220 (g105.add 7) fun x229 => ldI .i64 w220 (g105.add 8) fun x230 => ldI .i64 w220 (g105.add 9) fun x231 => ldSl w220 (g105.add 10) fun x232p x232n x232c => ldI .u64 w220 (g105.add 11) fun x233 => ldI .u64 w220 (g105.add 12) fun x234 => ldI .u64 w220 (g105.add 13) fun x235 => ldI .u64 w220 (g105.add 14) fun x236 => stAll w220 g1 [.int .i64 x222, .int .u64 x223, .int .i64 x224, .int .i64 x225, .int .i64 x226, .int .u64 x227, .slice x228p x228n x228c, .int .u64 x229, .int .i64 x230, .int .i64 x231, .slice x232p x232n x232c, .int .u64 x233, .int .u64 x234, .int .u64 x235, .int .u64 x236] fun w237 => stAll w237 g3 [.int .i64 (0 : Int), .int .i64 (0 : Int), .int .i64 (0 : Int), .int .u64 (0 : Int), .int .u64 (0 : Int), .int .i64 (0 : Int), .int .i64 (0 : Int), .int .i64 (0 : Int), .int .i64 (0 : Int), .int .u64 (0 : Int), .slice none 0 0, .int .u64 (0 : Int), .int .i64 (0 : Int), .int .u64 (0 : Int), .int .i64 (0 : Int), .int .u64 (0 : Int), .int .i64 (0 : Int), .int .u64 (0 : Int), .slice none 0 0] fun w238 => ldI .i64 w238 (g1.add 0) fun x239 => ldI .u64 w238 (g1.add 1) fun x240 => ldI .i64 w238 (g1.add 2) fun x241 => ldI .i64 w238 (g1.add 3) fun x242 => ldI .i64 w238 (g1.add 4) fun x243 => ldI .u64 w238 (g1.add 5) fun x244 => ldSl w238 (g1.add 6) fun x245p x245n x245c => ldI .u64 w238 (g1.add 7) fun x246 => ldI .i64 w238 (g1.add 8) fun x247 => ldI .i64 w238 (g1.add 9) fun x248 => ldSl w238 (g1.add 10) fun x249p x249n x249c => ldI .u64 w238 (g1.add 11) fun x250 => ldI .u64 w238 (g1.add 12) fun x251 => ldI .u64 w238 (g1.add 13) fun x252 => ldI .u64 w238 (g1.add 14) fun x253 => ldI .i64 w238 (g3.add 0) fun x254 => ldI .i64 w238 (g3.add 1) fun x255 => ldI .i64 w238 (g3.add 2) fun x256 => ldI .u64 w238 (g3.add 3) fun x257 => ldI .u64 w238 (g3.add 4) fun x258 => ldI .i64 w238 (g3.add 5) fun x259 => ldI .i64 w238 (g3.add 6) fun x260 => ldI .i64 w238 (g3.add 7) fun x261 => ldI .i64 w238 (g3.add 8) fun x262 => ldI .u64 w238 (g3.add 9) fun x263 => ldSl w238 (g3.add 10) fun x264p x264n x264c => ldI .u64 w238 (g3.add 11) fun x265 => ldI .i64 w238 (g3.add 12) fun x266 => ldI .u64 w238 (g3.add 13) fun x267 => ldI .i64 w238 (g3.add 14) fun x268 => ldI .u64 w238 (g3.add 15) fun x269 => ldI .i64 w238 (g3.add 16) fun x270 => ldI .u64 w238 (g3.add 17) fun x271 => ldSl w238 (g3.add 18) fun x272p x272n x272c => Q (.tuple #[.agg #[.int .i64 x239, .int .u64 x240, .int .i64 x241, .int .i64 x242, .int .i64 x243, .int .u64 x244, .slice x245p x245n x245c, .int .u64 x246, .int .i64 x247, .int .i64 x248, .slice x249p x249n x249c, .int .u64 x250, .int .u64 x251, .int .u64 x252, .int .u64 x253], .agg #[.int .i64 x254, .int .i64 x255, .int .i64 x256, .int .u64 x257, .int .u64 x258, .int .i64 x259, .int .i64 x260, .int .i64 x261, .int .i64 x262, .int .u64 x263, .slice x264p x264n x264c, .int .u64 x265, .int .i64 x266, .int .u64 x267, .int .i64 x268, .int .u64 x269, .int .i64 x270, .int .u64 x271, .slice x272p x272n x272c], .bool false]) w238) (X18.j0 Q a0 a1 g1 g3 y11 g70 g105 w220)))
def X18.S (Q : Value → World → Prop) : Segs
  | 0, φ, ρ, w => qP (ρ 0) fun t0 => qI .u64 (ρ 1) fun t1 => qA (ρ 4) fun t4 => qA (ρ 5) fun t5 => qI .u64 (ρ 7) fun t7 => qA (ρ 9) fun t9 => qA (ρ 11) fun t11 => X18.j0 Q t0 t1 t4 t5 t7 t9 t11 w
  | _, _, _, _ => False
noncomputable def X18.an : Ann := (.seq .leaf (.seq (.draw [0, 1, 3, 0, 8, 24, 56, 127, 255, 511, 511, 1023, 4095] [[0, 1, 2, 3, 4, 5, 6, 7, 8, 9, 10, 11, 12]]) (.seq (.seq .leaf (.cond (.seq .leaf .leaf) .leaf)) (.seq .leaf (.seq .leaf (.seq .leaf (.seq (.seq .leaf (.cond (.seq .leaf .leaf) .leaf)) (.join 0 (.seq .leaf (.seq (.draw [0, 1, 0, 4, 12, 28, 60, 0, 128, 384, 896, 1920, 4095, 8191, 16383] [[0, 1, 2, 3, 4, 5, 6, 7, 8, 9, 10, 11, 12, 13, 14]]) (.seq (.draw [0, 1, 3, 0, 0, 31] [[0, 1, 2, 3, 4, 5]]) (.seq (.draw [0, 0, 2, 6, 14, 0, 32, 0, 128, 0, 0, 1024, 3584, 0, 8192, 0, 32768, 0, 131072, 0, 524288, 0, 2097152, 6299136, 16777214, 14687745, 67108863, 134217727] [[0, 1, 2, 3, 4, 5, 6, 7, 8, 9, 10, 11, 12, 13, 14, 15, 16, 17, 18, 19, 20, 21, 22, 23, 24, 25, 26, 27]]) .leaf))))))))))))
noncomputable def X18.c : Code := Tryz.f18.body.getD .skip
theorem X18.v (Q : Value → World → Prop) : V Tryz.prog (X18.S Q) X18.an X18.c (retC Tryz.prog Tryz.f18 Q) := ⟨trivial, ⟨trivial, ⟨⟨trivial, ⟨⟨trivial, trivial⟩, trivial⟩⟩, ⟨trivial, ⟨trivial, ⟨trivial, ⟨⟨trivial, ⟨⟨trivial, trivial⟩, trivial⟩⟩, ⟨(by
    intro φ ρ w h
    simp only [X18.S] at h
    obtain ⟨t0, e0, h⟩ := qP_elim h
    obtain ⟨t1, e1, h⟩ := qI_elim h
    obtain ⟨t4, e4, h⟩ := qA_elim h
    obtain ⟨t5, e5, h⟩ := qA_elim h
    obtain ⟨t7, e7, h⟩ := qI_elim h
    obtain ⟨t9, e9, h⟩ := qA_elim h
    obtain ⟨t11, e11, h⟩ := qA_elim h
    exact ⟨(((((((Env.nil.put (some 0) (.pointer t0)).put (some 1) (.int .u64 t1)).put (some 4) (.pointer (some t4))).put (some 5) (.pointer (some t5))).put (some 7) (.int .u64 t7)).put (some 9) (.pointer (some t9))).put (some 11) (.pointer (some t11))), Env.le_put e11 (Env.le_put e9 (Env.le_put e7 (Env.le_put e5 (Env.le_put e4 (Env.le_put e1 (Env.le_put e0 (Env.le_nil _))))))), Eq.mp (by kernel_rfl) h⟩), ⟨trivial, ⟨trivial, ⟨trivial, ⟨trivial, trivial⟩⟩⟩⟩⟩⟩⟩⟩⟩⟩⟩⟩
theorem X18.sound (a0 : Option Addr) (a1 : Int) (w : World) (Q : Value → World → Prop) (h : X18.f a0 a1 w Q) : CallR Tryz.prog 18 #[.pointer a0, .int .u64 a1] w Q :=
  fn_sound noGr mixed Tryz.func18 (c := X18.c) (an := X18.an) (S := X18.S Q) (φ := fun _ => 0) (args := [.pointer a0, .int .u64 a1]) (by kernel_rfl) (by kernel_rfl) (by kernel_rfl) (X18.v Q) (Eq.mp (by kernel_rfl) h)
/-! ### mooring/mooringhand.Call: function 19 -/
def X19.f (a0_0 : Int) (a0_1 : Int) (a0_2 : Int) (a0_3 : Int) (a0_4 : Int) (a0_5 : Int) (a0_6p : Option Addr) (a0_6n : Nat) (a0_6c : Nat) (a0_7 : Int) (a0_8 : Int) (a0_9 : Int) (a0_10p : Option Addr) (a0_10n : Nat) (a0_10c : Nat) (a0_11 : Int) (a0_12 : Int) (a0_13 : Int) (a0_14 : Int) (a1_0 : Int) (a1_1 : Int) (a1_2 : Int) (a1_3 : Int) (a1_4 : Int) (a1_5 : Int) (a1_6p : Option Addr) (a1_6n : Nat) (a1_6c : Nat) (a1_7 : Int) (a1_8 : Int) (a1_9 : Int) (a1_10p : Option Addr) (a1_10n : Nat) (a1_10c : Nat) (a1_11 : Int) (a1_12 : Int) (a1_13 : Int) (a1_14 : Int) (w : World) (Q : Value → World → Prop) : Prop := newK w #[.int .i64 a0_0, .int .u64 a0_1, .int .i64 a0_2, .int .i64 a0_3, .int .i64 a0_4, .int .u64 a0_5, .slice a0_6p a0_6n a0_6c, .int .u64 a0_7, .int .i64 a0_8, .int .i64 a0_9, .slice a0_10p a0_10n a0_10c, .int .u64 a0_11, .int .u64 a0_12, .int .u64 a0_13, .int .u64 a0_14] 50 fun g1 w2 => newK w2 #[.int .i64 a1_0, .int .u64 a1_1, .int .i64 a1_2, .int .i64 a1_3, .int .i64 a1_4, .int .u64 a1_5, .slice a1_6p a1_6n a1_6c, .int .u64 a1_7, .int .i64 a1_8, .int .i64 a1_9, .slice a1_10p a1_10n a1_10c, .int .u64 a1_11, .int .u64 a1_12, .int .u64 a1_13, .int .u64 a1_14] 50 fun g3 w4 => ldI .i64 w4 (g1.add 0) fun x5 => ldI .i64 w4 (g3.add 0) fun x6 => bcase (x5 == x6) (ldI .u64 w4 (g1.add 1) fun x7 => ldI .u64 w4 (g3.add 1) fun x8 => bcase (x7 == x8) (ldI .i64 w4 (g1.add 2) fun x9 => ldI .i64 w4 (g3.add 2) fun x10 => bcase (x9 == x10) (ldI .i64 w4 (g1.add 3) fun x11 => ldI .i64 w4 (g3.add 3) fun x12 => bcase (x11 == x12) (ldI .i64 w4 ((g1.add 4).add 0) fun x13 => ldI .u64 w4 ((g1.add 4).add 1) fun x14 => ldI .i64 w4 ((g3.add 4).add 0) fun x15 => ldI .u64 w4 ((g3.add 4).add 1) fun x16 => isStruct Tryz.prog 37 ∧ bcase ((x13 == x15) && ((x14 == x16) && true)) (ldI .u64 w4 (g1.add 7) fun x17 => ldI .u64 w4 (g3.add 7) fun x18 => bcase (x17 == x18) (ldI .i64 w4 (g1.add 8) fun x19 => ldI .i64 w4 (g3.add 8) fun x20 => bcase (x19 == x20) (ldI .i64 w4 (g1.add 9) fun x21 => ldI .i64 w4 (g3.add 9) fun x22 => bcase (x21 == x22) (ldI .u64 w4 (g1.add 11) fun x23 => ldI .u64 w4 (g3.add 11) fun x24 => bcase (x23 == x24) (ldI .u64 w4 (g1.add 12) fun x25 => ldI .u64 w4 (g3.add 12) fun x26 => bcase (x25 == x26) (ldI .u64 w4 (g1.add 13) fun x27 => ldI .u64 w4 (g3.add 13) fun x28 => bcase (x27 == x28) (ldI .u64 w4 (g1.add 14) fun x29 => ldI .u64 w4 (g3.add 14) fun x30 => bcase (x29 == x30) (ldSl w4 (g1.add 6) fun x31p x31n x31c => ldSl w4 (g3.add 6) fun x32p x32n x32c => CallR Tryz.prog 22 #[.slice x31p x31n x31c, .slice x32p x32n x32c] w4 fun v33 w34 => ∃ (y35 : Bool), v33 = .bool y35 ∧ bcase y35 (ldSl w34 (g1.add 10) fun x36p x36n x36c => ldSl w34 (g3.add 10) fun x37p x37n x37c => CallR Tryz.prog 22 #[.slice x36p x36n x36c, .slice x37p x37n x37c] w34 fun v38 w39 => ∃ (y40 : Bool), v38 = .bool y40 ∧ Q (.bool y40) w39) (Q (.bool false) w34)) (Q (.bool false) w4)) (Q (.bool false) w4)) (Q (.bool false) w4)) (Q (.bool false) w4)) (Q (.bool false) w4)) (Q (.bool false) w4)) (Q (.bool false) w4)) (Q (.bool false) w4)) (Q (.bool false) w4)) (Q (.bool false) w4)) (Q (.bool false) w4)) (Q (.bool false) w4)
def X19.S (Q : Value → World → Prop) : Segs
  | _, _, _, _ => False
noncomputable def X19.an : Ann := (.seq .leaf (.seq .leaf .leaf))
noncomputable def X19.c : Code := Tryz.f19.body.getD .skip
theorem X19.v (Q : Value → World → Prop) : V Tryz.prog (X19.S Q) X19.an X19.c (retC Tryz.prog Tryz.f19 Q) := ⟨trivial, ⟨trivial, trivial⟩⟩
theorem X19.sound (a0_0 : Int) (a0_1 : Int) (a0_2 : Int) (a0_3 : Int) (a0_4 : Int) (a0_5 : Int) (a0_6p : Option Addr) (a0_6n : Nat) (a0_6c : Nat) (a0_7 : Int) (a0_8 : Int) (a0_9 : Int) (a0_10p : Option Addr) (a0_10n : Nat) (a0_10c : Nat) (a0_11 : Int) (a0_12 : Int) (a0_13 : Int) (a0_14 : Int) (a1_0 : Int) (a1_1 : Int) (a1_2 : Int) (a1_3 : Int) (a1_4 : Int) (a1_5 : Int) (a1_6p : Option Addr) (a1_6n : Nat) (a1_6c : Nat) (a1_7 : Int) (a1_8 : Int) (a1_9 : Int) (a1_10p : Option Addr) (a1_10n : Nat) (a1_10c : Nat) (a1_11 : Int) (a1_12 : Int) (a1_13 : Int) (a1_14 : Int) (w : World) (Q : Value → World → Prop) (h : X19.f a0_0 a0_1 a0_2 a0_3 a0_4 a0_5 a0_6p a0_6n a0_6c a0_7 a0_8 a0_9 a0_10p a0_10n a0_10c a0_11 a0_12 a0_13 a0_14 a1_0 a1_1 a1_2 a1_3 a1_4 a1_5 a1_6p a1_6n a1_6c a1_7 a1_8 a1_9 a1_10p a1_10n a1_10c a1_11 a1_12 a1_13 a1_14 w Q) : CallR Tryz.prog 19 #[.agg #[.int .i64 a0_0, .int .u64 a0_1, .int .i64 a0_2, .int .i64 a0_3, .int .i64 a0_4, .int .u64 a0_5, .slice a0_6p a0_6n a0_6c, .int .u64 a0_7, .int .i64 a0_8, .int .i64 a0_9, .slice a0_10p a0_10n a0_10c, .int .u64 a0_11, .int .u64 a0_12, .int .u64 a0_13, .int .u64 a0_14], .agg #[.int .i64 a1_0, .int .u64 a1_1, .int .i64 a1_2, .int .i64 a1_3, .int .i64 a1_4, .int .u64 a1_5, .slice a1_6p a1_6n a1_6c, .int .u64 a1_7, .int .i64 a1_8, .int .i64 a1_9, .slice a1_10p a1_10n a1_10c, .int .u64 a1_11, .int .u64 a1_12, .int .u64 a1_13, .int .u64 a1_14]] w Q :=
  fn_sound noGr mixed Tryz.func19 (c := X19.c) (an := X19.an) (S := X19.S Q) (φ := fun _ => 0) (args := [.agg #[.int .i64 a0_0, .int .u64 a0_1, .int .i64 a0_2, .int .i64 a0_3, .int .i64 a0_4, .int .u64 a0_5, .slice a0_6p a0_6n a0_6c, .int .u64 a0_7, .int .i64 a0_8, .int .i64 a0_9, .slice a0_10p a0_10n a0_10c, .int .u64 a0_11, .int .u64 a0_12, .int .u64 a0_13, .int .u64 a0_14], .agg #[.int .i64 a1_0, .int .u64 a1_1, .int .i64 a1_2, .int .i64 a1_3, .int .i64 a1_4, .int .u64 a1_5, .slice a1_6p a1_6n a1_6c, .int .u64 a1_7, .int .i64 a1_8, .int .i64 a1_9, .slice a1_10p a1_10n a1_10c, .int .u64 a1_11, .int .u64 a1_12, .int .u64 a1_13, .int .u64 a1_14]]) (by kernel_rfl) (by kernel_rfl) (by kernel_rfl) (X19.v Q) (Eq.mp (by kernel_rfl) h)
/-! ### mooring/mooringref2.Same: function 20 -/
def X20.j0 (Q : Value → World → Prop) (t2 : Addr) (t3 : Addr) (w : World) : Prop := ldI .u64 w (t2.add 13) fun x1 => ldI .u64 w (t3.add 13) fun x2 => bcase (x1 == x2) (ldI .i64 w (t2.add 14) fun x3 => ldI .i64 w (t3.add 14) fun x4 => bcase (x3 == x4) (ldI .u64 w (t2.add 15) fun x5 => ldI .u64 w (t3.add 15) fun x6 => bcase (x5 == x6) (ldI .i64 w (t2.add 16) fun x7 => ldI .i64 w (t3.add 16) fun x8 => bcase (x7 == x8) (ldI .u64 w (t2.add 17) fun x9 => ldI .u64 w (t3.add 17) fun x10 => bcase (x9 == x10) (ldSl w (t2.add 10) fun x11p x11n x11c => ldSl w (t3.add 10) fun x12p x12n x12c => CallR Tryz.prog 22 #[.slice x11p x11n x11c, .slice x12p x12n x12c] w fun v13 w14 => ∃ (y15 : Bool), v13 = .bool y15 ∧ bcase y15 (ldSl w14 (t2.add 18) fun x16p x16n x16c => ldSl w14 (t3.add 18) fun x17p x17n x17c => CallR Tryz.prog 56 #[.slice x16p x16n x16c, .slice x17p x17n x17c] w14 fun v18 w19 => ∃ (y20 : Bool), v18 = .bool y20 ∧ Q (.bool y20) w19) (Q (.bool false) w14)) (Q (.bool false) w)) (Q (.bool false) w)) (Q (.bool false) w)) (Q (.bool false) w)) (Q (.bool false) w)
def X20.f (a0_0 : Int) (a0_1 : Int) (a0_2 : Int) (a0_3 : Int) (a0_4 : Int) (a0_5 : Int) (a0_6 : Int) (a0_7 : Int) (a0_8 : Int) (a0_9 : Int) (a0_10p : Option Addr) (a0_10n : Nat) (a0_10c : Nat) (a0_11 : Int) (a0_12 : Int) (a0_13 : Int) (a0_14 : Int) (a0_15 : Int) (a0_16 : Int) (a0_17 : Int) (a0_18p : Option Addr) (a0_18n : Nat) (a0_18c : Nat) (a1_0 : Int) (a1_1 : Int) (a1_2 : Int) (a1_3 : Int) (a1_4 : Int) (a1_5 : Int) (a1_6 : Int) (a1_7 : Int) (a1_8 : Int) (a1_9 : Int) (a1_10p : Option Addr) (a1_10n : Nat) (a1_10c : Nat) (a1_11 : Int) (a1_12 : Int) (a1_13 : Int) (a1_14 : Int) (a1_15 : Int) (a1_16 : Int) (a1_17 : Int) (a1_18p : Option Addr) (a1_18n : Nat) (a1_18c : Nat) (w : World) (Q : Value → World → Prop) : Prop := newK w #[.int .i64 a0_0, .int .i64 a0_1, .int .i64 a0_2, .int .u64 a0_3, .int .u64 a0_4, .int .i64 a0_5, .int .i64 a0_6, .int .i64 a0_7, .int .i64 a0_8, .int .u64 a0_9, .slice a0_10p a0_10n a0_10c, .int .u64 a0_11, .int .i64 a0_12, .int .u64 a0_13, .int .i64 a0_14, .int .u64 a0_15, .int .i64 a0_16, .int .u64 a0_17, .slice a0_18p a0_18n a0_18c] 63 fun g1 w2 => newK w2 #[.int .i64 a1_0, .int .i64 a1_1, .int .i64 a1_2, .int .u64 a1_3, .int .u64 a1_4, .int .i64 a1_5, .int .i64 a1_6, .int .i64 a1_7, .int .i64 a1_8, .int .u64 a1_9, .slice a1_10p a1_10n a1_10c, .int .u64 a1_11, .int .i64 a1_12, .int .u64 a1_13, .int .i64 a1_14, .int .u64 a1_15, .int .i64 a1_16, .int .u64 a1_17, .slice a1_18p a1_18n a1_18c] 63 fun g3 w4 => ldI .i64 w4 (g1.add 0) fun x5 => ldI .i64 w4 (g3.add 0) fun x6 => bcase (x5 != x6) (Q (.bool false) w4) (ldI .i64 w4 (g1.add 1) fun x7 => ldI .i64 w4 (g3.add 1) fun x8 => bcase (x7 != x8) (Q (.bool false) w4) (ldI .i64 w4 (g1.add 2) fun x9 => ldI .i64 w4 (g3.add 2) fun x10 => bcase (x9 != x10) (Q (.bool false) w4) (ldI .u64 w4 (g1.add 3) fun x11 => ldI .u64 w4 (g3.add 3) fun x12 => bcase (x11 != x12) (Q (.bool false) w4) (ldI .u64 w4 (g1.add 4) fun x13 => ldI .u64 w4 (g3.add 4) fun x14 => bcase (x13 != x14) (Q (.bool false) w4) (ldI .i64 w4 (g1.add 5) fun x15 => ldI .i64 w4 (g3.add 5) fun x16 => bcase (x15 != x16) (Q (.bool false) w4) (ldI .i64 w4 (g1.add 6) fun x17 => ldI .i64 w4 (g3.add 6) fun x18 => bcase (x17 != x18) (Q (.bool false) w4) (ldI .i64 w4 (g1.add 7) fun x19 => ldI .i64 w4 (g3.add 7) fun x20 => bcase (x19 != x20) (Q (.bool false) w4) (ldI .i64 w4 ((g1.add 8).add 0) fun x21 => ldI .u64 w4 ((g1.add 8).add 1) fun x22 => ldI .i64 w4 ((g3.add 8).add 0) fun x23 => ldI .u64 w4 ((g3.add 8).add 1) fun x24 => isStruct Tryz.prog 37 ∧ bcase (!((x21 == x23) && ((x22 == x24) && true))) (Q (.bool false) w4) (ldI .u64 w4 (g1.add 11) fun x25 => ldI .u64 w4 (g3.add 11) fun x26 => bcase (x25 != x26) (Q (.bool false) w4) (ldI .i64 w4 (g1.add 12) fun x27 => ldI .i64 w4 (g3.add 12) fun x28 => bcase (x27 != x28) (Q (.bool false) w4) (X20.j0 Q g1 g3 w4)))))))))))
def X20.S (Q : Value → World → Prop) : Segs
  | 0, φ, ρ, w => qA (ρ 2) fun t2 => qA (ρ 3) fun t3 => X20.j0 Q t2 t3 w
  | _, _, _, _ => False
noncomputable def X20.an : Ann := (.seq .leaf (.seq (.seq .leaf (.cond (.seq .leaf .leaf) .leaf)) (.join 0 (.seq .leaf .leaf))))
noncomputable def X20.c : Code := Tryz.f20.body.getD .skip
theorem X20.v (Q : Value → World → Prop) : V Tryz.prog (X20.S Q) X20.an X20.c (retC Tryz.prog Tryz.f20 Q) := ⟨trivial, ⟨⟨trivial, ⟨⟨trivial, trivial⟩, trivial⟩⟩, ⟨(by
    intro φ ρ w h
    simp only [X20.S] at h
    obtain ⟨t2, e2, h⟩ := qA_elim h
    obtain ⟨t3, e3, h⟩ := qA_elim h
    exact ⟨((Env.nil.put (some 2) (.pointer (some t2))).put (some 3) (.pointer (some t3))), Env.le_put e3 (Env.le_put e2 (Env.le_nil _)), Eq.mp (by kernel_rfl) h⟩), ⟨trivial, trivial⟩⟩⟩⟩
theorem X20.sound (a0_0 : Int) (a0_1 : Int) (a0_2 : Int) (a0_3 : Int) (a0_4 : Int) (a0_5 : Int) (a0_6 : Int) (a0_7 : Int) (a0_8 : Int) (a0_9 : Int) (a0_10p : Option Addr) (a0_10n : Nat) (a0_10c : Nat) (a0_11 : Int) (a0_12 : Int) (a0_13 : Int) (a0_14 : Int) (a0_15 : Int) (a0_16 : Int) (a0_17 : Int) (a0_18p : Option Addr) (a0_18n : Nat) (a0_18c : Nat) (a1_0 : Int) (a1_1 : Int) (a1_2 : Int) (a1_3 : Int) (a1_4 : Int) (a1_5 : Int) (a1_6 : Int) (a1_7 : Int) (a1_8 : Int) (a1_9 : Int) (a1_10p : Option Addr) (a1_10n : Nat) (a1_10c : Nat) (a1_11 : Int) (a1_12 : Int) (a1_13 : Int) (a1_14 : Int) (a1_15 : Int) (a1_16 : Int) (a1_17 : Int) (a1_18p : Option Addr) (a1_18n : Nat) (a1_18c : Nat) (w : World) (Q : Value → World → Prop) (h : X20.f a0_0 a0_1 a0_2 a0_3 a0_4 a0_5 a0_6 a0_7 a0_8 a0_9 a0_10p a0_10n a0_10c a0_11 a0_12 a0_13 a0_14 a0_15 a0_16 a0_17 a0_18p a0_18n a0_18c a1_0 a1_1 a1_2 a1_3 a1_4 a1_5 a1_6 a1_7 a1_8 a1_9 a1_10p a1_10n a1_10c a1_11 a1_12 a1_13 a1_14 a1_15 a1_16 a1_17 a1_18p a1_18n a1_18c w Q) : CallR Tryz.prog 20 #[.agg #[.int .i64 a0_0, .int .i64 a0_1, .int .i64 a0_2, .int .u64 a0_3, .int .u64 a0_4, .int .i64 a0_5, .int .i64 a0_6, .int .i64 a0_7, .int .i64 a0_8, .int .u64 a0_9, .slice a0_10p a0_10n a0_10c, .int .u64 a0_11, .int .i64 a0_12, .int .u64 a0_13, .int .i64 a0_14, .int .u64 a0_15, .int .i64 a0_16, .int .u64 a0_17, .slice a0_18p a0_18n a0_18c], .agg #[.int .i64 a1_0, .int .i64 a1_1, .int .i64 a1_2, .int .u64 a1_3, .int .u64 a1_4, .int .i64 a1_5, .int .i64 a1_6, .int .i64 a1_7, .int .i64 a1_8, .int .u64 a1_9, .slice a1_10p a1_10n a1_10c, .int .u64 a1_11, .int .i64 a1_12, .int .u64 a1_13, .int .i64 a1_14, .int .u64 a1_15, .int .i64 a1_16, .int .u64 a1_17, .slice a1_18p a1_18n a1_18c]] w Q :=
  fn_sound noGr mixed Tryz.func20 (c := X20.c) (an := X20.an) (S := X20.S Q) (φ := fun _ => 0) (args := [.agg #[.int .i64 a0_0, .int .i64 a0_1, .int .i64 a0_2, .int .u64 a0_3, .int .u64 a0_4, .int .i64 a0_5, .int .i64 a0_6, .int .i64 a0_7, .int .i64 a0_8, .int .u64 a0_9, .slice a0_10p a0_10n a0_10c, .int .u64 a0_11, .int .i64 a0_12, .int .u64 a0_13, .int .i64 a0_14, .int .u64 a0_15, .int .i64 a0_16, .int .u64 a0_17, .slice a0_18p a0_18n a0_18c], .agg #[.int .i64 a1_0, .int .i64 a1_1, .int .i64 a1_2, .int .u64 a1_3, .int .u64 a1_4, .int .i64 a1_5, .int .i64 a1_6, .int .i64 a1_7, .int .i64 a1_8, .int .u64 a1_9, .slice a1_10p a1_10n a1_10c, .int .u64 a1_11, .int .i64 a1_12, .int .u64 a1_13, .int .i64 a1_14, .int .u64 a1_15, .int .i64 a1_16, .int .u64 a1_17, .slice a1_18p a1_18n a1_18c]]) (by kernel_rfl) (by kernel_rfl) (by kernel_rfl) (X20.v Q) (Eq.mp (by kernel_rfl) h)
/-! ### (*mooring/mooringref20.Calls).Reply: function 21 -/
def X21.j0 (Q : Value → World → Prop) (t0 : Option Addr) (t3 : Addr) (w : World) : Prop := ldI .i64 w (t3.add 1) fun x1 => ldI .u64 w (t3.add 3) fun x2 => CallR Tryz.prog 57 #[.pointer t0, .int .i64 x1, .int .u64 x2] w fun v3 w4 => ∃ (y5 : Int) (y6 : Int) (y7 : Int) (y8 : Int) (y9 : Int) (y10 : Int) (y11p : Option Addr) (y11n y11c : Nat) (y12 : Int) (y13 : Int) (y14 : Int) (y15p : Option Addr) (y15n y15c : Nat) (y16 : Int) (y17 : Int) (y18 : Int) (y19 : Int) (y20 : Bool), v3 = .tuple #[.agg #[.int .i64 y5, .int .u64 y6, .int .i64 y7, .int .i64 y8, .int .i64 y9, .int .u64 y10, .slice y11p y11n y11c, .int .u64 y12, .int .i64 y13, .int .i64 y14, .slice y15p y15n y15c, .int .u64 y16, .int .u64 y17, .int .u64 y18, .int .u64 y19], .bool y20] ∧ newK w4 #[.int .i64 (0 : Int), .int .u64 (0 : Int), .int .i64 (0 : Int), .int .i64 (0 : Int), .int .i64 (0 : Int), .int .u64 (0 : Int), .slice none 0 0, .int .u64 (0 : Int), .int .i64 (0 : Int), .int .i64 (0 : Int), .slice none 0 0, .int .u64 (0 : Int), .int .u64 (0 : Int), .int .u64 (0 : Int), .int .u64 (0 : Int)] 50 fun g21 w22 => stAll w22 g21 [.int .i64 y5, .int .u64 y6, .int .i64 y7, .int .i64 y8, .int .i64 y9, .int .u64 y10, .slice y11p y11n y11c, .int .u64 y12, .int .i64 y13, .int .i64 y14, .slice y15p y15n y15c, .int .u64 y16, .int .u64 y17, .int .u64 y18, .int .u64 y19] fun w23 => bcase (!y20) (drewK w23 fun w24 => ldI .u64 w24 (t3.add 3) fun x25 => optP t0 fun p26 => ldI .u64 w24 (p26.add 88) fun x27 => bcase (decide (x25 > x27)) (ldI .u64 w24 (t3.add 3) fun x28 => ldI .i64 w24 (t3.add 1) fun x29 => optP t0 fun p30 => (0 ≤ x29 ∧ x29 < ((65 : Nat) : Int)) ∧ ldI .u64 w24 ((p30.add 23).add (Int.toNat x29 * 1)) fun x31 => Q (.tuple #[.slice none 0 0, .bool (decide (x28 ≤ x31))]) w24) (Q (.tuple #[.slice none 0 0, .bool false]) w24)) (ldI .i64 w23 (g21.add 8) fun x32 => bcase (x32 == (1 : Int)) (stK w23 (g21.add 8) (.int .i64 (2 : Int)) fun w33 => ldI .i64 w33 (t3.add 12) fun x34 => stK w33 (g21.add 9) (.int .i64 x34) fun w35 => ldI .u64 w35 (t3.add 11) fun x36 => stK w35 (g21.add 11) (.int .u64 x36) fun w37 => ldSl w37 (t3.add 10) fun x38p x38n x38c => CallR Tryz.prog 55 #[.slice x38p x38n x38c] w37 fun v39 w40 => ∃ (y41p : Option Addr) (y41n y41c : Nat), v39 = .slice y41p y41n y41c ∧ stK w40 (g21.add 10) (.slice y41p y41n y41c) fun w42 => drewK w42 fun w43 => optP t0 fun p44 => ldI .i64 w43 (g21.add 0) fun x45 => ldI .u64 w43 (g21.add 1) fun x46 => CallR Tryz.prog 58 #[.int .i64 x45, .int .u64 x46] w43 fun v47 w48 => ∃ (y49 : Int), v47 = .int .u64 y49 ∧ ldI .i64 w48 (g21.add 0) fun x50 => ldI .u64 w48 (g21.add 1) fun x51 => ldI .i64 w48 (g21.add 2) fun x52 => ldI .i64 w48 (g21.add 3) fun x53 => ldI .i64 w48 (g21.add 4) fun x54 => ldI .u64 w48 (g21.add 5) fun x55 => ldSl w48 (g21.add 6) fun x56p x56n x56c => ldI .u64 w48 (g21.add 7) fun x57 => ldI .i64 w48 (g21.add 8) fun x58 => ldI .i64 w48 (g21.add 9) fun x59 => ldSl w48 (g21.add 10) fun x60p x60n x60c => ldI .u64 w48 (g21.add 11) fun x61 => ldI .u64 w48 (g21.add 12) fun x62 => ldI .u64 w48 (g21.add 13) fun x63 => ldI .u64 w48 (g21.add 14) fun x64 => ((∀ j u, ([.int .i64 x50, .int .u64 x51, .int .i64 x52, .int .i64 x53, .int .i64 x54, .int .u64 x55, .slice x56p x56n x56c, .int .u64 x57, .int .i64 x58, .int .i64 x59, .slice x60p x60n x60c, .int .u64 x61, .int .u64 x62, .int .u64 x63, .int .u64 x64] : List Value)[j]? = some u → World.cell? w43 (g21.add j) = some u) ∧ (∀ j u, ([.int .i64 x50, .int .u64 x51, .int .i64 x52, .int .i64 x53, .int .i64 x54, .int .u64 x55, .slice x56p x56n x56c, .int .u64 x57, .int .i64 x58, .int .i64 x59, .slice x60p x60n x60c, .int .u64 x61, .int .u64 x62, .int .u64 x63, .int .u64 x64] : List Value)[j]? = some u → World.cell? w48 (g21.add j) = some u)) ∧ CallR Tryz.prog 54 #[.pointer (some (p44.add 89)), .int .u64 y49, .agg #[.int .i64 x50, .int .u64 x51, .int .i64 x52, .int .i64 x53, .int .i64 x54, .int .u64 x55, .slice x56p x56n x56c, .int .u64 x57, .int .i64 x58, .int .i64 x59, .slice x60p x60n x60c, .int .u64 x61, .int .u64 x62, .int .u64 x63, .int .u64 x64]] w48 fun v65 w66 => ∃ (y67 : Bool), v65 = .bool y67 ∧ ldSl w66 (t3.add 10) fun x68p x68n x68c => CallR Tryz.prog 55 #[.slice x68p x68n x68c] w66 fun v69 w70 => ∃ (y71p : Option Addr) (y71n y71c : Nat), v69 = .slice y71p y71n y71c ∧ Q (.tuple #[.slice y71p y71n y71c, .bool false]) w70) (bcase (x32 == (4 : Int)) (drewK w23 fun w72 => optP t0 fun p73 => ldI .i64 w72 (g21.add 0) fun x74 => ldI .u64 w72 (g21.add 1) fun x75 => CallR Tryz.prog 58 #[.int .i64 x74, .int .u64 x75] w72 fun v76 w77 => ∃ (y78 : Int), v76 = .int .u64 y78 ∧ CallR Tryz.prog 59 #[.pointer (some (p73.add 89)), .int .u64 y78] w77 fun v79 w80 => ∃ (y81 : Bool), v79 = .bool y81 ∧ Q (.tuple #[.slice none 0 0, .bool true]) w80) (drewK w23 fun w82 => ldI .i64 w82 (g21.add 8) fun x83 => Q (.tuple #[.slice none 0 0, .bool (x83 == (3 : Int))]) w82)))
def X21.f (a0 : Option Addr) (a1_0 : Int) (a1_1 : Int) (a1_2 : Int) (a1_3 : Int) (a1_4 : Int) (a1_5 : Int) (a1_6 : Int) (a1_7 : Int) (a1_8 : Int) (a1_9 : Int) (a1_10p : Option Addr) (a1_10n : Nat) (a1_10c : Nat) (a1_11 : Int) (a1_12 : Int) (a1_13 : Int) (a1_14 : Int) (a1_15 : Int) (a1_16 : Int) (a1_17 : Int) (a1_18p : Option Addr) (a1_18n : Nat) (a1_18c : Nat) (w : World) (Q : Value → World → Prop) : Prop := newK w #[.int .i64 a1_0, .int .i64 a1_1, .int .i64 a1_2, .int .u64 a1_3, .int .u64 a1_4, .int .i64 a1_5, .int .i64 a1_6, .int .i64 a1_7, .int .i64 a1_8, .int .u64 a1_9, .slice a1_10p a1_10n a1_10c, .int .u64 a1_11, .int .i64 a1_12, .int .u64 a1_13, .int .i64 a1_14, .int .u64 a1_15, .int .i64 a1_16, .int .u64 a1_17, .slice a1_18p a1_18n a1_18c] 63 fun g1 w2 => drewK w2 fun w3 => ldI .i64 w3 (g1.add 0) fun x4 => bcase (x4 != (2 : Int)) (Q (.tuple #[.slice none 0 0, .bool false]) w3) (ldI .i64 w3 (g1.add 2) fun x5 => optP a0 fun p6 => ldI .i64 w3 (p6.add 22) fun x7 => bcase (x5 != x7) (Q (.tuple #[.slice none 0 0, .bool false]) w3) (ldI .i64 w3 (g1.add 1) fun x8 => bcase (decide (x8 < (1 : Int))) (Q (.tuple #[.slice none 0 0, .bool false]) w3) (ldI .i64 w3 (g1.add 1) fun x9 => optP a0 fun p10 => ldI .i64 w3 ((p10.add 0).add 0) fun x11 => bcase (decide (x9 > x11)) (Q (.tuple #[.slice none 0 0, .bool false]) w3) (ldI .i64 w3 (g1.add 1) fun x12 => optP a0 fun p13 => ldI .i64 w3 (p13.add 22) fun x14 => bcase (x12 == x14) (Q (.tuple #[.slice none 0 0, .bool false]) w3) (X21.j0 Q a0 g1 w3)))))
def X21.S (Q : Value → World → Prop) : Segs
  | 0, φ, ρ, w => qP (ρ 0) fun t0 => qA (ρ 3) fun t3 => X21.j0 Q t0 t3 w
  | _, _, _, _ => False
noncomputable def X21.an : Ann := (.seq .leaf (.seq (.seq (.draw [0, 1, 3, 7, 15, 31, 15, 79, 207, 463, 1023, 2047, 4095, 8191, 16383, 32767, 65535, 131071, 262143, 524287, 262143, 1310719, 3407871, 7602175, 15990783, 33554431, 67108863, 134217727, 268435455, 536870911, 268435455, 1342177279, 3489660927, 7784628223, 17179869183, 34359738367] [[0, 1, 2, 3, 4, 5, 6, 7, 8, 9, 10, 11, 12, 13, 14, 15, 16, 17, 18, 19, 20, 21, 22, 23, 24, 25, 26, 27, 28, 29, 30, 31, 32, 33, 34, 35]]) (.cond (.seq .leaf .leaf) .leaf)) (.join 0 (.seq .leaf (.seq (.seq .leaf (.cond (.seq (.draw [0, 1, 0, 4, 12, 28, 63, 127, 255, 511, 255, 255, 2303, 1279, 9471, 31999, 64767, 131071, 262143, 255, 1048575] [[0, 1, 2, 3, 4, 5, 6, 7, 8, 9, 10, 11, 12, 13, 14, 15, 16, 17, 18, 19, 20]]) .leaf) .leaf)) (.seq (.seq .leaf (.block (.seq .leaf (.cond (.seq .leaf (.seq .leaf (.seq .leaf (.seq .leaf (.seq (.draw [0, 1, 3, 0, 8, 0, 32, 120, 0, 511] [[0, 1, 2, 3, 4, 5, 6, 7, 8, 9]]) (.seq .leaf .leaf)))))) (.seq .leaf (.cond (.seq (.draw [0, 1, 3, 0, 8, 0, 32, 120, 255] [[0, 1, 2, 3, 4, 5, 6, 7, 8]]) (.seq .leaf .leaf)) .leaf)))))) (.seq (.draw [0, 1, 3, 0, 15] [[0, 1, 2, 3, 4]]) .leaf)))))))
noncomputable def X21.c : Code := Tryz.f21.body.getD .skip
theorem X21.v (Q : Value → World → Prop) : V Tryz.prog (X21.S Q) X21.an X21.c (retC Tryz.prog Tryz.f21 Q) := ⟨trivial, ⟨⟨trivial, ⟨⟨trivial, trivial⟩, trivial⟩⟩, ⟨(by
    intro φ ρ w h
    simp only [X21.S] at h
    obtain ⟨t0, e0, h⟩ := qP_elim h
    obtain ⟨t3, e3, h⟩ := qA_elim h
    exact ⟨((Env.nil.put (some 0) (.pointer t0)).put (some 3) (.pointer (some t3))), Env.le_put e3 (Env.le_put e0 (Env.le_nil _)), Eq.mp (by kernel_rfl) h⟩), ⟨trivial, ⟨⟨trivial, ⟨⟨trivial, trivial⟩, trivial⟩⟩, ⟨⟨trivial, ⟨trivial, ⟨⟨trivial, ⟨trivial, ⟨trivial, ⟨trivial, ⟨trivial, ⟨trivial, trivial⟩⟩⟩⟩⟩⟩, ⟨trivial, ⟨⟨trivial, ⟨trivial, trivial⟩⟩, trivial⟩⟩⟩⟩⟩, ⟨trivial, trivial⟩⟩⟩⟩⟩⟩⟩
theorem X21.sound (a0 : Option Addr) (a1_0 : Int) (a1_1 : Int) (a1_2 : Int) (a1_3 : Int) (a1_4 : Int) (a1_5 : Int) (a1_6 : Int) (a1_7 : Int) (a1_8 : Int) (a1_9 : Int) (a1_10p : Option Addr) (a1_10n : Nat) (a1_10c : Nat) (a1_11 : Int) (a1_12 : Int) (a1_13 : Int) (a1_14 : Int) (a1_15 : Int) (a1_16 : Int) (a1_17 : Int) (a1_18p : Option Addr) (a1_18n : Nat) (a1_18c : Nat) (w : World) (Q : Value → World → Prop) (h : X21.f a0 a1_0 a1_1 a1_2 a1_3 a1_4 a1_5 a1_6 a1_7 a1_8 a1_9 a1_10p a1_10n a1_10c a1_11 a1_12 a1_13 a1_14 a1_15 a1_16 a1_17 a1_18p a1_18n a1_18c w Q) : CallR Tryz.prog 21 #[.pointer a0, .agg #[.int .i64 a1_0, .int .i64 a1_1, .int .i64 a1_2, .int .u64 a1_3, .int .u64 a1_4, .int .i64 a1_5, .int .i64 a1_6, .int .i64 a1_7, .int .i64 a1_8, .int .u64 a1_9, .slice a1_10p a1_10n a1_10c, .int .u64 a1_11, .int .i64 a1_12, .int .u64 a1_13, .int .i64 a1_14, .int .u64 a1_15, .int .i64 a1_16, .int .u64 a1_17, .slice a1_18p a1_18n a1_18c]] w Q :=
  fn_sound noGr mixed Tryz.func21 (c := X21.c) (an := X21.an) (S := X21.S Q) (φ := fun _ => 0) (args := [.pointer a0, .agg #[.int .i64 a1_0, .int .i64 a1_1, .int .i64 a1_2, .int .u64 a1_3, .int .u64 a1_4, .int .i64 a1_5, .int .i64 a1_6, .int .i64 a1_7, .int .i64 a1_8, .int .u64 a1_9, .slice a1_10p a1_10n a1_10c, .int .u64 a1_11, .int .i64 a1_12, .int .u64 a1_13, .int .i64 a1_14, .int .u64 a1_15, .int .i64 a1_16, .int .u64 a1_17, .slice a1_18p a1_18n a1_18c]]) (by kernel_rfl) (by kernel_rfl) (by kernel_rfl) (X21.v Q) (Eq.mp (by kernel_rfl) h)
/-! ### (*mooring/mooringref20.Calls).Settle: function 23 -/
def X23.j0 (Q : Value → World → Prop) (t0 : Option Addr) (t1 : Int) (t2 : Int) (t3 : Int) (t9 : Addr) (w : World) : Prop := stK w (t9.add 8) (.int .i64 (3 : Int)) fun w1 => bcase (t3 != (0 : Int)) (stK w1 (t9.add 9) (.int .i64 t3) fun w2 => stK w2 (t9.add 11) (.int .u64 (0 : Int)) fun w3 => stK w3 (t9.add 10) (.slice none 0 0) fun w4 => drewK w4 fun w5 => optP t0 fun p6 => CallR Tryz.prog 58 #[.int .i64 t1, .int .u64 t2] w5 fun v7 w8 => ∃ (y9 : Int), v7 = .int .u64 y9 ∧ ldI .i64 w8 (t9.add 0) fun x10 => ldI .u64 w8 (t9.add 1) fun x11 => ldI .i64 w8 (t9.add 2) fun x12 => ldI .i64 w8 (t9.add 3) fun x13 => ldI .i64 w8 (t9.add 4) fun x14 => ldI .u64 w8 (t9.add 5) fun x15 => ldSl w8 (t9.add 6) fun x16p x16n x16c => ldI .u64 w8 (t9.add 7) fun x17 => ldI .i64 w8 (t9.add 8) fun x18 => ldI .i64 w8 (t9.add 9) fun x19 => ldSl w8 (t9.add 10) fun x20p x20n x20c => ldI .u64 w8 (t9.add 11) fun x21 => ldI .u64 w8 (t9.add 12) fun x22 => ldI .u64 w8 (t9.add 13) fun x23 => ldI .u64 w8 (t9.add 14) fun x24 => ((∀ j u, ([.int .i64 x10, .int .u64 x11, .int .i64 x12, .int .i64 x13, .int .i64 x14, .int .u64 x15, .slice x16p x16n x16c, .int .u64 x17, .int .i64 x18, .int .i64 x19, .slice x20p x20n x20c, .int .u64 x21, .int .u64 x22, .int .u64 x23, .int .u64 x24] : List Value)[j]? = some u → World.cell? w5 (t9.add j) = some u) ∧ (∀ j u, ([.int .i64 x10, .int .u64 x11, .int .i64 x12, .int .i64 x13, .int .i64 x14, .int .u64 x15, .slice x16p x16n x16c, .int .u64 x17, .int .i64 x18, .int .i64 x19, .slice x20p x20n x20c, .int .u64 x21, .int .u64 x22, .int .u64 x23, .int .u64 x24] : List Value)[j]? = some u → World.cell? w8 (t9.add j) = some u)) ∧ CallR Tryz.prog 54 #[.pointer (some (p6.add 89)), .int .u64 y9, .agg #[.int .i64 x10, .int .u64 x11, .int .i64 x12, .int .i64 x13, .int .i64 x14, .int .u64 x15, .slice x16p x16n x16c, .int .u64 x17, .int .i64 x18, .int .i64 x19, .slice x20p x20n x20c, .int .u64 x21, .int .u64 x22, .int .u64 x23, .int .u64 x24]] w8 fun v25 w26 => ∃ (y27 : Bool), v25 = .bool y27 ∧ Q (.bool true) w26) (drewK w1 fun w28 => optP t0 fun p29 => CallR Tryz.prog 58 #[.int .i64 t1, .int .u64 t2] w28 fun v30 w31 => ∃ (y32 : Int), v30 = .int .u64 y32 ∧ ldI .i64 w31 (t9.add 0) fun x33 => ldI .u64 w31 (t9.add 1) fun x34 => ldI .i64 w31 (t9.add 2) fun x35 => ldI .i64 w31 (t9.add 3) fun x36 => ldI .i64 w31 (t9.add 4) fun x37 => ldI .u64 w31 (t9.add 5) fun x38 => ldSl w31 (t9.add 6) fun x39p x39n x39c => ldI .u64 w31 (t9.add 7) fun x40 => ldI .i64 w31 (t9.add 8) fun x41 => ldI .i64 w31 (t9.add 9) fun x42 => ldSl w31 (t9.add 10) fun x43p x43n x43c => ldI .u64 w31 (t9.add 11) fun x44 => ldI .u64 w31 (t9.add 12) fun x45 => ldI .u64 w31 (t9.add 13) fun x46 => ldI .u64 w31 (t9.add 14) fun x47 => ((∀ j u, ([.int .i64 x33, .int .u64 x34, .int .i64 x35, .int .i64 x36, .int .i64 x37, .int .u64 x38, .slice x39p x39n x39c, .int .u64 x40, .int .i64 x41, .int .i64 x42, .slice x43p x43n x43c, .int .u64 x44, .int .u64 x45, .int .u64 x46, .int .u64 x47] : List Value)[j]? = some u → World.cell? w28 (t9.add j) = some u) ∧ (∀ j u, ([.int .i64 x33, .int .u64 x34, .int .i64 x35, .int .i64 x36, .int .i64 x37, .int .u64 x38, .slice x39p x39n x39c, .int .u64 x40, .int .i64 x41, .int .i64 x42, .slice x43p x43n x43c, .int .u64 x44, .int .u64 x45, .int .u64 x46, .int .u64 x47] : List Value)[j]? = some u → World.cell? w31 (t9.add j) = some u)) ∧ CallR Tryz.prog 54 #[.pointer (some (p29.add 89)), .int .u64 y32, .agg #[.int .i64 x33, .int .u64 x34, .int .i64 x35, .int .i64 x36, .int .i64 x37, .int .u64 x38, .slice x39p x39n x39c, .int .u64 x40, .int .i64 x41, .int .i64 x42, .slice x43p x43n x43c, .int .u64 x44, .int .u64 x45, .int .u64 x46, .int .u64 x47]] w31 fun v48 w49 => ∃ (y50 : Bool), v48 = .bool y50 ∧ Q (.bool true) w49)
def X23.f (a0 : Option Addr) (a1 : Int) (a2 : Int) (a3 : Int) (w : World) (Q : Value → World → Prop) : Prop := CallR Tryz.prog 57 #[.pointer a0, .int .i64 a1, .int .u64 a2] w fun v1 w2 => ∃ (y3 : Int) (y4 : Int) (y5 : Int) (y6 : Int) (y7 : Int) (y8 : Int) (y9p : Option Addr) (y9n y9c : Nat) (y10 : Int) (y11 : Int) (y12 : Int) (y13p : Option Addr) (y13n y13c : Nat) (y14 : Int) (y15 : Int) (y16 : Int) (y17 : Int) (y18 : Bool), v1 = .tuple #[.agg #[.int .i64 y3, .int .u64 y4, .int .i64 y5, .int .i64 y6, .int .i64 y7, .int .u64 y8, .slice y9p y9n y9c, .int .u64 y10, .int .i64 y11, .int .i64 y12, .slice y13p y13n y13c, .int .u64 y14, .int .u64 y15, .int .u64 y16, .int .u64 y17], .bool y18] ∧ newK w2 #[.int .i64 (0 : Int), .int .u64 (0 : Int), .int .i64 (0 : Int), .int .i64 (0 : Int), .int .i64 (0 : Int), .int .u64 (0 : Int), .slice none 0 0, .int .u64 (0 : Int), .int .i64 (0 : Int), .int .i64 (0 : Int), .slice none 0 0, .int .u64 (0 : Int), .int .u64 (0 : Int), .int .u64 (0 : Int), .int .u64 (0 : Int)] 50 fun g19 w20 => stAll w20 g19 [.int .i64 y3, .int .u64 y4, .int .i64 y5, .int .i64 y6, .int .i64 y7, .int .u64 y8, .slice y9p y9n y9c, .int .u64 y10, .int .i64 y11, .int .i64 y12, .slice y13p y13n y13c, .int .u64 y14, .int .u64 y15, .int .u64 y16, .int .u64 y17] fun w21 => bcase (!y18) (Q (.bool false) w21) (ldI .i64 w21 (g19.add 8) fun x22 => bcase (x22 != (2 : Int)) (Q (.bool false) w21) (X23.j0 Q a0 a1 a2 a3 g19 w21))
def X23.S (Q : Value → World → Prop) : Segs
  | 0, φ, ρ, w => qP (ρ 0) fun t0 => qI .i64 (ρ 1) fun t1 => qI .u64 (ρ 2) fun t2 => qI .i64 (ρ 3) fun t3 => qA (ρ 9) fun t9 => X23.j0 Q t0 t1 t2 t3 t9 w
  | _, _, _, _ => False
noncomputable def X23.an : Ann := (.seq .leaf (.seq .leaf (.seq (.seq .leaf (.cond (.seq .leaf .leaf) .leaf)) (.join 0 (.seq .leaf (.seq (.seq .leaf (.cond (.seq .leaf (.seq .leaf .leaf)) .leaf)) (.seq (.draw [0, 1, 3, 0, 0, 24, 0, 127] [[0, 1, 2, 3, 4, 5, 6, 7]]) (.seq .leaf .leaf))))))))
noncomputable def X23.c : Code := Tryz.f23.body.getD .skip
theorem X23.v (Q : Value → World → Prop) : V Tryz.prog (X23.S Q) X23.an X23.c (retC Tryz.prog Tryz.f23 Q) := ⟨trivial, ⟨trivial, ⟨⟨trivial, ⟨⟨trivial, trivial⟩, trivial⟩⟩, ⟨(by
    intro φ ρ w h
    simp only [X23.S] at h
    obtain ⟨t0, e0, h⟩ := qP_elim h
    obtain ⟨t1, e1, h⟩ := qI_elim h
    obtain ⟨t2, e2, h⟩ := qI_elim h
    obtain ⟨t3, e3, h⟩ := qI_elim h
    obtain ⟨t9, e9, h⟩ := qA_elim h
    exact ⟨(((((Env.nil.put (some 0) (.pointer t0)).put (some 1) (.int .i64 t1)).put (some 2) (.int .u64 t2)).put (some 3) (.int .i64 t3)).put (some 9) (.pointer (some t9))), Env.le_put e9 (Env.le_put e3 (Env.le_put e2 (Env.le_put e1 (Env.le_put e0 (Env.le_nil _))))), Eq.mp (by kernel_rfl) h⟩), ⟨trivial, ⟨⟨trivial, ⟨⟨trivial, ⟨trivial, trivial⟩⟩, trivial⟩⟩, ⟨trivial, ⟨trivial, trivial⟩⟩⟩⟩⟩⟩⟩⟩
theorem X23.sound (a0 : Option Addr) (a1 : Int) (a2 : Int) (a3 : Int) (w : World) (Q : Value → World → Prop) (h : X23.f a0 a1 a2 a3 w Q) : CallR Tryz.prog 23 #[.pointer a0, .int .i64 a1, .int .u64 a2, .int .i64 a3] w Q :=
  fn_sound noGr mixed Tryz.func23 (c := X23.c) (an := X23.an) (S := X23.S Q) (φ := fun _ => 0) (args := [.pointer a0, .int .i64 a1, .int .u64 a2, .int .i64 a3]) (by kernel_rfl) (by kernel_rfl) (by kernel_rfl) (X23.v Q) (Eq.mp (by kernel_rfl) h)
/-! ### (*mooring/mooringref20.Calls).Await: function 24 -/
def X24.j0 (Q : Value → World → Prop) (t0 : Option Addr) (t1 : Int) (t2 : Int) (t3 : Int) (t8 : Addr) (t11 : Addr) (t20 : Bool) (w : World) : Prop := bcase t20 (stAll w t8 [.int .i64 (0 : Int), .int .u64 (0 : Int), .int .i64 (0 : Int), .int .i64 (0 : Int), .int .i64 (0 : Int), .int .u64 (0 : Int), .slice none 0 0, .int .u64 (0 : Int), .int .i64 (0 : Int), .int .i64 (0 : Int), .slice none 0 0, .int .u64 (0 : Int), .int .u64 (0 : Int), .int .u64 (0 : Int), .int .u64 (0 : Int)] fun w1 => ldI .i64 w1 (t8.add 0) fun x2 => ldI .u64 w1 (t8.add 1) fun x3 => ldI .i64 w1 (t8.add 2) fun x4 => ldI .i64 w1 (t8.add 3) fun x5 => ldI .i64 w1 (t8.add 4) fun x6 => ldI .u64 w1 (t8.add 5) fun x7 => ldSl w1 (t8.add 6) fun x8p x8n x8c => ldI .u64 w1 (t8.add 7) fun x9 => ldI .i64 w1 (t8.add 8) fun x10 => ldI .i64 w1 (t8.add 9) fun x11 => ldSl w1 (t8.add 10) fun x12p x12n x12c => ldI .u64 w1 (t8.add 11) fun x13 => ldI .u64 w1 (t8.add 12) fun x14 => ldI .u64 w1 (t8.add 13) fun x15 => ldI .u64 w1 (t8.add 14) fun x16 => Q (.tuple #[.agg #[.int .i64 x2, .int .u64 x3, .int .i64 x4, .int .i64 x5, .int .i64 x6, .int .u64 x7, .slice x8p x8n x8c, .int .u64 x9, .int .i64 x10, .int .i64 x11, .slice x12p x12n x12c, .int .u64 x13, .int .u64 x14, .int .u64 x15, .int .u64 x16], .bool false, .int .i64 (5 : Int)]) w1) (ldI .i64 w (t11.add 8) fun x17 => bcase (x17 == (3 : Int)) (drewK w fun w18 => optP t0 fun p19 => CallR Tryz.prog 58 #[.int .i64 t1, .int .u64 t2] w18 fun v20 w21 => ∃ (y22 : Int), v20 = .int .u64 y22 ∧ CallR Tryz.prog 59 #[.pointer (some (p19.add 89)), .int .u64 y22] w21 fun v23 w24 => ∃ (y25 : Bool), v23 = .bool y25 ∧ ldI .i64 w24 (t11.add 0) fun x26 => ldI .u64 w24 (t11.add 1) fun x27 => ldI .i64 w24 (t11.add 2) fun x28 => ldI .i64 w24 (t11.add 3) fun x29 => ldI .i64 w24 (t11.add 4) fun x30 => ldI .u64 w24 (t11.add 5) fun x31 => ldSl w24 (t11.add 6) fun x32p x32n x32c => ldI .u64 w24 (t11.add 7) fun x33 => ldI .i64 w24 (t11.add 8) fun x34 => ldI .i64 w24 (t11.add 9) fun x35 => ldSl w24 (t11.add 10) fun x36p x36n x36c => ldI .u64 w24 (t11.add 11) fun x37 => ldI .u64 w24 (t11.add 12) fun x38 => ldI .u64 w24 (t11.add 13) fun x39 => ldI .u64 w24 (t11.add 14) fun x40 => CallR Tryz.prog 51 #[.agg #[.int .i64 x26, .int .u64 x27, .int .i64 x28, .int .i64 x29, .int .i64 x30, .int .u64 x31, .slice x32p x32n x32c, .int .u64 x33, .int .i64 x34, .int .i64 x35, .slice x36p x36n x36c, .int .u64 x37, .int .u64 x38, .int .u64 x39, .int .u64 x40]] w24 fun v41 w42 => ∃ (y43 : Int) (y44 : Int) (y45 : Int) (y46 : Int) (y47 : Int) (y48 : Int) (y49p : Option Addr) (y49n y49c : Nat) (y50 : Int) (y51 : Int) (y52 : Int) (y53p : Option Addr) (y53n y53c : Nat) (y54 : Int) (y55 : Int) (y56 : Int) (y57 : Int), v41 = .agg #[.int .i64 y43, .int .u64 y44, .int .i64 y45, .int .i64 y46, .int .i64 y47, .int .u64 y48, .slice y49p y49n y49c, .int .u64 y50, .int .i64 y51, .int .i64 y52, .slice y53p y53n y53c, .int .u64 y54, .int .u64 y55, .int .u64 y56, .int .u64 y57] ∧ stAll w42 t8 [.int .i64 y43, .int .u64 y44, .int .i64 y45, .int .i64 y46, .int .i64 y47, .int .u64 y48, .slice y49p y49n y49c, .int .u64 y50, .int .i64 y51, .int .i64 y52, .slice y53p y53n y53c, .int .u64 y54, .int .u64 y55, .int .u64 y56, .int .u64 y57] fun w58 => ldI .i64 w58 (t8.add 0) fun x59 => ldI .u64 w58 (t8.add 1) fun x60 => ldI .i64 w58 (t8.add 2) fun x61 => ldI .i64 w58 (t8.add 3) fun x62 => ldI .i64 w58 (t8.add 4) fun x63 => ldI .u64 w58 (t8.add 5) fun x64 => ldSl w58 (t8.add 6) fun x65p x65n x65c => ldI .u64 w58 (t8.add 7) fun x66 => ldI .i64 w58 (t8.add 8) fun x67 => ldI .i64 w58 (t8.add 9) fun x68 => ldSl w58 (t8.add 10) fun x69p x69n x69c => ldI .u64 w58 (t8.add 11) fun x70 => ldI .u64 w58 (t8.add 12) fun x71 => ldI .u64 w58 (t8.add 13) fun x72 => ldI .u64 w58 (t8.add 14) fun x73 => Q (.tuple #[.agg #[.int .i64 x59, .int .u64 x60, .int .i64 x61, .int .i64 x62, .int .i64 x63, .int .u64 x64, .slice x65p x65n x65c, .int .u64 x66, .int .i64 x67, .int .i64 x68, .slice x69p x69n x69c, .int .u64 x70, .int .u64 x71, .int .u64 x72, .int .u64 x73], .bool false, .int .i64 (0 : Int)]) w58) (drewK w fun w74 => ldI .u64 w74 (t11.add 14) fun x75 => optP t0 fun p76 => ldI .u64 w74 ((p76.add 0).add 16) fun x77 => CallR Tryz.prog 52 #[.int .u64 x75, .int .u64 x77, .int .u64 t3] w74 fun v78 w79 => ∃ (y80 : Bool), v78 = .bool y80 ∧ bcase (!y80) (stAll w79 t8 [.int .i64 (0 : Int), .int .u64 (0 : Int), .int .i64 (0 : Int), .int .i64 (0 : Int), .int .i64 (0 : Int), .int .u64 (0 : Int), .slice none 0 0, .int .u64 (0 : Int), .int .i64 (0 : Int), .int .i64 (0 : Int), .slice none 0 0, .int .u64 (0 : Int), .int .u64 (0 : Int), .int .u64 (0 : Int), .int .u64 (0 : Int)] fun w81 => ldI .i64 w81 (t8.add 0) fun x82 => ldI .u64 w81 (t8.add 1) fun x83 => ldI .i64 w81 (t8.add 2) fun x84 => ldI .i64 w81 (t8.add 3) fun x85 => ldI .i64 w81 (t8.add 4) fun x86 => ldI .u64 w81 (t8.add 5) fun x87 => ldSl w81 (t8.add 6) fun x88p x88n x88c => ldI .u64 w81 (t8.add 7) fun x89 => ldI .i64 w81 (t8.add 8) fun x90 => ldI .i64 w81 (t8.add 9) fun x91 => ldSl w81 (t8.add 10) fun x92p x92n x92c => ldI .u64 w81 (t8.add 11) fun x93 => ldI .u64 w81 (t8.add 12) fun x94 => ldI .u64 w81 (t8.add 13) fun x95 => ldI .u64 w81 (t8.add 14) fun x96 => Q (.tuple #[.agg #[.int .i64 x82, .int .u64 x83, .int .i64 x84, .int .i64 x85, .int .i64 x86, .int .u64 x87, .slice x88p x88n x88c, .int .u64 x89, .int .i64 x90, .int .i64 x91, .slice x92p x92n x92c, .int .u64 x93, .int .u64 x94, .int .u64 x95, .int .u64 x96], .bool false, .int .i64 (8 : Int)]) w81) (ldI .i64 w79 (t11.add 8) fun x97 => bcase (x97 == (2 : Int)) (drewK w79 fun w98 => optP t0 fun p99 => CallR Tryz.prog 58 #[.int .i64 t1, .int .u64 t2] w98 fun v100 w101 => ∃ (y102 : Int), v100 = .int .u64 y102 ∧ CallR Tryz.prog 59 #[.pointer (some (p99.add 89)), .int .u64 y102] w101 fun v103 w104 => ∃ (y105 : Bool), v103 = .bool y105 ∧ stAll w104 t8 [.int .i64 (0 : Int), .int .u64 (0 : Int), .int .i64 (0 : Int), .int .i64 (0 : Int), .int .i64 (0 : Int), .int .u64 (0 : Int), .slice none 0 0, .int .u64 (0 : Int), .int .i64 (0 : Int), .int .i64 (0 : Int), .slice none 0 0, .int .u64 (0 : Int), .int .u64 (0 : Int), .int .u64 (0 : Int), .int .u64 (0 : Int)] fun w106 => ldI .i64 w106 (t8.add 0) fun x107 => ldI .u64 w106 (t8.add 1) fun x108 => ldI .i64 w106 (t8.add 2) fun x109 => ldI .i64 w106 (t8.add 3) fun x110 => ldI .i64 w106 (t8.add 4) fun x111 => ldI .u64 w106 (t8.add 5) fun x112 => ldSl w106 (t8.add 6) fun x113p x113n x113c => ldI .u64 w106 (t8.add 7) fun x114 => ldI .i64 w106 (t8.add 8) fun x115 => ldI .i64 w106 (t8.add 9) fun x116 => ldSl w106 (t8.add 10) fun x117p x117n x117c => ldI .u64 w106 (t8.add 11) fun x118 => ldI .u64 w106 (t8.add 12) fun x119 => ldI .u64 w106 (t8.add 13) fun x120 => ldI .u64 w106 (t8.add 14) fun x121 => Q (.tuple #[.agg #[.int .i64 x107, .int .u64 x108, .int .i64 x109, .int .i64 x110, .int .i64 x111, .int .u64 x112, .slice x113p x113n x113c, .int .u64 x114, .int .i64 x115, .int .i64 x116, .slice x117p x117n x117c, .int .u64 x118, .int .u64 x119, .int .u64 x120, .int .u64 x121], .bool true, .int .i64 (3 : Int)]) w106) (stK w79 (t11.add 8) (.int .i64 (4 : Int)) fun w122 => drewK w122 fun w123 => optP t0 fun p124 => CallR Tryz.prog 58 #[.int .i64 t1, .int .u64 t2] w123 fun v125 w126 => ∃ (y127 : Int), v125 = .int .u64 y127 ∧ ldI .i64 w126 (t11.add 0) fun x128 => ldI .u64 w126 (t11.add 1) fun x129 => ldI .i64 w126 (t11.add 2) fun x130 => ldI .i64 w126 (t11.add 3) fun x131 => ldI .i64 w126 (t11.add 4) fun x132 => ldI .u64 w126 (t11.add 5) fun x133 => ldSl w126 (t11.add 6) fun x134p x134n x134c => ldI .u64 w126 (t11.add 7) fun x135 => ldI .i64 w126 (t11.add 8) fun x136 => ldI .i64 w126 (t11.add 9) fun x137 => ldSl w126 (t11.add 10) fun x138p x138n x138c => ldI .u64 w126 (t11.add 11) fun x139 => ldI .u64 w126 (t11.add 12) fun x140 => ldI .u64 w126 (t11.add 13) fun x141 => ldI .u64 w126 (t11.add 14) fun x142 => ((∀ j u, ([.int .i64 x128, .int .u64 x129, .int .i64 x130, .int .i64 x131, .int .i64 x132, .int .u64 x133, .slice x134p x134n x134c, .int .u64 x135, .int .i64 x136, .int .i64 x137, .slice x138p x138n x138c, .int .u64 x139, .int .u64 x140, .int .u64 x141, .int .u64 x142] : List Value)[j]? = some u → World.cell? w123 (t11.add j) = some u) ∧ (∀ j u, ([.int .i64 x128, .int .u64 x129, .int .i64 x130, .int .i64 x131, .int .i64 x132, .int .u64 x133, .slice x134p x134n x134c, .int .u64 x135, .int .i64 x136, .int .i64 x137, .slice x138p x138n x138c, .int .u64 x139, .int .u64 x140, .int .u64 x141, .int .u64 x142] : List Value)[j]? = some u → World.cell? w126 (t11.add j) = some u)) ∧ CallR Tryz.prog 54 #[.pointer (some (p124.add 89)), .int .u64 y127, .agg #[.int .i64 x128, .int .u64 x129, .int .i64 x130, .int .i64 x131, .int .i64 x132, .int .u64 x133, .slice x134p x134n x134c, .int .u64 x135, .int .i64 x136, .int .i64 x137, .slice x138p x138n x138c, .int .u64 x139, .int .u64 x140, .int .u64 x141, .int .u64 x142]] w126 fun v143 w144 => ∃ (y145 : Bool), v143 = .bool y145 ∧ stAll w144 t8 [.int .i64 (0 : Int), .int .u64 (0 : Int), .int .i64 (0 : Int), .int .i64 (0 : Int), .int .i64 (0 : Int), .int .u64 (0 : Int), .slice none 0 0, .int .u64 (0 : Int), .int .i64 (0 : Int), .int .i64 (0 : Int), .slice none 0 0, .int .u64 (0 : Int), .int .u64 (0 : Int), .int .u64 (0 : Int), .int .u64 (0 : Int)] fun w146 => ldI .i64 w146 (t8.add 0) fun x147 => ldI .u64 w146 (t8.add 1) fun x148 => ldI .i64 w146 (t8.add 2) fun x149 => ldI .i64 w146 (t8.add 3) fun x150 => ldI .i64 w146 (t8.add 4) fun x151 => ldI .u64 w146 (t8.add 5) fun x152 => ldSl w146 (t8.add 6) fun x153p x153n x153c => ldI .u64 w146 (t8.add 7) fun x154 => ldI .i64 w146 (t8.add 8) fun x155 => ldI .i64 w146 (t8.add 9) fun x156 => ldSl w146 (t8.add 10) fun x157p x157n x157c => ldI .u64 w146 (t8.add 11) fun x158 => ldI .u64 w146 (t8.add 12) fun x159 => ldI .u64 w146 (t8.add 13) fun x160 => ldI .u64 w146 (t8.add 14) fun x161 => Q (.tuple #[.agg #[.int .i64 x147, .int .u64 x148, .int .i64 x149, .int .i64 x150, .int .i64 x151, .int .u64 x152, .slice x153p x153n x153c, .int .u64 x154, .int .i64 x155, .int .i64 x156, .slice x157p x157n x157c, .int .u64 x158, .int .u64 x159, .int .u64 x160, .int .u64 x161], .bool false, .int .i64 (3 : Int)]) w146))))
def X24.f (a0 : Option Addr) (a1 : Int) (a2 : Int) (a3 : Int) (w : World) (Q : Value → World → Prop) : Prop := newK w #[.int .i64 (0 : Int), .int .u64 (0 : Int), .int .i64 (0 : Int), .int .i64 (0 : Int), .int .i64 (0 : Int), .int .u64 (0 : Int), .slice none 0 0, .int .u64 (0 : Int), .int .i64 (0 : Int), .int .i64 (0 : Int), .slice none 0 0, .int .u64 (0 : Int), .int .u64 (0 : Int), .int .u64 (0 : Int), .int .u64 (0 : Int)] 50 fun g1 w2 => CallR Tryz.prog 57 #[.pointer a0, .int .i64 a1, .int .u64 a2] w2 fun v3 w4 => ∃ (y5 : Int) (y6 : Int) (y7 : Int) (y8 : Int) (y9 : Int) (y10 : Int) (y11p : Option Addr) (y11n y11c : Nat) (y12 : Int) (y13 : Int) (y14 : Int) (y15p : Option Addr) (y15n y15c : Nat) (y16 : Int) (y17 : Int) (y18 : Int) (y19 : Int) (y20 : Bool), v3 = .tuple #[.agg #[.int .i64 y5, .int .u64 y6, .int .i64 y7, .int .i64 y8, .int .i64 y9, .int .u64 y10, .slice y11p y11n y11c, .int .u64 y12, .int .i64 y13, .int .i64 y14, .slice y15p y15n y15c, .int .u64 y16, .int .u64 y17, .int .u64 y18, .int .u64 y19], .bool y20] ∧ newK w4 #[.int .i64 (0 : Int), .int .u64 (0 : Int), .int .i64 (0 : Int), .int .i64 (0 : Int), .int .i64 (0 : Int), .int .u64 (0 : Int), .slice none 0 0, .int .u64 (0 : Int), .int .i64 (0 : Int), .int .i64 (0 : Int), .slice none 0 0, .int .u64 (0 : Int), .int .u64 (0 : Int), .int .u64 (0 : Int), .int .u64 (0 : Int)] 50 fun g21 w22 => stAll w22 g21 [.int .i64 y5, .int .u64 y6, .int .i64 y7, .int .i64 y8, .int .i64 y9, .int .u64 y10, .slice y11p y11n y11c, .int .u64 y12, .int .i64 y13, .int .i64 y14, .slice y15p y15n y15c, .int .u64 y16, .int .u64 y17, .int .u64 y18, .int .u64 y19] fun w23 => bcase (!y20) (X24.j0 Q a0 a1 a2 a3 g1 g21 true w23) (ldI .i64 w23 (g21.add 8) fun x24 => X24.j0 Q a0 a1 a2 a3 g1 g21 (x24 == (4 : Int)) w23)
def X24.S (Q : Value → World → Prop) : Segs
  | 0, φ, ρ, w => qP (ρ 0) fun t0 => qI .i64 (ρ 1) fun t1 => qI .u64 (ρ 2) fun t2 => qI .u64 (ρ 3) fun t3 => qA (ρ 8) fun t8 => qA (ρ 11) fun t11 => qB (ρ 20) fun t20 => X24.j0 Q t0 t1 t2 t3 t8 t11 t20 w
  | _, _, _, _ => False
noncomputable def X24.an : Ann := (.seq .leaf (.seq .leaf (.seq (.block (.seq .leaf (.join 0 (.cond (.seq .leaf .leaf) (.seq .leaf (.cond (.seq (.draw [0, 1, 3, 0, 0, 24, 63] [[0, 1, 2, 3, 4, 5, 6]]) (.seq .leaf .leaf)) (.seq (.draw [0, 1, 0, 4, 12, 28, 60, 0, 255, 511, 1023] [[0, 1, 2, 3, 4, 5, 6, 7, 8, 9, 10]]) (.cond (.seq .leaf .leaf) (.seq .leaf (.cond (.seq (.draw [0, 1, 3, 0, 0, 24, 63] [[0, 1, 2, 3, 4, 5, 6]]) (.seq .leaf .leaf)) .leaf)))))))))) (.seq .leaf (.seq (.draw [0, 1, 3, 0, 0, 24, 0, 127] [[0, 1, 2, 3, 4, 5, 6, 7]]) (.seq .leaf .leaf))))))
noncomputable def X24.c : Code := Tryz.f24.body.getD .skip
theorem X24.v (Q : Value → World → Prop) : V Tryz.prog (X24.S Q) X24.an X24.c (retC Tryz.prog Tryz.f24 Q) := ⟨trivial, ⟨trivial, ⟨⟨trivial, ⟨(by
    intro φ ρ w h
    simp only [X24.S] at h
    obtain ⟨t0, e0, h⟩ := qP_elim h
    obtain ⟨t1, e1, h⟩ := qI_elim h
    obtain ⟨t2, e2, h⟩ := qI_elim h
    obtain ⟨t3, e3, h⟩ := qI_elim h
    obtain ⟨t8, e8, h⟩ := qA_elim h
    obtain ⟨t11, e11, h⟩ := qA_elim h
    obtain ⟨t20, e20, h⟩ := qB_elim h
    exact ⟨(((((((Env.nil.put (some 0) (.pointer t0)).put (some 1) (.int .i64 t1)).put (some 2) (.int .u64 t2)).put (some 3) (.int .u64 t3)).put (some 8) (.pointer (some t8))).put (some 11) (.pointer (some t11))).put (some 20) (.bool t20)), Env.le_put e20 (Env.le_put e11 (Env.le_put e8 (Env.le_put e3 (Env.le_put e2 (Env.le_put e1 (Env.le_put e0 (Env.le_nil _))))))), Eq.mp (by kernel_rfl) h⟩), ⟨⟨trivial, trivial⟩, ⟨trivial, ⟨⟨trivial, ⟨trivial, trivial⟩⟩, ⟨trivial, ⟨⟨trivial, trivial⟩, ⟨trivial, ⟨⟨trivial, ⟨trivial, trivial⟩⟩, trivial⟩⟩⟩⟩⟩⟩⟩⟩⟩, ⟨trivial, ⟨trivial, ⟨trivial, trivial⟩⟩⟩⟩⟩⟩
theorem X24.sound (a0 : Option Addr) (a1 : Int) (a2 : Int) (a3 : Int) (w : World) (Q : Value → World → Prop) (h : X24.f a0 a1 a2 a3 w Q) : CallR Tryz.prog 24 #[.pointer a0, .int .i64 a1, .int .u64 a2, .int .u64 a3] w Q :=
  fn_sound noGr mixed Tryz.func24 (c := X24.c) (an := X24.an) (S := X24.S Q) (φ := fun _ => 0) (args := [.pointer a0, .int .i64 a1, .int .u64 a2, .int .u64 a3]) (by kernel_rfl) (by kernel_rfl) (by kernel_rfl) (X24.v Q) (Eq.mp (by kernel_rfl) h)
/-! ### mooring/mooringref2.within: function 80 -/
def X80.f (a0 : Int) (a1 : Int) (a2 : Int) (w : World) (Q : Value → World → Prop) : Prop := bcase (decide (a0 ≥ a1)) (Q (.bool (decide (a0 ≤ a2))) w) (Q (.bool false) w)
def X80.S (Q : Value → World → Prop) : Segs
  | _, _, _, _ => False
noncomputable def X80.an : Ann := (.seq .leaf (.seq .leaf .leaf))
noncomputable def X80.c : Code := Tryz.f80.body.getD .skip
theorem X80.v (Q : Value → World → Prop) : V Tryz.prog (X80.S Q) X80.an X80.c (retC Tryz.prog Tryz.f80 Q) := ⟨trivial, ⟨trivial, trivial⟩⟩
theorem X80.sound (a0 : Int) (a1 : Int) (a2 : Int) (w : World) (Q : Value → World → Prop) (h : X80.f a0 a1 a2 w Q) : CallR Tryz.prog 80 #[.int .i64 a0, .int .i64 a1, .int .i64 a2] w Q :=
  fn_sound noGr mixed Tryz.func80 (c := X80.c) (an := X80.an) (S := X80.S Q) (φ := fun _ => 0) (args := [.int .i64 a0, .int .i64 a1, .int .i64 a2]) (by kernel_rfl) (by kernel_rfl) (by kernel_rfl) (X80.v Q) (Eq.mp (by kernel_rfl) h)
/-! ### mooring/mooringref2.numbers: function 81 -/
def X81.j0 (Q : Value → World → Prop) (t1 : Addr) (t3 : Int) (w : World) : Prop := CallR Tryz.prog 83 #[.int .i64 t3, .string (⟨#[118, 97, 108, 117, 101]⟩ : ByteArray)] w fun v1 w2 => ∃ (y3 : Bool), v1 = .bool y3 ∧ bcase y3 (CallR Tryz.prog 83 #[.int .i64 t3, .string (⟨#[97, 116]⟩ : ByteArray)] w2 fun v4 w5 => ∃ (y6 : Bool), v4 = .bool y6 ∧ bcase y6 (CallR Tryz.prog 83 #[.int .i64 t3, .string (⟨#[115, 116, 97, 109, 112]⟩ : ByteArray)] w5 fun v7 w8 => ∃ (y9 : Bool), v7 = .bool y9 ∧ bcase y9 (Q (.bool true) w8) (ldI .u64 w8 (t1.add 17) fun x10 => Q (.bool (x10 == (0 : Int))) w8)) (ldI .u64 w5 (t1.add 15) fun x11 => bcase (x11 == (0 : Int)) (CallR Tryz.prog 83 #[.int .i64 t3, .string (⟨#[115, 116, 97, 109, 112]⟩ : ByteArray)] w5 fun v12 w13 => ∃ (y14 : Bool), v12 = .bool y14 ∧ bcase y14 (Q (.bool true) w13) (ldI .u64 w13 (t1.add 17) fun x15 => Q (.bool (x15 == (0 : Int))) w13)) (Q (.bool false) w5))) (ldI .u64 w2 (t1.add 11) fun x16 => bcase (x16 == (0 : Int)) (CallR Tryz.prog 83 #[.int .i64 t3, .string (⟨#[97, 116]⟩ : ByteArray)] w2 fun v17 w18 => ∃ (y19 : Bool), v17 = .bool y19 ∧ bcase y19 (CallR Tryz.prog 83 #[.int .i64 t3, .string (⟨#[115, 116, 97, 109, 112]⟩ : ByteArray)] w18 fun v20 w21 => ∃ (y22 : Bool), v20 = .bool y22 ∧ bcase y22 (Q (.bool true) w21) (ldI .u64 w21 (t1.add 17) fun x23 => Q (.bool (x23 == (0 : Int))) w21)) (ldI .u64 w18 (t1.add 15) fun x24 => bcase (x24 == (0 : Int)) (CallR Tryz.prog 83 #[.int .i64 t3, .string (⟨#[115, 116, 97, 109, 112]⟩ : ByteArray)] w18 fun v25 w26 => ∃ (y27 : Bool), v25 = .bool y27 ∧ bcase y27 (Q (.bool true) w26) (ldI .u64 w26 (t1.add 17) fun x28 => Q (.bool (x28 == (0 : Int))) w26)) (Q (.bool false) w18))) (Q (.bool false) w2))
def X81.j1 (Q : Value → World → Prop) (t1 : Addr) (t3 : Int) (w : World) : Prop := CallR Tryz.prog 83 #[.int .i64 t3, .string (⟨#[102, 108, 111, 111, 114]⟩ : ByteArray)] w fun v1 w2 => ∃ (y3 : Bool), v1 = .bool y3 ∧ bcase y3 (ldI .u64 w2 (t1.add 4) fun x4 => bcase (decide (x4 < (1 : Int))) (Q (.bool false) w2) (ldI .u64 w2 (t1.add 4) fun x5 => ldI .u64 w2 (t1.add 3) fun x6 => bcase (decide (x5 > x6)) (Q (.bool false) w2) (CallR Tryz.prog 83 #[.int .i64 t3, .string (⟨#[102, 108, 111, 111, 114]⟩ : ByteArray)] w2 fun v7 w8 => ∃ (y9 : Bool), v7 = .bool y9 ∧ bcase (!y9) (ldI .u64 w8 (t1.add 4) fun x10 => bcase (x10 != (0 : Int)) (Q (.bool false) w8) (X81.j0 Q t1 t3 w8)) (X81.j0 Q t1 t3 w8)))) (CallR Tryz.prog 83 #[.int .i64 t3, .string (⟨#[102, 108, 111, 111, 114]⟩ : ByteArray)] w2 fun v11 w12 => ∃ (y13 : Bool), v11 = .bool y13 ∧ bcase (!y13) (ldI .u64 w12 (t1.add 4) fun x14 => bcase (x14 != (0 : Int)) (Q (.bool false) w12) (X81.j0 Q t1 t3 w12)) (X81.j0 Q t1 t3 w12))
def X81.j2 (Q : Value → World → Prop) (t1 : Addr) (t3 : Int) (w : World) : Prop := drewK w fun w1 => CallR Tryz.prog 83 #[.int .i64 t3, .string (⟨#[115, 101, 113]⟩ : ByteArray)] w1 fun v2 w3 => ∃ (y4 : Bool), v2 = .bool y4 ∧ ldI .u64 w3 (t1.add 13) fun x5 => (World.cell? w1 (t1.add 13) = some (.int .u64 x5) ∧ World.cell? w3 (t1.add 13) = some (.int .u64 x5)) ∧ CallR Tryz.prog 97 #[.bool y4, .int .u64 x5] w3 fun v6 w7 => ∃ (y8 : Bool), v6 = .bool y8 ∧ bcase (!y8) (Q (.bool false) w7) (CallR Tryz.prog 83 #[.int .i64 t3, .string (⟨#[118, 111, 117, 99, 104, 101, 114]⟩ : ByteArray)] w7 fun v9 w10 => ∃ (y11 : Bool), v9 = .bool y11 ∧ ldI .i64 w10 (t1.add 14) fun x12 => (World.cell? w7 (t1.add 14) = some (.int .i64 x12) ∧ World.cell? w10 (t1.add 14) = some (.int .i64 x12)) ∧ CallR Tryz.prog 98 #[.bool y11, .int .i64 x12, .int .i64 (1 : Int), .int .i64 (64 : Int)] w10 fun v13 w14 => ∃ (y15 : Bool), v13 = .bool y15 ∧ bcase (!y15) (Q (.bool false) w14) (CallR Tryz.prog 83 #[.int .i64 t3, .string (⟨#[100, 105, 115, 116]⟩ : ByteArray)] w14 fun v16 w17 => ∃ (y18 : Bool), v16 = .bool y18 ∧ ldI .i64 w17 (t1.add 16) fun x19 => (World.cell? w14 (t1.add 16) = some (.int .i64 x19) ∧ World.cell? w17 (t1.add 16) = some (.int .i64 x19)) ∧ CallR Tryz.prog 98 #[.bool y18, .int .i64 x19, .int .i64 (1 : Int), .int .i64 (40 : Int)] w17 fun v20 w21 => ∃ (y22 : Bool), v20 = .bool y22 ∧ bcase (!y22) (Q (.bool false) w21) (X81.j1 Q t1 t3 w21)))
def X81.j3 (Q : Value → World → Prop) (t1 : Addr) (t3 : Int) (t4 : Int) (t5 : Int) (w : World) : Prop := drewK w fun w1 => CallR Tryz.prog 83 #[.int .i64 t3, .string (⟨#[99, 97, 108, 108]⟩ : ByteArray)] w1 fun v2 w3 => ∃ (y4 : Bool), v2 = .bool y4 ∧ ldI .u64 w3 (t1.add 3) fun x5 => (World.cell? w1 (t1.add 3) = some (.int .u64 x5) ∧ World.cell? w3 (t1.add 3) = some (.int .u64 x5)) ∧ CallR Tryz.prog 97 #[.bool y4, .int .u64 x5] w3 fun v6 w7 => ∃ (y8 : Bool), v6 = .bool y8 ∧ bcase (!y8) (Q (.bool false) w7) (CallR Tryz.prog 83 #[.int .i64 t3, .string (⟨#[111, 112]⟩ : ByteArray)] w7 fun v9 w10 => ∃ (y11 : Bool), v9 = .bool y11 ∧ ldI .i64 w10 (t1.add 5) fun x12 => (World.cell? w7 (t1.add 5) = some (.int .i64 x12) ∧ World.cell? w10 (t1.add 5) = some (.int .i64 x12)) ∧ CallR Tryz.prog 98 #[.bool y11, .int .i64 x12, .int .i64 (1 : Int), .int .i64 t4] w10 fun v13 w14 => ∃ (y15 : Bool), v13 = .bool y15 ∧ bcase (!y15) (Q (.bool false) w14) (CallR Tryz.prog 83 #[.int .i64 t3, .string (⟨#[102, 105, 101, 108, 100]⟩ : ByteArray)] w14 fun v16 w17 => ∃ (y18 : Bool), v16 = .bool y18 ∧ ldI .i64 w17 (t1.add 6) fun x19 => (World.cell? w14 (t1.add 6) = some (.int .i64 x19) ∧ World.cell? w17 (t1.add 6) = some (.int .i64 x19)) ∧ CallR Tryz.prog 98 #[.bool y18, .int .i64 x19, .int .i64 (0 : Int), .int .i64 (63 : Int)] w17 fun v20 w21 => ∃ (y22 : Bool), v20 = .bool y22 ∧ bcase (!y22) (Q (.bool false) w21) (CallR Tryz.prog 83 #[.int .i64 t3, .string (⟨#[105, 116, 101, 109]⟩ : ByteArray)] w21 fun v23 w24 => ∃ (y25 : Bool), v23 = .bool y25 ∧ ldI .i64 w24 (t1.add 7) fun x26 => (World.cell? w21 (t1.add 7) = some (.int .i64 x26) ∧ World.cell? w24 (t1.add 7) = some (.int .i64 x26)) ∧ CallR Tryz.prog 98 #[.bool y25, .int .i64 x26, .int .i64 (0 : Int), .int .i64 (4095 : Int)] w24 fun v27 w28 => ∃ (y29 : Bool), v27 = .bool y29 ∧ bcase (!y29) (Q (.bool false) w28) (CallR Tryz.prog 83 #[.int .i64 t3, .string (⟨#[99, 111, 100, 101]⟩ : ByteArray)] w28 fun v30 w31 => ∃ (y32 : Bool), v30 = .bool y32 ∧ ldI .i64 w31 (t1.add 12) fun x33 => (World.cell? w28 (t1.add 12) = some (.int .i64 x33) ∧ World.cell? w31 (t1.add 12) = some (.int .i64 x33)) ∧ CallR Tryz.prog 98 #[.bool y32, .int .i64 x33, .int .i64 (0 : Int), .int .i64 t5] w31 fun v34 w35 => ∃ (y36 : Bool), v34 = .bool y36 ∧ bcase (!y36) (Q (.bool false) w35) (X81.j2 Q t1 t3 w35)))))
def X81.j4 (Q : Value → World → Prop) (t1 : Addr) (t3 : Int) (t4 : Int) (t5 : Int) (w : World) : Prop := bcase (t3 == (9 : Int)) (X81.j3 Q t1 t3 t4 (2 : Int) w) (X81.j3 Q t1 t3 t4 t5 w)
def X81.f (a0_0 : Int) (a0_1 : Int) (a0_2 : Int) (a0_3 : Int) (a0_4 : Int) (a0_5 : Int) (a0_6 : Int) (a0_7 : Int) (a0_8 : Int) (a0_9 : Int) (a0_10p : Option Addr) (a0_10n : Nat) (a0_10c : Nat) (a0_11 : Int) (a0_12 : Int) (a0_13 : Int) (a0_14 : Int) (a0_15 : Int) (a0_16 : Int) (a0_17 : Int) (a0_18p : Option Addr) (a0_18n : Nat) (a0_18c : Nat) (w : World) (Q : Value → World → Prop) : Prop := newK w #[.int .i64 a0_0, .int .i64 a0_1, .int .i64 a0_2, .int .u64 a0_3, .int .u64 a0_4, .int .i64 a0_5, .int .i64 a0_6, .int .i64 a0_7, .int .i64 a0_8, .int .u64 a0_9, .slice a0_10p a0_10n a0_10c, .int .u64 a0_11, .int .i64 a0_12, .int .u64 a0_13, .int .i64 a0_14, .int .u64 a0_15, .int .i64 a0_16, .int .u64 a0_17, .slice a0_18p a0_18n a0_18c] 63 fun g1 w2 => ldI .i64 w2 (g1.add 0) fun x3 => bcase (x3 == (8 : Int)) (X81.j4 Q g1 x3 (3 : Int) (10 : Int) w2) (X81.j4 Q g1 x3 (6 : Int) (10 : Int) w2)
def X81.S (Q : Value → World → Prop) : Segs
  | 0, φ, ρ, w => qA (ρ 1) fun t1 => qI .i64 (ρ 3) fun t3 => X81.j0 Q t1 t3 w
  | 1, φ, ρ, w => qA (ρ 1) fun t1 => qI .i64 (ρ 3) fun t3 => X81.j1 Q t1 t3 w
  | 2, φ, ρ, w => qA (ρ 1) fun t1 => qI .i64 (ρ 3) fun t3 => X81.j2 Q t1 t3 w
  | 3, φ, ρ, w => qA (ρ 1) fun t1 => qI .i64 (ρ 3) fun t3 => qI .i64 (ρ 4) fun t4 => qI .i64 (ρ 5) fun t5 => X81.j3 Q t1 t3 t4 t5 w
  | 4, φ, ρ, w => qA (ρ 1) fun t1 => qI .i64 (ρ 3) fun t3 => qI .i64 (ρ 4) fun t4 => qI .i64 (ρ 5) fun t5 => X81.j4 Q t1 t3 t4 t5 w
  | _, _, _, _ => False
noncomputable def X81.an : Ann := (.seq .leaf (.seq .leaf (.seq .leaf (.seq .leaf (.seq (.seq .leaf (.cond .leaf .leaf)) (.join 4 (.seq (.seq .leaf (.cond .leaf .leaf)) (.join 3 (.seq (.seq (.draw [0, 1, 0, 4, 15, 31, 63, 127, 255, 127, 639, 127, 4095, 8191, 16383, 32767, 65535, 131071, 65535, 327679, 1048575, 2097151, 4194303, 8388607, 16777215, 33554431, 16777215, 83886079, 268435455, 536870911, 1073741823, 2147483647, 4294967295, 8589934591, 4294967295, 21474836479, 4294967295, 137438953471, 274877906943, 549755813887] [[0, 1, 2, 3, 4, 5, 6, 7, 8, 9, 10, 11, 12, 13, 14, 15, 16, 17, 18, 19, 20, 21, 22, 23, 24, 25, 26, 27, 28, 29, 30, 31, 32, 33, 34, 35, 36, 37, 38, 39]]) (.cond (.seq .leaf .leaf) .leaf)) (.join 2 (.seq (.seq (.draw [0, 1, 0, 4, 15, 31, 63, 127, 255, 127, 639, 2047, 4095, 8191, 16383, 32767, 65535, 32767, 163839, 524287, 1048575, 2097151] [[0, 1, 2, 3, 4, 5, 6, 7, 8, 9, 10, 11, 12, 13, 14, 15, 16, 17, 18, 19, 20, 21]]) (.cond (.seq .leaf .leaf) .leaf)) (.join 1 (.seq (.seq .leaf (.cond (.seq .leaf .leaf) .leaf)) (.join 0 (.seq .leaf .leaf)))))))))))))))
noncomputable def X81.c : Code := Tryz.f81.body.getD .skip
theorem X81.v (Q : Value → World → Prop) : V Tryz.prog (X81.S Q) X81.an X81.c (retC Tryz.prog Tryz.f81 Q) := ⟨trivial, ⟨trivial, ⟨trivial, ⟨trivial, ⟨⟨trivial, ⟨trivial, trivial⟩⟩, ⟨(by
    intro φ ρ w h
    simp only [X81.S] at h
    obtain ⟨t1, e1, h⟩ := qA_elim h
    obtain ⟨t3, e3, h⟩ := qI_elim h
    obtain ⟨t4, e4, h⟩ := qI_elim h
    obtain ⟨t5, e5, h⟩ := qI_elim h
    exact ⟨((((Env.nil.put (some 1) (.pointer (some t1))).put (some 3) (.int .i64 t3)).put (some 4) (.int .i64 t4)).put (some 5) (.int .i64 t5)), Env.le_put e5 (Env.le_put e4 (Env.le_put e3 (Env.le_put e1 (Env.le_nil _)))), Eq.mp (by kernel_rfl) h⟩), ⟨⟨trivial, ⟨trivial, trivial⟩⟩, ⟨(by
    intro φ ρ w h
    simp only [X81.S] at h
    obtain ⟨t1, e1, h⟩ := qA_elim h
    obtain ⟨t3, e3, h⟩ := qI_elim h
    obtain ⟨t4, e4, h⟩ := qI_elim h
    obtain ⟨t5, e5, h⟩ := qI_elim h
    exact ⟨((((Env.nil.put (some 1) (.pointer (some t1))).put (some 3) (.int .i64 t3)).put (some 4) (.int .i64 t4)).put (some 5) (.int .i64 t5)), Env.le_put e5 (Env.le_put e4 (Env.le_put e3 (Env.le_put e1 (Env.le_nil _)))), Eq.mp (by kernel_rfl) h⟩), ⟨⟨trivial, ⟨⟨trivial, trivial⟩, trivial⟩⟩, ⟨(by
    intro φ ρ w h
    simp only [X81.S] at h
    obtain ⟨t1, e1, h⟩ := qA_elim h
    obtain ⟨t3, e3, h⟩ := qI_elim h
    exact ⟨((Env.nil.put (some 1) (.pointer (some t1))).put (some 3) (.int .i64 t3)), Env.le_put e3 (Env.le_put e1 (Env.le_nil _)), Eq.mp (by kernel_rfl) h⟩), ⟨⟨trivial, ⟨⟨trivial, trivial⟩, trivial⟩⟩, ⟨(by
    intro φ ρ w h
    simp only [X81.S] at h
    obtain ⟨t1, e1, h⟩ := qA_elim h
    obtain ⟨t3, e3, h⟩ := qI_elim h
    exact ⟨((Env.nil.put (some 1) (.pointer (some t1))).put (some 3) (.int .i64 t3)), Env.le_put e3 (Env.le_put e1 (Env.le_nil _)), Eq.mp (by kernel_rfl) h⟩), ⟨⟨trivial, ⟨⟨trivial, trivial⟩, trivial⟩⟩, ⟨(by
    intro φ ρ w h
    simp only [X81.S] at h
    obtain ⟨t1, e1, h⟩ := qA_elim h
    obtain ⟨t3, e3, h⟩ := qI_elim h
    exact ⟨((Env.nil.put (some 1) (.pointer (some t1))).put (some 3) (.int .i64 t3)), Env.le_put e3 (Env.le_put e1 (Env.le_nil _)), Eq.mp (by kernel_rfl) h⟩), ⟨trivial, trivial⟩⟩⟩⟩⟩⟩⟩⟩⟩⟩⟩⟩⟩⟩⟩
theorem X81.sound (a0_0 : Int) (a0_1 : Int) (a0_2 : Int) (a0_3 : Int) (a0_4 : Int) (a0_5 : Int) (a0_6 : Int) (a0_7 : Int) (a0_8 : Int) (a0_9 : Int) (a0_10p : Option Addr) (a0_10n : Nat) (a0_10c : Nat) (a0_11 : Int) (a0_12 : Int) (a0_13 : Int) (a0_14 : Int) (a0_15 : Int) (a0_16 : Int) (a0_17 : Int) (a0_18p : Option Addr) (a0_18n : Nat) (a0_18c : Nat) (w : World) (Q : Value → World → Prop) (h : X81.f a0_0 a0_1 a0_2 a0_3 a0_4 a0_5 a0_6 a0_7 a0_8 a0_9 a0_10p a0_10n a0_10c a0_11 a0_12 a0_13 a0_14 a0_15 a0_16 a0_17 a0_18p a0_18n a0_18c w Q) : CallR Tryz.prog 81 #[.agg #[.int .i64 a0_0, .int .i64 a0_1, .int .i64 a0_2, .int .u64 a0_3, .int .u64 a0_4, .int .i64 a0_5, .int .i64 a0_6, .int .i64 a0_7, .int .i64 a0_8, .int .u64 a0_9, .slice a0_10p a0_10n a0_10c, .int .u64 a0_11, .int .i64 a0_12, .int .u64 a0_13, .int .i64 a0_14, .int .u64 a0_15, .int .i64 a0_16, .int .u64 a0_17, .slice a0_18p a0_18n a0_18c]] w Q :=
  fn_sound noGr mixed Tryz.func81 (c := X81.c) (an := X81.an) (S := X81.S Q) (φ := fun _ => 0) (args := [.agg #[.int .i64 a0_0, .int .i64 a0_1, .int .i64 a0_2, .int .u64 a0_3, .int .u64 a0_4, .int .i64 a0_5, .int .i64 a0_6, .int .i64 a0_7, .int .i64 a0_8, .int .u64 a0_9, .slice a0_10p a0_10n a0_10c, .int .u64 a0_11, .int .i64 a0_12, .int .u64 a0_13, .int .i64 a0_14, .int .u64 a0_15, .int .i64 a0_16, .int .u64 a0_17, .slice a0_18p a0_18n a0_18c]]) (by kernel_rfl) (by kernel_rfl) (by kernel_rfl) (X81.v Q) (Eq.mp (by kernel_rfl) h)
/-! ### mooring/mooringref2.target: function 82 -/
def X82.f (a0_0 : Int) (a0_1 : Int) (a0_2 : Int) (a0_3 : Int) (a0_4 : Int) (a0_5 : Int) (a0_6 : Int) (a0_7 : Int) (a0_8 : Int) (a0_9 : Int) (a0_10p : Option Addr) (a0_10n : Nat) (a0_10c : Nat) (a0_11 : Int) (a0_12 : Int) (a0_13 : Int) (a0_14 : Int) (a0_15 : Int) (a0_16 : Int) (a0_17 : Int) (a0_18p : Option Addr) (a0_18n : Nat) (a0_18c : Nat) (w : World) (Q : Value → World → Prop) : Prop := newK w #[.int .i64 a0_0, .int .i64 a0_1, .int .i64 a0_2, .int .u64 a0_3, .int .u64 a0_4, .int .i64 a0_5, .int .i64 a0_6, .int .i64 a0_7, .int .i64 a0_8, .int .u64 a0_9, .slice a0_10p a0_10n a0_10c, .int .u64 a0_11, .int .i64 a0_12, .int .u64 a0_13, .int .i64 a0_14, .int .u64 a0_15, .int .i64 a0_16, .int .u64 a0_17, .slice a0_18p a0_18n a0_18c] 63 fun g1 w2 => ldI .i64 w2 (g1.add 0) fun x3 => CallR Tryz.prog 83 #[.int .i64 x3, .string (⟨#[116, 97, 114, 103, 101, 116]⟩ : ByteArray)] w2 fun v4 w5 => ∃ (y6 : Bool), v4 = .bool y6 ∧ bcase (!y6) (ldI .i64 w5 ((g1.add 8).add 0) fun x7 => ldI .u64 w5 ((g1.add 8).add 1) fun x8 => CallR Tryz.prog 61 #[.agg #[.int .i64 x7, .int .u64 x8]] w5 fun v9 w10 => ∃ (y11 : Bool), v9 = .bool y11 ∧ Q (.bool y11) w10) (ldI .i64 w5 (g1.add 0) fun x12 => bcase (x12 == (1 : Int)) (ldI .i64 w5 (g1.add 5) fun x13 => bcase (x13 == (1 : Int)) (ldI .i64 w5 ((g1.add 8).add 0) fun x14 => ldI .u64 w5 ((g1.add 8).add 1) fun x15 => CallR Tryz.prog 84 #[.agg #[.int .i64 x14, .int .u64 x15]] w5 fun v16 w17 => ∃ (y18 : Bool), v16 = .bool y18 ∧ bcase y18 (ldI .i64 w17 ((g1.add 8).add 0) fun x19 => ldI .u64 w17 ((g1.add 8).add 1) fun x20 => CallR Tryz.prog 61 #[.agg #[.int .i64 x19, .int .u64 x20]] w17 fun v21 w22 => ∃ (y23 : Bool), v21 = .bool y23 ∧ Q (.bool (y23 == true)) w22) (Q (.bool false) w17)) (ldI .i64 w5 (g1.add 5) fun x24 => bcase (x24 == (6 : Int)) (ldI .i64 w5 ((g1.add 8).add 0) fun x25 => ldI .u64 w5 ((g1.add 8).add 1) fun x26 => CallR Tryz.prog 84 #[.agg #[.int .i64 x25, .int .u64 x26]] w5 fun v27 w28 => ∃ (y29 : Bool), v27 = .bool y29 ∧ bcase y29 (ldI .i64 w28 ((g1.add 8).add 0) fun x30 => ldI .u64 w28 ((g1.add 8).add 1) fun x31 => CallR Tryz.prog 61 #[.agg #[.int .i64 x30, .int .u64 x31]] w28 fun v32 w33 => ∃ (y34 : Bool), v32 = .bool y34 ∧ Q (.bool (y34 == true)) w33) (Q (.bool false) w28)) (ldI .i64 w5 (g1.add 0) fun x35 => bcase (x35 == (8 : Int)) (ldI .i64 w5 (g1.add 5) fun x36 => ldI .i64 w5 ((g1.add 8).add 0) fun x37 => ldI .u64 w5 ((g1.add 8).add 1) fun x38 => CallR Tryz.prog 84 #[.agg #[.int .i64 x37, .int .u64 x38]] w5 fun v39 w40 => ∃ (y41 : Bool), v39 = .bool y41 ∧ bcase y41 (ldI .i64 w40 ((g1.add 8).add 0) fun x42 => ldI .u64 w40 ((g1.add 8).add 1) fun x43 => CallR Tryz.prog 61 #[.agg #[.int .i64 x42, .int .u64 x43]] w40 fun v44 w45 => ∃ (y46 : Bool), v44 = .bool y46 ∧ Q (.bool (y46 == (x36 == (3 : Int)))) w45) (Q (.bool false) w40)) (ldI .i64 w5 ((g1.add 8).add 0) fun x47 => ldI .u64 w5 ((g1.add 8).add 1) fun x48 => CallR Tryz.prog 84 #[.agg #[.int .i64 x47, .int .u64 x48]] w5 fun v49 w50 => ∃ (y51 : Bool), v49 = .bool y51 ∧ bcase y51 (ldI .i64 w50 ((g1.add 8).add 0) fun x52 => ldI .u64 w50 ((g1.add 8).add 1) fun x53 => CallR Tryz.prog 61 #[.agg #[.int .i64 x52, .int .u64 x53]] w50 fun v54 w55 => ∃ (y56 : Bool), v54 = .bool y56 ∧ Q (.bool (y56 == false)) w55) (Q (.bool false) w50))))) (ldI .i64 w5 (g1.add 0) fun x57 => bcase (x57 == (8 : Int)) (ldI .i64 w5 (g1.add 5) fun x58 => ldI .i64 w5 ((g1.add 8).add 0) fun x59 => ldI .u64 w5 ((g1.add 8).add 1) fun x60 => CallR Tryz.prog 84 #[.agg #[.int .i64 x59, .int .u64 x60]] w5 fun v61 w62 => ∃ (y63 : Bool), v61 = .bool y63 ∧ bcase y63 (ldI .i64 w62 ((g1.add 8).add 0) fun x64 => ldI .u64 w62 ((g1.add 8).add 1) fun x65 => CallR Tryz.prog 61 #[.agg #[.int .i64 x64, .int .u64 x65]] w62 fun v66 w67 => ∃ (y68 : Bool), v66 = .bool y68 ∧ Q (.bool (y68 == (x58 == (3 : Int)))) w67) (Q (.bool false) w62)) (ldI .i64 w5 ((g1.add 8).add 0) fun x69 => ldI .u64 w5 ((g1.add 8).add 1) fun x70 => CallR Tryz.prog 84 #[.agg #[.int .i64 x69, .int .u64 x70]] w5 fun v71 w72 => ∃ (y73 : Bool), v71 = .bool y73 ∧ bcase y73 (ldI .i64 w72 ((g1.add 8).add 0) fun x74 => ldI .u64 w72 ((g1.add 8).add 1) fun x75 => CallR Tryz.prog 61 #[.agg #[.int .i64 x74, .int .u64 x75]] w72 fun v76 w77 => ∃ (y78 : Bool), v76 = .bool y78 ∧ Q (.bool (y78 == false)) w77) (Q (.bool false) w72))))
def X82.S (Q : Value → World → Prop) : Segs
  | _, _, _, _ => False
noncomputable def X82.an : Ann := (.seq .leaf (.seq (.seq .leaf (.cond (.seq .leaf .leaf) .leaf)) (.seq .leaf (.seq .leaf .leaf))))
noncomputable def X82.c : Code := Tryz.f82.body.getD .skip
theorem X82.v (Q : Value → World → Prop) : V Tryz.prog (X82.S Q) X82.an X82.c (retC Tryz.prog Tryz.f82 Q) := ⟨trivial, ⟨⟨trivial, ⟨⟨trivial, trivial⟩, trivial⟩⟩, ⟨trivial, ⟨trivial, trivial⟩⟩⟩⟩
theorem X82.sound (a0_0 : Int) (a0_1 : Int) (a0_2 : Int) (a0_3 : Int) (a0_4 : Int) (a0_5 : Int) (a0_6 : Int) (a0_7 : Int) (a0_8 : Int) (a0_9 : Int) (a0_10p : Option Addr) (a0_10n : Nat) (a0_10c : Nat) (a0_11 : Int) (a0_12 : Int) (a0_13 : Int) (a0_14 : Int) (a0_15 : Int) (a0_16 : Int) (a0_17 : Int) (a0_18p : Option Addr) (a0_18n : Nat) (a0_18c : Nat) (w : World) (Q : Value → World → Prop) (h : X82.f a0_0 a0_1 a0_2 a0_3 a0_4 a0_5 a0_6 a0_7 a0_8 a0_9 a0_10p a0_10n a0_10c a0_11 a0_12 a0_13 a0_14 a0_15 a0_16 a0_17 a0_18p a0_18n a0_18c w Q) : CallR Tryz.prog 82 #[.agg #[.int .i64 a0_0, .int .i64 a0_1, .int .i64 a0_2, .int .u64 a0_3, .int .u64 a0_4, .int .i64 a0_5, .int .i64 a0_6, .int .i64 a0_7, .int .i64 a0_8, .int .u64 a0_9, .slice a0_10p a0_10n a0_10c, .int .u64 a0_11, .int .i64 a0_12, .int .u64 a0_13, .int .i64 a0_14, .int .u64 a0_15, .int .i64 a0_16, .int .u64 a0_17, .slice a0_18p a0_18n a0_18c]] w Q :=
  fn_sound noGr mixed Tryz.func82 (c := X82.c) (an := X82.an) (S := X82.S Q) (φ := fun _ => 0) (args := [.agg #[.int .i64 a0_0, .int .i64 a0_1, .int .i64 a0_2, .int .u64 a0_3, .int .u64 a0_4, .int .i64 a0_5, .int .i64 a0_6, .int .i64 a0_7, .int .i64 a0_8, .int .u64 a0_9, .slice a0_10p a0_10n a0_10c, .int .u64 a0_11, .int .i64 a0_12, .int .u64 a0_13, .int .i64 a0_14, .int .u64 a0_15, .int .i64 a0_16, .int .u64 a0_17, .slice a0_18p a0_18n a0_18c]]) (by kernel_rfl) (by kernel_rfl) (by kernel_rfl) (X82.v Q) (Eq.mp (by kernel_rfl) h)
/-! ### mooring/mooringref2.Has: function 83 -/
def X83.l0 (Q : Value → World → Prop) : Nat → ByteArray → ByteArray → Int → Int → World → Prop
  | 0, _, _, _, _, _ => False
  | k + 1, t1, t6, t7, t8, w => bcase (decide (t8 ≤ ((t6.size : Nat) : Int))) (bcase (t8 == ((t6.size : Nat) : Int)) ((0 ≤ t7 ∧ t7 ≤ t8 ∧ t8 ≤ ((t6.size : Nat) : Int)) ∧ bcase (strEq (ByteArray.extract t6 (Int.toNat t7) (Int.toNat t8)) t1) (Q (.bool true) w) (X83.l0 Q k t1 t6 (IntKind.wrap .i64 (t8 + (1 : Int))) (IntKind.wrap .i64 (t8 + (1 : Int))) w)) ((0 ≤ t8 ∧ t8 < ((t6.size : Nat) : Int)) ∧ bcase ((byteAt t6 t8) == (32 : Int)) ((0 ≤ t7 ∧ t7 ≤ t8 ∧ t8 ≤ ((t6.size : Nat) : Int)) ∧ bcase (strEq (ByteArray.extract t6 (Int.toNat t7) (Int.toNat t8)) t1) (Q (.bool true) w) (X83.l0 Q k t1 t6 (IntKind.wrap .i64 (t8 + (1 : Int))) (IntKind.wrap .i64 (t8 + (1 : Int))) w)) (X83.l0 Q k t1 t6 t7 (IntKind.wrap .i64 (t8 + (1 : Int))) w))) (Q (.bool false) w)
def X83.j1 (Q : Value → World → Prop) (t0 : Int) (t1 : ByteArray) (t5 : Addr) (w : World) : Prop := (0 ≤ t0 ∧ t0 < ((12 : Nat) : Int)) ∧ ldS w (t5.add (Int.toNat t0 * 1)) fun x1 => ∃ m2, X83.l0 Q m2 t1 x1 (0 : Int) (0 : Int) w
def X83.f (a0 : Int) (a1 : ByteArray) (w : World) (Q : Value → World → Prop) : Prop := newK w #[.string (⟨#[]⟩ : ByteArray), .string (⟨#[]⟩ : ByteArray), .string (⟨#[]⟩ : ByteArray), .string (⟨#[]⟩ : ByteArray), .string (⟨#[]⟩ : ByteArray), .string (⟨#[]⟩ : ByteArray), .string (⟨#[]⟩ : ByteArray), .string (⟨#[]⟩ : ByteArray), .string (⟨#[]⟩ : ByteArray), .string (⟨#[]⟩ : ByteArray), .string (⟨#[]⟩ : ByteArray), .string (⟨#[]⟩ : ByteArray)] 127 fun g1 w2 => stAll w2 g1 [.string (⟨#[]⟩ : ByteArray), .string (⟨#[99, 97, 108, 108, 32, 102, 108, 111, 111, 114, 32, 111, 112, 32, 102, 105, 101, 108, 100, 32, 116, 97, 114, 103, 101, 116, 32, 118, 97, 108, 117, 101, 32, 114, 101, 102, 115]⟩ : ByteArray), .string (⟨#[99, 97, 108, 108, 32, 99, 111, 100, 101, 32, 118, 97, 108, 117, 101, 32, 114, 101, 102, 115]⟩ : ByteArray), .string (⟨#[99, 97, 108, 108]⟩ : ByteArray), .string (⟨#[116, 97, 114, 103, 101, 116, 32, 115, 101, 113, 32, 118, 111, 117, 99, 104, 101, 114, 32, 97, 116, 32, 100, 105, 115, 116]⟩ : ByteArray), .string (⟨#[116, 97, 114, 103, 101, 116, 32, 115, 101, 113, 32, 97, 116, 32, 99, 111, 100, 101]⟩ : ByteArray), .string (⟨#[116, 97, 114, 103, 101, 116, 32, 115, 101, 113]⟩ : ByteArray), .string (⟨#[116, 97, 114, 103, 101, 116, 32, 115, 101, 113]⟩ : ByteArray), .string (⟨#[99, 97, 108, 108, 32, 105, 116, 101, 109, 32, 111, 112, 32, 116, 97, 114, 103, 101, 116]⟩ : ByteArray), .string (⟨#[99, 97, 108, 108, 32, 105, 116, 101, 109, 32, 99, 111, 100, 101, 32, 115, 116, 97, 109, 112, 32, 108, 105, 115, 116]⟩ : ByteArray), .string (⟨#[99, 97, 108, 108, 32, 105, 116, 101, 109, 32, 116, 97, 114, 103, 101, 116, 32, 115, 116, 97, 109, 112]⟩ : ByteArray), .string (⟨#[99, 97, 108, 108, 32, 105, 116, 101, 109]⟩ : ByteArray)] fun w3 => bcase (decide (a0 < (1 : Int))) (Q (.bool false) w3) (bcase (decide (a0 > (11 : Int))) (Q (.bool false) w3) (X83.j1 Q a0 a1 g1 w3))
def X83.S (Q : Value → World → Prop) : Segs
  | 0, φ, ρ, w => qS (ρ 1) fun t1 => qS (ρ 6) fun t6 => qI .i64 (ρ 7) fun t7 => qI .i64 (ρ 8) fun t8 => X83.l0 Q (φ 0) t1 t6 t7 t8 w
  | 1, φ, ρ, w => qI .i64 (ρ 0) fun t0 => qS (ρ 1) fun t1 => qA (ρ 5) fun t5 => X83.j1 Q t0 t1 t5 w
  | _, _, _, _ => False
noncomputable def X83.an : Ann := (.seq .leaf (.seq .leaf (.seq (.seq .leaf (.cond (.seq .leaf .leaf) .leaf)) (.join 1 (.seq .leaf (.seq .leaf (.seq (.seq .leaf (.block (.loop 0 (.seq (.seq .leaf (.cond .leaf .leaf)) (.seq (.block (.seq .leaf (.cond (.seq (.seq .leaf (.cond (.seq .leaf .leaf) .leaf)) .leaf) .leaf))) .leaf))))) (.seq .leaf .leaf))))))))
noncomputable def X83.c : Code := Tryz.f83.body.getD .skip
theorem X83.v (Q : Value → World → Prop) : V Tryz.prog (X83.S Q) X83.an X83.c (retC Tryz.prog Tryz.f83 Q) := ⟨trivial, ⟨trivial, ⟨⟨trivial, ⟨⟨trivial, trivial⟩, trivial⟩⟩, ⟨(by
    intro φ ρ w h
    simp only [X83.S] at h
    obtain ⟨t0, e0, h⟩ := qI_elim h
    obtain ⟨t1, e1, h⟩ := qS_elim h
    obtain ⟨t5, e5, h⟩ := qA_elim h
    exact ⟨(((Env.nil.put (some 0) (.int .i64 t0)).put (some 1) (.string t1)).put (some 5) (.pointer (some t5))), Env.le_put e5 (Env.le_put e1 (Env.le_put e0 (Env.le_nil _))), Eq.mp (by kernel_rfl) h⟩), ⟨trivial, ⟨trivial, ⟨⟨trivial, ⟨(by
    intro φ ρ w h
    simp only [X83.S] at h
    obtain ⟨t1, e1, h⟩ := qS_elim h
    obtain ⟨t6, e6, h⟩ := qS_elim h
    obtain ⟨t7, e7, h⟩ := qI_elim h
    obtain ⟨t8, e8, h⟩ := qI_elim h
    cases hk : φ 0 with
    | zero => rw [hk] at h; exact h.elim
    | succ k => rw [hk] at h; exact ⟨k, Nat.lt_succ_self k, ((((Env.nil.put (some 1) (.string t1)).put (some 6) (.string t6)).put (some 7) (.int .i64 t7)).put (some 8) (.int .i64 t8)), Env.le_put e8 (Env.le_put e7 (Env.le_put e6 (Env.le_put e1 (Env.le_nil _)))), Eq.mp (by kernel_rfl) h⟩), ⟨⟨trivial, ⟨trivial, trivial⟩⟩, ⟨⟨trivial, ⟨⟨⟨trivial, ⟨⟨trivial, trivial⟩, trivial⟩⟩, trivial⟩, trivial⟩⟩, trivial⟩⟩⟩⟩, ⟨trivial, trivial⟩⟩⟩⟩⟩⟩⟩⟩
theorem X83.sound (a0 : Int) (a1 : ByteArray) (w : World) (Q : Value → World → Prop) (h : X83.f a0 a1 w Q) : CallR Tryz.prog 83 #[.int .i64 a0, .string a1] w Q :=
  fn_sound noGr mixed Tryz.func83 (c := X83.c) (an := X83.an) (S := X83.S Q) (φ := fun _ => 0) (args := [.int .i64 a0, .string a1]) (by kernel_rfl) (by kernel_rfl) (by kernel_rfl) (X83.v Q) (Eq.mp (by kernel_rfl) h)
/-! ### mooring/mooringref2.ID: function 84 -/
def X84.f (a0_0 : Int) (a0_1 : Int) (w : World) (Q : Value → World → Prop) : Prop := newK w #[.int .i64 a0_0, .int .u64 a0_1] 37 fun g1 w2 => ldI .i64 w2 (g1.add 0) fun x3 => bcase (x3 == (0 : Int)) (ldI .u64 w2 (g1.add 1) fun x4 => Q (.bool (x4 == (0 : Int))) w2) (ldI .i64 w2 (g1.add 0) fun x5 => bcase (decide (x5 ≥ (1 : Int))) (ldI .i64 w2 (g1.add 0) fun x6 => bcase (decide (x6 ≤ (64 : Int))) (ldI .u64 w2 (g1.add 1) fun x7 => bcase (decide (x7 ≥ (1 : Int))) (ldI .u64 w2 (g1.add 1) fun x8 => Q (.bool (decide (x8 ≤ (72057594037927935 : Int)))) w2) (Q (.bool false) w2)) (Q (.bool false) w2)) (Q (.bool false) w2))
def X84.S (Q : Value → World → Prop) : Segs
  | _, _, _, _ => False
noncomputable def X84.an : Ann := (.seq .leaf (.seq (.seq .leaf (.cond (.seq .leaf .leaf) .leaf)) (.seq .leaf .leaf)))
noncomputable def X84.c : Code := Tryz.f84.body.getD .skip
theorem X84.v (Q : Value → World → Prop) : V Tryz.prog (X84.S Q) X84.an X84.c (retC Tryz.prog Tryz.f84 Q) := ⟨trivial, ⟨⟨trivial, ⟨⟨trivial, trivial⟩, trivial⟩⟩, ⟨trivial, trivial⟩⟩⟩
theorem X84.sound (a0_0 : Int) (a0_1 : Int) (w : World) (Q : Value → World → Prop) (h : X84.f a0_0 a0_1 w Q) : CallR Tryz.prog 84 #[.agg #[.int .i64 a0_0, .int .u64 a0_1]] w Q :=
  fn_sound noGr mixed Tryz.func84 (c := X84.c) (an := X84.an) (S := X84.S Q) (φ := fun _ => 0) (args := [.agg #[.int .i64 a0_0, .int .u64 a0_1]]) (by kernel_rfl) (by kernel_rfl) (by kernel_rfl) (X84.v Q) (Eq.mp (by kernel_rfl) h)
/-! ### (*mooring/mooringref4.CallTable).place: function 79 -/
def X79.l0 (Q : Value → World → Prop) : Nat → (Option Addr) → Int → Int → World → Prop
  | 0, _, _, _, _ => False
  | k + 1, t0, t1, t6, w => optP t0 fun p1 => ldSl w (p1.add 1) fun x2p x2n x2c => bcase (decide (t6 < ((x2n : Nat) : Int))) (optP t0 fun p3 => ldSl w (p3.add 1) fun x4p x4n x4c => (0 ≤ t6 ∧ t6 < ((x4n : Nat) : Int)) ∧ optP x4p fun p5 => ldI .u64 w (p5.add (Int.toNat t6 * 1)) fun x6 => bcase (decide (x6 ≥ t1)) (drewK w fun w7 => optP t0 fun p8 => ldSl w7 (p8.add 1) fun x9p x9n x9c => (0 ≤ t6 ∧ t6 < ((x9n : Nat) : Int)) ∧ optP x9p fun p10 => ldI .u64 w7 (p10.add (Int.toNat t6 * 1)) fun x11 => Q (.tuple #[.int .i64 t6, .bool (x11 == t1)]) w7) (X79.l0 Q k t0 t1 (IntKind.wrap .i64 (t6 + (1 : Int))) w)) (optP t0 fun p12 => ldSl w (p12.add 1) fun x13p x13n x13c => Q (.tuple #[.int .i64 ((x13n : Nat) : Int), .bool false]) w)
def X79.f (a0 : Option Addr) (a1 : Int) (w : World) (Q : Value → World → Prop) : Prop := ∃ m1, X79.l0 Q m1 a0 a1 (0 : Int) w
def X79.S (Q : Value → World → Prop) : Segs
  | 0, φ, ρ, w => qP (ρ 0) fun t0 => qI .u64 (ρ 1) fun t1 => qI .i64 (ρ 6) fun t6 => X79.l0 Q (φ 0) t0 t1 t6 w
  | _, _, _, _ => False
noncomputable def X79.an : Ann := (.seq .leaf (.seq (.seq .leaf (.block (.loop 0 (.seq (.seq .leaf (.cond .leaf .leaf)) (.seq (.block (.seq .leaf (.cond (.seq (.draw [0, 0, 2, 6, 14, 0, 62, 126, 0, 510, 1, 2047] [[0, 1, 2, 3, 4, 5, 6, 7, 8, 9, 10, 11]]) .leaf) .leaf))) .leaf))))) (.seq .leaf .leaf)))
noncomputable def X79.c : Code := Tryz.f79.body.getD .skip
theorem X79.v (Q : Value → World → Prop) : V Tryz.prog (X79.S Q) X79.an X79.c (retC Tryz.prog Tryz.f79 Q) := ⟨trivial, ⟨⟨trivial, ⟨(by
    intro φ ρ w h
    simp only [X79.S] at h
    obtain ⟨t0, e0, h⟩ := qP_elim h
    obtain ⟨t1, e1, h⟩ := qI_elim h
    obtain ⟨t6, e6, h⟩ := qI_elim h
    cases hk : φ 0 with
    | zero => rw [hk] at h; exact h.elim
    | succ k => rw [hk] at h; exact ⟨k, Nat.lt_succ_self k, (((Env.nil.put (some 0) (.pointer t0)).put (some 1) (.int .u64 t1)).put (some 6) (.int .i64 t6)), Env.le_put e6 (Env.le_put e1 (Env.le_put e0 (Env.le_nil _))), Eq.mp (by kernel_rfl) h⟩), ⟨⟨trivial, ⟨trivial, trivial⟩⟩, ⟨⟨trivial, ⟨⟨trivial, trivial⟩, trivial⟩⟩, trivial⟩⟩⟩⟩, ⟨trivial, trivial⟩⟩⟩
theorem X79.sound (a0 : Option Addr) (a1 : Int) (w : World) (Q : Value → World → Prop) (h : X79.f a0 a1 w Q) : CallR Tryz.prog 79 #[.pointer a0, .int .u64 a1] w Q :=
  fn_sound noGr mixed Tryz.func79 (c := X79.c) (an := X79.an) (S := X79.S Q) (φ := fun _ => 0) (args := [.pointer a0, .int .u64 a1]) (by kernel_rfl) (by kernel_rfl) (by kernel_rfl) (X79.v Q) (Eq.mp (by kernel_rfl) h)
/-! ### (*mooring/mooringref4.CallTable).After: function 49 -/
def X49.f (a0 : Option Addr) (a1 : Int) (w : World) (Q : Value → World → Prop) : Prop := CallR Tryz.prog 77 #[.pointer a0, .int .u64 a1] w fun v1 w2 => ∃ (y3 : Int) (y4 : Bool), v1 = .tuple #[.int .u64 y3, .bool y4] ∧ bcase y4 (Q (.tuple #[.int .u64 y3, .bool true]) w2) (CallR Tryz.prog 78 #[.pointer a0] w2 fun v5 w6 => ∃ (y7 : Int) (y8 : Bool), v5 = .tuple #[.int .u64 y7, .bool y8] ∧ Q (.tuple #[.int .u64 y7, .bool y8]) w6)
def X49.S (Q : Value → World → Prop) : Segs
  | _, _, _, _ => False
noncomputable def X49.an : Ann := (.seq .leaf (.seq .leaf (.seq (.seq .leaf (.cond (.seq .leaf .leaf) .leaf)) (.seq .leaf .leaf))))
noncomputable def X49.c : Code := Tryz.f49.body.getD .skip
theorem X49.v (Q : Value → World → Prop) : V Tryz.prog (X49.S Q) X49.an X49.c (retC Tryz.prog Tryz.f49 Q) := ⟨trivial, ⟨trivial, ⟨⟨trivial, ⟨⟨trivial, trivial⟩, trivial⟩⟩, ⟨trivial, trivial⟩⟩⟩⟩
theorem X49.sound (a0 : Option Addr) (a1 : Int) (w : World) (Q : Value → World → Prop) (h : X49.f a0 a1 w Q) : CallR Tryz.prog 49 #[.pointer a0, .int .u64 a1] w Q :=
  fn_sound noGr mixed Tryz.func49 (c := X49.c) (an := X49.an) (S := X49.S Q) (φ := fun _ => 0) (args := [.pointer a0, .int .u64 a1]) (by kernel_rfl) (by kernel_rfl) (by kernel_rfl) (X49.v Q) (Eq.mp (by kernel_rfl) h)
/-! ### (*mooring/mooringref4.CallTable).Get: function 50 -/
def X50.f (a0 : Option Addr) (a1 : Int) (w : World) (Q : Value → World → Prop) : Prop := newK w #[.int .i64 (0 : Int), .int .u64 (0 : Int), .int .i64 (0 : Int), .int .i64 (0 : Int), .int .i64 (0 : Int), .int .u64 (0 : Int), .slice none 0 0, .int .u64 (0 : Int), .int .i64 (0 : Int), .int .i64 (0 : Int), .slice none 0 0, .int .u64 (0 : Int), .int .u64 (0 : Int), .int .u64 (0 : Int), .int .u64 (0 : Int)] 50 fun g1 w2 => CallR Tryz.prog 79 #[.pointer a0, .int .u64 a1] w2 fun v3 w4 => ∃ (y5 : Int) (y6 : Bool), v3 = .tuple #[.int .i64 y5, .bool y6] ∧ bcase y6 (optP a0 fun p7 => ldSl w4 (p7.add 2) fun x8p x8n x8c => (0 ≤ y5 ∧ y5 < ((x8n : Nat) : Int)) ∧ optP x8p fun p9 => ldI .i64 w4 ((p9.add (Int.toNat y5 * 15)).add 0) fun x10 => ldI .u64 w4 ((p9.add (Int.toNat y5 * 15)).add 1) fun x11 => ldI .i64 w4 ((p9.add (Int.toNat y5 * 15)).add 2) fun x12 => ldI .i64 w4 ((p9.add (Int.toNat y5 * 15)).add 3) fun x13 => ldI .i64 w4 ((p9.add (Int.toNat y5 * 15)).add 4) fun x14 => ldI .u64 w4 ((p9.add (Int.toNat y5 * 15)).add 5) fun x15 => ldSl w4 ((p9.add (Int.toNat y5 * 15)).add 6) fun x16p x16n x16c => ldI .u64 w4 ((p9.add (Int.toNat y5 * 15)).add 7) fun x17 => ldI .i64 w4 ((p9.add (Int.toNat y5 * 15)).add 8) fun x18 => ldI .i64 w4 ((p9.add (Int.toNat y5 * 15)).add 9) fun x19 => ldSl w4 ((p9.add (Int.toNat y5 * 15)).add 10) fun x20p x20n x20c => ldI .u64 w4 ((p9.add (Int.toNat y5 * 15)).add 11) fun x21 => ldI .u64 w4 ((p9.add (Int.toNat y5 * 15)).add 12) fun x22 => ldI .u64 w4 ((p9.add (Int.toNat y5 * 15)).add 13) fun x23 => ldI .u64 w4 ((p9.add (Int.toNat y5 * 15)).add 14) fun x24 => stAll w4 g1 [.int .i64 x10, .int .u64 x11, .int .i64 x12, .int .i64 x13, .int .i64 x14, .int .u64 x15, .slice x16p x16n x16c, .int .u64 x17, .int .i64 x18, .int .i64 x19, .slice x20p x20n x20c, .int .u64 x21, .int .u64 x22, .int .u64 x23, .int .u64 x24] fun w25 => ldI .i64 w25 (g1.add 0) fun x26 => ldI .u64 w25 (g1.add 1) fun x27 => ldI .i64 w25 (g1.add 2) fun x28 => ldI .i64 w25 (g1.add 3) fun x29 => ldI .i64 w25 (g1.add 4) fun x30 => ldI .u64 w25 (g1.add 5) fun x31 => ldSl w25 (g1.add 6) fun x32p x32n x32c => ldI .u64 w25 (g1.add 7) fun x33 => ldI .i64 w25 (g1.add 8) fun x34 => ldI .i64 w25 (g1.add 9) fun x35 => ldSl w25 (g1.add 10) fun x36p x36n x36c => ldI .u64 w25 (g1.add 11) fun x37 => ldI .u64 w25 (g1.add 12) fun x38 => ldI .u64 w25 (g1.add 13) fun x39 => ldI .u64 w25 (g1.add 14) fun x40 => stAll w25 g1 [.int .i64 x26, .int .u64 x27, .int .i64 x28, .int .i64 x29, .int .i64 x30, .int .u64 x31, .slice x32p x32n x32c, .int .u64 x33, .int .i64 x34, .int .i64 x35, .slice x36p x36n x36c, .int .u64 x37, .int .u64 x38, .int .u64 x39, .int .u64 x40] fun w41 => ldI .i64 w41 (g1.add 0) fun x42 => ldI .u64 w41 (g1.add 1) fun x43 => ldI .i64 w41 (g1.add 2) fun x44 => ldI .i64 w41 (g1.add 3) fun x45 => ldI .i64 w41 (g1.add 4) fun x46 => ldI .u64 w41 (g1.add 5) fun x47 => ldSl w41 (g1.add 6) fun x48p x48n x48c => ldI .u64 w41 (g1.add 7) fun x49 => ldI .i64 w41 (g1.add 8) fun x50 => ldI .i64 w41 (g1.add 9) fun x51 => ldSl w41 (g1.add 10) fun x52p x52n x52c => ldI .u64 w41 (g1.add 11) fun x53 => ldI .u64 w41 (g1.add 12) fun x54 => ldI .u64 w41 (g1.add 13) fun x55 => ldI .u64 w41 (g1.add 14) fun x56 => Q (.tuple #[.agg #[.int .i64 x42, .int .u64 x43, .int .i64 x44, .int .i64 x45, .int .i64 x46, .int .u64 x47, .slice x48p x48n x48c, .int .u64 x49, .int .i64 x50, .int .i64 x51, .slice x52p x52n x52c, .int .u64 x53, .int .u64 x54, .int .u64 x55, .int .u64 x56], .bool y6]) w41) (ldI .i64 w4 (g1.add 0) fun x57 => ldI .u64 w4 (g1.add 1) fun x58 => ldI .i64 w4 (g1.add 2) fun x59 => ldI .i64 w4 (g1.add 3) fun x60 => ldI .i64 w4 (g1.add 4) fun x61 => ldI .u64 w4 (g1.add 5) fun x62 => ldSl w4 (g1.add 6) fun x63p x63n x63c => ldI .u64 w4 (g1.add 7) fun x64 => ldI .i64 w4 (g1.add 8) fun x65 => ldI .i64 w4 (g1.add 9) fun x66 => ldSl w4 (g1.add 10) fun x67p x67n x67c => ldI .u64 w4 (g1.add 11) fun x68 => ldI .u64 w4 (g1.add 12) fun x69 => ldI .u64 w4 (g1.add 13) fun x70 => ldI .u64 w4 (g1.add 14) fun x71 => stAll w4 g1 [.int .i64 x57, .int .u64 x58, .int .i64 x59, .int .i64 x60, .int .i64 x61, .int .u64 x62, .slice x63p x63n x63c, .int .u64 x64, .int .i64 x65, .int .i64 x66, .slice x67p x67n x67c, .int .u64 x68, .int .u64 x69, .int .u64 x70, .int .u64 x71] fun w72 => ldI .i64 w72 (g1.add 0) fun x73 => ldI .u64 w72 (g1.add 1) fun x74 => ldI .i64 w72 (g1.add 2) fun x75 => ldI .i64 w72 (g1.add 3) fun x76 => ldI .i64 w72 (g1.add 4) fun x77 => ldI .u64 w72 (g1.add 5) fun x78 => ldSl w72 (g1.add 6) fun x79p x79n x79c => ldI .u64 w72 (g1.add 7) fun x80 => ldI .i64 w72 (g1.add 8) fun x81 => ldI .i64 w72 (g1.add 9) fun x82 => ldSl w72 (g1.add 10) fun x83p x83n x83c => ldI .u64 w72 (g1.add 11) fun x84 => ldI .u64 w72 (g1.add 12) fun x85 => ldI .u64 w72 (g1.add 13) fun x86 => ldI .u64 w72 (g1.add 14) fun x87 => Q (.tuple #[.agg #[.int .i64 x73, .int .u64 x74, .int .i64 x75, .int .i64 x76, .int .i64 x77, .int .u64 x78, .slice x79p x79n x79c, .int .u64 x80, .int .i64 x81, .int .i64 x82, .slice x83p x83n x83c, .int .u64 x84, .int .u64 x85, .int .u64 x86, .int .u64 x87], .bool y6]) w72)
def X50.S (Q : Value → World → Prop) : Segs
  | _, _, _, _ => False
noncomputable def X50.an : Ann := (.seq .leaf (.seq .leaf (.seq (.seq .leaf (.cond .leaf .leaf)) (.seq .leaf .leaf))))
noncomputable def X50.c : Code := Tryz.f50.body.getD .skip
theorem X50.v (Q : Value → World → Prop) : V Tryz.prog (X50.S Q) X50.an X50.c (retC Tryz.prog Tryz.f50 Q) := ⟨trivial, ⟨trivial, ⟨⟨trivial, ⟨trivial, trivial⟩⟩, ⟨trivial, trivial⟩⟩⟩⟩
theorem X50.sound (a0 : Option Addr) (a1 : Int) (w : World) (Q : Value → World → Prop) (h : X50.f a0 a1 w Q) : CallR Tryz.prog 50 #[.pointer a0, .int .u64 a1] w Q :=
  fn_sound noGr mixed Tryz.func50 (c := X50.c) (an := X50.an) (S := X50.S Q) (φ := fun _ => 0) (args := [.pointer a0, .int .u64 a1]) (by kernel_rfl) (by kernel_rfl) (by kernel_rfl) (X50.v Q) (Eq.mp (by kernel_rfl) h)
/-! ### mooring/mooringref20.CopyCall: function 51 -/
def X51.f (a0_0 : Int) (a0_1 : Int) (a0_2 : Int) (a0_3 : Int) (a0_4 : Int) (a0_5 : Int) (a0_6p : Option Addr) (a0_6n : Nat) (a0_6c : Nat) (a0_7 : Int) (a0_8 : Int) (a0_9 : Int) (a0_10p : Option Addr) (a0_10n : Nat) (a0_10c : Nat) (a0_11 : Int) (a0_12 : Int) (a0_13 : Int) (a0_14 : Int) (w : World) (Q : Value → World → Prop) : Prop := newK w #[.int .i64 a0_0, .int .u64 a0_1, .int .i64 a0_2, .int .i64 a0_3, .int .i64 a0_4, .int .u64 a0_5, .slice a0_6p a0_6n a0_6c, .int .u64 a0_7, .int .i64 a0_8, .int .i64 a0_9, .slice a0_10p a0_10n a0_10c, .int .u64 a0_11, .int .u64 a0_12, .int .u64 a0_13, .int .u64 a0_14] 50 fun g1 w2 => newK w2 #[.int .i64 (0 : Int), .int .u64 (0 : Int), .int .i64 (0 : Int), .int .i64 (0 : Int), .int .i64 (0 : Int), .int .u64 (0 : Int), .slice none 0 0, .int .u64 (0 : Int), .int .i64 (0 : Int), .int .i64 (0 : Int), .slice none 0 0, .int .u64 (0 : Int), .int .u64 (0 : Int), .int .u64 (0 : Int), .int .u64 (0 : Int)] 50 fun g3 w4 => ldSl w4 (g1.add 6) fun x5p x5n x5c => CallR Tryz.prog 55 #[.slice x5p x5n x5c] w4 fun v6 w7 => ∃ (y8p : Option Addr) (y8n y8c : Nat), v6 = .slice y8p y8n y8c ∧ stK w7 (g1.add 6) (.slice y8p y8n y8c) fun w9 => ldSl w9 (g1.add 10) fun x10p x10n x10c => CallR Tryz.prog 55 #[.slice x10p x10n x10c] w9 fun v11 w12 => ∃ (y13p : Option Addr) (y13n y13c : Nat), v11 = .slice y13p y13n y13c ∧ stK w12 (g1.add 10) (.slice y13p y13n y13c) fun w14 => ldI .i64 w14 (g1.add 0) fun x15 => ldI .u64 w14 (g1.add 1) fun x16 => ldI .i64 w14 (g1.add 2) fun x17 => ldI .i64 w14 (g1.add 3) fun x18 => ldI .i64 w14 (g1.add 4) fun x19 => ldI .u64 w14 (g1.add 5) fun x20 => ldSl w14 (g1.add 6) fun x21p x21n x21c => ldI .u64 w14 (g1.add 7) fun x22 => ldI .i64 w14 (g1.add 8) fun x23 => ldI .i64 w14 (g1.add 9) fun x24 => ldSl w14 (g1.add 10) fun x25p x25n x25c => ldI .u64 w14 (g1.add 11) fun x26 => ldI .u64 w14 (g1.add 12) fun x27 => ldI .u64 w14 (g1.add 13) fun x28 => ldI .u64 w14 (g1.add 14) fun x29 => stAll w14 g3 [.int .i64 x15, .int .u64 x16, .int .i64 x17, .int .i64 x18, .int .i64 x19, .int .u64 x20, .slice x21p x21n x21c, .int .u64 x22, .int .i64 x23, .int .i64 x24, .slice x25p x25n x25c, .int .u64 x26, .int .u64 x27, .int .u64 x28, .int .u64 x29] fun w30 => ldI .i64 w30 (g3.add 0) fun x31 => ldI .u64 w30 (g3.add 1) fun x32 => ldI .i64 w30 (g3.add 2) fun x33 => ldI .i64 w30 (g3.add 3) fun x34 => ldI .i64 w30 (g3.add 4) fun x35 => ldI .u64 w30 (g3.add 5) fun x36 => ldSl w30 (g3.add 6) fun x37p x37n x37c => ldI .u64 w30 (g3.add 7) fun x38 => ldI .i64 w30 (g3.add 8) fun x39 => ldI .i64 w30 (g3.add 9) fun x40 => ldSl w30 (g3.add 10) fun x41p x41n x41c => ldI .u64 w30 (g3.add 11) fun x42 => ldI .u64 w30 (g3.add 12) fun x43 => ldI .u64 w30 (g3.add 13) fun x44 => ldI .u64 w30 (g3.add 14) fun x45 => Q (.agg #[.int .i64 x31, .int .u64 x32, .int .i64 x33, .int .i64 x34, .int .i64 x35, .int .u64 x36, .slice x37p x37n x37c, .int .u64 x38, .int .i64 x39, .int .i64 x40, .slice x41p x41n x41c, .int .u64 x42, .int .u64 x43, .int .u64 x44, .int .u64 x45]) w30
def X51.S (Q : Value → World → Prop) : Segs
  | _, _, _, _ => False
noncomputable def X51.an : Ann := (.seq .leaf (.seq .leaf (.seq .leaf (.seq .leaf .leaf))))
noncomputable def X51.c : Code := Tryz.f51.body.getD .skip
theorem X51.v (Q : Value → World → Prop) : V Tryz.prog (X51.S Q) X51.an X51.c (retC Tryz.prog Tryz.f51 Q) := ⟨trivial, ⟨trivial, ⟨trivial, ⟨trivial, trivial⟩⟩⟩⟩
theorem X51.sound (a0_0 : Int) (a0_1 : Int) (a0_2 : Int) (a0_3 : Int) (a0_4 : Int) (a0_5 : Int) (a0_6p : Option Addr) (a0_6n : Nat) (a0_6c : Nat) (a0_7 : Int) (a0_8 : Int) (a0_9 : Int) (a0_10p : Option Addr) (a0_10n : Nat) (a0_10c : Nat) (a0_11 : Int) (a0_12 : Int) (a0_13 : Int) (a0_14 : Int) (w : World) (Q : Value → World → Prop) (h : X51.f a0_0 a0_1 a0_2 a0_3 a0_4 a0_5 a0_6p a0_6n a0_6c a0_7 a0_8 a0_9 a0_10p a0_10n a0_10c a0_11 a0_12 a0_13 a0_14 w Q) : CallR Tryz.prog 51 #[.agg #[.int .i64 a0_0, .int .u64 a0_1, .int .i64 a0_2, .int .i64 a0_3, .int .i64 a0_4, .int .u64 a0_5, .slice a0_6p a0_6n a0_6c, .int .u64 a0_7, .int .i64 a0_8, .int .i64 a0_9, .slice a0_10p a0_10n a0_10c, .int .u64 a0_11, .int .u64 a0_12, .int .u64 a0_13, .int .u64 a0_14]] w Q :=
  fn_sound noGr mixed Tryz.func51 (c := X51.c) (an := X51.an) (S := X51.S Q) (φ := fun _ => 0) (args := [.agg #[.int .i64 a0_0, .int .u64 a0_1, .int .i64 a0_2, .int .i64 a0_3, .int .i64 a0_4, .int .u64 a0_5, .slice a0_6p a0_6n a0_6c, .int .u64 a0_7, .int .i64 a0_8, .int .i64 a0_9, .slice a0_10p a0_10n a0_10c, .int .u64 a0_11, .int .u64 a0_12, .int .u64 a0_13, .int .u64 a0_14]]) (by kernel_rfl) (by kernel_rfl) (by kernel_rfl) (X51.v Q) (Eq.mp (by kernel_rfl) h)
/-! ### mooring/mooringref3.Past: function 52 -/
def X52.f (a0 : Int) (a1 : Int) (a2 : Int) (w : World) (Q : Value → World → Prop) : Prop := bcase (decide (a2 ≥ a0)) (Q (.bool (decide ((IntKind.wrap .u64 (a2 - a0)) ≥ a1))) w) (Q (.bool false) w)
def X52.S (Q : Value → World → Prop) : Segs
  | _, _, _, _ => False
noncomputable def X52.an : Ann := (.seq .leaf (.seq .leaf .leaf))
noncomputable def X52.c : Code := Tryz.f52.body.getD .skip
theorem X52.v (Q : Value → World → Prop) : V Tryz.prog (X52.S Q) X52.an X52.c (retC Tryz.prog Tryz.f52 Q) := ⟨trivial, ⟨trivial, trivial⟩⟩
theorem X52.sound (a0 : Int) (a1 : Int) (a2 : Int) (w : World) (Q : Value → World → Prop) (h : X52.f a0 a1 a2 w Q) : CallR Tryz.prog 52 #[.int .u64 a0, .int .u64 a1, .int .u64 a2] w Q :=
  fn_sound noGr mixed Tryz.func52 (c := X52.c) (an := X52.an) (S := X52.S Q) (φ := fun _ => 0) (args := [.int .u64 a0, .int .u64 a1, .int .u64 a2]) (by kernel_rfl) (by kernel_rfl) (by kernel_rfl) (X52.v Q) (Eq.mp (by kernel_rfl) h)
/-! ### mooring/mooringref3.Wait: function 53 -/
def X53.f (a0 : Int) (a1 : Int) (a2 : Int) (w : World) (Q : Value → World → Prop) : Prop := bcase (a0 == (0 : Int)) (Q (.int .u64 (min2 a1 a2)) w) ((2 : Int) ≠ 0 ∧ bcase (decide (a0 > (IntKind.wrap .u64 (Int.tdiv a2 (2 : Int))))) (Q (.int .u64 a2) w) (Q (.int .u64 (min2 (IntKind.wrap .u64 ((2 : Int) * a0)) a2)) w))
def X53.S (Q : Value → World → Prop) : Segs
  | _, _, _, _ => False
noncomputable def X53.an : Ann := (.seq .leaf (.seq (.seq .leaf (.cond (.seq .leaf .leaf) .leaf)) (.seq (.seq .leaf (.cond (.seq .leaf .leaf) .leaf)) (.seq .leaf .leaf))))
noncomputable def X53.c : Code := Tryz.f53.body.getD .skip
theorem X53.v (Q : Value → World → Prop) : V Tryz.prog (X53.S Q) X53.an X53.c (retC Tryz.prog Tryz.f53 Q) := ⟨trivial, ⟨⟨trivial, ⟨⟨trivial, trivial⟩, trivial⟩⟩, ⟨⟨trivial, ⟨⟨trivial, trivial⟩, trivial⟩⟩, ⟨trivial, trivial⟩⟩⟩⟩
theorem X53.sound (a0 : Int) (a1 : Int) (a2 : Int) (w : World) (Q : Value → World → Prop) (h : X53.f a0 a1 a2 w Q) : CallR Tryz.prog 53 #[.int .u64 a0, .int .u64 a1, .int .u64 a2] w Q :=
  fn_sound noGr mixed Tryz.func53 (c := X53.c) (an := X53.an) (S := X53.S Q) (φ := fun _ => 0) (args := [.int .u64 a0, .int .u64 a1, .int .u64 a2]) (by kernel_rfl) (by kernel_rfl) (by kernel_rfl) (X53.v Q) (Eq.mp (by kernel_rfl) h)
/-! ### mooring/mooringref2.Numbers: function 56 -/
def X56.l0 (Q : Value → World → Prop) : Nat → (Option Addr) → Nat → Nat → (Option Addr) → Nat → Nat → Int → World → Prop
  | 0, _, _, _, _, _, _, _, _ => False
  | k + 1, t0p, t0n, t0c, t1p, t1n, t1c, t5, w => bcase (decide (t5 < ((t0n : Nat) : Int))) (drewK w fun w1 => (0 ≤ t5 ∧ t5 < ((t0n : Nat) : Int)) ∧ optP t0p fun p2 => ldI .u64 w1 (p2.add (Int.toNat t5 * 1)) fun x3 => (0 ≤ t5 ∧ t5 < ((t1n : Nat) : Int)) ∧ optP t1p fun p4 => ldI .u64 w1 (p4.add (Int.toNat t5 * 1)) fun x5 => bcase (x3 != x5) (Q (.bool false) w1) (X56.l0 Q k t0p t0n t0c t1p t1n t1c (IntKind.wrap .i64 (t5 + (1 : Int))) w1)) (Q (.bool true) w)
def X56.f (a0p : Option Addr) (a0n : Nat) (a0c : Nat) (a1p : Option Addr) (a1n : Nat) (a1c : Nat) (w : World) (Q : Value → World → Prop) : Prop := bcase (((a0n : Nat) : Int) != ((a1n : Nat) : Int)) (Q (.bool false) w) (∃ m1, X56.l0 Q m1 a0p a0n a0c a1p a1n a1c (0 : Int) w)
def X56.S (Q : Value → World → Prop) : Segs
  | 0, φ, ρ, w => qSl (ρ 0) fun t0p t0n t0c => qSl (ρ 1) fun t1p t1n t1c => qI .i64 (ρ 5) fun t5 => X56.l0 Q (φ 0) t0p t0n t0c t1p t1n t1c t5 w
  | _, _, _, _ => False
noncomputable def X56.an : Ann := (.seq .leaf (.seq (.seq .leaf (.cond (.seq .leaf .leaf) .leaf)) (.seq (.seq .leaf (.block (.loop 0 (.seq (.seq .leaf (.cond .leaf .leaf)) (.seq (.block (.seq (.draw [0, 0, 3, 7, 0, 0, 48, 112, 255] [[0, 1, 2, 3, 4, 5, 6, 7, 8]]) (.cond (.seq .leaf .leaf) .leaf))) .leaf))))) (.seq .leaf .leaf))))
noncomputable def X56.c : Code := Tryz.f56.body.getD .skip
theorem X56.v (Q : Value → World → Prop) : V Tryz.prog (X56.S Q) X56.an X56.c (retC Tryz.prog Tryz.f56 Q) := ⟨trivial, ⟨⟨trivial, ⟨⟨trivial, trivial⟩, trivial⟩⟩, ⟨⟨trivial, ⟨(by
    intro φ ρ w h
    simp only [X56.S] at h
    obtain ⟨t0p, t0n, t0c, e0, h⟩ := qSl_elim h
    obtain ⟨t1p, t1n, t1c, e1, h⟩ := qSl_elim h
    obtain ⟨t5, e5, h⟩ := qI_elim h
    cases hk : φ 0 with
    | zero => rw [hk] at h; exact h.elim
    | succ k => rw [hk] at h; exact ⟨k, Nat.lt_succ_self k, (((Env.nil.put (some 0) (.slice t0p t0n t0c)).put (some 1) (.slice t1p t1n t1c)).put (some 5) (.int .i64 t5)), Env.le_put e5 (Env.le_put e1 (Env.le_put e0 (Env.le_nil _))), Eq.mp (by kernel_rfl) h⟩), ⟨⟨trivial, ⟨trivial, trivial⟩⟩, ⟨⟨trivial, ⟨⟨trivial, trivial⟩, trivial⟩⟩, trivial⟩⟩⟩⟩, ⟨trivial, trivial⟩⟩⟩⟩
theorem X56.sound (a0p : Option Addr) (a0n : Nat) (a0c : Nat) (a1p : Option Addr) (a1n : Nat) (a1c : Nat) (w : World) (Q : Value → World → Prop) (h : X56.f a0p a0n a0c a1p a1n a1c w Q) : CallR Tryz.prog 56 #[.slice a0p a0n a0c, .slice a1p a1n a1c] w Q :=
  fn_sound noGr mixed Tryz.func56 (c := X56.c) (an := X56.an) (S := X56.S Q) (φ := fun _ => 0) (args := [.slice a0p a0n a0c, .slice a1p a1n a1c]) (by kernel_rfl) (by kernel_rfl) (by kernel_rfl) (X56.v Q) (Eq.mp (by kernel_rfl) h)
/-! ### (*mooring/mooringref20.Calls).Get: function 57 -/
def X57.f (a0 : Option Addr) (a1 : Int) (a2 : Int) (w : World) (Q : Value → World → Prop) : Prop := newK w #[.int .i64 (0 : Int), .int .u64 (0 : Int), .int .i64 (0 : Int), .int .i64 (0 : Int), .int .i64 (0 : Int), .int .u64 (0 : Int), .slice none 0 0, .int .u64 (0 : Int), .int .i64 (0 : Int), .int .i64 (0 : Int), .slice none 0 0, .int .u64 (0 : Int), .int .u64 (0 : Int), .int .u64 (0 : Int), .int .u64 (0 : Int)] 50 fun g1 w2 => bcase (decide (a1 < (1 : Int))) (stAll w2 g1 [.int .i64 (0 : Int), .int .u64 (0 : Int), .int .i64 (0 : Int), .int .i64 (0 : Int), .int .i64 (0 : Int), .int .u64 (0 : Int), .slice none 0 0, .int .u64 (0 : Int), .int .i64 (0 : Int), .int .i64 (0 : Int), .slice none 0 0, .int .u64 (0 : Int), .int .u64 (0 : Int), .int .u64 (0 : Int), .int .u64 (0 : Int)] fun w3 => ldI .i64 w3 (g1.add 0) fun x4 => ldI .u64 w3 (g1.add 1) fun x5 => ldI .i64 w3 (g1.add 2) fun x6 => ldI .i64 w3 (g1.add 3) fun x7 => ldI .i64 w3 (g1.add 4) fun x8 => ldI .u64 w3 (g1.add 5) fun x9 => ldSl w3 (g1.add 6) fun x10p x10n x10c => ldI .u64 w3 (g1.add 7) fun x11 => ldI .i64 w3 (g1.add 8) fun x12 => ldI .i64 w3 (g1.add 9) fun x13 => ldSl w3 (g1.add 10) fun x14p x14n x14c => ldI .u64 w3 (g1.add 11) fun x15 => ldI .u64 w3 (g1.add 12) fun x16 => ldI .u64 w3 (g1.add 13) fun x17 => ldI .u64 w3 (g1.add 14) fun x18 => Q (.tuple #[.agg #[.int .i64 x4, .int .u64 x5, .int .i64 x6, .int .i64 x7, .int .i64 x8, .int .u64 x9, .slice x10p x10n x10c, .int .u64 x11, .int .i64 x12, .int .i64 x13, .slice x14p x14n x14c, .int .u64 x15, .int .u64 x16, .int .u64 x17, .int .u64 x18], .bool false]) w3) (bcase (decide (a1 > (64 : Int))) (stAll w2 g1 [.int .i64 (0 : Int), .int .u64 (0 : Int), .int .i64 (0 : Int), .int .i64 (0 : Int), .int .i64 (0 : Int), .int .u64 (0 : Int), .slice none 0 0, .int .u64 (0 : Int), .int .i64 (0 : Int), .int .i64 (0 : Int), .slice none 0 0, .int .u64 (0 : Int), .int .u64 (0 : Int), .int .u64 (0 : Int), .int .u64 (0 : Int)] fun w19 => ldI .i64 w19 (g1.add 0) fun x20 => ldI .u64 w19 (g1.add 1) fun x21 => ldI .i64 w19 (g1.add 2) fun x22 => ldI .i64 w19 (g1.add 3) fun x23 => ldI .i64 w19 (g1.add 4) fun x24 => ldI .u64 w19 (g1.add 5) fun x25 => ldSl w19 (g1.add 6) fun x26p x26n x26c => ldI .u64 w19 (g1.add 7) fun x27 => ldI .i64 w19 (g1.add 8) fun x28 => ldI .i64 w19 (g1.add 9) fun x29 => ldSl w19 (g1.add 10) fun x30p x30n x30c => ldI .u64 w19 (g1.add 11) fun x31 => ldI .u64 w19 (g1.add 12) fun x32 => ldI .u64 w19 (g1.add 13) fun x33 => ldI .u64 w19 (g1.add 14) fun x34 => Q (.tuple #[.agg #[.int .i64 x20, .int .u64 x21, .int .i64 x22, .int .i64 x23, .int .i64 x24, .int .u64 x25, .slice x26p x26n x26c, .int .u64 x27, .int .i64 x28, .int .i64 x29, .slice x30p x30n x30c, .int .u64 x31, .int .u64 x32, .int .u64 x33, .int .u64 x34], .bool false]) w19) (bcase (decide (a2 > (72057594037927935 : Int))) (stAll w2 g1 [.int .i64 (0 : Int), .int .u64 (0 : Int), .int .i64 (0 : Int), .int .i64 (0 : Int), .int .i64 (0 : Int), .int .u64 (0 : Int), .slice none 0 0, .int .u64 (0 : Int), .int .i64 (0 : Int), .int .i64 (0 : Int), .slice none 0 0, .int .u64 (0 : Int), .int .u64 (0 : Int), .int .u64 (0 : Int), .int .u64 (0 : Int)] fun w35 => ldI .i64 w35 (g1.add 0) fun x36 => ldI .u64 w35 (g1.add 1) fun x37 => ldI .i64 w35 (g1.add 2) fun x38 => ldI .i64 w35 (g1.add 3) fun x39 => ldI .i64 w35 (g1.add 4) fun x40 => ldI .u64 w35 (g1.add 5) fun x41 => ldSl w35 (g1.add 6) fun x42p x42n x42c => ldI .u64 w35 (g1.add 7) fun x43 => ldI .i64 w35 (g1.add 8) fun x44 => ldI .i64 w35 (g1.add 9) fun x45 => ldSl w35 (g1.add 10) fun x46p x46n x46c => ldI .u64 w35 (g1.add 11) fun x47 => ldI .u64 w35 (g1.add 12) fun x48 => ldI .u64 w35 (g1.add 13) fun x49 => ldI .u64 w35 (g1.add 14) fun x50 => Q (.tuple #[.agg #[.int .i64 x36, .int .u64 x37, .int .i64 x38, .int .i64 x39, .int .i64 x40, .int .u64 x41, .slice x42p x42n x42c, .int .u64 x43, .int .i64 x44, .int .i64 x45, .slice x46p x46n x46c, .int .u64 x47, .int .u64 x48, .int .u64 x49, .int .u64 x50], .bool false]) w35) (drewK w2 fun w51 => optP a0 fun p52 => CallR Tryz.prog 58 #[.int .i64 a1, .int .u64 a2] w51 fun v53 w54 => ∃ (y55 : Int), v53 = .int .u64 y55 ∧ CallR Tryz.prog 50 #[.pointer (some (p52.add 89)), .int .u64 y55] w54 fun v56 w57 => ∃ (y58 : Int) (y59 : Int) (y60 : Int) (y61 : Int) (y62 : Int) (y63 : Int) (y64p : Option Addr) (y64n y64c : Nat) (y65 : Int) (y66 : Int) (y67 : Int) (y68p : Option Addr) (y68n y68c : Nat) (y69 : Int) (y70 : Int) (y71 : Int) (y72 : Int) (y73 : Bool), v56 = .tuple #[.agg #[.int .i64 y58, .int .u64 y59, .int .i64 y60, .int .i64 y61, .int .i64 y62, .int .u64 y63, .slice y64p y64n y64c, .int .u64 y65, .int .i64 y66, .int .i64 y67, .slice y68p y68n y68c, .int .u64 y69, .int .u64 y70, .int .u64 y71, .int .u64 y72], .bool y73] ∧ stAll w57 g1 [.int .i64 y58, .int .u64 y59, .int .i64 y60, .int .i64 y61, .int .i64 y62, .int .u64 y63, .slice y64p y64n y64c, .int .u64 y65, .int .i64 y66, .int .i64 y67, .slice y68p y68n y68c, .int .u64 y69, .int .u64 y70, .int .u64 y71, .int .u64 y72] fun w74 => ldI .i64 w74 (g1.add 0) fun x75 => ldI .u64 w74 (g1.add 1) fun x76 => ldI .i64 w74 (g1.add 2) fun x77 => ldI .i64 w74 (g1.add 3) fun x78 => ldI .i64 w74 (g1.add 4) fun x79 => ldI .u64 w74 (g1.add 5) fun x80 => ldSl w74 (g1.add 6) fun x81p x81n x81c => ldI .u64 w74 (g1.add 7) fun x82 => ldI .i64 w74 (g1.add 8) fun x83 => ldI .i64 w74 (g1.add 9) fun x84 => ldSl w74 (g1.add 10) fun x85p x85n x85c => ldI .u64 w74 (g1.add 11) fun x86 => ldI .u64 w74 (g1.add 12) fun x87 => ldI .u64 w74 (g1.add 13) fun x88 => ldI .u64 w74 (g1.add 14) fun x89 => Q (.tuple #[.agg #[.int .i64 x75, .int .u64 x76, .int .i64 x77, .int .i64 x78, .int .i64 x79, .int .u64 x80, .slice x81p x81n x81c, .int .u64 x82, .int .i64 x83, .int .i64 x84, .slice x85p x85n x85c, .int .u64 x86, .int .u64 x87, .int .u64 x88, .int .u64 x89], .bool y73]) w74)))
def X57.S (Q : Value → World → Prop) : Segs
  | _, _, _, _ => False
noncomputable def X57.an : Ann := (.seq .leaf (.seq (.seq .leaf (.cond (.seq .leaf .leaf) .leaf)) (.seq (.draw [0, 1, 3, 0, 0, 24, 63, 127, 127, 511, 1023] [[0, 1, 2, 3, 4, 5, 6, 7, 8, 9, 10]]) .leaf)))
noncomputable def X57.c : Code := Tryz.f57.body.getD .skip
theorem X57.v (Q : Value → World → Prop) : V Tryz.prog (X57.S Q) X57.an X57.c (retC Tryz.prog Tryz.f57 Q) := ⟨trivial, ⟨⟨trivial, ⟨⟨trivial, trivial⟩, trivial⟩⟩, ⟨trivial, trivial⟩⟩⟩
theorem X57.sound (a0 : Option Addr) (a1 : Int) (a2 : Int) (w : World) (Q : Value → World → Prop) (h : X57.f a0 a1 a2 w Q) : CallR Tryz.prog 57 #[.pointer a0, .int .i64 a1, .int .u64 a2] w Q :=
  fn_sound noGr mixed Tryz.func57 (c := X57.c) (an := X57.an) (S := X57.S Q) (φ := fun _ => 0) (args := [.pointer a0, .int .i64 a1, .int .u64 a2]) (by kernel_rfl) (by kernel_rfl) (by kernel_rfl) (X57.v Q) (Eq.mp (by kernel_rfl) h)
/-! ### (*mooring/mooringref4.CallTable).Drop: function 59 -/
def X59.f (a0 : Option Addr) (a1 : Int) (w : World) (Q : Value → World → Prop) : Prop := CallR Tryz.prog 79 #[.pointer a0, .int .u64 a1] w fun v1 w2 => ∃ (y3 : Int) (y4 : Bool), v1 = .tuple #[.int .i64 y3, .bool y4] ∧ bcase y4 (drewK w2 fun w5 => newK w5 #[] 22 fun g6 w7 => optP a0 fun p8 => ldSl w7 (p8.add 1) fun x9p x9n x9c => (World.cell? w5 (p8.add 1) = some (.slice x9p x9n x9c) ∧ World.cell? w7 (p8.add 1) = some (.slice x9p x9n x9c)) ∧ (0 ≤ ((0 : Nat) : Int) ∧ ((0 : Nat) : Int) ≤ y3 ∧ y3 ≤ ((x9c : Nat) : Int)) ∧ RunR Tryz.prog (Builtin.append_ #[51, 51] 51 #[.slice (some g6) 0 0, .slice (cutAt 1 x9c (Int.toNat ((0 : Nat) : Int)) x9p) (Int.toNat y3 - Int.toNat ((0 : Nat) : Int)) (x9c - Int.toNat ((0 : Nat) : Int))]) w7 fun v10 w11 => ∃ (s12p : Option Addr) (s12n s12c : Nat), v10 = .slice s12p s12n s12c ∧ optP a0 fun p13 => ldSl w11 (p13.add 1) fun x14p x14n x14c => (World.cell? w7 (p13.add 1) = some (.slice x14p x14n x14c) ∧ World.cell? w11 (p13.add 1) = some (.slice x14p x14n x14c)) ∧ (World.cell? w5 (p13.add 1) = some (.slice x14p x14n x14c) ∧ World.cell? w7 (p13.add 1) = some (.slice x14p x14n x14c)) ∧ (0 ≤ (IntKind.wrap .i64 (y3 + (1 : Int))) ∧ (IntKind.wrap .i64 (y3 + (1 : Int))) ≤ ((x14n : Nat) : Int) ∧ ((x14n : Nat) : Int) ≤ ((x14c : Nat) : Int)) ∧ RunR Tryz.prog (Builtin.append_ #[51, 51] 51 #[.slice s12p s12n s12c, .slice (cutAt 1 x14c (Int.toNat (IntKind.wrap .i64 (y3 + (1 : Int)))) x14p) (Int.toNat ((x14n : Nat) : Int) - Int.toNat (IntKind.wrap .i64 (y3 + (1 : Int)))) (x14c - Int.toNat (IntKind.wrap .i64 (y3 + (1 : Int))))]) w11 fun v15 w16 => ∃ (s17p : Option Addr) (s17n s17c : Nat), v15 = .slice s17p s17n s17c ∧ optP a0 fun p18 => stK w16 (p18.add 1) (.slice s17p s17n s17c) fun w19 => drewK w19 fun w20 => newK w20 #[] 50 fun g21 w22 => optP a0 fun p23 => ldSl w22 (p23.add 2) fun x24p x24n x24c => (World.cell? w20 (p23.add 2) = some (.slice x24p x24n x24c) ∧ World.cell? w22 (p23.add 2) = some (.slice x24p x24n x24c)) ∧ (0 ≤ ((0 : Nat) : Int) ∧ ((0 : Nat) : Int) ≤ y3 ∧ y3 ≤ ((x24c : Nat) : Int)) ∧ RunR Tryz.prog (Builtin.append_ #[55, 55] 55 #[.slice (some g21) 0 0, .slice (cutAt 15 x24c (Int.toNat ((0 : Nat) : Int)) x24p) (Int.toNat y3 - Int.toNat ((0 : Nat) : Int)) (x24c - Int.toNat ((0 : Nat) : Int))]) w22 fun v25 w26 => ∃ (s27p : Option Addr) (s27n s27c : Nat), v25 = .slice s27p s27n s27c ∧ optP a0 fun p28 => ldSl w26 (p28.add 2) fun x29p x29n x29c => (World.cell? w22 (p28.add 2) = some (.slice x29p x29n x29c) ∧ World.cell? w26 (p28.add 2) = some (.slice x29p x29n x29c)) ∧ (World.cell? w20 (p28.add 2) = some (.slice x29p x29n x29c) ∧ World.cell? w22 (p28.add 2) = some (.slice x29p x29n x29c)) ∧ (0 ≤ (IntKind.wrap .i64 (y3 + (1 : Int))) ∧ (IntKind.wrap .i64 (y3 + (1 : Int))) ≤ ((x29n : Nat) : Int) ∧ ((x29n : Nat) : Int) ≤ ((x29c : Nat) : Int)) ∧ RunR Tryz.prog (Builtin.append_ #[55, 55] 55 #[.slice s27p s27n s27c, .slice (cutAt 15 x29c (Int.toNat (IntKind.wrap .i64 (y3 + (1 : Int)))) x29p) (Int.toNat ((x29n : Nat) : Int) - Int.toNat (IntKind.wrap .i64 (y3 + (1 : Int)))) (x29c - Int.toNat (IntKind.wrap .i64 (y3 + (1 : Int))))]) w26 fun v30 w31 => ∃ (s32p : Option Addr) (s32n s32c : Nat), v30 = .slice s32p s32n s32c ∧ optP a0 fun p33 => stK w31 (p33.add 2) (.slice s32p s32n s32c) fun w34 => Q (.bool y4) w34) (Q (.bool y4) w2)
def X59.S (Q : Value → World → Prop) : Segs
  | _, _, _, _ => False
noncomputable def X59.an : Ann := (.seq .leaf (.seq .leaf (.seq (.seq .leaf (.cond (.seq (.draw [0, 0, 0, 4, 12, 28, 0, 124, 254, 0, 512, 1536, 3584, 0, 8192, 32256, 65534, 131071, 262143, 524287] [[0, 1, 2, 3, 4, 5, 6, 7, 8, 9, 10, 11, 12, 13, 14, 15, 16, 17, 18, 19]]) (.draw [0, 0, 0, 4, 12, 28, 0, 124, 254, 0, 512, 1536, 3584, 0, 8192, 32256, 65534, 131071, 262143, 524287] [[0, 1, 2, 3, 4, 5, 6, 7, 8, 9, 10, 11, 12, 13, 14, 15, 16, 17, 18, 19]])) .leaf)) (.seq .leaf .leaf))))
noncomputable def X59.c : Code := Tryz.f59.body.getD .skip
theorem X59.v (Q : Value → World → Prop) : V Tryz.prog (X59.S Q) X59.an X59.c (retC Tryz.prog Tryz.f59 Q) := ⟨trivial, ⟨trivial, ⟨⟨trivial, ⟨⟨trivial, trivial⟩, trivial⟩⟩, ⟨trivial, trivial⟩⟩⟩⟩
theorem X59.sound (a0 : Option Addr) (a1 : Int) (w : World) (Q : Value → World → Prop) (h : X59.f a0 a1 w Q) : CallR Tryz.prog 59 #[.pointer a0, .int .u64 a1] w Q :=
  fn_sound noGr mixed Tryz.func59 (c := X59.c) (an := X59.an) (S := X59.S Q) (φ := fun _ => 0) (args := [.pointer a0, .int .u64 a1]) (by kernel_rfl) (by kernel_rfl) (by kernel_rfl) (X59.v Q) (Eq.mp (by kernel_rfl) h)
/-! ### mooring/mooringref2.serial: function 97 -/
def X97.f (a0 : Bool) (a1 : Int) (w : World) (Q : Value → World → Prop) : Prop := bcase (!a0) (Q (.bool (a1 == (0 : Int))) w) (bcase (decide (a1 ≥ (1 : Int))) (Q (.bool (decide (a1 ≤ (72057594037927935 : Int)))) w) (Q (.bool false) w))
def X97.S (Q : Value → World → Prop) : Segs
  | _, _, _, _ => False
noncomputable def X97.an : Ann := (.seq .leaf (.seq (.seq .leaf (.cond (.seq .leaf .leaf) .leaf)) (.seq .leaf .leaf)))
noncomputable def X97.c : Code := Tryz.f97.body.getD .skip
theorem X97.v (Q : Value → World → Prop) : V Tryz.prog (X97.S Q) X97.an X97.c (retC Tryz.prog Tryz.f97 Q) := ⟨trivial, ⟨⟨trivial, ⟨⟨trivial, trivial⟩, trivial⟩⟩, ⟨trivial, trivial⟩⟩⟩
theorem X97.sound (a0 : Bool) (a1 : Int) (w : World) (Q : Value → World → Prop) (h : X97.f a0 a1 w Q) : CallR Tryz.prog 97 #[.bool a0, .int .u64 a1] w Q :=
  fn_sound noGr mixed Tryz.func97 (c := X97.c) (an := X97.an) (S := X97.S Q) (φ := fun _ => 0) (args := [.bool a0, .int .u64 a1]) (by kernel_rfl) (by kernel_rfl) (by kernel_rfl) (X97.v Q) (Eq.mp (by kernel_rfl) h)
/-! ### mooring/mooringref2.number: function 98 -/
def X98.f (a0 : Bool) (a1 : Int) (a2 : Int) (a3 : Int) (w : World) (Q : Value → World → Prop) : Prop := bcase (!a0) (Q (.bool (a1 == (0 : Int))) w) (CallR Tryz.prog 80 #[.int .i64 a1, .int .i64 a2, .int .i64 a3] w fun v1 w2 => ∃ (y3 : Bool), v1 = .bool y3 ∧ Q (.bool y3) w2)
def X98.S (Q : Value → World → Prop) : Segs
  | _, _, _, _ => False
noncomputable def X98.an : Ann := (.seq .leaf (.seq (.seq .leaf (.cond (.seq .leaf .leaf) .leaf)) (.seq .leaf .leaf)))
noncomputable def X98.c : Code := Tryz.f98.body.getD .skip
theorem X98.v (Q : Value → World → Prop) : V Tryz.prog (X98.S Q) X98.an X98.c (retC Tryz.prog Tryz.f98 Q) := ⟨trivial, ⟨⟨trivial, ⟨⟨trivial, trivial⟩, trivial⟩⟩, ⟨trivial, trivial⟩⟩⟩
theorem X98.sound (a0 : Bool) (a1 : Int) (a2 : Int) (a3 : Int) (w : World) (Q : Value → World → Prop) (h : X98.f a0 a1 a2 a3 w Q) : CallR Tryz.prog 98 #[.bool a0, .int .i64 a1, .int .i64 a2, .int .i64 a3] w Q :=
  fn_sound noGr mixed Tryz.func98 (c := X98.c) (an := X98.an) (S := X98.S Q) (φ := fun _ => 0) (args := [.bool a0, .int .i64 a1, .int .i64 a2, .int .i64 a3]) (by kernel_rfl) (by kernel_rfl) (by kernel_rfl) (X98.v Q) (Eq.mp (by kernel_rfl) h)
/-! ### (*mooring/mooringref4.CallTable).Next: function 77 -/
def X77.l0 (Q : Value → World → Prop) : Nat → (Option Addr) → Int → Int → Int → World → Prop
  | 0, _, _, _, _, _ => False
  | k + 1, t0, t1, t4, t6, w => optP t0 fun p1 => ldSl w (p1.add 1) fun x2p x2n x2c => bcase (decide (t6 < ((x2n : Nat) : Int))) (optP t0 fun p3 => ldSl w (p3.add 1) fun x4p x4n x4c => (0 ≤ t6 ∧ t6 < ((x4n : Nat) : Int)) ∧ optP x4p fun p5 => ldI .u64 w (p5.add (Int.toNat t6 * 1)) fun x6 => bcase (decide (x6 > t1)) (optP t0 fun p7 => ldSl w (p7.add 1) fun x8p x8n x8c => (0 ≤ t6 ∧ t6 < ((x8n : Nat) : Int)) ∧ optP x8p fun p9 => ldI .u64 w (p9.add (Int.toNat t6 * 1)) fun x10 => Q (.tuple #[.int .u64 x10, .bool true]) w) (X77.l0 Q k t0 t1 t4 (IntKind.wrap .i64 (t6 + (1 : Int))) w)) (Q (.tuple #[.int .u64 t4, .bool false]) w)
def X77.f (a0 : Option Addr) (a1 : Int) (w : World) (Q : Value → World → Prop) : Prop := ∃ m1, X77.l0 Q m1 a0 a1 (0 : Int) (0 : Int) w
def X77.S (Q : Value → World → Prop) : Segs
  | 0, φ, ρ, w => qP (ρ 0) fun t0 => qI .u64 (ρ 1) fun t1 => qI .u64 (ρ 4) fun t4 => qI .i64 (ρ 6) fun t6 => X77.l0 Q (φ 0) t0 t1 t4 t6 w
  | _, _, _, _ => False
noncomputable def X77.an : Ann := (.seq .leaf (.seq (.seq .leaf (.block (.loop 0 (.seq (.seq .leaf (.cond .leaf .leaf)) (.seq (.block (.seq .leaf (.cond (.seq .leaf .leaf) .leaf))) .leaf))))) (.seq .leaf .leaf)))
noncomputable def X77.c : Code := Tryz.f77.body.getD .skip
theorem X77.v (Q : Value → World → Prop) : V Tryz.prog (X77.S Q) X77.an X77.c (retC Tryz.prog Tryz.f77 Q) := ⟨trivial, ⟨⟨trivial, ⟨(by
    intro φ ρ w h
    simp only [X77.S] at h
    obtain ⟨t0, e0, h⟩ := qP_elim h
    obtain ⟨t1, e1, h⟩ := qI_elim h
    obtain ⟨t4, e4, h⟩ := qI_elim h
    obtain ⟨t6, e6, h⟩ := qI_elim h
    cases hk : φ 0 with
    | zero => rw [hk] at h; exact h.elim
    | succ k => rw [hk] at h; exact ⟨k, Nat.lt_succ_self k, ((((Env.nil.put (some 0) (.pointer t0)).put (some 1) (.int .u64 t1)).put (some 4) (.int .u64 t4)).put (some 6) (.int .i64 t6)), Env.le_put e6 (Env.le_put e4 (Env.le_put e1 (Env.le_put e0 (Env.le_nil _)))), Eq.mp (by kernel_rfl) h⟩), ⟨⟨trivial, ⟨trivial, trivial⟩⟩, ⟨⟨trivial, ⟨⟨trivial, trivial⟩, trivial⟩⟩, trivial⟩⟩⟩⟩, ⟨trivial, trivial⟩⟩⟩
theorem X77.sound (a0 : Option Addr) (a1 : Int) (w : World) (Q : Value → World → Prop) (h : X77.f a0 a1 w Q) : CallR Tryz.prog 77 #[.pointer a0, .int .u64 a1] w Q :=
  fn_sound noGr mixed Tryz.func77 (c := X77.c) (an := X77.an) (S := X77.S Q) (φ := fun _ => 0) (args := [.pointer a0, .int .u64 a1]) (by kernel_rfl) (by kernel_rfl) (by kernel_rfl) (X77.v Q) (Eq.mp (by kernel_rfl) h)
/-! ### (*mooring/mooringref4.CallTable).First: function 78 -/
def X78.f (a0 : Option Addr) (w : World) (Q : Value → World → Prop) : Prop := optP a0 fun p1 => ldSl w (p1.add 1) fun x2p x2n x2c => bcase (((x2n : Nat) : Int) == (0 : Int)) (Q (.tuple #[.int .u64 (0 : Int), .bool false]) w) (optP a0 fun p3 => ldSl w (p3.add 1) fun x4p x4n x4c => (0 ≤ (0 : Int) ∧ (0 : Int) < ((x4n : Nat) : Int)) ∧ optP x4p fun p5 => ldI .u64 w (p5.add (Int.toNat (0 : Int) * 1)) fun x6 => Q (.tuple #[.int .u64 x6, .bool true]) w)
def X78.S (Q : Value → World → Prop) : Segs
  | _, _, _, _ => False
noncomputable def X78.an : Ann := (.seq .leaf (.seq (.seq .leaf (.cond (.seq .leaf .leaf) .leaf)) (.seq .leaf .leaf)))
noncomputable def X78.c : Code := Tryz.f78.body.getD .skip
theorem X78.v (Q : Value → World → Prop) : V Tryz.prog (X78.S Q) X78.an X78.c (retC Tryz.prog Tryz.f78 Q) := ⟨trivial, ⟨⟨trivial, ⟨⟨trivial, trivial⟩, trivial⟩⟩, ⟨trivial, trivial⟩⟩⟩
theorem X78.sound (a0 : Option Addr) (w : World) (Q : Value → World → Prop) (h : X78.f a0 w Q) : CallR Tryz.prog 78 #[.pointer a0] w Q :=
  fn_sound noGr mixed Tryz.func78 (c := X78.c) (an := X78.an) (S := X78.S Q) (φ := fun _ => 0) (args := [.pointer a0]) (by kernel_rfl) (by kernel_rfl) (by kernel_rfl) (X78.v Q) (Eq.mp (by kernel_rfl) h)
/-! ### mooring/mooringhand.Calls: function 27 -/
def X27.l0 (Q : Value → World → Prop) : Nat → (Option Addr) → Nat → Nat → (Option Addr) → Nat → Nat → Int → World → Prop
  | 0, _, _, _, _, _, _, _, _ => False
  | k + 1, t0p, t0n, t0c, t1p, t1n, t1c, t5, w => bcase (decide (t5 < ((t0n : Nat) : Int))) (drewK w fun w1 => (0 ≤ t5 ∧ t5 < ((t0n : Nat) : Int)) ∧ optP t0p fun p2 => ldI .i64 w1 ((p2.add (Int.toNat t5 * 15)).add 0) fun x3 => ldI .u64 w1 ((p2.add (Int.toNat t5 * 15)).add 1) fun x4 => ldI .i64 w1 ((p2.add (Int.toNat t5 * 15)).add 2) fun x5 => ldI .i64 w1 ((p2.add (Int.toNat t5 * 15)).add 3) fun x6 => ldI .i64 w1 ((p2.add (Int.toNat t5 * 15)).add 4) fun x7 => ldI .u64 w1 ((p2.add (Int.toNat t5 * 15)).add 5) fun x8 => ldSl w1 ((p2.add (Int.toNat t5 * 15)).add 6) fun x9p x9n x9c => ldI .u64 w1 ((p2.add (Int.toNat t5 * 15)).add 7) fun x10 => ldI .i64 w1 ((p2.add (Int.toNat t5 * 15)).add 8) fun x11 => ldI .i64 w1 ((p2.add (Int.toNat t5 * 15)).add 9) fun x12 => ldSl w1 ((p2.add (Int.toNat t5 * 15)).add 10) fun x13p x13n x13c => ldI .u64 w1 ((p2.add (Int.toNat t5 * 15)).add 11) fun x14 => ldI .u64 w1 ((p2.add (Int.toNat t5 * 15)).add 12) fun x15 => ldI .u64 w1 ((p2.add (Int.toNat t5 * 15)).add 13) fun x16 => ldI .u64 w1 ((p2.add (Int.toNat t5 * 15)).add 14) fun x17 => (0 ≤ t5 ∧ t5 < ((t1n : Nat) : Int)) ∧ optP t1p fun p18 => ldI .i64 w1 ((p18.add (Int.toNat t5 * 15)).add 0) fun x19 => ldI .u64 w1 ((p18.add (Int.toNat t5 * 15)).add 1) fun x20 => ldI .i64 w1 ((p18.add (Int.toNat t5 * 15)).add 2) fun x21 => ldI .i64 w1 ((p18.add (Int.toNat t5 * 15)).add 3) fun x22 => ldI .i64 w1 ((p18.add (Int.toNat t5 * 15)).add 4) fun x23 => ldI .u64 w1 ((p18.add (Int.toNat t5 * 15)).add 5) fun x24 => ldSl w1 ((p18.add (Int.toNat t5 * 15)).add 6) fun x25p x25n x25c => ldI .u64 w1 ((p18.add (Int.toNat t5 * 15)).add 7) fun x26 => ldI .i64 w1 ((p18.add (Int.toNat t5 * 15)).add 8) fun x27 => ldI .i64 w1 ((p18.add (Int.toNat t5 * 15)).add 9) fun x28 => ldSl w1 ((p18.add (Int.toNat t5 * 15)).add 10) fun x29p x29n x29c => ldI .u64 w1 ((p18.add (Int.toNat t5 * 15)).add 11) fun x30 => ldI .u64 w1 ((p18.add (Int.toNat t5 * 15)).add 12) fun x31 => ldI .u64 w1 ((p18.add (Int.toNat t5 * 15)).add 13) fun x32 => ldI .u64 w1 ((p18.add (Int.toNat t5 * 15)).add 14) fun x33 => CallR Tryz.prog 19 #[.agg #[.int .i64 x3, .int .u64 x4, .int .i64 x5, .int .i64 x6, .int .i64 x7, .int .u64 x8, .slice x9p x9n x9c, .int .u64 x10, .int .i64 x11, .int .i64 x12, .slice x13p x13n x13c, .int .u64 x14, .int .u64 x15, .int .u64 x16, .int .u64 x17], .agg #[.int .i64 x19, .int .u64 x20, .int .i64 x21, .int .i64 x22, .int .i64 x23, .int .u64 x24, .slice x25p x25n x25c, .int .u64 x26, .int .i64 x27, .int .i64 x28, .slice x29p x29n x29c, .int .u64 x30, .int .u64 x31, .int .u64 x32, .int .u64 x33]] w1 fun v34 w35 => ∃ (y36 : Bool), v34 = .bool y36 ∧ bcase (!y36) (Q (.bool false) w35) (X27.l0 Q k t0p t0n t0c t1p t1n t1c (IntKind.wrap .i64 (t5 + (1 : Int))) w35)) (Q (.bool true) w)
def X27.f (a0p : Option Addr) (a0n : Nat) (a0c : Nat) (a1p : Option Addr) (a1n : Nat) (a1c : Nat) (w : World) (Q : Value → World → Prop) : Prop := bcase (((a0n : Nat) : Int) != ((a1n : Nat) : Int)) (Q (.bool false) w) (∃ m1, X27.l0 Q m1 a0p a0n a0c a1p a1n a1c (0 : Int) w)
def X27.S (Q : Value → World → Prop) : Segs
  | 0, φ, ρ, w => qSl (ρ 0) fun t0p t0n t0c => qSl (ρ 1) fun t1p t1n t1c => qI .i64 (ρ 5) fun t5 => X27.l0 Q (φ 0) t0p t0n t0c t1p t1n t1c t5 w
  | _, _, _, _ => False
noncomputable def X27.an : Ann := (.seq .leaf (.seq (.seq .leaf (.cond (.seq .leaf .leaf) .leaf)) (.seq (.seq .leaf (.block (.loop 0 (.seq (.seq .leaf (.cond .leaf .leaf)) (.seq (.block (.seq (.draw [0, 0, 3, 7, 0, 0, 48, 112, 255, 511] [[0, 1, 2, 3, 4, 5, 6, 7, 8, 9]]) (.cond (.seq .leaf .leaf) .leaf))) .leaf))))) (.seq .leaf .leaf))))
noncomputable def X27.c : Code := Tryz.f27.body.getD .skip
theorem X27.v (Q : Value → World → Prop) : V Tryz.prog (X27.S Q) X27.an X27.c (retC Tryz.prog Tryz.f27 Q) := ⟨trivial, ⟨⟨trivial, ⟨⟨trivial, trivial⟩, trivial⟩⟩, ⟨⟨trivial, ⟨(by
    intro φ ρ w h
    simp only [X27.S] at h
    obtain ⟨t0p, t0n, t0c, e0, h⟩ := qSl_elim h
    obtain ⟨t1p, t1n, t1c, e1, h⟩ := qSl_elim h
    obtain ⟨t5, e5, h⟩ := qI_elim h
    cases hk : φ 0 with
    | zero => rw [hk] at h; exact h.elim
    | succ k => rw [hk] at h; exact ⟨k, Nat.lt_succ_self k, (((Env.nil.put (some 0) (.slice t0p t0n t0c)).put (some 1) (.slice t1p t1n t1c)).put (some 5) (.int .i64 t5)), Env.le_put e5 (Env.le_put e1 (Env.le_put e0 (Env.le_nil _))), Eq.mp (by kernel_rfl) h⟩), ⟨⟨trivial, ⟨trivial, trivial⟩⟩, ⟨⟨trivial, ⟨⟨trivial, trivial⟩, trivial⟩⟩, trivial⟩⟩⟩⟩, ⟨trivial, trivial⟩⟩⟩⟩
theorem X27.sound (a0p : Option Addr) (a0n : Nat) (a0c : Nat) (a1p : Option Addr) (a1n : Nat) (a1c : Nat) (w : World) (Q : Value → World → Prop) (h : X27.f a0p a0n a0c a1p a1n a1c w Q) : CallR Tryz.prog 27 #[.slice a0p a0n a0c, .slice a1p a1n a1c] w Q :=
  fn_sound noGr mixed Tryz.func27 (c := X27.c) (an := X27.an) (S := X27.S Q) (φ := fun _ => 0) (args := [.slice a0p a0n a0c, .slice a1p a1n a1c]) (by kernel_rfl) (by kernel_rfl) (by kernel_rfl) (X27.v Q) (Eq.mp (by kernel_rfl) h)
/-! ### (*mooring/mooringref20.Calls).Held: function 30 -/
def X30.l0 (Q : Value → World → Prop) : Nat → (Option Addr) → (Option Addr) → Nat → Nat → Int → World → Prop
  | 0, _, _, _, _, _, _ => False
  | k + 1, t0, t3p, t3n, t3c, t4, w => optP t0 fun p1 => ldSl w ((p1.add 89).add 2) fun x2p x2n x2c => bcase (decide (t4 < ((x2n : Nat) : Int))) (optP t0 fun p3 => ldSl w ((p3.add 89).add 2) fun x4p x4n x4c => (0 ≤ t4 ∧ t4 < ((x4n : Nat) : Int)) ∧ optP x4p fun p5 => ldI .i64 w ((p5.add (Int.toNat t4 * 15)).add 0) fun x6 => ldI .u64 w ((p5.add (Int.toNat t4 * 15)).add 1) fun x7 => ldI .i64 w ((p5.add (Int.toNat t4 * 15)).add 2) fun x8 => ldI .i64 w ((p5.add (Int.toNat t4 * 15)).add 3) fun x9 => ldI .i64 w ((p5.add (Int.toNat t4 * 15)).add 4) fun x10 => ldI .u64 w ((p5.add (Int.toNat t4 * 15)).add 5) fun x11 => ldSl w ((p5.add (Int.toNat t4 * 15)).add 6) fun x12p x12n x12c => ldI .u64 w ((p5.add (Int.toNat t4 * 15)).add 7) fun x13 => ldI .i64 w ((p5.add (Int.toNat t4 * 15)).add 8) fun x14 => ldI .i64 w ((p5.add (Int.toNat t4 * 15)).add 9) fun x15 => ldSl w ((p5.add (Int.toNat t4 * 15)).add 10) fun x16p x16n x16c => ldI .u64 w ((p5.add (Int.toNat t4 * 15)).add 11) fun x17 => ldI .u64 w ((p5.add (Int.toNat t4 * 15)).add 12) fun x18 => ldI .u64 w ((p5.add (Int.toNat t4 * 15)).add 13) fun x19 => ldI .u64 w ((p5.add (Int.toNat t4 * 15)).add 14) fun x20 => newK w #[.int .i64 (0 : Int), .int .u64 (0 : Int), .int .i64 (0 : Int), .int .i64 (0 : Int), .int .i64 (0 : Int), .int .u64 (0 : Int), .slice none 0 0, .int .u64 (0 : Int), .int .i64 (0 : Int), .int .i64 (0 : Int), .slice none 0 0, .int .u64 (0 : Int), .int .u64 (0 : Int), .int .u64 (0 : Int), .int .u64 (0 : Int)] 50 fun g21 w22 => stAll w22 g21 [.int .i64 x6, .int .u64 x7, .int .i64 x8, .int .i64 x9, .int .i64 x10, .int .u64 x11, .slice x12p x12n x12c, .int .u64 x13, .int .i64 x14, .int .i64 x15, .slice x16p x16n x16c, .int .u64 x17, .int .u64 x18, .int .u64 x19, .int .u64 x20] fun w23 => ldI .i64 w23 (g21.add 8) fun x24 => bcase (x24 == (1 : Int)) (ldI .i64 w23 ((g21.add 4).add 0) fun x25 => ldI .u64 w23 ((g21.add 4).add 1) fun x26 => newK w23 #[.int .i64 x25, .int .u64 x26] 37 fun g27 w28 => CallR Tryz.prog 64 #[.slice t3p t3n t3c, .slice (some g27) 1 1] w28 fun v29 w30 => ∃ (y31p : Option Addr) (y31n y31c : Nat), v29 = .slice y31p y31n y31c ∧ ldSl w30 (g21.add 6) fun x32p x32n x32c => CallR Tryz.prog 64 #[.slice y31p y31n y31c, .slice x32p x32n x32c] w30 fun v33 w34 => ∃ (y35p : Option Addr) (y35n y35c : Nat), v33 = .slice y35p y35n y35c ∧ X30.l0 Q k t0 y35p y35n y35c (IntKind.wrap .i64 (t4 + (1 : Int))) w34) (ldI .i64 w23 (g21.add 8) fun x36 => bcase (x36 == (4 : Int)) (ldI .i64 w23 ((g21.add 4).add 0) fun x37 => ldI .u64 w23 ((g21.add 4).add 1) fun x38 => newK w23 #[.int .i64 x37, .int .u64 x38] 37 fun g39 w40 => CallR Tryz.prog 64 #[.slice t3p t3n t3c, .slice (some g39) 1 1] w40 fun v41 w42 => ∃ (y43p : Option Addr) (y43n y43c : Nat), v41 = .slice y43p y43n y43c ∧ ldSl w42 (g21.add 6) fun x44p x44n x44c => CallR Tryz.prog 64 #[.slice y43p y43n y43c, .slice x44p x44n x44c] w42 fun v45 w46 => ∃ (y47p : Option Addr) (y47n y47c : Nat), v45 = .slice y47p y47n y47c ∧ X30.l0 Q k t0 y47p y47n y47c (IntKind.wrap .i64 (t4 + (1 : Int))) w46) (ldSl w23 (g21.add 10) fun x48p x48n x48c => CallR Tryz.prog 64 #[.slice t3p t3n t3c, .slice x48p x48n x48c] w23 fun v49 w50 => ∃ (y51p : Option Addr) (y51n y51c : Nat), v49 = .slice y51p y51n y51c ∧ X30.l0 Q k t0 y51p y51n y51c (IntKind.wrap .i64 (t4 + (1 : Int))) w50))) (Q (.slice t3p t3n t3c) w)
def X30.f (a0 : Option Addr) (w : World) (Q : Value → World → Prop) : Prop := ∃ m1, X30.l0 Q m1 a0 none 0 0 (0 : Int) w
def X30.S (Q : Value → World → Prop) : Segs
  | 0, φ, ρ, w => qP (ρ 0) fun t0 => qSl (ρ 3) fun t3p t3n t3c => qI .i64 (ρ 4) fun t4 => X30.l0 Q (φ 0) t0 t3p t3n t3c t4 w
  | _, _, _, _ => False
noncomputable def X30.an : Ann := (.seq .leaf (.seq .leaf (.seq (.seq .leaf (.block (.loop 0 (.seq (.seq .leaf (.cond .leaf .leaf)) (.seq (.block (.seq .leaf (.seq (.seq .leaf (.cond (.seq .leaf (.seq .leaf .leaf)) .leaf)) .leaf))) .leaf))))) (.seq .leaf .leaf))))
noncomputable def X30.c : Code := Tryz.f30.body.getD .skip
theorem X30.v (Q : Value → World → Prop) : V Tryz.prog (X30.S Q) X30.an X30.c (retC Tryz.prog Tryz.f30 Q) := ⟨trivial, ⟨trivial, ⟨⟨trivial, ⟨(by
    intro φ ρ w h
    simp only [X30.S] at h
    obtain ⟨t0, e0, h⟩ := qP_elim h
    obtain ⟨t3p, t3n, t3c, e3, h⟩ := qSl_elim h
    obtain ⟨t4, e4, h⟩ := qI_elim h
    cases hk : φ 0 with
    | zero => rw [hk] at h; exact h.elim
    | succ k => rw [hk] at h; exact ⟨k, Nat.lt_succ_self k, (((Env.nil.put (some 0) (.pointer t0)).put (some 3) (.slice t3p t3n t3c)).put (some 4) (.int .i64 t4)), Env.le_put e4 (Env.le_put e3 (Env.le_put e0 (Env.le_nil _))), Eq.mp (by kernel_rfl) h⟩), ⟨⟨trivial, ⟨trivial, trivial⟩⟩, ⟨⟨trivial, ⟨⟨trivial, ⟨⟨trivial, ⟨trivial, trivial⟩⟩, trivial⟩⟩, trivial⟩⟩, trivial⟩⟩⟩⟩, ⟨trivial, trivial⟩⟩⟩⟩
theorem X30.sound (a0 : Option Addr) (w : World) (Q : Value → World → Prop) (h : X30.f a0 w Q) : CallR Tryz.prog 30 #[.pointer a0] w Q :=
  fn_sound noGr mixed Tryz.func30 (c := X30.c) (an := X30.an) (S := X30.S Q) (φ := fun _ => 0) (args := [.pointer a0]) (by kernel_rfl) (by kernel_rfl) (by kernel_rfl) (X30.v Q) (Eq.mp (by kernel_rfl) h)
/-! ### (*mooring/mooringref20.Calls).Pinned: function 34 -/
def X34.l0 (Q : Value → World → Prop) : Nat → (Option Addr) → Addr → Int → World → Prop
  | 0, _, _, _, _ => False
  | k + 1, t0, t3, t5, w => optP t0 fun p1 => ldSl w ((p1.add 89).add 2) fun x2p x2n x2c => bcase (decide (t5 < ((x2n : Nat) : Int))) (optP t0 fun p3 => ldSl w ((p3.add 89).add 2) fun x4p x4n x4c => (0 ≤ t5 ∧ t5 < ((x4n : Nat) : Int)) ∧ optP x4p fun p5 => ldI .i64 w ((p5.add (Int.toNat t5 * 15)).add 0) fun x6 => ldI .u64 w ((p5.add (Int.toNat t5 * 15)).add 1) fun x7 => ldI .i64 w ((p5.add (Int.toNat t5 * 15)).add 2) fun x8 => ldI .i64 w ((p5.add (Int.toNat t5 * 15)).add 3) fun x9 => ldI .i64 w ((p5.add (Int.toNat t5 * 15)).add 4) fun x10 => ldI .u64 w ((p5.add (Int.toNat t5 * 15)).add 5) fun x11 => ldSl w ((p5.add (Int.toNat t5 * 15)).add 6) fun x12p x12n x12c => ldI .u64 w ((p5.add (Int.toNat t5 * 15)).add 7) fun x13 => ldI .i64 w ((p5.add (Int.toNat t5 * 15)).add 8) fun x14 => ldI .i64 w ((p5.add (Int.toNat t5 * 15)).add 9) fun x15 => ldSl w ((p5.add (Int.toNat t5 * 15)).add 10) fun x16p x16n x16c => ldI .u64 w ((p5.add (Int.toNat t5 * 15)).add 11) fun x17 => ldI .u64 w ((p5.add (Int.toNat t5 * 15)).add 12) fun x18 => ldI .u64 w ((p5.add (Int.toNat t5 * 15)).add 13) fun x19 => ldI .u64 w ((p5.add (Int.toNat t5 * 15)).add 14) fun x20 => newK w #[.int .i64 (0 : Int), .int .u64 (0 : Int), .int .i64 (0 : Int), .int .i64 (0 : Int), .int .i64 (0 : Int), .int .u64 (0 : Int), .slice none 0 0, .int .u64 (0 : Int), .int .i64 (0 : Int), .int .i64 (0 : Int), .slice none 0 0, .int .u64 (0 : Int), .int .u64 (0 : Int), .int .u64 (0 : Int), .int .u64 (0 : Int)] 50 fun g21 w22 => stAll w22 g21 [.int .i64 x6, .int .u64 x7, .int .i64 x8, .int .i64 x9, .int .i64 x10, .int .u64 x11, .slice x12p x12n x12c, .int .u64 x13, .int .i64 x14, .int .i64 x15, .slice x16p x16n x16c, .int .u64 x17, .int .u64 x18, .int .u64 x19, .int .u64 x20] fun w23 => ldI .i64 w23 (g21.add 8) fun x24 => bcase (x24 == (1 : Int)) (ldI .i64 w23 (t3.add 0) fun x25 => ldI .u64 w23 (t3.add 1) fun x26 => CallR Tryz.prog 61 #[.agg #[.int .i64 x25, .int .u64 x26]] w23 fun v27 w28 => ∃ (y29 : Bool), v27 = .bool y29 ∧ bcase (!y29) (ldSl w28 (g21.add 6) fun x30p x30n x30c => ldI .i64 w28 (t3.add 0) fun x31 => ldI .u64 w28 (t3.add 1) fun x32 => CallR Tryz.prog 66 #[.slice x30p x30n x30c, .agg #[.int .i64 x31, .int .u64 x32]] w28 fun v33 w34 => ∃ (y35 : Bool), v33 = .bool y35 ∧ bcase y35 (Q (.bool true) w34) (X34.l0 Q k t0 t3 (IntKind.wrap .i64 (t5 + (1 : Int))) w34)) (X34.l0 Q k t0 t3 (IntKind.wrap .i64 (t5 + (1 : Int))) w28)) (ldI .i64 w23 (g21.add 8) fun x36 => bcase (x36 == (4 : Int)) (ldI .i64 w23 (t3.add 0) fun x37 => ldI .u64 w23 (t3.add 1) fun x38 => CallR Tryz.prog 61 #[.agg #[.int .i64 x37, .int .u64 x38]] w23 fun v39 w40 => ∃ (y41 : Bool), v39 = .bool y41 ∧ bcase (!y41) (ldSl w40 (g21.add 6) fun x42p x42n x42c => ldI .i64 w40 (t3.add 0) fun x43 => ldI .u64 w40 (t3.add 1) fun x44 => CallR Tryz.prog 66 #[.slice x42p x42n x42c, .agg #[.int .i64 x43, .int .u64 x44]] w40 fun v45 w46 => ∃ (y47 : Bool), v45 = .bool y47 ∧ bcase y47 (Q (.bool true) w46) (X34.l0 Q k t0 t3 (IntKind.wrap .i64 (t5 + (1 : Int))) w46)) (X34.l0 Q k t0 t3 (IntKind.wrap .i64 (t5 + (1 : Int))) w40)) (X34.l0 Q k t0 t3 (IntKind.wrap .i64 (t5 + (1 : Int))) w23))) (Q (.bool false) w)
def X34.f (a0 : Option Addr) (a1_0 : Int) (a1_1 : Int) (w : World) (Q : Value → World → Prop) : Prop := newK w #[.int .i64 a1_0, .int .u64 a1_1] 37 fun g1 w2 => ∃ m3, X34.l0 Q m3 a0 g1 (0 : Int) w2
def X34.S (Q : Value → World → Prop) : Segs
  | 0, φ, ρ, w => qP (ρ 0) fun t0 => qA (ρ 3) fun t3 => qI .i64 (ρ 5) fun t5 => X34.l0 Q (φ 0) t0 t3 t5 w
  | _, _, _, _ => False
noncomputable def X34.an : Ann := (.seq .leaf (.seq (.seq .leaf (.block (.loop 0 (.seq (.seq .leaf (.cond .leaf .leaf)) (.seq (.block (.seq .leaf (.seq .leaf (.cond (.seq .leaf .leaf) .leaf)))) .leaf))))) (.seq .leaf .leaf)))
noncomputable def X34.c : Code := Tryz.f34.body.getD .skip
theorem X34.v (Q : Value → World → Prop) : V Tryz.prog (X34.S Q) X34.an X34.c (retC Tryz.prog Tryz.f34 Q) := ⟨trivial, ⟨⟨trivial, ⟨(by
    intro φ ρ w h
    simp only [X34.S] at h
    obtain ⟨t0, e0, h⟩ := qP_elim h
    obtain ⟨t3, e3, h⟩ := qA_elim h
    obtain ⟨t5, e5, h⟩ := qI_elim h
    cases hk : φ 0 with
    | zero => rw [hk] at h; exact h.elim
    | succ k => rw [hk] at h; exact ⟨k, Nat.lt_succ_self k, (((Env.nil.put (some 0) (.pointer t0)).put (some 3) (.pointer (some t3))).put (some 5) (.int .i64 t5)), Env.le_put e5 (Env.le_put e3 (Env.le_put e0 (Env.le_nil _))), Eq.mp (by kernel_rfl) h⟩), ⟨⟨trivial, ⟨trivial, trivial⟩⟩, ⟨⟨trivial, ⟨trivial, ⟨⟨trivial, trivial⟩, trivial⟩⟩⟩, trivial⟩⟩⟩⟩, ⟨trivial, trivial⟩⟩⟩
theorem X34.sound (a0 : Option Addr) (a1_0 : Int) (a1_1 : Int) (w : World) (Q : Value → World → Prop) (h : X34.f a0 a1_0 a1_1 w Q) : CallR Tryz.prog 34 #[.pointer a0, .agg #[.int .i64 a1_0, .int .u64 a1_1]] w Q :=
  fn_sound noGr mixed Tryz.func34 (c := X34.c) (an := X34.an) (S := X34.S Q) (φ := fun _ => 0) (args := [.pointer a0, .agg #[.int .i64 a1_0, .int .u64 a1_1]]) (by kernel_rfl) (by kernel_rfl) (by kernel_rfl) (X34.v Q) (Eq.mp (by kernel_rfl) h)
/-! ### mooring/mooringref20.some: function 64 -/
def X64.l0 (Q : Value → World → Prop) : Nat → (Option Addr) → Nat → Nat → (Option Addr) → Nat → Nat → Int → World → Prop
  | 0, _, _, _, _, _, _, _, _ => False
  | k + 1, t0p, t0n, t0c, t1p, t1n, t1c, t5, w => bcase (decide (t5 < ((t1n : Nat) : Int))) ((0 ≤ t5 ∧ t5 < ((t1n : Nat) : Int)) ∧ optP t1p fun p1 => ldI .i64 w ((p1.add (Int.toNat t5 * 2)).add 0) fun x2 => ldI .u64 w ((p1.add (Int.toNat t5 * 2)).add 1) fun x3 => CallR Tryz.prog 61 #[.agg #[.int .i64 x2, .int .u64 x3]] w fun v4 w5 => ∃ (y6 : Bool), v4 = .bool y6 ∧ bcase (!y6) ((0 ≤ t5 ∧ t5 < ((t1n : Nat) : Int)) ∧ optP t1p fun p7 => ldI .i64 w5 ((p7.add (Int.toNat t5 * 2)).add 0) fun x8 => ldI .u64 w5 ((p7.add (Int.toNat t5 * 2)).add 1) fun x9 => newK w5 #[.int .i64 x8, .int .u64 x9] 37 fun g10 w11 => RunR Tryz.prog (Builtin.append_ #[38, 38] 38 #[.slice t0p t0n t0c, .slice (some g10) 1 1]) w11 fun v12 w13 => ∃ (s14p : Option Addr) (s14n s14c : Nat), v12 = .slice s14p s14n s14c ∧ X64.l0 Q k s14p s14n s14c t1p t1n t1c (IntKind.wrap .i64 (t5 + (1 : Int))) w13) (X64.l0 Q k t0p t0n t0c t1p t1n t1c (IntKind.wrap .i64 (t5 + (1 : Int))) w5)) (Q (.slice t0p t0n t0c) w)
def X64.f (a0p : Option Addr) (a0n : Nat) (a0c : Nat) (a1p : Option Addr) (a1n : Nat) (a1c : Nat) (w : World) (Q : Value → World → Prop) : Prop := ∃ m1, X64.l0 Q m1 a0p a0n a0c a1p a1n a1c (0 : Int) w
def X64.S (Q : Value → World → Prop) : Segs
  | 0, φ, ρ, w => qSl (ρ 0) fun t0p t0n t0c => qSl (ρ 1) fun t1p t1n t1c => qI .i64 (ρ 5) fun t5 => X64.l0 Q (φ 0) t0p t0n t0c t1p t1n t1c t5 w
  | _, _, _, _ => False
noncomputable def X64.an : Ann := (.seq .leaf (.seq (.seq .leaf (.block (.loop 0 (.seq (.seq .leaf (.cond .leaf .leaf)) (.seq (.block (.seq .leaf (.cond .leaf .leaf))) .leaf))))) (.seq .leaf .leaf)))
noncomputable def X64.c : Code := Tryz.f64.body.getD .skip
theorem X64.v (Q : Value → World → Prop) : V Tryz.prog (X64.S Q) X64.an X64.c (retC Tryz.prog Tryz.f64 Q) := ⟨trivial, ⟨⟨trivial, ⟨(by
    intro φ ρ w h
    simp only [X64.S] at h
    obtain ⟨t0p, t0n, t0c, e0, h⟩ := qSl_elim h
    obtain ⟨t1p, t1n, t1c, e1, h⟩ := qSl_elim h
    obtain ⟨t5, e5, h⟩ := qI_elim h
    cases hk : φ 0 with
    | zero => rw [hk] at h; exact h.elim
    | succ k => rw [hk] at h; exact ⟨k, Nat.lt_succ_self k, (((Env.nil.put (some 0) (.slice t0p t0n t0c)).put (some 1) (.slice t1p t1n t1c)).put (some 5) (.int .i64 t5)), Env.le_put e5 (Env.le_put e1 (Env.le_put e0 (Env.le_nil _))), Eq.mp (by kernel_rfl) h⟩), ⟨⟨trivial, ⟨trivial, trivial⟩⟩, ⟨⟨trivial, ⟨trivial, trivial⟩⟩, trivial⟩⟩⟩⟩, ⟨trivial, trivial⟩⟩⟩
theorem X64.sound (a0p : Option Addr) (a0n : Nat) (a0c : Nat) (a1p : Option Addr) (a1n : Nat) (a1c : Nat) (w : World) (Q : Value → World → Prop) (h : X64.f a0p a0n a0c a1p a1n a1c w Q) : CallR Tryz.prog 64 #[.slice a0p a0n a0c, .slice a1p a1n a1c] w Q :=
  fn_sound noGr mixed Tryz.func64 (c := X64.c) (an := X64.an) (S := X64.S Q) (φ := fun _ => 0) (args := [.slice a0p a0n a0c, .slice a1p a1n a1c]) (by kernel_rfl) (by kernel_rfl) (by kernel_rfl) (X64.v Q) (Eq.mp (by kernel_rfl) h)
/-! ### mooring/mooringref20.among: function 66 -/
def X66.l0 (Q : Value → World → Prop) : Nat → (Option Addr) → Nat → Nat → Addr → Int → World → Prop
  | 0, _, _, _, _, _, _ => False
  | k + 1, t0p, t0n, t0c, t3, t5, w => bcase (decide (t5 < ((t0n : Nat) : Int))) (drewK w fun w1 => (0 ≤ t5 ∧ t5 < ((t0n : Nat) : Int)) ∧ optP t0p fun p2 => ldI .i64 w1 ((p2.add (Int.toNat t5 * 2)).add 0) fun x3 => ldI .u64 w1 ((p2.add (Int.toNat t5 * 2)).add 1) fun x4 => ldI .i64 w1 (t3.add 0) fun x5 => ldI .u64 w1 (t3.add 1) fun x6 => isStruct Tryz.prog 37 ∧ bcase ((x3 == x5) && ((x4 == x6) && true)) (Q (.bool true) w1) (X66.l0 Q k t0p t0n t0c t3 (IntKind.wrap .i64 (t5 + (1 : Int))) w1)) (Q (.bool false) w)
def X66.f (a0p : Option Addr) (a0n : Nat) (a0c : Nat) (a1_0 : Int) (a1_1 : Int) (w : World) (Q : Value → World → Prop) : Prop := newK w #[.int .i64 a1_0, .int .u64 a1_1] 37 fun g1 w2 => ∃ m3, X66.l0 Q m3 a0p a0n a0c g1 (0 : Int) w2
def X66.S (Q : Value → World → Prop) : Segs
  | 0, φ, ρ, w => qSl (ρ 0) fun t0p t0n t0c => qA (ρ 3) fun t3 => qI .i64 (ρ 5) fun t5 => X66.l0 Q (φ 0) t0p t0n t0c t3 t5 w
  | _, _, _, _ => False
noncomputable def X66.an : Ann := (.seq .leaf (.seq (.seq .leaf (.block (.loop 0 (.seq (.seq .leaf (.cond .leaf .leaf)) (.seq (.block (.seq (.draw [0, 0, 3, 7, 0, 31] [[0, 1, 2, 3, 4, 5]]) (.cond (.seq .leaf .leaf) .leaf))) .leaf))))) (.seq .leaf .leaf)))
noncomputable def X66.c : Code := Tryz.f66.body.getD .skip
theorem X66.v (Q : Value → World → Prop) : V Tryz.prog (X66.S Q) X66.an X66.c (retC Tryz.prog Tryz.f66 Q) := ⟨trivial, ⟨⟨trivial, ⟨(by
    intro φ ρ w h
    simp only [X66.S] at h
    obtain ⟨t0p, t0n, t0c, e0, h⟩ := qSl_elim h
    obtain ⟨t3, e3, h⟩ := qA_elim h
    obtain ⟨t5, e5, h⟩ := qI_elim h
    cases hk : φ 0 with
    | zero => rw [hk] at h; exact h.elim
    | succ k => rw [hk] at h; exact ⟨k, Nat.lt_succ_self k, (((Env.nil.put (some 0) (.slice t0p t0n t0c)).put (some 3) (.pointer (some t3))).put (some 5) (.int .i64 t5)), Env.le_put e5 (Env.le_put e3 (Env.le_put e0 (Env.le_nil _))), Eq.mp (by kernel_rfl) h⟩), ⟨⟨trivial, ⟨trivial, trivial⟩⟩, ⟨⟨trivial, ⟨⟨trivial, trivial⟩, trivial⟩⟩, trivial⟩⟩⟩⟩, ⟨trivial, trivial⟩⟩⟩
theorem X66.sound (a0p : Option Addr) (a0n : Nat) (a0c : Nat) (a1_0 : Int) (a1_1 : Int) (w : World) (Q : Value → World → Prop) (h : X66.f a0p a0n a0c a1_0 a1_1 w Q) : CallR Tryz.prog 66 #[.slice a0p a0n a0c, .agg #[.int .i64 a1_0, .int .u64 a1_1]] w Q :=
  fn_sound noGr mixed Tryz.func66 (c := X66.c) (an := X66.an) (S := X66.S Q) (φ := fun _ => 0) (args := [.slice a0p a0n a0c, .agg #[.int .i64 a1_0, .int .u64 a1_1]]) (by kernel_rfl) (by kernel_rfl) (by kernel_rfl) (X66.v Q) (Eq.mp (by kernel_rfl) h)
end Go.Proofs.YtdgoalhnkegbmaaGreatX
namespace Go.Proofs.YtdgoalhnkegbmaaGreatX
open Go.RowKit
set_option linter.unusedVariables false
set_option linter.unusedSimpArgs false
structure RT_CB (w : World) (g : Nat) (cs : List Value) (foot : List Nat) (most : Int) (l : List (Int × Cl)) (pk pv : Option Addr) (ck cv : Nat) : Prop where
  blk : Blk w g cs 59
  c0 : cs[89]? = some (.int .i64 most)
  c1 : cs[89 + 1]? = some (.slice pk l.length ck)
  c2 : cs[89 + 2]? = some (.slice pv l.length cv)
  ks : Own 22 1 w pk l.length ck ((keys l).map (Value.int .u64))
  vs : Own 50 15 w pv l.length cv (l.flatMap vc_CB)
  ft : foot = g :: (fbl pk ++ fbl pv)
  gk : g ∉ fbl pk
  gv : g ∉ fbl pv
  kv : ∀ x ∈ fbl pk, x ∉ fbl pv
  srt : Srt ilt (keys l)
  top : l.length ≤ 100000
section
variable {w w' : World} {g : Nat} {cs : List Value} {foot S : List Nat} {most : Int} {l : List (Int × Cl)} {pk pv : Option Addr} {ck cv : Nat} {Q : Value → World → Prop} {k : Int}
theorem RT_CB.keep (t : RT_CB w g cs foot most l pk pv ck cv) (f : Fr S w w') (hd : ∀ x ∈ foot, x ∉ S) : RT_CB w' g cs foot most l pk pv ck cv := by
  refine ⟨t.blk.keep f (hd g ?_), t.c0, t.c1, t.c2, t.ks.keep f (fun x hx => hd x ?_), t.vs.keep f (fun x hx => hd x ?_), t.ft, t.gk, t.gv, t.kv, t.srt, t.top⟩ <;> rw [t.ft] <;> simp_all
theorem RT_CB.keep' (t : RT_CB w g cs foot most l pk pv ck cv) (f : Fr [] w w') : RT_CB w' g cs foot most l pk pv ck cv := t.keep f (by simp)
theorem RT_CB.lt (t : RT_CB w g cs foot most l pk pv ck cv) : ∀ x ∈ foot, x < w.heap.size := by
  intro x hx
  rw [t.ft] at hx
  rcases List.mem_cons.1 hx with rfl | hx
  · exact t.blk.lt
  · rcases List.mem_append.1 hx with hx | hx
    · exact t.ks.lt x hx
    · exact t.vs.lt x hx
/-- another cell of the block is stored -/
theorem RT_CB.st (t : RT_CB w g cs foot most l pk pv ck cv) {i : Nat} {v : Value} (hi : i < cs.length) (h0 : i ≠ 89) (h1 : i ≠ 89 + 1) (h2 : i ≠ 89 + 2) {K : World → Prop}
    (hK : ∀ w', RT_CB w' g (cs.set i v) foot most l pk pv ck cv → Fr [g] w w' → K w') : stK w ((at0 g 0).add i) v K := by
  refine stB t.blk hi fun w' b f => hK w' ⟨b, ?_, ?_, ?_, t.ks.keep f (fun x hx hm => t.gk (by simp at hm; rwa [← hm])), t.vs.keep f (fun x hx hm => t.gv (by simp at hm; rwa [← hm])), t.ft, t.gk, t.gv, t.kv, t.srt, t.top⟩ f
  · rw [List.getElem?_set_ne h0]; exact t.c0
  · rw [List.getElem?_set_ne h1]; exact t.c1
  · rw [List.getElem?_set_ne h2]; exact t.c2
theorem RT_CB.m0 (t : RT_CB w g cs foot most l pk pv ck cv) : w.cell? ((at0 g 89).add 0) = some (.int .i64 most) := by rw [add_at]; exact t.blk.cell t.c0
theorem RT_CB.k1 (t : RT_CB w g cs foot most l pk pv ck cv) : w.cell? ((at0 g 89).add 1) = some (.slice pk l.length ck) := by rw [add_at]; exact t.blk.cell t.c1
theorem RT_CB.v2 (t : RT_CB w g cs foot most l pk pv ck cv) : w.cell? ((at0 g 89).add 2) = some (.slice pv l.length cv) := by rw [add_at]; exact t.blk.cell t.c2
theorem place_l0_CB (t : RT_CB w g cs foot most l pk pv ck cv) (hQ : ∀ w', Fr [] w w' → Q (.tuple #[.int .i64 (at_ ilt l k : Int), .bool (has ilt l k)]) w') :
    ∀ (m i : Nat), l.length - i < m → i ≤ at_ ilt l k → X79.l0 Q m (some (at0 g 89)) k (i : Int) w
  | 0, i, hm, _ => by omega
  | m + 1, i, hm, hi => by
    have hal := at_le (lt := ilt) l k
    have htop := t.top
    rw [X79.l0]
    simp only [optP_some]
    refine ld_sl t.k1 (bc_dec (fun h1 => ld_sl t.k1 ⟨⟨by omega, by omega⟩, ?_⟩) (fun h1 => ?_))
    · have hlt : i < (keys l).length := by simp; omega
      have hg := List.getElem?_eq_getElem hlt
      generalize (keys l)[i] = x at hg
      obtain ⟨a, ha, hx⟩ := cell_73 t.ks.cells hg
      refine opt_some ha (ld_int (by rw [Int.toNat_natCast]; exact hx) (bc_dec (fun hge => ?_) (fun hnl => ?_)))
      · have hr : i = at_ ilt l k := by
          by_cases h : i < at_ ilt l k
          · have := rank_lt (lt := ilt) h hg
            simp [ilt] at this
            omega
          · omega
        refine drawn fun w7 f7 _ => ?_
        have t7 := t.keep' f7
        obtain ⟨a7, ha7, hx7⟩ := cell_73 t7.ks.cells hg
        refine ld_sl t7.k1 ⟨⟨by omega, by omega⟩, opt_some ha7 (ld_int (by rw [Int.toNat_natCast]; exact hx7) ?_)⟩
        have : (x == k) = has ilt l k := by
          unfold has
          rw [← hr, hg]
          by_cases h : x = k <;> simp [h]
        rw [this, hr]
        exact hQ _ f7
      · have hlt2 : i < at_ ilt l k := by
          by_cases h : at_ ilt l k ≤ i
          · have := rank_ge ilt_lin t.srt h hg
            simp [ilt] at this
            omega
          · omega
        rw [i64w ((i : Int) + 1) (by omega) (by omega), show (i : Int) + 1 = ((i + 1 : Nat) : Int) by omega]
        exact place_l0_CB t hQ m (i + 1) (by omega) (by omega)
    · refine ld_sl t.k1 ?_
      have hr : at_ ilt l k = l.length := by omega
      have hh : has ilt l k = false := by
        unfold has
        rw [hr, List.getElem?_eq_none (by simp)]
        simp
      have := hQ w (Fr.refl w)
      rw [hr, hh] at this
      exact this
theorem place_CB (t : RT_CB w g cs foot most l pk pv ck cv) (hQ : ∀ w', Fr [] w w' → Q (.tuple #[.int .i64 (at_ ilt l k : Int), .bool (has ilt l k)]) w') : CallR Tryz.prog 79 #[.pointer (some (at0 g 89)), (Value.int .u64) k] w Q := by
  refine X79.sound _ _ _ _ ?_
  exact ⟨l.length + 1, place_l0_CB t hQ _ 0 (by omega) (by omega)⟩
theorem rget_CB (t : RT_CB w g cs foot most l pk pv ck cv) (hno : get ilt l k = none → ∀ w', Fr [] w w' → Q (.tuple #[(⟨0, 0, 0, 0, 0, 0, none, 0, 0, 0, 0, 0, none, 0, 0, 0, 0, 0, 0⟩ : Cl).val, .bool false]) w') (hK : ∀ v, get ilt l k = some v → ∀ w', Fr [] w w' → Q (.tuple #[v.val, .bool true]) w') :
    CallR Tryz.prog 50 #[.pointer (some (at0 g 89)), (Value.int .u64) k] w Q := by
  refine X50.sound _ _ _ _ ?_
  unfold X50.f
  simp only [optP_some]
  refine newB fun g1 w2 b1 f2 hg1 => ?_
  refine place_CB (t.keep' f2) fun w4 f4 => ⟨_, _, rfl, ?_⟩
  have f24 := f2.tr f4
  have t4 := t.keep' f24
  have b4 := b1.keep' f4
  have htop := t.top
  refine bc_bool (fun hh => ?_) (fun hh => ?_)
  · have hlt := at_lt hh
    rw [hh]
    refine ld_sl t4.v2 ⟨⟨by omega, by omega⟩, ?_⟩
    have hi := List.getElem?_eq_getElem hlt
    obtain ⟨p, hp, hc⟩ := own_at vc_len_CB t4.vs rfl hi
    rw [Int.toNat_natCast]
    refine opt_some hp (ld_Cl (s := (l[at_ ilt l k]).2) hc (stAllB b4 rfl fun w20 b20 f20 => ld_Cl (s := (l[at_ ilt l k]).2) b20.cat (stAllB b20 rfl fun w21 b21 f21 => ld_Cl (s := (l[at_ ilt l k]).2) b21.cat ?_)))
    exact hK _ (by unfold get; rw [if_pos hh, hi]; rfl) _ ((f24.loc f20 hg1).loc f21 hg1)
  · rw [hh]
    refine ld_Cl (s := ⟨0, 0, 0, 0, 0, 0, none, 0, 0, 0, 0, 0, none, 0, 0, 0, 0, 0, 0⟩) b4.cat (stAllB b4 rfl fun w20 b20 f20 => ld_Cl (s := ⟨0, 0, 0, 0, 0, 0, none, 0, 0, 0, 0, 0, none, 0, 0, 0, 0, 0, 0⟩) b20.cat ?_)
    exact hno (by unfold get; rw [if_neg (by simpa using hh)]) _ (f24.loc f20 hg1)
theorem rfirst_CB (t : RT_CB w g cs foot most l pk pv ck cv) (hQ : Q (.tuple #[(Value.int .u64) ((keys l)[0]?.getD 0), .bool (keys l)[0]?.isSome]) w) : CallR Tryz.prog 78 #[.pointer (some (at0 g 89))] w Q := by
  refine X78.sound _ _ _ ?_
  unfold X78.f
  simp only [optP_some]
  refine ld_sl t.k1 (bc_eq (fun h0 => ?_) (fun h0 => ld_sl t.k1 ⟨⟨by omega, by omega⟩, ?_⟩))
  · rw [List.getElem?_eq_none (by simp only [List.length_map]; omega)] at hQ
    exact hQ
  · have hlt : 0 < (keys l).length := by simp; omega
    have hg := List.getElem?_eq_getElem hlt
    rw [hg] at hQ
    obtain ⟨a, ha, hx⟩ := cell_73 t.ks.cells hg
    exact opt_some ha (ld_int hx hQ)
theorem rnext_l0_CB (t : RT_CB w g cs foot most l pk pv ck cv) (hQ : Q (.tuple #[(Value.int .u64) ((next ilt l k).getD 0), .bool (next ilt l k).isSome]) w) :
    ∀ (m i : Nat), l.length - i < m → i ≤ (if has ilt l k then at_ ilt l k + 1 else at_ ilt l k) → X77.l0 Q m (some (at0 g 89)) k 0 (i : Int) w
  | 0, i, hm, _ => by omega
  | m + 1, i, hm, hi => by
    have hal := at_le (lt := ilt) l k
    have htop := t.top
    have hil : i ≤ l.length := by
      split at hi
      · rename_i hh; have := at_lt hh; omega
      · omega
    rw [X77.l0]
    simp only [optP_some]
    refine ld_sl t.k1 (bc_dec (fun h1 => ld_sl t.k1 ⟨⟨by omega, by omega⟩, ?_⟩) (fun h1 => ?_))
    · have hlt : i < (keys l).length := by simp; omega
      have hg := List.getElem?_eq_getElem hlt
      generalize (keys l)[i] = x at hg
      obtain ⟨a, ha, hx⟩ := cell_73 t.ks.cells hg
      refine opt_some ha (ld_int (by rw [Int.toNat_natCast]; exact hx) (bc_dec (fun hgt => ld_sl t.k1 ⟨⟨by omega, by omega⟩, opt_some ha (ld_int (by rw [Int.toNat_natCast]; exact hx) ?_)⟩) (fun hng => ?_)))
      · have hr : i = (if has ilt l k then at_ ilt l k + 1 else at_ ilt l k) := by
          by_cases h : i < at_ ilt l k
          · have := rank_lt (lt := ilt) h hg
            simp [ilt] at this
            omega
          · split
            · rename_i hh
              by_cases he : i = at_ ilt l k
              · unfold has at hh
                rw [decide_eq_true_eq, ← he, hg] at hh
                injection hh with hh
                omega
              · rw [if_pos (by assumption)] at hi; omega
            · rw [if_neg (by assumption)] at hi; omega
        unfold next at hQ
        rw [← hr, hg] at hQ
        exact hQ
      · have hlt2 : i + 1 ≤ (if has ilt l k then at_ ilt l k + 1 else at_ ilt l k) := by
          by_cases h : i < at_ ilt l k
          · split <;> omega
          · have h2 := rank_ge ilt_lin (k := k) t.srt (Nat.le_of_not_lt h) hg
            simp [ilt] at h2
            have hxk : x = k := by omega
            subst hxk
            have hh : has ilt l x = true := (has_iff ilt_lin t.srt).2 (List.mem_of_getElem? hg)
            rw [if_pos hh]
            by_cases he : i = at_ ilt l x
            · omega
            · exfalso
              unfold has at hh
              rw [decide_eq_true_eq] at hh
              obtain ⟨q1, q2⟩ := List.getElem?_eq_some_iff.1 hh
              obtain ⟨q3, q4⟩ := List.getElem?_eq_some_iff.1 hg
              have := List.pairwise_iff_getElem.1 t.srt (at_ ilt l x) i q1 q3 (by omega)
              rw [q2, q4] at this
              simp [ilt] at this
        rw [i64w ((i : Int) + 1) (by omega) (by omega), show (i : Int) + 1 = ((i + 1 : Nat) : Int) by omega]
        exact rnext_l0_CB t hQ m (i + 1) (by omega) (by omega)
    · have hn : next ilt l k = none := by
        unfold next
        refine List.getElem?_eq_none ?_
        simp
        split <;> (split at hi <;> simp_all <;> omega)
      rw [hn] at hQ
      exact hQ
theorem rafter_CB (t : RT_CB w g cs foot most l pk pv ck cv) (hQ : Q (.tuple #[(Value.int .u64) ((after ilt l k).getD 0), .bool (after ilt l k).isSome]) w) : CallR Tryz.prog 49 #[.pointer (some (at0 g 89)), (Value.int .u64) k] w Q := by
  refine X49.sound _ _ _ _ ?_
  unfold X49.f
  refine X77.sound _ _ _ _ ⟨l.length + 1, rnext_l0_CB t ⟨_, _, rfl, ?_⟩ _ 0 (by omega) (by omega)⟩
  unfold after at hQ
  cases hn : next ilt l k with
  | some x => rw [hn] at hQ; exact bc_bool (fun _ => hQ) (fun h => by cases h)
  | none =>
    rw [hn] at hQ
    exact bc_bool (fun h => by cases h) (fun _ => rfirst_CB t ⟨_, _, rfl, hQ⟩)
end
end Go.Proofs.YtdgoalhnkegbmaaGreatX
namespace Go.Proofs.YtdgoalhnkegbmaaGreatX
open Go.RowKit
set_option linter.unusedVariables false
set_option linter.unusedSimpArgs false
section
variable {w w' : World} {g : Nat} {cs : List Value} {foot S : List Nat} {most : Int} {l : List (Int × Cl)} {pk pv : Option Addr} {ck cv : Nat} {Q : Value → World → Prop} {k : Int}
theorem len_put_CB (hh : has ilt l k = false) (v : Cl) : (put ilt l k v).length = l.length + 1 := by rw [put_length, if_neg (by simp [hh])]
theorem keys_put_CB (hh : has ilt l k = false) (v : Cl) : (keys (put ilt l k v)).map (Value.int .u64) = ((keys l).map (Value.int .u64)).take (at_ ilt l k * 1) ++ [(Value.int .u64) k] ++ ((keys l).map (Value.int .u64)).drop (at_ ilt l k * 1) := by
  have hput : put ilt l k v = l.take (at_ ilt l k) ++ (k, v) :: l.drop (at_ ilt l k) := by unfold put; rw [if_neg (by simp [hh])]
  rw [hput]
  simp [keys, List.map_take, List.map_drop]
theorem vals_put_CB (hh : has ilt l k = false) (v : Cl) : (put ilt l k v).flatMap vc_CB = (l.flatMap vc_CB).take (at_ ilt l k * 15) ++ v.cells ++ (l.flatMap vc_CB).drop (at_ ilt l k * 15) := by
  have hput : put ilt l k v = l.take (at_ ilt l k) ++ (k, v) :: l.drop (at_ ilt l k) := by unfold put; rw [if_neg (by simp [hh])]
  rw [hput, flat_ins vc_len_CB]
  rfl
theorem RT_CB.kl (t : RT_CB w g cs foot most l pk pv ck cv) : l.length ≤ ck ∧ (pk = none → ck = 0) := ⟨t.ks.le, fun h => by have := t.ks; subst h; exact this.none_c.2.1⟩
theorem RT_CB.vl (t : RT_CB w g cs foot most l pk pv ck cv) : l.length ≤ cv ∧ (pv = none → cv = 0) := ⟨t.vs.le, fun h => by have := t.vs; subst h; exact this.none_c.2.1⟩
theorem rput_end_CB {v : Cl} {kp vp : Option Addr} {kc vc : Nat} (t : RT_CB w g cs foot most l pk pv ck cv) (hh : has ilt l k = false) (hm : l.length < 100000)
    (ok : Own 22 1 w' kp (l.length + 1) kc ((keys (put ilt l k v)).map (Value.int .u64))) (ov : Own 50 15 w' vp (l.length + 1) vc ((put ilt l k v).flatMap vc_CB)) (f : Fr [] w w')
    (nk : ∀ x ∈ fbl kp, w.heap.size ≤ x) (nv : ∀ x ∈ fbl vp, w.heap.size ≤ x) (kv : ∀ x ∈ fbl kp, x ∉ fbl vp)
    (hK : ∀ foot' w', RT_CB w' g ((cs.set (89 + 1) (.slice kp (put ilt l k v).length kc)).set (89 + 2) (.slice vp (put ilt l k v).length vc)) foot' most (put ilt l k v) kp vp kc vc → Fr foot w w' → (∀ x ∈ foot', x ∈ foot ∨ w.heap.size ≤ x) → Q (.bool true) w') :
    stK w' ((at0 g 89).add 1) (.slice kp (l.length + 1) kc) fun w27 => stK w27 ((at0 g 89).add 2) (.slice vp (l.length + 1) vc) fun w29 => Q (.bool true) w29 := by
  have t' := t.keep' f
  have hgl := t.blk.lt
  have hlen1 := (List.getElem?_eq_some_iff.1 t.c1).1
  have hlen2 := (List.getElem?_eq_some_iff.1 t.c2).1
  have gk : g ∉ fbl kp := fun hm => by have := nk g hm; omega
  have gv : g ∉ fbl vp := fun hm => by have := nv g hm; omega
  refine stO t'.blk (by omega) fun w27 b27 f27 => stO b27 (by rw [List.length_set]; omega) fun w29 b29 f29 => ?_
  have hln := len_put_CB hh v
  refine hK (g :: (fbl kp ++ fbl vp)) w29 ⟨by rw [hln]; exact b29, ?_, ?_, ?_, ?_, ?_, rfl, gk, gv, kv, put_srt ilt_lin t.srt, by omega⟩ ?_ ?_
  · rw [List.getElem?_set_ne (by omega), List.getElem?_set_ne (by omega)]; exact t.c0
  · rw [List.getElem?_set_ne (by omega), List.getElem?_set_self (by omega)]
  · rw [List.getElem?_set_self (by rw [List.length_set]; omega)]
  · rw [hln]; exact (ok.keep f27 (fun x hx hm => gk (by simp at hm; rwa [← hm]))).keep f29 (fun x hx hm => gk (by simp at hm; rwa [← hm]))
  · rw [hln]; exact (ov.keep f27 (fun x hx hm => gv (by simp at hm; rwa [← hm]))).keep f29 (fun x hx hm => gv (by simp at hm; rwa [← hm]))
  · exact (f.any.inl f27 (by rw [t.ft]; simp)).inl f29 (by rw [t.ft]; simp)
  · intro x hx
    rcases List.mem_cons.1 hx with rfl | hx
    · exact .inl (by rw [t.ft]; simp)
    · rcases List.mem_append.1 hx with hx | hx
      · exact .inr (nk x hx)
      · exact .inr (nv x hx)
theorem rput_j0_CB {v : Cl} {gv : Nat} {kp : Option Addr} {kc : Nat} (t : RT_CB w g cs foot most l pk pv ck cv) (hh : has ilt l k = false) (hm : l.length < 100000) (f : Fr [] w w') (bv : Blk w' gv v.cells 50)
    (ok : Own 22 1 w' kp (l.length + 1) kc ((keys (put ilt l k v)).map (Value.int .u64))) (nk : ∀ x ∈ fbl kp, w.heap.size ≤ x)
    (hK : ∀ foot' pk' pv' ck' cv' w', RT_CB w' g ((cs.set (89 + 1) (.slice pk' (put ilt l k v).length ck')).set (89 + 2) (.slice pv' (put ilt l k v).length cv')) foot' most (put ilt l k v) pk' pv' ck' cv' → Fr foot w w' → (∀ x ∈ foot', x ∈ foot ∨ w.heap.size ≤ x) → Q (.bool true) w') :
    X54.j0 Q (some (at0 g 89)) (at0 gv 0) (at_ ilt l k : Int) kp (l.length + 1) kc none 0 0 w' := by
  unfold X54.j0
  have hal := at_le (lt := ilt) l k
  simp only [optP_some, toNat0, cutAt_zero', Nat.sub_zero, Int.toNat_natCast]
  have hfl : (l.flatMap vc_CB).length = l.length * 15 := flat_length vc_len_CB l
  have hs := f.size
  refine drawn fun w1 f1 e1 => ?_
  have t1 := t.keep' (f.tr f1)
  have bv1 := bv.keep' f1
  have ok1 := ok.keep' f1
  have hkl := ok1.lt
  have hvl := t1.vl
  have base : ∀ {w2 : World}, Fr [] w1 w2 → Fr [] w w2 := fun f2 => (f.tr f1).tr f2
  have e2 : 0 + at_ ilt l k + 1 + (l.length - at_ ilt l k) = l.length + 1 := by omega
  have hct := cells_cut (i := at_ ilt l k) t1.vs.cells hfl hal hvl.1 hvl.2
  have fin : ∀ {vp : Option Addr} {vc : Nat} {w2 : World}, Own 50 15 w2 vp (l.length + 1) vc ([] ++ (l.flatMap vc_CB).take (at_ ilt l k * 15) ++ v.cells ++ (l.flatMap vc_CB).drop (at_ ilt l k * 15)) → Fr [] w1 w2 → (∀ x ∈ fbl vp, w1.heap.size ≤ x) →
      stK w2 ((at0 g 89).add 1) (.slice kp (l.length + 1) kc) fun w27 => stK w27 ((at0 g 89).add 2) (.slice vp (l.length + 1) vc) fun w29 => Q (.bool true) w29 := by
    intro vp vc w2 ov f2 nv
    refine rput_end_CB t hh hm (ok1.keep' f2) (by rw [vals_put_CB hh]; simpa using ov) (base f2) nk (fun x hx => by have := nv x hx; omega) (fun x hx hm => by have := hkl x hx; have := nv x hm; omega) (fun foot' w' => hK foot' _ _ _ _ w')
  constructor
  · refine ld_sl t1.v2 ⟨⟨by omega, by omega, by omega⟩, app_step rowT55 (W := w1) Own.nil (cells_take t1.vs.cells (at_ ilt l k * 15)) (by rw [List.length_take]; omega) hvl.2 (one_take (fm_one_CB l) _) (by omega) (by omega) (by simp [fbl]) (Fr.refl _) ?_⟩
    intro p5 c5 w5 o5 n5 f5 _
    refine ld_Cl (bv1.keep' f5).cat ⟨⟨bv1.cat, (bv1.keep' f5).cat⟩, newB fun g6 w6 b6 f6 _ => ⟨⟨(t1.keep' f5).v2, (t1.keep' (f5.tr f6)).v2⟩, ?_⟩⟩
    refine app_step rowT55 (W := w1) (o5.keep' f6) (cells_one b6) v.len some_ne v.one (by omega) (by omega) n5 (f5.tr f6) ?_
    intro p7 c7 w7 o7 n7 f7 _
    refine ld_sl (t1.keep' f7).v2 ⟨⟨(t1.keep' (f5.tr f6)).v2, (t1.keep' f7).v2⟩, ⟨(t1.keep' f5).v2, (t1.keep' (f5.tr f6)).v2⟩, ⟨t1.v2, (t1.keep' f5).v2⟩, ⟨by omega, by omega, by omega⟩, ?_⟩
    refine app_step rowT55 (W := w1) o7 (hct.1.keep' f7) (by rw [List.length_drop, hfl]; omega) hct.2 (one_drop (fm_one_CB l) _) (by omega) (by omega) n7 f7 ?_
    intro p8 c8 w8 o8 n8 f8 _
    rw [e2] at o8 ⊢
    exact fin o8 f8 n8
  · refine ld_sl t1.v2 ⟨⟨by omega, by omega, by omega⟩, ld_Cl bv1.cat (newB fun g6 w6 b6 f6 _ => ⟨⟨t1.v2, (t1.keep' f6).v2⟩, ?_⟩)⟩
    have hb6 := b6.lt
    have h6 := f6.size
    have hg6 := bv1.lt
    refine app_step rowT55 (W := w1) Own.nil (cells_take (t1.keep' f6).vs.cells (at_ ilt l k * 15)) (by rw [List.length_take]; omega) hvl.2 (one_take (fm_one_CB l) _) (by omega) (by omega) (by simp [fbl]) f6 ?_
    intro p5 c5 w5 o5 n5 f5 g5
    have b65 := b6.keep g5 (by simp [fbl])
    refine ⟨⟨(bv1.keep' f6).cat, (bv1.keep' f5).cat⟩, app_step rowT55 (W := w1) o5 (cells_one b65) v.len some_ne v.one (by omega) (by omega) n5 f5 ?_⟩
    intro p7 c7 w7 o7 n7 f7 _
    refine ld_sl (t1.keep' f7).v2 ⟨⟨(t1.keep' f5).v2, (t1.keep' f7).v2⟩, ⟨(t1.keep' f6).v2, (t1.keep' f5).v2⟩, ⟨t1.v2, (t1.keep' f6).v2⟩, ⟨by omega, by omega, by omega⟩, ?_⟩
    refine app_step rowT55 (W := w1) o7 (hct.1.keep' f7) (by rw [List.length_drop, hfl]; omega) hct.2 (one_drop (fm_one_CB l) _) (by omega) (by omega) n7 f7 ?_
    intro p8 c8 w8 o8 n8 f8 _
    rw [e2] at o8 ⊢
    exact fin o8 f8 n8
theorem rput_CB {v : Cl} (t : RT_CB w g cs foot most l pk pv ck cv) (hmost : most ≤ 100000) (hno : has ilt l k = false → most ≤ l.length → ∀ w', Fr [] w w' → Q (.bool false) w')
    (hK : (has ilt l k = true ∨ (l.length : Int) < most) → ∀ foot' pk' pv' ck' cv' w', RT_CB w' g ((cs.set (89 + 1) (.slice pk' (put ilt l k v).length ck')).set (89 + 2) (.slice pv' (put ilt l k v).length cv')) foot' most (put ilt l k v) pk' pv' ck' cv' → Fr foot w w' → (∀ x ∈ foot', x ∈ foot ∨ w.heap.size ≤ x) → Q (.bool true) w') :
    CallR Tryz.prog 54 #[.pointer (some (at0 g 89)), (Value.int .u64) k, v.val] w Q := by
  apply X54.sound
  unfold X54.f
  simp only [optP_some]
  have hal := at_le (lt := ilt) l k
  have htop := t.top
  refine newB fun gv w2 bv f2 hgv2 => ?_
  have hgl := t.lt
  refine place_CB (t.keep' f2) fun w4 f4 => ⟨_, _, rfl, ?_⟩
  have f24 := f2.tr f4
  have bv4 := bv.keep' f4
  refine bc_bool (fun hh => ?_) (fun hh => ?_)
  · have hlt := at_lt hh
    refine drawn fun w7 f7 _ => ?_
    have f27 := f24.tr f7
    have t7 := t.keep' f27
    refine ld_sl t7.v2 (ld_Cl (bv4.keep' f7).cat ⟨⟨by omega, by omega⟩, ?_⟩)
    rw [Int.toNat_natCast]
    refine own_put vc_len_CB t7.vs hlt rfl (k, v) fun w22 o22 f22 => ?_
    have hput : put ilt l k v = l.set (at_ ilt l k) (k, v) := by unfold put; rw [if_pos hh]
    have hkeys : keys (put ilt l k v) = keys l := by
      rw [hput, keys, List.map_set]
      have h2 := hh
      simp only [has, decide_eq_true_eq] at h2
      obtain ⟨h1, h2⟩ := List.getElem?_eq_some_iff.1 h2
      have : ((k, v).1 : Int) = (keys l)[at_ ilt l k] := h2.symm
      rw [this, List.set_getElem_self]
    have hln : (put ilt l k v).length = l.length := by rw [hput, List.length_set]
    have c1' : cs[89 + 1]? = some (.slice pk (put ilt l k v).length ck) := by rw [hln]; exact t.c1
    have c2' : cs[89 + 2]? = some (.slice pv (put ilt l k v).length cv) := by rw [hln]; exact t.c2
    refine hK (.inl hh) foot pk pv ck cv w22 ?_ (f27.any.sub f22 fun x hx => by rw [t.ft]; simp [hx]) (fun x hx => .inl hx)
    rw [set_same c1', set_same c2']
    refine ⟨t7.blk.keep f22 t.gv, t.c0, c1', c2', ?_, ?_, t.ft, t.gk, t.gv, t.kv, by rw [hkeys]; exact t.srt, by omega⟩
    · rw [hln, hkeys]; exact t7.ks.keep f22 t.kv
    · rw [hln, hput]; exact o22
  · refine drawn fun w21 f21 _ => ?_
    have f221 := f24.tr f21
    have t21 := t.keep' f221
    refine ld_sl t21.k1 (ld_int t21.m0 (bc_dec (fun hge => hno hh (by omega) _ f221) (fun hlt => ?_)))
    simp only [toNat0, cutAt_zero', Nat.sub_zero, Int.toNat_natCast]
    refine drawn fun w1 f1 e1 => ?_
    have fb := f221.tr f1
    have t1 := t.keep' fb
    have bv1 := bv4.keep' (f21.tr f1)
    have hkl := t1.kl
    have hfl : ((keys l).map (Value.int .u64)).length = l.length * 1 := by simp
    have e2 : 0 + at_ ilt l k + 1 + (l.length - at_ ilt l k) = l.length + 1 := by omega
    have hct := cells_cut (i := at_ ilt l k) t1.ks.cells hfl hal hkl.1 hkl.2
    have hs := fb.size
    have fin : ∀ {kp : Option Addr} {kc : Nat} {w2 : World}, Own 22 1 w2 kp (l.length + 1) kc ([] ++ ((keys l).map (Value.int .u64)).take (at_ ilt l k * 1) ++ [(Value.int .u64) k] ++ ((keys l).map (Value.int .u64)).drop (at_ ilt l k * 1)) → Fr [] w1 w2 → (∀ x ∈ fbl kp, w1.heap.size ≤ x) →
        X54.j0 Q (some (at0 g 89)) (at0 gv 0) (at_ ilt l k : Int) kp (l.length + 1) kc none 0 0 w2 := by
      intro kp kc w2 ok f2 nk
      exact rput_j0_CB t hh (by omega) (fb.tr f2) (bv1.keep' f2) (by rw [keys_put_CB hh]; simpa using ok) (fun x hx => by have := nk x hx; omega) (hK (.inr (by omega)))
    constructor
    · refine ld_sl t1.k1 ⟨⟨by omega, by omega, by omega⟩, app_step rowT51 (W := w1) Own.nil (cells_take t1.ks.cells (at_ ilt l k * 1)) (by rw [List.length_take]; omega) hkl.2 (one_take (km_one_CB _) _) (by omega) (by omega) (by simp [fbl]) (Fr.refl _) ?_⟩
      intro p5 c5 w5 o5 n5 f5 _
      refine newB fun g6 w6 b6 f6 _ => ⟨⟨(t1.keep' f5).k1, (t1.keep' (f5.tr f6)).k1⟩, ?_⟩
      refine app_step rowT51 (W := w1) (o5.keep' f6) (cells_one b6) rfl some_ne (fun u hu => by simp at hu; subst hu; rfl) (by omega) (by omega) n5 (f5.tr f6) ?_
      intro p7 c7 w7 o7 n7 f7 _
      refine ld_sl (t1.keep' f7).k1 ⟨⟨(t1.keep' (f5.tr f6)).k1, (t1.keep' f7).k1⟩, ⟨(t1.keep' f5).k1, (t1.keep' (f5.tr f6)).k1⟩, ⟨t1.k1, (t1.keep' f5).k1⟩, ⟨by omega, by omega, by omega⟩, ?_⟩
      refine app_step rowT51 (W := w1) o7 (hct.1.keep' f7) (by rw [List.length_drop, hfl]; omega) hct.2 (one_drop (km_one_CB _) _) (by omega) (by omega) n7 f7 ?_
      intro p8 c8 w8 o8 n8 f8 _
      rw [e2] at o8 ⊢
      exact fin o8 f8 n8
    · refine ld_sl t1.k1 ⟨⟨by omega, by omega, by omega⟩, newB fun g6 w6 b6 f6 _ => ⟨⟨t1.k1, (t1.keep' f6).k1⟩, ?_⟩⟩
      refine app_step rowT51 (W := w1) Own.nil (cells_take (t1.keep' f6).ks.cells (at_ ilt l k * 1)) (by rw [List.length_take]; omega) hkl.2 (one_take (km_one_CB _) _) (by omega) (by omega) (by simp [fbl]) f6 ?_
      intro p5 c5 w5 o5 n5 f5 g5
      have b65 := b6.keep g5 (by simp [fbl])
      refine app_step rowT51 (W := w1) o5 (cells_one b65) rfl some_ne (fun u hu => by simp at hu; subst hu; rfl) (by omega) (by omega) n5 f5 ?_
      intro p7 c7 w7 o7 n7 f7 _
      refine ld_sl (t1.keep' f7).k1 ⟨⟨(t1.keep' f5).k1, (t1.keep' f7).k1⟩, ⟨(t1.keep' f6).k1, (t1.keep' f5).k1⟩, ⟨t1.k1, (t1.keep' f6).k1⟩, ⟨by omega, by omega, by omega⟩, ?_⟩
      refine app_step rowT51 (W := w1) o7 (hct.1.keep' f7) (by rw [List.length_drop, hfl]; omega) hct.2 (one_drop (km_one_CB _) _) (by omega) (by omega) n7 f7 ?_
      intro p8 c8 w8 o8 n8 f8 _
      rw [e2] at o8 ⊢
      exact fin o8 f8 n8
end
end Go.Proofs.YtdgoalhnkegbmaaGreatX
namespace Go.Proofs.YtdgoalhnkegbmaaGreatX
open Go.RowKit
set_option linter.unusedVariables false
set_option linter.unusedSimpArgs false
section
variable {w w' : World} {g : Nat} {cs : List Value} {foot S : List Nat} {most : Int} {l : List (Int × Cl)} {pk pv : Option Addr} {ck cv : Nat} {Q : Value → World → Prop} {k : Int}
theorem rdrop_CB (t : RT_CB w g cs foot most l pk pv ck cv)
    (hK : ∀ foot' pk' pv' ck' cv' w', RT_CB w' g ((cs.set (89 + 1) (.slice pk' (drp ilt l k).length ck')).set (89 + 2) (.slice pv' (drp ilt l k).length cv')) foot' most (drp ilt l k) pk' pv' ck' cv' → Fr foot w w' → (∀ x ∈ foot', x ∈ foot ∨ w.heap.size ≤ x) → Q (.bool (has ilt l k)) w') :
    CallR Tryz.prog 59 #[.pointer (some (at0 g 89)), (Value.int .u64) k] w Q := by
  apply X59.sound
  unfold X59.f
  simp only [optP_some]
  have hal := at_le (lt := ilt) l k
  have htop := t.top
  refine place_CB t fun w2 f2 => ⟨_, _, rfl, ?_⟩
  refine bc_bool (fun hh => ?_) (fun hh => ?_)
  · have hlt := at_lt hh
    rw [hh] at hK ⊢
    rw [i64w ((at_ ilt l k : Int) + 1) (by omega) (by omega), show (at_ ilt l k : Int) + 1 = ((at_ ilt l k + 1 : Nat) : Int) by omega]
    simp only [toNat0, cutAt_zero', Nat.sub_zero, Int.toNat_natCast]
    have hd : drp ilt l k = l.take (at_ ilt l k) ++ l.drop (at_ ilt l k + 1) := by unfold drp; rw [if_pos hh]
    have hln : (drp ilt l k).length = l.length - 1 := by rw [drp_length, if_pos hh]
    have hkd : (keys (drp ilt l k)).map (Value.int .u64) = ((keys l).map (Value.int .u64)).take (at_ ilt l k * 1) ++ ((keys l).map (Value.int .u64)).drop ((at_ ilt l k + 1) * 1) := by
      rw [hd]; simp [keys, List.map_take, List.map_drop]
    have hvd : (drp ilt l k).flatMap vc_CB = (l.flatMap vc_CB).take (at_ ilt l k * 15) ++ (l.flatMap vc_CB).drop ((at_ ilt l k + 1) * 15) := by rw [hd, flat_del vc_len_CB]
    have hkl := t.kl
    have hvl := t.vl
    have hfl : ((keys l).map (Value.int .u64)).length = l.length * 1 := by simp
    have hfv : (l.flatMap vc_CB).length = l.length * 15 := flat_length vc_len_CB l
    have hgl := t.lt
    have e2 : 0 + at_ ilt l k + (l.length - (at_ ilt l k + 1)) = l.length - 1 := by omega
    have hlen1 := (List.getElem?_eq_some_iff.1 t.c1).1
    have hlen2 := (List.getElem?_eq_some_iff.1 t.c2).1
    refine drawn fun w5 f5 e5 => newB fun g6 w7 b7 f7 h7 => ?_
    have f05 := f2.tr f5
    have f07 := f05.tr f7
    have s05 := f05.size
    have t5 := t.keep' f05
    have t7 := t.keep' f07
    have hct := cells_cut (i := at_ ilt l k + 1) t7.ks.cells hfl hlt hkl.1 hkl.2
    have o7 : Own 22 1 w7 (some (at0 g6 0)) 0 0 [] := own_blk b7 rfl (Nat.le_refl _) (by simp only [maxLen]; omega) rfl
    refine ld_sl t7.k1 ⟨⟨t5.k1, t7.k1⟩, ⟨by omega, by omega, by omega⟩, app_step rowT51 (W := w5) o7 (cells_take t7.ks.cells (at_ ilt l k * 1)) (by rw [List.length_take]; omega) hkl.2 (one_take (km_one_CB _) _) (by omega) (by omega) (by simp [fbl, at0]; omega) f7 ?_⟩
    intro p11 c11 w11 o11 n11 f11 g11
    have h6 : ∀ x ∈ fbl (some (at0 g6 0)), w.heap.size ≤ x := by simp [fbl, at0]; omega
    have k711 : ∀ {v : Value} {i : Nat}, w7.cell? ((at0 g 89).add i) = some v → w11.cell? ((at0 g 89).add i) = some v := fun hc => g11.cell hc (by rw [add_block]; simp [fbl, at0]; have := hgl g (by rw [t.ft]; simp); omega)
    refine ld_sl (k711 t7.k1) ⟨⟨t7.k1, k711 t7.k1⟩, ⟨t5.k1, t7.k1⟩, ⟨by omega, by omega, by omega⟩, ?_⟩
    have t11 := t.keep' (f05.tr f11)
    have hct := cells_cut (i := at_ ilt l k + 1) t11.ks.cells hfl hlt hkl.1 hkl.2
    refine app_step rowT51 (W := w5) o11 hct.1 (by rw [List.length_drop, hfl]; omega) hct.2 (one_drop (km_one_CB _) _) (by omega) (by omega) n11 f11 ?_
    intro kp kc w16 o16 n16 f16 _
    rw [e2] at o16 ⊢
    have t16 := t.keep' (f05.tr f16)
    have nk : ∀ x ∈ fbl kp, w.heap.size ≤ x := fun x hx => by have := n16 x hx; omega
    have gk : g ∉ fbl kp := fun hm => by have := nk g hm; have := hgl g (by rw [t.ft]; simp); omega
    refine stO t16.blk (by omega) fun w19 b19 f19 => ?_
    have o19 := o16.keep f19 (fun x hx hm => gk (by simp at hm; rwa [← hm]))
    have v19 := t16.vs.keep f19 (fun x hx hm => t.gv (by simp at hm; rwa [← hm]))
    have s19 := ((f05.tr f16).any.tr f19 : Fr [g] w w19)
    have z19 := s19.size
    have hkl19 := o19.lt
    have c2' : (cs.set (89 + 1) (.slice kp (l.length - 1) kc))[89 + 2]? = some (.slice pv l.length cv) := by rw [List.getElem?_set_ne (by omega)]; exact t.c2
    have m2 : ∀ {w2 : World}, Blk w2 g (cs.set (89 + 1) (.slice kp (l.length - 1) kc)) 59 → w2.cell? ((at0 g 89).add 2) = some (.slice pv l.length cv) := fun hb => by rw [add_at]; exact hb.cell c2'
    refine drawn fun w20 f20 e20 => newB fun g21 w22 b22 f22 h22 => ?_
    have b20 := b19.keep' f20
    have b22' := b20.keep' f22
    have v22 := v19.keep' (f20.tr f22)
    have o22 : Own 50 15 w22 (some (at0 g21 0)) 0 0 [] := own_blk b22 rfl (Nat.le_refl _) (by simp only [maxLen]; omega) rfl
    refine ld_sl (m2 b22') ⟨⟨m2 b20, m2 b22'⟩, ⟨by omega, by omega, by omega⟩, app_step rowT55 (W := w20) o22 (cells_take v22.cells (at_ ilt l k * 15)) (by rw [List.length_take]; omega) hvl.2 (one_take (fm_one_CB _) _) (by omega) (by omega) (by simp [fbl, at0]; omega) f22 ?_⟩
    intro p26 c26 w26 o26 n26 f26 _
    have b26 := b20.keep' f26
    have v26 := v19.keep' (f20.tr f26)
    have hcv := cells_cut (i := at_ ilt l k + 1) v26.cells hfv hlt hvl.1 hvl.2
    refine ld_sl (m2 b26) ⟨⟨m2 b22', m2 b26⟩, ⟨m2 b20, m2 b22'⟩, ⟨by omega, by omega, by omega⟩, ?_⟩
    refine app_step rowT55 (W := w20) o26 hcv.1 (by rw [List.length_drop, hfv]; omega) hcv.2 (one_drop (fm_one_CB _) _) (by omega) (by omega) n26 f26 ?_
    intro vp vc w31 o31 n31 f31 _
    rw [e2] at o31 ⊢
    have nv : ∀ x ∈ fbl vp, w.heap.size ≤ x := fun x hx => by have := n31 x hx; omega
    have gv : g ∉ fbl vp := fun hm => by have := nv g hm; have := hgl g (by rw [t.ft]; simp); omega
    have b31 := b20.keep' f31
    have o31' := o19.keep' (f20.tr f31)
    refine stO b31 (by rw [List.length_set]; omega) fun w34 b34 f34 => ?_
    have ff : Fr foot w w34 := ((s19.mono (fun x hx => by rw [t.ft]; simp at hx; simp [hx])).tr (f20.tr f31).any).inl f34 (by rw [t.ft]; simp)
    refine hK (g :: (fbl kp ++ fbl vp)) kp vp kc vc w34 ⟨by rw [hln]; exact b34, ?_, ?_, ?_, ?_, ?_, rfl, gk, gv, fun x hx hm => ?_, drp_srt ilt_lin t.srt, by omega⟩ ff ?_
    · rw [List.getElem?_set_ne (by omega), List.getElem?_set_ne (by omega)]; exact t.c0
    · rw [List.getElem?_set_ne (by omega), List.getElem?_set_self (by omega)]
    · rw [List.getElem?_set_self (by rw [List.length_set]; omega)]
    · rw [hln, hkd]
      exact (by simpa using o31' : Own 22 1 w31 kp (l.length - 1) kc (((keys l).map (Value.int .u64)).take (at_ ilt l k * 1) ++ ((keys l).map (Value.int .u64)).drop ((at_ ilt l k + 1) * 1))).keep f34 (fun x hx hm => gk (by simp at hm; rwa [← hm]))
    · rw [hln, hvd]
      exact (by simpa using o31 : Own 50 15 w31 vp (l.length - 1) vc ((l.flatMap vc_CB).take (at_ ilt l k * 15) ++ (l.flatMap vc_CB).drop ((at_ ilt l k + 1) * 15))).keep f34 (fun x hx hm => gv (by simp at hm; rwa [← hm]))
    · have := hkl19 x hx; have := n31 x hm; omega
    · intro x hx
      rcases List.mem_cons.1 hx with rfl | hx
      · exact .inl (by rw [t.ft]; simp)
      · rcases List.mem_append.1 hx with hx | hx
        · exact .inr (nk x hx)
        · exact .inr (nv x hx)
  · have hd : drp ilt l k = l := by unfold drp; rw [if_neg (by simp [hh])]
    rw [hd] at hK
    rw [hh] at hK ⊢
    have t2 := t.keep' f2
    refine hK foot pk pv ck cv w2 ?_ f2.any (fun x hx => .inl hx)
    rw [set_same t.c1, set_same t.c2]
    exact t2
end
end Go.Proofs.YtdgoalhnkegbmaaGreatX
namespace Go.Proofs.YtdgoalhnkegbmaaGreatX
open Go.RowKit
set_option linter.unusedVariables false
set_option linter.unusedSimpArgs false
set_option maxRecDepth 100000
def lats (S : Cs) : List Int := S.latest ++ List.replicate (65 - S.latest.length) S.first
def rtail (S : Cs) (n : Nat) (pk pv : Option Addr) (ck cv : Nat) : List Value := [.int .u64 S.first, .int .i64 S.c.calls, .slice pk n ck, .slice pv n cv, .int .u64 S.last]
def rcells (S : Cs) (n : Nat) (pk pv : Option Addr) (ck cv : Nat) : List Value := S.c.cells ++ .int .i64 S.node :: ((lats S).map (Value.int .u64) ++ rtail S n pk pv ck cv)
theorem lats_len {S : Cs} (h : S.latest.length ≤ 65) : (lats S).length = 65 := by
  unfold lats
  rw [List.length_append, List.length_replicate]
  omega
theorem rc_at (S : Cs) (n : Nat) (pk pv : Option Addr) (ck cv i : Nat) : (rcells S n pk pv ck cv)[i + 23]? = ((lats S).map (Value.int .u64) ++ rtail S n pk pv ck cv)[i]? := rfl
theorem rc_tail {S : Cs} (h : S.latest.length ≤ 65) (n : Nat) (pk pv : Option Addr) (ck cv i : Nat) : (rcells S n pk pv ck cv)[i + 88]? = (rtail S n pk pv ck cv)[i]? := by
  rw [show i + 88 = (i + 65) + 23 by omega, rc_at, List.getElem?_append_right (by rw [List.length_map, lats_len h]; omega), List.length_map, lats_len h, show i + 65 - 65 = i by omega]
theorem rc_len {S : Cs} (h : S.latest.length ≤ 65) (n : Nat) (pk pv : Option Addr) (ck cv : Nat) : (rcells S n pk pv ck cv).length = 93 := by
  unfold rcells
  rw [List.length_append, List.length_cons, List.length_append, List.length_map, lats_len h]
  rfl
theorem rc_setT {S : Cs} (h : S.latest.length ≤ 65) (T : List Value) (i : Nat) (v : Value) : (S.c.cells ++ .int .i64 S.node :: ((lats S).map (Value.int .u64) ++ T)).set (i + 88) v = S.c.cells ++ .int .i64 S.node :: ((lats S).map (Value.int .u64) ++ T.set i v) := by
  show S.c.cells ++ .int .i64 S.node :: ((lats S).map (Value.int .u64) ++ T).set (i + 65) v = _
  rw [List.set_append_right _ _ (by rw [List.length_map, lats_len h]; omega), List.length_map, lats_len h, show i + 65 - 65 = i by omega]
theorem rc_set {S : Cs} (h : S.latest.length ≤ 65) (n : Nat) (pk pv : Option Addr) (ck cv i : Nat) (v : Value) : (rcells S n pk pv ck cv).set (i + 88) v = S.c.cells ++ .int .i64 S.node :: ((lats S).map (Value.int .u64) ++ (rtail S n pk pv ck cv).set i v) := rc_setT h _ i v
structure PRa (w : World) (g : Nat) (ft al : List Nat) (S : Cs) (pk pv : Option Addr) (ck cv : Nat) (lm : List (Int × Cl)) : Prop where
  tab : RT_CB w g (rcells S lm.length pk pv ck cv) ft S.c.calls lm pk pv ck cv
  rel : Rl w ft al lm S.l
  sub : ∀ x ∈ ft, x ∈ al
  lt : ∀ x ∈ al, x < w.heap.size
  ll : (S.latest.length : Int) = S.c.nodes + 1
  l65 : S.latest.length ≤ 65
  cc : S.c.calls ≤ 4096
/-- the document's table -/
def PR (w : World) (g : Nat) (ft al : List Nat) (S : Cs) : Prop := ∃ pk pv ck cv lm, PRa w g ft al S pk pv ck cv lm
section
variable {w w' W : World} {Q : Value → World → Prop} {g gs gm g1 gx : Nat} {ft al ft' al' F : List Nat} {S S' : Cs} {to num now k v : Int} {x : Cl} {y : Cp}
theorem PR.keep (t : PR w g ft al S) (f : Fr F w w') (hd : ∀ x ∈ al, x ∉ F) : PR w' g ft al S := by
  obtain ⟨pk, pv, ck, cv, lm, t⟩ := t
  exact ⟨pk, pv, ck, cv, lm, t.tab.keep f (fun x hx => hd x (t.sub x hx)), t.rel.keep f (fun x hx _ => hd x hx), t.sub, fun x hx => (by have := t.lt x hx; have := f.size; omega), t.ll, t.l65, t.cc⟩
theorem PR.keep' (t : PR w g ft al S) (f : Fr [] w w') : PR w' g ft al S := t.keep f (by simp)
theorem PR.lt (t : PR w g ft al S) : ∀ x ∈ al, x < w.heap.size := by
  obtain ⟨pk, pv, ck, cv, lm, t⟩ := t
  exact t.lt
theorem PR.sub (t : PR w g ft al S) : ∀ x ∈ ft, x ∈ al := by
  obtain ⟨pk, pv, ck, cv, lm, t⟩ := t
  exact t.sub
theorem PR.off (t : PR w g ft al S) {x : Nat} (hx : x ∉ al) (f : Fr [x] w w') : PR w' g ft al S := t.keep f (fun y hy hm => hx (by simp at hm; rwa [← hm]))
theorem PR.fresh (t : PR w g ft al S) {x : Nat} (hx : w.heap.size ≤ x) : x ∉ al := fun hm => by have := t.lt x hm; omega
theorem PR.grow (t : PR w g ft al S) (h1 : ∀ x ∈ al, x ∈ al') (h2 : ∀ x ∈ al', x < w.heap.size) : PR w g ft al' S := by
  obtain ⟨pk, pv, ck, cv, lm, t⟩ := t
  exact ⟨pk, pv, ck, cv, lm, t.tab, t.rel.mono (fun k _ h => h) (fun k hk _ => h1 k hk), fun x hx => h1 x (t.sub x hx), h2, t.ll, t.l65, t.cc⟩
theorem PR.gin (t : PR w g ft al S) : g ∈ ft := by
  obtain ⟨pk, pv, ck, cv, lm, t⟩ := t
  rw [t.tab.ft]; simp
theorem PR.cfg (t : PR w g ft al S) : At w (at0 g 0) S.c.cells := by
  obtain ⟨pk, pv, ck, cv, lm, t⟩ := t
  exact t.tab.blk.off 0 rfl
theorem PR.cfg0 (t : PR w g ft al S) : At w ((at0 g 0).add 0) S.c.cells := by rw [add_at]; exact t.cfg
theorem PR.node (t : PR w g ft al S) : w.cell? ((at0 g 0).add 22) = some (.int .i64 S.node) := by
  obtain ⟨pk, pv, ck, cv, lm, t⟩ := t
  exact t.tab.blk.cat 22 _ rfl
theorem PR.first (t : PR w g ft al S) : w.cell? ((at0 g 0).add 88) = some (.int .u64 S.first) := by
  obtain ⟨pk, pv, ck, cv, lm, t⟩ := t
  exact t.tab.blk.cat 88 _ (rc_tail t.l65 _ _ _ _ _ 0)
theorem PR.last (t : PR w g ft al S) : w.cell? ((at0 g 0).add 92) = some (.int .u64 S.last) := by
  obtain ⟨pk, pv, ck, cv, lm, t⟩ := t
  exact t.tab.blk.cat 92 _ (rc_tail t.l65 _ _ _ _ _ 4)
/-- a node's latest number; to a node of the config -/
theorem PR.lat (t : PR w g ft al S) (h0 : 0 ≤ to) (h1 : to ≤ S.c.nodes) : 0 ≤ to ∧ to < ((65 : Nat) : Int) ∧ w.cell? (((at0 g 0).add 23).add (Int.toNat to * 1)) = some (.int .u64 (latestOf S to)) := by
  obtain ⟨pk, pv, ck, cv, lm, t⟩ := t
  have hl := t.ll
  have h65 := t.l65
  have hlt : to.toNat < S.latest.length := by omega
  refine ⟨h0, by omega, ?_⟩
  rw [Nat.mul_one, add_at, add_at, Nat.zero_add, Nat.add_comm]
  refine t.tab.blk.cell ?_
  rw [rc_at, List.getElem?_append_left (by rw [List.length_map, lats_len h65]; omega), List.getElem?_map]
  unfold lats latestOf
  rw [List.getElem?_append_left hlt, List.getElem?_eq_getElem hlt]
  rfl
theorem PR.stlat (t : PR w g ft al S) (h0 : 0 ≤ to) (h1 : to ≤ S.c.nodes) {K : World → Prop} (hK : ∀ w', PR w' g ft al { S with latest := S.latest.set to.toNat v } → Fr ft w w' → K w') : stK w (((at0 g 0).add 23).add (Int.toNat to * 1)) (.int .u64 v) K := by
  have hg := t.gin
  obtain ⟨pk, pv, ck, cv, lm, t⟩ := t
  have hl := t.ll
  have h65 := t.l65
  have hlt : to.toNat < S.latest.length := by omega
  have hlen := rc_len (S := S) h65 lm.length pk pv ck cv
  rw [Nat.mul_one, add_add]
  refine t.tab.st (by rw [hlen]; omega) (by omega) (by omega) (by omega) fun w' t' f => ?_
  have f' : Fr ft w w' := f.mono fun x hx => by simp at hx; rw [hx]; exact hg
  refine hK w' ⟨pk, pv, ck, cv, lm, ?_, t.rel.keep f' (fun k hk hn => hn), t.sub, fun x hx => (by have := t.lt x hx; have := f.size; omega), by simp [hl], by simp [h65], t.cc⟩ f'
  have e : (rcells S lm.length pk pv ck cv).set (23 + to.toNat) (.int .u64 v) = rcells { S with latest := S.latest.set to.toNat v } lm.length pk pv ck cv := by
    rw [Nat.add_comm]
    show S.c.cells ++ .int .i64 S.node :: ((lats S).map (Value.int .u64) ++ rtail S lm.length pk pv ck cv).set to.toNat (.int .u64 v) = S.c.cells ++ .int .i64 S.node :: ((lats { S with latest := S.latest.set to.toNat v }).map (Value.int .u64) ++ rtail S lm.length pk pv ck cv)
    rw [List.set_append_left _ _ (by rw [List.length_map, lats_len h65]; omega), ← List.map_set]
    unfold lats
    rw [List.set_append_left _ _ hlt]
    simp
  rw [e] at t'
  exact t'
theorem PR.stlast (t : PR w g ft al S) {K : World → Prop} (hK : ∀ w', PR w' g ft al { S with last := v } → Fr ft w w' → K w') : stK w ((at0 g 0).add 92) (.int .u64 v) K := by
  have hg := t.gin
  obtain ⟨pk, pv, ck, cv, lm, t⟩ := t
  have h65 := t.l65
  have hlen := rc_len (S := S) h65 lm.length pk pv ck cv
  refine t.tab.st (by rw [hlen]; omega) (by omega) (by omega) (by omega) fun w' t' f => ?_
  have f' : Fr ft w w' := f.mono fun x hx => by simp at hx; rw [hx]; exact hg
  refine hK w' ⟨pk, pv, ck, cv, lm, ?_, t.rel.keep f' (fun k hk hn => hn), t.sub, fun x hx => (by have := t.lt x hx; have := f.size; omega), t.ll, t.l65, t.cc⟩ f'
  rw [show (92 : Nat) = 4 + 88 from rfl, rc_set h65 _ _ _ _ _ 4 _] at t'
  exact t'
/-- what a call of the document's leaves behind -/
def AftR (w : World) (g : Nat) (ft al : List Nat) (S' : Cs) (v : Value) (Q : Value → World → Prop) : Prop := ∀ ft' al' w', PR w' g ft' al' S' → Fr ft w w' → (∀ x ∈ ft', x ∈ ft ∨ w.heap.size ≤ x) → (∀ x ∈ al', x ∈ al ∨ w.heap.size ≤ x) → Q v w'
theorem AftR.same {v : Value} (h : AftR w g ft al S v Q) (t : PR w g ft al S) (f : Fr [] w w') : Q v w' := h ft al w' (t.keep' f) f.any (fun x hx => .inl hx) (fun x hx => .inl hx)
theorem AftR.next {v : Value} (h : AftR w g ft al S v Q) (f : Fr ft w w') (e : ∀ x ∈ ft', x ∈ ft ∨ w.heap.size ≤ x) (e2 : ∀ x ∈ al', x ∈ al ∨ w.heap.size ≤ x) : AftR w' g ft' al' S v Q := fun ft2 al2 w2 t2 f2 e3 e4 => h ft2 al2 w2 t2 (f.trans f2 e) (fun x hx => by
    have := f.size
    rcases e3 x hx with h' | h'
    · exact e x h'
    · exact .inr (by omega)) (fun x hx => by
    have := f.size
    rcases e4 x hx with h' | h'
    · exact e2 x h'
    · exact .inr (by omega))
theorem rgetT (t : PR w g ft al S) (hno : get ilt S.l k = none → ∀ w', Fr [] w w' → Q (.tuple #[clZ.val, .bool false]) w')
    (hso : ∀ x y, get ilt S.l k = some y → CRel w ft al x y → ∀ w', Fr [] w w' → Q (.tuple #[x.val, .bool true]) w') : CallR Tryz.prog 50 #[.pointer (some (at0 g 89)), .int .u64 k] w Q := by
  obtain ⟨pk, pv, ck, cv, lm, t⟩ := t
  rcases t.rel.get k with ⟨h1, h2⟩ | ⟨x, y, h1, h2, h3⟩
  · exact rget_CB t.tab (fun _ w' f => hno h2 w' f) (fun v hv => by rw [h1] at hv; cases hv)
  · exact rget_CB t.tab (fun hn => by rw [h1] at hn; cases hn) (fun v hv w' f => by rw [h1] at hv; injection hv with hv; subst hv; exact hso x y h2 h3 w' f)
theorem rafterT (t : PR w g ft al S) (hQ : Q (.tuple #[.int .u64 ((after ilt S.l k).getD 0), .bool (after ilt S.l k).isSome]) w) : CallR Tryz.prog 49 #[.pointer (some (at0 g 89)), .int .u64 k] w Q := by
  obtain ⟨pk, pv, ck, cv, lm, t⟩ := t
  rw [← after_keys t.rel.keys] at hQ
  exact rafter_CB t.tab hQ
theorem r_after {pk pv pk' pv' : Option Addr} {ck cv ck' cv' : Nat} {lm lm' : List (Int × Cl)} {L' : List (Int × Cp)} (t : PRa w g ft al S pk pv ck cv lm) (t' : RT_CB w' g (((rcells S lm.length pk pv ck cv).set (89 + 1) (.slice pk' lm'.length ck')).set (89 + 2) (.slice pv' lm'.length cv')) ft' S.c.calls lm' pk' pv' ck' cv')
    (f : Fr ft w w') (e : ∀ x ∈ ft', x ∈ ft ∨ w.heap.size ≤ x) (rl : Rl w ft al lm' L') : PR w' g ft' (al ++ ft') { S with l := L' } ∧ (∀ x ∈ al ++ ft', x ∈ al ∨ w.heap.size ≤ x) := by
  have h65 := t.l65
  have e1 : ((rcells S lm.length pk pv ck cv).set (89 + 1) (.slice pk' lm'.length ck')).set (89 + 2) (.slice pv' lm'.length cv') = rcells { S with l := L' } lm'.length pk' pv' ck' cv' := by
    rw [show (89 + 1 : Nat) = 2 + 88 from rfl, rc_set h65 _ _ _ _ _ 2 _, show (89 + 2 : Nat) = 3 + 88 from rfl, rc_setT h65 _ 3 _]
    rfl
  rw [e1] at t'
  have hz := f.size
  refine ⟨⟨pk', pv', ck', cv', lm', t', ?_, fun x hx => by simp [hx], fun x hx => ?_, t.ll, t.l65, t.cc⟩, fun x hx => ?_⟩
  · refine (rl.keep f (fun k hk hn => hn)).mono (fun k hk hn hm => ?_) (fun k hk _ => by simp [hk])
    rcases e k hm with h | h
    · exact hn h
    · have := t.lt k hk; omega
  · rcases List.mem_append.1 hx with h | h
    · have := t.lt x h; omega
    · exact t'.lt x h
  · rcases List.mem_append.1 hx with h | h
    · exact .inl h
    · rcases e x h with h' | h'
      · exact .inl (t.sub x h')
      · exact .inr h'
theorem rputT (t : PR w g ft al S) (r : CRel w ft al x y) (hk : k = keyOf y.to y.num) (hK : ∀ b, AftR w g ft al (putC S y) (.bool b) Q) : CallR Tryz.prog 54 #[.pointer (some (at0 g 89)), .int .u64 k, x.val] w Q := by
  subst hk
  obtain ⟨pk, pv, ck, cv, lm, t⟩ := t
  have hcc := t.cc
  have hpr : PR w g ft al S := ⟨pk, pv, ck, cv, lm, t⟩
  refine rput_CB t.tab (by omega) (fun h1 h2 w' f => ?_) (fun h1 ft' pk' pv' ck' cv' w' t' f e => ?_)
  · have : putF S.c.calls S.l (keyOf y.to y.num) y = S.l := by unfold putF; rw [if_neg (by rw [← has_keys t.rel.keys, ← t.rel.len]; simp [h1]; omega)]
    have e2 : putC S y = S := by
      show { S with l := putF S.c.calls S.l (keyOf y.to y.num) y } = S
      rw [this]
    refine hK false ft al w' ?_ f.any (fun x hx => .inl hx) (fun x hx => .inl hx)
    rw [e2]
    exact hpr.keep' f
  · have e1 : putF S.c.calls S.l (keyOf y.to y.num) y = put ilt S.l (keyOf y.to y.num) y := by unfold putF; rw [if_pos (by rw [← has_keys t.rel.keys, ← t.rel.len]; exact h1)]
    obtain ⟨p', e'⟩ := r_after t t' f e (t.rel.put _ r)
    refine hK true ft' (al ++ ft') w' ?_ f e e'
    show PR w' g ft' (al ++ ft') { S with l := putF S.c.calls S.l (keyOf y.to y.num) y }
    rw [e1]
    exact p'
theorem rdropT (t : PR w g ft al S) (hK : ∀ b, AftR w g ft al (dropC S k) (.bool b) Q) : CallR Tryz.prog 59 #[.pointer (some (at0 g 89)), .int .u64 k] w Q := by
  obtain ⟨pk, pv, ck, cv, lm, t⟩ := t
  refine rdrop_CB t.tab fun ft' pk' pv' ck' cv' w' t' f e => ?_
  obtain ⟨p', e'⟩ := r_after t t' f e (t.rel.drp k)
  exact hK _ ft' (al ++ ft') w' p' f e e'
theorem rkey_spec (hQ : Q (.int .u64 (keyOf to num)) w) : CallR Tryz.prog 58 #[.int .i64 to, .int .u64 num] w Q := by
  apply X58.sound
  unfold X58.f
  exact ⟨by omega, hQ⟩
theorem rpast_spec {a span now : Int} (hQ : Q (.bool (pastB a span now)) w) : CallR Tryz.prog 52 #[.int .u64 a, .int .u64 span, .int .u64 now] w Q := by
  apply X52.sound
  unfold X52.f
  unfold pastB at hQ
  exact bc_dec (fun h => by rw [if_pos h] at hQ; exact hQ) (fun h => by rw [if_neg h] at hQ; exact hQ)
theorem rwait_spec {a b c : Int} (h0 : 0 ≤ a) (h1 : 0 ≤ c) (h2 : c ≤ 4294967295) (hQ : Q (.int .u64 (waitN a b c)) w) : CallR Tryz.prog 53 #[.int .u64 a, .int .u64 b, .int .u64 c] w Q := by
  apply X53.sound
  unfold X53.f
  unfold waitN at hQ
  have e1 : IntKind.wrap .u64 (Int.tdiv c 2) = c / 2 := by rw [Int.tdiv_eq_ediv_of_nonneg h1]; exact u64w _ (by omega) (by omega)
  rw [e1] at hQ ⊢
  refine bc_eq (fun h => by rw [if_pos h] at hQ; exact hQ) (fun h => ⟨by omega, ?_⟩)
  rw [if_neg h] at hQ
  refine bc_dec (fun h => by rw [if_pos h] at hQ; exact hQ) (fun h => ?_)
  rw [if_neg h] at hQ
  have e2 : IntKind.wrap .u64 (2 * a) = 2 * a := u64w _ (by omega) (by omega)
  rw [e2] at hQ ⊢
  unfold min2
  rw [if_neg (by omega)]
  exact hQ
/-- ids: a row copied -/
theorem ridsC_spec {l : List (Int × Int)} {p : Option Addr} {c : Nat} (hr : Cells w p (l.flatMap idc)) (h0 : p = none → c = 0) (hl : l.length ≤ 8796093022208) (hQ : ∀ p' c' w', IdRow w' p' c' l → (∀ k ∈ fbl p', w.heap.size ≤ k) → Fr [] w w' → Q (.slice p' l.length c') w') :
    CallR Tryz.prog 55 #[.slice p l.length c] w Q := by
  apply X55.sound
  unfold X55.f
  refine newB fun g1 w2 b1 f2 h1 => copyIdsC (hr.keep' f2) h0 (by omega) b1 fun p' c' w' r' n' f' => hQ p' c' w' r' (fun k hk => ?_) (f2.loc f' h1)
  have z := f2.size
  rcases n' k hk with h | h <;> omega
theorem rids_spec {l : List (Int × Int)} {p : Option Addr} {c : Nat} (hr : IdRow w p c l) (hl : l.length ≤ 8796093022208) (hQ : ∀ p' c' w', IdRow w' p' c' l → (∀ k ∈ fbl p', w.heap.size ≤ k) → Fr [] w w' → Q (.slice p' l.length c') w') :
    CallR Tryz.prog 55 #[.slice p l.length c] w Q := ridsC_spec hr.cells (fun h => by subst h; exact hr.none_c.2.1) hl hQ
end
end Go.Proofs.YtdgoalhnkegbmaaGreatX
