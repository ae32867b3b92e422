/- What the functions' bodies come to, and that a call does so: printed by gen.py. -/
import Derived.Test.YtbgebldhpbnacaaProg
import Derived.Test.YtbgebldhpbnacaaXFn
namespace Go.Proofs.YtbgebldhpbnacaaX
open Go.RowKit
set_option linter.unusedVariables false
set_option maxRecDepth 100000
theorem noGr : NoGr Try.prog := by unfold NoGr; kernel_rfl
theorem mixed : Try.prog.follows .mixedOrders = true := by kernel_rfl
/-! ### mooring/mooringlaw6.TableWords: function 3 -/
def X3.l2 (Q : Value → World → Prop) (b1 : Option Addr → Nat → Nat → Option Addr → Nat → Nat → Option Addr → Int → Int → World → Prop) : Nat → (Option Addr) → Nat → Nat → (Option Addr) → Nat → Nat → (Option Addr) → Int → Int → Int → Int → World → Prop
  | 0, _, _, _, _, _, _, _, _, _, _, _, _ => False
  | k + 1, t0p, t0n, t0c, t1p, t1n, t1c, t5, t7, t9, t10, t11, w => bcase (decide (t11 < t7)) (drewK w fun w1 => (0 ≤ t11 ∧ t11 < ((t0n : Nat) : Int)) ∧ optP t0p fun p2 => ldS w1 (p2.add (Int.toNat t11 * 1)) fun x3 => (0 ≤ t9 ∧ t9 < ((t0n : Nat) : Int)) ∧ optP t0p fun p4 => ldS w1 (p4.add (Int.toNat t9 * 1)) fun x5 => bcase (strEq x3 x5) ((0 ≤ t11 ∧ t11 < ((t1n : Nat) : Int)) ∧ optP t1p fun p6 => ldI .i64 w1 (p6.add (Int.toNat t11 * 1)) fun x7 => X3.l2 Q b1 k t0p t0n t0c t1p t1n t1c t5 t7 t9 x7 (IntKind.wrap .i64 (t11 + (1 : Int))) w1) (X3.l2 Q b1 k t0p t0n t0c t1p t1n t1c t5 t7 t9 t10 (IntKind.wrap .i64 (t11 + (1 : Int))) w1)) ((0 ≤ t9 ∧ t9 < ((t0n : Nat) : Int)) ∧ optP t0p fun p8 => ldS w (p8.add (Int.toNat t9 * 1)) fun x9 => CallR Try.prog 12 #[.pointer t5, .string x9] w fun v10 w11 => ∃ (y12 : Int) (y13 : Bool), v10 = .tuple #[.int .i64 y12, .bool y13] ∧ bcase (!y13) (Q (.bool false) w11) (bcase (y12 != t10) (Q (.bool false) w11) (b1 t0p t0n t0c t1p t1n t1c t5 t7 (IntKind.wrap .i64 (t9 + (1 : Int))) w11)))
def X3.l3 (Q : Value → World → Prop) : Nat → (Option Addr) → (Option Addr) → Nat → Nat → Int → World → Prop
  | 0, _, _, _, _, _, _ => False
  | k + 1, t5, t14p, t14n, t14c, t15, w => bcase (decide (t15 < ((t14n : Nat) : Int))) (drewK w fun w1 => (0 ≤ (IntKind.wrap .i64 (t15 - (1 : Int))) ∧ (IntKind.wrap .i64 (t15 - (1 : Int))) < ((t14n : Nat) : Int)) ∧ optP t14p fun p2 => ldS w1 (p2.add (Int.toNat (IntKind.wrap .i64 (t15 - (1 : Int))) * 1)) fun x3 => (0 ≤ t15 ∧ t15 < ((t14n : Nat) : Int)) ∧ optP t14p fun p4 => ldS w1 (p4.add (Int.toNat t15 * 1)) fun x5 => bcase (!strLt x3 x5) (Q (.bool false) w1) (X3.l3 Q k t5 t14p t14n t14c (IntKind.wrap .i64 (t15 + (1 : Int))) w1)) (CallR Try.prog 14 #[.pointer t5] w fun v6 w7 => ∃ (y8 : Int), v6 = .int .i64 y8 ∧ Q (.bool (((t14n : Nat) : Int) == y8)) w7)
def X3.l1 (Q : Value → World → Prop) : Nat → (Option Addr) → Nat → Nat → (Option Addr) → Nat → Nat → (Option Addr) → Int → Int → World → Prop
  | 0, _, _, _, _, _, _, _, _, _, _ => False
  | k + 1, t0p, t0n, t0c, t1p, t1n, t1c, t5, t7, t9, w => bcase (decide (t9 < t7)) ((0 ≤ t9 ∧ t9 < ((t1n : Nat) : Int)) ∧ optP t1p fun p1 => ldI .i64 w (p1.add (Int.toNat t9 * 1)) fun x2 => ∃ m3, X3.l2 Q (X3.l1 Q k) m3 t0p t0n t0c t1p t1n t1c t5 t7 t9 x2 (IntKind.wrap .i64 (t9 + (1 : Int))) w) (CallR Try.prog 13 #[.pointer t5] w fun v4 w5 => ∃ (y6p : Option Addr) (y6n y6c : Nat), v4 = .slice y6p y6n y6c ∧ ∃ m7, X3.l3 Q m7 t5 y6p y6n y6c (1 : Int) w5)
def X3.l0 (Q : Value → World → Prop) : Nat → (Option Addr) → Nat → Nat → (Option Addr) → Nat → Nat → (Option Addr) → Int → Int → World → Prop
  | 0, _, _, _, _, _, _, _, _, _, _ => False
  | k + 1, t0p, t0n, t0c, t1p, t1n, t1c, t5, t7, t8, w => bcase (decide (t8 < t7)) (drewK w fun w1 => (0 ≤ t8 ∧ t8 < ((t0n : Nat) : Int)) ∧ optP t0p fun p2 => ldS w1 (p2.add (Int.toNat t8 * 1)) fun x3 => (0 ≤ t8 ∧ t8 < ((t1n : Nat) : Int)) ∧ optP t1p fun p4 => ldI .i64 w1 (p4.add (Int.toNat t8 * 1)) fun x5 => CallR Try.prog 11 #[.pointer t5, .string x3, .int .i64 x5] w1 fun v6 w7 => ∃ (y8 : Bool), v6 = .bool y8 ∧ bcase (!y8) (Q (.bool false) w7) (X3.l0 Q k t0p t0n t0c t1p t1n t1c t5 t7 (IntKind.wrap .i64 (t8 + (1 : Int))) w7)) (∃ m9, X3.l1 Q m9 t0p t0n t0c t1p t1n t1c t5 t7 (0 : Int) w)
def X3.j4 (Q : Value → World → Prop) (t0p : Option Addr) (t0n : Nat) (t0c : Nat) (t1p : Option Addr) (t1n : Nat) (t1c : Nat) (t5 : Option Addr) (w : World) : Prop := ∃ m1, X3.l0 Q m1 t0p t0n t0c t1p t1n t1c t5 (min2 (min2 ((t0n : Nat) : Int) ((t1n : Nat) : Int)) (300 : Int)) (0 : Int) w
def X3.f (a0p : Option Addr) (a0n : Nat) (a0c : Nat) (a1p : Option Addr) (a1n : Nat) (a1c : Nat) (w : World) (Q : Value → World → Prop) : Prop := CallR Try.prog 9 #[.int .i64 (4096 : Int)] w fun v1 w2 => ∃ (y3 : Option Addr) (y4 : Int), v1 = .tuple #[.pointer y3, .int .i64 y4] ∧ CallR Try.prog 10 #[] w2 fun v5 w6 => ∃ (y7 : Bool), v5 = .bool y7 ∧ bcase (!y7) (Q (.bool false) w6) (bcase (y4 != (0 : Int)) (Q (.bool false) w6) (bcase (Option.isNone y3) (Q (.bool false) w6) (X3.j4 Q a0p a0n a0c a1p a1n a1c y3 w6)))
def X3.S (Q : Value → World → Prop) : Segs
  | 0, φ, ρ, w => qSl (ρ 0) fun t0p t0n t0c => qSl (ρ 1) fun t1p t1n t1c => qP (ρ 5) fun t5 => qI .i64 (ρ 7) fun t7 => qI .i64 (ρ 8) fun t8 => X3.l0 Q (φ 0) t0p t0n t0c t1p t1n t1c t5 t7 t8 w
  | 1, φ, ρ, w => qSl (ρ 0) fun t0p t0n t0c => qSl (ρ 1) fun t1p t1n t1c => qP (ρ 5) fun t5 => qI .i64 (ρ 7) fun t7 => qI .i64 (ρ 9) fun t9 => X3.l1 Q (φ 1) t0p t0n t0c t1p t1n t1c t5 t7 t9 w
  | 2, φ, ρ, w => qSl (ρ 0) fun t0p t0n t0c => qSl (ρ 1) fun t1p t1n t1c => qP (ρ 5) fun t5 => qI .i64 (ρ 7) fun t7 => qI .i64 (ρ 9) fun t9 => qI .i64 (ρ 10) fun t10 => qI .i64 (ρ 11) fun t11 => X3.l2 Q (X3.l1 Q (φ 1)) (φ 2) t0p t0n t0c t1p t1n t1c t5 t7 t9 t10 t11 w
  | 3, φ, ρ, w => qP (ρ 5) fun t5 => qSl (ρ 14) fun t14p t14n t14c => qI .i64 (ρ 15) fun t15 => X3.l3 Q (φ 3) t5 t14p t14n t14c t15 w
  | 4, φ, ρ, w => qSl (ρ 0) fun t0p t0n t0c => qSl (ρ 1) fun t1p t1n t1c => qP (ρ 5) fun t5 => X3.j4 Q t0p t0n t0c t1p t1n t1c t5 w
  | _, _, _, _ => False
noncomputable def X3.an : Ann := (.seq .leaf (.seq .leaf (.seq (.seq .leaf (.cond (.seq .leaf .leaf) .leaf)) (.join 4 (.seq .leaf (.seq (.seq .leaf (.block (.loop 0 (.seq (.seq .leaf (.cond .leaf .leaf)) (.seq (.block (.seq (.draw [0, 0, 0, 6, 14, 0, 0, 96, 224, 511, 1023] [[0, 1, 2, 3, 4, 5, 6, 7, 8, 9, 10]]) (.cond (.seq .leaf .leaf) .leaf))) .leaf))))) (.seq (.seq .leaf (.block (.loop 1 (.seq (.seq .leaf (.cond .leaf .leaf)) (.seq (.block (.seq .leaf (.seq (.seq .leaf (.block (.loop 2 (.seq (.seq .leaf (.cond .leaf .leaf)) (.seq (.block (.seq (.draw [0, 0, 3, 7, 0, 0, 48, 112, 255] [[0, 1, 2, 3, 4, 5, 6, 7, 8]]) (.cond .leaf .leaf))) .leaf))))) (.seq .leaf (.seq .leaf (.cond (.seq .leaf .leaf) .leaf)))))) .leaf))))) (.seq .leaf (.seq (.seq .leaf (.block (.loop 3 (.seq (.seq .leaf (.cond .leaf .leaf)) (.seq (.block (.seq (.draw [0, 0, 2, 7, 15, 0, 0, 96, 224, 511] [[0, 1, 2, 3, 4, 5, 6, 7, 8, 9]]) (.cond (.seq .leaf .leaf) .leaf))) .leaf))))) (.seq .leaf .leaf))))))))))
noncomputable def X3.c : Code := Try.f3.body.getD .skip
theorem X3.v (Q : Value → World → Prop) : V Try.prog (X3.S Q) X3.an X3.c (retC Try.prog Try.f3 Q) := ⟨trivial, ⟨trivial, ⟨⟨trivial, ⟨⟨trivial, trivial⟩, trivial⟩⟩, ⟨(by
    intro φ ρ w h
    simp only [X3.S] at h
    obtain ⟨t0p, t0n, t0c, e0, h⟩ := qSl_elim h
    obtain ⟨t1p, t1n, t1c, e1, h⟩ := qSl_elim h
    obtain ⟨t5, e5, h⟩ := qP_elim h
    exact ⟨(((Env.nil.put (some 0) (.slice t0p t0n t0c)).put (some 1) (.slice t1p t1n t1c)).put (some 5) (.pointer t5)), Env.le_put e5 (Env.le_put e1 (Env.le_put e0 (Env.le_nil _))), Eq.mp (by kernel_rfl) h⟩), ⟨trivial, ⟨⟨trivial, ⟨(by
    intro φ ρ w h
    simp only [X3.S] at h
    obtain ⟨t0p, t0n, t0c, e0, h⟩ := qSl_elim h
    obtain ⟨t1p, t1n, t1c, e1, h⟩ := qSl_elim h
    obtain ⟨t5, e5, h⟩ := qP_elim h
    obtain ⟨t7, e7, h⟩ := qI_elim h
    obtain ⟨t8, e8, h⟩ := qI_elim h
    cases hk : φ 0 with
    | zero => rw [hk] at h; exact h.elim
    | succ k => rw [hk] at h; exact ⟨k, Nat.lt_succ_self k, (((((Env.nil.put (some 0) (.slice t0p t0n t0c)).put (some 1) (.slice t1p t1n t1c)).put (some 5) (.pointer t5)).put (some 7) (.int .i64 t7)).put (some 8) (.int .i64 t8)), Env.le_put e8 (Env.le_put e7 (Env.le_put e5 (Env.le_put e1 (Env.le_put e0 (Env.le_nil _))))), Eq.mp (by kernel_rfl) h⟩), ⟨⟨trivial, ⟨trivial, trivial⟩⟩, ⟨⟨trivial, ⟨⟨trivial, trivial⟩, trivial⟩⟩, trivial⟩⟩⟩⟩, ⟨⟨trivial, ⟨(by
    intro φ ρ w h
    simp only [X3.S] at h
    obtain ⟨t0p, t0n, t0c, e0, h⟩ := qSl_elim h
    obtain ⟨t1p, t1n, t1c, e1, h⟩ := qSl_elim h
    obtain ⟨t5, e5, h⟩ := qP_elim h
    obtain ⟨t7, e7, h⟩ := qI_elim h
    obtain ⟨t9, e9, h⟩ := qI_elim h
    cases hk : φ 1 with
    | zero => rw [hk] at h; exact h.elim
    | succ k => rw [hk] at h; exact ⟨k, Nat.lt_succ_self k, (((((Env.nil.put (some 0) (.slice t0p t0n t0c)).put (some 1) (.slice t1p t1n t1c)).put (some 5) (.pointer t5)).put (some 7) (.int .i64 t7)).put (some 9) (.int .i64 t9)), Env.le_put e9 (Env.le_put e7 (Env.le_put e5 (Env.le_put e1 (Env.le_put e0 (Env.le_nil _))))), Eq.mp (by kernel_rfl) h⟩), ⟨⟨trivial, ⟨trivial, trivial⟩⟩, ⟨⟨trivial, ⟨⟨trivial, ⟨(by
    intro φ ρ w h
    simp only [X3.S] at h
    obtain ⟨t0p, t0n, t0c, e0, h⟩ := qSl_elim h
    obtain ⟨t1p, t1n, t1c, e1, h⟩ := qSl_elim h
    obtain ⟨t5, e5, h⟩ := qP_elim h
    obtain ⟨t7, e7, h⟩ := qI_elim h
    obtain ⟨t9, e9, h⟩ := qI_elim h
    obtain ⟨t10, e10, h⟩ := qI_elim h
    obtain ⟨t11, e11, h⟩ := qI_elim h
    cases hk : φ 2 with
    | zero => rw [hk] at h; exact h.elim
    | succ k => rw [hk] at h; exact ⟨k, Nat.lt_succ_self k, (((((((Env.nil.put (some 0) (.slice t0p t0n t0c)).put (some 1) (.slice t1p t1n t1c)).put (some 5) (.pointer t5)).put (some 7) (.int .i64 t7)).put (some 9) (.int .i64 t9)).put (some 10) (.int .i64 t10)).put (some 11) (.int .i64 t11)), Env.le_put e11 (Env.le_put e10 (Env.le_put e9 (Env.le_put e7 (Env.le_put e5 (Env.le_put e1 (Env.le_put e0 (Env.le_nil _))))))), Eq.mp (by kernel_rfl) h⟩), ⟨⟨trivial, ⟨trivial, trivial⟩⟩, ⟨⟨trivial, ⟨trivial, trivial⟩⟩, trivial⟩⟩⟩⟩, ⟨trivial, ⟨trivial, ⟨⟨trivial, trivial⟩, trivial⟩⟩⟩⟩⟩, trivial⟩⟩⟩⟩, ⟨trivial, ⟨⟨trivial, ⟨(by
    intro φ ρ w h
    simp only [X3.S] at h
    obtain ⟨t5, e5, h⟩ := qP_elim h
    obtain ⟨t14p, t14n, t14c, e14, h⟩ := qSl_elim h
    obtain ⟨t15, e15, h⟩ := qI_elim h
    cases hk : φ 3 with
    | zero => rw [hk] at h; exact h.elim
    | succ k => rw [hk] at h; exact ⟨k, Nat.lt_succ_self k, (((Env.nil.put (some 5) (.pointer t5)).put (some 14) (.slice t14p t14n t14c)).put (some 15) (.int .i64 t15)), Env.le_put e15 (Env.le_put e14 (Env.le_put e5 (Env.le_nil _))), Eq.mp (by kernel_rfl) h⟩), ⟨⟨trivial, ⟨trivial, trivial⟩⟩, ⟨⟨trivial, ⟨⟨trivial, trivial⟩, trivial⟩⟩, trivial⟩⟩⟩⟩, ⟨trivial, trivial⟩⟩⟩⟩⟩⟩⟩⟩⟩⟩
theorem X3.sound (a0p : Option Addr) (a0n : Nat) (a0c : Nat) (a1p : Option Addr) (a1n : Nat) (a1c : Nat) (w : World) (Q : Value → World → Prop) (h : X3.f a0p a0n a0c a1p a1n a1c w Q) : CallR Try.prog 3 #[.slice a0p a0n a0c, .slice a1p a1n a1c] w Q :=
  fn_sound noGr mixed Try.func3 (c := X3.c) (an := X3.an) (S := X3.S Q) (φ := fun _ => 0) (args := [.slice a0p a0n a0c, .slice a1p a1n a1c]) (by kernel_rfl) (by kernel_rfl) (by kernel_rfl) (X3.v Q) (Eq.mp (by kernel_rfl) h)
/-! ### mooring/mooringlaw6.TableRound: function 4 -/
def X4.l1 (Q : Value → World → Prop) : Nat → (Option Addr) → Int → Int → Int → Int → World → Prop
  | 0, _, _, _, _, _, _ => False
  | k + 1, t5, t8, t10, t11, t12, w => CallR Try.prog 18 #[.pointer t5] w fun v1 w2 => ∃ (y3 : Int), v1 = .int .i64 y3 ∧ bcase (decide (t11 ≤ y3)) (CallR Try.prog 17 #[.pointer t5, .int .u64 t8] w2 fun v4 w5 => ∃ (y6 : Int) (y7 : Bool), v4 = .tuple #[.int .u64 y6, .bool y7] ∧ bcase (!y7) (Q (.bool false) w5) (bcase (decide (y6 ≤ t8)) (bcase (y6 == t10) (CallR Try.prog 18 #[.pointer t5] w5 fun v8 w9 => ∃ (y10 : Int), v8 = .int .i64 y10 ∧ bcase (t11 == y10) (bcase (y6 == t10) (Q (.bool ((IntKind.wrap .i64 (t12 + (1 : Int))) == (1 : Int))) w9) (Q (.bool false) w9)) (Q (.bool false) w9)) (X4.l1 Q k t5 y6 t10 (IntKind.wrap .i64 (t11 + (1 : Int))) (IntKind.wrap .i64 (t12 + (1 : Int))) w5)) (bcase (y6 == t10) (CallR Try.prog 18 #[.pointer t5] w5 fun v11 w12 => ∃ (y13 : Int), v11 = .int .i64 y13 ∧ bcase (t11 == y13) (bcase (y6 == t10) (Q (.bool (t12 == (1 : Int))) w12) (Q (.bool false) w12)) (Q (.bool false) w12)) (X4.l1 Q k t5 y6 t10 (IntKind.wrap .i64 (t11 + (1 : Int))) t12 w5)))) (CallR Try.prog 18 #[.pointer t5] w2 fun v14 w15 => ∃ (y16 : Int), v14 = .int .i64 y16 ∧ bcase (t11 == y16) (bcase (t8 == t10) (Q (.bool (t12 == (1 : Int))) w15) (Q (.bool false) w15)) (Q (.bool false) w15))
def X4.l0 (Q : Value → World → Prop) : Nat → (Option Addr) → Nat → Nat → Int → (Option Addr) → Int → World → Prop
  | 0, _, _, _, _, _, _, _ => False
  | k + 1, t0p, t0n, t0c, t1, t5, t7, w => bcase (decide (t7 < ((t0n : Nat) : Int))) ((0 ≤ t7 ∧ t7 < ((t0n : Nat) : Int)) ∧ optP t0p fun p1 => ldI .u64 w (p1.add (Int.toNat t7 * 1)) fun x2 => CallR Try.prog 16 #[.pointer t5, .int .u64 x2, .int .i64 t7] w fun v3 w4 => ∃ (y5 : Bool), v3 = .bool y5 ∧ X4.l0 Q k t0p t0n t0c t1 t5 (IntKind.wrap .i64 (t7 + (1 : Int))) w4) (CallR Try.prog 17 #[.pointer t5, .int .u64 t1] w fun v6 w7 => ∃ (y8 : Int) (y9 : Bool), v6 = .tuple #[.int .u64 y8, .bool y9] ∧ bcase (!y9) (Q (.bool (((t0n : Nat) : Int) == (0 : Int))) w7) (∃ m10, X4.l1 Q m10 t5 y8 y8 (1 : Int) (0 : Int) w7))
def X4.j2 (Q : Value → World → Prop) (t0p : Option Addr) (t0n : Nat) (t0c : Nat) (t1 : Int) (t5 : Option Addr) (w : World) : Prop := (0 ≤ ((0 : Nat) : Int) ∧ ((0 : Nat) : Int) ≤ (min2 ((t0n : Nat) : Int) (200 : Int)) ∧ (min2 ((t0n : Nat) : Int) (200 : Int)) ≤ ((t0c : Nat) : Int)) ∧ ∃ m1, X4.l0 Q m1 (cutAt 1 t0c (Int.toNat ((0 : Nat) : Int)) t0p) (Int.toNat (min2 ((t0n : Nat) : Int) (200 : Int)) - Int.toNat ((0 : Nat) : Int)) (t0c - Int.toNat ((0 : Nat) : Int)) t1 t5 (0 : Int) w
def X4.f (a0p : Option Addr) (a0n : Nat) (a0c : Nat) (a1 : Int) (w : World) (Q : Value → World → Prop) : Prop := CallR Try.prog 15 #[.int .i64 (4096 : Int)] w fun v1 w2 => ∃ (y3 : Option Addr) (y4 : Int), v1 = .tuple #[.pointer y3, .int .i64 y4] ∧ CallR Try.prog 10 #[] w2 fun v5 w6 => ∃ (y7 : Bool), v5 = .bool y7 ∧ bcase (!y7) (Q (.bool false) w6) (bcase (y4 != (0 : Int)) (Q (.bool false) w6) (bcase (Option.isNone y3) (Q (.bool false) w6) (X4.j2 Q a0p a0n a0c a1 y3 w6)))
def X4.S (Q : Value → World → Prop) : Segs
  | 0, φ, ρ, w => qSl (ρ 0) fun t0p t0n t0c => qI .u64 (ρ 1) fun t1 => qP (ρ 5) fun t5 => qI .i64 (ρ 7) fun t7 => X4.l0 Q (φ 0) t0p t0n t0c t1 t5 t7 w
  | 1, φ, ρ, w => qP (ρ 5) fun t5 => qI .u64 (ρ 8) fun t8 => qI .u64 (ρ 10) fun t10 => qI .i64 (ρ 11) fun t11 => qI .i64 (ρ 12) fun t12 => X4.l1 Q (φ 1) t5 t8 t10 t11 t12 w
  | 2, φ, ρ, w => qSl (ρ 0) fun t0p t0n t0c => qI .u64 (ρ 1) fun t1 => qP (ρ 5) fun t5 => X4.j2 Q t0p t0n t0c t1 t5 w
  | _, _, _, _ => False
noncomputable def X4.an : Ann := (.seq .leaf (.seq .leaf (.seq (.seq .leaf (.cond (.seq .leaf .leaf) .leaf)) (.join 2 (.seq .leaf (.seq (.seq .leaf (.block (.loop 0 (.seq (.seq .leaf (.cond .leaf .leaf)) (.seq (.block .leaf) .leaf))))) (.seq .leaf (.seq (.seq .leaf (.cond (.seq .leaf .leaf) .leaf)) (.seq .leaf (.seq .leaf (.seq .leaf (.seq (.block (.loop 1 (.seq (.seq .leaf (.cond .leaf .leaf)) (.block (.seq .leaf (.seq (.seq .leaf (.cond (.seq .leaf .leaf) .leaf)) (.seq (.seq .leaf (.cond .leaf .leaf)) (.seq .leaf (.seq (.seq .leaf (.cond .leaf .leaf)) .leaf))))))))) (.seq .leaf .leaf)))))))))))))
noncomputable def X4.c : Code := Try.f4.body.getD .skip
theorem X4.v (Q : Value → World → Prop) : V Try.prog (X4.S Q) X4.an X4.c (retC Try.prog Try.f4 Q) := ⟨trivial, ⟨trivial, ⟨⟨trivial, ⟨⟨trivial, trivial⟩, trivial⟩⟩, ⟨(by
    intro φ ρ w h
    simp only [X4.S] at h
    obtain ⟨t0p, t0n, t0c, e0, h⟩ := qSl_elim h
    obtain ⟨t1, e1, h⟩ := qI_elim h
    obtain ⟨t5, e5, h⟩ := qP_elim h
    exact ⟨(((Env.nil.put (some 0) (.slice t0p t0n t0c)).put (some 1) (.int .u64 t1)).put (some 5) (.pointer t5)), Env.le_put e5 (Env.le_put e1 (Env.le_put e0 (Env.le_nil _))), Eq.mp (by kernel_rfl) h⟩), ⟨trivial, ⟨⟨trivial, ⟨(by
    intro φ ρ w h
    simp only [X4.S] at h
    obtain ⟨t0p, t0n, t0c, e0, h⟩ := qSl_elim h
    obtain ⟨t1, e1, h⟩ := qI_elim h
    obtain ⟨t5, e5, h⟩ := qP_elim h
    obtain ⟨t7, e7, h⟩ := qI_elim h
    cases hk : φ 0 with
    | zero => rw [hk] at h; exact h.elim
    | succ k => rw [hk] at h; exact ⟨k, Nat.lt_succ_self k, ((((Env.nil.put (some 0) (.slice t0p t0n t0c)).put (some 1) (.int .u64 t1)).put (some 5) (.pointer t5)).put (some 7) (.int .i64 t7)), Env.le_put e7 (Env.le_put e5 (Env.le_put e1 (Env.le_put e0 (Env.le_nil _)))), Eq.mp (by kernel_rfl) h⟩), ⟨⟨trivial, ⟨trivial, trivial⟩⟩, ⟨trivial, trivial⟩⟩⟩⟩, ⟨trivial, ⟨⟨trivial, ⟨⟨trivial, trivial⟩, trivial⟩⟩, ⟨trivial, ⟨trivial, ⟨trivial, ⟨⟨(by
    intro φ ρ w h
    simp only [X4.S] at h
    obtain ⟨t5, e5, h⟩ := qP_elim h
    obtain ⟨t8, e8, h⟩ := qI_elim h
    obtain ⟨t10, e10, h⟩ := qI_elim h
    obtain ⟨t11, e11, h⟩ := qI_elim h
    obtain ⟨t12, e12, h⟩ := qI_elim h
    cases hk : φ 1 with
    | zero => rw [hk] at h; exact h.elim
    | succ k => rw [hk] at h; exact ⟨k, Nat.lt_succ_self k, (((((Env.nil.put (some 5) (.pointer t5)).put (some 8) (.int .u64 t8)).put (some 10) (.int .u64 t10)).put (some 11) (.int .i64 t11)).put (some 12) (.int .i64 t12)), Env.le_put e12 (Env.le_put e11 (Env.le_put e10 (Env.le_put e8 (Env.le_put e5 (Env.le_nil _))))), Eq.mp (by kernel_rfl) h⟩), ⟨⟨trivial, ⟨trivial, trivial⟩⟩, ⟨trivial, ⟨⟨trivial, ⟨⟨trivial, trivial⟩, trivial⟩⟩, ⟨⟨trivial, ⟨trivial, trivial⟩⟩, ⟨trivial, ⟨⟨trivial, ⟨trivial, trivial⟩⟩, trivial⟩⟩⟩⟩⟩⟩⟩, ⟨trivial, trivial⟩⟩⟩⟩⟩⟩⟩⟩⟩⟩⟩⟩⟩
theorem X4.sound (a0p : Option Addr) (a0n : Nat) (a0c : Nat) (a1 : Int) (w : World) (Q : Value → World → Prop) (h : X4.f a0p a0n a0c a1 w Q) : CallR Try.prog 4 #[.slice a0p a0n a0c, .int .u64 a1] w Q :=
  fn_sound noGr mixed Try.func4 (c := X4.c) (an := X4.an) (S := X4.S Q) (φ := fun _ => 0) (args := [.slice a0p a0n a0c, .int .u64 a1]) (by kernel_rfl) (by kernel_rfl) (by kernel_rfl) (X4.v Q) (Eq.mp (by kernel_rfl) h)
/-! ### mooring/mooringlaw6.TableFull: function 5 -/
def X5.j2 (Q : Value → World → Prop) (b1 : Int → Option Addr → Nat → Nat → Int → Option Addr → Int → World → Prop) (t0 : Int) (t1p : Option Addr) (t1n : Nat) (t1c : Nat) (t2 : Int) (t7 : Option Addr) (t10 : Int) (w : World) : Prop := (0 ≤ t10 ∧ t10 < ((t1n : Nat) : Int)) ∧ optP t1p fun p1 => ldI .u64 w (p1.add (Int.toNat t10 * 1)) fun x2 => CallR Try.prog 20 #[.pointer t7, .int .u64 x2] w fun v3 w4 => ∃ (y5 : Int) (y6 : Bool), v3 = .tuple #[.int .i64 y5, .bool y6] ∧ (0 ≤ t10 ∧ t10 < ((t1n : Nat) : Int)) ∧ optP t1p fun p7 => ldI .u64 w4 (p7.add (Int.toNat t10 * 1)) fun x8 => CallR Try.prog 16 #[.pointer t7, .int .u64 x8, .int .i64 (7 : Int)] w4 fun v9 w10 => ∃ (y11 : Bool), v9 = .bool y11 ∧ bcase (!(y11 == y6)) (Q (.bool false) w10) (CallR Try.prog 18 #[.pointer t7] w10 fun v12 w13 => ∃ (y14 : Int), v12 = .int .i64 y14 ∧ bcase (y14 != t0) (Q (.bool false) w13) (b1 t0 t1p t1n t1c t2 t7 (IntKind.wrap .i64 (t10 + (1 : Int))) w13))
def X5.j3 (Q : Value → World → Prop) (t0 : Int) (t2 : Int) (t7 : Option Addr) (w : World) : Prop := CallR Try.prog 19 #[.int .i64 t2, .int .i64 t0] w fun v1 w2 => ∃ (y3 : Int), v1 = .int .i64 y3 ∧ CallR Try.prog 21 #[.pointer t7, .int .u64 (IntKind.wrap .u64 (IntKind.wrap .i64 ((2 : Int) * y3)))] w2 fun v4 w5 => ∃ (y6 : Bool), v4 = .bool y6 ∧ bcase y6 (CallR Try.prog 16 #[.pointer t7, .int .u64 (1 : Int), .int .i64 (9 : Int)] w5 fun v7 w8 => ∃ (y9 : Bool), v7 = .bool y9 ∧ bcase y9 (CallR Try.prog 16 #[.pointer t7, .int .u64 (IntKind.wrap .u64 (IntKind.wrap .i64 ((2 : Int) * y3))), .int .i64 (1 : Int)] w8 fun v10 w11 => ∃ (y12 : Bool), v10 = .bool y12 ∧ bcase (!y12) (CallR Try.prog 18 #[.pointer t7] w11 fun v13 w14 => ∃ (y15 : Int), v13 = .int .i64 y15 ∧ Q (.bool (y15 == t0)) w14) (Q (.bool false) w11)) (Q (.bool false) w8)) (Q (.bool false) w5)
def X5.l1 (Q : Value → World → Prop) : Nat → Int → (Option Addr) → Nat → Nat → Int → (Option Addr) → Int → World → Prop
  | 0, _, _, _, _, _, _, _, _ => False
  | k + 1, t0, t1p, t1n, t1c, t2, t7, t10, w => bcase (decide (t10 < ((t1n : Nat) : Int))) (bcase (decide (t10 < (50 : Int))) (X5.j2 Q (X5.l1 Q k) t0 t1p t1n t1c t2 t7 t10 w) (X5.j3 Q t0 t2 t7 w)) (X5.j3 Q t0 t2 t7 w)
def X5.l0 (Q : Value → World → Prop) : Nat → Int → (Option Addr) → Nat → Nat → Int → (Option Addr) → Int → World → Prop
  | 0, _, _, _, _, _, _, _, _ => False
  | k + 1, t0, t1p, t1n, t1c, t2, t7, t9, w => bcase (decide (t9 < t0)) (CallR Try.prog 16 #[.pointer t7, .int .u64 (IntKind.wrap .u64 (IntKind.wrap .i64 ((2 : Int) * t9))), .int .i64 t9] w fun v1 w2 => ∃ (y3 : Bool), v1 = .bool y3 ∧ bcase (!y3) (Q (.bool false) w2) (X5.l0 Q k t0 t1p t1n t1c t2 t7 (IntKind.wrap .i64 (t9 + (1 : Int))) w2)) (∃ m4, X5.l1 Q m4 t0 t1p t1n t1c t2 t7 (0 : Int) w)
def X5.j4 (Q : Value → World → Prop) (t0 : Int) (t1p : Option Addr) (t1n : Nat) (t1c : Nat) (t2 : Int) (t7 : Option Addr) (w : World) : Prop := ∃ m1, X5.l0 Q m1 t0 t1p t1n t1c t2 t7 (0 : Int) w
def X5.f (a0 : Int) (a1p : Option Addr) (a1n : Nat) (a1c : Nat) (a2 : Int) (w : World) (Q : Value → World → Prop) : Prop := CallR Try.prog 19 #[.int .i64 a0, .int .i64 (40 : Int)] w fun v1 w2 => ∃ (y3 : Int), v1 = .int .i64 y3 ∧ CallR Try.prog 15 #[.int .i64 (IntKind.wrap .i64 ((1 : Int) + y3))] w2 fun v4 w5 => ∃ (y6 : Option Addr) (y7 : Int), v4 = .tuple #[.pointer y6, .int .i64 y7] ∧ CallR Try.prog 10 #[] w5 fun v8 w9 => ∃ (y10 : Bool), v8 = .bool y10 ∧ bcase (!y10) (Q (.bool false) w9) (bcase (y7 != (0 : Int)) (Q (.bool false) w9) (bcase (Option.isNone y6) (Q (.bool false) w9) (X5.j4 Q (IntKind.wrap .i64 ((1 : Int) + y3)) a1p a1n a1c a2 y6 w9)))
def X5.S (Q : Value → World → Prop) : Segs
  | 0, φ, ρ, w => qI .i64 (ρ 0) fun t0 => qSl (ρ 1) fun t1p t1n t1c => qI .i64 (ρ 2) fun t2 => qP (ρ 7) fun t7 => qI .i64 (ρ 9) fun t9 => X5.l0 Q (φ 0) t0 t1p t1n t1c t2 t7 t9 w
  | 1, φ, ρ, w => qI .i64 (ρ 0) fun t0 => qSl (ρ 1) fun t1p t1n t1c => qI .i64 (ρ 2) fun t2 => qP (ρ 7) fun t7 => qI .i64 (ρ 10) fun t10 => X5.l1 Q (φ 1) t0 t1p t1n t1c t2 t7 t10 w
  | 2, φ, ρ, w => qI .i64 (ρ 0) fun t0 => qSl (ρ 1) fun t1p t1n t1c => qI .i64 (ρ 2) fun t2 => qP (ρ 7) fun t7 => qI .i64 (ρ 10) fun t10 => X5.j2 Q (X5.l1 Q (φ 1)) t0 t1p t1n t1c t2 t7 t10 w
  | 3, φ, ρ, w => qI .i64 (ρ 0) fun t0 => qI .i64 (ρ 2) fun t2 => qP (ρ 7) fun t7 => X5.j3 Q t0 t2 t7 w
  | 4, φ, ρ, w => qI .i64 (ρ 0) fun t0 => qSl (ρ 1) fun t1p t1n t1c => qI .i64 (ρ 2) fun t2 => qP (ρ 7) fun t7 => X5.j4 Q t0 t1p t1n t1c t2 t7 w
  | _, _, _, _ => False
noncomputable def X5.an : Ann := (.seq .leaf (.seq .leaf (.seq .leaf (.seq (.seq .leaf (.cond (.seq .leaf .leaf) .leaf)) (.join 4 (.seq (.seq .leaf (.block (.loop 0 (.seq (.seq .leaf (.cond .leaf .leaf)) (.seq (.block (.seq .leaf (.cond (.seq .leaf .leaf) .leaf))) .leaf))))) (.seq (.seq .leaf (.block (.loop 1 (.seq (.seq .leaf (.cond .leaf .leaf)) (.join 2 (.seq (.block (.seq .leaf (.seq .leaf (.cond (.seq .leaf .leaf) .leaf)))) .leaf)))))) (.join 3 (.seq .leaf (.seq .leaf .leaf))))))))))
noncomputable def X5.c : Code := Try.f5.body.getD .skip
theorem X5.v (Q : Value → World → Prop) : V Try.prog (X5.S Q) X5.an X5.c (retC Try.prog Try.f5 Q) := ⟨trivial, ⟨trivial, ⟨trivial, ⟨⟨trivial, ⟨⟨trivial, trivial⟩, trivial⟩⟩, ⟨(by
    intro φ ρ w h
    simp only [X5.S] at h
    obtain ⟨t0, e0, h⟩ := qI_elim h
    obtain ⟨t1p, t1n, t1c, e1, h⟩ := qSl_elim h
    obtain ⟨t2, e2, h⟩ := qI_elim h
    obtain ⟨t7, e7, h⟩ := qP_elim h
    exact ⟨((((Env.nil.put (some 0) (.int .i64 t0)).put (some 1) (.slice t1p t1n t1c)).put (some 2) (.int .i64 t2)).put (some 7) (.pointer t7)), Env.le_put e7 (Env.le_put e2 (Env.le_put e1 (Env.le_put e0 (Env.le_nil _)))), Eq.mp (by kernel_rfl) h⟩), ⟨⟨trivial, ⟨(by
    intro φ ρ w h
    simp only [X5.S] at h
    obtain ⟨t0, e0, h⟩ := qI_elim h
    obtain ⟨t1p, t1n, t1c, e1, h⟩ := qSl_elim h
    obtain ⟨t2, e2, h⟩ := qI_elim h
    obtain ⟨t7, e7, h⟩ := qP_elim h
    obtain ⟨t9, e9, h⟩ := qI_elim h
    cases hk : φ 0 with
    | zero => rw [hk] at h; exact h.elim
    | succ k => rw [hk] at h; exact ⟨k, Nat.lt_succ_self k, (((((Env.nil.put (some 0) (.int .i64 t0)).put (some 1) (.slice t1p t1n t1c)).put (some 2) (.int .i64 t2)).put (some 7) (.pointer t7)).put (some 9) (.int .i64 t9)), Env.le_put e9 (Env.le_put e7 (Env.le_put e2 (Env.le_put e1 (Env.le_put e0 (Env.le_nil _))))), Eq.mp (by kernel_rfl) h⟩), ⟨⟨trivial, ⟨trivial, trivial⟩⟩, ⟨⟨trivial, ⟨⟨trivial, trivial⟩, trivial⟩⟩, trivial⟩⟩⟩⟩, ⟨⟨trivial, ⟨(by
    intro φ ρ w h
    simp only [X5.S] at h
    obtain ⟨t0, e0, h⟩ := qI_elim h
    obtain ⟨t1p, t1n, t1c, e1, h⟩ := qSl_elim h
    obtain ⟨t2, e2, h⟩ := qI_elim h
    obtain ⟨t7, e7, h⟩ := qP_elim h
    obtain ⟨t10, e10, h⟩ := qI_elim h
    cases hk : φ 1 with
    | zero => rw [hk] at h; exact h.elim
    | succ k => rw [hk] at h; exact ⟨k, Nat.lt_succ_self k, (((((Env.nil.put (some 0) (.int .i64 t0)).put (some 1) (.slice t1p t1n t1c)).put (some 2) (.int .i64 t2)).put (some 7) (.pointer t7)).put (some 10) (.int .i64 t10)), Env.le_put e10 (Env.le_put e7 (Env.le_put e2 (Env.le_put e1 (Env.le_put e0 (Env.le_nil _))))), Eq.mp (by kernel_rfl) h⟩), ⟨⟨trivial, ⟨trivial, trivial⟩⟩, ⟨(by
    intro φ ρ w h
    simp only [X5.S] at h
    obtain ⟨t0, e0, h⟩ := qI_elim h
    obtain ⟨t1p, t1n, t1c, e1, h⟩ := qSl_elim h
    obtain ⟨t2, e2, h⟩ := qI_elim h
    obtain ⟨t7, e7, h⟩ := qP_elim h
    obtain ⟨t10, e10, h⟩ := qI_elim h
    exact ⟨(((((Env.nil.put (some 0) (.int .i64 t0)).put (some 1) (.slice t1p t1n t1c)).put (some 2) (.int .i64 t2)).put (some 7) (.pointer t7)).put (some 10) (.int .i64 t10)), Env.le_put e10 (Env.le_put e7 (Env.le_put e2 (Env.le_put e1 (Env.le_put e0 (Env.le_nil _))))), Eq.mp (by kernel_rfl) h⟩), ⟨⟨trivial, ⟨trivial, ⟨⟨trivial, trivial⟩, trivial⟩⟩⟩, trivial⟩⟩⟩⟩⟩, ⟨(by
    intro φ ρ w h
    simp only [X5.S] at h
    obtain ⟨t0, e0, h⟩ := qI_elim h
    obtain ⟨t2, e2, h⟩ := qI_elim h
    obtain ⟨t7, e7, h⟩ := qP_elim h
    exact ⟨(((Env.nil.put (some 0) (.int .i64 t0)).put (some 2) (.int .i64 t2)).put (some 7) (.pointer t7)), Env.le_put e7 (Env.le_put e2 (Env.le_put e0 (Env.le_nil _))), Eq.mp (by kernel_rfl) h⟩), ⟨trivial, ⟨trivial, trivial⟩⟩⟩⟩⟩⟩⟩⟩⟩⟩
theorem X5.sound (a0 : Int) (a1p : Option Addr) (a1n : Nat) (a1c : Nat) (a2 : Int) (w : World) (Q : Value → World → Prop) (h : X5.f a0 a1p a1n a1c a2 w Q) : CallR Try.prog 5 #[.int .i64 a0, .slice a1p a1n a1c, .int .i64 a2] w Q :=
  fn_sound noGr mixed Try.func5 (c := X5.c) (an := X5.an) (S := X5.S Q) (φ := fun _ => 0) (args := [.int .i64 a0, .slice a1p a1n a1c, .int .i64 a2]) (by kernel_rfl) (by kernel_rfl) (by kernel_rfl) (X5.v Q) (Eq.mp (by kernel_rfl) h)
/-! ### mooring/mooringlaw6.TableTwo: function 6 -/
def X6.j1 (Q : Value → World → Prop) (b0 : Option Addr → Nat → Nat → Option Addr → Option Addr → Int → World → Prop) (t0p : Option Addr) (t0n : Nat) (t0c : Nat) (t3 : Option Addr) (t5 : Option Addr) (t7 : Int) (w : World) : Prop := (0 ≤ t7 ∧ t7 < ((t0n : Nat) : Int)) ∧ optP t0p fun p1 => ldI .i64 w ((p1.add (Int.toNat t7 * 4)).add 0) fun x2 => CallR Try.prog 19 #[.int .i64 x2, .int .i64 (4 : Int)] w fun v3 w4 => ∃ (y5 : Int), v3 = .int .i64 y5 ∧ bcase (y5 == (3 : Int)) ((0 ≤ t7 ∧ t7 < ((t0n : Nat) : Int)) ∧ optP t0p fun p6 => ldI .u64 w4 ((p6.add (Int.toNat t7 * 4)).add 1) fun x7 => (20 : Int) ≠ 0 ∧ CallR Try.prog 21 #[.pointer t3, .int .u64 (Int.tmod x7 (20 : Int))] w4 fun v8 w9 => ∃ (y10 : Bool), v8 = .bool y10 ∧ b0 t0p t0n t0c t3 t5 (IntKind.wrap .i64 (t7 + (1 : Int))) w9) (drewK w4 fun w11 => (0 ≤ t7 ∧ t7 < ((t0n : Nat) : Int)) ∧ optP t0p fun p12 => ldI .u64 w11 ((p12.add (Int.toNat t7 * 4)).add 1) fun x13 => (20 : Int) ≠ 0 ∧ (0 ≤ t7 ∧ t7 < ((t0n : Nat) : Int)) ∧ optP t0p fun p14 => ldI .i64 w11 ((p14.add (Int.toNat t7 * 4)).add 2) fun x15 => CallR Try.prog 16 #[.pointer t3, .int .u64 (Int.tmod x13 (20 : Int)), .int .i64 x15] w11 fun v16 w17 => ∃ (y18 : Bool), v16 = .bool y18 ∧ b0 t0p t0n t0c t3 t5 (IntKind.wrap .i64 (t7 + (1 : Int))) w17)
def X6.j2 (Q : Value → World → Prop) (t5 : Option Addr) (w : World) : Prop := CallR Try.prog 20 #[.pointer t5, .int .u64 (5 : Int)] w fun v1 w2 => ∃ (y3 : Int) (y4 : Bool), v1 = .tuple #[.int .i64 y3, .bool y4] ∧ bcase y4 (bcase (y3 == (6 : Int)) (CallR Try.prog 18 #[.pointer t5] w2 fun v5 w6 => ∃ (y7 : Int), v5 = .int .i64 y7 ∧ Q (.bool (y7 == (1 : Int))) w6) (Q (.bool false) w2)) (Q (.bool false) w2)
def X6.l0 (Q : Value → World → Prop) : Nat → (Option Addr) → Nat → Nat → (Option Addr) → (Option Addr) → Int → World → Prop
  | 0, _, _, _, _, _, _, _ => False
  | k + 1, t0p, t0n, t0c, t3, t5, t7, w => bcase (decide (t7 < ((t0n : Nat) : Int))) (bcase (decide (t7 < (200 : Int))) (X6.j1 Q (X6.l0 Q k) t0p t0n t0c t3 t5 t7 w) (X6.j2 Q t5 w)) (X6.j2 Q t5 w)
def X6.j3 (Q : Value → World → Prop) (t0p : Option Addr) (t0n : Nat) (t0c : Nat) (t3 : Option Addr) (t5 : Option Addr) (w : World) : Prop := CallR Try.prog 16 #[.pointer t5, .int .u64 (5 : Int), .int .i64 (6 : Int)] w fun v1 w2 => ∃ (y3 : Bool), v1 = .bool y3 ∧ ∃ m4, X6.l0 Q m4 t0p t0n t0c t3 t5 (0 : Int) w2
def X6.f (a0p : Option Addr) (a0n : Nat) (a0c : Nat) (w : World) (Q : Value → World → Prop) : Prop := CallR Try.prog 15 #[.int .i64 (100 : Int)] w fun v1 w2 => ∃ (y3 : Option Addr) (y4 : Int), v1 = .tuple #[.pointer y3, .int .i64 y4] ∧ CallR Try.prog 15 #[.int .i64 (100 : Int)] w2 fun v5 w6 => ∃ (y7 : Option Addr) (y8 : Int), v5 = .tuple #[.pointer y7, .int .i64 y8] ∧ CallR Try.prog 10 #[] w6 fun v9 w10 => ∃ (y11 : Bool), v9 = .bool y11 ∧ bcase (!y11) (Q (.bool false) w10) (bcase (y4 != (0 : Int)) (Q (.bool false) w10) (bcase (y8 != (0 : Int)) (Q (.bool false) w10) (bcase (Option.isNone y3) (Q (.bool false) w10) (bcase (Option.isNone y7) (Q (.bool false) w10) (X6.j3 Q a0p a0n a0c y3 y7 w10)))))
def X6.S (Q : Value → World → Prop) : Segs
  | 0, φ, ρ, w => qSl (ρ 0) fun t0p t0n t0c => qP (ρ 3) fun t3 => qP (ρ 5) fun t5 => qI .i64 (ρ 7) fun t7 => X6.l0 Q (φ 0) t0p t0n t0c t3 t5 t7 w
  | 1, φ, ρ, w => qSl (ρ 0) fun t0p t0n t0c => qP (ρ 3) fun t3 => qP (ρ 5) fun t5 => qI .i64 (ρ 7) fun t7 => X6.j1 Q (X6.l0 Q (φ 0)) t0p t0n t0c t3 t5 t7 w
  | 2, φ, ρ, w => qP (ρ 5) fun t5 => X6.j2 Q t5 w
  | 3, φ, ρ, w => qSl (ρ 0) fun t0p t0n t0c => qP (ρ 3) fun t3 => qP (ρ 5) fun t5 => X6.j3 Q t0p t0n t0c t3 t5 w
  | _, _, _, _ => False
noncomputable def X6.an : Ann := (.seq .leaf (.seq .leaf (.seq .leaf (.seq (.seq .leaf (.cond (.seq .leaf .leaf) .leaf)) (.join 3 (.seq .leaf (.seq (.seq .leaf (.block (.loop 0 (.seq (.seq .leaf (.cond .leaf .leaf)) (.join 1 (.seq (.block (.seq .leaf (.cond .leaf (.draw [0, 0, 0, 6, 14, 30, 62, 0, 0, 384, 896, 1920, 4095] [[0, 1, 2, 3, 4, 5, 6, 7, 8, 9, 10, 11, 12]])))) .leaf)))))) (.join 2 (.seq .leaf (.seq .leaf .leaf))))))))))
noncomputable def X6.c : Code := Try.f6.body.getD .skip
theorem X6.v (Q : Value → World → Prop) : V Try.prog (X6.S Q) X6.an X6.c (retC Try.prog Try.f6 Q) := ⟨trivial, ⟨trivial, ⟨trivial, ⟨⟨trivial, ⟨⟨trivial, trivial⟩, trivial⟩⟩, ⟨(by
    intro φ ρ w h
    simp only [X6.S] at h
    obtain ⟨t0p, t0n, t0c, e0, h⟩ := qSl_elim h
    obtain ⟨t3, e3, h⟩ := qP_elim h
    obtain ⟨t5, e5, h⟩ := qP_elim h
    exact ⟨(((Env.nil.put (some 0) (.slice t0p t0n t0c)).put (some 3) (.pointer t3)).put (some 5) (.pointer t5)), Env.le_put e5 (Env.le_put e3 (Env.le_put e0 (Env.le_nil _))), Eq.mp (by kernel_rfl) h⟩), ⟨trivial, ⟨⟨trivial, ⟨(by
    intro φ ρ w h
    simp only [X6.S] at h
    obtain ⟨t0p, t0n, t0c, e0, h⟩ := qSl_elim h
    obtain ⟨t3, e3, h⟩ := qP_elim h
    obtain ⟨t5, e5, h⟩ := qP_elim h
    obtain ⟨t7, e7, h⟩ := qI_elim h
    cases hk : φ 0 with
    | zero => rw [hk] at h; exact h.elim
    | succ k => rw [hk] at h; exact ⟨k, Nat.lt_succ_self k, ((((Env.nil.put (some 0) (.slice t0p t0n t0c)).put (some 3) (.pointer t3)).put (some 5) (.pointer t5)).put (some 7) (.int .i64 t7)), Env.le_put e7 (Env.le_put e5 (Env.le_put e3 (Env.le_put e0 (Env.le_nil _)))), Eq.mp (by kernel_rfl) h⟩), ⟨⟨trivial, ⟨trivial, trivial⟩⟩, ⟨(by
    intro φ ρ w h
    simp only [X6.S] at h
    obtain ⟨t0p, t0n, t0c, e0, h⟩ := qSl_elim h
    obtain ⟨t3, e3, h⟩ := qP_elim h
    obtain ⟨t5, e5, h⟩ := qP_elim h
    obtain ⟨t7, e7, h⟩ := qI_elim h
    exact ⟨((((Env.nil.put (some 0) (.slice t0p t0n t0c)).put (some 3) (.pointer t3)).put (some 5) (.pointer t5)).put (some 7) (.int .i64 t7)), Env.le_put e7 (Env.le_put e5 (Env.le_put e3 (Env.le_put e0 (Env.le_nil _)))), Eq.mp (by kernel_rfl) h⟩), ⟨⟨trivial, ⟨trivial, trivial⟩⟩, trivial⟩⟩⟩⟩⟩, ⟨(by
    intro φ ρ w h
    simp only [X6.S] at h
    obtain ⟨t5, e5, h⟩ := qP_elim h
    exact ⟨(Env.nil.put (some 5) (.pointer t5)), Env.le_put e5 (Env.le_nil _), Eq.mp (by kernel_rfl) h⟩), ⟨trivial, ⟨trivial, trivial⟩⟩⟩⟩⟩⟩⟩⟩⟩⟩
theorem X6.sound (a0p : Option Addr) (a0n : Nat) (a0c : Nat) (w : World) (Q : Value → World → Prop) (h : X6.f a0p a0n a0c w Q) : CallR Try.prog 6 #[.slice a0p a0n a0c] w Q :=
  fn_sound noGr mixed Try.func6 (c := X6.c) (an := X6.an) (S := X6.S Q) (φ := fun _ => 0) (args := [.slice a0p a0n a0c]) (by kernel_rfl) (by kernel_rfl) (by kernel_rfl) (X6.v Q) (Eq.mp (by kernel_rfl) h)
/-! ### mooring/mooringlaw6.TableKnown: function 7 -/
def X7.j0 (Q : Value → World → Prop) (t5 : Option Addr) (w : World) : Prop := CallR Try.prog 23 #[.pointer t5] w fun v1 w2 => ∃ (y3 : ByteArray) (y4 : Bool), v1 = .tuple #[.string y3, .bool y4] ∧ CallR Try.prog 11 #[.pointer t5, .string (⟨#[98]⟩ : ByteArray), .int .i64 (1 : Int)] w2 fun v5 w6 => ∃ (y7 : Bool), v5 = .bool y7 ∧ CallR Try.prog 11 #[.pointer t5, .string (⟨#[97]⟩ : ByteArray), .int .i64 (2 : Int)] w6 fun v8 w9 => ∃ (y10 : Bool), v8 = .bool y10 ∧ CallR Try.prog 13 #[.pointer t5] w9 fun v11 w12 => ∃ (y13p : Option Addr) (y13n y13c : Nat), v11 = .slice y13p y13n y13c ∧ CallR Try.prog 24 #[.pointer t5, .string (⟨#[98]⟩ : ByteArray)] w12 fun v14 w15 => ∃ (y16 : ByteArray) (y17 : Bool), v14 = .tuple #[.string y16, .bool y17] ∧ CallR Try.prog 25 #[.pointer t5, .string (⟨#[98]⟩ : ByteArray)] w15 fun v18 w19 => ∃ (y20 : ByteArray) (y21 : Bool), v18 = .tuple #[.string y20, .bool y21] ∧ bcase (!y4) (bcase (((y13n : Nat) : Int) == (2 : Int)) ((0 ≤ (0 : Int) ∧ (0 : Int) < ((y13n : Nat) : Int)) ∧ optP y13p fun p22 => ldS w19 (p22.add (Int.toNat (0 : Int) * 1)) fun x23 => bcase (strEq x23 (⟨#[97]⟩ : ByteArray)) ((0 ≤ (1 : Int) ∧ (1 : Int) < ((y13n : Nat) : Int)) ∧ optP y13p fun p24 => ldS w19 (p24.add (Int.toNat (1 : Int) * 1)) fun x25 => bcase (strEq x25 (⟨#[98]⟩ : ByteArray)) (bcase (strEq y16 (⟨#[97]⟩ : ByteArray)) (bcase y17 (bcase (strEq y20 (⟨#[]⟩ : ByteArray)) (bcase (!y21) (CallR Try.prog 26 #[.pointer t5, .string (⟨#[97]⟩ : ByteArray)] w19 fun v26 w27 => ∃ (y28 : Bool), v26 = .bool y28 ∧ bcase y28 (CallR Try.prog 26 #[.pointer t5, .string (⟨#[97]⟩ : ByteArray)] w27 fun v29 w30 => ∃ (y31 : Bool), v29 = .bool y31 ∧ bcase (!y31) (CallR Try.prog 14 #[.pointer t5] w30 fun v32 w33 => ∃ (y34 : Int), v32 = .int .i64 y34 ∧ Q (.bool (y34 == (1 : Int))) w33) (Q (.bool false) w30)) (Q (.bool false) w27)) (Q (.bool false) w19)) (Q (.bool false) w19)) (Q (.bool false) w19)) (Q (.bool false) w19)) (Q (.bool false) w19)) (Q (.bool false) w19)) (Q (.bool false) w19)) (Q (.bool false) w19)
def X7.f (w : World) (Q : Value → World → Prop) : Prop := CallR Try.prog 22 #[.int .i64 (0 : Int)] w fun v1 w2 => ∃ (y3 : Option Addr) (y4 : Int), v1 = .tuple #[.pointer y3, .int .i64 y4] ∧ CallR Try.prog 22 #[.int .i64 (4097 : Int)] w2 fun v5 w6 => ∃ (y7 : Option Addr) (y8 : Int), v5 = .tuple #[.pointer y7, .int .i64 y8] ∧ CallR Try.prog 9 #[.int .i64 (2 : Int)] w6 fun v9 w10 => ∃ (y11 : Option Addr) (y12 : Int), v9 = .tuple #[.pointer y11, .int .i64 y12] ∧ CallR Try.prog 10 #[] w10 fun v13 w14 => ∃ (y15 : Bool), v13 = .bool y15 ∧ bcase (!y15) (Q (.bool false) w14) (bcase (y4 != (1 : Int)) (Q (.bool false) w14) (bcase (y8 != (1 : Int)) (Q (.bool false) w14) (bcase (y12 != (0 : Int)) (Q (.bool false) w14) (bcase (Option.isNone y11) (Q (.bool false) w14) (X7.j0 Q y11 w14)))))
def X7.S (Q : Value → World → Prop) : Segs
  | 0, φ, ρ, w => qP (ρ 5) fun t5 => X7.j0 Q t5 w
  | _, _, _, _ => False
noncomputable def X7.an : Ann := (.seq .leaf (.seq .leaf (.seq .leaf (.seq .leaf (.seq (.seq .leaf (.cond (.seq .leaf .leaf) .leaf)) (.join 0 (.seq .leaf (.seq .leaf (.seq .leaf (.seq .leaf (.seq .leaf (.seq .leaf (.seq .leaf .leaf)))))))))))))
noncomputable def X7.c : Code := Try.f7.body.getD .skip
theorem X7.v (Q : Value → World → Prop) : V Try.prog (X7.S Q) X7.an X7.c (retC Try.prog Try.f7 Q) := ⟨trivial, ⟨trivial, ⟨trivial, ⟨trivial, ⟨⟨trivial, ⟨⟨trivial, trivial⟩, trivial⟩⟩, ⟨(by
    intro φ ρ w h
    simp only [X7.S] at h
    obtain ⟨t5, e5, h⟩ := qP_elim h
    exact ⟨(Env.nil.put (some 5) (.pointer t5)), Env.le_put e5 (Env.le_nil _), Eq.mp (by kernel_rfl) h⟩), ⟨trivial, ⟨trivial, ⟨trivial, ⟨trivial, ⟨trivial, ⟨trivial, ⟨trivial, trivial⟩⟩⟩⟩⟩⟩⟩⟩⟩⟩⟩⟩⟩
theorem X7.sound (w : World) (Q : Value → World → Prop) (h : X7.f  w Q) : CallR Try.prog 7 #[] w Q :=
  fn_sound noGr mixed Try.func7 (c := X7.c) (an := X7.an) (S := X7.S Q) (φ := fun _ => 0) (args := []) (by kernel_rfl) (by kernel_rfl) (by kernel_rfl) (X7.v Q) (Eq.mp (by kernel_rfl) h)
/-! ### mooring/mooringlaw6.TablePlays: function 8 -/
def X8.j2 (Q : Value → World → Prop) (b0 : Option Addr → Nat → Nat → Option Addr → Addr → Int → World → Prop) (t1p : Option Addr) (t1n : Nat) (t1c : Nat) (t5 : Option Addr) (t7 : Addr) (t8 : Int) (t9 : Addr) (w : World) : Prop := ldI .i64 w (t9.add 0) fun x1 => CallR Try.prog 19 #[.int .i64 x1, .int .i64 (8 : Int)] w fun v2 w3 => ∃ (y4 : Int), v2 = .int .i64 y4 ∧ bcase (y4 == (3 : Int)) (ldI .u64 w3 (t9.add 1) fun x5 => CallR Try.prog 20 #[.pointer t5, .int .u64 x5] w3 fun v6 w7 => ∃ (y8 : Int) (y9 : Bool), v6 = .tuple #[.int .i64 y8, .bool y9] ∧ ldI .u64 w7 (t9.add 1) fun x10 => CallR Try.prog 27 #[.pointer (some t7), .int .u64 x10] w7 fun v11 w12 => ∃ (y13 : Int) (y14 : Bool), v11 = .tuple #[.int .i64 y13, .bool y14] ∧ bcase (y8 == y13) (drewK w12 fun w15 => bcase (!(y9 == y14)) (Q (.bool false) w15) (CallR Try.prog 18 #[.pointer t5] w15 fun v16 w17 => ∃ (y18 : Int), v16 = .int .i64 y18 ∧ ldSl w17 (t7.add 1) fun x19p x19n x19c => (World.cell? w15 (t7.add 1) = some (.slice x19p x19n x19c) ∧ World.cell? w17 (t7.add 1) = some (.slice x19p x19n x19c)) ∧ bcase (y18 != ((x19n : Nat) : Int)) (Q (.bool false) w17) (b0 t1p t1n t1c t5 t7 (IntKind.wrap .i64 (t8 + (1 : Int))) w17))) (drewK w12 fun w20 => Q (.bool false) w20)) (bcase (y4 == (4 : Int)) (drewK w3 fun w21 => ldI .u64 w21 (t9.add 1) fun x22 => CallR Try.prog 21 #[.pointer t5, .int .u64 x22] w21 fun v23 w24 => ∃ (y25 : Bool), v23 = .bool y25 ∧ ldI .u64 w24 (t9.add 1) fun x26 => (World.cell? w21 (t9.add 1) = some (.int .u64 x26) ∧ World.cell? w24 (t9.add 1) = some (.int .u64 x26)) ∧ CallR Try.prog 28 #[.pointer (some t7), .int .u64 x26] w24 fun v27 w28 => ∃ (y29 : Bool), v27 = .bool y29 ∧ drewK w28 fun w30 => bcase (!(y25 == y29)) (Q (.bool false) w30) (CallR Try.prog 18 #[.pointer t5] w30 fun v31 w32 => ∃ (y33 : Int), v31 = .int .i64 y33 ∧ ldSl w32 (t7.add 1) fun x34p x34n x34c => (World.cell? w30 (t7.add 1) = some (.slice x34p x34n x34c) ∧ World.cell? w32 (t7.add 1) = some (.slice x34p x34n x34c)) ∧ bcase (y33 != ((x34n : Nat) : Int)) (Q (.bool false) w32) (b0 t1p t1n t1c t5 t7 (IntKind.wrap .i64 (t8 + (1 : Int))) w32))) (bcase (y4 == (5 : Int)) (ldI .u64 w3 (t9.add 1) fun x35 => CallR Try.prog 29 #[.pointer t5, .int .u64 x35] w3 fun v36 w37 => ∃ (y38 : Int) (y39 : Bool), v36 = .tuple #[.int .u64 y38, .bool y39] ∧ ldI .u64 w37 (t9.add 1) fun x40 => CallR Try.prog 30 #[.pointer (some t7), .int .u64 x40] w37 fun v41 w42 => ∃ (y43 : Int) (y44 : Bool), v41 = .tuple #[.int .u64 y43, .bool y44] ∧ bcase (y38 == y43) (drewK w42 fun w45 => bcase (!(y39 == y44)) (Q (.bool false) w45) (CallR Try.prog 18 #[.pointer t5] w45 fun v46 w47 => ∃ (y48 : Int), v46 = .int .i64 y48 ∧ ldSl w47 (t7.add 1) fun x49p x49n x49c => (World.cell? w45 (t7.add 1) = some (.slice x49p x49n x49c) ∧ World.cell? w47 (t7.add 1) = some (.slice x49p x49n x49c)) ∧ bcase (y48 != ((x49n : Nat) : Int)) (Q (.bool false) w47) (b0 t1p t1n t1c t5 t7 (IntKind.wrap .i64 (t8 + (1 : Int))) w47))) (drewK w42 fun w50 => Q (.bool false) w50)) (bcase (y4 == (6 : Int)) (ldI .u64 w3 (t9.add 1) fun x51 => CallR Try.prog 17 #[.pointer t5, .int .u64 x51] w3 fun v52 w53 => ∃ (y54 : Int) (y55 : Bool), v52 = .tuple #[.int .u64 y54, .bool y55] ∧ ldI .u64 w53 (t9.add 1) fun x56 => CallR Try.prog 31 #[.pointer (some t7), .int .u64 x56] w53 fun v57 w58 => ∃ (y59 : Int) (y60 : Bool), v57 = .tuple #[.int .u64 y59, .bool y60] ∧ bcase (y54 == y59) (drewK w58 fun w61 => bcase (!(y55 == y60)) (Q (.bool false) w61) (CallR Try.prog 18 #[.pointer t5] w61 fun v62 w63 => ∃ (y64 : Int), v62 = .int .i64 y64 ∧ ldSl w63 (t7.add 1) fun x65p x65n x65c => (World.cell? w61 (t7.add 1) = some (.slice x65p x65n x65c) ∧ World.cell? w63 (t7.add 1) = some (.slice x65p x65n x65c)) ∧ bcase (y64 != ((x65n : Nat) : Int)) (Q (.bool false) w63) (b0 t1p t1n t1c t5 t7 (IntKind.wrap .i64 (t8 + (1 : Int))) w63))) (drewK w58 fun w66 => Q (.bool false) w66)) (bcase (y4 == (7 : Int)) (CallR Try.prog 32 #[.pointer t5] w3 fun v67 w68 => ∃ (y69 : Int) (y70 : Bool), v67 = .tuple #[.int .u64 y69, .bool y70] ∧ CallR Try.prog 33 #[.pointer (some t7)] w68 fun v71 w72 => ∃ (y73 : Int) (y74 : Bool), v71 = .tuple #[.int .u64 y73, .bool y74] ∧ bcase (y69 == y73) (drewK w72 fun w75 => bcase (!(y70 == y74)) (Q (.bool false) w75) (CallR Try.prog 18 #[.pointer t5] w75 fun v76 w77 => ∃ (y78 : Int), v76 = .int .i64 y78 ∧ ldSl w77 (t7.add 1) fun x79p x79n x79c => (World.cell? w75 (t7.add 1) = some (.slice x79p x79n x79c) ∧ World.cell? w77 (t7.add 1) = some (.slice x79p x79n x79c)) ∧ bcase (y78 != ((x79n : Nat) : Int)) (Q (.bool false) w77) (b0 t1p t1n t1c t5 t7 (IntKind.wrap .i64 (t8 + (1 : Int))) w77))) (drewK w72 fun w80 => Q (.bool false) w80)) (drewK w3 fun w81 => ldI .u64 w81 (t9.add 1) fun x82 => ldI .i64 w81 (t9.add 2) fun x83 => CallR Try.prog 16 #[.pointer t5, .int .u64 x82, .int .i64 x83] w81 fun v84 w85 => ∃ (y86 : Bool), v84 = .bool y86 ∧ ldI .u64 w85 (t9.add 1) fun x87 => (World.cell? w81 (t9.add 1) = some (.int .u64 x87) ∧ World.cell? w85 (t9.add 1) = some (.int .u64 x87)) ∧ ldI .i64 w85 (t9.add 2) fun x88 => (World.cell? w81 (t9.add 2) = some (.int .i64 x88) ∧ World.cell? w85 (t9.add 2) = some (.int .i64 x88)) ∧ CallR Try.prog 34 #[.pointer (some t7), .int .u64 x87, .int .i64 x88] w85 fun v89 w90 => ∃ (y91 : Bool), v89 = .bool y91 ∧ drewK w90 fun w92 => bcase (!(y86 == y91)) (Q (.bool false) w92) (CallR Try.prog 18 #[.pointer t5] w92 fun v93 w94 => ∃ (y95 : Int), v93 = .int .i64 y95 ∧ ldSl w94 (t7.add 1) fun x96p x96n x96c => (World.cell? w92 (t7.add 1) = some (.slice x96p x96n x96c) ∧ World.cell? w94 (t7.add 1) = some (.slice x96p x96n x96c)) ∧ bcase (y95 != ((x96n : Nat) : Int)) (Q (.bool false) w94) (b0 t1p t1n t1c t5 t7 (IntKind.wrap .i64 (t8 + (1 : Int))) w94)))))))
def X8.j3 (Q : Value → World → Prop) (b0 : Option Addr → Nat → Nat → Option Addr → Addr → Int → World → Prop) (t1p : Option Addr) (t1n : Nat) (t1c : Nat) (t5 : Option Addr) (t7 : Addr) (t8 : Int) (w : World) : Prop := (0 ≤ t8 ∧ t8 < ((t1n : Nat) : Int)) ∧ optP t1p fun p1 => ldI .i64 w ((p1.add (Int.toNat t8 * 4)).add 0) fun x2 => ldI .u64 w ((p1.add (Int.toNat t8 * 4)).add 1) fun x3 => ldI .i64 w ((p1.add (Int.toNat t8 * 4)).add 2) fun x4 => ldB w ((p1.add (Int.toNat t8 * 4)).add 3) fun x5 => newK w #[.int .i64 (0 : Int), .int .u64 (0 : Int), .int .i64 (0 : Int), .bool false] 50 fun g6 w7 => stAll w7 g6 [.int .i64 x2, .int .u64 x3, .int .i64 x4, .bool x5] fun w8 => ldB w8 (g6.add 3) fun x9 => bcase x9 (ldI .u64 w8 (g6.add 1) fun x10 => (12 : Int) ≠ 0 ∧ stK w8 (g6.add 1) (.int .u64 (Int.tmod x10 (12 : Int))) fun w11 => X8.j2 Q b0 t1p t1n t1c t5 t7 t8 g6 w11) (X8.j2 Q b0 t1p t1n t1c t5 t7 t8 g6 w8)
def X8.j4 (Q : Value → World → Prop) (b1 : Option Addr → Addr → Option Addr → Nat → Nat → Int → World → Prop) (t5 : Option Addr) (t7 : Addr) (t27p : Option Addr) (t27n : Nat) (t27c : Nat) (t28 : Int) (w : World) : Prop := (0 ≤ t28 ∧ t28 < ((t27n : Nat) : Int)) ∧ optP t27p fun p1 => ldI .u64 w (p1.add (Int.toNat t28 * 1)) fun x2 => CallR Try.prog 20 #[.pointer t5, .int .u64 x2] w fun v3 w4 => ∃ (y5 : Int) (y6 : Bool), v3 = .tuple #[.int .i64 y5, .bool y6] ∧ bcase (!y6) (Q (.bool false) w4) (ldSl w4 (t7.add 2) fun x7p x7n x7c => (0 ≤ t28 ∧ t28 < ((x7n : Nat) : Int)) ∧ optP x7p fun p8 => ldI .i64 w4 (p8.add (Int.toNat t28 * 1)) fun x9 => bcase (y5 != x9) (Q (.bool false) w4) ((0 ≤ t28 ∧ t28 < ((t27n : Nat) : Int)) ∧ optP t27p fun p10 => stK w4 (p10.add (Int.toNat t28 * 1)) (.int .u64 (9223372036854775808 : Int)) fun w11 => b1 t5 t7 t27p t27n t27c (IntKind.wrap .i64 (t28 + (1 : Int))) w11))
def X8.l1 (Q : Value → World → Prop) : Nat → (Option Addr) → Addr → (Option Addr) → Nat → Nat → Int → World → Prop
  | 0, _, _, _, _, _, _, _ => False
  | k + 1, t5, t7, t27p, t27n, t27c, t28, w => bcase (decide (t28 < ((t27n : Nat) : Int))) (drewK w fun w1 => ldSl w1 (t7.add 1) fun x2p x2n x2c => bcase (decide (t28 ≥ ((x2n : Nat) : Int))) (Q (.bool false) w1) ((0 ≤ t28 ∧ t28 < ((t27n : Nat) : Int)) ∧ optP t27p fun p3 => ldI .u64 w1 (p3.add (Int.toNat t28 * 1)) fun x4 => ldSl w1 (t7.add 1) fun x5p x5n x5c => (0 ≤ t28 ∧ t28 < ((x5n : Nat) : Int)) ∧ optP x5p fun p6 => ldI .u64 w1 (p6.add (Int.toNat t28 * 1)) fun x7 => bcase (x4 != x7) (Q (.bool false) w1) (X8.j4 Q (X8.l1 Q k) t5 t7 t27p t27n t27c t28 w1))) (drewK w fun w8 => ldSl w8 (t7.add 1) fun x9p x9n x9c => bcase (((t27n : Nat) : Int) == ((x9n : Nat) : Int)) (CallR Try.prog 35 #[.pointer t5] w8 fun v10 w11 => ∃ (y12p : Option Addr) (y12n y12c : Nat), v10 = .slice y12p y12n y12c ∧ ldSl w11 (t7.add 1) fun x13p x13n x13c => (World.cell? w8 (t7.add 1) = some (.slice x13p x13n x13c) ∧ World.cell? w11 (t7.add 1) = some (.slice x13p x13n x13c)) ∧ bcase (((y12n : Nat) : Int) == ((x13n : Nat) : Int)) (bcase (((t27n : Nat) : Int) == (0 : Int)) (Q (.bool true) w11) (CallR Try.prog 35 #[.pointer t5] w11 fun v14 w15 => ∃ (y16p : Option Addr) (y16n y16c : Nat), v14 = .slice y16p y16n y16c ∧ (0 ≤ (0 : Int) ∧ (0 : Int) < ((y16n : Nat) : Int)) ∧ optP y16p fun p17 => ldI .u64 w15 (p17.add (Int.toNat (0 : Int) * 1)) fun x18 => ldSl w15 (t7.add 1) fun x19p x19n x19c => (World.cell? w11 (t7.add 1) = some (.slice x19p x19n x19c) ∧ World.cell? w15 (t7.add 1) = some (.slice x19p x19n x19c)) ∧ (0 ≤ (0 : Int) ∧ (0 : Int) < ((x19n : Nat) : Int)) ∧ optP x19p fun p20 => ldI .u64 w15 (p20.add (Int.toNat (0 : Int) * 1)) fun x21 => (World.cell? w11 (p20.add (Int.toNat (0 : Int) * 1)) = some (.int .u64 x21) ∧ World.cell? w15 (p20.add (Int.toNat (0 : Int) * 1)) = some (.int .u64 x21)) ∧ Q (.bool (x18 == x21)) w15)) (Q (.bool false) w11)) (Q (.bool false) w8))
def X8.j5 (Q : Value → World → Prop) (t5 : Option Addr) (t7 : Addr) (w : World) : Prop := CallR Try.prog 35 #[.pointer t5] w fun v1 w2 => ∃ (y3p : Option Addr) (y3n y3c : Nat), v1 = .slice y3p y3n y3c ∧ ∃ m4, X8.l1 Q m4 t5 t7 y3p y3n y3c (0 : Int) w2
def X8.l0 (Q : Value → World → Prop) : Nat → (Option Addr) → Nat → Nat → (Option Addr) → Addr → Int → World → Prop
  | 0, _, _, _, _, _, _, _ => False
  | k + 1, t1p, t1n, t1c, t5, t7, t8, w => bcase (decide (t8 < ((t1n : Nat) : Int))) (bcase (decide (t8 < (600 : Int))) (X8.j3 Q (X8.l0 Q k) t1p t1n t1c t5 t7 t8 w) (X8.j5 Q t5 t7 w)) (X8.j5 Q t5 t7 w)
def X8.j6 (Q : Value → World → Prop) (t0 : Int) (t1p : Option Addr) (t1n : Nat) (t1c : Nat) (t5 : Option Addr) (w : World) : Prop := newK w #[.int .i64 t0, .slice none 0 0, .slice none 0 0] 61 fun g1 w2 => ∃ m3, X8.l0 Q m3 t1p t1n t1c t5 g1 (0 : Int) w2
def X8.j7 (Q : Value → World → Prop) (t0 : Int) (t1p : Option Addr) (t1n : Nat) (t1c : Nat) (t5 : Option Addr) (t6 : Int) (w : World) : Prop := bcase (t6 != (0 : Int)) (Q (.bool false) w) (bcase (Option.isNone t5) (Q (.bool false) w) (X8.j6 Q t0 t1p t1n t1c t5 w))
def X8.f (a0 : Int) (a1p : Option Addr) (a1n : Nat) (a1c : Nat) (w : World) (Q : Value → World → Prop) : Prop := CallR Try.prog 15 #[.int .i64 a0] w fun v1 w2 => ∃ (y3 : Option Addr) (y4 : Int), v1 = .tuple #[.pointer y3, .int .i64 y4] ∧ CallR Try.prog 10 #[] w2 fun v5 w6 => ∃ (y7 : Bool), v5 = .bool y7 ∧ bcase (!y7) (Q (.bool false) w6) (bcase (decide (a0 < (1 : Int))) (bcase (y4 == (1 : Int)) (Q (.bool (Option.isNone y3)) w6) (Q (.bool false) w6)) (bcase (decide (a0 > (4096 : Int))) (bcase (y4 == (1 : Int)) (Q (.bool (Option.isNone y3)) w6) (Q (.bool false) w6)) (X8.j7 Q a0 a1p a1n a1c y3 y4 w6)))
def X8.S (Q : Value → World → Prop) : Segs
  | 0, φ, ρ, w => qSl (ρ 1) fun t1p t1n t1c => qP (ρ 5) fun t5 => qA (ρ 7) fun t7 => qI .i64 (ρ 8) fun t8 => X8.l0 Q (φ 0) t1p t1n t1c t5 t7 t8 w
  | 1, φ, ρ, w => qP (ρ 5) fun t5 => qA (ρ 7) fun t7 => qSl (ρ 27) fun t27p t27n t27c => qI .i64 (ρ 28) fun t28 => X8.l1 Q (φ 1) t5 t7 t27p t27n t27c t28 w
  | 2, φ, ρ, w => qSl (ρ 1) fun t1p t1n t1c => qP (ρ 5) fun t5 => qA (ρ 7) fun t7 => qI .i64 (ρ 8) fun t8 => qA (ρ 9) fun t9 => X8.j2 Q (X8.l0 Q (φ 0)) t1p t1n t1c t5 t7 t8 t9 w
  | 3, φ, ρ, w => qSl (ρ 1) fun t1p t1n t1c => qP (ρ 5) fun t5 => qA (ρ 7) fun t7 => qI .i64 (ρ 8) fun t8 => X8.j3 Q (X8.l0 Q (φ 0)) t1p t1n t1c t5 t7 t8 w
  | 4, φ, ρ, w => qP (ρ 5) fun t5 => qA (ρ 7) fun t7 => qSl (ρ 27) fun t27p t27n t27c => qI .i64 (ρ 28) fun t28 => X8.j4 Q (X8.l1 Q (φ 1)) t5 t7 t27p t27n t27c t28 w
  | 5, φ, ρ, w => qP (ρ 5) fun t5 => qA (ρ 7) fun t7 => X8.j5 Q t5 t7 w
  | 6, φ, ρ, w => qI .i64 (ρ 0) fun t0 => qSl (ρ 1) fun t1p t1n t1c => qP (ρ 5) fun t5 => X8.j6 Q t0 t1p t1n t1c t5 w
  | 7, φ, ρ, w => qI .i64 (ρ 0) fun t0 => qSl (ρ 1) fun t1p t1n t1c => qP (ρ 5) fun t5 => qI .i64 (ρ 6) fun t6 => X8.j7 Q t0 t1p t1n t1c t5 t6 w
  | _, _, _, _ => False
noncomputable def X8.an : Ann := (.seq .leaf (.seq .leaf (.seq (.seq .leaf (.cond (.seq .leaf .leaf) .leaf)) (.seq (.seq .leaf (.cond (.seq .leaf .leaf) .leaf)) (.join 7 (.seq (.seq .leaf (.cond (.seq .leaf .leaf) .leaf)) (.join 6 (.seq .leaf (.seq (.seq .leaf (.block (.loop 0 (.seq (.seq .leaf (.cond .leaf .leaf)) (.join 3 (.seq (.block (.seq .leaf (.seq (.seq .leaf (.cond .leaf .leaf)) (.join 2 (.seq .leaf (.seq (.seq .leaf (.block (.seq .leaf (.cond (.seq .leaf (.seq .leaf .leaf)) (.seq .leaf (.cond (.draw [0, 0, 2, 7, 0, 0, 32, 127, 255, 511] [[0, 1, 2, 3, 4, 5, 6, 7, 8, 9]]) (.seq .leaf (.cond (.seq .leaf (.seq .leaf .leaf)) (.seq .leaf (.cond (.seq .leaf (.seq .leaf .leaf)) (.seq .leaf (.cond (.seq .leaf (.seq .leaf .leaf)) (.draw [0, 0, 2, 0, 8, 31, 0, 0, 128, 0, 512, 2047, 4095, 8191] [[0, 1, 2, 3, 4, 5, 6, 7, 8, 9, 10, 11, 12, 13]]))))))))))))) (.seq (.draw [0, 1, 3, 7, 15, 7, 39, 103, 231, 487, 1023, 2047] [[0, 1, 2, 3, 4, 5, 6, 7, 8, 9, 10, 11]]) (.cond (.seq .leaf .leaf) .leaf)))))))) .leaf)))))) (.join 5 (.seq .leaf (.seq (.seq .leaf (.block (.loop 1 (.seq (.seq .leaf (.cond .leaf .leaf)) (.seq (.block (.seq (.seq (.draw [0, 0, 2, 6, 14, 30, 63, 127, 255, 255, 1023, 2047, 255, 4351, 12543, 28927, 255, 127231, 258303, 524287, 1048575] [[0, 1, 2, 3, 4, 5, 6, 7, 8, 9, 10, 11, 12, 13, 14, 15, 16, 17, 18, 19, 20]]) (.cond (.seq .leaf .leaf) .leaf)) (.join 4 (.seq .leaf (.seq (.seq .leaf (.cond (.seq .leaf .leaf) .leaf)) .leaf))))) .leaf))))) (.seq (.draw [0, 1, 0, 4, 12, 28, 60, 127, 255, 511, 1023, 2047, 511, 4607, 12799, 29183, 61951, 131071, 262143, 524287, 1048575, 2097151, 4194303, 8388607, 16777215, 33554431, 67108863, 134217727, 16777215, 285212671, 822083583, 1895825407, 4043309055, 8338276351, 17179869183, 34359738367, 68719476735, 137438953471] [[0, 1, 2, 3, 4, 5, 6, 7, 8, 9, 10, 11, 12, 13, 14, 15, 16, 17, 18, 19, 20, 21, 22, 23, 24, 25, 26, 27, 28, 29, 30, 31, 32, 33, 34, 35, 36, 37]]) .leaf)))))))))))))
noncomputable def X8.c : Code := Try.f8.body.getD .skip
theorem X8.v (Q : Value → World → Prop) : V Try.prog (X8.S Q) X8.an X8.c (retC Try.prog Try.f8 Q) := ⟨trivial, ⟨trivial, ⟨⟨trivial, ⟨⟨trivial, trivial⟩, trivial⟩⟩, ⟨⟨trivial, ⟨⟨trivial, trivial⟩, trivial⟩⟩, ⟨(by
    intro φ ρ w h
    simp only [X8.S] at h
    obtain ⟨t0, e0, h⟩ := qI_elim h
    obtain ⟨t1p, t1n, t1c, e1, h⟩ := qSl_elim h
    obtain ⟨t5, e5, h⟩ := qP_elim h
    obtain ⟨t6, e6, h⟩ := qI_elim h
    exact ⟨((((Env.nil.put (some 0) (.int .i64 t0)).put (some 1) (.slice t1p t1n t1c)).put (some 5) (.pointer t5)).put (some 6) (.int .i64 t6)), Env.le_put e6 (Env.le_put e5 (Env.le_put e1 (Env.le_put e0 (Env.le_nil _)))), Eq.mp (by kernel_rfl) h⟩), ⟨⟨trivial, ⟨⟨trivial, trivial⟩, trivial⟩⟩, ⟨(by
    intro φ ρ w h
    simp only [X8.S] at h
    obtain ⟨t0, e0, h⟩ := qI_elim h
    obtain ⟨t1p, t1n, t1c, e1, h⟩ := qSl_elim h
    obtain ⟨t5, e5, h⟩ := qP_elim h
    exact ⟨(((Env.nil.put (some 0) (.int .i64 t0)).put (some 1) (.slice t1p t1n t1c)).put (some 5) (.pointer t5)), Env.le_put e5 (Env.le_put e1 (Env.le_put e0 (Env.le_nil _))), Eq.mp (by kernel_rfl) h⟩), ⟨trivial, ⟨⟨trivial, ⟨(by
    intro φ ρ w h
    simp only [X8.S] at h
    obtain ⟨t1p, t1n, t1c, e1, h⟩ := qSl_elim h
    obtain ⟨t5, e5, h⟩ := qP_elim h
    obtain ⟨t7, e7, h⟩ := qA_elim h
    obtain ⟨t8, e8, h⟩ := qI_elim h
    cases hk : φ 0 with
    | zero => rw [hk] at h; exact h.elim
    | succ k => rw [hk] at h; exact ⟨k, Nat.lt_succ_self k, ((((Env.nil.put (some 1) (.slice t1p t1n t1c)).put (some 5) (.pointer t5)).put (some 7) (.pointer (some t7))).put (some 8) (.int .i64 t8)), Env.le_put e8 (Env.le_put e7 (Env.le_put e5 (Env.le_put e1 (Env.le_nil _)))), Eq.mp (by kernel_rfl) h⟩), ⟨⟨trivial, ⟨trivial, trivial⟩⟩, ⟨(by
    intro φ ρ w h
    simp only [X8.S] at h
    obtain ⟨t1p, t1n, t1c, e1, h⟩ := qSl_elim h
    obtain ⟨t5, e5, h⟩ := qP_elim h
    obtain ⟨t7, e7, h⟩ := qA_elim h
    obtain ⟨t8, e8, h⟩ := qI_elim h
    exact ⟨((((Env.nil.put (some 1) (.slice t1p t1n t1c)).put (some 5) (.pointer t5)).put (some 7) (.pointer (some t7))).put (some 8) (.int .i64 t8)), Env.le_put e8 (Env.le_put e7 (Env.le_put e5 (Env.le_put e1 (Env.le_nil _)))), Eq.mp (by kernel_rfl) h⟩), ⟨⟨trivial, ⟨⟨trivial, ⟨trivial, trivial⟩⟩, ⟨(by
    intro φ ρ w h
    simp only [X8.S] at h
    obtain ⟨t1p, t1n, t1c, e1, h⟩ := qSl_elim h
    obtain ⟨t5, e5, h⟩ := qP_elim h
    obtain ⟨t7, e7, h⟩ := qA_elim h
    obtain ⟨t8, e8, h⟩ := qI_elim h
    obtain ⟨t9, e9, h⟩ := qA_elim h
    exact ⟨(((((Env.nil.put (some 1) (.slice t1p t1n t1c)).put (some 5) (.pointer t5)).put (some 7) (.pointer (some t7))).put (some 8) (.int .i64 t8)).put (some 9) (.pointer (some t9))), Env.le_put e9 (Env.le_put e8 (Env.le_put e7 (Env.le_put e5 (Env.le_put e1 (Env.le_nil _))))), Eq.mp (by kernel_rfl) h⟩), ⟨trivial, ⟨⟨trivial, ⟨trivial, ⟨⟨trivial, ⟨trivial, trivial⟩⟩, ⟨trivial, ⟨trivial, ⟨trivial, ⟨⟨trivial, ⟨trivial, trivial⟩⟩, ⟨trivial, ⟨⟨trivial, ⟨trivial, trivial⟩⟩, ⟨trivial, ⟨⟨trivial, ⟨trivial, trivial⟩⟩, trivial⟩⟩⟩⟩⟩⟩⟩⟩⟩⟩⟩, ⟨trivial, ⟨⟨trivial, trivial⟩, trivial⟩⟩⟩⟩⟩⟩⟩, trivial⟩⟩⟩⟩⟩, ⟨(by
    intro φ ρ w h
    simp only [X8.S] at h
    obtain ⟨t5, e5, h⟩ := qP_elim h
    obtain ⟨t7, e7, h⟩ := qA_elim h
    exact ⟨((Env.nil.put (some 5) (.pointer t5)).put (some 7) (.pointer (some t7))), Env.le_put e7 (Env.le_put e5 (Env.le_nil _)), Eq.mp (by kernel_rfl) h⟩), ⟨trivial, ⟨⟨trivial, ⟨(by
    intro φ ρ w h
    simp only [X8.S] at h
    obtain ⟨t5, e5, h⟩ := qP_elim h
    obtain ⟨t7, e7, h⟩ := qA_elim h
    obtain ⟨t27p, t27n, t27c, e27, h⟩ := qSl_elim h
    obtain ⟨t28, e28, h⟩ := qI_elim h
    cases hk : φ 1 with
    | zero => rw [hk] at h; exact h.elim
    | succ k => rw [hk] at h; exact ⟨k, Nat.lt_succ_self k, ((((Env.nil.put (some 5) (.pointer t5)).put (some 7) (.pointer (some t7))).put (some 27) (.slice t27p t27n t27c)).put (some 28) (.int .i64 t28)), Env.le_put e28 (Env.le_put e27 (Env.le_put e7 (Env.le_put e5 (Env.le_nil _)))), Eq.mp (by kernel_rfl) h⟩), ⟨⟨trivial, ⟨trivial, trivial⟩⟩, ⟨⟨⟨trivial, ⟨⟨trivial, trivial⟩, trivial⟩⟩, ⟨(by
    intro φ ρ w h
    simp only [X8.S] at h
    obtain ⟨t5, e5, h⟩ := qP_elim h
    obtain ⟨t7, e7, h⟩ := qA_elim h
    obtain ⟨t27p, t27n, t27c, e27, h⟩ := qSl_elim h
    obtain ⟨t28, e28, h⟩ := qI_elim h
    exact ⟨((((Env.nil.put (some 5) (.pointer t5)).put (some 7) (.pointer (some t7))).put (some 27) (.slice t27p t27n t27c)).put (some 28) (.int .i64 t28)), Env.le_put e28 (Env.le_put e27 (Env.le_put e7 (Env.le_put e5 (Env.le_nil _)))), Eq.mp (by kernel_rfl) h⟩), ⟨trivial, ⟨⟨trivial, ⟨⟨trivial, trivial⟩, trivial⟩⟩, trivial⟩⟩⟩⟩, trivial⟩⟩⟩⟩, ⟨trivial, trivial⟩⟩⟩⟩⟩⟩⟩⟩⟩⟩⟩⟩⟩
theorem X8.sound (a0 : Int) (a1p : Option Addr) (a1n : Nat) (a1c : Nat) (w : World) (Q : Value → World → Prop) (h : X8.f a0 a1p a1n a1c w Q) : CallR Try.prog 8 #[.int .i64 a0, .slice a1p a1n a1c] w Q :=
  fn_sound noGr mixed Try.func8 (c := X8.c) (an := X8.an) (S := X8.S Q) (φ := fun _ => 0) (args := [.int .i64 a0, .slice a1p a1n a1c]) (by kernel_rfl) (by kernel_rfl) (by kernel_rfl) (X8.v Q) (Eq.mp (by kernel_rfl) h)
/-! ### mooring/table.New[string,int]: function 9 -/
def X9.f (a0 : Int) (w : World) (Q : Value → World → Prop) : Prop := bcase (decide (a0 < (1 : Int))) (Q (.tuple #[.pointer none, .int .i64 (1 : Int)]) w) (bcase (decide (a0 > (4096 : Int))) (Q (.tuple #[.pointer none, .int .i64 (1 : Int)]) w) (newK w #[.slice none 0 0, .slice none 0 0, .int .i64 a0] 66 fun g1 w2 => Q (.tuple #[.pointer (some g1), .int .i64 (0 : Int)]) w2))
def X9.S (Q : Value → World → Prop) : Segs
  | _, _, _, _ => False
noncomputable def X9.an : Ann := (.seq .leaf (.seq (.seq .leaf (.cond (.seq .leaf .leaf) .leaf)) (.seq .leaf .leaf)))
noncomputable def X9.c : Code := Try.f9.body.getD .skip
theorem X9.v (Q : Value → World → Prop) : V Try.prog (X9.S Q) X9.an X9.c (retC Try.prog Try.f9 Q) := ⟨trivial, ⟨⟨trivial, ⟨⟨trivial, trivial⟩, trivial⟩⟩, ⟨trivial, trivial⟩⟩⟩
theorem X9.sound (a0 : Int) (w : World) (Q : Value → World → Prop) (h : X9.f a0 w Q) : CallR Try.prog 9 #[.int .i64 a0] w Q :=
  fn_sound noGr mixed Try.func9 (c := X9.c) (an := X9.an) (S := X9.S Q) (φ := fun _ => 0) (args := [.int .i64 a0]) (by kernel_rfl) (by kernel_rfl) (by kernel_rfl) (X9.v Q) (Eq.mp (by kernel_rfl) h)
/-! ### mooring/mooringlaw6.known: function 10 -/
def X10.j0 (Q : Value → World → Prop) (t1 : Option Addr) (w : World) : Prop := CallR Try.prog 37 #[.pointer t1, .int .u64 (5 : Int), .string (⟨#[97]⟩ : ByteArray)] w fun v1 w2 => ∃ (y3 : Bool), v1 = .bool y3 ∧ CallR Try.prog 37 #[.pointer t1, .int .u64 (3 : Int), .string (⟨#[98]⟩ : ByteArray)] w2 fun v4 w5 => ∃ (y6 : Bool), v4 = .bool y6 ∧ CallR Try.prog 37 #[.pointer t1, .int .u64 (9 : Int), .string (⟨#[99]⟩ : ByteArray)] w5 fun v7 w8 => ∃ (y9 : Bool), v7 = .bool y9 ∧ CallR Try.prog 37 #[.pointer t1, .int .u64 (5 : Int), .string (⟨#[100]⟩ : ByteArray)] w8 fun v10 w11 => ∃ (y12 : Bool), v10 = .bool y12 ∧ CallR Try.prog 38 #[.pointer t1, .int .u64 (5 : Int)] w11 fun v13 w14 => ∃ (y15 : ByteArray) (y16 : Bool), v13 = .tuple #[.string y15, .bool y16] ∧ CallR Try.prog 39 #[.pointer t1, .int .u64 (3 : Int)] w14 fun v17 w18 => ∃ (y19 : Int) (y20 : Bool), v17 = .tuple #[.int .u64 y19, .bool y20] ∧ bcase y3 (bcase y6 (bcase (!y9) (bcase y12 (bcase (strEq y15 (⟨#[100]⟩ : ByteArray)) (bcase y16 (bcase (y19 == (5 : Int)) (Q (.bool y20) w18) (Q (.bool false) w18)) (Q (.bool false) w18)) (Q (.bool false) w18)) (Q (.bool false) w18)) (Q (.bool false) w18)) (Q (.bool false) w18)) (Q (.bool false) w18)
def X10.f (w : World) (Q : Value → World → Prop) : Prop := CallR Try.prog 36 #[.int .i64 (2 : Int)] w fun v1 w2 => ∃ (y3 : Option Addr) (y4 : Int), v1 = .tuple #[.pointer y3, .int .i64 y4] ∧ bcase (y4 != (0 : Int)) (Q (.bool false) w2) (bcase (Option.isNone y3) (Q (.bool false) w2) (X10.j0 Q y3 w2))
def X10.S (Q : Value → World → Prop) : Segs
  | 0, φ, ρ, w => qP (ρ 1) fun t1 => X10.j0 Q t1 w
  | _, _, _, _ => False
noncomputable def X10.an : Ann := (.seq .leaf (.seq .leaf (.seq (.seq .leaf (.cond (.seq .leaf .leaf) .leaf)) (.join 0 (.seq .leaf (.seq .leaf (.seq .leaf (.seq .leaf (.seq .leaf (.seq .leaf (.seq .leaf .leaf)))))))))))
noncomputable def X10.c : Code := Try.f10.body.getD .skip
theorem X10.v (Q : Value → World → Prop) : V Try.prog (X10.S Q) X10.an X10.c (retC Try.prog Try.f10 Q) := ⟨trivial, ⟨trivial, ⟨⟨trivial, ⟨⟨trivial, trivial⟩, trivial⟩⟩, ⟨(by
    intro φ ρ w h
    simp only [X10.S] at h
    obtain ⟨t1, e1, h⟩ := qP_elim h
    exact ⟨(Env.nil.put (some 1) (.pointer t1)), Env.le_put e1 (Env.le_nil _), Eq.mp (by kernel_rfl) h⟩), ⟨trivial, ⟨trivial, ⟨trivial, ⟨trivial, ⟨trivial, ⟨trivial, ⟨trivial, trivial⟩⟩⟩⟩⟩⟩⟩⟩⟩⟩⟩
theorem X10.sound (w : World) (Q : Value → World → Prop) (h : X10.f  w Q) : CallR Try.prog 10 #[] w Q :=
  fn_sound noGr mixed Try.func10 (c := X10.c) (an := X10.an) (S := X10.S Q) (φ := fun _ => 0) (args := []) (by kernel_rfl) (by kernel_rfl) (by kernel_rfl) (X10.v Q) (Eq.mp (by kernel_rfl) h)
/-! ### (*mooring/table.Table[string, int]).Put: function 11 -/
def X11.f (a0 : Option Addr) (a1 : ByteArray) (a2 : Int) (w : World) (Q : Value → World → Prop) : Prop := optP a0 fun p1 => ldSl w (p1.add 0) fun x2p x2n x2c => CallR Try.prog 40 #[.slice x2p x2n x2c, .string a1] w fun v3 w4 => ∃ (y5 : Int) (y6 : Bool), v3 = .tuple #[.int .i64 y5, .bool y6] ∧ bcase y6 (optP a0 fun p7 => ldSl w4 (p7.add 1) fun x8p x8n x8c => (0 ≤ y5 ∧ y5 < ((x8n : Nat) : Int)) ∧ optP x8p fun p9 => stK w4 (p9.add (Int.toNat y5 * 1)) (.int .i64 a2) fun w10 => Q (.bool true) w10) (drewK w4 fun w11 => optP a0 fun p12 => ldSl w11 (p12.add 0) fun x13p x13n x13c => optP a0 fun p14 => ldI .i64 w11 (p14.add 2) fun x15 => bcase (decide (((x13n : Nat) : Int) ≥ x15)) (Q (.bool false) w11) (optP a0 fun p16 => ldSl w11 (p16.add 0) fun x17p x17n x17c => newK w11 #[.string a1] 9 fun g18 w19 => CallR Try.prog 41 #[.slice x17p x17n x17c, .int .i64 y5, .slice (some g18) 1 1] w19 fun v20 w21 => ∃ (y22p : Option Addr) (y22n y22c : Nat), v20 = .slice y22p y22n y22c ∧ optP a0 fun p23 => stK w21 (p23.add 0) (.slice y22p y22n y22c) fun w24 => optP a0 fun p25 => ldSl w24 (p25.add 1) fun x26p x26n x26c => newK w24 #[.int .i64 a2] 3 fun g27 w28 => CallR Try.prog 42 #[.slice x26p x26n x26c, .int .i64 y5, .slice (some g27) 1 1] w28 fun v29 w30 => ∃ (y31p : Option Addr) (y31n y31c : Nat), v29 = .slice y31p y31n y31c ∧ optP a0 fun p32 => stK w30 (p32.add 1) (.slice y31p y31n y31c) fun w33 => Q (.bool true) w33))
def X11.S (Q : Value → World → Prop) : Segs
  | _, _, _, _ => False
noncomputable def X11.an : Ann := (.seq .leaf (.seq .leaf (.seq (.block (.seq .leaf (.cond .leaf (.seq (.draw [0, 1, 3, 7, 15, 0, 32, 96, 224, 511, 1023] [[0, 1, 2, 3, 4, 5, 6, 7, 8, 9, 10]]) (.cond (.seq .leaf .leaf) (.seq .leaf .leaf)))))) (.seq .leaf .leaf))))
noncomputable def X11.c : Code := Try.f11.body.getD .skip
theorem X11.v (Q : Value → World → Prop) : V Try.prog (X11.S Q) X11.an X11.c (retC Try.prog Try.f11 Q) := ⟨trivial, ⟨trivial, ⟨⟨trivial, ⟨trivial, ⟨trivial, ⟨⟨trivial, trivial⟩, ⟨trivial, trivial⟩⟩⟩⟩⟩, ⟨trivial, trivial⟩⟩⟩⟩
theorem X11.sound (a0 : Option Addr) (a1 : ByteArray) (a2 : Int) (w : World) (Q : Value → World → Prop) (h : X11.f a0 a1 a2 w Q) : CallR Try.prog 11 #[.pointer a0, .string a1, .int .i64 a2] w Q :=
  fn_sound noGr mixed Try.func11 (c := X11.c) (an := X11.an) (S := X11.S Q) (φ := fun _ => 0) (args := [.pointer a0, .string a1, .int .i64 a2]) (by kernel_rfl) (by kernel_rfl) (by kernel_rfl) (X11.v Q) (Eq.mp (by kernel_rfl) h)
/-! ### (*mooring/table.Table[string, int]).Get: function 12 -/
def X12.f (a0 : Option Addr) (a1 : ByteArray) (w : World) (Q : Value → World → Prop) : Prop := optP a0 fun p1 => ldSl w (p1.add 0) fun x2p x2n x2c => CallR Try.prog 40 #[.slice x2p x2n x2c, .string a1] w fun v3 w4 => ∃ (y5 : Int) (y6 : Bool), v3 = .tuple #[.int .i64 y5, .bool y6] ∧ bcase (!y6) (Q (.tuple #[.int .i64 (0 : Int), .bool false]) w4) (optP a0 fun p7 => ldSl w4 (p7.add 1) fun x8p x8n x8c => (0 ≤ y5 ∧ y5 < ((x8n : Nat) : Int)) ∧ optP x8p fun p9 => ldI .i64 w4 (p9.add (Int.toNat y5 * 1)) fun x10 => Q (.tuple #[.int .i64 x10, .bool true]) w4)
def X12.S (Q : Value → World → Prop) : Segs
  | _, _, _, _ => False
noncomputable def X12.an : Ann := (.seq .leaf (.seq .leaf (.seq (.seq .leaf (.cond (.seq .leaf (.seq .leaf .leaf)) .leaf)) (.seq .leaf .leaf))))
noncomputable def X12.c : Code := Try.f12.body.getD .skip
theorem X12.v (Q : Value → World → Prop) : V Try.prog (X12.S Q) X12.an X12.c (retC Try.prog Try.f12 Q) := ⟨trivial, ⟨trivial, ⟨⟨trivial, ⟨⟨trivial, ⟨trivial, trivial⟩⟩, trivial⟩⟩, ⟨trivial, trivial⟩⟩⟩⟩
theorem X12.sound (a0 : Option Addr) (a1 : ByteArray) (w : World) (Q : Value → World → Prop) (h : X12.f a0 a1 w Q) : CallR Try.prog 12 #[.pointer a0, .string a1] w Q :=
  fn_sound noGr mixed Try.func12 (c := X12.c) (an := X12.an) (S := X12.S Q) (φ := fun _ => 0) (args := [.pointer a0, .string a1]) (by kernel_rfl) (by kernel_rfl) (by kernel_rfl) (X12.v Q) (Eq.mp (by kernel_rfl) h)
/-! ### (*mooring/table.Table[string, int]).Keys: function 13 -/
def X13.f (a0 : Option Addr) (w : World) (Q : Value → World → Prop) : Prop := newK w #[] 9 fun g1 w2 => optP a0 fun p3 => ldSl w2 (p3.add 0) fun x4p x4n x4c => RunR Try.prog (Builtin.append_ #[22, 22] 22 #[.slice (some g1) 0 0, .slice x4p x4n x4c]) w2 fun v5 w6 => ∃ (s7p : Option Addr) (s7n s7c : Nat), v5 = .slice s7p s7n s7c ∧ Q (.slice s7p s7n s7c) w6
def X13.S (Q : Value → World → Prop) : Segs
  | _, _, _, _ => False
noncomputable def X13.an : Ann := (.seq .leaf (.seq .leaf .leaf))
noncomputable def X13.c : Code := Try.f13.body.getD .skip
theorem X13.v (Q : Value → World → Prop) : V Try.prog (X13.S Q) X13.an X13.c (retC Try.prog Try.f13 Q) := ⟨trivial, ⟨trivial, trivial⟩⟩
theorem X13.sound (a0 : Option Addr) (w : World) (Q : Value → World → Prop) (h : X13.f a0 w Q) : CallR Try.prog 13 #[.pointer a0] w Q :=
  fn_sound noGr mixed Try.func13 (c := X13.c) (an := X13.an) (S := X13.S Q) (φ := fun _ => 0) (args := [.pointer a0]) (by kernel_rfl) (by kernel_rfl) (by kernel_rfl) (X13.v Q) (Eq.mp (by kernel_rfl) h)
/-! ### (*mooring/table.Table[string, int]).Len: function 14 -/
def X14.f (a0 : Option Addr) (w : World) (Q : Value → World → Prop) : Prop := optP a0 fun p1 => ldSl w (p1.add 0) fun x2p x2n x2c => Q (.int .i64 ((x2n : Nat) : Int)) w
def X14.S (Q : Value → World → Prop) : Segs
  | _, _, _, _ => False
noncomputable def X14.an : Ann := (.seq .leaf (.seq .leaf .leaf))
noncomputable def X14.c : Code := Try.f14.body.getD .skip
theorem X14.v (Q : Value → World → Prop) : V Try.prog (X14.S Q) X14.an X14.c (retC Try.prog Try.f14 Q) := ⟨trivial, ⟨trivial, trivial⟩⟩
theorem X14.sound (a0 : Option Addr) (w : World) (Q : Value → World → Prop) (h : X14.f a0 w Q) : CallR Try.prog 14 #[.pointer a0] w Q :=
  fn_sound noGr mixed Try.func14 (c := X14.c) (an := X14.an) (S := X14.S Q) (φ := fun _ => 0) (args := [.pointer a0]) (by kernel_rfl) (by kernel_rfl) (by kernel_rfl) (X14.v Q) (Eq.mp (by kernel_rfl) h)
/-! ### mooring/table.New[uint64,int]: function 15 -/
def X15.f (a0 : Int) (w : World) (Q : Value → World → Prop) : Prop := bcase (decide (a0 < (1 : Int))) (Q (.tuple #[.pointer none, .int .i64 (1 : Int)]) w) (bcase (decide (a0 > (4096 : Int))) (Q (.tuple #[.pointer none, .int .i64 (1 : Int)]) w) (newK w #[.slice none 0 0, .slice none 0 0, .int .i64 a0] 76 fun g1 w2 => Q (.tuple #[.pointer (some g1), .int .i64 (0 : Int)]) w2))
def X15.S (Q : Value → World → Prop) : Segs
  | _, _, _, _ => False
noncomputable def X15.an : Ann := (.seq .leaf (.seq (.seq .leaf (.cond (.seq .leaf .leaf) .leaf)) (.seq .leaf .leaf)))
noncomputable def X15.c : Code := Try.f15.body.getD .skip
theorem X15.v (Q : Value → World → Prop) : V Try.prog (X15.S Q) X15.an X15.c (retC Try.prog Try.f15 Q) := ⟨trivial, ⟨⟨trivial, ⟨⟨trivial, trivial⟩, trivial⟩⟩, ⟨trivial, trivial⟩⟩⟩
theorem X15.sound (a0 : Int) (w : World) (Q : Value → World → Prop) (h : X15.f a0 w Q) : CallR Try.prog 15 #[.int .i64 a0] w Q :=
  fn_sound noGr mixed Try.func15 (c := X15.c) (an := X15.an) (S := X15.S Q) (φ := fun _ => 0) (args := [.int .i64 a0]) (by kernel_rfl) (by kernel_rfl) (by kernel_rfl) (X15.v Q) (Eq.mp (by kernel_rfl) h)
/-! ### (*mooring/table.Table[uint64, int]).Put: function 16 -/
def X16.f (a0 : Option Addr) (a1 : Int) (a2 : Int) (w : World) (Q : Value → World → Prop) : Prop := optP a0 fun p1 => ldSl w (p1.add 0) fun x2p x2n x2c => CallR Try.prog 43 #[.slice x2p x2n x2c, .int .u64 a1] w fun v3 w4 => ∃ (y5 : Int) (y6 : Bool), v3 = .tuple #[.int .i64 y5, .bool y6] ∧ bcase y6 (optP a0 fun p7 => ldSl w4 (p7.add 1) fun x8p x8n x8c => (0 ≤ y5 ∧ y5 < ((x8n : Nat) : Int)) ∧ optP x8p fun p9 => stK w4 (p9.add (Int.toNat y5 * 1)) (.int .i64 a2) fun w10 => Q (.bool true) w10) (drewK w4 fun w11 => optP a0 fun p12 => ldSl w11 (p12.add 0) fun x13p x13n x13c => optP a0 fun p14 => ldI .i64 w11 (p14.add 2) fun x15 => bcase (decide (((x13n : Nat) : Int) ≥ x15)) (Q (.bool false) w11) (optP a0 fun p16 => ldSl w11 (p16.add 0) fun x17p x17n x17c => newK w11 #[.int .u64 a1] 36 fun g18 w19 => CallR Try.prog 44 #[.slice x17p x17n x17c, .int .i64 y5, .slice (some g18) 1 1] w19 fun v20 w21 => ∃ (y22p : Option Addr) (y22n y22c : Nat), v20 = .slice y22p y22n y22c ∧ optP a0 fun p23 => stK w21 (p23.add 0) (.slice y22p y22n y22c) fun w24 => optP a0 fun p25 => ldSl w24 (p25.add 1) fun x26p x26n x26c => newK w24 #[.int .i64 a2] 3 fun g27 w28 => CallR Try.prog 42 #[.slice x26p x26n x26c, .int .i64 y5, .slice (some g27) 1 1] w28 fun v29 w30 => ∃ (y31p : Option Addr) (y31n y31c : Nat), v29 = .slice y31p y31n y31c ∧ optP a0 fun p32 => stK w30 (p32.add 1) (.slice y31p y31n y31c) fun w33 => Q (.bool true) w33))
def X16.S (Q : Value → World → Prop) : Segs
  | _, _, _, _ => False
noncomputable def X16.an : Ann := (.seq .leaf (.seq .leaf (.seq (.block (.seq .leaf (.cond .leaf (.seq (.draw [0, 1, 3, 7, 15, 0, 32, 96, 224, 511, 1023] [[0, 1, 2, 3, 4, 5, 6, 7, 8, 9, 10]]) (.cond (.seq .leaf .leaf) (.seq .leaf .leaf)))))) (.seq .leaf .leaf))))
noncomputable def X16.c : Code := Try.f16.body.getD .skip
theorem X16.v (Q : Value → World → Prop) : V Try.prog (X16.S Q) X16.an X16.c (retC Try.prog Try.f16 Q) := ⟨trivial, ⟨trivial, ⟨⟨trivial, ⟨trivial, ⟨trivial, ⟨⟨trivial, trivial⟩, ⟨trivial, trivial⟩⟩⟩⟩⟩, ⟨trivial, trivial⟩⟩⟩⟩
theorem X16.sound (a0 : Option Addr) (a1 : Int) (a2 : Int) (w : World) (Q : Value → World → Prop) (h : X16.f a0 a1 a2 w Q) : CallR Try.prog 16 #[.pointer a0, .int .u64 a1, .int .i64 a2] w Q :=
  fn_sound noGr mixed Try.func16 (c := X16.c) (an := X16.an) (S := X16.S Q) (φ := fun _ => 0) (args := [.pointer a0, .int .u64 a1, .int .i64 a2]) (by kernel_rfl) (by kernel_rfl) (by kernel_rfl) (X16.v Q) (Eq.mp (by kernel_rfl) h)
/-! ### (*mooring/table.Table[uint64, int]).After: function 17 -/
def X17.f (a0 : Option Addr) (a1 : Int) (w : World) (Q : Value → World → Prop) : Prop := CallR Try.prog 29 #[.pointer a0, .int .u64 a1] w fun v1 w2 => ∃ (y3 : Int) (y4 : Bool), v1 = .tuple #[.int .u64 y3, .bool y4] ∧ bcase (!y4) (CallR Try.prog 32 #[.pointer a0] w2 fun v5 w6 => ∃ (y7 : Int) (y8 : Bool), v5 = .tuple #[.int .u64 y7, .bool y8] ∧ Q (.tuple #[.int .u64 y7, .bool y8]) w6) (Q (.tuple #[.int .u64 y3, .bool true]) w2)
def X17.S (Q : Value → World → Prop) : Segs
  | _, _, _, _ => False
noncomputable def X17.an : Ann := (.seq .leaf (.seq .leaf (.seq (.seq .leaf (.cond (.seq .leaf .leaf) .leaf)) (.seq .leaf .leaf))))
noncomputable def X17.c : Code := Try.f17.body.getD .skip
theorem X17.v (Q : Value → World → Prop) : V Try.prog (X17.S Q) X17.an X17.c (retC Try.prog Try.f17 Q) := ⟨trivial, ⟨trivial, ⟨⟨trivial, ⟨⟨trivial, trivial⟩, trivial⟩⟩, ⟨trivial, trivial⟩⟩⟩⟩
theorem X17.sound (a0 : Option Addr) (a1 : Int) (w : World) (Q : Value → World → Prop) (h : X17.f a0 a1 w Q) : CallR Try.prog 17 #[.pointer a0, .int .u64 a1] w Q :=
  fn_sound noGr mixed Try.func17 (c := X17.c) (an := X17.an) (S := X17.S Q) (φ := fun _ => 0) (args := [.pointer a0, .int .u64 a1]) (by kernel_rfl) (by kernel_rfl) (by kernel_rfl) (X17.v Q) (Eq.mp (by kernel_rfl) h)
/-! ### (*mooring/table.Table[uint64, int]).Len: function 18 -/
def X18.f (a0 : Option Addr) (w : World) (Q : Value → World → Prop) : Prop := optP a0 fun p1 => ldSl w (p1.add 0) fun x2p x2n x2c => Q (.int .i64 ((x2n : Nat) : Int)) w
def X18.S (Q : Value → World → Prop) : Segs
  | _, _, _, _ => False
noncomputable def X18.an : Ann := (.seq .leaf (.seq .leaf .leaf))
noncomputable def X18.c : Code := Try.f18.body.getD .skip
theorem X18.v (Q : Value → World → Prop) : V Try.prog (X18.S Q) X18.an X18.c (retC Try.prog Try.f18 Q) := ⟨trivial, ⟨trivial, trivial⟩⟩
theorem X18.sound (a0 : Option Addr) (w : World) (Q : Value → World → Prop) (h : X18.f a0 w Q) : CallR Try.prog 18 #[.pointer a0] w Q :=
  fn_sound noGr mixed Try.func18 (c := X18.c) (an := X18.an) (S := X18.S Q) (φ := fun _ => 0) (args := [.pointer a0]) (by kernel_rfl) (by kernel_rfl) (by kernel_rfl) (X18.v Q) (Eq.mp (by kernel_rfl) h)
/-! ### mooring/mooringhand.Pick: function 19 -/
def X19.f (a0 : Int) (a1 : Int) (w : World) (Q : Value → World → Prop) : Prop := a1 ≠ 0 ∧ bcase (decide ((Int.tmod a0 a1) < (0 : Int))) (Q (.int .i64 (IntKind.wrap .i64 ((Int.tmod a0 a1) + a1))) w) (Q (.int .i64 (Int.tmod a0 a1)) w)
def X19.S (Q : Value → World → Prop) : Segs
  | _, _, _, _ => False
noncomputable def X19.an : Ann := (.seq .leaf (.seq .leaf (.seq (.seq .leaf (.cond .leaf .leaf)) (.seq .leaf .leaf))))
noncomputable def X19.c : Code := Try.f19.body.getD .skip
theorem X19.v (Q : Value → World → Prop) : V Try.prog (X19.S Q) X19.an X19.c (retC Try.prog Try.f19 Q) := ⟨trivial, ⟨trivial, ⟨⟨trivial, ⟨trivial, trivial⟩⟩, ⟨trivial, trivial⟩⟩⟩⟩
theorem X19.sound (a0 : Int) (a1 : Int) (w : World) (Q : Value → World → Prop) (h : X19.f a0 a1 w Q) : CallR Try.prog 19 #[.int .i64 a0, .int .i64 a1] w Q :=
  fn_sound noGr mixed Try.func19 (c := X19.c) (an := X19.an) (S := X19.S Q) (φ := fun _ => 0) (args := [.int .i64 a0, .int .i64 a1]) (by kernel_rfl) (by kernel_rfl) (by kernel_rfl) (X19.v Q) (Eq.mp (by kernel_rfl) h)
/-! ### (*mooring/table.Table[uint64, int]).Get: function 20 -/
def X20.f (a0 : Option Addr) (a1 : Int) (w : World) (Q : Value → World → Prop) : Prop := optP a0 fun p1 => ldSl w (p1.add 0) fun x2p x2n x2c => CallR Try.prog 43 #[.slice x2p x2n x2c, .int .u64 a1] w fun v3 w4 => ∃ (y5 : Int) (y6 : Bool), v3 = .tuple #[.int .i64 y5, .bool y6] ∧ bcase (!y6) (Q (.tuple #[.int .i64 (0 : Int), .bool false]) w4) (optP a0 fun p7 => ldSl w4 (p7.add 1) fun x8p x8n x8c => (0 ≤ y5 ∧ y5 < ((x8n : Nat) : Int)) ∧ optP x8p fun p9 => ldI .i64 w4 (p9.add (Int.toNat y5 * 1)) fun x10 => Q (.tuple #[.int .i64 x10, .bool true]) w4)
def X20.S (Q : Value → World → Prop) : Segs
  | _, _, _, _ => False
noncomputable def X20.an : Ann := (.seq .leaf (.seq .leaf (.seq (.seq .leaf (.cond (.seq .leaf (.seq .leaf .leaf)) .leaf)) (.seq .leaf .leaf))))
noncomputable def X20.c : Code := Try.f20.body.getD .skip
theorem X20.v (Q : Value → World → Prop) : V Try.prog (X20.S Q) X20.an X20.c (retC Try.prog Try.f20 Q) := ⟨trivial, ⟨trivial, ⟨⟨trivial, ⟨⟨trivial, ⟨trivial, trivial⟩⟩, trivial⟩⟩, ⟨trivial, trivial⟩⟩⟩⟩
theorem X20.sound (a0 : Option Addr) (a1 : Int) (w : World) (Q : Value → World → Prop) (h : X20.f a0 a1 w Q) : CallR Try.prog 20 #[.pointer a0, .int .u64 a1] w Q :=
  fn_sound noGr mixed Try.func20 (c := X20.c) (an := X20.an) (S := X20.S Q) (φ := fun _ => 0) (args := [.pointer a0, .int .u64 a1]) (by kernel_rfl) (by kernel_rfl) (by kernel_rfl) (X20.v Q) (Eq.mp (by kernel_rfl) h)
/-! ### (*mooring/table.Table[uint64, int]).Drop: function 21 -/
def X21.f (a0 : Option Addr) (a1 : Int) (w : World) (Q : Value → World → Prop) : Prop := optP a0 fun p1 => ldSl w (p1.add 0) fun x2p x2n x2c => CallR Try.prog 43 #[.slice x2p x2n x2c, .int .u64 a1] w fun v3 w4 => ∃ (y5 : Int) (y6 : Bool), v3 = .tuple #[.int .i64 y5, .bool y6] ∧ bcase y6 (optP a0 fun p7 => ldSl w4 (p7.add 0) fun x8p x8n x8c => CallR Try.prog 45 #[.slice x8p x8n x8c, .int .i64 y5, .int .i64 (IntKind.wrap .i64 (y5 + (1 : Int)))] w4 fun v9 w10 => ∃ (y11p : Option Addr) (y11n y11c : Nat), v9 = .slice y11p y11n y11c ∧ optP a0 fun p12 => stK w10 (p12.add 0) (.slice y11p y11n y11c) fun w13 => optP a0 fun p14 => ldSl w13 (p14.add 1) fun x15p x15n x15c => CallR Try.prog 46 #[.slice x15p x15n x15c, .int .i64 y5, .int .i64 (IntKind.wrap .i64 (y5 + (1 : Int)))] w13 fun v16 w17 => ∃ (y18p : Option Addr) (y18n y18c : Nat), v16 = .slice y18p y18n y18c ∧ optP a0 fun p19 => stK w17 (p19.add 1) (.slice y18p y18n y18c) fun w20 => Q (.bool y6) w20) (Q (.bool y6) w4)
def X21.S (Q : Value → World → Prop) : Segs
  | _, _, _, _ => False
noncomputable def X21.an : Ann := (.seq .leaf (.seq .leaf (.seq (.seq .leaf (.cond (.seq .leaf .leaf) .leaf)) (.seq .leaf .leaf))))
noncomputable def X21.c : Code := Try.f21.body.getD .skip
theorem X21.v (Q : Value → World → Prop) : V Try.prog (X21.S Q) X21.an X21.c (retC Try.prog Try.f21 Q) := ⟨trivial, ⟨trivial, ⟨⟨trivial, ⟨⟨trivial, trivial⟩, trivial⟩⟩, ⟨trivial, trivial⟩⟩⟩⟩
theorem X21.sound (a0 : Option Addr) (a1 : Int) (w : World) (Q : Value → World → Prop) (h : X21.f a0 a1 w Q) : CallR Try.prog 21 #[.pointer a0, .int .u64 a1] w Q :=
  fn_sound noGr mixed Try.func21 (c := X21.c) (an := X21.an) (S := X21.S Q) (φ := fun _ => 0) (args := [.pointer a0, .int .u64 a1]) (by kernel_rfl) (by kernel_rfl) (by kernel_rfl) (X21.v Q) (Eq.mp (by kernel_rfl) h)
/-! ### mooring/table.New[int,int]: function 22 -/
def X22.f (a0 : Int) (w : World) (Q : Value → World → Prop) : Prop := bcase (decide (a0 < (1 : Int))) (Q (.tuple #[.pointer none, .int .i64 (1 : Int)]) w) (bcase (decide (a0 > (4096 : Int))) (Q (.tuple #[.pointer none, .int .i64 (1 : Int)]) w) (newK w #[.slice none 0 0, .slice none 0 0, .int .i64 a0] 82 fun g1 w2 => Q (.tuple #[.pointer (some g1), .int .i64 (0 : Int)]) w2))
def X22.S (Q : Value → World → Prop) : Segs
  | _, _, _, _ => False
noncomputable def X22.an : Ann := (.seq .leaf (.seq (.seq .leaf (.cond (.seq .leaf .leaf) .leaf)) (.seq .leaf .leaf)))
noncomputable def X22.c : Code := Try.f22.body.getD .skip
theorem X22.v (Q : Value → World → Prop) : V Try.prog (X22.S Q) X22.an X22.c (retC Try.prog Try.f22 Q) := ⟨trivial, ⟨⟨trivial, ⟨⟨trivial, trivial⟩, trivial⟩⟩, ⟨trivial, trivial⟩⟩⟩
theorem X22.sound (a0 : Int) (w : World) (Q : Value → World → Prop) (h : X22.f a0 w Q) : CallR Try.prog 22 #[.int .i64 a0] w Q :=
  fn_sound noGr mixed Try.func22 (c := X22.c) (an := X22.an) (S := X22.S Q) (φ := fun _ => 0) (args := [.int .i64 a0]) (by kernel_rfl) (by kernel_rfl) (by kernel_rfl) (X22.v Q) (Eq.mp (by kernel_rfl) h)
/-! ### (*mooring/table.Table[string, int]).First: function 23 -/
def X23.f (a0 : Option Addr) (w : World) (Q : Value → World → Prop) : Prop := CallR Try.prog 47 #[.pointer a0, .int .i64 (0 : Int)] w fun v1 w2 => ∃ (y3 : ByteArray) (y4 : Bool), v1 = .tuple #[.string y3, .bool y4] ∧ Q (.tuple #[.string y3, .bool y4]) w2
def X23.S (Q : Value → World → Prop) : Segs
  | _, _, _, _ => False
noncomputable def X23.an : Ann := (.seq .leaf (.seq .leaf .leaf))
noncomputable def X23.c : Code := Try.f23.body.getD .skip
theorem X23.v (Q : Value → World → Prop) : V Try.prog (X23.S Q) X23.an X23.c (retC Try.prog Try.f23 Q) := ⟨trivial, ⟨trivial, trivial⟩⟩
theorem X23.sound (a0 : Option Addr) (w : World) (Q : Value → World → Prop) (h : X23.f a0 w Q) : CallR Try.prog 23 #[.pointer a0] w Q :=
  fn_sound noGr mixed Try.func23 (c := X23.c) (an := X23.an) (S := X23.S Q) (φ := fun _ => 0) (args := [.pointer a0]) (by kernel_rfl) (by kernel_rfl) (by kernel_rfl) (X23.v Q) (Eq.mp (by kernel_rfl) h)
/-! ### (*mooring/table.Table[string, int]).After: function 24 -/
def X24.f (a0 : Option Addr) (a1 : ByteArray) (w : World) (Q : Value → World → Prop) : Prop := CallR Try.prog 25 #[.pointer a0, .string a1] w fun v1 w2 => ∃ (y3 : ByteArray) (y4 : Bool), v1 = .tuple #[.string y3, .bool y4] ∧ bcase (!y4) (CallR Try.prog 23 #[.pointer a0] w2 fun v5 w6 => ∃ (y7 : ByteArray) (y8 : Bool), v5 = .tuple #[.string y7, .bool y8] ∧ Q (.tuple #[.string y7, .bool y8]) w6) (Q (.tuple #[.string y3, .bool true]) w2)
def X24.S (Q : Value → World → Prop) : Segs
  | _, _, _, _ => False
noncomputable def X24.an : Ann := (.seq .leaf (.seq .leaf (.seq (.seq .leaf (.cond (.seq .leaf .leaf) .leaf)) (.seq .leaf .leaf))))
noncomputable def X24.c : Code := Try.f24.body.getD .skip
theorem X24.v (Q : Value → World → Prop) : V Try.prog (X24.S Q) X24.an X24.c (retC Try.prog Try.f24 Q) := ⟨trivial, ⟨trivial, ⟨⟨trivial, ⟨⟨trivial, trivial⟩, trivial⟩⟩, ⟨trivial, trivial⟩⟩⟩⟩
theorem X24.sound (a0 : Option Addr) (a1 : ByteArray) (w : World) (Q : Value → World → Prop) (h : X24.f a0 a1 w Q) : CallR Try.prog 24 #[.pointer a0, .string a1] w Q :=
  fn_sound noGr mixed Try.func24 (c := X24.c) (an := X24.an) (S := X24.S Q) (φ := fun _ => 0) (args := [.pointer a0, .string a1]) (by kernel_rfl) (by kernel_rfl) (by kernel_rfl) (X24.v Q) (Eq.mp (by kernel_rfl) h)
/-! ### (*mooring/table.Table[string, int]).Next: function 25 -/
def X25.f (a0 : Option Addr) (a1 : ByteArray) (w : World) (Q : Value → World → Prop) : Prop := optP a0 fun p1 => ldSl w (p1.add 0) fun x2p x2n x2c => CallR Try.prog 40 #[.slice x2p x2n x2c, .string a1] w fun v3 w4 => ∃ (y5 : Int) (y6 : Bool), v3 = .tuple #[.int .i64 y5, .bool y6] ∧ bcase y6 (CallR Try.prog 47 #[.pointer a0, .int .i64 (IntKind.wrap .i64 (y5 + (1 : Int)))] w4 fun v7 w8 => ∃ (y9 : ByteArray) (y10 : Bool), v7 = .tuple #[.string y9, .bool y10] ∧ Q (.tuple #[.string y9, .bool y10]) w8) (CallR Try.prog 47 #[.pointer a0, .int .i64 y5] w4 fun v11 w12 => ∃ (y13 : ByteArray) (y14 : Bool), v11 = .tuple #[.string y13, .bool y14] ∧ Q (.tuple #[.string y13, .bool y14]) w12)
def X25.S (Q : Value → World → Prop) : Segs
  | _, _, _, _ => False
noncomputable def X25.an : Ann := (.seq .leaf (.seq .leaf (.seq (.seq .leaf (.cond .leaf .leaf)) (.seq .leaf .leaf))))
noncomputable def X25.c : Code := Try.f25.body.getD .skip
theorem X25.v (Q : Value → World → Prop) : V Try.prog (X25.S Q) X25.an X25.c (retC Try.prog Try.f25 Q) := ⟨trivial, ⟨trivial, ⟨⟨trivial, ⟨trivial, trivial⟩⟩, ⟨trivial, trivial⟩⟩⟩⟩
theorem X25.sound (a0 : Option Addr) (a1 : ByteArray) (w : World) (Q : Value → World → Prop) (h : X25.f a0 a1 w Q) : CallR Try.prog 25 #[.pointer a0, .string a1] w Q :=
  fn_sound noGr mixed Try.func25 (c := X25.c) (an := X25.an) (S := X25.S Q) (φ := fun _ => 0) (args := [.pointer a0, .string a1]) (by kernel_rfl) (by kernel_rfl) (by kernel_rfl) (X25.v Q) (Eq.mp (by kernel_rfl) h)
/-! ### (*mooring/table.Table[string, int]).Drop: function 26 -/
def X26.f (a0 : Option Addr) (a1 : ByteArray) (w : World) (Q : Value → World → Prop) : Prop := optP a0 fun p1 => ldSl w (p1.add 0) fun x2p x2n x2c => CallR Try.prog 40 #[.slice x2p x2n x2c, .string a1] w fun v3 w4 => ∃ (y5 : Int) (y6 : Bool), v3 = .tuple #[.int .i64 y5, .bool y6] ∧ bcase y6 (optP a0 fun p7 => ldSl w4 (p7.add 0) fun x8p x8n x8c => CallR Try.prog 48 #[.slice x8p x8n x8c, .int .i64 y5, .int .i64 (IntKind.wrap .i64 (y5 + (1 : Int)))] w4 fun v9 w10 => ∃ (y11p : Option Addr) (y11n y11c : Nat), v9 = .slice y11p y11n y11c ∧ optP a0 fun p12 => stK w10 (p12.add 0) (.slice y11p y11n y11c) fun w13 => optP a0 fun p14 => ldSl w13 (p14.add 1) fun x15p x15n x15c => CallR Try.prog 46 #[.slice x15p x15n x15c, .int .i64 y5, .int .i64 (IntKind.wrap .i64 (y5 + (1 : Int)))] w13 fun v16 w17 => ∃ (y18p : Option Addr) (y18n y18c : Nat), v16 = .slice y18p y18n y18c ∧ optP a0 fun p19 => stK w17 (p19.add 1) (.slice y18p y18n y18c) fun w20 => Q (.bool y6) w20) (Q (.bool y6) w4)
def X26.S (Q : Value → World → Prop) : Segs
  | _, _, _, _ => False
noncomputable def X26.an : Ann := (.seq .leaf (.seq .leaf (.seq (.seq .leaf (.cond (.seq .leaf .leaf) .leaf)) (.seq .leaf .leaf))))
noncomputable def X26.c : Code := Try.f26.body.getD .skip
theorem X26.v (Q : Value → World → Prop) : V Try.prog (X26.S Q) X26.an X26.c (retC Try.prog Try.f26 Q) := ⟨trivial, ⟨trivial, ⟨⟨trivial, ⟨⟨trivial, trivial⟩, trivial⟩⟩, ⟨trivial, trivial⟩⟩⟩⟩
theorem X26.sound (a0 : Option Addr) (a1 : ByteArray) (w : World) (Q : Value → World → Prop) (h : X26.f a0 a1 w Q) : CallR Try.prog 26 #[.pointer a0, .string a1] w Q :=
  fn_sound noGr mixed Try.func26 (c := X26.c) (an := X26.an) (S := X26.S Q) (φ := fun _ => 0) (args := [.pointer a0, .string a1]) (by kernel_rfl) (by kernel_rfl) (by kernel_rfl) (X26.v Q) (Eq.mp (by kernel_rfl) h)
/-! ### (*mooring/mooringref4.IntTable).Get: function 27 -/
def X27.f (a0 : Option Addr) (a1 : Int) (w : World) (Q : Value → World → Prop) : Prop := CallR Try.prog 49 #[.pointer a0, .int .u64 a1] w fun v1 w2 => ∃ (y3 : Int) (y4 : Bool), v1 = .tuple #[.int .i64 y3, .bool y4] ∧ bcase y4 (optP a0 fun p5 => ldSl w2 (p5.add 2) fun x6p x6n x6c => (0 ≤ y3 ∧ y3 < ((x6n : Nat) : Int)) ∧ optP x6p fun p7 => ldI .i64 w2 (p7.add (Int.toNat y3 * 1)) fun x8 => Q (.tuple #[.int .i64 x8, .bool y4]) w2) (Q (.tuple #[.int .i64 (0 : Int), .bool y4]) w2)
def X27.S (Q : Value → World → Prop) : Segs
  | _, _, _, _ => False
noncomputable def X27.an : Ann := (.seq .leaf (.seq .leaf (.seq (.seq .leaf (.cond .leaf .leaf)) (.seq .leaf .leaf))))
noncomputable def X27.c : Code := Try.f27.body.getD .skip
theorem X27.v (Q : Value → World → Prop) : V Try.prog (X27.S Q) X27.an X27.c (retC Try.prog Try.f27 Q) := ⟨trivial, ⟨trivial, ⟨⟨trivial, ⟨trivial, trivial⟩⟩, ⟨trivial, trivial⟩⟩⟩⟩
theorem X27.sound (a0 : Option Addr) (a1 : Int) (w : World) (Q : Value → World → Prop) (h : X27.f a0 a1 w Q) : CallR Try.prog 27 #[.pointer a0, .int .u64 a1] w Q :=
  fn_sound noGr mixed Try.func27 (c := X27.c) (an := X27.an) (S := X27.S Q) (φ := fun _ => 0) (args := [.pointer a0, .int .u64 a1]) (by kernel_rfl) (by kernel_rfl) (by kernel_rfl) (X27.v Q) (Eq.mp (by kernel_rfl) h)
/-! ### (*mooring/mooringref4.IntTable).Drop: function 28 -/
def X28.f (a0 : Option Addr) (a1 : Int) (w : World) (Q : Value → World → Prop) : Prop := CallR Try.prog 49 #[.pointer a0, .int .u64 a1] w fun v1 w2 => ∃ (y3 : Int) (y4 : Bool), v1 = .tuple #[.int .i64 y3, .bool y4] ∧ bcase y4 (drewK w2 fun w5 => newK w5 #[] 36 fun g6 w7 => optP a0 fun p8 => ldSl w7 (p8.add 1) fun x9p x9n x9c => (World.cell? w5 (p8.add 1) = some (.slice x9p x9n x9c) ∧ World.cell? w7 (p8.add 1) = some (.slice x9p x9n x9c)) ∧ (0 ≤ ((0 : Nat) : Int) ∧ ((0 : Nat) : Int) ≤ y3 ∧ y3 ≤ ((x9c : Nat) : Int)) ∧ RunR Try.prog (Builtin.append_ #[35, 35] 35 #[.slice (some g6) 0 0, .slice (cutAt 1 x9c (Int.toNat ((0 : Nat) : Int)) x9p) (Int.toNat y3 - Int.toNat ((0 : Nat) : Int)) (x9c - Int.toNat ((0 : Nat) : Int))]) w7 fun v10 w11 => ∃ (s12p : Option Addr) (s12n s12c : Nat), v10 = .slice s12p s12n s12c ∧ optP a0 fun p13 => ldSl w11 (p13.add 1) fun x14p x14n x14c => (World.cell? w7 (p13.add 1) = some (.slice x14p x14n x14c) ∧ World.cell? w11 (p13.add 1) = some (.slice x14p x14n x14c)) ∧ (World.cell? w5 (p13.add 1) = some (.slice x14p x14n x14c) ∧ World.cell? w7 (p13.add 1) = some (.slice x14p x14n x14c)) ∧ (0 ≤ (IntKind.wrap .i64 (y3 + (1 : Int))) ∧ (IntKind.wrap .i64 (y3 + (1 : Int))) ≤ ((x14n : Nat) : Int) ∧ ((x14n : Nat) : Int) ≤ ((x14c : Nat) : Int)) ∧ RunR Try.prog (Builtin.append_ #[35, 35] 35 #[.slice s12p s12n s12c, .slice (cutAt 1 x14c (Int.toNat (IntKind.wrap .i64 (y3 + (1 : Int)))) x14p) (Int.toNat ((x14n : Nat) : Int) - Int.toNat (IntKind.wrap .i64 (y3 + (1 : Int)))) (x14c - Int.toNat (IntKind.wrap .i64 (y3 + (1 : Int))))]) w11 fun v15 w16 => ∃ (s17p : Option Addr) (s17n s17c : Nat), v15 = .slice s17p s17n s17c ∧ optP a0 fun p18 => stK w16 (p18.add 1) (.slice s17p s17n s17c) fun w19 => drewK w19 fun w20 => newK w20 #[] 3 fun g21 w22 => optP a0 fun p23 => ldSl w22 (p23.add 2) fun x24p x24n x24c => (World.cell? w20 (p23.add 2) = some (.slice x24p x24n x24c) ∧ World.cell? w22 (p23.add 2) = some (.slice x24p x24n x24c)) ∧ (0 ≤ ((0 : Nat) : Int) ∧ ((0 : Nat) : Int) ≤ y3 ∧ y3 ≤ ((x24c : Nat) : Int)) ∧ RunR Try.prog (Builtin.append_ #[23, 23] 23 #[.slice (some g21) 0 0, .slice (cutAt 1 x24c (Int.toNat ((0 : Nat) : Int)) x24p) (Int.toNat y3 - Int.toNat ((0 : Nat) : Int)) (x24c - Int.toNat ((0 : Nat) : Int))]) w22 fun v25 w26 => ∃ (s27p : Option Addr) (s27n s27c : Nat), v25 = .slice s27p s27n s27c ∧ optP a0 fun p28 => ldSl w26 (p28.add 2) fun x29p x29n x29c => (World.cell? w22 (p28.add 2) = some (.slice x29p x29n x29c) ∧ World.cell? w26 (p28.add 2) = some (.slice x29p x29n x29c)) ∧ (World.cell? w20 (p28.add 2) = some (.slice x29p x29n x29c) ∧ World.cell? w22 (p28.add 2) = some (.slice x29p x29n x29c)) ∧ (0 ≤ (IntKind.wrap .i64 (y3 + (1 : Int))) ∧ (IntKind.wrap .i64 (y3 + (1 : Int))) ≤ ((x29n : Nat) : Int) ∧ ((x29n : Nat) : Int) ≤ ((x29c : Nat) : Int)) ∧ RunR Try.prog (Builtin.append_ #[23, 23] 23 #[.slice s27p s27n s27c, .slice (cutAt 1 x29c (Int.toNat (IntKind.wrap .i64 (y3 + (1 : Int)))) x29p) (Int.toNat ((x29n : Nat) : Int) - Int.toNat (IntKind.wrap .i64 (y3 + (1 : Int)))) (x29c - Int.toNat (IntKind.wrap .i64 (y3 + (1 : Int))))]) w26 fun v30 w31 => ∃ (s32p : Option Addr) (s32n s32c : Nat), v30 = .slice s32p s32n s32c ∧ optP a0 fun p33 => stK w31 (p33.add 2) (.slice s32p s32n s32c) fun w34 => Q (.bool y4) w34) (Q (.bool y4) w2)
def X28.S (Q : Value → World → Prop) : Segs
  | _, _, _, _ => False
noncomputable def X28.an : Ann := (.seq .leaf (.seq .leaf (.seq (.seq .leaf (.cond (.seq (.draw [0, 0, 0, 4, 12, 28, 0, 124, 254, 0, 512, 1536, 3584, 0, 8192, 32256, 65534, 131071, 262143, 524287] [[0, 1, 2, 3, 4, 5, 6, 7, 8, 9, 10, 11, 12, 13, 14, 15, 16, 17, 18, 19]]) (.draw [0, 0, 0, 4, 12, 28, 0, 124, 254, 0, 512, 1536, 3584, 0, 8192, 32256, 65534, 131071, 262143, 524287] [[0, 1, 2, 3, 4, 5, 6, 7, 8, 9, 10, 11, 12, 13, 14, 15, 16, 17, 18, 19]])) .leaf)) (.seq .leaf .leaf))))
noncomputable def X28.c : Code := Try.f28.body.getD .skip
theorem X28.v (Q : Value → World → Prop) : V Try.prog (X28.S Q) X28.an X28.c (retC Try.prog Try.f28 Q) := ⟨trivial, ⟨trivial, ⟨⟨trivial, ⟨⟨trivial, trivial⟩, trivial⟩⟩, ⟨trivial, trivial⟩⟩⟩⟩
theorem X28.sound (a0 : Option Addr) (a1 : Int) (w : World) (Q : Value → World → Prop) (h : X28.f a0 a1 w Q) : CallR Try.prog 28 #[.pointer a0, .int .u64 a1] w Q :=
  fn_sound noGr mixed Try.func28 (c := X28.c) (an := X28.an) (S := X28.S Q) (φ := fun _ => 0) (args := [.pointer a0, .int .u64 a1]) (by kernel_rfl) (by kernel_rfl) (by kernel_rfl) (X28.v Q) (Eq.mp (by kernel_rfl) h)
/-! ### (*mooring/table.Table[uint64, int]).Next: function 29 -/
def X29.f (a0 : Option Addr) (a1 : Int) (w : World) (Q : Value → World → Prop) : Prop := optP a0 fun p1 => ldSl w (p1.add 0) fun x2p x2n x2c => CallR Try.prog 43 #[.slice x2p x2n x2c, .int .u64 a1] w fun v3 w4 => ∃ (y5 : Int) (y6 : Bool), v3 = .tuple #[.int .i64 y5, .bool y6] ∧ bcase y6 (CallR Try.prog 50 #[.pointer a0, .int .i64 (IntKind.wrap .i64 (y5 + (1 : Int)))] w4 fun v7 w8 => ∃ (y9 : Int) (y10 : Bool), v7 = .tuple #[.int .u64 y9, .bool y10] ∧ Q (.tuple #[.int .u64 y9, .bool y10]) w8) (CallR Try.prog 50 #[.pointer a0, .int .i64 y5] w4 fun v11 w12 => ∃ (y13 : Int) (y14 : Bool), v11 = .tuple #[.int .u64 y13, .bool y14] ∧ Q (.tuple #[.int .u64 y13, .bool y14]) w12)
def X29.S (Q : Value → World → Prop) : Segs
  | _, _, _, _ => False
noncomputable def X29.an : Ann := (.seq .leaf (.seq .leaf (.seq (.seq .leaf (.cond .leaf .leaf)) (.seq .leaf .leaf))))
noncomputable def X29.c : Code := Try.f29.body.getD .skip
theorem X29.v (Q : Value → World → Prop) : V Try.prog (X29.S Q) X29.an X29.c (retC Try.prog Try.f29 Q) := ⟨trivial, ⟨trivial, ⟨⟨trivial, ⟨trivial, trivial⟩⟩, ⟨trivial, trivial⟩⟩⟩⟩
theorem X29.sound (a0 : Option Addr) (a1 : Int) (w : World) (Q : Value → World → Prop) (h : X29.f a0 a1 w Q) : CallR Try.prog 29 #[.pointer a0, .int .u64 a1] w Q :=
  fn_sound noGr mixed Try.func29 (c := X29.c) (an := X29.an) (S := X29.S Q) (φ := fun _ => 0) (args := [.pointer a0, .int .u64 a1]) (by kernel_rfl) (by kernel_rfl) (by kernel_rfl) (X29.v Q) (Eq.mp (by kernel_rfl) h)
/-! ### (*mooring/mooringref4.IntTable).Next: function 30 -/
def X30.l0 (Q : Value → World → Prop) : Nat → (Option Addr) → Int → Int → Int → World → Prop
  | 0, _, _, _, _, _ => False
  | k + 1, t0, t1, t4, t6, w => optP t0 fun p1 => ldSl w (p1.add 1) fun x2p x2n x2c => bcase (decide (t6 < ((x2n : Nat) : Int))) (optP t0 fun p3 => ldSl w (p3.add 1) fun x4p x4n x4c => (0 ≤ t6 ∧ t6 < ((x4n : Nat) : Int)) ∧ optP x4p fun p5 => ldI .u64 w (p5.add (Int.toNat t6 * 1)) fun x6 => bcase (decide (x6 > t1)) (optP t0 fun p7 => ldSl w (p7.add 1) fun x8p x8n x8c => (0 ≤ t6 ∧ t6 < ((x8n : Nat) : Int)) ∧ optP x8p fun p9 => ldI .u64 w (p9.add (Int.toNat t6 * 1)) fun x10 => Q (.tuple #[.int .u64 x10, .bool true]) w) (X30.l0 Q k t0 t1 t4 (IntKind.wrap .i64 (t6 + (1 : Int))) w)) (Q (.tuple #[.int .u64 t4, .bool false]) w)
def X30.f (a0 : Option Addr) (a1 : Int) (w : World) (Q : Value → World → Prop) : Prop := ∃ m1, X30.l0 Q m1 a0 a1 (0 : Int) (0 : Int) w
def X30.S (Q : Value → World → Prop) : Segs
  | 0, φ, ρ, w => qP (ρ 0) fun t0 => qI .u64 (ρ 1) fun t1 => qI .u64 (ρ 4) fun t4 => qI .i64 (ρ 6) fun t6 => X30.l0 Q (φ 0) t0 t1 t4 t6 w
  | _, _, _, _ => False
noncomputable def X30.an : Ann := (.seq .leaf (.seq (.seq .leaf (.block (.loop 0 (.seq (.seq .leaf (.cond .leaf .leaf)) (.seq (.block (.seq .leaf (.cond (.seq .leaf .leaf) .leaf))) .leaf))))) (.seq .leaf .leaf)))
noncomputable def X30.c : Code := Try.f30.body.getD .skip
theorem X30.v (Q : Value → World → Prop) : V Try.prog (X30.S Q) X30.an X30.c (retC Try.prog Try.f30 Q) := ⟨trivial, ⟨⟨trivial, ⟨(by
    intro φ ρ w h
    simp only [X30.S] at h
    obtain ⟨t0, e0, h⟩ := qP_elim h
    obtain ⟨t1, e1, h⟩ := qI_elim h
    obtain ⟨t4, e4, h⟩ := qI_elim h
    obtain ⟨t6, e6, h⟩ := qI_elim h
    cases hk : φ 0 with
    | zero => rw [hk] at h; exact h.elim
    | succ k => rw [hk] at h; exact ⟨k, Nat.lt_succ_self k, ((((Env.nil.put (some 0) (.pointer t0)).put (some 1) (.int .u64 t1)).put (some 4) (.int .u64 t4)).put (some 6) (.int .i64 t6)), Env.le_put e6 (Env.le_put e4 (Env.le_put e1 (Env.le_put e0 (Env.le_nil _)))), Eq.mp (by kernel_rfl) h⟩), ⟨⟨trivial, ⟨trivial, trivial⟩⟩, ⟨⟨trivial, ⟨⟨trivial, trivial⟩, trivial⟩⟩, trivial⟩⟩⟩⟩, ⟨trivial, trivial⟩⟩⟩
theorem X30.sound (a0 : Option Addr) (a1 : Int) (w : World) (Q : Value → World → Prop) (h : X30.f a0 a1 w Q) : CallR Try.prog 30 #[.pointer a0, .int .u64 a1] w Q :=
  fn_sound noGr mixed Try.func30 (c := X30.c) (an := X30.an) (S := X30.S Q) (φ := fun _ => 0) (args := [.pointer a0, .int .u64 a1]) (by kernel_rfl) (by kernel_rfl) (by kernel_rfl) (X30.v Q) (Eq.mp (by kernel_rfl) h)
/-! ### (*mooring/mooringref4.IntTable).After: function 31 -/
def X31.f (a0 : Option Addr) (a1 : Int) (w : World) (Q : Value → World → Prop) : Prop := CallR Try.prog 30 #[.pointer a0, .int .u64 a1] w fun v1 w2 => ∃ (y3 : Int) (y4 : Bool), v1 = .tuple #[.int .u64 y3, .bool y4] ∧ bcase y4 (Q (.tuple #[.int .u64 y3, .bool true]) w2) (CallR Try.prog 33 #[.pointer a0] w2 fun v5 w6 => ∃ (y7 : Int) (y8 : Bool), v5 = .tuple #[.int .u64 y7, .bool y8] ∧ Q (.tuple #[.int .u64 y7, .bool y8]) w6)
def X31.S (Q : Value → World → Prop) : Segs
  | _, _, _, _ => False
noncomputable def X31.an : Ann := (.seq .leaf (.seq .leaf (.seq (.seq .leaf (.cond (.seq .leaf .leaf) .leaf)) (.seq .leaf .leaf))))
noncomputable def X31.c : Code := Try.f31.body.getD .skip
theorem X31.v (Q : Value → World → Prop) : V Try.prog (X31.S Q) X31.an X31.c (retC Try.prog Try.f31 Q) := ⟨trivial, ⟨trivial, ⟨⟨trivial, ⟨⟨trivial, trivial⟩, trivial⟩⟩, ⟨trivial, trivial⟩⟩⟩⟩
theorem X31.sound (a0 : Option Addr) (a1 : Int) (w : World) (Q : Value → World → Prop) (h : X31.f a0 a1 w Q) : CallR Try.prog 31 #[.pointer a0, .int .u64 a1] w Q :=
  fn_sound noGr mixed Try.func31 (c := X31.c) (an := X31.an) (S := X31.S Q) (φ := fun _ => 0) (args := [.pointer a0, .int .u64 a1]) (by kernel_rfl) (by kernel_rfl) (by kernel_rfl) (X31.v Q) (Eq.mp (by kernel_rfl) h)
/-! ### (*mooring/table.Table[uint64, int]).First: function 32 -/
def X32.f (a0 : Option Addr) (w : World) (Q : Value → World → Prop) : Prop := CallR Try.prog 50 #[.pointer a0, .int .i64 (0 : Int)] w fun v1 w2 => ∃ (y3 : Int) (y4 : Bool), v1 = .tuple #[.int .u64 y3, .bool y4] ∧ Q (.tuple #[.int .u64 y3, .bool y4]) w2
def X32.S (Q : Value → World → Prop) : Segs
  | _, _, _, _ => False
noncomputable def X32.an : Ann := (.seq .leaf (.seq .leaf .leaf))
noncomputable def X32.c : Code := Try.f32.body.getD .skip
theorem X32.v (Q : Value → World → Prop) : V Try.prog (X32.S Q) X32.an X32.c (retC Try.prog Try.f32 Q) := ⟨trivial, ⟨trivial, trivial⟩⟩
theorem X32.sound (a0 : Option Addr) (w : World) (Q : Value → World → Prop) (h : X32.f a0 w Q) : CallR Try.prog 32 #[.pointer a0] w Q :=
  fn_sound noGr mixed Try.func32 (c := X32.c) (an := X32.an) (S := X32.S Q) (φ := fun _ => 0) (args := [.pointer a0]) (by kernel_rfl) (by kernel_rfl) (by kernel_rfl) (X32.v Q) (Eq.mp (by kernel_rfl) h)
/-! ### (*mooring/mooringref4.IntTable).First: function 33 -/
def X33.f (a0 : Option Addr) (w : World) (Q : Value → World → Prop) : Prop := optP a0 fun p1 => ldSl w (p1.add 1) fun x2p x2n x2c => bcase (((x2n : Nat) : Int) == (0 : Int)) (Q (.tuple #[.int .u64 (0 : Int), .bool false]) w) (optP a0 fun p3 => ldSl w (p3.add 1) fun x4p x4n x4c => (0 ≤ (0 : Int) ∧ (0 : Int) < ((x4n : Nat) : Int)) ∧ optP x4p fun p5 => ldI .u64 w (p5.add (Int.toNat (0 : Int) * 1)) fun x6 => Q (.tuple #[.int .u64 x6, .bool true]) w)
def X33.S (Q : Value → World → Prop) : Segs
  | _, _, _, _ => False
noncomputable def X33.an : Ann := (.seq .leaf (.seq (.seq .leaf (.cond (.seq .leaf .leaf) .leaf)) (.seq .leaf .leaf)))
noncomputable def X33.c : Code := Try.f33.body.getD .skip
theorem X33.v (Q : Value → World → Prop) : V Try.prog (X33.S Q) X33.an X33.c (retC Try.prog Try.f33 Q) := ⟨trivial, ⟨⟨trivial, ⟨⟨trivial, trivial⟩, trivial⟩⟩, ⟨trivial, trivial⟩⟩⟩
theorem X33.sound (a0 : Option Addr) (w : World) (Q : Value → World → Prop) (h : X33.f a0 w Q) : CallR Try.prog 33 #[.pointer a0] w Q :=
  fn_sound noGr mixed Try.func33 (c := X33.c) (an := X33.an) (S := X33.S Q) (φ := fun _ => 0) (args := [.pointer a0]) (by kernel_rfl) (by kernel_rfl) (by kernel_rfl) (X33.v Q) (Eq.mp (by kernel_rfl) h)
/-! ### (*mooring/mooringref4.IntTable).Put: function 34 -/
def X34.j0 (Q : Value → World → Prop) (t0 : Option Addr) (t2 : Int) (t7 : Int) (t9p : Option Addr) (t9n : Nat) (t9c : Nat) (t10p : Option Addr) (t10n : Nat) (t10c : Nat) (w : World) : Prop := drewK w fun w1 => (optP t0 fun p2 => ldSl w1 (p2.add 2) fun x3p x3n x3c => (0 ≤ ((0 : Nat) : Int) ∧ ((0 : Nat) : Int) ≤ t7 ∧ t7 ≤ ((x3c : Nat) : Int)) ∧ RunR Try.prog (Builtin.append_ #[23, 23] 23 #[.slice t10p t10n t10c, .slice (cutAt 1 x3c (Int.toNat ((0 : Nat) : Int)) x3p) (Int.toNat t7 - Int.toNat ((0 : Nat) : Int)) (x3c - Int.toNat ((0 : Nat) : Int))]) w1 fun v4 w5 => ∃ (s6p : Option Addr) (s6n s6c : Nat), v4 = .slice s6p s6n s6c ∧ newK w5 #[.int .i64 t2] 3 fun g7 w8 => (World.cell? w5 (p2.add 2) = some (.slice x3p x3n x3c) ∧ World.cell? w8 (p2.add 2) = some (.slice x3p x3n x3c)) ∧ RunR Try.prog (Builtin.append_ #[23, 23] 23 #[.slice s6p s6n s6c, .slice (some g7) 1 1]) w8 fun v9 w10 => ∃ (s11p : Option Addr) (s11n s11c : Nat), v9 = .slice s11p s11n s11c ∧ optP t0 fun p12 => ldSl w10 (p12.add 2) fun x13p x13n x13c => (World.cell? w8 (p12.add 2) = some (.slice x13p x13n x13c) ∧ World.cell? w10 (p12.add 2) = some (.slice x13p x13n x13c)) ∧ (World.cell? w5 (p12.add 2) = some (.slice x13p x13n x13c) ∧ World.cell? w8 (p12.add 2) = some (.slice x13p x13n x13c)) ∧ (World.cell? w1 (p12.add 2) = some (.slice x13p x13n x13c) ∧ World.cell? w5 (p12.add 2) = some (.slice x13p x13n x13c)) ∧ (0 ≤ t7 ∧ t7 ≤ ((x13n : Nat) : Int) ∧ ((x13n : Nat) : Int) ≤ ((x13c : Nat) : Int)) ∧ RunR Try.prog (Builtin.append_ #[23, 23] 23 #[.slice s11p s11n s11c, .slice (cutAt 1 x13c (Int.toNat t7) x13p) (Int.toNat ((x13n : Nat) : Int) - Int.toNat t7) (x13c - Int.toNat t7)]) w10 fun v14 w15 => ∃ (s16p : Option Addr) (s16n s16c : Nat), v14 = .slice s16p s16n s16c ∧ optP t0 fun p17 => stK w15 (p17.add 1) (.slice t9p t9n t9c) fun w18 => optP t0 fun p19 => stK w18 (p19.add 2) (.slice s16p s16n s16c) fun w20 => Q (.bool true) w20) ∧ (optP t0 fun p21 => ldSl w1 (p21.add 2) fun x22p x22n x22c => (0 ≤ ((0 : Nat) : Int) ∧ ((0 : Nat) : Int) ≤ t7 ∧ t7 ≤ ((x22c : Nat) : Int)) ∧ newK w1 #[.int .i64 t2] 3 fun g23 w24 => (World.cell? w1 (p21.add 2) = some (.slice x22p x22n x22c) ∧ World.cell? w24 (p21.add 2) = some (.slice x22p x22n x22c)) ∧ RunR Try.prog (Builtin.append_ #[23, 23] 23 #[.slice t10p t10n t10c, .slice (cutAt 1 x22c (Int.toNat ((0 : Nat) : Int)) x22p) (Int.toNat t7 - Int.toNat ((0 : Nat) : Int)) (x22c - Int.toNat ((0 : Nat) : Int))]) w24 fun v25 w26 => ∃ (s27p : Option Addr) (s27n s27c : Nat), v25 = .slice s27p s27n s27c ∧ RunR Try.prog (Builtin.append_ #[23, 23] 23 #[.slice s27p s27n s27c, .slice (some g23) 1 1]) w26 fun v28 w29 => ∃ (s30p : Option Addr) (s30n s30c : Nat), v28 = .slice s30p s30n s30c ∧ optP t0 fun p31 => ldSl w29 (p31.add 2) fun x32p x32n x32c => (World.cell? w26 (p31.add 2) = some (.slice x32p x32n x32c) ∧ World.cell? w29 (p31.add 2) = some (.slice x32p x32n x32c)) ∧ (World.cell? w24 (p31.add 2) = some (.slice x32p x32n x32c) ∧ World.cell? w26 (p31.add 2) = some (.slice x32p x32n x32c)) ∧ (World.cell? w1 (p31.add 2) = some (.slice x32p x32n x32c) ∧ World.cell? w24 (p31.add 2) = some (.slice x32p x32n x32c)) ∧ (0 ≤ t7 ∧ t7 ≤ ((x32n : Nat) : Int) ∧ ((x32n : Nat) : Int) ≤ ((x32c : Nat) : Int)) ∧ RunR Try.prog (Builtin.append_ #[23, 23] 23 #[.slice s30p s30n s30c, .slice (cutAt 1 x32c (Int.toNat t7) x32p) (Int.toNat ((x32n : Nat) : Int) - Int.toNat t7) (x32c - Int.toNat t7)]) w29 fun v33 w34 => ∃ (s35p : Option Addr) (s35n s35c : Nat), v33 = .slice s35p s35n s35c ∧ optP t0 fun p36 => stK w34 (p36.add 1) (.slice t9p t9n t9c) fun w37 => optP t0 fun p38 => stK w37 (p38.add 2) (.slice s35p s35n s35c) fun w39 => Q (.bool true) w39)
def X34.f (a0 : Option Addr) (a1 : Int) (a2 : Int) (w : World) (Q : Value → World → Prop) : Prop := CallR Try.prog 49 #[.pointer a0, .int .u64 a1] w fun v1 w2 => ∃ (y3 : Int) (y4 : Bool), v1 = .tuple #[.int .i64 y3, .bool y4] ∧ bcase y4 (optP a0 fun p5 => ldSl w2 (p5.add 2) fun x6p x6n x6c => (0 ≤ y3 ∧ y3 < ((x6n : Nat) : Int)) ∧ optP x6p fun p7 => stK w2 (p7.add (Int.toNat y3 * 1)) (.int .i64 a2) fun w8 => Q (.bool true) w8) (drewK w2 fun w9 => optP a0 fun p10 => ldSl w9 (p10.add 1) fun x11p x11n x11c => optP a0 fun p12 => ldI .i64 w9 (p12.add 0) fun x13 => bcase (decide (((x11n : Nat) : Int) ≥ x13)) (Q (.bool false) w9) (drewK w9 fun w14 => (optP a0 fun p15 => ldSl w14 (p15.add 1) fun x16p x16n x16c => (0 ≤ ((0 : Nat) : Int) ∧ ((0 : Nat) : Int) ≤ y3 ∧ y3 ≤ ((x16c : Nat) : Int)) ∧ RunR Try.prog (Builtin.append_ #[35, 35] 35 #[.slice none 0 0, .slice (cutAt 1 x16c (Int.toNat ((0 : Nat) : Int)) x16p) (Int.toNat y3 - Int.toNat ((0 : Nat) : Int)) (x16c - Int.toNat ((0 : Nat) : Int))]) w14 fun v17 w18 => ∃ (s19p : Option Addr) (s19n s19c : Nat), v17 = .slice s19p s19n s19c ∧ newK w18 #[.int .u64 a1] 36 fun g20 w21 => (World.cell? w18 (p15.add 1) = some (.slice x16p x16n x16c) ∧ World.cell? w21 (p15.add 1) = some (.slice x16p x16n x16c)) ∧ RunR Try.prog (Builtin.append_ #[35, 35] 35 #[.slice s19p s19n s19c, .slice (some g20) 1 1]) w21 fun v22 w23 => ∃ (s24p : Option Addr) (s24n s24c : Nat), v22 = .slice s24p s24n s24c ∧ optP a0 fun p25 => ldSl w23 (p25.add 1) fun x26p x26n x26c => (World.cell? w21 (p25.add 1) = some (.slice x26p x26n x26c) ∧ World.cell? w23 (p25.add 1) = some (.slice x26p x26n x26c)) ∧ (World.cell? w18 (p25.add 1) = some (.slice x26p x26n x26c) ∧ World.cell? w21 (p25.add 1) = some (.slice x26p x26n x26c)) ∧ (World.cell? w14 (p25.add 1) = some (.slice x26p x26n x26c) ∧ World.cell? w18 (p25.add 1) = some (.slice x26p x26n x26c)) ∧ (0 ≤ y3 ∧ y3 ≤ ((x26n : Nat) : Int) ∧ ((x26n : Nat) : Int) ≤ ((x26c : Nat) : Int)) ∧ RunR Try.prog (Builtin.append_ #[35, 35] 35 #[.slice s24p s24n s24c, .slice (cutAt 1 x26c (Int.toNat y3) x26p) (Int.toNat ((x26n : Nat) : Int) - Int.toNat y3) (x26c - Int.toNat y3)]) w23 fun v27 w28 => ∃ (s29p : Option Addr) (s29n s29c : Nat), v27 = .slice s29p s29n s29c ∧ X34.j0 Q a0 a2 y3 s29p s29n s29c none 0 0 w28) ∧ (optP a0 fun p30 => ldSl w14 (p30.add 1) fun x31p x31n x31c => (0 ≤ ((0 : Nat) : Int) ∧ ((0 : Nat) : Int) ≤ y3 ∧ y3 ≤ ((x31c : Nat) : Int)) ∧ newK w14 #[.int .u64 a1] 36 fun g32 w33 => (World.cell? w14 (p30.add 1) = some (.slice x31p x31n x31c) ∧ World.cell? w33 (p30.add 1) = some (.slice x31p x31n x31c)) ∧ RunR Try.prog (Builtin.append_ #[35, 35] 35 #[.slice none 0 0, .slice (cutAt 1 x31c (Int.toNat ((0 : Nat) : Int)) x31p) (Int.toNat y3 - Int.toNat ((0 : Nat) : Int)) (x31c - Int.toNat ((0 : Nat) : Int))]) w33 fun v34 w35 => ∃ (s36p : Option Addr) (s36n s36c : Nat), v34 = .slice s36p s36n s36c ∧ RunR Try.prog (Builtin.append_ #[35, 35] 35 #[.slice s36p s36n s36c, .slice (some g32) 1 1]) w35 fun v37 w38 => ∃ (s39p : Option Addr) (s39n s39c : Nat), v37 = .slice s39p s39n s39c ∧ optP a0 fun p40 => ldSl w38 (p40.add 1) fun x41p x41n x41c => (World.cell? w35 (p40.add 1) = some (.slice x41p x41n x41c) ∧ World.cell? w38 (p40.add 1) = some (.slice x41p x41n x41c)) ∧ (World.cell? w33 (p40.add 1) = some (.slice x41p x41n x41c) ∧ World.cell? w35 (p40.add 1) = some (.slice x41p x41n x41c)) ∧ (World.cell? w14 (p40.add 1) = some (.slice x41p x41n x41c) ∧ World.cell? w33 (p40.add 1) = some (.slice x41p x41n x41c)) ∧ (0 ≤ y3 ∧ y3 ≤ ((x41n : Nat) : Int) ∧ ((x41n : Nat) : Int) ≤ ((x41c : Nat) : Int)) ∧ RunR Try.prog (Builtin.append_ #[35, 35] 35 #[.slice s39p s39n s39c, .slice (cutAt 1 x41c (Int.toNat y3) x41p) (Int.toNat ((x41n : Nat) : Int) - Int.toNat y3) (x41c - Int.toNat y3)]) w38 fun v42 w43 => ∃ (s44p : Option Addr) (s44n s44c : Nat), v42 = .slice s44p s44n s44c ∧ X34.j0 Q a0 a2 y3 s44p s44n s44c none 0 0 w43)))
def X34.S (Q : Value → World → Prop) : Segs
  | 0, φ, ρ, w => qP (ρ 0) fun t0 => qI .i64 (ρ 2) fun t2 => qI .i64 (ρ 7) fun t7 => qSl (ρ 9) fun t9p t9n t9c => qSl (ρ 10) fun t10p t10n t10c => X34.j0 Q t0 t2 t7 t9p t9n t9c t10p t10n t10c w
  | _, _, _, _ => False
noncomputable def X34.an : Ann := (.seq .leaf (.seq .leaf (.seq (.seq .leaf (.cond (.seq .leaf (.seq .leaf .leaf)) .leaf)) (.seq (.seq (.draw [0, 1, 3, 7, 15, 0, 32, 96, 224, 511] [[0, 1, 2, 3, 4, 5, 6, 7, 8, 9]]) (.cond (.seq .leaf .leaf) .leaf)) (.seq .leaf (.seq .leaf (.seq (.draw [0, 0, 2, 6, 14, 0, 62, 127, 0, 256, 1023, 0, 2048, 6144, 14336, 0, 63488, 131071, 262143] [[0, 1, 2, 3, 4, 5, 6, 7, 8, 9, 10, 11, 12, 13, 14, 15, 16, 17, 18], [0, 1, 2, 3, 4, 5, 6, 8, 9, 7, 10, 11, 12, 13, 14, 15, 16, 17, 18]]) (.join 0 (.seq (.draw [0, 0, 2, 6, 14, 0, 62, 127, 0, 256, 1023, 0, 2048, 6144, 14336, 0, 63488, 131071, 262143] [[0, 1, 2, 3, 4, 5, 6, 7, 8, 9, 10, 11, 12, 13, 14, 15, 16, 17, 18], [0, 1, 2, 3, 4, 5, 6, 8, 9, 7, 10, 11, 12, 13, 14, 15, 16, 17, 18]]) (.seq .leaf (.seq .leaf (.seq .leaf .leaf))))))))))))
noncomputable def X34.c : Code := Try.f34.body.getD .skip
theorem X34.v (Q : Value → World → Prop) : V Try.prog (X34.S Q) X34.an X34.c (retC Try.prog Try.f34 Q) := ⟨trivial, ⟨trivial, ⟨⟨trivial, ⟨⟨trivial, ⟨trivial, trivial⟩⟩, trivial⟩⟩, ⟨⟨trivial, ⟨⟨trivial, trivial⟩, trivial⟩⟩, ⟨trivial, ⟨trivial, ⟨trivial, ⟨(by
    intro φ ρ w h
    simp only [X34.S] at h
    obtain ⟨t0, e0, h⟩ := qP_elim h
    obtain ⟨t2, e2, h⟩ := qI_elim h
    obtain ⟨t7, e7, h⟩ := qI_elim h
    obtain ⟨t9p, t9n, t9c, e9, h⟩ := qSl_elim h
    obtain ⟨t10p, t10n, t10c, e10, h⟩ := qSl_elim h
    exact ⟨(((((Env.nil.put (some 0) (.pointer t0)).put (some 2) (.int .i64 t2)).put (some 7) (.int .i64 t7)).put (some 9) (.slice t9p t9n t9c)).put (some 10) (.slice t10p t10n t10c)), Env.le_put e10 (Env.le_put e9 (Env.le_put e7 (Env.le_put e2 (Env.le_put e0 (Env.le_nil _))))), Eq.mp (by kernel_rfl) h⟩), ⟨trivial, ⟨trivial, ⟨trivial, ⟨trivial, trivial⟩⟩⟩⟩⟩⟩⟩⟩⟩⟩⟩⟩
theorem X34.sound (a0 : Option Addr) (a1 : Int) (a2 : Int) (w : World) (Q : Value → World → Prop) (h : X34.f a0 a1 a2 w Q) : CallR Try.prog 34 #[.pointer a0, .int .u64 a1, .int .i64 a2] w Q :=
  fn_sound noGr mixed Try.func34 (c := X34.c) (an := X34.an) (S := X34.S Q) (φ := fun _ => 0) (args := [.pointer a0, .int .u64 a1, .int .i64 a2]) (by kernel_rfl) (by kernel_rfl) (by kernel_rfl) (X34.v Q) (Eq.mp (by kernel_rfl) h)
/-! ### (*mooring/table.Table[uint64, int]).Keys: function 35 -/
def X35.f (a0 : Option Addr) (w : World) (Q : Value → World → Prop) : Prop := newK w #[] 36 fun g1 w2 => optP a0 fun p3 => ldSl w2 (p3.add 0) fun x4p x4n x4c => RunR Try.prog (Builtin.append_ #[35, 35] 35 #[.slice (some g1) 0 0, .slice x4p x4n x4c]) w2 fun v5 w6 => ∃ (s7p : Option Addr) (s7n s7c : Nat), v5 = .slice s7p s7n s7c ∧ Q (.slice s7p s7n s7c) w6
def X35.S (Q : Value → World → Prop) : Segs
  | _, _, _, _ => False
noncomputable def X35.an : Ann := (.seq .leaf (.seq .leaf .leaf))
noncomputable def X35.c : Code := Try.f35.body.getD .skip
theorem X35.v (Q : Value → World → Prop) : V Try.prog (X35.S Q) X35.an X35.c (retC Try.prog Try.f35 Q) := ⟨trivial, ⟨trivial, trivial⟩⟩
theorem X35.sound (a0 : Option Addr) (w : World) (Q : Value → World → Prop) (h : X35.f a0 w Q) : CallR Try.prog 35 #[.pointer a0] w Q :=
  fn_sound noGr mixed Try.func35 (c := X35.c) (an := X35.an) (S := X35.S Q) (φ := fun _ => 0) (args := [.pointer a0]) (by kernel_rfl) (by kernel_rfl) (by kernel_rfl) (X35.v Q) (Eq.mp (by kernel_rfl) h)
/-! ### mooring/table.New[uint64,string]: function 36 -/
def X36.f (a0 : Int) (w : World) (Q : Value → World → Prop) : Prop := bcase (decide (a0 < (1 : Int))) (Q (.tuple #[.pointer none, .int .i64 (1 : Int)]) w) (bcase (decide (a0 > (4096 : Int))) (Q (.tuple #[.pointer none, .int .i64 (1 : Int)]) w) (newK w #[.slice none 0 0, .slice none 0 0, .int .i64 a0] 87 fun g1 w2 => Q (.tuple #[.pointer (some g1), .int .i64 (0 : Int)]) w2))
def X36.S (Q : Value → World → Prop) : Segs
  | _, _, _, _ => False
noncomputable def X36.an : Ann := (.seq .leaf (.seq (.seq .leaf (.cond (.seq .leaf .leaf) .leaf)) (.seq .leaf .leaf)))
noncomputable def X36.c : Code := Try.f36.body.getD .skip
theorem X36.v (Q : Value → World → Prop) : V Try.prog (X36.S Q) X36.an X36.c (retC Try.prog Try.f36 Q) := ⟨trivial, ⟨⟨trivial, ⟨⟨trivial, trivial⟩, trivial⟩⟩, ⟨trivial, trivial⟩⟩⟩
theorem X36.sound (a0 : Int) (w : World) (Q : Value → World → Prop) (h : X36.f a0 w Q) : CallR Try.prog 36 #[.int .i64 a0] w Q :=
  fn_sound noGr mixed Try.func36 (c := X36.c) (an := X36.an) (S := X36.S Q) (φ := fun _ => 0) (args := [.int .i64 a0]) (by kernel_rfl) (by kernel_rfl) (by kernel_rfl) (X36.v Q) (Eq.mp (by kernel_rfl) h)
/-! ### (*mooring/table.Table[uint64, string]).Put: function 37 -/
def X37.f (a0 : Option Addr) (a1 : Int) (a2 : ByteArray) (w : World) (Q : Value → World → Prop) : Prop := optP a0 fun p1 => ldSl w (p1.add 0) fun x2p x2n x2c => CallR Try.prog 43 #[.slice x2p x2n x2c, .int .u64 a1] w fun v3 w4 => ∃ (y5 : Int) (y6 : Bool), v3 = .tuple #[.int .i64 y5, .bool y6] ∧ bcase y6 (optP a0 fun p7 => ldSl w4 (p7.add 1) fun x8p x8n x8c => (0 ≤ y5 ∧ y5 < ((x8n : Nat) : Int)) ∧ optP x8p fun p9 => stK w4 (p9.add (Int.toNat y5 * 1)) (.string a2) fun w10 => Q (.bool true) w10) (drewK w4 fun w11 => optP a0 fun p12 => ldSl w11 (p12.add 0) fun x13p x13n x13c => optP a0 fun p14 => ldI .i64 w11 (p14.add 2) fun x15 => bcase (decide (((x13n : Nat) : Int) ≥ x15)) (Q (.bool false) w11) (optP a0 fun p16 => ldSl w11 (p16.add 0) fun x17p x17n x17c => newK w11 #[.int .u64 a1] 36 fun g18 w19 => CallR Try.prog 44 #[.slice x17p x17n x17c, .int .i64 y5, .slice (some g18) 1 1] w19 fun v20 w21 => ∃ (y22p : Option Addr) (y22n y22c : Nat), v20 = .slice y22p y22n y22c ∧ optP a0 fun p23 => stK w21 (p23.add 0) (.slice y22p y22n y22c) fun w24 => optP a0 fun p25 => ldSl w24 (p25.add 1) fun x26p x26n x26c => newK w24 #[.string a2] 9 fun g27 w28 => CallR Try.prog 41 #[.slice x26p x26n x26c, .int .i64 y5, .slice (some g27) 1 1] w28 fun v29 w30 => ∃ (y31p : Option Addr) (y31n y31c : Nat), v29 = .slice y31p y31n y31c ∧ optP a0 fun p32 => stK w30 (p32.add 1) (.slice y31p y31n y31c) fun w33 => Q (.bool true) w33))
def X37.S (Q : Value → World → Prop) : Segs
  | _, _, _, _ => False
noncomputable def X37.an : Ann := (.seq .leaf (.seq .leaf (.seq (.block (.seq .leaf (.cond .leaf (.seq (.draw [0, 1, 3, 7, 15, 0, 32, 96, 224, 511, 1023] [[0, 1, 2, 3, 4, 5, 6, 7, 8, 9, 10]]) (.cond (.seq .leaf .leaf) (.seq .leaf .leaf)))))) (.seq .leaf .leaf))))
noncomputable def X37.c : Code := Try.f37.body.getD .skip
theorem X37.v (Q : Value → World → Prop) : V Try.prog (X37.S Q) X37.an X37.c (retC Try.prog Try.f37 Q) := ⟨trivial, ⟨trivial, ⟨⟨trivial, ⟨trivial, ⟨trivial, ⟨⟨trivial, trivial⟩, ⟨trivial, trivial⟩⟩⟩⟩⟩, ⟨trivial, trivial⟩⟩⟩⟩
theorem X37.sound (a0 : Option Addr) (a1 : Int) (a2 : ByteArray) (w : World) (Q : Value → World → Prop) (h : X37.f a0 a1 a2 w Q) : CallR Try.prog 37 #[.pointer a0, .int .u64 a1, .string a2] w Q :=
  fn_sound noGr mixed Try.func37 (c := X37.c) (an := X37.an) (S := X37.S Q) (φ := fun _ => 0) (args := [.pointer a0, .int .u64 a1, .string a2]) (by kernel_rfl) (by kernel_rfl) (by kernel_rfl) (X37.v Q) (Eq.mp (by kernel_rfl) h)
/-! ### (*mooring/table.Table[uint64, string]).Get: function 38 -/
def X38.f (a0 : Option Addr) (a1 : Int) (w : World) (Q : Value → World → Prop) : Prop := optP a0 fun p1 => ldSl w (p1.add 0) fun x2p x2n x2c => CallR Try.prog 43 #[.slice x2p x2n x2c, .int .u64 a1] w fun v3 w4 => ∃ (y5 : Int) (y6 : Bool), v3 = .tuple #[.int .i64 y5, .bool y6] ∧ bcase (!y6) (Q (.tuple #[.string (⟨#[]⟩ : ByteArray), .bool false]) w4) (optP a0 fun p7 => ldSl w4 (p7.add 1) fun x8p x8n x8c => (0 ≤ y5 ∧ y5 < ((x8n : Nat) : Int)) ∧ optP x8p fun p9 => ldS w4 (p9.add (Int.toNat y5 * 1)) fun x10 => Q (.tuple #[.string x10, .bool true]) w4)
def X38.S (Q : Value → World → Prop) : Segs
  | _, _, _, _ => False
noncomputable def X38.an : Ann := (.seq .leaf (.seq .leaf (.seq (.seq .leaf (.cond (.seq .leaf (.seq .leaf .leaf)) .leaf)) (.seq .leaf .leaf))))
noncomputable def X38.c : Code := Try.f38.body.getD .skip
theorem X38.v (Q : Value → World → Prop) : V Try.prog (X38.S Q) X38.an X38.c (retC Try.prog Try.f38 Q) := ⟨trivial, ⟨trivial, ⟨⟨trivial, ⟨⟨trivial, ⟨trivial, trivial⟩⟩, trivial⟩⟩, ⟨trivial, trivial⟩⟩⟩⟩
theorem X38.sound (a0 : Option Addr) (a1 : Int) (w : World) (Q : Value → World → Prop) (h : X38.f a0 a1 w Q) : CallR Try.prog 38 #[.pointer a0, .int .u64 a1] w Q :=
  fn_sound noGr mixed Try.func38 (c := X38.c) (an := X38.an) (S := X38.S Q) (φ := fun _ => 0) (args := [.pointer a0, .int .u64 a1]) (by kernel_rfl) (by kernel_rfl) (by kernel_rfl) (X38.v Q) (Eq.mp (by kernel_rfl) h)
/-! ### (*mooring/table.Table[uint64, string]).Next: function 39 -/
def X39.f (a0 : Option Addr) (a1 : Int) (w : World) (Q : Value → World → Prop) : Prop := optP a0 fun p1 => ldSl w (p1.add 0) fun x2p x2n x2c => CallR Try.prog 43 #[.slice x2p x2n x2c, .int .u64 a1] w fun v3 w4 => ∃ (y5 : Int) (y6 : Bool), v3 = .tuple #[.int .i64 y5, .bool y6] ∧ bcase y6 (CallR Try.prog 51 #[.pointer a0, .int .i64 (IntKind.wrap .i64 (y5 + (1 : Int)))] w4 fun v7 w8 => ∃ (y9 : Int) (y10 : Bool), v7 = .tuple #[.int .u64 y9, .bool y10] ∧ Q (.tuple #[.int .u64 y9, .bool y10]) w8) (CallR Try.prog 51 #[.pointer a0, .int .i64 y5] w4 fun v11 w12 => ∃ (y13 : Int) (y14 : Bool), v11 = .tuple #[.int .u64 y13, .bool y14] ∧ Q (.tuple #[.int .u64 y13, .bool y14]) w12)
def X39.S (Q : Value → World → Prop) : Segs
  | _, _, _, _ => False
noncomputable def X39.an : Ann := (.seq .leaf (.seq .leaf (.seq (.seq .leaf (.cond .leaf .leaf)) (.seq .leaf .leaf))))
noncomputable def X39.c : Code := Try.f39.body.getD .skip
theorem X39.v (Q : Value → World → Prop) : V Try.prog (X39.S Q) X39.an X39.c (retC Try.prog Try.f39 Q) := ⟨trivial, ⟨trivial, ⟨⟨trivial, ⟨trivial, trivial⟩⟩, ⟨trivial, trivial⟩⟩⟩⟩
theorem X39.sound (a0 : Option Addr) (a1 : Int) (w : World) (Q : Value → World → Prop) (h : X39.f a0 a1 w Q) : CallR Try.prog 39 #[.pointer a0, .int .u64 a1] w Q :=
  fn_sound noGr mixed Try.func39 (c := X39.c) (an := X39.an) (S := X39.S Q) (φ := fun _ => 0) (args := [.pointer a0, .int .u64 a1]) (by kernel_rfl) (by kernel_rfl) (by kernel_rfl) (X39.v Q) (Eq.mp (by kernel_rfl) h)
/-! ### slices.BinarySearch[[]string,string]: function 40 -/
def X40.l0 (Q : Value → World → Prop) : Nat → (Option Addr) → Nat → Nat → ByteArray → Int → Int → Int → World → Prop
  | 0, _, _, _, _, _, _, _, _ => False
  | k + 1, t0p, t0n, t0c, t1, t6, t7, t8, w => bcase (decide (t7 < t8)) (0 ≤ (1 : Int) ∧ (0 ≤ (IntKind.wrap .i64 (iShr .u64 (IntKind.wrap .u64 (IntKind.wrap .i64 (t7 + t8))) (1 : Int))) ∧ (IntKind.wrap .i64 (iShr .u64 (IntKind.wrap .u64 (IntKind.wrap .i64 (t7 + t8))) (1 : Int))) < ((t0n : Nat) : Int)) ∧ optP t0p fun p1 => ldS w (p1.add (Int.toNat (IntKind.wrap .i64 (iShr .u64 (IntKind.wrap .u64 (IntKind.wrap .i64 (t7 + t8))) (1 : Int))) * 1)) fun x2 => CallR Try.prog 52 #[.string x2, .string t1] w fun v3 w4 => ∃ (y5 : Bool), v3 = .bool y5 ∧ bcase y5 (X40.l0 Q k t0p t0n t0c t1 t6 (IntKind.wrap .i64 ((IntKind.wrap .i64 (iShr .u64 (IntKind.wrap .u64 (IntKind.wrap .i64 (t7 + t8))) (1 : Int))) + (1 : Int))) t8 w4) (X40.l0 Q k t0p t0n t0c t1 t6 t7 (IntKind.wrap .i64 (iShr .u64 (IntKind.wrap .u64 (IntKind.wrap .i64 (t7 + t8))) (1 : Int))) w4)) (bcase (decide (t7 < t6)) ((0 ≤ t7 ∧ t7 < ((t0n : Nat) : Int)) ∧ optP t0p fun p6 => ldS w (p6.add (Int.toNat t7 * 1)) fun x7 => bcase (strEq x7 t1) (Q (.tuple #[.int .i64 t7, .bool true]) w) ((0 ≤ t7 ∧ t7 < ((t0n : Nat) : Int)) ∧ optP t0p fun p8 => ldS w (p8.add (Int.toNat t7 * 1)) fun x9 => CallR Try.prog 53 #[.string x9] w fun v10 w11 => ∃ (y12 : Bool), v10 = .bool y12 ∧ bcase y12 (CallR Try.prog 53 #[.string t1] w11 fun v13 w14 => ∃ (y15 : Bool), v13 = .bool y15 ∧ Q (.tuple #[.int .i64 t7, .bool y15]) w14) (Q (.tuple #[.int .i64 t7, .bool false]) w11))) (Q (.tuple #[.int .i64 t7, .bool false]) w))
def X40.f (a0p : Option Addr) (a0n : Nat) (a0c : Nat) (a1 : ByteArray) (w : World) (Q : Value → World → Prop) : Prop := ∃ m1, X40.l0 Q m1 a0p a0n a0c a1 ((a0n : Nat) : Int) (0 : Int) ((a0n : Nat) : Int) w
def X40.S (Q : Value → World → Prop) : Segs
  | 0, φ, ρ, w => qSl (ρ 0) fun t0p t0n t0c => qS (ρ 1) fun t1 => qI .i64 (ρ 6) fun t6 => qI .i64 (ρ 7) fun t7 => qI .i64 (ρ 8) fun t8 => X40.l0 Q (φ 0) t0p t0n t0c t1 t6 t7 t8 w
  | _, _, _, _ => False
noncomputable def X40.an : Ann := (.seq .leaf (.seq .leaf (.seq .leaf (.seq (.block (.loop 0 (.seq (.seq .leaf (.cond .leaf .leaf)) (.block (.seq .leaf (.seq .leaf (.cond .leaf .leaf))))))) (.seq .leaf .leaf)))))
noncomputable def X40.c : Code := Try.f40.body.getD .skip
theorem X40.v (Q : Value → World → Prop) : V Try.prog (X40.S Q) X40.an X40.c (retC Try.prog Try.f40 Q) := ⟨trivial, ⟨trivial, ⟨trivial, ⟨⟨(by
    intro φ ρ w h
    simp only [X40.S] at h
    obtain ⟨t0p, t0n, t0c, e0, h⟩ := qSl_elim h
    obtain ⟨t1, e1, h⟩ := qS_elim h
    obtain ⟨t6, e6, h⟩ := qI_elim h
    obtain ⟨t7, e7, h⟩ := qI_elim h
    obtain ⟨t8, e8, h⟩ := qI_elim h
    cases hk : φ 0 with
    | zero => rw [hk] at h; exact h.elim
    | succ k => rw [hk] at h; exact ⟨k, Nat.lt_succ_self k, (((((Env.nil.put (some 0) (.slice t0p t0n t0c)).put (some 1) (.string t1)).put (some 6) (.int .i64 t6)).put (some 7) (.int .i64 t7)).put (some 8) (.int .i64 t8)), Env.le_put e8 (Env.le_put e7 (Env.le_put e6 (Env.le_put e1 (Env.le_put e0 (Env.le_nil _))))), Eq.mp (by kernel_rfl) h⟩), ⟨⟨trivial, ⟨trivial, trivial⟩⟩, ⟨trivial, ⟨trivial, ⟨trivial, trivial⟩⟩⟩⟩⟩, ⟨trivial, trivial⟩⟩⟩⟩⟩
theorem X40.sound (a0p : Option Addr) (a0n : Nat) (a0c : Nat) (a1 : ByteArray) (w : World) (Q : Value → World → Prop) (h : X40.f a0p a0n a0c a1 w Q) : CallR Try.prog 40 #[.slice a0p a0n a0c, .string a1] w Q :=
  fn_sound noGr mixed Try.func40 (c := X40.c) (an := X40.an) (S := X40.S Q) (φ := fun _ => 0) (args := [.slice a0p a0n a0c, .string a1]) (by kernel_rfl) (by kernel_rfl) (by kernel_rfl) (X40.v Q) (Eq.mp (by kernel_rfl) h)
/-! ### slices.Insert[[]string,string]: function 41 -/
def X41.f (a0p : Option Addr) (a0n : Nat) (a0c : Nat) (a1 : Int) (a2p : Option Addr) (a2n : Nat) (a2c : Nat) (w : World) (Q : Value → World → Prop) : Prop := (0 ≤ a1 ∧ a1 ≤ ((a0n : Nat) : Int) ∧ ((a0n : Nat) : Int) ≤ ((a0c : Nat) : Int)) ∧ bcase (((a2n : Nat) : Int) == (0 : Int)) (Q (.slice a0p a0n a0c) w) (bcase (a1 == ((a0n : Nat) : Int)) (RunR Try.prog (Builtin.append_ #[22, 22] 22 #[.slice a0p a0n a0c, .slice a2p a2n a2c]) w fun v1 w2 => ∃ (s3p : Option Addr) (s3n s3c : Nat), v1 = .slice s3p s3n s3c ∧ Q (.slice s3p s3n s3c) w2) (bcase (decide ((IntKind.wrap .i64 (((a0n : Nat) : Int) + ((a2n : Nat) : Int))) > ((a0c : Nat) : Int))) ((0 ≤ ((0 : Nat) : Int) ∧ ((0 : Nat) : Int) ≤ a1 ∧ a1 ≤ ((a0c : Nat) : Int)) ∧ RunR Try.prog (Builtin.append_ #[22, 3] 22 #[.slice (cutAt 1 a0c (Int.toNat ((0 : Nat) : Int)) a0p) (Int.toNat a1 - Int.toNat ((0 : Nat) : Int)) (a0c - Int.toNat ((0 : Nat) : Int)), .int .i64 (IntKind.wrap .i64 ((IntKind.wrap .i64 (((a0n : Nat) : Int) + ((a2n : Nat) : Int))) - a1))]) w fun v4 w5 => ∃ (s6p : Option Addr) (s6n s6c : Nat), v4 = .slice s6p s6n s6c ∧ (0 ≤ a1 ∧ a1 ≤ ((s6n : Nat) : Int) ∧ ((s6n : Nat) : Int) ≤ ((s6c : Nat) : Int)) ∧ RunR Try.prog (Builtin.copy_ #[22, 22] 3 #[.slice (cutAt 1 s6c (Int.toNat a1) s6p) (Int.toNat ((s6n : Nat) : Int) - Int.toNat a1) (s6c - Int.toNat a1), .slice a2p a2n a2c]) w5 fun v7 w8 => ∃ y9 : Int, v7 = .int .i64 y9 ∧ drewK w8 fun w10 => (0 ≤ (IntKind.wrap .i64 (a1 + ((a2n : Nat) : Int))) ∧ (IntKind.wrap .i64 (a1 + ((a2n : Nat) : Int))) ≤ ((s6n : Nat) : Int) ∧ ((s6n : Nat) : Int) ≤ ((s6c : Nat) : Int)) ∧ (0 ≤ a1 ∧ a1 ≤ ((a0n : Nat) : Int) ∧ ((a0n : Nat) : Int) ≤ ((a0c : Nat) : Int)) ∧ RunR Try.prog (Builtin.copy_ #[22, 22] 3 #[.slice (cutAt 1 s6c (Int.toNat (IntKind.wrap .i64 (a1 + ((a2n : Nat) : Int)))) s6p) (Int.toNat ((s6n : Nat) : Int) - Int.toNat (IntKind.wrap .i64 (a1 + ((a2n : Nat) : Int)))) (s6c - Int.toNat (IntKind.wrap .i64 (a1 + ((a2n : Nat) : Int)))), .slice (cutAt 1 a0c (Int.toNat a1) a0p) (Int.toNat ((a0n : Nat) : Int) - Int.toNat a1) (a0c - Int.toNat a1)]) w10 fun v11 w12 => ∃ y13 : Int, v11 = .int .i64 y13 ∧ Q (.slice s6p s6n s6c) w12) ((0 ≤ ((0 : Nat) : Int) ∧ ((0 : Nat) : Int) ≤ (IntKind.wrap .i64 (((a0n : Nat) : Int) + ((a2n : Nat) : Int))) ∧ (IntKind.wrap .i64 (((a0n : Nat) : Int) + ((a2n : Nat) : Int))) ≤ ((a0c : Nat) : Int)) ∧ (0 ≤ (IntKind.wrap .i64 (a1 + ((a2n : Nat) : Int))) ∧ (IntKind.wrap .i64 (a1 + ((a2n : Nat) : Int))) ≤ (((Int.toNat (IntKind.wrap .i64 (((a0n : Nat) : Int) + ((a2n : Nat) : Int))) - Int.toNat ((0 : Nat) : Int)) : Nat) : Int) ∧ (((Int.toNat (IntKind.wrap .i64 (((a0n : Nat) : Int) + ((a2n : Nat) : Int))) - Int.toNat ((0 : Nat) : Int)) : Nat) : Int) ≤ (((a0c - Int.toNat ((0 : Nat) : Int)) : Nat) : Int)) ∧ ExtR Try.prog 54 #[.slice a2p a2n a2c, .slice (cutAt 1 (a0c - Int.toNat ((0 : Nat) : Int)) (Int.toNat (IntKind.wrap .i64 (a1 + ((a2n : Nat) : Int)))) (cutAt 1 a0c (Int.toNat ((0 : Nat) : Int)) a0p)) (Int.toNat (((Int.toNat (IntKind.wrap .i64 (((a0n : Nat) : Int) + ((a2n : Nat) : Int))) - Int.toNat ((0 : Nat) : Int)) : Nat) : Int) - Int.toNat (IntKind.wrap .i64 (a1 + ((a2n : Nat) : Int)))) ((a0c - Int.toNat ((0 : Nat) : Int)) - Int.toNat (IntKind.wrap .i64 (a1 + ((a2n : Nat) : Int))))] w fun v14 w15 => ∃ (y16 : Bool), v14 = .bool y16 ∧ bcase (!y16) (drewK w15 fun w17 => (0 ≤ (IntKind.wrap .i64 (a1 + ((a2n : Nat) : Int))) ∧ (IntKind.wrap .i64 (a1 + ((a2n : Nat) : Int))) ≤ (((Int.toNat (IntKind.wrap .i64 (((a0n : Nat) : Int) + ((a2n : Nat) : Int))) - Int.toNat ((0 : Nat) : Int)) : Nat) : Int) ∧ (((Int.toNat (IntKind.wrap .i64 (((a0n : Nat) : Int) + ((a2n : Nat) : Int))) - Int.toNat ((0 : Nat) : Int)) : Nat) : Int) ≤ (((a0c - Int.toNat ((0 : Nat) : Int)) : Nat) : Int)) ∧ (0 ≤ a1 ∧ a1 ≤ (((Int.toNat (IntKind.wrap .i64 (((a0n : Nat) : Int) + ((a2n : Nat) : Int))) - Int.toNat ((0 : Nat) : Int)) : Nat) : Int) ∧ (((Int.toNat (IntKind.wrap .i64 (((a0n : Nat) : Int) + ((a2n : Nat) : Int))) - Int.toNat ((0 : Nat) : Int)) : Nat) : Int) ≤ (((a0c - Int.toNat ((0 : Nat) : Int)) : Nat) : Int)) ∧ RunR Try.prog (Builtin.copy_ #[22, 22] 3 #[.slice (cutAt 1 (a0c - Int.toNat ((0 : Nat) : Int)) (Int.toNat (IntKind.wrap .i64 (a1 + ((a2n : Nat) : Int)))) (cutAt 1 a0c (Int.toNat ((0 : Nat) : Int)) a0p)) (Int.toNat (((Int.toNat (IntKind.wrap .i64 (((a0n : Nat) : Int) + ((a2n : Nat) : Int))) - Int.toNat ((0 : Nat) : Int)) : Nat) : Int) - Int.toNat (IntKind.wrap .i64 (a1 + ((a2n : Nat) : Int)))) ((a0c - Int.toNat ((0 : Nat) : Int)) - Int.toNat (IntKind.wrap .i64 (a1 + ((a2n : Nat) : Int)))), .slice (cutAt 1 (a0c - Int.toNat ((0 : Nat) : Int)) (Int.toNat a1) (cutAt 1 a0c (Int.toNat ((0 : Nat) : Int)) a0p)) (Int.toNat (((Int.toNat (IntKind.wrap .i64 (((a0n : Nat) : Int) + ((a2n : Nat) : Int))) - Int.toNat ((0 : Nat) : Int)) : Nat) : Int) - Int.toNat a1) ((a0c - Int.toNat ((0 : Nat) : Int)) - Int.toNat a1)]) w17 fun v18 w19 => ∃ y20 : Int, v18 = .int .i64 y20 ∧ (0 ≤ a1 ∧ a1 ≤ (((Int.toNat (IntKind.wrap .i64 (((a0n : Nat) : Int) + ((a2n : Nat) : Int))) - Int.toNat ((0 : Nat) : Int)) : Nat) : Int) ∧ (((Int.toNat (IntKind.wrap .i64 (((a0n : Nat) : Int) + ((a2n : Nat) : Int))) - Int.toNat ((0 : Nat) : Int)) : Nat) : Int) ≤ (((a0c - Int.toNat ((0 : Nat) : Int)) : Nat) : Int)) ∧ RunR Try.prog (Builtin.copy_ #[22, 22] 3 #[.slice (cutAt 1 (a0c - Int.toNat ((0 : Nat) : Int)) (Int.toNat a1) (cutAt 1 a0c (Int.toNat ((0 : Nat) : Int)) a0p)) (Int.toNat (((Int.toNat (IntKind.wrap .i64 (((a0n : Nat) : Int) + ((a2n : Nat) : Int))) - Int.toNat ((0 : Nat) : Int)) : Nat) : Int) - Int.toNat a1) ((a0c - Int.toNat ((0 : Nat) : Int)) - Int.toNat a1), .slice a2p a2n a2c]) w19 fun v21 w22 => ∃ y23 : Int, v21 = .int .i64 y23 ∧ Q (.slice (cutAt 1 a0c (Int.toNat ((0 : Nat) : Int)) a0p) (Int.toNat (IntKind.wrap .i64 (((a0n : Nat) : Int) + ((a2n : Nat) : Int))) - Int.toNat ((0 : Nat) : Int)) (a0c - Int.toNat ((0 : Nat) : Int))) w22) ((0 ≤ ((a0n : Nat) : Int) ∧ ((a0n : Nat) : Int) ≤ (((Int.toNat (IntKind.wrap .i64 (((a0n : Nat) : Int) + ((a2n : Nat) : Int))) - Int.toNat ((0 : Nat) : Int)) : Nat) : Int) ∧ (((Int.toNat (IntKind.wrap .i64 (((a0n : Nat) : Int) + ((a2n : Nat) : Int))) - Int.toNat ((0 : Nat) : Int)) : Nat) : Int) ≤ (((a0c - Int.toNat ((0 : Nat) : Int)) : Nat) : Int)) ∧ RunR Try.prog (Builtin.copy_ #[22, 22] 3 #[.slice (cutAt 1 (a0c - Int.toNat ((0 : Nat) : Int)) (Int.toNat ((a0n : Nat) : Int)) (cutAt 1 a0c (Int.toNat ((0 : Nat) : Int)) a0p)) (Int.toNat (((Int.toNat (IntKind.wrap .i64 (((a0n : Nat) : Int) + ((a2n : Nat) : Int))) - Int.toNat ((0 : Nat) : Int)) : Nat) : Int) - Int.toNat ((a0n : Nat) : Int)) ((a0c - Int.toNat ((0 : Nat) : Int)) - Int.toNat ((a0n : Nat) : Int)), .slice a2p a2n a2c]) w15 fun v24 w25 => ∃ y26 : Int, v24 = .int .i64 y26 ∧ (0 ≤ a1 ∧ a1 ≤ (((Int.toNat (IntKind.wrap .i64 (((a0n : Nat) : Int) + ((a2n : Nat) : Int))) - Int.toNat ((0 : Nat) : Int)) : Nat) : Int) ∧ (((Int.toNat (IntKind.wrap .i64 (((a0n : Nat) : Int) + ((a2n : Nat) : Int))) - Int.toNat ((0 : Nat) : Int)) : Nat) : Int) ≤ (((a0c - Int.toNat ((0 : Nat) : Int)) : Nat) : Int)) ∧ CallR Try.prog 55 #[.slice (cutAt 1 (a0c - Int.toNat ((0 : Nat) : Int)) (Int.toNat a1) (cutAt 1 a0c (Int.toNat ((0 : Nat) : Int)) a0p)) (Int.toNat (((Int.toNat (IntKind.wrap .i64 (((a0n : Nat) : Int) + ((a2n : Nat) : Int))) - Int.toNat ((0 : Nat) : Int)) : Nat) : Int) - Int.toNat a1) ((a0c - Int.toNat ((0 : Nat) : Int)) - Int.toNat a1), .int .i64 ((a2n : Nat) : Int)] w25 fun v27 w28 => v27 = .tuple #[] ∧ Q (.slice (cutAt 1 a0c (Int.toNat ((0 : Nat) : Int)) a0p) (Int.toNat (IntKind.wrap .i64 (((a0n : Nat) : Int) + ((a2n : Nat) : Int))) - Int.toNat ((0 : Nat) : Int)) (a0c - Int.toNat ((0 : Nat) : Int))) w28))))
def X41.S (Q : Value → World → Prop) : Segs
  | _, _, _, _ => False
noncomputable def X41.an : Ann := (.seq .leaf (.seq .leaf (.seq .leaf (.seq (.seq .leaf (.cond (.seq .leaf .leaf) .leaf)) (.seq .leaf (.seq (.seq .leaf (.cond (.seq .leaf .leaf) .leaf)) (.seq (.seq .leaf (.cond (.seq .leaf (.seq .leaf (.seq (.draw [0, 0, 0, 6, 15, 0, 0, 96, 255] [[0, 1, 2, 3, 4, 5, 6, 7, 8]]) (.seq .leaf .leaf)))) .leaf)) (.seq .leaf (.seq (.seq .leaf (.cond (.seq (.draw [0, 0, 0, 6, 15, 0, 0, 96, 255] [[0, 1, 2, 3, 4, 5, 6, 7, 8]]) (.seq .leaf (.seq .leaf .leaf))) .leaf)) (.seq .leaf (.seq .leaf (.seq .leaf .leaf))))))))))))
noncomputable def X41.c : Code := Try.f41.body.getD .skip
theorem X41.v (Q : Value → World → Prop) : V Try.prog (X41.S Q) X41.an X41.c (retC Try.prog Try.f41 Q) := ⟨trivial, ⟨trivial, ⟨trivial, ⟨⟨trivial, ⟨⟨trivial, trivial⟩, trivial⟩⟩, ⟨trivial, ⟨⟨trivial, ⟨⟨trivial, trivial⟩, trivial⟩⟩, ⟨⟨trivial, ⟨⟨trivial, ⟨trivial, ⟨trivial, ⟨trivial, trivial⟩⟩⟩⟩, trivial⟩⟩, ⟨trivial, ⟨⟨trivial, ⟨⟨trivial, ⟨trivial, ⟨trivial, trivial⟩⟩⟩, trivial⟩⟩, ⟨trivial, ⟨trivial, ⟨trivial, trivial⟩⟩⟩⟩⟩⟩⟩⟩⟩⟩⟩⟩
theorem X41.sound (a0p : Option Addr) (a0n : Nat) (a0c : Nat) (a1 : Int) (a2p : Option Addr) (a2n : Nat) (a2c : Nat) (w : World) (Q : Value → World → Prop) (h : X41.f a0p a0n a0c a1 a2p a2n a2c w Q) : CallR Try.prog 41 #[.slice a0p a0n a0c, .int .i64 a1, .slice a2p a2n a2c] w Q :=
  fn_sound noGr mixed Try.func41 (c := X41.c) (an := X41.an) (S := X41.S Q) (φ := fun _ => 0) (args := [.slice a0p a0n a0c, .int .i64 a1, .slice a2p a2n a2c]) (by kernel_rfl) (by kernel_rfl) (by kernel_rfl) (X41.v Q) (Eq.mp (by kernel_rfl) h)
/-! ### slices.Insert[[]int,int]: function 42 -/
def X42.f (a0p : Option Addr) (a0n : Nat) (a0c : Nat) (a1 : Int) (a2p : Option Addr) (a2n : Nat) (a2c : Nat) (w : World) (Q : Value → World → Prop) : Prop := (0 ≤ a1 ∧ a1 ≤ ((a0n : Nat) : Int) ∧ ((a0n : Nat) : Int) ≤ ((a0c : Nat) : Int)) ∧ bcase (((a2n : Nat) : Int) == (0 : Int)) (Q (.slice a0p a0n a0c) w) (bcase (a1 == ((a0n : Nat) : Int)) (RunR Try.prog (Builtin.append_ #[23, 23] 23 #[.slice a0p a0n a0c, .slice a2p a2n a2c]) w fun v1 w2 => ∃ (s3p : Option Addr) (s3n s3c : Nat), v1 = .slice s3p s3n s3c ∧ Q (.slice s3p s3n s3c) w2) (bcase (decide ((IntKind.wrap .i64 (((a0n : Nat) : Int) + ((a2n : Nat) : Int))) > ((a0c : Nat) : Int))) ((0 ≤ ((0 : Nat) : Int) ∧ ((0 : Nat) : Int) ≤ a1 ∧ a1 ≤ ((a0c : Nat) : Int)) ∧ RunR Try.prog (Builtin.append_ #[23, 3] 23 #[.slice (cutAt 1 a0c (Int.toNat ((0 : Nat) : Int)) a0p) (Int.toNat a1 - Int.toNat ((0 : Nat) : Int)) (a0c - Int.toNat ((0 : Nat) : Int)), .int .i64 (IntKind.wrap .i64 ((IntKind.wrap .i64 (((a0n : Nat) : Int) + ((a2n : Nat) : Int))) - a1))]) w fun v4 w5 => ∃ (s6p : Option Addr) (s6n s6c : Nat), v4 = .slice s6p s6n s6c ∧ (0 ≤ a1 ∧ a1 ≤ ((s6n : Nat) : Int) ∧ ((s6n : Nat) : Int) ≤ ((s6c : Nat) : Int)) ∧ RunR Try.prog (Builtin.copy_ #[23, 23] 3 #[.slice (cutAt 1 s6c (Int.toNat a1) s6p) (Int.toNat ((s6n : Nat) : Int) - Int.toNat a1) (s6c - Int.toNat a1), .slice a2p a2n a2c]) w5 fun v7 w8 => ∃ y9 : Int, v7 = .int .i64 y9 ∧ drewK w8 fun w10 => (0 ≤ (IntKind.wrap .i64 (a1 + ((a2n : Nat) : Int))) ∧ (IntKind.wrap .i64 (a1 + ((a2n : Nat) : Int))) ≤ ((s6n : Nat) : Int) ∧ ((s6n : Nat) : Int) ≤ ((s6c : Nat) : Int)) ∧ (0 ≤ a1 ∧ a1 ≤ ((a0n : Nat) : Int) ∧ ((a0n : Nat) : Int) ≤ ((a0c : Nat) : Int)) ∧ RunR Try.prog (Builtin.copy_ #[23, 23] 3 #[.slice (cutAt 1 s6c (Int.toNat (IntKind.wrap .i64 (a1 + ((a2n : Nat) : Int)))) s6p) (Int.toNat ((s6n : Nat) : Int) - Int.toNat (IntKind.wrap .i64 (a1 + ((a2n : Nat) : Int)))) (s6c - Int.toNat (IntKind.wrap .i64 (a1 + ((a2n : Nat) : Int)))), .slice (cutAt 1 a0c (Int.toNat a1) a0p) (Int.toNat ((a0n : Nat) : Int) - Int.toNat a1) (a0c - Int.toNat a1)]) w10 fun v11 w12 => ∃ y13 : Int, v11 = .int .i64 y13 ∧ Q (.slice s6p s6n s6c) w12) ((0 ≤ ((0 : Nat) : Int) ∧ ((0 : Nat) : Int) ≤ (IntKind.wrap .i64 (((a0n : Nat) : Int) + ((a2n : Nat) : Int))) ∧ (IntKind.wrap .i64 (((a0n : Nat) : Int) + ((a2n : Nat) : Int))) ≤ ((a0c : Nat) : Int)) ∧ (0 ≤ (IntKind.wrap .i64 (a1 + ((a2n : Nat) : Int))) ∧ (IntKind.wrap .i64 (a1 + ((a2n : Nat) : Int))) ≤ (((Int.toNat (IntKind.wrap .i64 (((a0n : Nat) : Int) + ((a2n : Nat) : Int))) - Int.toNat ((0 : Nat) : Int)) : Nat) : Int) ∧ (((Int.toNat (IntKind.wrap .i64 (((a0n : Nat) : Int) + ((a2n : Nat) : Int))) - Int.toNat ((0 : Nat) : Int)) : Nat) : Int) ≤ (((a0c - Int.toNat ((0 : Nat) : Int)) : Nat) : Int)) ∧ ExtR Try.prog 56 #[.slice a2p a2n a2c, .slice (cutAt 1 (a0c - Int.toNat ((0 : Nat) : Int)) (Int.toNat (IntKind.wrap .i64 (a1 + ((a2n : Nat) : Int)))) (cutAt 1 a0c (Int.toNat ((0 : Nat) : Int)) a0p)) (Int.toNat (((Int.toNat (IntKind.wrap .i64 (((a0n : Nat) : Int) + ((a2n : Nat) : Int))) - Int.toNat ((0 : Nat) : Int)) : Nat) : Int) - Int.toNat (IntKind.wrap .i64 (a1 + ((a2n : Nat) : Int)))) ((a0c - Int.toNat ((0 : Nat) : Int)) - Int.toNat (IntKind.wrap .i64 (a1 + ((a2n : Nat) : Int))))] w fun v14 w15 => ∃ (y16 : Bool), v14 = .bool y16 ∧ bcase (!y16) (drewK w15 fun w17 => (0 ≤ (IntKind.wrap .i64 (a1 + ((a2n : Nat) : Int))) ∧ (IntKind.wrap .i64 (a1 + ((a2n : Nat) : Int))) ≤ (((Int.toNat (IntKind.wrap .i64 (((a0n : Nat) : Int) + ((a2n : Nat) : Int))) - Int.toNat ((0 : Nat) : Int)) : Nat) : Int) ∧ (((Int.toNat (IntKind.wrap .i64 (((a0n : Nat) : Int) + ((a2n : Nat) : Int))) - Int.toNat ((0 : Nat) : Int)) : Nat) : Int) ≤ (((a0c - Int.toNat ((0 : Nat) : Int)) : Nat) : Int)) ∧ (0 ≤ a1 ∧ a1 ≤ (((Int.toNat (IntKind.wrap .i64 (((a0n : Nat) : Int) + ((a2n : Nat) : Int))) - Int.toNat ((0 : Nat) : Int)) : Nat) : Int) ∧ (((Int.toNat (IntKind.wrap .i64 (((a0n : Nat) : Int) + ((a2n : Nat) : Int))) - Int.toNat ((0 : Nat) : Int)) : Nat) : Int) ≤ (((a0c - Int.toNat ((0 : Nat) : Int)) : Nat) : Int)) ∧ RunR Try.prog (Builtin.copy_ #[23, 23] 3 #[.slice (cutAt 1 (a0c - Int.toNat ((0 : Nat) : Int)) (Int.toNat (IntKind.wrap .i64 (a1 + ((a2n : Nat) : Int)))) (cutAt 1 a0c (Int.toNat ((0 : Nat) : Int)) a0p)) (Int.toNat (((Int.toNat (IntKind.wrap .i64 (((a0n : Nat) : Int) + ((a2n : Nat) : Int))) - Int.toNat ((0 : Nat) : Int)) : Nat) : Int) - Int.toNat (IntKind.wrap .i64 (a1 + ((a2n : Nat) : Int)))) ((a0c - Int.toNat ((0 : Nat) : Int)) - Int.toNat (IntKind.wrap .i64 (a1 + ((a2n : Nat) : Int)))), .slice (cutAt 1 (a0c - Int.toNat ((0 : Nat) : Int)) (Int.toNat a1) (cutAt 1 a0c (Int.toNat ((0 : Nat) : Int)) a0p)) (Int.toNat (((Int.toNat (IntKind.wrap .i64 (((a0n : Nat) : Int) + ((a2n : Nat) : Int))) - Int.toNat ((0 : Nat) : Int)) : Nat) : Int) - Int.toNat a1) ((a0c - Int.toNat ((0 : Nat) : Int)) - Int.toNat a1)]) w17 fun v18 w19 => ∃ y20 : Int, v18 = .int .i64 y20 ∧ (0 ≤ a1 ∧ a1 ≤ (((Int.toNat (IntKind.wrap .i64 (((a0n : Nat) : Int) + ((a2n : Nat) : Int))) - Int.toNat ((0 : Nat) : Int)) : Nat) : Int) ∧ (((Int.toNat (IntKind.wrap .i64 (((a0n : Nat) : Int) + ((a2n : Nat) : Int))) - Int.toNat ((0 : Nat) : Int)) : Nat) : Int) ≤ (((a0c - Int.toNat ((0 : Nat) : Int)) : Nat) : Int)) ∧ RunR Try.prog (Builtin.copy_ #[23, 23] 3 #[.slice (cutAt 1 (a0c - Int.toNat ((0 : Nat) : Int)) (Int.toNat a1) (cutAt 1 a0c (Int.toNat ((0 : Nat) : Int)) a0p)) (Int.toNat (((Int.toNat (IntKind.wrap .i64 (((a0n : Nat) : Int) + ((a2n : Nat) : Int))) - Int.toNat ((0 : Nat) : Int)) : Nat) : Int) - Int.toNat a1) ((a0c - Int.toNat ((0 : Nat) : Int)) - Int.toNat a1), .slice a2p a2n a2c]) w19 fun v21 w22 => ∃ y23 : Int, v21 = .int .i64 y23 ∧ Q (.slice (cutAt 1 a0c (Int.toNat ((0 : Nat) : Int)) a0p) (Int.toNat (IntKind.wrap .i64 (((a0n : Nat) : Int) + ((a2n : Nat) : Int))) - Int.toNat ((0 : Nat) : Int)) (a0c - Int.toNat ((0 : Nat) : Int))) w22) ((0 ≤ ((a0n : Nat) : Int) ∧ ((a0n : Nat) : Int) ≤ (((Int.toNat (IntKind.wrap .i64 (((a0n : Nat) : Int) + ((a2n : Nat) : Int))) - Int.toNat ((0 : Nat) : Int)) : Nat) : Int) ∧ (((Int.toNat (IntKind.wrap .i64 (((a0n : Nat) : Int) + ((a2n : Nat) : Int))) - Int.toNat ((0 : Nat) : Int)) : Nat) : Int) ≤ (((a0c - Int.toNat ((0 : Nat) : Int)) : Nat) : Int)) ∧ RunR Try.prog (Builtin.copy_ #[23, 23] 3 #[.slice (cutAt 1 (a0c - Int.toNat ((0 : Nat) : Int)) (Int.toNat ((a0n : Nat) : Int)) (cutAt 1 a0c (Int.toNat ((0 : Nat) : Int)) a0p)) (Int.toNat (((Int.toNat (IntKind.wrap .i64 (((a0n : Nat) : Int) + ((a2n : Nat) : Int))) - Int.toNat ((0 : Nat) : Int)) : Nat) : Int) - Int.toNat ((a0n : Nat) : Int)) ((a0c - Int.toNat ((0 : Nat) : Int)) - Int.toNat ((a0n : Nat) : Int)), .slice a2p a2n a2c]) w15 fun v24 w25 => ∃ y26 : Int, v24 = .int .i64 y26 ∧ (0 ≤ a1 ∧ a1 ≤ (((Int.toNat (IntKind.wrap .i64 (((a0n : Nat) : Int) + ((a2n : Nat) : Int))) - Int.toNat ((0 : Nat) : Int)) : Nat) : Int) ∧ (((Int.toNat (IntKind.wrap .i64 (((a0n : Nat) : Int) + ((a2n : Nat) : Int))) - Int.toNat ((0 : Nat) : Int)) : Nat) : Int) ≤ (((a0c - Int.toNat ((0 : Nat) : Int)) : Nat) : Int)) ∧ CallR Try.prog 57 #[.slice (cutAt 1 (a0c - Int.toNat ((0 : Nat) : Int)) (Int.toNat a1) (cutAt 1 a0c (Int.toNat ((0 : Nat) : Int)) a0p)) (Int.toNat (((Int.toNat (IntKind.wrap .i64 (((a0n : Nat) : Int) + ((a2n : Nat) : Int))) - Int.toNat ((0 : Nat) : Int)) : Nat) : Int) - Int.toNat a1) ((a0c - Int.toNat ((0 : Nat) : Int)) - Int.toNat a1), .int .i64 ((a2n : Nat) : Int)] w25 fun v27 w28 => v27 = .tuple #[] ∧ Q (.slice (cutAt 1 a0c (Int.toNat ((0 : Nat) : Int)) a0p) (Int.toNat (IntKind.wrap .i64 (((a0n : Nat) : Int) + ((a2n : Nat) : Int))) - Int.toNat ((0 : Nat) : Int)) (a0c - Int.toNat ((0 : Nat) : Int))) w28))))
def X42.S (Q : Value → World → Prop) : Segs
  | _, _, _, _ => False
noncomputable def X42.an : Ann := (.seq .leaf (.seq .leaf (.seq .leaf (.seq (.seq .leaf (.cond (.seq .leaf .leaf) .leaf)) (.seq .leaf (.seq (.seq .leaf (.cond (.seq .leaf .leaf) .leaf)) (.seq (.seq .leaf (.cond (.seq .leaf (.seq .leaf (.seq (.draw [0, 0, 0, 6, 15, 0, 0, 96, 255] [[0, 1, 2, 3, 4, 5, 6, 7, 8]]) (.seq .leaf .leaf)))) .leaf)) (.seq .leaf (.seq (.seq .leaf (.cond (.seq (.draw [0, 0, 0, 6, 15, 0, 0, 96, 255] [[0, 1, 2, 3, 4, 5, 6, 7, 8]]) (.seq .leaf (.seq .leaf .leaf))) .leaf)) (.seq .leaf (.seq .leaf (.seq .leaf .leaf))))))))))))
noncomputable def X42.c : Code := Try.f42.body.getD .skip
theorem X42.v (Q : Value → World → Prop) : V Try.prog (X42.S Q) X42.an X42.c (retC Try.prog Try.f42 Q) := ⟨trivial, ⟨trivial, ⟨trivial, ⟨⟨trivial, ⟨⟨trivial, trivial⟩, trivial⟩⟩, ⟨trivial, ⟨⟨trivial, ⟨⟨trivial, trivial⟩, trivial⟩⟩, ⟨⟨trivial, ⟨⟨trivial, ⟨trivial, ⟨trivial, ⟨trivial, trivial⟩⟩⟩⟩, trivial⟩⟩, ⟨trivial, ⟨⟨trivial, ⟨⟨trivial, ⟨trivial, ⟨trivial, trivial⟩⟩⟩, trivial⟩⟩, ⟨trivial, ⟨trivial, ⟨trivial, trivial⟩⟩⟩⟩⟩⟩⟩⟩⟩⟩⟩⟩
theorem X42.sound (a0p : Option Addr) (a0n : Nat) (a0c : Nat) (a1 : Int) (a2p : Option Addr) (a2n : Nat) (a2c : Nat) (w : World) (Q : Value → World → Prop) (h : X42.f a0p a0n a0c a1 a2p a2n a2c w Q) : CallR Try.prog 42 #[.slice a0p a0n a0c, .int .i64 a1, .slice a2p a2n a2c] w Q :=
  fn_sound noGr mixed Try.func42 (c := X42.c) (an := X42.an) (S := X42.S Q) (φ := fun _ => 0) (args := [.slice a0p a0n a0c, .int .i64 a1, .slice a2p a2n a2c]) (by kernel_rfl) (by kernel_rfl) (by kernel_rfl) (X42.v Q) (Eq.mp (by kernel_rfl) h)
/-! ### slices.BinarySearch[[]uint64,uint64]: function 43 -/
def X43.l0 (Q : Value → World → Prop) : Nat → (Option Addr) → Nat → Nat → Int → Int → Int → Int → World → Prop
  | 0, _, _, _, _, _, _, _, _ => False
  | k + 1, t0p, t0n, t0c, t1, t6, t7, t8, w => bcase (decide (t7 < t8)) (0 ≤ (1 : Int) ∧ (0 ≤ (IntKind.wrap .i64 (iShr .u64 (IntKind.wrap .u64 (IntKind.wrap .i64 (t7 + t8))) (1 : Int))) ∧ (IntKind.wrap .i64 (iShr .u64 (IntKind.wrap .u64 (IntKind.wrap .i64 (t7 + t8))) (1 : Int))) < ((t0n : Nat) : Int)) ∧ optP t0p fun p1 => ldI .u64 w (p1.add (Int.toNat (IntKind.wrap .i64 (iShr .u64 (IntKind.wrap .u64 (IntKind.wrap .i64 (t7 + t8))) (1 : Int))) * 1)) fun x2 => CallR Try.prog 58 #[.int .u64 x2, .int .u64 t1] w fun v3 w4 => ∃ (y5 : Bool), v3 = .bool y5 ∧ bcase y5 (X43.l0 Q k t0p t0n t0c t1 t6 (IntKind.wrap .i64 ((IntKind.wrap .i64 (iShr .u64 (IntKind.wrap .u64 (IntKind.wrap .i64 (t7 + t8))) (1 : Int))) + (1 : Int))) t8 w4) (X43.l0 Q k t0p t0n t0c t1 t6 t7 (IntKind.wrap .i64 (iShr .u64 (IntKind.wrap .u64 (IntKind.wrap .i64 (t7 + t8))) (1 : Int))) w4)) (bcase (decide (t7 < t6)) ((0 ≤ t7 ∧ t7 < ((t0n : Nat) : Int)) ∧ optP t0p fun p6 => ldI .u64 w (p6.add (Int.toNat t7 * 1)) fun x7 => bcase (x7 == t1) (Q (.tuple #[.int .i64 t7, .bool true]) w) ((0 ≤ t7 ∧ t7 < ((t0n : Nat) : Int)) ∧ optP t0p fun p8 => ldI .u64 w (p8.add (Int.toNat t7 * 1)) fun x9 => CallR Try.prog 59 #[.int .u64 x9] w fun v10 w11 => ∃ (y12 : Bool), v10 = .bool y12 ∧ bcase y12 (CallR Try.prog 59 #[.int .u64 t1] w11 fun v13 w14 => ∃ (y15 : Bool), v13 = .bool y15 ∧ Q (.tuple #[.int .i64 t7, .bool y15]) w14) (Q (.tuple #[.int .i64 t7, .bool false]) w11))) (Q (.tuple #[.int .i64 t7, .bool false]) w))
def X43.f (a0p : Option Addr) (a0n : Nat) (a0c : Nat) (a1 : Int) (w : World) (Q : Value → World → Prop) : Prop := ∃ m1, X43.l0 Q m1 a0p a0n a0c a1 ((a0n : Nat) : Int) (0 : Int) ((a0n : Nat) : Int) w
def X43.S (Q : Value → World → Prop) : Segs
  | 0, φ, ρ, w => qSl (ρ 0) fun t0p t0n t0c => qI .u64 (ρ 1) fun t1 => qI .i64 (ρ 6) fun t6 => qI .i64 (ρ 7) fun t7 => qI .i64 (ρ 8) fun t8 => X43.l0 Q (φ 0) t0p t0n t0c t1 t6 t7 t8 w
  | _, _, _, _ => False
noncomputable def X43.an : Ann := (.seq .leaf (.seq .leaf (.seq .leaf (.seq (.block (.loop 0 (.seq (.seq .leaf (.cond .leaf .leaf)) (.block (.seq .leaf (.seq .leaf (.cond .leaf .leaf))))))) (.seq .leaf .leaf)))))
noncomputable def X43.c : Code := Try.f43.body.getD .skip
theorem X43.v (Q : Value → World → Prop) : V Try.prog (X43.S Q) X43.an X43.c (retC Try.prog Try.f43 Q) := ⟨trivial, ⟨trivial, ⟨trivial, ⟨⟨(by
    intro φ ρ w h
    simp only [X43.S] at h
    obtain ⟨t0p, t0n, t0c, e0, h⟩ := qSl_elim h
    obtain ⟨t1, e1, h⟩ := qI_elim h
    obtain ⟨t6, e6, h⟩ := qI_elim h
    obtain ⟨t7, e7, h⟩ := qI_elim h
    obtain ⟨t8, e8, h⟩ := qI_elim h
    cases hk : φ 0 with
    | zero => rw [hk] at h; exact h.elim
    | succ k => rw [hk] at h; exact ⟨k, Nat.lt_succ_self k, (((((Env.nil.put (some 0) (.slice t0p t0n t0c)).put (some 1) (.int .u64 t1)).put (some 6) (.int .i64 t6)).put (some 7) (.int .i64 t7)).put (some 8) (.int .i64 t8)), Env.le_put e8 (Env.le_put e7 (Env.le_put e6 (Env.le_put e1 (Env.le_put e0 (Env.le_nil _))))), Eq.mp (by kernel_rfl) h⟩), ⟨⟨trivial, ⟨trivial, trivial⟩⟩, ⟨trivial, ⟨trivial, ⟨trivial, trivial⟩⟩⟩⟩⟩, ⟨trivial, trivial⟩⟩⟩⟩⟩
theorem X43.sound (a0p : Option Addr) (a0n : Nat) (a0c : Nat) (a1 : Int) (w : World) (Q : Value → World → Prop) (h : X43.f a0p a0n a0c a1 w Q) : CallR Try.prog 43 #[.slice a0p a0n a0c, .int .u64 a1] w Q :=
  fn_sound noGr mixed Try.func43 (c := X43.c) (an := X43.an) (S := X43.S Q) (φ := fun _ => 0) (args := [.slice a0p a0n a0c, .int .u64 a1]) (by kernel_rfl) (by kernel_rfl) (by kernel_rfl) (X43.v Q) (Eq.mp (by kernel_rfl) h)
/-! ### slices.Insert[[]uint64,uint64]: function 44 -/
def X44.f (a0p : Option Addr) (a0n : Nat) (a0c : Nat) (a1 : Int) (a2p : Option Addr) (a2n : Nat) (a2c : Nat) (w : World) (Q : Value → World → Prop) : Prop := (0 ≤ a1 ∧ a1 ≤ ((a0n : Nat) : Int) ∧ ((a0n : Nat) : Int) ≤ ((a0c : Nat) : Int)) ∧ bcase (((a2n : Nat) : Int) == (0 : Int)) (Q (.slice a0p a0n a0c) w) (bcase (a1 == ((a0n : Nat) : Int)) (RunR Try.prog (Builtin.append_ #[35, 35] 35 #[.slice a0p a0n a0c, .slice a2p a2n a2c]) w fun v1 w2 => ∃ (s3p : Option Addr) (s3n s3c : Nat), v1 = .slice s3p s3n s3c ∧ Q (.slice s3p s3n s3c) w2) (bcase (decide ((IntKind.wrap .i64 (((a0n : Nat) : Int) + ((a2n : Nat) : Int))) > ((a0c : Nat) : Int))) ((0 ≤ ((0 : Nat) : Int) ∧ ((0 : Nat) : Int) ≤ a1 ∧ a1 ≤ ((a0c : Nat) : Int)) ∧ RunR Try.prog (Builtin.append_ #[35, 3] 35 #[.slice (cutAt 1 a0c (Int.toNat ((0 : Nat) : Int)) a0p) (Int.toNat a1 - Int.toNat ((0 : Nat) : Int)) (a0c - Int.toNat ((0 : Nat) : Int)), .int .i64 (IntKind.wrap .i64 ((IntKind.wrap .i64 (((a0n : Nat) : Int) + ((a2n : Nat) : Int))) - a1))]) w fun v4 w5 => ∃ (s6p : Option Addr) (s6n s6c : Nat), v4 = .slice s6p s6n s6c ∧ (0 ≤ a1 ∧ a1 ≤ ((s6n : Nat) : Int) ∧ ((s6n : Nat) : Int) ≤ ((s6c : Nat) : Int)) ∧ RunR Try.prog (Builtin.copy_ #[35, 35] 3 #[.slice (cutAt 1 s6c (Int.toNat a1) s6p) (Int.toNat ((s6n : Nat) : Int) - Int.toNat a1) (s6c - Int.toNat a1), .slice a2p a2n a2c]) w5 fun v7 w8 => ∃ y9 : Int, v7 = .int .i64 y9 ∧ drewK w8 fun w10 => (0 ≤ (IntKind.wrap .i64 (a1 + ((a2n : Nat) : Int))) ∧ (IntKind.wrap .i64 (a1 + ((a2n : Nat) : Int))) ≤ ((s6n : Nat) : Int) ∧ ((s6n : Nat) : Int) ≤ ((s6c : Nat) : Int)) ∧ (0 ≤ a1 ∧ a1 ≤ ((a0n : Nat) : Int) ∧ ((a0n : Nat) : Int) ≤ ((a0c : Nat) : Int)) ∧ RunR Try.prog (Builtin.copy_ #[35, 35] 3 #[.slice (cutAt 1 s6c (Int.toNat (IntKind.wrap .i64 (a1 + ((a2n : Nat) : Int)))) s6p) (Int.toNat ((s6n : Nat) : Int) - Int.toNat (IntKind.wrap .i64 (a1 + ((a2n : Nat) : Int)))) (s6c - Int.toNat (IntKind.wrap .i64 (a1 + ((a2n : Nat) : Int)))), .slice (cutAt 1 a0c (Int.toNat a1) a0p) (Int.toNat ((a0n : Nat) : Int) - Int.toNat a1) (a0c - Int.toNat a1)]) w10 fun v11 w12 => ∃ y13 : Int, v11 = .int .i64 y13 ∧ Q (.slice s6p s6n s6c) w12) ((0 ≤ ((0 : Nat) : Int) ∧ ((0 : Nat) : Int) ≤ (IntKind.wrap .i64 (((a0n : Nat) : Int) + ((a2n : Nat) : Int))) ∧ (IntKind.wrap .i64 (((a0n : Nat) : Int) + ((a2n : Nat) : Int))) ≤ ((a0c : Nat) : Int)) ∧ (0 ≤ (IntKind.wrap .i64 (a1 + ((a2n : Nat) : Int))) ∧ (IntKind.wrap .i64 (a1 + ((a2n : Nat) : Int))) ≤ (((Int.toNat (IntKind.wrap .i64 (((a0n : Nat) : Int) + ((a2n : Nat) : Int))) - Int.toNat ((0 : Nat) : Int)) : Nat) : Int) ∧ (((Int.toNat (IntKind.wrap .i64 (((a0n : Nat) : Int) + ((a2n : Nat) : Int))) - Int.toNat ((0 : Nat) : Int)) : Nat) : Int) ≤ (((a0c - Int.toNat ((0 : Nat) : Int)) : Nat) : Int)) ∧ ExtR Try.prog 60 #[.slice a2p a2n a2c, .slice (cutAt 1 (a0c - Int.toNat ((0 : Nat) : Int)) (Int.toNat (IntKind.wrap .i64 (a1 + ((a2n : Nat) : Int)))) (cutAt 1 a0c (Int.toNat ((0 : Nat) : Int)) a0p)) (Int.toNat (((Int.toNat (IntKind.wrap .i64 (((a0n : Nat) : Int) + ((a2n : Nat) : Int))) - Int.toNat ((0 : Nat) : Int)) : Nat) : Int) - Int.toNat (IntKind.wrap .i64 (a1 + ((a2n : Nat) : Int)))) ((a0c - Int.toNat ((0 : Nat) : Int)) - Int.toNat (IntKind.wrap .i64 (a1 + ((a2n : Nat) : Int))))] w fun v14 w15 => ∃ (y16 : Bool), v14 = .bool y16 ∧ bcase (!y16) (drewK w15 fun w17 => (0 ≤ (IntKind.wrap .i64 (a1 + ((a2n : Nat) : Int))) ∧ (IntKind.wrap .i64 (a1 + ((a2n : Nat) : Int))) ≤ (((Int.toNat (IntKind.wrap .i64 (((a0n : Nat) : Int) + ((a2n : Nat) : Int))) - Int.toNat ((0 : Nat) : Int)) : Nat) : Int) ∧ (((Int.toNat (IntKind.wrap .i64 (((a0n : Nat) : Int) + ((a2n : Nat) : Int))) - Int.toNat ((0 : Nat) : Int)) : Nat) : Int) ≤ (((a0c - Int.toNat ((0 : Nat) : Int)) : Nat) : Int)) ∧ (0 ≤ a1 ∧ a1 ≤ (((Int.toNat (IntKind.wrap .i64 (((a0n : Nat) : Int) + ((a2n : Nat) : Int))) - Int.toNat ((0 : Nat) : Int)) : Nat) : Int) ∧ (((Int.toNat (IntKind.wrap .i64 (((a0n : Nat) : Int) + ((a2n : Nat) : Int))) - Int.toNat ((0 : Nat) : Int)) : Nat) : Int) ≤ (((a0c - Int.toNat ((0 : Nat) : Int)) : Nat) : Int)) ∧ RunR Try.prog (Builtin.copy_ #[35, 35] 3 #[.slice (cutAt 1 (a0c - Int.toNat ((0 : Nat) : Int)) (Int.toNat (IntKind.wrap .i64 (a1 + ((a2n : Nat) : Int)))) (cutAt 1 a0c (Int.toNat ((0 : Nat) : Int)) a0p)) (Int.toNat (((Int.toNat (IntKind.wrap .i64 (((a0n : Nat) : Int) + ((a2n : Nat) : Int))) - Int.toNat ((0 : Nat) : Int)) : Nat) : Int) - Int.toNat (IntKind.wrap .i64 (a1 + ((a2n : Nat) : Int)))) ((a0c - Int.toNat ((0 : Nat) : Int)) - Int.toNat (IntKind.wrap .i64 (a1 + ((a2n : Nat) : Int)))), .slice (cutAt 1 (a0c - Int.toNat ((0 : Nat) : Int)) (Int.toNat a1) (cutAt 1 a0c (Int.toNat ((0 : Nat) : Int)) a0p)) (Int.toNat (((Int.toNat (IntKind.wrap .i64 (((a0n : Nat) : Int) + ((a2n : Nat) : Int))) - Int.toNat ((0 : Nat) : Int)) : Nat) : Int) - Int.toNat a1) ((a0c - Int.toNat ((0 : Nat) : Int)) - Int.toNat a1)]) w17 fun v18 w19 => ∃ y20 : Int, v18 = .int .i64 y20 ∧ (0 ≤ a1 ∧ a1 ≤ (((Int.toNat (IntKind.wrap .i64 (((a0n : Nat) : Int) + ((a2n : Nat) : Int))) - Int.toNat ((0 : Nat) : Int)) : Nat) : Int) ∧ (((Int.toNat (IntKind.wrap .i64 (((a0n : Nat) : Int) + ((a2n : Nat) : Int))) - Int.toNat ((0 : Nat) : Int)) : Nat) : Int) ≤ (((a0c - Int.toNat ((0 : Nat) : Int)) : Nat) : Int)) ∧ RunR Try.prog (Builtin.copy_ #[35, 35] 3 #[.slice (cutAt 1 (a0c - Int.toNat ((0 : Nat) : Int)) (Int.toNat a1) (cutAt 1 a0c (Int.toNat ((0 : Nat) : Int)) a0p)) (Int.toNat (((Int.toNat (IntKind.wrap .i64 (((a0n : Nat) : Int) + ((a2n : Nat) : Int))) - Int.toNat ((0 : Nat) : Int)) : Nat) : Int) - Int.toNat a1) ((a0c - Int.toNat ((0 : Nat) : Int)) - Int.toNat a1), .slice a2p a2n a2c]) w19 fun v21 w22 => ∃ y23 : Int, v21 = .int .i64 y23 ∧ Q (.slice (cutAt 1 a0c (Int.toNat ((0 : Nat) : Int)) a0p) (Int.toNat (IntKind.wrap .i64 (((a0n : Nat) : Int) + ((a2n : Nat) : Int))) - Int.toNat ((0 : Nat) : Int)) (a0c - Int.toNat ((0 : Nat) : Int))) w22) ((0 ≤ ((a0n : Nat) : Int) ∧ ((a0n : Nat) : Int) ≤ (((Int.toNat (IntKind.wrap .i64 (((a0n : Nat) : Int) + ((a2n : Nat) : Int))) - Int.toNat ((0 : Nat) : Int)) : Nat) : Int) ∧ (((Int.toNat (IntKind.wrap .i64 (((a0n : Nat) : Int) + ((a2n : Nat) : Int))) - Int.toNat ((0 : Nat) : Int)) : Nat) : Int) ≤ (((a0c - Int.toNat ((0 : Nat) : Int)) : Nat) : Int)) ∧ RunR Try.prog (Builtin.copy_ #[35, 35] 3 #[.slice (cutAt 1 (a0c - Int.toNat ((0 : Nat) : Int)) (Int.toNat ((a0n : Nat) : Int)) (cutAt 1 a0c (Int.toNat ((0 : Nat) : Int)) a0p)) (Int.toNat (((Int.toNat (IntKind.wrap .i64 (((a0n : Nat) : Int) + ((a2n : Nat) : Int))) - Int.toNat ((0 : Nat) : Int)) : Nat) : Int) - Int.toNat ((a0n : Nat) : Int)) ((a0c - Int.toNat ((0 : Nat) : Int)) - Int.toNat ((a0n : Nat) : Int)), .slice a2p a2n a2c]) w15 fun v24 w25 => ∃ y26 : Int, v24 = .int .i64 y26 ∧ (0 ≤ a1 ∧ a1 ≤ (((Int.toNat (IntKind.wrap .i64 (((a0n : Nat) : Int) + ((a2n : Nat) : Int))) - Int.toNat ((0 : Nat) : Int)) : Nat) : Int) ∧ (((Int.toNat (IntKind.wrap .i64 (((a0n : Nat) : Int) + ((a2n : Nat) : Int))) - Int.toNat ((0 : Nat) : Int)) : Nat) : Int) ≤ (((a0c - Int.toNat ((0 : Nat) : Int)) : Nat) : Int)) ∧ CallR Try.prog 61 #[.slice (cutAt 1 (a0c - Int.toNat ((0 : Nat) : Int)) (Int.toNat a1) (cutAt 1 a0c (Int.toNat ((0 : Nat) : Int)) a0p)) (Int.toNat (((Int.toNat (IntKind.wrap .i64 (((a0n : Nat) : Int) + ((a2n : Nat) : Int))) - Int.toNat ((0 : Nat) : Int)) : Nat) : Int) - Int.toNat a1) ((a0c - Int.toNat ((0 : Nat) : Int)) - Int.toNat a1), .int .i64 ((a2n : Nat) : Int)] w25 fun v27 w28 => v27 = .tuple #[] ∧ Q (.slice (cutAt 1 a0c (Int.toNat ((0 : Nat) : Int)) a0p) (Int.toNat (IntKind.wrap .i64 (((a0n : Nat) : Int) + ((a2n : Nat) : Int))) - Int.toNat ((0 : Nat) : Int)) (a0c - Int.toNat ((0 : Nat) : Int))) w28))))
def X44.S (Q : Value → World → Prop) : Segs
  | _, _, _, _ => False
noncomputable def X44.an : Ann := (.seq .leaf (.seq .leaf (.seq .leaf (.seq (.seq .leaf (.cond (.seq .leaf .leaf) .leaf)) (.seq .leaf (.seq (.seq .leaf (.cond (.seq .leaf .leaf) .leaf)) (.seq (.seq .leaf (.cond (.seq .leaf (.seq .leaf (.seq (.draw [0, 0, 0, 6, 15, 0, 0, 96, 255] [[0, 1, 2, 3, 4, 5, 6, 7, 8]]) (.seq .leaf .leaf)))) .leaf)) (.seq .leaf (.seq (.seq .leaf (.cond (.seq (.draw [0, 0, 0, 6, 15, 0, 0, 96, 255] [[0, 1, 2, 3, 4, 5, 6, 7, 8]]) (.seq .leaf (.seq .leaf .leaf))) .leaf)) (.seq .leaf (.seq .leaf (.seq .leaf .leaf))))))))))))
noncomputable def X44.c : Code := Try.f44.body.getD .skip
theorem X44.v (Q : Value → World → Prop) : V Try.prog (X44.S Q) X44.an X44.c (retC Try.prog Try.f44 Q) := ⟨trivial, ⟨trivial, ⟨trivial, ⟨⟨trivial, ⟨⟨trivial, trivial⟩, trivial⟩⟩, ⟨trivial, ⟨⟨trivial, ⟨⟨trivial, trivial⟩, trivial⟩⟩, ⟨⟨trivial, ⟨⟨trivial, ⟨trivial, ⟨trivial, ⟨trivial, trivial⟩⟩⟩⟩, trivial⟩⟩, ⟨trivial, ⟨⟨trivial, ⟨⟨trivial, ⟨trivial, ⟨trivial, trivial⟩⟩⟩, trivial⟩⟩, ⟨trivial, ⟨trivial, ⟨trivial, trivial⟩⟩⟩⟩⟩⟩⟩⟩⟩⟩⟩⟩
theorem X44.sound (a0p : Option Addr) (a0n : Nat) (a0c : Nat) (a1 : Int) (a2p : Option Addr) (a2n : Nat) (a2c : Nat) (w : World) (Q : Value → World → Prop) (h : X44.f a0p a0n a0c a1 a2p a2n a2c w Q) : CallR Try.prog 44 #[.slice a0p a0n a0c, .int .i64 a1, .slice a2p a2n a2c] w Q :=
  fn_sound noGr mixed Try.func44 (c := X44.c) (an := X44.an) (S := X44.S Q) (φ := fun _ => 0) (args := [.slice a0p a0n a0c, .int .i64 a1, .slice a2p a2n a2c]) (by kernel_rfl) (by kernel_rfl) (by kernel_rfl) (X44.v Q) (Eq.mp (by kernel_rfl) h)
/-! ### slices.Delete[[]uint64,uint64]: function 45 -/
def X45.f (a0p : Option Addr) (a0n : Nat) (a0c : Nat) (a1 : Int) (a2 : Int) (w : World) (Q : Value → World → Prop) : Prop := RunR Try.prog (Instr.sliceAt 35 (.slice a0p a0n a0c) (some (.int .i64 a1)) (some (.int .i64 a2)) (some (.int .i64 ((a0n : Nat) : Int)))) w fun v1 w2 => ∃ (s3p : Option Addr) (s3n s3c : Nat), v1 = .slice s3p s3n s3c ∧ bcase (a1 == a2) (Q (.slice a0p a0n a0c) w2) (drewK w2 fun w4 => (0 ≤ ((0 : Nat) : Int) ∧ ((0 : Nat) : Int) ≤ a1 ∧ a1 ≤ ((a0c : Nat) : Int)) ∧ (0 ≤ a2 ∧ a2 ≤ ((a0n : Nat) : Int) ∧ ((a0n : Nat) : Int) ≤ ((a0c : Nat) : Int)) ∧ RunR Try.prog (Builtin.append_ #[35, 35] 35 #[.slice (cutAt 1 a0c (Int.toNat ((0 : Nat) : Int)) a0p) (Int.toNat a1 - Int.toNat ((0 : Nat) : Int)) (a0c - Int.toNat ((0 : Nat) : Int)), .slice (cutAt 1 a0c (Int.toNat a2) a0p) (Int.toNat ((a0n : Nat) : Int) - Int.toNat a2) (a0c - Int.toNat a2)]) w4 fun v5 w6 => ∃ (s7p : Option Addr) (s7n s7c : Nat), v5 = .slice s7p s7n s7c ∧ (0 ≤ ((s7n : Nat) : Int) ∧ ((s7n : Nat) : Int) ≤ ((a0n : Nat) : Int) ∧ ((a0n : Nat) : Int) ≤ ((s7c : Nat) : Int)) ∧ RunR Try.prog (Builtin.clear_ #[35] 0 #[.slice (cutAt 1 s7c (Int.toNat ((s7n : Nat) : Int)) s7p) (Int.toNat ((a0n : Nat) : Int) - Int.toNat ((s7n : Nat) : Int)) (s7c - Int.toNat ((s7n : Nat) : Int))]) w6 fun v8 w9 => v8 = .tuple #[] ∧ Q (.slice s7p s7n s7c) w9)
def X45.S (Q : Value → World → Prop) : Segs
  | _, _, _, _ => False
noncomputable def X45.an : Ann := (.seq .leaf (.seq .leaf (.seq (.seq .leaf (.cond (.seq .leaf .leaf) .leaf)) (.seq .leaf (.seq (.draw [0, 0, 3, 0, 0, 24, 63, 127] [[0, 1, 2, 3, 4, 5, 6, 7]]) (.seq .leaf (.seq .leaf .leaf)))))))
noncomputable def X45.c : Code := Try.f45.body.getD .skip
theorem X45.v (Q : Value → World → Prop) : V Try.prog (X45.S Q) X45.an X45.c (retC Try.prog Try.f45 Q) := ⟨trivial, ⟨trivial, ⟨⟨trivial, ⟨⟨trivial, trivial⟩, trivial⟩⟩, ⟨trivial, ⟨trivial, ⟨trivial, ⟨trivial, trivial⟩⟩⟩⟩⟩⟩⟩
theorem X45.sound (a0p : Option Addr) (a0n : Nat) (a0c : Nat) (a1 : Int) (a2 : Int) (w : World) (Q : Value → World → Prop) (h : X45.f a0p a0n a0c a1 a2 w Q) : CallR Try.prog 45 #[.slice a0p a0n a0c, .int .i64 a1, .int .i64 a2] w Q :=
  fn_sound noGr mixed Try.func45 (c := X45.c) (an := X45.an) (S := X45.S Q) (φ := fun _ => 0) (args := [.slice a0p a0n a0c, .int .i64 a1, .int .i64 a2]) (by kernel_rfl) (by kernel_rfl) (by kernel_rfl) (X45.v Q) (Eq.mp (by kernel_rfl) h)
/-! ### slices.Delete[[]int,int]: function 46 -/
def X46.f (a0p : Option Addr) (a0n : Nat) (a0c : Nat) (a1 : Int) (a2 : Int) (w : World) (Q : Value → World → Prop) : Prop := RunR Try.prog (Instr.sliceAt 23 (.slice a0p a0n a0c) (some (.int .i64 a1)) (some (.int .i64 a2)) (some (.int .i64 ((a0n : Nat) : Int)))) w fun v1 w2 => ∃ (s3p : Option Addr) (s3n s3c : Nat), v1 = .slice s3p s3n s3c ∧ bcase (a1 == a2) (Q (.slice a0p a0n a0c) w2) (drewK w2 fun w4 => (0 ≤ ((0 : Nat) : Int) ∧ ((0 : Nat) : Int) ≤ a1 ∧ a1 ≤ ((a0c : Nat) : Int)) ∧ (0 ≤ a2 ∧ a2 ≤ ((a0n : Nat) : Int) ∧ ((a0n : Nat) : Int) ≤ ((a0c : Nat) : Int)) ∧ RunR Try.prog (Builtin.append_ #[23, 23] 23 #[.slice (cutAt 1 a0c (Int.toNat ((0 : Nat) : Int)) a0p) (Int.toNat a1 - Int.toNat ((0 : Nat) : Int)) (a0c - Int.toNat ((0 : Nat) : Int)), .slice (cutAt 1 a0c (Int.toNat a2) a0p) (Int.toNat ((a0n : Nat) : Int) - Int.toNat a2) (a0c - Int.toNat a2)]) w4 fun v5 w6 => ∃ (s7p : Option Addr) (s7n s7c : Nat), v5 = .slice s7p s7n s7c ∧ (0 ≤ ((s7n : Nat) : Int) ∧ ((s7n : Nat) : Int) ≤ ((a0n : Nat) : Int) ∧ ((a0n : Nat) : Int) ≤ ((s7c : Nat) : Int)) ∧ RunR Try.prog (Builtin.clear_ #[23] 0 #[.slice (cutAt 1 s7c (Int.toNat ((s7n : Nat) : Int)) s7p) (Int.toNat ((a0n : Nat) : Int) - Int.toNat ((s7n : Nat) : Int)) (s7c - Int.toNat ((s7n : Nat) : Int))]) w6 fun v8 w9 => v8 = .tuple #[] ∧ Q (.slice s7p s7n s7c) w9)
def X46.S (Q : Value → World → Prop) : Segs
  | _, _, _, _ => False
noncomputable def X46.an : Ann := (.seq .leaf (.seq .leaf (.seq (.seq .leaf (.cond (.seq .leaf .leaf) .leaf)) (.seq .leaf (.seq (.draw [0, 0, 3, 0, 0, 24, 63, 127] [[0, 1, 2, 3, 4, 5, 6, 7]]) (.seq .leaf (.seq .leaf .leaf)))))))
noncomputable def X46.c : Code := Try.f46.body.getD .skip
theorem X46.v (Q : Value → World → Prop) : V Try.prog (X46.S Q) X46.an X46.c (retC Try.prog Try.f46 Q) := ⟨trivial, ⟨trivial, ⟨⟨trivial, ⟨⟨trivial, trivial⟩, trivial⟩⟩, ⟨trivial, ⟨trivial, ⟨trivial, ⟨trivial, trivial⟩⟩⟩⟩⟩⟩⟩
theorem X46.sound (a0p : Option Addr) (a0n : Nat) (a0c : Nat) (a1 : Int) (a2 : Int) (w : World) (Q : Value → World → Prop) (h : X46.f a0p a0n a0c a1 a2 w Q) : CallR Try.prog 46 #[.slice a0p a0n a0c, .int .i64 a1, .int .i64 a2] w Q :=
  fn_sound noGr mixed Try.func46 (c := X46.c) (an := X46.an) (S := X46.S Q) (φ := fun _ => 0) (args := [.slice a0p a0n a0c, .int .i64 a1, .int .i64 a2]) (by kernel_rfl) (by kernel_rfl) (by kernel_rfl) (X46.v Q) (Eq.mp (by kernel_rfl) h)
/-! ### (*mooring/table.Table[string, int]).from: function 47 -/
def X47.f (a0 : Option Addr) (a1 : Int) (w : World) (Q : Value → World → Prop) : Prop := bcase (decide (a1 < (0 : Int))) (Q (.tuple #[.string (⟨#[]⟩ : ByteArray), .bool false]) w) (optP a0 fun p1 => ldSl w (p1.add 0) fun x2p x2n x2c => bcase (decide (a1 ≥ ((x2n : Nat) : Int))) (Q (.tuple #[.string (⟨#[]⟩ : ByteArray), .bool false]) w) (optP a0 fun p3 => ldSl w (p3.add 0) fun x4p x4n x4c => (0 ≤ a1 ∧ a1 < ((x4n : Nat) : Int)) ∧ optP x4p fun p5 => ldS w (p5.add (Int.toNat a1 * 1)) fun x6 => Q (.tuple #[.string x6, .bool true]) w))
def X47.S (Q : Value → World → Prop) : Segs
  | _, _, _, _ => False
noncomputable def X47.an : Ann := (.seq .leaf (.seq (.seq .leaf (.cond (.seq .leaf (.seq .leaf .leaf)) .leaf)) (.seq .leaf .leaf)))
noncomputable def X47.c : Code := Try.f47.body.getD .skip
theorem X47.v (Q : Value → World → Prop) : V Try.prog (X47.S Q) X47.an X47.c (retC Try.prog Try.f47 Q) := ⟨trivial, ⟨⟨trivial, ⟨⟨trivial, ⟨trivial, trivial⟩⟩, trivial⟩⟩, ⟨trivial, trivial⟩⟩⟩
theorem X47.sound (a0 : Option Addr) (a1 : Int) (w : World) (Q : Value → World → Prop) (h : X47.f a0 a1 w Q) : CallR Try.prog 47 #[.pointer a0, .int .i64 a1] w Q :=
  fn_sound noGr mixed Try.func47 (c := X47.c) (an := X47.an) (S := X47.S Q) (φ := fun _ => 0) (args := [.pointer a0, .int .i64 a1]) (by kernel_rfl) (by kernel_rfl) (by kernel_rfl) (X47.v Q) (Eq.mp (by kernel_rfl) h)
/-! ### slices.Delete[[]string,string]: function 48 -/
def X48.f (a0p : Option Addr) (a0n : Nat) (a0c : Nat) (a1 : Int) (a2 : Int) (w : World) (Q : Value → World → Prop) : Prop := RunR Try.prog (Instr.sliceAt 22 (.slice a0p a0n a0c) (some (.int .i64 a1)) (some (.int .i64 a2)) (some (.int .i64 ((a0n : Nat) : Int)))) w fun v1 w2 => ∃ (s3p : Option Addr) (s3n s3c : Nat), v1 = .slice s3p s3n s3c ∧ bcase (a1 == a2) (Q (.slice a0p a0n a0c) w2) (drewK w2 fun w4 => (0 ≤ ((0 : Nat) : Int) ∧ ((0 : Nat) : Int) ≤ a1 ∧ a1 ≤ ((a0c : Nat) : Int)) ∧ (0 ≤ a2 ∧ a2 ≤ ((a0n : Nat) : Int) ∧ ((a0n : Nat) : Int) ≤ ((a0c : Nat) : Int)) ∧ RunR Try.prog (Builtin.append_ #[22, 22] 22 #[.slice (cutAt 1 a0c (Int.toNat ((0 : Nat) : Int)) a0p) (Int.toNat a1 - Int.toNat ((0 : Nat) : Int)) (a0c - Int.toNat ((0 : Nat) : Int)), .slice (cutAt 1 a0c (Int.toNat a2) a0p) (Int.toNat ((a0n : Nat) : Int) - Int.toNat a2) (a0c - Int.toNat a2)]) w4 fun v5 w6 => ∃ (s7p : Option Addr) (s7n s7c : Nat), v5 = .slice s7p s7n s7c ∧ (0 ≤ ((s7n : Nat) : Int) ∧ ((s7n : Nat) : Int) ≤ ((a0n : Nat) : Int) ∧ ((a0n : Nat) : Int) ≤ ((s7c : Nat) : Int)) ∧ RunR Try.prog (Builtin.clear_ #[22] 0 #[.slice (cutAt 1 s7c (Int.toNat ((s7n : Nat) : Int)) s7p) (Int.toNat ((a0n : Nat) : Int) - Int.toNat ((s7n : Nat) : Int)) (s7c - Int.toNat ((s7n : Nat) : Int))]) w6 fun v8 w9 => v8 = .tuple #[] ∧ Q (.slice s7p s7n s7c) w9)
def X48.S (Q : Value → World → Prop) : Segs
  | _, _, _, _ => False
noncomputable def X48.an : Ann := (.seq .leaf (.seq .leaf (.seq (.seq .leaf (.cond (.seq .leaf .leaf) .leaf)) (.seq .leaf (.seq (.draw [0, 0, 3, 0, 0, 24, 63, 127] [[0, 1, 2, 3, 4, 5, 6, 7]]) (.seq .leaf (.seq .leaf .leaf)))))))
noncomputable def X48.c : Code := Try.f48.body.getD .skip
theorem X48.v (Q : Value → World → Prop) : V Try.prog (X48.S Q) X48.an X48.c (retC Try.prog Try.f48 Q) := ⟨trivial, ⟨trivial, ⟨⟨trivial, ⟨⟨trivial, trivial⟩, trivial⟩⟩, ⟨trivial, ⟨trivial, ⟨trivial, ⟨trivial, trivial⟩⟩⟩⟩⟩⟩⟩
theorem X48.sound (a0p : Option Addr) (a0n : Nat) (a0c : Nat) (a1 : Int) (a2 : Int) (w : World) (Q : Value → World → Prop) (h : X48.f a0p a0n a0c a1 a2 w Q) : CallR Try.prog 48 #[.slice a0p a0n a0c, .int .i64 a1, .int .i64 a2] w Q :=
  fn_sound noGr mixed Try.func48 (c := X48.c) (an := X48.an) (S := X48.S Q) (φ := fun _ => 0) (args := [.slice a0p a0n a0c, .int .i64 a1, .int .i64 a2]) (by kernel_rfl) (by kernel_rfl) (by kernel_rfl) (X48.v Q) (Eq.mp (by kernel_rfl) h)
/-! ### (*mooring/mooringref4.IntTable).place: function 49 -/
def X49.l0 (Q : Value → World → Prop) : Nat → (Option Addr) → Int → Int → World → Prop
  | 0, _, _, _, _ => False
  | k + 1, t0, t1, t6, w => optP t0 fun p1 => ldSl w (p1.add 1) fun x2p x2n x2c => bcase (decide (t6 < ((x2n : Nat) : Int))) (optP t0 fun p3 => ldSl w (p3.add 1) fun x4p x4n x4c => (0 ≤ t6 ∧ t6 < ((x4n : Nat) : Int)) ∧ optP x4p fun p5 => ldI .u64 w (p5.add (Int.toNat t6 * 1)) fun x6 => bcase (decide (x6 ≥ t1)) (drewK w fun w7 => optP t0 fun p8 => ldSl w7 (p8.add 1) fun x9p x9n x9c => (0 ≤ t6 ∧ t6 < ((x9n : Nat) : Int)) ∧ optP x9p fun p10 => ldI .u64 w7 (p10.add (Int.toNat t6 * 1)) fun x11 => Q (.tuple #[.int .i64 t6, .bool (x11 == t1)]) w7) (X49.l0 Q k t0 t1 (IntKind.wrap .i64 (t6 + (1 : Int))) w)) (optP t0 fun p12 => ldSl w (p12.add 1) fun x13p x13n x13c => Q (.tuple #[.int .i64 ((x13n : Nat) : Int), .bool false]) w)
def X49.f (a0 : Option Addr) (a1 : Int) (w : World) (Q : Value → World → Prop) : Prop := ∃ m1, X49.l0 Q m1 a0 a1 (0 : Int) w
def X49.S (Q : Value → World → Prop) : Segs
  | 0, φ, ρ, w => qP (ρ 0) fun t0 => qI .u64 (ρ 1) fun t1 => qI .i64 (ρ 6) fun t6 => X49.l0 Q (φ 0) t0 t1 t6 w
  | _, _, _, _ => False
noncomputable def X49.an : Ann := (.seq .leaf (.seq (.seq .leaf (.block (.loop 0 (.seq (.seq .leaf (.cond .leaf .leaf)) (.seq (.block (.seq .leaf (.cond (.seq (.draw [0, 0, 2, 6, 14, 0, 62, 126, 0, 510, 1, 2047] [[0, 1, 2, 3, 4, 5, 6, 7, 8, 9, 10, 11]]) .leaf) .leaf))) .leaf))))) (.seq .leaf .leaf)))
noncomputable def X49.c : Code := Try.f49.body.getD .skip
theorem X49.v (Q : Value → World → Prop) : V Try.prog (X49.S Q) X49.an X49.c (retC Try.prog Try.f49 Q) := ⟨trivial, ⟨⟨trivial, ⟨(by
    intro φ ρ w h
    simp only [X49.S] at h
    obtain ⟨t0, e0, h⟩ := qP_elim h
    obtain ⟨t1, e1, h⟩ := qI_elim h
    obtain ⟨t6, e6, h⟩ := qI_elim h
    cases hk : φ 0 with
    | zero => rw [hk] at h; exact h.elim
    | succ k => rw [hk] at h; exact ⟨k, Nat.lt_succ_self k, (((Env.nil.put (some 0) (.pointer t0)).put (some 1) (.int .u64 t1)).put (some 6) (.int .i64 t6)), Env.le_put e6 (Env.le_put e1 (Env.le_put e0 (Env.le_nil _))), Eq.mp (by kernel_rfl) h⟩), ⟨⟨trivial, ⟨trivial, trivial⟩⟩, ⟨⟨trivial, ⟨⟨trivial, trivial⟩, trivial⟩⟩, trivial⟩⟩⟩⟩, ⟨trivial, trivial⟩⟩⟩
theorem X49.sound (a0 : Option Addr) (a1 : Int) (w : World) (Q : Value → World → Prop) (h : X49.f a0 a1 w Q) : CallR Try.prog 49 #[.pointer a0, .int .u64 a1] w Q :=
  fn_sound noGr mixed Try.func49 (c := X49.c) (an := X49.an) (S := X49.S Q) (φ := fun _ => 0) (args := [.pointer a0, .int .u64 a1]) (by kernel_rfl) (by kernel_rfl) (by kernel_rfl) (X49.v Q) (Eq.mp (by kernel_rfl) h)
/-! ### (*mooring/table.Table[uint64, int]).from: function 50 -/
def X50.f (a0 : Option Addr) (a1 : Int) (w : World) (Q : Value → World → Prop) : Prop := bcase (decide (a1 < (0 : Int))) (Q (.tuple #[.int .u64 (0 : Int), .bool false]) w) (optP a0 fun p1 => ldSl w (p1.add 0) fun x2p x2n x2c => bcase (decide (a1 ≥ ((x2n : Nat) : Int))) (Q (.tuple #[.int .u64 (0 : Int), .bool false]) w) (optP a0 fun p3 => ldSl w (p3.add 0) fun x4p x4n x4c => (0 ≤ a1 ∧ a1 < ((x4n : Nat) : Int)) ∧ optP x4p fun p5 => ldI .u64 w (p5.add (Int.toNat a1 * 1)) fun x6 => Q (.tuple #[.int .u64 x6, .bool true]) w))
def X50.S (Q : Value → World → Prop) : Segs
  | _, _, _, _ => False
noncomputable def X50.an : Ann := (.seq .leaf (.seq (.seq .leaf (.cond (.seq .leaf (.seq .leaf .leaf)) .leaf)) (.seq .leaf .leaf)))
noncomputable def X50.c : Code := Try.f50.body.getD .skip
theorem X50.v (Q : Value → World → Prop) : V Try.prog (X50.S Q) X50.an X50.c (retC Try.prog Try.f50 Q) := ⟨trivial, ⟨⟨trivial, ⟨⟨trivial, ⟨trivial, trivial⟩⟩, trivial⟩⟩, ⟨trivial, trivial⟩⟩⟩
theorem X50.sound (a0 : Option Addr) (a1 : Int) (w : World) (Q : Value → World → Prop) (h : X50.f a0 a1 w Q) : CallR Try.prog 50 #[.pointer a0, .int .i64 a1] w Q :=
  fn_sound noGr mixed Try.func50 (c := X50.c) (an := X50.an) (S := X50.S Q) (φ := fun _ => 0) (args := [.pointer a0, .int .i64 a1]) (by kernel_rfl) (by kernel_rfl) (by kernel_rfl) (X50.v Q) (Eq.mp (by kernel_rfl) h)
/-! ### (*mooring/table.Table[uint64, string]).from: function 51 -/
def X51.f (a0 : Option Addr) (a1 : Int) (w : World) (Q : Value → World → Prop) : Prop := bcase (decide (a1 < (0 : Int))) (Q (.tuple #[.int .u64 (0 : Int), .bool false]) w) (optP a0 fun p1 => ldSl w (p1.add 0) fun x2p x2n x2c => bcase (decide (a1 ≥ ((x2n : Nat) : Int))) (Q (.tuple #[.int .u64 (0 : Int), .bool false]) w) (optP a0 fun p3 => ldSl w (p3.add 0) fun x4p x4n x4c => (0 ≤ a1 ∧ a1 < ((x4n : Nat) : Int)) ∧ optP x4p fun p5 => ldI .u64 w (p5.add (Int.toNat a1 * 1)) fun x6 => Q (.tuple #[.int .u64 x6, .bool true]) w))
def X51.S (Q : Value → World → Prop) : Segs
  | _, _, _, _ => False
noncomputable def X51.an : Ann := (.seq .leaf (.seq (.seq .leaf (.cond (.seq .leaf (.seq .leaf .leaf)) .leaf)) (.seq .leaf .leaf)))
noncomputable def X51.c : Code := Try.f51.body.getD .skip
theorem X51.v (Q : Value → World → Prop) : V Try.prog (X51.S Q) X51.an X51.c (retC Try.prog Try.f51 Q) := ⟨trivial, ⟨⟨trivial, ⟨⟨trivial, ⟨trivial, trivial⟩⟩, trivial⟩⟩, ⟨trivial, trivial⟩⟩⟩
theorem X51.sound (a0 : Option Addr) (a1 : Int) (w : World) (Q : Value → World → Prop) (h : X51.f a0 a1 w Q) : CallR Try.prog 51 #[.pointer a0, .int .i64 a1] w Q :=
  fn_sound noGr mixed Try.func51 (c := X51.c) (an := X51.an) (S := X51.S Q) (φ := fun _ => 0) (args := [.pointer a0, .int .i64 a1]) (by kernel_rfl) (by kernel_rfl) (by kernel_rfl) (X51.v Q) (Eq.mp (by kernel_rfl) h)
/-! ### cmp.Less[string]: function 52 -/
def X52.f (a0 : ByteArray) (a1 : ByteArray) (w : World) (Q : Value → World → Prop) : Prop := CallR Try.prog 62 #[.string a0] w fun v1 w2 => ∃ (y3 : Bool), v1 = .bool y3 ∧ bcase y3 (CallR Try.prog 62 #[.string a1] w2 fun v4 w5 => ∃ (y6 : Bool), v4 = .bool y6 ∧ bcase (!y6) (Q (.bool true) w5) (Q (.bool (strLt a0 a1)) w5)) (Q (.bool (strLt a0 a1)) w2)
def X52.S (Q : Value → World → Prop) : Segs
  | _, _, _, _ => False
noncomputable def X52.an : Ann := (.seq .leaf (.seq .leaf .leaf))
noncomputable def X52.c : Code := Try.f52.body.getD .skip
theorem X52.v (Q : Value → World → Prop) : V Try.prog (X52.S Q) X52.an X52.c (retC Try.prog Try.f52 Q) := ⟨trivial, ⟨trivial, trivial⟩⟩
theorem X52.sound (a0 : ByteArray) (a1 : ByteArray) (w : World) (Q : Value → World → Prop) (h : X52.f a0 a1 w Q) : CallR Try.prog 52 #[.string a0, .string a1] w Q :=
  fn_sound noGr mixed Try.func52 (c := X52.c) (an := X52.an) (S := X52.S Q) (φ := fun _ => 0) (args := [.string a0, .string a1]) (by kernel_rfl) (by kernel_rfl) (by kernel_rfl) (X52.v Q) (Eq.mp (by kernel_rfl) h)
/-! ### slices.isNaN[string]: function 53 -/
def X53.f (a0 : ByteArray) (w : World) (Q : Value → World → Prop) : Prop := Q (.bool (!strEq a0 a0)) w
def X53.S (Q : Value → World → Prop) : Segs
  | _, _, _, _ => False
noncomputable def X53.an : Ann := (.seq .leaf (.seq .leaf .leaf))
noncomputable def X53.c : Code := Try.f53.body.getD .skip
theorem X53.v (Q : Value → World → Prop) : V Try.prog (X53.S Q) X53.an X53.c (retC Try.prog Try.f53 Q) := ⟨trivial, ⟨trivial, trivial⟩⟩
theorem X53.sound (a0 : ByteArray) (w : World) (Q : Value → World → Prop) (h : X53.f a0 w Q) : CallR Try.prog 53 #[.string a0] w Q :=
  fn_sound noGr mixed Try.func53 (c := X53.c) (an := X53.an) (S := X53.S Q) (φ := fun _ => 0) (args := [.string a0]) (by kernel_rfl) (by kernel_rfl) (by kernel_rfl) (X53.v Q) (Eq.mp (by kernel_rfl) h)
/-! ### slices.rotateRight[string]: function 55 -/
def X55.f (a0p : Option Addr) (a0n : Nat) (a0c : Nat) (a1 : Int) (w : World) (Q : Value → World → Prop) : Prop := CallR Try.prog 63 #[.slice a0p a0n a0c, .int .i64 (IntKind.wrap .i64 (((a0n : Nat) : Int) - a1))] w fun v1 w2 => v1 = .tuple #[] ∧ Q (.tuple #[]) w2
def X55.S (Q : Value → World → Prop) : Segs
  | _, _, _, _ => False
noncomputable def X55.an : Ann := .leaf
noncomputable def X55.c : Code := Try.f55.body.getD .skip
theorem X55.v (Q : Value → World → Prop) : V Try.prog (X55.S Q) X55.an X55.c (retC Try.prog Try.f55 Q) := trivial
theorem X55.sound (a0p : Option Addr) (a0n : Nat) (a0c : Nat) (a1 : Int) (w : World) (Q : Value → World → Prop) (h : X55.f a0p a0n a0c a1 w Q) : CallR Try.prog 55 #[.slice a0p a0n a0c, .int .i64 a1] w Q :=
  fn_sound noGr mixed Try.func55 (c := X55.c) (an := X55.an) (S := X55.S Q) (φ := fun _ => 0) (args := [.slice a0p a0n a0c, .int .i64 a1]) (by kernel_rfl) (by kernel_rfl) (by kernel_rfl) (X55.v Q) (Eq.mp (by kernel_rfl) h)
/-! ### slices.rotateRight[int]: function 57 -/
def X57.f (a0p : Option Addr) (a0n : Nat) (a0c : Nat) (a1 : Int) (w : World) (Q : Value → World → Prop) : Prop := CallR Try.prog 64 #[.slice a0p a0n a0c, .int .i64 (IntKind.wrap .i64 (((a0n : Nat) : Int) - a1))] w fun v1 w2 => v1 = .tuple #[] ∧ Q (.tuple #[]) w2
def X57.S (Q : Value → World → Prop) : Segs
  | _, _, _, _ => False
noncomputable def X57.an : Ann := .leaf
noncomputable def X57.c : Code := Try.f57.body.getD .skip
theorem X57.v (Q : Value → World → Prop) : V Try.prog (X57.S Q) X57.an X57.c (retC Try.prog Try.f57 Q) := trivial
theorem X57.sound (a0p : Option Addr) (a0n : Nat) (a0c : Nat) (a1 : Int) (w : World) (Q : Value → World → Prop) (h : X57.f a0p a0n a0c a1 w Q) : CallR Try.prog 57 #[.slice a0p a0n a0c, .int .i64 a1] w Q :=
  fn_sound noGr mixed Try.func57 (c := X57.c) (an := X57.an) (S := X57.S Q) (φ := fun _ => 0) (args := [.slice a0p a0n a0c, .int .i64 a1]) (by kernel_rfl) (by kernel_rfl) (by kernel_rfl) (X57.v Q) (Eq.mp (by kernel_rfl) h)
/-! ### cmp.Less[uint64]: function 58 -/
def X58.f (a0 : Int) (a1 : Int) (w : World) (Q : Value → World → Prop) : Prop := CallR Try.prog 65 #[.int .u64 a0] w fun v1 w2 => ∃ (y3 : Bool), v1 = .bool y3 ∧ bcase y3 (CallR Try.prog 65 #[.int .u64 a1] w2 fun v4 w5 => ∃ (y6 : Bool), v4 = .bool y6 ∧ bcase (!y6) (Q (.bool true) w5) (Q (.bool (decide (a0 < a1))) w5)) (Q (.bool (decide (a0 < a1))) w2)
def X58.S (Q : Value → World → Prop) : Segs
  | _, _, _, _ => False
noncomputable def X58.an : Ann := (.seq .leaf (.seq .leaf .leaf))
noncomputable def X58.c : Code := Try.f58.body.getD .skip
theorem X58.v (Q : Value → World → Prop) : V Try.prog (X58.S Q) X58.an X58.c (retC Try.prog Try.f58 Q) := ⟨trivial, ⟨trivial, trivial⟩⟩
theorem X58.sound (a0 : Int) (a1 : Int) (w : World) (Q : Value → World → Prop) (h : X58.f a0 a1 w Q) : CallR Try.prog 58 #[.int .u64 a0, .int .u64 a1] w Q :=
  fn_sound noGr mixed Try.func58 (c := X58.c) (an := X58.an) (S := X58.S Q) (φ := fun _ => 0) (args := [.int .u64 a0, .int .u64 a1]) (by kernel_rfl) (by kernel_rfl) (by kernel_rfl) (X58.v Q) (Eq.mp (by kernel_rfl) h)
/-! ### slices.isNaN[uint64]: function 59 -/
def X59.f (a0 : Int) (w : World) (Q : Value → World → Prop) : Prop := Q (.bool (a0 != a0)) w
def X59.S (Q : Value → World → Prop) : Segs
  | _, _, _, _ => False
noncomputable def X59.an : Ann := (.seq .leaf (.seq .leaf .leaf))
noncomputable def X59.c : Code := Try.f59.body.getD .skip
theorem X59.v (Q : Value → World → Prop) : V Try.prog (X59.S Q) X59.an X59.c (retC Try.prog Try.f59 Q) := ⟨trivial, ⟨trivial, trivial⟩⟩
theorem X59.sound (a0 : Int) (w : World) (Q : Value → World → Prop) (h : X59.f a0 w Q) : CallR Try.prog 59 #[.int .u64 a0] w Q :=
  fn_sound noGr mixed Try.func59 (c := X59.c) (an := X59.an) (S := X59.S Q) (φ := fun _ => 0) (args := [.int .u64 a0]) (by kernel_rfl) (by kernel_rfl) (by kernel_rfl) (X59.v Q) (Eq.mp (by kernel_rfl) h)
/-! ### slices.rotateRight[uint64]: function 61 -/
def X61.f (a0p : Option Addr) (a0n : Nat) (a0c : Nat) (a1 : Int) (w : World) (Q : Value → World → Prop) : Prop := CallR Try.prog 66 #[.slice a0p a0n a0c, .int .i64 (IntKind.wrap .i64 (((a0n : Nat) : Int) - a1))] w fun v1 w2 => v1 = .tuple #[] ∧ Q (.tuple #[]) w2
def X61.S (Q : Value → World → Prop) : Segs
  | _, _, _, _ => False
noncomputable def X61.an : Ann := .leaf
noncomputable def X61.c : Code := Try.f61.body.getD .skip
theorem X61.v (Q : Value → World → Prop) : V Try.prog (X61.S Q) X61.an X61.c (retC Try.prog Try.f61 Q) := trivial
theorem X61.sound (a0p : Option Addr) (a0n : Nat) (a0c : Nat) (a1 : Int) (w : World) (Q : Value → World → Prop) (h : X61.f a0p a0n a0c a1 w Q) : CallR Try.prog 61 #[.slice a0p a0n a0c, .int .i64 a1] w Q :=
  fn_sound noGr mixed Try.func61 (c := X61.c) (an := X61.an) (S := X61.S Q) (φ := fun _ => 0) (args := [.slice a0p a0n a0c, .int .i64 a1]) (by kernel_rfl) (by kernel_rfl) (by kernel_rfl) (X61.v Q) (Eq.mp (by kernel_rfl) h)
/-! ### cmp.isNaN[string]: function 62 -/
def X62.f (a0 : ByteArray) (w : World) (Q : Value → World → Prop) : Prop := Q (.bool (!strEq a0 a0)) w
def X62.S (Q : Value → World → Prop) : Segs
  | _, _, _, _ => False
noncomputable def X62.an : Ann := (.seq .leaf (.seq .leaf .leaf))
noncomputable def X62.c : Code := Try.f62.body.getD .skip
theorem X62.v (Q : Value → World → Prop) : V Try.prog (X62.S Q) X62.an X62.c (retC Try.prog Try.f62 Q) := ⟨trivial, ⟨trivial, trivial⟩⟩
theorem X62.sound (a0 : ByteArray) (w : World) (Q : Value → World → Prop) (h : X62.f a0 w Q) : CallR Try.prog 62 #[.string a0] w Q :=
  fn_sound noGr mixed Try.func62 (c := X62.c) (an := X62.an) (S := X62.S Q) (φ := fun _ => 0) (args := [.string a0]) (by kernel_rfl) (by kernel_rfl) (by kernel_rfl) (X62.v Q) (Eq.mp (by kernel_rfl) h)
/-! ### slices.rotateLeft[string]: function 63 -/
def X63.f (a0p : Option Addr) (a0n : Nat) (a0c : Nat) (a1 : Int) (w : World) (Q : Value → World → Prop) : Prop := (0 ≤ ((0 : Nat) : Int) ∧ ((0 : Nat) : Int) ≤ a1 ∧ a1 ≤ ((a0c : Nat) : Int)) ∧ CallR Try.prog 67 #[.slice (cutAt 1 a0c (Int.toNat ((0 : Nat) : Int)) a0p) (Int.toNat a1 - Int.toNat ((0 : Nat) : Int)) (a0c - Int.toNat ((0 : Nat) : Int))] w fun v1 w2 => v1 = .tuple #[] ∧ (0 ≤ a1 ∧ a1 ≤ ((a0n : Nat) : Int) ∧ ((a0n : Nat) : Int) ≤ ((a0c : Nat) : Int)) ∧ CallR Try.prog 67 #[.slice (cutAt 1 a0c (Int.toNat a1) a0p) (Int.toNat ((a0n : Nat) : Int) - Int.toNat a1) (a0c - Int.toNat a1)] w2 fun v3 w4 => v3 = .tuple #[] ∧ CallR Try.prog 67 #[.slice a0p a0n a0c] w4 fun v5 w6 => v5 = .tuple #[] ∧ Q (.tuple #[]) w6
def X63.S (Q : Value → World → Prop) : Segs
  | _, _, _, _ => False
noncomputable def X63.an : Ann := (.seq .leaf (.seq .leaf .leaf))
noncomputable def X63.c : Code := Try.f63.body.getD .skip
theorem X63.v (Q : Value → World → Prop) : V Try.prog (X63.S Q) X63.an X63.c (retC Try.prog Try.f63 Q) := ⟨trivial, ⟨trivial, trivial⟩⟩
theorem X63.sound (a0p : Option Addr) (a0n : Nat) (a0c : Nat) (a1 : Int) (w : World) (Q : Value → World → Prop) (h : X63.f a0p a0n a0c a1 w Q) : CallR Try.prog 63 #[.slice a0p a0n a0c, .int .i64 a1] w Q :=
  fn_sound noGr mixed Try.func63 (c := X63.c) (an := X63.an) (S := X63.S Q) (φ := fun _ => 0) (args := [.slice a0p a0n a0c, .int .i64 a1]) (by kernel_rfl) (by kernel_rfl) (by kernel_rfl) (X63.v Q) (Eq.mp (by kernel_rfl) h)
/-! ### slices.rotateLeft[int]: function 64 -/
def X64.f (a0p : Option Addr) (a0n : Nat) (a0c : Nat) (a1 : Int) (w : World) (Q : Value → World → Prop) : Prop := (0 ≤ ((0 : Nat) : Int) ∧ ((0 : Nat) : Int) ≤ a1 ∧ a1 ≤ ((a0c : Nat) : Int)) ∧ CallR Try.prog 68 #[.slice (cutAt 1 a0c (Int.toNat ((0 : Nat) : Int)) a0p) (Int.toNat a1 - Int.toNat ((0 : Nat) : Int)) (a0c - Int.toNat ((0 : Nat) : Int))] w fun v1 w2 => v1 = .tuple #[] ∧ (0 ≤ a1 ∧ a1 ≤ ((a0n : Nat) : Int) ∧ ((a0n : Nat) : Int) ≤ ((a0c : Nat) : Int)) ∧ CallR Try.prog 68 #[.slice (cutAt 1 a0c (Int.toNat a1) a0p) (Int.toNat ((a0n : Nat) : Int) - Int.toNat a1) (a0c - Int.toNat a1)] w2 fun v3 w4 => v3 = .tuple #[] ∧ CallR Try.prog 68 #[.slice a0p a0n a0c] w4 fun v5 w6 => v5 = .tuple #[] ∧ Q (.tuple #[]) w6
def X64.S (Q : Value → World → Prop) : Segs
  | _, _, _, _ => False
noncomputable def X64.an : Ann := (.seq .leaf (.seq .leaf .leaf))
noncomputable def X64.c : Code := Try.f64.body.getD .skip
theorem X64.v (Q : Value → World → Prop) : V Try.prog (X64.S Q) X64.an X64.c (retC Try.prog Try.f64 Q) := ⟨trivial, ⟨trivial, trivial⟩⟩
theorem X64.sound (a0p : Option Addr) (a0n : Nat) (a0c : Nat) (a1 : Int) (w : World) (Q : Value → World → Prop) (h : X64.f a0p a0n a0c a1 w Q) : CallR Try.prog 64 #[.slice a0p a0n a0c, .int .i64 a1] w Q :=
  fn_sound noGr mixed Try.func64 (c := X64.c) (an := X64.an) (S := X64.S Q) (φ := fun _ => 0) (args := [.slice a0p a0n a0c, .int .i64 a1]) (by kernel_rfl) (by kernel_rfl) (by kernel_rfl) (X64.v Q) (Eq.mp (by kernel_rfl) h)
/-! ### cmp.isNaN[uint64]: function 65 -/
def X65.f (a0 : Int) (w : World) (Q : Value → World → Prop) : Prop := Q (.bool (a0 != a0)) w
def X65.S (Q : Value → World → Prop) : Segs
  | _, _, _, _ => False
noncomputable def X65.an : Ann := (.seq .leaf (.seq .leaf .leaf))
noncomputable def X65.c : Code := Try.f65.body.getD .skip
theorem X65.v (Q : Value → World → Prop) : V Try.prog (X65.S Q) X65.an X65.c (retC Try.prog Try.f65 Q) := ⟨trivial, ⟨trivial, trivial⟩⟩
theorem X65.sound (a0 : Int) (w : World) (Q : Value → World → Prop) (h : X65.f a0 w Q) : CallR Try.prog 65 #[.int .u64 a0] w Q :=
  fn_sound noGr mixed Try.func65 (c := X65.c) (an := X65.an) (S := X65.S Q) (φ := fun _ => 0) (args := [.int .u64 a0]) (by kernel_rfl) (by kernel_rfl) (by kernel_rfl) (X65.v Q) (Eq.mp (by kernel_rfl) h)
/-! ### slices.rotateLeft[uint64]: function 66 -/
def X66.f (a0p : Option Addr) (a0n : Nat) (a0c : Nat) (a1 : Int) (w : World) (Q : Value → World → Prop) : Prop := (0 ≤ ((0 : Nat) : Int) ∧ ((0 : Nat) : Int) ≤ a1 ∧ a1 ≤ ((a0c : Nat) : Int)) ∧ CallR Try.prog 69 #[.slice (cutAt 1 a0c (Int.toNat ((0 : Nat) : Int)) a0p) (Int.toNat a1 - Int.toNat ((0 : Nat) : Int)) (a0c - Int.toNat ((0 : Nat) : Int))] w fun v1 w2 => v1 = .tuple #[] ∧ (0 ≤ a1 ∧ a1 ≤ ((a0n : Nat) : Int) ∧ ((a0n : Nat) : Int) ≤ ((a0c : Nat) : Int)) ∧ CallR Try.prog 69 #[.slice (cutAt 1 a0c (Int.toNat a1) a0p) (Int.toNat ((a0n : Nat) : Int) - Int.toNat a1) (a0c - Int.toNat a1)] w2 fun v3 w4 => v3 = .tuple #[] ∧ CallR Try.prog 69 #[.slice a0p a0n a0c] w4 fun v5 w6 => v5 = .tuple #[] ∧ Q (.tuple #[]) w6
def X66.S (Q : Value → World → Prop) : Segs
  | _, _, _, _ => False
noncomputable def X66.an : Ann := (.seq .leaf (.seq .leaf .leaf))
noncomputable def X66.c : Code := Try.f66.body.getD .skip
theorem X66.v (Q : Value → World → Prop) : V Try.prog (X66.S Q) X66.an X66.c (retC Try.prog Try.f66 Q) := ⟨trivial, ⟨trivial, trivial⟩⟩
theorem X66.sound (a0p : Option Addr) (a0n : Nat) (a0c : Nat) (a1 : Int) (w : World) (Q : Value → World → Prop) (h : X66.f a0p a0n a0c a1 w Q) : CallR Try.prog 66 #[.slice a0p a0n a0c, .int .i64 a1] w Q :=
  fn_sound noGr mixed Try.func66 (c := X66.c) (an := X66.an) (S := X66.S Q) (φ := fun _ => 0) (args := [.slice a0p a0n a0c, .int .i64 a1]) (by kernel_rfl) (by kernel_rfl) (by kernel_rfl) (X66.v Q) (Eq.mp (by kernel_rfl) h)
/-! ### slices.Reverse[[]string,string]: function 67 -/
def X67.l0 (Q : Value → World → Prop) : Nat → (Option Addr) → Nat → Nat → Int → Int → World → Prop
  | 0, _, _, _, _, _, _ => False
  | k + 1, t0p, t0n, t0c, t2, t3, w => bcase (decide (t2 < t3)) (drewK w fun w1 => (0 ≤ t3 ∧ t3 < ((t0n : Nat) : Int)) ∧ optP t0p fun p2 => ldS w1 (p2.add (Int.toNat t3 * 1)) fun x3 => (0 ≤ t2 ∧ t2 < ((t0n : Nat) : Int)) ∧ optP t0p fun p4 => ldS w1 (p4.add (Int.toNat t2 * 1)) fun x5 => (0 ≤ t2 ∧ t2 < ((t0n : Nat) : Int)) ∧ optP t0p fun p6 => stK w1 (p6.add (Int.toNat t2 * 1)) (.string x3) fun w7 => (0 ≤ t3 ∧ t3 < ((t0n : Nat) : Int)) ∧ optP t0p fun p8 => stK w7 (p8.add (Int.toNat t3 * 1)) (.string x5) fun w9 => X67.l0 Q k t0p t0n t0c (IntKind.wrap .i64 (t2 + (1 : Int))) (IntKind.wrap .i64 (t3 - (1 : Int))) w9) (Q (.tuple #[]) w)
def X67.f (a0p : Option Addr) (a0n : Nat) (a0c : Nat) (w : World) (Q : Value → World → Prop) : Prop := ∃ m1, X67.l0 Q m1 a0p a0n a0c (0 : Int) (IntKind.wrap .i64 (((a0n : Nat) : Int) - (1 : Int))) w
def X67.S (Q : Value → World → Prop) : Segs
  | 0, φ, ρ, w => qSl (ρ 0) fun t0p t0n t0c => qI .i64 (ρ 2) fun t2 => qI .i64 (ρ 3) fun t3 => X67.l0 Q (φ 0) t0p t0n t0c t2 t3 w
  | _, _, _, _ => False
noncomputable def X67.an : Ann := (.seq .leaf (.block (.loop 0 (.seq (.seq .leaf (.cond .leaf .leaf)) (.seq (.block (.draw [0, 0, 0, 0, 0, 0, 48, 112, 0, 0, 768, 1792, 4083, 8179, 16383, 32767] [[0, 1, 2, 3, 4, 5, 6, 7, 8, 9, 10, 11, 12, 13, 14, 15]])) .leaf)))))
noncomputable def X67.c : Code := Try.f67.body.getD .skip
theorem X67.v (Q : Value → World → Prop) : V Try.prog (X67.S Q) X67.an X67.c (retC Try.prog Try.f67 Q) := ⟨trivial, ⟨(by
    intro φ ρ w h
    simp only [X67.S] at h
    obtain ⟨t0p, t0n, t0c, e0, h⟩ := qSl_elim h
    obtain ⟨t2, e2, h⟩ := qI_elim h
    obtain ⟨t3, e3, h⟩ := qI_elim h
    cases hk : φ 0 with
    | zero => rw [hk] at h; exact h.elim
    | succ k => rw [hk] at h; exact ⟨k, Nat.lt_succ_self k, (((Env.nil.put (some 0) (.slice t0p t0n t0c)).put (some 2) (.int .i64 t2)).put (some 3) (.int .i64 t3)), Env.le_put e3 (Env.le_put e2 (Env.le_put e0 (Env.le_nil _))), Eq.mp (by kernel_rfl) h⟩), ⟨⟨trivial, ⟨trivial, trivial⟩⟩, ⟨trivial, trivial⟩⟩⟩⟩
theorem X67.sound (a0p : Option Addr) (a0n : Nat) (a0c : Nat) (w : World) (Q : Value → World → Prop) (h : X67.f a0p a0n a0c w Q) : CallR Try.prog 67 #[.slice a0p a0n a0c] w Q :=
  fn_sound noGr mixed Try.func67 (c := X67.c) (an := X67.an) (S := X67.S Q) (φ := fun _ => 0) (args := [.slice a0p a0n a0c]) (by kernel_rfl) (by kernel_rfl) (by kernel_rfl) (X67.v Q) (Eq.mp (by kernel_rfl) h)
/-! ### slices.Reverse[[]int,int]: function 68 -/
def X68.l0 (Q : Value → World → Prop) : Nat → (Option Addr) → Nat → Nat → Int → Int → World → Prop
  | 0, _, _, _, _, _, _ => False
  | k + 1, t0p, t0n, t0c, t2, t3, w => bcase (decide (t2 < t3)) (drewK w fun w1 => (0 ≤ t3 ∧ t3 < ((t0n : Nat) : Int)) ∧ optP t0p fun p2 => ldI .i64 w1 (p2.add (Int.toNat t3 * 1)) fun x3 => (0 ≤ t2 ∧ t2 < ((t0n : Nat) : Int)) ∧ optP t0p fun p4 => ldI .i64 w1 (p4.add (Int.toNat t2 * 1)) fun x5 => (0 ≤ t2 ∧ t2 < ((t0n : Nat) : Int)) ∧ optP t0p fun p6 => stK w1 (p6.add (Int.toNat t2 * 1)) (.int .i64 x3) fun w7 => (0 ≤ t3 ∧ t3 < ((t0n : Nat) : Int)) ∧ optP t0p fun p8 => stK w7 (p8.add (Int.toNat t3 * 1)) (.int .i64 x5) fun w9 => X68.l0 Q k t0p t0n t0c (IntKind.wrap .i64 (t2 + (1 : Int))) (IntKind.wrap .i64 (t3 - (1 : Int))) w9) (Q (.tuple #[]) w)
def X68.f (a0p : Option Addr) (a0n : Nat) (a0c : Nat) (w : World) (Q : Value → World → Prop) : Prop := ∃ m1, X68.l0 Q m1 a0p a0n a0c (0 : Int) (IntKind.wrap .i64 (((a0n : Nat) : Int) - (1 : Int))) w
def X68.S (Q : Value → World → Prop) : Segs
  | 0, φ, ρ, w => qSl (ρ 0) fun t0p t0n t0c => qI .i64 (ρ 2) fun t2 => qI .i64 (ρ 3) fun t3 => X68.l0 Q (φ 0) t0p t0n t0c t2 t3 w
  | _, _, _, _ => False
noncomputable def X68.an : Ann := (.seq .leaf (.block (.loop 0 (.seq (.seq .leaf (.cond .leaf .leaf)) (.seq (.block (.draw [0, 0, 0, 0, 0, 0, 48, 112, 0, 0, 768, 1792, 4083, 8179, 16383, 32767] [[0, 1, 2, 3, 4, 5, 6, 7, 8, 9, 10, 11, 12, 13, 14, 15]])) .leaf)))))
noncomputable def X68.c : Code := Try.f68.body.getD .skip
theorem X68.v (Q : Value → World → Prop) : V Try.prog (X68.S Q) X68.an X68.c (retC Try.prog Try.f68 Q) := ⟨trivial, ⟨(by
    intro φ ρ w h
    simp only [X68.S] at h
    obtain ⟨t0p, t0n, t0c, e0, h⟩ := qSl_elim h
    obtain ⟨t2, e2, h⟩ := qI_elim h
    obtain ⟨t3, e3, h⟩ := qI_elim h
    cases hk : φ 0 with
    | zero => rw [hk] at h; exact h.elim
    | succ k => rw [hk] at h; exact ⟨k, Nat.lt_succ_self k, (((Env.nil.put (some 0) (.slice t0p t0n t0c)).put (some 2) (.int .i64 t2)).put (some 3) (.int .i64 t3)), Env.le_put e3 (Env.le_put e2 (Env.le_put e0 (Env.le_nil _))), Eq.mp (by kernel_rfl) h⟩), ⟨⟨trivial, ⟨trivial, trivial⟩⟩, ⟨trivial, trivial⟩⟩⟩⟩
theorem X68.sound (a0p : Option Addr) (a0n : Nat) (a0c : Nat) (w : World) (Q : Value → World → Prop) (h : X68.f a0p a0n a0c w Q) : CallR Try.prog 68 #[.slice a0p a0n a0c] w Q :=
  fn_sound noGr mixed Try.func68 (c := X68.c) (an := X68.an) (S := X68.S Q) (φ := fun _ => 0) (args := [.slice a0p a0n a0c]) (by kernel_rfl) (by kernel_rfl) (by kernel_rfl) (X68.v Q) (Eq.mp (by kernel_rfl) h)
/-! ### slices.Reverse[[]uint64,uint64]: function 69 -/
def X69.l0 (Q : Value → World → Prop) : Nat → (Option Addr) → Nat → Nat → Int → Int → World → Prop
  | 0, _, _, _, _, _, _ => False
  | k + 1, t0p, t0n, t0c, t2, t3, w => bcase (decide (t2 < t3)) (drewK w fun w1 => (0 ≤ t3 ∧ t3 < ((t0n : Nat) : Int)) ∧ optP t0p fun p2 => ldI .u64 w1 (p2.add (Int.toNat t3 * 1)) fun x3 => (0 ≤ t2 ∧ t2 < ((t0n : Nat) : Int)) ∧ optP t0p fun p4 => ldI .u64 w1 (p4.add (Int.toNat t2 * 1)) fun x5 => (0 ≤ t2 ∧ t2 < ((t0n : Nat) : Int)) ∧ optP t0p fun p6 => stK w1 (p6.add (Int.toNat t2 * 1)) (.int .u64 x3) fun w7 => (0 ≤ t3 ∧ t3 < ((t0n : Nat) : Int)) ∧ optP t0p fun p8 => stK w7 (p8.add (Int.toNat t3 * 1)) (.int .u64 x5) fun w9 => X69.l0 Q k t0p t0n t0c (IntKind.wrap .i64 (t2 + (1 : Int))) (IntKind.wrap .i64 (t3 - (1 : Int))) w9) (Q (.tuple #[]) w)
def X69.f (a0p : Option Addr) (a0n : Nat) (a0c : Nat) (w : World) (Q : Value → World → Prop) : Prop := ∃ m1, X69.l0 Q m1 a0p a0n a0c (0 : Int) (IntKind.wrap .i64 (((a0n : Nat) : Int) - (1 : Int))) w
def X69.S (Q : Value → World → Prop) : Segs
  | 0, φ, ρ, w => qSl (ρ 0) fun t0p t0n t0c => qI .i64 (ρ 2) fun t2 => qI .i64 (ρ 3) fun t3 => X69.l0 Q (φ 0) t0p t0n t0c t2 t3 w
  | _, _, _, _ => False
noncomputable def X69.an : Ann := (.seq .leaf (.block (.loop 0 (.seq (.seq .leaf (.cond .leaf .leaf)) (.seq (.block (.draw [0, 0, 0, 0, 0, 0, 48, 112, 0, 0, 768, 1792, 4083, 8179, 16383, 32767] [[0, 1, 2, 3, 4, 5, 6, 7, 8, 9, 10, 11, 12, 13, 14, 15]])) .leaf)))))
noncomputable def X69.c : Code := Try.f69.body.getD .skip
theorem X69.v (Q : Value → World → Prop) : V Try.prog (X69.S Q) X69.an X69.c (retC Try.prog Try.f69 Q) := ⟨trivial, ⟨(by
    intro φ ρ w h
    simp only [X69.S] at h
    obtain ⟨t0p, t0n, t0c, e0, h⟩ := qSl_elim h
    obtain ⟨t2, e2, h⟩ := qI_elim h
    obtain ⟨t3, e3, h⟩ := qI_elim h
    cases hk : φ 0 with
    | zero => rw [hk] at h; exact h.elim
    | succ k => rw [hk] at h; exact ⟨k, Nat.lt_succ_self k, (((Env.nil.put (some 0) (.slice t0p t0n t0c)).put (some 2) (.int .i64 t2)).put (some 3) (.int .i64 t3)), Env.le_put e3 (Env.le_put e2 (Env.le_put e0 (Env.le_nil _))), Eq.mp (by kernel_rfl) h⟩), ⟨⟨trivial, ⟨trivial, trivial⟩⟩, ⟨trivial, trivial⟩⟩⟩⟩
theorem X69.sound (a0p : Option Addr) (a0n : Nat) (a0c : Nat) (w : World) (Q : Value → World → Prop) (h : X69.f a0p a0n a0c w Q) : CallR Try.prog 69 #[.slice a0p a0n a0c] w Q :=
  fn_sound noGr mixed Try.func69 (c := X69.c) (an := X69.an) (S := X69.S Q) (φ := fun _ => 0) (args := [.slice a0p a0n a0c]) (by kernel_rfl) (by kernel_rfl) (by kernel_rfl) (X69.v Q) (Eq.mp (by kernel_rfl) h)
end Go.Proofs.YtbgebldhpbnacaaX
