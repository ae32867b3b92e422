/- What the functions' bodies come to, and that a call does so: printed by gen.py. -/
import Derived.Test.YtemdahcphdofmaaProg
import Derived.Test.YtemdahcphdofmaaXFn
namespace Go.Proofs.YtemdahcphdofmaaX
open Go.RowKit
set_option linter.unusedVariables false
set_option maxRecDepth 100000
theorem noGr : NoGr Try.prog := by unfold NoGr; kernel_rfl
theorem mixed : Try.prog.follows .mixedOrders = true := by kernel_rfl
/-! ### mooring/mooringlaw17.LeaseKnown: function 3 -/
def X3.f (w : World) (Q : Value → World → Prop) : Prop := CallR Try.prog 11 #[.int .u64 (100 : Int), .int .u64 (10 : Int), .int .u64 (0 : Int)] w fun v1 w2 => ∃ (y3 : Int) (y4 : Int), v1 = .tuple #[.int .u64 y3, .int .i64 y4] ∧ CallR Try.prog 11 #[.int .u64 (5 : Int), .int .u64 (10 : Int), .int .u64 (10 : Int)] w2 fun v5 w6 => ∃ (y7 : Int) (y8 : Int), v5 = .tuple #[.int .u64 y7, .int .i64 y8] ∧ CallR Try.prog 12 #[] w6 fun v9 w10 => ∃ (y11 : Bool), v9 = .bool y11 ∧ bcase y11 (bcase (y3 == (100 : Int)) (bcase (y4 == (0 : Int)) (bcase (y8 == (1 : Int)) (CallR Try.prog 13 #[.int .u64 (5 : Int), .int .u64 (3 : Int), .int .u64 (4 : Int)] w10 fun v12 w13 => ∃ (y14 : Bool), v12 = .bool y14 ∧ bcase (!y14) (CallR Try.prog 14 #[.int .u64 (3 : Int)] w13 fun v15 w16 => ∃ (y17 : Int), v15 = .int .u64 y17 ∧ bcase (y17 == (1 : Int)) (CallR Try.prog 15 #[.int .u64 (0 : Int), .int .u64 (4 : Int), .int .u64 (20 : Int)] w16 fun v18 w19 => ∃ (y20 : Int), v18 = .int .u64 y20 ∧ bcase (y20 == (4 : Int)) (CallR Try.prog 15 #[.int .u64 (16 : Int), .int .u64 (4 : Int), .int .u64 (20 : Int)] w19 fun v21 w22 => ∃ (y23 : Int), v21 = .int .u64 y23 ∧ Q (.bool (y23 == (20 : Int))) w22) (Q (.bool false) w19)) (Q (.bool false) w16)) (Q (.bool false) w13)) (Q (.bool false) w10)) (Q (.bool false) w10)) (Q (.bool false) w10)) (Q (.bool false) w10)
def X3.S (Q : Value → World → Prop) : Segs
  | _, _, _, _ => False
noncomputable def X3.an : Ann := (.seq .leaf (.seq .leaf (.seq .leaf (.seq .leaf .leaf))))
noncomputable def X3.c : Code := Try.f3.body.getD .skip
theorem X3.v (Q : Value → World → Prop) : V Try.prog (X3.S Q) X3.an X3.c (retC Try.prog Try.f3 Q) := ⟨trivial, ⟨trivial, ⟨trivial, ⟨trivial, trivial⟩⟩⟩⟩
theorem X3.sound (w : World) (Q : Value → World → Prop) (h : X3.f  w Q) : CallR Try.prog 3 #[] w Q :=
  fn_sound noGr mixed Try.func3 (c := X3.c) (an := X3.an) (S := X3.S Q) (φ := fun _ => 0) (args := []) (by kernel_rfl) (by kernel_rfl) (by kernel_rfl) (X3.v Q) (Eq.mp (by kernel_rfl) h)
/-! ### mooring/mooringlaw17.LeaseHolder: function 4 -/
def X4.f (a0 : Int) (a1 : Int) (a2 : Int) (w : World) (Q : Value → World → Prop) : Prop := CallR Try.prog 11 #[.int .u64 a0, .int .u64 a1, .int .u64 a2] w fun v1 w2 => ∃ (y3 : Int) (y4 : Int), v1 = .tuple #[.int .u64 y3, .int .i64 y4] ∧ CallR Try.prog 16 #[.int .u64 a0, .int .u64 a1, .int .u64 a2] w2 fun v5 w6 => ∃ (y7 : Int) (y8 : Int), v5 = .tuple #[.int .u64 y7, .int .i64 y8] ∧ CallR Try.prog 12 #[] w6 fun v9 w10 => ∃ (y11 : Bool), v9 = .bool y11 ∧ bcase y11 (bcase (y3 == y7) (Q (.bool (y4 == y8)) w10) (Q (.bool false) w10)) (Q (.bool false) w10)
def X4.S (Q : Value → World → Prop) : Segs
  | _, _, _, _ => False
noncomputable def X4.an : Ann := (.seq .leaf (.seq .leaf (.seq .leaf (.seq .leaf .leaf))))
noncomputable def X4.c : Code := Try.f4.body.getD .skip
theorem X4.v (Q : Value → World → Prop) : V Try.prog (X4.S Q) X4.an X4.c (retC Try.prog Try.f4 Q) := ⟨trivial, ⟨trivial, ⟨trivial, ⟨trivial, trivial⟩⟩⟩⟩
theorem X4.sound (a0 : Int) (a1 : Int) (a2 : Int) (w : World) (Q : Value → World → Prop) (h : X4.f a0 a1 a2 w Q) : CallR Try.prog 4 #[.int .u64 a0, .int .u64 a1, .int .u64 a2] w Q :=
  fn_sound noGr mixed Try.func4 (c := X4.c) (an := X4.an) (S := X4.S Q) (φ := fun _ => 0) (args := [.int .u64 a0, .int .u64 a1, .int .u64 a2]) (by kernel_rfl) (by kernel_rfl) (by kernel_rfl) (X4.v Q) (Eq.mp (by kernel_rfl) h)
/-! ### mooring/mooringlaw17.LeaseSmall: function 5 -/
def X5.f (a0 : Int) (a1 : Int) (a2 : Int) (w : World) (Q : Value → World → Prop) : Prop := CallR Try.prog 17 #[.int .i64 a1, .int .i64 (1048576 : Int)] w fun v1 w2 => ∃ (y3 : Int), v1 = .int .i64 y3 ∧ CallR Try.prog 17 #[.int .i64 a2, .int .i64 (IntKind.wrap .i64 (IntKind.wrap .u64 (IntKind.wrap .i64 ((1 : Int) + y3))))] w2 fun v4 w5 => ∃ (y6 : Int), v4 = .int .i64 y6 ∧ CallR Try.prog 11 #[.int .u64 (IntKind.wrap .u64 a0), .int .u64 (IntKind.wrap .u64 (IntKind.wrap .i64 ((1 : Int) + y3))), .int .u64 (IntKind.wrap .u64 y6)] w5 fun v7 w8 => ∃ (y9 : Int) (y10 : Int), v7 = .tuple #[.int .u64 y9, .int .i64 y10] ∧ CallR Try.prog 12 #[] w8 fun v11 w12 => ∃ (y13 : Bool), v11 = .bool y13 ∧ bcase y13 (bcase (y10 == (0 : Int)) (bcase (decide (y9 ≤ (IntKind.wrap .u64 a0))) (bcase (decide ((IntKind.wrap .u64 (y9 * (IntKind.wrap .u64 ((IntKind.wrap .u64 (IntKind.wrap .i64 ((1 : Int) + y3))) + (IntKind.wrap .u64 y6))))) ≤ (IntKind.wrap .u64 ((IntKind.wrap .u64 a0) * (IntKind.wrap .u64 ((IntKind.wrap .u64 (IntKind.wrap .i64 ((1 : Int) + y3))) - (IntKind.wrap .u64 y6))))))) (Q (.bool (decide ((IntKind.wrap .u64 ((IntKind.wrap .u64 (y9 + (1 : Int))) * (IntKind.wrap .u64 ((IntKind.wrap .u64 (IntKind.wrap .i64 ((1 : Int) + y3))) + (IntKind.wrap .u64 y6))))) > (IntKind.wrap .u64 ((IntKind.wrap .u64 a0) * (IntKind.wrap .u64 ((IntKind.wrap .u64 (IntKind.wrap .i64 ((1 : Int) + y3))) - (IntKind.wrap .u64 y6)))))))) w12) (Q (.bool false) w12)) (Q (.bool false) w12)) (Q (.bool false) w12)) (Q (.bool false) w12)
def X5.S (Q : Value → World → Prop) : Segs
  | _, _, _, _ => False
noncomputable def X5.an : Ann := (.seq .leaf (.seq .leaf (.seq .leaf (.seq .leaf (.seq .leaf .leaf)))))
noncomputable def X5.c : Code := Try.f5.body.getD .skip
theorem X5.v (Q : Value → World → Prop) : V Try.prog (X5.S Q) X5.an X5.c (retC Try.prog Try.f5 Q) := ⟨trivial, ⟨trivial, ⟨trivial, ⟨trivial, ⟨trivial, trivial⟩⟩⟩⟩⟩
theorem X5.sound (a0 : Int) (a1 : Int) (a2 : Int) (w : World) (Q : Value → World → Prop) (h : X5.f a0 a1 a2 w Q) : CallR Try.prog 5 #[.int .u32 a0, .int .i64 a1, .int .i64 a2] w Q :=
  fn_sound noGr mixed Try.func5 (c := X5.c) (an := X5.an) (S := X5.S Q) (φ := fun _ => 0) (args := [.int .u32 a0, .int .i64 a1, .int .i64 a2]) (by kernel_rfl) (by kernel_rfl) (by kernel_rfl) (X5.v Q) (Eq.mp (by kernel_rfl) h)
/-! ### mooring/mooringlaw17.LeaseLive: function 6 -/
def X6.f (a0 : Int) (a1 : Int) (a2 : Int) (w : World) (Q : Value → World → Prop) : Prop := CallR Try.prog 12 #[] w fun v1 w2 => ∃ (y3 : Bool), v1 = .bool y3 ∧ bcase y3 (CallR Try.prog 13 #[.int .u64 a0, .int .u64 a1, .int .u64 a2] w2 fun v4 w5 => ∃ (y6 : Bool), v4 = .bool y6 ∧ CallR Try.prog 18 #[.int .u64 a0, .int .u64 a1, .int .u64 a2] w5 fun v7 w8 => ∃ (y9 : Bool), v7 = .bool y9 ∧ Q (.bool (y6 == y9)) w8) (Q (.bool false) w2)
def X6.S (Q : Value → World → Prop) : Segs
  | _, _, _, _ => False
noncomputable def X6.an : Ann := (.seq .leaf (.seq .leaf .leaf))
noncomputable def X6.c : Code := Try.f6.body.getD .skip
theorem X6.v (Q : Value → World → Prop) : V Try.prog (X6.S Q) X6.an X6.c (retC Try.prog Try.f6 Q) := ⟨trivial, ⟨trivial, trivial⟩⟩
theorem X6.sound (a0 : Int) (a1 : Int) (a2 : Int) (w : World) (Q : Value → World → Prop) (h : X6.f a0 a1 a2 w Q) : CallR Try.prog 6 #[.int .u64 a0, .int .u64 a1, .int .u64 a2] w Q :=
  fn_sound noGr mixed Try.func6 (c := X6.c) (an := X6.an) (S := X6.S Q) (φ := fun _ => 0) (args := [.int .u64 a0, .int .u64 a1, .int .u64 a2]) (by kernel_rfl) (by kernel_rfl) (by kernel_rfl) (X6.v Q) (Eq.mp (by kernel_rfl) h)
/-! ### mooring/mooringlaw17.LeaseWaits: function 7 -/
def X7.f (a0 : Int) (a1 : Int) (a2 : Int) (a3 : Int) (w : World) (Q : Value → World → Prop) : Prop := CallR Try.prog 12 #[] w fun v1 w2 => ∃ (y3 : Bool), v1 = .bool y3 ∧ bcase y3 (CallR Try.prog 14 #[.int .u64 a0] w2 fun v4 w5 => ∃ (y6 : Int), v4 = .int .u64 y6 ∧ CallR Try.prog 19 #[.int .u64 a0] w5 fun v7 w8 => ∃ (y9 : Int), v7 = .int .u64 y9 ∧ bcase (y6 == y9) (CallR Try.prog 15 #[.int .u64 a1, .int .u64 a2, .int .u64 a3] w8 fun v10 w11 => ∃ (y12 : Int), v10 = .int .u64 y12 ∧ CallR Try.prog 20 #[.int .u64 a1, .int .u64 a2, .int .u64 a3] w11 fun v13 w14 => ∃ (y15 : Int), v13 = .int .u64 y15 ∧ Q (.bool (y12 == y15)) w14) (Q (.bool false) w8)) (Q (.bool false) w2)
def X7.S (Q : Value → World → Prop) : Segs
  | _, _, _, _ => False
noncomputable def X7.an : Ann := (.seq .leaf (.seq .leaf .leaf))
noncomputable def X7.c : Code := Try.f7.body.getD .skip
theorem X7.v (Q : Value → World → Prop) : V Try.prog (X7.S Q) X7.an X7.c (retC Try.prog Try.f7 Q) := ⟨trivial, ⟨trivial, trivial⟩⟩
theorem X7.sound (a0 : Int) (a1 : Int) (a2 : Int) (a3 : Int) (w : World) (Q : Value → World → Prop) (h : X7.f a0 a1 a2 a3 w Q) : CallR Try.prog 7 #[.int .u64 a0, .int .u64 a1, .int .u64 a2, .int .u64 a3] w Q :=
  fn_sound noGr mixed Try.func7 (c := X7.c) (an := X7.an) (S := X7.S Q) (φ := fun _ => 0) (args := [.int .u64 a0, .int .u64 a1, .int .u64 a2, .int .u64 a3]) (by kernel_rfl) (by kernel_rfl) (by kernel_rfl) (X7.v Q) (Eq.mp (by kernel_rfl) h)
/-! ### mooring/mooringlaw17.LeaseGrows: function 8 -/
def X8.l0 (Q : Value → World → Prop) : Nat → Int → Int → Int → Int → World → Prop
  | 0, _, _, _, _, _ => False
  | k + 1, t5, t6, t7, t8, w => bcase (decide (t8 < (70 : Int))) (CallR Try.prog 15 #[.int .u64 t7, .int .u64 t5, .int .u64 t6] w fun v1 w2 => ∃ (y3 : Int), v1 = .int .u64 y3 ∧ bcase (decide (y3 > t6)) (Q (.bool false) w2) (bcase (decide (y3 < t7)) (Q (.bool false) w2) (bcase (y3 != t6) (bcase (y3 != (IntKind.wrap .u64 ((2 : Int) * t7))) (Q (.bool false) w2) (X8.l0 Q k t5 t6 y3 (IntKind.wrap .i64 (t8 + (1 : Int))) w2)) (X8.l0 Q k t5 t6 y3 (IntKind.wrap .i64 (t8 + (1 : Int))) w2)))) (Q (.bool (t7 == t6)) w)
def X8.j1 (Q : Value → World → Prop) (t5 : Int) (t6 : Int) (t7 : Int) (w : World) : Prop := ∃ m1, X8.l0 Q m1 t5 t6 t7 (0 : Int) w
def X8.f (a0 : Int) (a1 : Int) (w : World) (Q : Value → World → Prop) : Prop := CallR Try.prog 15 #[.int .u64 (0 : Int), .int .u64 (IntKind.wrap .u64 ((IntKind.wrap .u64 a0) + (1 : Int))), .int .u64 (IntKind.wrap .u64 ((IntKind.wrap .u64 ((IntKind.wrap .u64 a0) + (1 : Int))) + (IntKind.wrap .u64 a1)))] w fun v1 w2 => ∃ (y3 : Int), v1 = .int .u64 y3 ∧ CallR Try.prog 12 #[] w2 fun v4 w5 => ∃ (y6 : Bool), v4 = .bool y6 ∧ bcase (!y6) (Q (.bool false) w5) (bcase (y3 != (IntKind.wrap .u64 ((IntKind.wrap .u64 a0) + (1 : Int)))) (Q (.bool false) w5) (X8.j1 Q (IntKind.wrap .u64 ((IntKind.wrap .u64 a0) + (1 : Int))) (IntKind.wrap .u64 ((IntKind.wrap .u64 ((IntKind.wrap .u64 a0) + (1 : Int))) + (IntKind.wrap .u64 a1))) y3 w5))
def X8.S (Q : Value → World → Prop) : Segs
  | 0, φ, ρ, w => qI .u64 (ρ 5) fun t5 => qI .u64 (ρ 6) fun t6 => qI .u64 (ρ 7) fun t7 => qI .i64 (ρ 8) fun t8 => X8.l0 Q (φ 0) t5 t6 t7 t8 w
  | 1, φ, ρ, w => qI .u64 (ρ 5) fun t5 => qI .u64 (ρ 6) fun t6 => qI .u64 (ρ 7) fun t7 => X8.j1 Q t5 t6 t7 w
  | _, _, _, _ => False
noncomputable def X8.an : Ann := (.seq .leaf (.seq .leaf (.seq .leaf (.seq .leaf (.seq (.seq .leaf (.cond (.seq .leaf .leaf) .leaf)) (.join 1 (.seq (.seq .leaf (.block (.loop 0 (.seq (.seq .leaf (.cond .leaf .leaf)) (.seq (.block (.seq .leaf (.seq (.seq .leaf (.cond (.seq .leaf .leaf) .leaf)) .leaf))) .leaf))))) (.seq .leaf .leaf))))))))
noncomputable def X8.c : Code := Try.f8.body.getD .skip
theorem X8.v (Q : Value → World → Prop) : V Try.prog (X8.S Q) X8.an X8.c (retC Try.prog Try.f8 Q) := ⟨trivial, ⟨trivial, ⟨trivial, ⟨trivial, ⟨⟨trivial, ⟨⟨trivial, trivial⟩, trivial⟩⟩, ⟨(by
    intro φ ρ w h
    simp only [X8.S] at h
    obtain ⟨t5, e5, h⟩ := qI_elim h
    obtain ⟨t6, e6, h⟩ := qI_elim h
    obtain ⟨t7, e7, h⟩ := qI_elim h
    exact ⟨(((Env.nil.put (some 5) (.int .u64 t5)).put (some 6) (.int .u64 t6)).put (some 7) (.int .u64 t7)), Env.le_put e7 (Env.le_put e6 (Env.le_put e5 (Env.le_nil _))), Eq.mp (by kernel_rfl) h⟩), ⟨⟨trivial, ⟨(by
    intro φ ρ w h
    simp only [X8.S] at h
    obtain ⟨t5, e5, h⟩ := qI_elim h
    obtain ⟨t6, e6, h⟩ := qI_elim h
    obtain ⟨t7, e7, h⟩ := qI_elim h
    obtain ⟨t8, e8, h⟩ := qI_elim h
    cases hk : φ 0 with
    | zero => rw [hk] at h; exact h.elim
    | succ k => rw [hk] at h; exact ⟨k, Nat.lt_succ_self k, ((((Env.nil.put (some 5) (.int .u64 t5)).put (some 6) (.int .u64 t6)).put (some 7) (.int .u64 t7)).put (some 8) (.int .i64 t8)), Env.le_put e8 (Env.le_put e7 (Env.le_put e6 (Env.le_put e5 (Env.le_nil _)))), Eq.mp (by kernel_rfl) h⟩), ⟨⟨trivial, ⟨trivial, trivial⟩⟩, ⟨⟨trivial, ⟨⟨trivial, ⟨⟨trivial, trivial⟩, trivial⟩⟩, trivial⟩⟩, trivial⟩⟩⟩⟩, ⟨trivial, trivial⟩⟩⟩⟩⟩⟩⟩⟩
theorem X8.sound (a0 : Int) (a1 : Int) (w : World) (Q : Value → World → Prop) (h : X8.f a0 a1 w Q) : CallR Try.prog 8 #[.int .u32 a0, .int .u32 a1] w Q :=
  fn_sound noGr mixed Try.func8 (c := X8.c) (an := X8.an) (S := X8.S Q) (φ := fun _ => 0) (args := [.int .u32 a0, .int .u32 a1]) (by kernel_rfl) (by kernel_rfl) (by kernel_rfl) (X8.v Q) (Eq.mp (by kernel_rfl) h)
/-! ### mooring/mooringlaw17.LeaseSafe: function 9 -/
def X9.j1 (Q : Value → World → Prop) (b0 : Int → Option Addr → Nat → Nat → Int → Int → Int → Int → Int → Int → Int → World → Prop) (t3 : Int) (t4p : Option Addr) (t4n : Nat) (t4c : Nat) (t11 : Int) (t12 : Int) (t13 : Int) (t14 : Int) (t16 : Int) (t17 : Int) (t18 : Int) (w : World) : Prop := bcase (decide (t18 ≥ t3)) (CallR Try.prog 13 #[.int .u64 (0 : Int), .int .u64 t13, .int .u64 t17] w fun v1 w2 => ∃ (y3 : Bool), v1 = .bool y3 ∧ bcase (!y3) (CallR Try.prog 13 #[.int .u64 (0 : Int), .int .u64 t14, .int .u64 t16] w2 fun v4 w5 => ∃ (y6 : Bool), v4 = .bool y6 ∧ bcase y6 (Q (.bool false) w5) (b0 t3 t4p t4n t4c t11 t12 t13 t14 t16 t17 (IntKind.wrap .i64 (t18 + (1 : Int))) w5)) (b0 t3 t4p t4n t4c t11 t12 t13 t14 t16 t17 (IntKind.wrap .i64 (t18 + (1 : Int))) w2)) (b0 t3 t4p t4n t4c t11 t12 t13 t14 t16 t17 (IntKind.wrap .i64 (t18 + (1 : Int))) w)
def X9.j2 (Q : Value → World → Prop) (b0 : Int → Option Addr → Nat → Nat → Int → Int → Int → Int → Int → Int → Int → World → Prop) (t3 : Int) (t4p : Option Addr) (t4n : Nat) (t4c : Nat) (t11 : Int) (t12 : Int) (t13 : Int) (t14 : Int) (t16 : Int) (t17 : Int) (t18 : Int) (t19 : Int) (t20 : Int) (w : World) : Prop := bcase (decide (t18 ≥ t3)) (X9.j1 Q b0 t3 t4p t4n t4c t11 t12 t13 t14 (IntKind.wrap .u64 (t16 + t19)) (IntKind.wrap .u64 (t17 + t20)) t18 w) (X9.j1 Q b0 t3 t4p t4n t4c t11 t12 t13 t14 (IntKind.wrap .u64 (t16 + t19)) t17 t18 w)
def X9.l0 (Q : Value → World → Prop) : Nat → Int → (Option Addr) → Nat → Nat → Int → Int → Int → Int → Int → Int → Int → World → Prop
  | 0, _, _, _, _, _, _, _, _, _, _, _, _ => False
  | k + 1, t3, t4p, t4n, t4c, t11, t12, t13, t14, t16, t17, t18, w => bcase (decide (t18 < (4000 : Int))) (bcase (decide (((t4n : Nat) : Int) > (0 : Int))) (((t4n : Nat) : Int) ≠ 0 ∧ (0 ≤ (Int.tmod t18 ((t4n : Nat) : Int)) ∧ (Int.tmod t18 ((t4n : Nat) : Int)) < ((t4n : Nat) : Int)) ∧ optP t4p fun p1 => ldI .i64 w (p1.add (Int.toNat (Int.tmod t18 ((t4n : Nat) : Int)) * 1)) fun x2 => CallR Try.prog 17 #[.int .i64 x2, .int .i64 (IntKind.wrap .i64 ((IntKind.wrap .i64 (IntKind.wrap .u64 ((2 : Int) * t12))) + (1 : Int)))] w fun v3 w4 => ∃ (y5 : Int), v3 = .int .i64 y5 ∧ ((t4n : Nat) : Int) ≠ 0 ∧ (0 ≤ (Int.tmod (IntKind.wrap .i64 (t18 + (1 : Int))) ((t4n : Nat) : Int)) ∧ (Int.tmod (IntKind.wrap .i64 (t18 + (1 : Int))) ((t4n : Nat) : Int)) < ((t4n : Nat) : Int)) ∧ optP t4p fun p6 => ldI .i64 w4 (p6.add (Int.toNat (Int.tmod (IntKind.wrap .i64 (t18 + (1 : Int))) ((t4n : Nat) : Int)) * 1)) fun x7 => (3 : Int) ≠ 0 ∧ CallR Try.prog 17 #[.int .i64 (IntKind.wrap .i64 (Int.tdiv x7 (3 : Int))), .int .i64 (IntKind.wrap .i64 ((IntKind.wrap .i64 (IntKind.wrap .u64 ((2 : Int) * t12))) + (1 : Int)))] w4 fun v8 w9 => ∃ (y10 : Int), v8 = .int .i64 y10 ∧ ((t4n : Nat) : Int) ≠ 0 ∧ (0 ≤ (Int.tmod t18 ((t4n : Nat) : Int)) ∧ (Int.tmod t18 ((t4n : Nat) : Int)) < ((t4n : Nat) : Int)) ∧ optP t4p fun p11 => ldI .i64 w9 (p11.add (Int.toNat (Int.tmod t18 ((t4n : Nat) : Int)) * 1)) fun x12 => (3 : Int) ≠ 0 ∧ bcase ((Int.tmod x12 (3 : Int)) == (0 : Int)) (X9.j2 Q (X9.l0 Q k) t3 t4p t4n t4c t11 t12 t13 t14 t16 t17 t18 (IntKind.wrap .u64 (t11 - t12)) (IntKind.wrap .u64 (t11 + t12)) w9) (X9.j2 Q (X9.l0 Q k) t3 t4p t4n t4c t11 t12 t13 t14 t16 t17 t18 (IntKind.wrap .u64 ((IntKind.wrap .u64 (t11 - t12)) + (IntKind.wrap .u64 y5))) (IntKind.wrap .u64 ((IntKind.wrap .u64 (t11 - t12)) + (IntKind.wrap .u64 y10))) w9)) (X9.j2 Q (X9.l0 Q k) t3 t4p t4n t4c t11 t12 t13 t14 t16 t17 t18 t11 t11 w)) (Q (.bool true) w)
def X9.j3 (Q : Value → World → Prop) (t3 : Int) (t4p : Option Addr) (t4n : Nat) (t4c : Nat) (t11 : Int) (t12 : Int) (t13 : Int) (t14 : Int) (w : World) : Prop := CallR Try.prog 17 #[.int .i64 t3, .int .i64 (10 : Int)] w fun v1 w2 => ∃ (y3 : Int), v1 = .int .i64 y3 ∧ ∃ m4, X9.l0 Q m4 y3 t4p t4n t4c t11 t12 t13 t14 (0 : Int) (0 : Int) (0 : Int) w2
def X9.f (a0 : Int) (a1 : Int) (a2 : Int) (a3 : Int) (a4p : Option Addr) (a4n : Nat) (a4c : Nat) (w : World) (Q : Value → World → Prop) : Prop := CallR Try.prog 17 #[.int .i64 a1, .int .i64 (2000 : Int)] w fun v1 w2 => ∃ (y3 : Int), v1 = .int .i64 y3 ∧ CallR Try.prog 17 #[.int .i64 a2, .int .i64 (IntKind.wrap .i64 (IntKind.wrap .u64 (IntKind.wrap .i64 ((1 : Int) + y3))))] w2 fun v4 w5 => ∃ (y6 : Int), v4 = .int .i64 y6 ∧ (100000 : Int) ≠ 0 ∧ CallR Try.prog 11 #[.int .u64 (IntKind.wrap .u64 (Int.tmod a0 (100000 : Int))), .int .u64 (IntKind.wrap .u64 (IntKind.wrap .i64 ((1 : Int) + y3))), .int .u64 (IntKind.wrap .u64 y6)] w5 fun v7 w8 => ∃ (y9 : Int) (y10 : Int), v7 = .tuple #[.int .u64 y9, .int .i64 y10] ∧ CallR Try.prog 12 #[] w8 fun v11 w12 => ∃ (y13 : Bool), v11 = .bool y13 ∧ bcase (!y13) (Q (.bool false) w12) (bcase (y10 != (0 : Int)) (Q (.bool false) w12) (X9.j3 Q a3 a4p a4n a4c (IntKind.wrap .u64 (IntKind.wrap .i64 ((1 : Int) + y3))) (IntKind.wrap .u64 y6) (IntKind.wrap .u64 (Int.tmod a0 (100000 : Int))) y9 w12))
def X9.S (Q : Value → World → Prop) : Segs
  | 0, φ, ρ, w => qI .i64 (ρ 3) fun t3 => qSl (ρ 4) fun t4p t4n t4c => qI .u64 (ρ 11) fun t11 => qI .u64 (ρ 12) fun t12 => qI .u64 (ρ 13) fun t13 => qI .u64 (ρ 14) fun t14 => qI .u64 (ρ 16) fun t16 => qI .u64 (ρ 17) fun t17 => qI .i64 (ρ 18) fun t18 => X9.l0 Q (φ 0) t3 t4p t4n t4c t11 t12 t13 t14 t16 t17 t18 w
  | 1, φ, ρ, w => qI .i64 (ρ 3) fun t3 => qSl (ρ 4) fun t4p t4n t4c => qI .u64 (ρ 11) fun t11 => qI .u64 (ρ 12) fun t12 => qI .u64 (ρ 13) fun t13 => qI .u64 (ρ 14) fun t14 => qI .u64 (ρ 16) fun t16 => qI .u64 (ρ 17) fun t17 => qI .i64 (ρ 18) fun t18 => X9.j1 Q (X9.l0 Q (φ 0)) t3 t4p t4n t4c t11 t12 t13 t14 t16 t17 t18 w
  | 2, φ, ρ, w => qI .i64 (ρ 3) fun t3 => qSl (ρ 4) fun t4p t4n t4c => qI .u64 (ρ 11) fun t11 => qI .u64 (ρ 12) fun t12 => qI .u64 (ρ 13) fun t13 => qI .u64 (ρ 14) fun t14 => qI .u64 (ρ 16) fun t16 => qI .u64 (ρ 17) fun t17 => qI .i64 (ρ 18) fun t18 => qI .u64 (ρ 19) fun t19 => qI .u64 (ρ 20) fun t20 => X9.j2 Q (X9.l0 Q (φ 0)) t3 t4p t4n t4c t11 t12 t13 t14 t16 t17 t18 t19 t20 w
  | 3, φ, ρ, w => qI .i64 (ρ 3) fun t3 => qSl (ρ 4) fun t4p t4n t4c => qI .u64 (ρ 11) fun t11 => qI .u64 (ρ 12) fun t12 => qI .u64 (ρ 13) fun t13 => qI .u64 (ρ 14) fun t14 => X9.j3 Q t3 t4p t4n t4c t11 t12 t13 t14 w
  | _, _, _, _ => False
noncomputable def X9.an : Ann := (.seq .leaf (.seq .leaf (.seq .leaf (.seq .leaf (.seq .leaf (.seq (.seq .leaf (.cond (.seq .leaf .leaf) .leaf)) (.join 3 (.seq .leaf (.seq .leaf (.seq .leaf (.seq (.seq .leaf (.block (.loop 0 (.seq (.seq .leaf (.cond .leaf .leaf)) (.seq (.block (.seq .leaf (.seq .leaf (.seq (.seq .leaf (.cond (.seq .leaf (.seq .leaf (.seq .leaf (.cond (.seq .leaf .leaf) .leaf)))) .leaf)) (.join 2 (.seq .leaf (.seq (.seq .leaf (.cond .leaf .leaf)) (.join 1 (.seq .leaf (.cond (.seq .leaf .leaf) .leaf)))))))))) .leaf))))) (.seq .leaf .leaf))))))))))))
noncomputable def X9.c : Code := Try.f9.body.getD .skip
theorem X9.v (Q : Value → World → Prop) : V Try.prog (X9.S Q) X9.an X9.c (retC Try.prog Try.f9 Q) := ⟨trivial, ⟨trivial, ⟨trivial, ⟨trivial, ⟨trivial, ⟨⟨trivial, ⟨⟨trivial, trivial⟩, trivial⟩⟩, ⟨(by
    intro φ ρ w h
    simp only [X9.S] at h
    obtain ⟨t3, e3, h⟩ := qI_elim h
    obtain ⟨t4p, t4n, t4c, e4, h⟩ := qSl_elim h
    obtain ⟨t11, e11, h⟩ := qI_elim h
    obtain ⟨t12, e12, h⟩ := qI_elim h
    obtain ⟨t13, e13, h⟩ := qI_elim h
    obtain ⟨t14, e14, h⟩ := qI_elim h
    exact ⟨((((((Env.nil.put (some 3) (.int .i64 t3)).put (some 4) (.slice t4p t4n t4c)).put (some 11) (.int .u64 t11)).put (some 12) (.int .u64 t12)).put (some 13) (.int .u64 t13)).put (some 14) (.int .u64 t14)), Env.le_put e14 (Env.le_put e13 (Env.le_put e12 (Env.le_put e11 (Env.le_put e4 (Env.le_put e3 (Env.le_nil _)))))), Eq.mp (by kernel_rfl) h⟩), ⟨trivial, ⟨trivial, ⟨trivial, ⟨⟨trivial, ⟨(by
    intro φ ρ w h
    simp only [X9.S] at h
    obtain ⟨t3, e3, h⟩ := qI_elim h
    obtain ⟨t4p, t4n, t4c, e4, h⟩ := qSl_elim h
    obtain ⟨t11, e11, h⟩ := qI_elim h
    obtain ⟨t12, e12, h⟩ := qI_elim h
    obtain ⟨t13, e13, h⟩ := qI_elim h
    obtain ⟨t14, e14, h⟩ := qI_elim h
    obtain ⟨t16, e16, h⟩ := qI_elim h
    obtain ⟨t17, e17, h⟩ := qI_elim h
    obtain ⟨t18, e18, h⟩ := qI_elim h
    cases hk : φ 0 with
    | zero => rw [hk] at h; exact h.elim
    | succ k => rw [hk] at h; exact ⟨k, Nat.lt_succ_self k, (((((((((Env.nil.put (some 3) (.int .i64 t3)).put (some 4) (.slice t4p t4n t4c)).put (some 11) (.int .u64 t11)).put (some 12) (.int .u64 t12)).put (some 13) (.int .u64 t13)).put (some 14) (.int .u64 t14)).put (some 16) (.int .u64 t16)).put (some 17) (.int .u64 t17)).put (some 18) (.int .i64 t18)), Env.le_put e18 (Env.le_put e17 (Env.le_put e16 (Env.le_put e14 (Env.le_put e13 (Env.le_put e12 (Env.le_put e11 (Env.le_put e4 (Env.le_put e3 (Env.le_nil _))))))))), Eq.mp (by kernel_rfl) h⟩), ⟨⟨trivial, ⟨trivial, trivial⟩⟩, ⟨⟨trivial, ⟨trivial, ⟨⟨trivial, ⟨⟨trivial, ⟨trivial, ⟨trivial, ⟨⟨trivial, trivial⟩, trivial⟩⟩⟩⟩, trivial⟩⟩, ⟨(by
    intro φ ρ w h
    simp only [X9.S] at h
    obtain ⟨t3, e3, h⟩ := qI_elim h
    obtain ⟨t4p, t4n, t4c, e4, h⟩ := qSl_elim h
    obtain ⟨t11, e11, h⟩ := qI_elim h
    obtain ⟨t12, e12, h⟩ := qI_elim h
    obtain ⟨t13, e13, h⟩ := qI_elim h
    obtain ⟨t14, e14, h⟩ := qI_elim h
    obtain ⟨t16, e16, h⟩ := qI_elim h
    obtain ⟨t17, e17, h⟩ := qI_elim h
    obtain ⟨t18, e18, h⟩ := qI_elim h
    obtain ⟨t19, e19, h⟩ := qI_elim h
    obtain ⟨t20, e20, h⟩ := qI_elim h
    exact ⟨(((((((((((Env.nil.put (some 3) (.int .i64 t3)).put (some 4) (.slice t4p t4n t4c)).put (some 11) (.int .u64 t11)).put (some 12) (.int .u64 t12)).put (some 13) (.int .u64 t13)).put (some 14) (.int .u64 t14)).put (some 16) (.int .u64 t16)).put (some 17) (.int .u64 t17)).put (some 18) (.int .i64 t18)).put (some 19) (.int .u64 t19)).put (some 20) (.int .u64 t20)), Env.le_put e20 (Env.le_put e19 (Env.le_put e18 (Env.le_put e17 (Env.le_put e16 (Env.le_put e14 (Env.le_put e13 (Env.le_put e12 (Env.le_put e11 (Env.le_put e4 (Env.le_put e3 (Env.le_nil _))))))))))), Eq.mp (by kernel_rfl) h⟩), ⟨trivial, ⟨⟨trivial, ⟨trivial, trivial⟩⟩, ⟨(by
    intro φ ρ w h
    simp only [X9.S] at h
    obtain ⟨t3, e3, h⟩ := qI_elim h
    obtain ⟨t4p, t4n, t4c, e4, h⟩ := qSl_elim h
    obtain ⟨t11, e11, h⟩ := qI_elim h
    obtain ⟨t12, e12, h⟩ := qI_elim h
    obtain ⟨t13, e13, h⟩ := qI_elim h
    obtain ⟨t14, e14, h⟩ := qI_elim h
    obtain ⟨t16, e16, h⟩ := qI_elim h
    obtain ⟨t17, e17, h⟩ := qI_elim h
    obtain ⟨t18, e18, h⟩ := qI_elim h
    exact ⟨(((((((((Env.nil.put (some 3) (.int .i64 t3)).put (some 4) (.slice t4p t4n t4c)).put (some 11) (.int .u64 t11)).put (some 12) (.int .u64 t12)).put (some 13) (.int .u64 t13)).put (some 14) (.int .u64 t14)).put (some 16) (.int .u64 t16)).put (some 17) (.int .u64 t17)).put (some 18) (.int .i64 t18)), Env.le_put e18 (Env.le_put e17 (Env.le_put e16 (Env.le_put e14 (Env.le_put e13 (Env.le_put e12 (Env.le_put e11 (Env.le_put e4 (Env.le_put e3 (Env.le_nil _))))))))), Eq.mp (by kernel_rfl) h⟩), ⟨trivial, ⟨⟨trivial, trivial⟩, trivial⟩⟩⟩⟩⟩⟩⟩⟩⟩, trivial⟩⟩⟩⟩, ⟨trivial, trivial⟩⟩⟩⟩⟩⟩⟩⟩⟩⟩⟩⟩
theorem X9.sound (a0 : Int) (a1 : Int) (a2 : Int) (a3 : Int) (a4p : Option Addr) (a4n : Nat) (a4c : Nat) (w : World) (Q : Value → World → Prop) (h : X9.f a0 a1 a2 a3 a4p a4n a4c w Q) : CallR Try.prog 9 #[.int .u32 a0, .int .i64 a1, .int .i64 a2, .int .i64 a3, .slice a4p a4n a4c] w Q :=
  fn_sound noGr mixed Try.func9 (c := X9.c) (an := X9.an) (S := X9.S Q) (φ := fun _ => 0) (args := [.int .u32 a0, .int .i64 a1, .int .i64 a2, .int .i64 a3, .slice a4p a4n a4c]) (by kernel_rfl) (by kernel_rfl) (by kernel_rfl) (X9.v Q) (Eq.mp (by kernel_rfl) h)
/-! ### mooring/mooringlaw17.LeaseLeast: function 10 -/
def X10.f (a0 : Int) (a1 : Int) (a2 : Int) (w : World) (Q : Value → World → Prop) : Prop := CallR Try.prog 17 #[.int .i64 a1, .int .i64 (500 : Int)] w fun v1 w2 => ∃ (y3 : Int), v1 = .int .i64 y3 ∧ CallR Try.prog 17 #[.int .i64 a2, .int .i64 (IntKind.wrap .i64 (IntKind.wrap .u64 (IntKind.wrap .i64 ((2 : Int) + y3))))] w2 fun v4 w5 => ∃ (y6 : Int), v4 = .int .i64 y6 ∧ CallR Try.prog 17 #[.int .i64 a0, .int .i64 (50 : Int)] w5 fun v7 w8 => ∃ (y9 : Int), v7 = .int .i64 y9 ∧ CallR Try.prog 11 #[.int .u64 (IntKind.wrap .u64 ((IntKind.wrap .u64 (IntKind.wrap .i64 ((1 : Int) + y9))) * (IntKind.wrap .u64 ((IntKind.wrap .u64 (IntKind.wrap .i64 ((2 : Int) + y3))) + (IntKind.wrap .u64 y6))))), .int .u64 (IntKind.wrap .u64 (IntKind.wrap .i64 ((2 : Int) + y3))), .int .u64 (IntKind.wrap .u64 y6)] w8 fun v10 w11 => ∃ (y12 : Int) (y13 : Int), v10 = .tuple #[.int .u64 y12, .int .i64 y13] ∧ CallR Try.prog 12 #[] w11 fun v14 w15 => ∃ (y16 : Bool), v14 = .bool y16 ∧ bcase y16 (bcase (y13 == (0 : Int)) (bcase (y12 == (IntKind.wrap .u64 ((IntKind.wrap .u64 (IntKind.wrap .i64 ((1 : Int) + y9))) * (IntKind.wrap .u64 ((IntKind.wrap .u64 (IntKind.wrap .i64 ((2 : Int) + y3))) - (IntKind.wrap .u64 y6)))))) (CallR Try.prog 13 #[.int .u64 (0 : Int), .int .u64 y12, .int .u64 (IntKind.wrap .u64 ((IntKind.wrap .u64 ((IntKind.wrap .u64 (IntKind.wrap .i64 ((1 : Int) + y9))) * (IntKind.wrap .u64 ((IntKind.wrap .u64 (IntKind.wrap .i64 ((2 : Int) + y3))) - (IntKind.wrap .u64 y6))))) - (1 : Int)))] w15 fun v17 w18 => ∃ (y19 : Bool), v17 = .bool y19 ∧ bcase y19 (CallR Try.prog 13 #[.int .u64 (0 : Int), .int .u64 y12, .int .u64 (IntKind.wrap .u64 ((IntKind.wrap .u64 (IntKind.wrap .i64 ((1 : Int) + y9))) * (IntKind.wrap .u64 ((IntKind.wrap .u64 (IntKind.wrap .i64 ((2 : Int) + y3))) - (IntKind.wrap .u64 y6)))))] w18 fun v20 w21 => ∃ (y22 : Bool), v20 = .bool y22 ∧ Q (.bool (!y22)) w21) (Q (.bool false) w18)) (Q (.bool false) w15)) (Q (.bool false) w15)) (Q (.bool false) w15)
def X10.S (Q : Value → World → Prop) : Segs
  | _, _, _, _ => False
noncomputable def X10.an : Ann := (.seq .leaf (.seq .leaf (.seq .leaf (.seq .leaf (.seq .leaf (.seq .leaf (.seq .leaf .leaf)))))))
noncomputable def X10.c : Code := Try.f10.body.getD .skip
theorem X10.v (Q : Value → World → Prop) : V Try.prog (X10.S Q) X10.an X10.c (retC Try.prog Try.f10 Q) := ⟨trivial, ⟨trivial, ⟨trivial, ⟨trivial, ⟨trivial, ⟨trivial, ⟨trivial, trivial⟩⟩⟩⟩⟩⟩⟩
theorem X10.sound (a0 : Int) (a1 : Int) (a2 : Int) (w : World) (Q : Value → World → Prop) (h : X10.f a0 a1 a2 w Q) : CallR Try.prog 10 #[.int .i64 a0, .int .i64 a1, .int .i64 a2] w Q :=
  fn_sound noGr mixed Try.func10 (c := X10.c) (an := X10.an) (S := X10.S Q) (φ := fun _ => 0) (args := [.int .i64 a0, .int .i64 a1, .int .i64 a2]) (by kernel_rfl) (by kernel_rfl) (by kernel_rfl) (X10.v Q) (Eq.mp (by kernel_rfl) h)
/-! ### mooring/lease.Holder: function 11 -/
def X11.f (a0 : Int) (a1 : Int) (a2 : Int) (w : World) (Q : Value → World → Prop) : Prop := bcase (decide (a1 < (1 : Int))) (Q (.tuple #[.int .u64 (0 : Int), .int .i64 (1 : Int)]) w) (bcase (decide (a1 > (1048576 : Int))) (Q (.tuple #[.int .u64 (0 : Int), .int .i64 (1 : Int)]) w) (bcase (decide (a2 ≥ a1)) (Q (.tuple #[.int .u64 (0 : Int), .int .i64 (1 : Int)]) w) (bcase (decide (a0 > (4294967295 : Int))) (Q (.tuple #[.int .u64 (0 : Int), .int .i64 (1 : Int)]) w) ((IntKind.wrap .u64 (a1 + a2)) ≠ 0 ∧ Q (.tuple #[.int .u64 (IntKind.wrap .u64 (Int.tdiv (IntKind.wrap .u64 (a0 * (IntKind.wrap .u64 (a1 - a2)))) (IntKind.wrap .u64 (a1 + a2)))), .int .i64 (0 : Int)]) w))))
def X11.S (Q : Value → World → Prop) : Segs
  | _, _, _, _ => False
noncomputable def X11.an : Ann := (.seq .leaf (.seq (.seq .leaf (.cond (.seq .leaf .leaf) .leaf)) (.seq .leaf .leaf)))
noncomputable def X11.c : Code := Try.f11.body.getD .skip
theorem X11.v (Q : Value → World → Prop) : V Try.prog (X11.S Q) X11.an X11.c (retC Try.prog Try.f11 Q) := ⟨trivial, ⟨⟨trivial, ⟨⟨trivial, trivial⟩, trivial⟩⟩, ⟨trivial, trivial⟩⟩⟩
theorem X11.sound (a0 : Int) (a1 : Int) (a2 : Int) (w : World) (Q : Value → World → Prop) (h : X11.f a0 a1 a2 w Q) : CallR Try.prog 11 #[.int .u64 a0, .int .u64 a1, .int .u64 a2] w Q :=
  fn_sound noGr mixed Try.func11 (c := X11.c) (an := X11.an) (S := X11.S Q) (φ := fun _ => 0) (args := [.int .u64 a0, .int .u64 a1, .int .u64 a2]) (by kernel_rfl) (by kernel_rfl) (by kernel_rfl) (X11.v Q) (Eq.mp (by kernel_rfl) h)
/-! ### mooring/mooringlaw17.known: function 12 -/
def X12.f (w : World) (Q : Value → World → Prop) : Prop := CallR Try.prog 11 #[.int .u64 (100 : Int), .int .u64 (10 : Int), .int .u64 (1 : Int)] w fun v1 w2 => ∃ (y3 : Int) (y4 : Int), v1 = .tuple #[.int .u64 y3, .int .i64 y4] ∧ bcase (y3 == (81 : Int)) (bcase (y4 == (0 : Int)) (CallR Try.prog 13 #[.int .u64 (5 : Int), .int .u64 (3 : Int), .int .u64 (7 : Int)] w2 fun v5 w6 => ∃ (y7 : Bool), v5 = .bool y7 ∧ bcase y7 (CallR Try.prog 13 #[.int .u64 (5 : Int), .int .u64 (3 : Int), .int .u64 (8 : Int)] w6 fun v8 w9 => ∃ (y10 : Bool), v8 = .bool y10 ∧ bcase (!y10) (CallR Try.prog 14 #[.int .u64 (100 : Int)] w9 fun v11 w12 => ∃ (y13 : Int), v11 = .int .u64 y13 ∧ bcase (y13 == (25 : Int)) (CallR Try.prog 15 #[.int .u64 (4 : Int), .int .u64 (4 : Int), .int .u64 (20 : Int)] w12 fun v14 w15 => ∃ (y16 : Int), v14 = .int .u64 y16 ∧ Q (.bool (y16 == (8 : Int))) w15) (Q (.bool false) w12)) (Q (.bool false) w9)) (Q (.bool false) w6)) (Q (.bool false) w2)) (Q (.bool false) w2)
def X12.S (Q : Value → World → Prop) : Segs
  | _, _, _, _ => False
noncomputable def X12.an : Ann := (.seq .leaf (.seq .leaf (.seq .leaf .leaf)))
noncomputable def X12.c : Code := Try.f12.body.getD .skip
theorem X12.v (Q : Value → World → Prop) : V Try.prog (X12.S Q) X12.an X12.c (retC Try.prog Try.f12 Q) := ⟨trivial, ⟨trivial, ⟨trivial, trivial⟩⟩⟩
theorem X12.sound (w : World) (Q : Value → World → Prop) (h : X12.f  w Q) : CallR Try.prog 12 #[] w Q :=
  fn_sound noGr mixed Try.func12 (c := X12.c) (an := X12.an) (S := X12.S Q) (φ := fun _ => 0) (args := []) (by kernel_rfl) (by kernel_rfl) (by kernel_rfl) (X12.v Q) (Eq.mp (by kernel_rfl) h)
/-! ### mooring/lease.Live: function 13 -/
def X13.f (a0 : Int) (a1 : Int) (a2 : Int) (w : World) (Q : Value → World → Prop) : Prop := bcase (decide (a2 ≥ a0)) (Q (.bool (decide ((IntKind.wrap .u64 (a2 - a0)) < a1))) w) (Q (.bool false) w)
def X13.S (Q : Value → World → Prop) : Segs
  | _, _, _, _ => False
noncomputable def X13.an : Ann := (.seq .leaf (.seq .leaf .leaf))
noncomputable def X13.c : Code := Try.f13.body.getD .skip
theorem X13.v (Q : Value → World → Prop) : V Try.prog (X13.S Q) X13.an X13.c (retC Try.prog Try.f13 Q) := ⟨trivial, ⟨trivial, trivial⟩⟩
theorem X13.sound (a0 : Int) (a1 : Int) (a2 : Int) (w : World) (Q : Value → World → Prop) (h : X13.f a0 a1 a2 w Q) : CallR Try.prog 13 #[.int .u64 a0, .int .u64 a1, .int .u64 a2] w Q :=
  fn_sound noGr mixed Try.func13 (c := X13.c) (an := X13.an) (S := X13.S Q) (φ := fun _ => 0) (args := [.int .u64 a0, .int .u64 a1, .int .u64 a2]) (by kernel_rfl) (by kernel_rfl) (by kernel_rfl) (X13.v Q) (Eq.mp (by kernel_rfl) h)
/-! ### mooring/lease.Every: function 14 -/
def X14.f (a0 : Int) (w : World) (Q : Value → World → Prop) : Prop := (4 : Int) ≠ 0 ∧ Q (.int .u64 (max2 (IntKind.wrap .u64 (Int.tdiv a0 (4 : Int))) (1 : Int))) w
def X14.S (Q : Value → World → Prop) : Segs
  | _, _, _, _ => False
noncomputable def X14.an : Ann := (.seq .leaf (.seq .leaf .leaf))
noncomputable def X14.c : Code := Try.f14.body.getD .skip
theorem X14.v (Q : Value → World → Prop) : V Try.prog (X14.S Q) X14.an X14.c (retC Try.prog Try.f14 Q) := ⟨trivial, ⟨trivial, trivial⟩⟩
theorem X14.sound (a0 : Int) (w : World) (Q : Value → World → Prop) (h : X14.f a0 w Q) : CallR Try.prog 14 #[.int .u64 a0] w Q :=
  fn_sound noGr mixed Try.func14 (c := X14.c) (an := X14.an) (S := X14.S Q) (φ := fun _ => 0) (args := [.int .u64 a0]) (by kernel_rfl) (by kernel_rfl) (by kernel_rfl) (X14.v Q) (Eq.mp (by kernel_rfl) h)
/-! ### mooring/lease.Wait: function 15 -/
def X15.f (a0 : Int) (a1 : Int) (a2 : Int) (w : World) (Q : Value → World → Prop) : Prop := bcase (a0 == (0 : Int)) (Q (.int .u64 (min2 a1 a2)) w) ((2 : Int) ≠ 0 ∧ bcase (decide (a0 > (IntKind.wrap .u64 (Int.tdiv a2 (2 : Int))))) (Q (.int .u64 a2) w) (Q (.int .u64 (IntKind.wrap .u64 ((2 : Int) * a0))) w))
def X15.S (Q : Value → World → Prop) : Segs
  | _, _, _, _ => False
noncomputable def X15.an : Ann := (.seq .leaf (.seq (.block (.seq .leaf (.cond (.seq .leaf .leaf) (.seq .leaf (.cond (.seq .leaf .leaf) .leaf))))) (.seq .leaf .leaf)))
noncomputable def X15.c : Code := Try.f15.body.getD .skip
theorem X15.v (Q : Value → World → Prop) : V Try.prog (X15.S Q) X15.an X15.c (retC Try.prog Try.f15 Q) := ⟨trivial, ⟨⟨trivial, ⟨⟨trivial, trivial⟩, ⟨trivial, ⟨⟨trivial, trivial⟩, trivial⟩⟩⟩⟩, ⟨trivial, trivial⟩⟩⟩
theorem X15.sound (a0 : Int) (a1 : Int) (a2 : Int) (w : World) (Q : Value → World → Prop) (h : X15.f a0 a1 a2 w Q) : CallR Try.prog 15 #[.int .u64 a0, .int .u64 a1, .int .u64 a2] w Q :=
  fn_sound noGr mixed Try.func15 (c := X15.c) (an := X15.an) (S := X15.S Q) (φ := fun _ => 0) (args := [.int .u64 a0, .int .u64 a1, .int .u64 a2]) (by kernel_rfl) (by kernel_rfl) (by kernel_rfl) (X15.v Q) (Eq.mp (by kernel_rfl) h)
/-! ### mooring/mooringref3.Holder: function 16 -/
def X16.f (a0 : Int) (a1 : Int) (a2 : Int) (w : World) (Q : Value → World → Prop) : Prop := bcase (a1 == (0 : Int)) (Q (.tuple #[.int .u64 (0 : Int), .int .i64 (1 : Int)]) w) (bcase (decide (a1 > (1048576 : Int))) (Q (.tuple #[.int .u64 (0 : Int), .int .i64 (1 : Int)]) w) (bcase (decide (a2 ≥ a1)) (Q (.tuple #[.int .u64 (0 : Int), .int .i64 (1 : Int)]) w) (bcase (decide (a0 > (4294967295 : Int))) (Q (.tuple #[.int .u64 (0 : Int), .int .i64 (1 : Int)]) w) ((IntKind.wrap .u64 (a1 + a2)) ≠ 0 ∧ Q (.tuple #[.int .u64 (IntKind.wrap .u64 (Int.tdiv (IntKind.wrap .u64 (a0 * (IntKind.wrap .u64 (a1 - a2)))) (IntKind.wrap .u64 (a1 + a2)))), .int .i64 (0 : Int)]) w))))
def X16.S (Q : Value → World → Prop) : Segs
  | _, _, _, _ => False
noncomputable def X16.an : Ann := (.seq .leaf (.seq (.seq .leaf (.cond (.seq .leaf .leaf) .leaf)) (.seq .leaf .leaf)))
noncomputable def X16.c : Code := Try.f16.body.getD .skip
theorem X16.v (Q : Value → World → Prop) : V Try.prog (X16.S Q) X16.an X16.c (retC Try.prog Try.f16 Q) := ⟨trivial, ⟨⟨trivial, ⟨⟨trivial, trivial⟩, trivial⟩⟩, ⟨trivial, trivial⟩⟩⟩
theorem X16.sound (a0 : Int) (a1 : Int) (a2 : Int) (w : World) (Q : Value → World → Prop) (h : X16.f a0 a1 a2 w Q) : CallR Try.prog 16 #[.int .u64 a0, .int .u64 a1, .int .u64 a2] w Q :=
  fn_sound noGr mixed Try.func16 (c := X16.c) (an := X16.an) (S := X16.S Q) (φ := fun _ => 0) (args := [.int .u64 a0, .int .u64 a1, .int .u64 a2]) (by kernel_rfl) (by kernel_rfl) (by kernel_rfl) (X16.v Q) (Eq.mp (by kernel_rfl) h)
/-! ### mooring/mooringhand.Pick: function 17 -/
def X17.f (a0 : Int) (a1 : Int) (w : World) (Q : Value → World → Prop) : Prop := a1 ≠ 0 ∧ bcase (decide ((Int.tmod a0 a1) < (0 : Int))) (Q (.int .i64 (IntKind.wrap .i64 ((Int.tmod a0 a1) + a1))) w) (Q (.int .i64 (Int.tmod a0 a1)) w)
def X17.S (Q : Value → World → Prop) : Segs
  | _, _, _, _ => False
noncomputable def X17.an : Ann := (.seq .leaf (.seq .leaf (.seq (.seq .leaf (.cond .leaf .leaf)) (.seq .leaf .leaf))))
noncomputable def X17.c : Code := Try.f17.body.getD .skip
theorem X17.v (Q : Value → World → Prop) : V Try.prog (X17.S Q) X17.an X17.c (retC Try.prog Try.f17 Q) := ⟨trivial, ⟨trivial, ⟨⟨trivial, ⟨trivial, trivial⟩⟩, ⟨trivial, trivial⟩⟩⟩⟩
theorem X17.sound (a0 : Int) (a1 : Int) (w : World) (Q : Value → World → Prop) (h : X17.f a0 a1 w Q) : CallR Try.prog 17 #[.int .i64 a0, .int .i64 a1] w Q :=
  fn_sound noGr mixed Try.func17 (c := X17.c) (an := X17.an) (S := X17.S Q) (φ := fun _ => 0) (args := [.int .i64 a0, .int .i64 a1]) (by kernel_rfl) (by kernel_rfl) (by kernel_rfl) (X17.v Q) (Eq.mp (by kernel_rfl) h)
/-! ### mooring/mooringref3.Live: function 18 -/
def X18.f (a0 : Int) (a1 : Int) (a2 : Int) (w : World) (Q : Value → World → Prop) : Prop := bcase (decide (a2 ≥ a0)) (Q (.bool (decide ((IntKind.wrap .u64 (a2 - a0)) < a1))) w) (Q (.bool false) w)
def X18.S (Q : Value → World → Prop) : Segs
  | _, _, _, _ => False
noncomputable def X18.an : Ann := (.seq .leaf (.seq .leaf .leaf))
noncomputable def X18.c : Code := Try.f18.body.getD .skip
theorem X18.v (Q : Value → World → Prop) : V Try.prog (X18.S Q) X18.an X18.c (retC Try.prog Try.f18 Q) := ⟨trivial, ⟨trivial, trivial⟩⟩
theorem X18.sound (a0 : Int) (a1 : Int) (a2 : Int) (w : World) (Q : Value → World → Prop) (h : X18.f a0 a1 a2 w Q) : CallR Try.prog 18 #[.int .u64 a0, .int .u64 a1, .int .u64 a2] w Q :=
  fn_sound noGr mixed Try.func18 (c := X18.c) (an := X18.an) (S := X18.S Q) (φ := fun _ => 0) (args := [.int .u64 a0, .int .u64 a1, .int .u64 a2]) (by kernel_rfl) (by kernel_rfl) (by kernel_rfl) (X18.v Q) (Eq.mp (by kernel_rfl) h)
/-! ### mooring/mooringref3.Every: function 19 -/
def X19.f (a0 : Int) (w : World) (Q : Value → World → Prop) : Prop := (4 : Int) ≠ 0 ∧ Q (.int .u64 (max2 (1 : Int) (IntKind.wrap .u64 (Int.tdiv a0 (4 : Int))))) w
def X19.S (Q : Value → World → Prop) : Segs
  | _, _, _, _ => False
noncomputable def X19.an : Ann := (.seq .leaf (.seq .leaf .leaf))
noncomputable def X19.c : Code := Try.f19.body.getD .skip
theorem X19.v (Q : Value → World → Prop) : V Try.prog (X19.S Q) X19.an X19.c (retC Try.prog Try.f19 Q) := ⟨trivial, ⟨trivial, trivial⟩⟩
theorem X19.sound (a0 : Int) (w : World) (Q : Value → World → Prop) (h : X19.f a0 w Q) : CallR Try.prog 19 #[.int .u64 a0] w Q :=
  fn_sound noGr mixed Try.func19 (c := X19.c) (an := X19.an) (S := X19.S Q) (φ := fun _ => 0) (args := [.int .u64 a0]) (by kernel_rfl) (by kernel_rfl) (by kernel_rfl) (X19.v Q) (Eq.mp (by kernel_rfl) h)
/-! ### mooring/mooringref3.Wait: function 20 -/
def X20.f (a0 : Int) (a1 : Int) (a2 : Int) (w : World) (Q : Value → World → Prop) : Prop := bcase (a0 == (0 : Int)) (Q (.int .u64 (min2 a1 a2)) w) ((2 : Int) ≠ 0 ∧ bcase (decide (a0 > (IntKind.wrap .u64 (Int.tdiv a2 (2 : Int))))) (Q (.int .u64 a2) w) (Q (.int .u64 (min2 (IntKind.wrap .u64 ((2 : Int) * a0)) a2)) w))
def X20.S (Q : Value → World → Prop) : Segs
  | _, _, _, _ => False
noncomputable def X20.an : Ann := (.seq .leaf (.seq (.seq .leaf (.cond (.seq .leaf .leaf) .leaf)) (.seq (.seq .leaf (.cond (.seq .leaf .leaf) .leaf)) (.seq .leaf .leaf))))
noncomputable def X20.c : Code := Try.f20.body.getD .skip
theorem X20.v (Q : Value → World → Prop) : V Try.prog (X20.S Q) X20.an X20.c (retC Try.prog Try.f20 Q) := ⟨trivial, ⟨⟨trivial, ⟨⟨trivial, trivial⟩, trivial⟩⟩, ⟨⟨trivial, ⟨⟨trivial, trivial⟩, trivial⟩⟩, ⟨trivial, trivial⟩⟩⟩⟩
theorem X20.sound (a0 : Int) (a1 : Int) (a2 : Int) (w : World) (Q : Value → World → Prop) (h : X20.f a0 a1 a2 w Q) : CallR Try.prog 20 #[.int .u64 a0, .int .u64 a1, .int .u64 a2] w Q :=
  fn_sound noGr mixed Try.func20 (c := X20.c) (an := X20.an) (S := X20.S Q) (φ := fun _ => 0) (args := [.int .u64 a0, .int .u64 a1, .int .u64 a2]) (by kernel_rfl) (by kernel_rfl) (by kernel_rfl) (X20.v Q) (Eq.mp (by kernel_rfl) h)
end Go.Proofs.YtemdahcphdofmaaX
