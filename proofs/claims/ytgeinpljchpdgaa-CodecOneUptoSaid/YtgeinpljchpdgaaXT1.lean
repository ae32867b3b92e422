/- What the functions' bodies come to, and that a call does so: printed by gen.py. -/
import Derived.Test.YtgeinpljchpdgaaProg
import Derived.Test.YtgeinpljchpdgaaXFn
namespace Go.Proofs.YtgeinpljchpdgaaX
open Go.RowKit
set_option linter.unusedVariables false
set_option maxRecDepth 100000
theorem noGr : NoGr Try.prog := by unfold NoGr; kernel_rfl
theorem mixed : Try.prog.follows .mixedOrders = true := by kernel_rfl
/-! ### mooring/mooringlaw1.CodecWrites: function 3 -/
def X3.l1 (Q : Value → World → Prop) (b0 : Option Addr → Nat → Nat → Option Addr → Nat → Nat → Option Addr → Int → World → Prop) : Nat → (Option Addr) → Nat → Nat → (Option Addr) → Nat → Nat → (Option Addr) → Int → (Option Addr) → Nat → Nat → Int → World → Prop
  | 0, _, _, _, _, _, _, _, _, _, _, _, _, _ => False
  | k + 1, t0p, t0n, t0c, t3p, t3n, t3c, t4, t5, t6p, t6n, t6c, t7, w => bcase (decide (t7 < ((t6n : Nat) : Int))) ((0 ≤ t7 ∧ t7 < ((t6n : Nat) : Int)) ∧ optP t6p fun p1 => stK w (p1.add (Int.toNat t7 * 1)) (.int .u8 (238 : Int)) fun w2 => X3.l1 Q b0 k t0p t0n t0c t3p t3n t3c t4 t5 t6p t6n t6c (IntKind.wrap .i64 (t7 + (1 : Int))) w2) (b0 t0p t0n t0c t3p t3n t3c t4 (IntKind.wrap .i64 (t5 + (1 : Int))) w)
def X3.l2 (Q : Value → World → Prop) : Nat → (Option Addr) → Nat → Nat → (Option Addr) → (Option Addr) → Nat → Nat → Bool → Int → World → Prop
  | 0, _, _, _, _, _, _, _, _, _, _ => False
  | k + 1, t3p, t3n, t3c, t4, t8p, t8n, t8c, t9, t10, w => bcase (decide (t10 < ((t8n : Nat) : Int))) ((0 ≤ t10 ∧ t10 < ((t8n : Nat) : Int)) ∧ optP t8p fun p1 => stK w (p1.add (Int.toNat t10 * 1)) (.int .u8 (238 : Int)) fun w2 => X3.l2 Q k t3p t3n t3c t4 t8p t8n t8c t9 (IntKind.wrap .i64 (t10 + (1 : Int))) w2) (drewK w fun w3 => bcase t9 (CallR Try.prog 20 #[.pointer t4] w3 fun v4 w5 => ∃ (y6p : Option Addr) (y6n y6c : Nat), v4 = .slice y6p y6n y6c ∧ ∃ bs7 : List Int, BytesAt w5 y6p y6n bs7 ∧ ∃ bs8 : List Int, BytesAt w5 t3p t3n bs8 ∧ (BytesAt w3 t3p t3n bs8 ∧ BytesAt w5 t3p t3n bs8) ∧ Q (.bool (strEq (strOfNums bs7) (strOfNums bs8))) w5) (Q (.bool false) w3))
def X3.l0 (Q : Value → World → Prop) : Nat → (Option Addr) → Nat → Nat → (Option Addr) → Nat → Nat → (Option Addr) → Int → World → Prop
  | 0, _, _, _, _, _, _, _, _, _ => False
  | k + 1, t0p, t0n, t0c, t3p, t3n, t3c, t4, t5, w => bcase (decide (t5 < ((t0n : Nat) : Int))) ((0 ≤ t5 ∧ t5 < ((t0n : Nat) : Int)) ∧ optP t0p fun p1 => ldI .i64 w ((p1.add (Int.toNat t5 * 4)).add 0) fun x2 => CallR Try.prog 14 #[.int .i64 x2, .int .i64 (3 : Int)] w fun v3 w4 => ∃ (y5 : Int), v3 = .int .i64 y5 ∧ bcase (y5 == (0 : Int)) ((0 ≤ t5 ∧ t5 < ((t0n : Nat) : Int)) ∧ optP t0p fun p6 => ldI .u8 w4 ((p6.add (Int.toNat t5 * 4)).add 1) fun x7 => CallR Try.prog 15 #[.pointer t4, .int .u8 x7] w4 fun v8 w9 => v8 = .tuple #[] ∧ (0 ≤ t5 ∧ t5 < ((t0n : Nat) : Int)) ∧ optP t0p fun p10 => ldI .u8 w9 ((p10.add (Int.toNat t5 * 4)).add 1) fun x11 => newK w9 #[.int .u8 x11] 5 fun g12 w13 => RunR Try.prog (Builtin.append_ #[23, 23] 23 #[.slice t3p t3n t3c, .slice (some g12) 1 1]) w13 fun v14 w15 => ∃ (s16p : Option Addr) (s16n s16c : Nat), v14 = .slice s16p s16n s16c ∧ X3.l0 Q k t0p t0n t0c s16p s16n s16c t4 (IntKind.wrap .i64 (t5 + (1 : Int))) w15) (bcase (y5 == (1 : Int)) ((0 ≤ t5 ∧ t5 < ((t0n : Nat) : Int)) ∧ optP t0p fun p17 => ldI .u64 w4 ((p17.add (Int.toNat t5 * 4)).add 2) fun x18 => CallR Try.prog 16 #[.pointer t4, .int .u64 x18] w4 fun v19 w20 => v19 = .tuple #[] ∧ (0 ≤ t5 ∧ t5 < ((t0n : Nat) : Int)) ∧ optP t0p fun p21 => ldI .u64 w20 ((p21.add (Int.toNat t5 * 4)).add 2) fun x22 => CallR Try.prog 17 #[.int .u64 x22] w20 fun v23 w24 => ∃ (y25p : Option Addr) (y25n y25c : Nat), v23 = .slice y25p y25n y25c ∧ RunR Try.prog (Builtin.append_ #[23, 23] 23 #[.slice t3p t3n t3c, .slice y25p y25n y25c]) w24 fun v26 w27 => ∃ (s28p : Option Addr) (s28n s28c : Nat), v26 = .slice s28p s28n s28c ∧ X3.l0 Q k t0p t0n t0c s28p s28n s28c t4 (IntKind.wrap .i64 (t5 + (1 : Int))) w27) (newK w4 #[] 5 fun g29 w30 => (0 ≤ t5 ∧ t5 < ((t0n : Nat) : Int)) ∧ optP t0p fun p31 => ldSl w30 ((p31.add (Int.toNat t5 * 4)).add 3) fun x32p x32n x32c => RunR Try.prog (Builtin.append_ #[23, 23] 23 #[.slice (some g29) 0 0, .slice x32p x32n x32c]) w30 fun v33 w34 => ∃ (s35p : Option Addr) (s35n s35c : Nat), v33 = .slice s35p s35n s35c ∧ CallR Try.prog 18 #[.pointer t4, .slice s35p s35n s35c] w34 fun v36 w37 => v36 = .tuple #[] ∧ (0 ≤ t5 ∧ t5 < ((t0n : Nat) : Int)) ∧ optP t0p fun p38 => ldSl w37 ((p38.add (Int.toNat t5 * 4)).add 3) fun x39p x39n x39c => CallR Try.prog 19 #[.slice x39p x39n x39c] w37 fun v40 w41 => ∃ (y42p : Option Addr) (y42n y42c : Nat), v40 = .slice y42p y42n y42c ∧ RunR Try.prog (Builtin.append_ #[23, 23] 23 #[.slice t3p t3n t3c, .slice y42p y42n y42c]) w41 fun v43 w44 => ∃ (s45p : Option Addr) (s45n s45c : Nat), v43 = .slice s45p s45n s45c ∧ drewK w44 fun w46 => ∃ bs47 : List Int, BytesAt w46 s35p s35n bs47 ∧ (0 ≤ t5 ∧ t5 < ((t0n : Nat) : Int)) ∧ optP t0p fun p48 => ldSl w46 ((p48.add (Int.toNat t5 * 4)).add 3) fun x49p x49n x49c => ∃ bs50 : List Int, BytesAt w46 x49p x49n bs50 ∧ bcase (!strEq (strOfNums bs47) (strOfNums bs50)) (Q (.bool false) w46) (∃ m51, X3.l1 Q (X3.l0 Q k) m51 t0p t0n t0c s45p s45n s45c t4 t5 s35p s35n s35c (0 : Int) w46)))) (CallR Try.prog 20 #[.pointer t4] w fun v52 w53 => ∃ (y54p : Option Addr) (y54n y54c : Nat), v52 = .slice y54p y54n y54c ∧ ∃ bs55 : List Int, BytesAt w53 y54p y54n bs55 ∧ ∃ bs56 : List Int, BytesAt w53 t3p t3n bs56 ∧ ∃ m57, X3.l2 Q m57 t3p t3n t3c t4 y54p y54n y54c (strEq (strOfNums bs55) (strOfNums bs56)) (0 : Int) w53)
def X3.j3 (Q : Value → World → Prop) (t0p : Option Addr) (t0n : Nat) (t0c : Nat) (t3p : Option Addr) (t3n : Nat) (t3c : Nat) (t4 : Option Addr) (w : World) : Prop := ∃ m1, X3.l0 Q m1 t0p t0n t0c t3p t3n t3c t4 (0 : Int) w
def X3.f (a0p : Option Addr) (a0n : Nat) (a0c : Nat) (w : World) (Q : Value → World → Prop) : Prop := CallR Try.prog 12 #[] w fun v1 w2 => ∃ (y3 : Option Addr), v1 = .pointer y3 ∧ CallR Try.prog 13 #[] w2 fun v4 w5 => ∃ (y6 : Bool), v4 = .bool y6 ∧ bcase (!y6) (Q (.bool false) w5) (bcase (Option.isNone y3) (Q (.bool false) w5) (X3.j3 Q a0p a0n a0c none 0 0 y3 w5))
def X3.S (Q : Value → World → Prop) : Segs
  | 0, φ, ρ, w => qSl (ρ 0) fun t0p t0n t0c => qSl (ρ 3) fun t3p t3n t3c => qP (ρ 4) fun t4 => qI .i64 (ρ 5) fun t5 => X3.l0 Q (φ 0) t0p t0n t0c t3p t3n t3c t4 t5 w
  | 1, φ, ρ, w => qSl (ρ 0) fun t0p t0n t0c => qSl (ρ 3) fun t3p t3n t3c => qP (ρ 4) fun t4 => qI .i64 (ρ 5) fun t5 => qSl (ρ 6) fun t6p t6n t6c => qI .i64 (ρ 7) fun t7 => X3.l1 Q (X3.l0 Q (φ 0)) (φ 1) t0p t0n t0c t3p t3n t3c t4 t5 t6p t6n t6c t7 w
  | 2, φ, ρ, w => qSl (ρ 3) fun t3p t3n t3c => qP (ρ 4) fun t4 => qSl (ρ 8) fun t8p t8n t8c => qB (ρ 9) fun t9 => qI .i64 (ρ 10) fun t10 => X3.l2 Q (φ 2) t3p t3n t3c t4 t8p t8n t8c t9 t10 w
  | 3, φ, ρ, w => qSl (ρ 0) fun t0p t0n t0c => qSl (ρ 3) fun t3p t3n t3c => qP (ρ 4) fun t4 => X3.j3 Q t0p t0n t0c t3p t3n t3c t4 w
  | _, _, _, _ => False
noncomputable def X3.an : Ann := (.seq .leaf (.seq .leaf (.seq .leaf (.seq (.seq .leaf (.cond (.seq .leaf .leaf) .leaf)) (.join 3 (.seq (.seq .leaf (.block (.loop 0 (.seq (.seq .leaf (.cond .leaf .leaf)) (.seq (.block (.seq .leaf (.block (.seq .leaf (.cond (.seq .leaf .leaf) (.seq .leaf (.cond (.seq .leaf .leaf) (.seq .leaf (.seq .leaf (.seq .leaf (.seq (.seq (.draw [0, 1, 0, 0, 12, 28, 60, 124, 255] [[0, 1, 2, 3, 4, 5, 6, 7, 8]]) (.cond (.seq .leaf .leaf) .leaf)) (.seq .leaf (.block (.loop 1 (.seq (.seq .leaf (.cond .leaf .leaf)) (.seq (.block .leaf) .leaf)))))))))))))))) .leaf))))) (.seq .leaf (.seq .leaf (.seq (.seq .leaf (.block (.loop 2 (.seq (.seq .leaf (.cond .leaf .leaf)) (.seq (.block .leaf) .leaf))))) (.seq (.draw [0, 1, 3, 7, 15, 3, 35, 127, 255, 511] [[0, 1, 2, 3, 4, 5, 6, 7, 8, 9]]) .leaf))))))))))
noncomputable def X3.c : Code := Try.f3.body.getD .skip
theorem X3.v (Q : Value → World → Prop) : V Try.prog (X3.S Q) X3.an X3.c (retC Try.prog Try.f3 Q) := ⟨trivial, ⟨trivial, ⟨trivial, ⟨⟨trivial, ⟨⟨trivial, trivial⟩, trivial⟩⟩, ⟨(by
    intro φ ρ w h
    simp only [X3.S] at h
    obtain ⟨t0p, t0n, t0c, e0, h⟩ := qSl_elim h
    obtain ⟨t3p, t3n, t3c, e3, h⟩ := qSl_elim h
    obtain ⟨t4, e4, h⟩ := qP_elim h
    exact ⟨(((Env.nil.put (some 0) (.slice t0p t0n t0c)).put (some 3) (.slice t3p t3n t3c)).put (some 4) (.pointer t4)), Env.le_put e4 (Env.le_put e3 (Env.le_put e0 (Env.le_nil _))), Eq.mp (by kernel_rfl) h⟩), ⟨⟨trivial, ⟨(by
    intro φ ρ w h
    simp only [X3.S] at h
    obtain ⟨t0p, t0n, t0c, e0, h⟩ := qSl_elim h
    obtain ⟨t3p, t3n, t3c, e3, h⟩ := qSl_elim h
    obtain ⟨t4, e4, h⟩ := qP_elim h
    obtain ⟨t5, e5, h⟩ := qI_elim h
    cases hk : φ 0 with
    | zero => rw [hk] at h; exact h.elim
    | succ k => rw [hk] at h; exact ⟨k, Nat.lt_succ_self k, ((((Env.nil.put (some 0) (.slice t0p t0n t0c)).put (some 3) (.slice t3p t3n t3c)).put (some 4) (.pointer t4)).put (some 5) (.int .i64 t5)), Env.le_put e5 (Env.le_put e4 (Env.le_put e3 (Env.le_put e0 (Env.le_nil _)))), Eq.mp (by kernel_rfl) h⟩), ⟨⟨trivial, ⟨trivial, trivial⟩⟩, ⟨⟨trivial, ⟨trivial, ⟨⟨trivial, trivial⟩, ⟨trivial, ⟨⟨trivial, trivial⟩, ⟨trivial, ⟨trivial, ⟨trivial, ⟨⟨trivial, ⟨⟨trivial, trivial⟩, trivial⟩⟩, ⟨trivial, ⟨(by
    intro φ ρ w h
    simp only [X3.S] at h
    obtain ⟨t0p, t0n, t0c, e0, h⟩ := qSl_elim h
    obtain ⟨t3p, t3n, t3c, e3, h⟩ := qSl_elim h
    obtain ⟨t4, e4, h⟩ := qP_elim h
    obtain ⟨t5, e5, h⟩ := qI_elim h
    obtain ⟨t6p, t6n, t6c, e6, h⟩ := qSl_elim h
    obtain ⟨t7, e7, h⟩ := qI_elim h
    cases hk : φ 1 with
    | zero => rw [hk] at h; exact h.elim
    | succ k => rw [hk] at h; exact ⟨k, Nat.lt_succ_self k, ((((((Env.nil.put (some 0) (.slice t0p t0n t0c)).put (some 3) (.slice t3p t3n t3c)).put (some 4) (.pointer t4)).put (some 5) (.int .i64 t5)).put (some 6) (.slice t6p t6n t6c)).put (some 7) (.int .i64 t7)), Env.le_put e7 (Env.le_put e6 (Env.le_put e5 (Env.le_put e4 (Env.le_put e3 (Env.le_put e0 (Env.le_nil _)))))), Eq.mp (by kernel_rfl) h⟩), ⟨⟨trivial, ⟨trivial, trivial⟩⟩, ⟨trivial, trivial⟩⟩⟩⟩⟩⟩⟩⟩⟩⟩⟩⟩⟩, trivial⟩⟩⟩⟩, ⟨trivial, ⟨trivial, ⟨⟨trivial, ⟨(by
    intro φ ρ w h
    simp only [X3.S] at h
    obtain ⟨t3p, t3n, t3c, e3, h⟩ := qSl_elim h
    obtain ⟨t4, e4, h⟩ := qP_elim h
    obtain ⟨t8p, t8n, t8c, e8, h⟩ := qSl_elim h
    obtain ⟨t9, e9, h⟩ := qB_elim h
    obtain ⟨t10, e10, h⟩ := qI_elim h
    cases hk : φ 2 with
    | zero => rw [hk] at h; exact h.elim
    | succ k => rw [hk] at h; exact ⟨k, Nat.lt_succ_self k, (((((Env.nil.put (some 3) (.slice t3p t3n t3c)).put (some 4) (.pointer t4)).put (some 8) (.slice t8p t8n t8c)).put (some 9) (.bool t9)).put (some 10) (.int .i64 t10)), Env.le_put e10 (Env.le_put e9 (Env.le_put e8 (Env.le_put e4 (Env.le_put e3 (Env.le_nil _))))), Eq.mp (by kernel_rfl) h⟩), ⟨⟨trivial, ⟨trivial, trivial⟩⟩, ⟨trivial, trivial⟩⟩⟩⟩, ⟨trivial, trivial⟩⟩⟩⟩⟩⟩⟩⟩⟩⟩
theorem X3.sound (a0p : Option Addr) (a0n : Nat) (a0c : Nat) (w : World) (Q : Value → World → Prop) (h : X3.f a0p a0n a0c w Q) : CallR Try.prog 3 #[.slice a0p a0n a0c] w Q :=
  fn_sound noGr mixed Try.func3 (c := X3.c) (an := X3.an) (S := X3.S Q) (φ := fun _ => 0) (args := [.slice a0p a0n a0c]) (by kernel_rfl) (by kernel_rfl) (by kernel_rfl) (X3.v Q) (Eq.mp (by kernel_rfl) h)
/-! ### mooring/mooringlaw1.CodecSums: function 4 -/
def X4.f (a0p : Option Addr) (a0n : Nat) (a0c : Nat) (w : World) (Q : Value → World → Prop) : Prop := newK w #[] 5 fun g1 w2 => RunR Try.prog (Builtin.append_ #[23, 23] 23 #[.slice (some g1) 0 0, .slice a0p a0n a0c]) w2 fun v3 w4 => ∃ (s5p : Option Addr) (s5n s5c : Nat), v3 = .slice s5p s5n s5c ∧ CallR Try.prog 21 #[.slice s5p s5n s5c] w4 fun v6 w7 => ∃ (y8p : Option Addr) (y8n y8c : Nat) (y9 : Int), v6 = .tuple #[.slice y8p y8n y8c, .int .i64 y9] ∧ CallR Try.prog 22 #[.slice a0p a0n a0c] w7 fun v10 w11 => ∃ (y12p : Option Addr) (y12n y12c : Nat) (y13 : Int), v10 = .tuple #[.slice y12p y12n y12c, .int .i64 y13] ∧ CallR Try.prog 23 #[.slice s5p s5n s5c] w11 fun v14 w15 => ∃ (y16p : Option Addr) (y16n y16c : Nat), v14 = .slice y16p y16n y16c ∧ CallR Try.prog 21 #[.slice y16p y16n y16c] w15 fun v17 w18 => ∃ (y19p : Option Addr) (y19n y19c : Nat) (y20 : Int), v17 = .tuple #[.slice y19p y19n y19c, .int .i64 y20] ∧ drewK w18 fun w21 => CallR Try.prog 13 #[] w21 fun v22 w23 => ∃ (y24 : Bool), v22 = .bool y24 ∧ bcase y24 (CallR Try.prog 24 #[.slice s5p s5n s5c] w23 fun v25 w26 => ∃ (y27 : Int), v25 = .int .u32 y27 ∧ CallR Try.prog 25 #[.slice a0p a0n a0c] w26 fun v28 w29 => ∃ (y30 : Int), v28 = .int .u32 y30 ∧ bcase (y27 == y30) (∃ bs31 : List Int, BytesAt w29 y16p y16n bs31 ∧ CallR Try.prog 26 #[.slice a0p a0n a0c] w29 fun v32 w33 => ∃ (y34p : Option Addr) (y34n y34c : Nat), v32 = .slice y34p y34n y34c ∧ (BytesAt w29 y16p y16n bs31 ∧ BytesAt w33 y16p y16n bs31) ∧ ∃ bs35 : List Int, BytesAt w33 y34p y34n bs35 ∧ bcase (strEq (strOfNums bs31) (strOfNums bs35)) (∃ bs36 : List Int, BytesAt w33 y8p y8n bs36 ∧ ∃ bs37 : List Int, BytesAt w33 y12p y12n bs37 ∧ bcase (strEq (strOfNums bs36) (strOfNums bs37)) (bcase (y9 == y13) (∃ bs38 : List Int, BytesAt w33 y19p y19n bs38 ∧ ∃ bs39 : List Int, BytesAt w33 a0p a0n bs39 ∧ bcase (strEq (strOfNums bs38) (strOfNums bs39)) (bcase (y20 == (0 : Int)) (∃ bs40 : List Int, BytesAt w33 s5p s5n bs40 ∧ ∃ bs41 : List Int, BytesAt w33 a0p a0n bs41 ∧ Q (.bool (strEq (strOfNums bs40) (strOfNums bs41))) w33) (Q (.bool false) w33)) (Q (.bool false) w33)) (Q (.bool false) w33)) (Q (.bool false) w33)) (Q (.bool false) w33)) (Q (.bool false) w29)) (Q (.bool false) w23)
def X4.S (Q : Value → World → Prop) : Segs
  | _, _, _, _ => False
noncomputable def X4.an : Ann := (.seq .leaf (.seq .leaf (.seq .leaf (.seq .leaf (.seq .leaf (.seq .leaf (.seq (.draw [0, 1, 3, 7, 3, 31, 63, 127, 255, 511, 1023, 511, 2559, 6655, 16383, 32767, 65535, 131071, 262143, 131071, 655359, 2097151, 4194303, 8388607, 16777215, 16777215, 67108863, 134217727, 268435455, 536870911, 1073741823, 536870911, 2684354559, 8589934591, 17179869183, 34359738367, 68719476735, 137438953471, 274877906943, 549755813887, 1099511627775, 2199023255551, 1099511627775, 5497558138879, 17592186044415, 35184372088831, 70368744177663] [[0, 1, 2, 3, 4, 5, 6, 7, 8, 9, 10, 11, 12, 13, 14, 15, 16, 17, 18, 19, 20, 21, 22, 23, 24, 25, 26, 27, 28, 29, 30, 31, 32, 33, 34, 35, 36, 37, 38, 39, 40, 41, 42, 43, 44, 45, 46]]) .leaf)))))))
noncomputable def X4.c : Code := Try.f4.body.getD .skip
theorem X4.v (Q : Value → World → Prop) : V Try.prog (X4.S Q) X4.an X4.c (retC Try.prog Try.f4 Q) := ⟨trivial, ⟨trivial, ⟨trivial, ⟨trivial, ⟨trivial, ⟨trivial, ⟨trivial, trivial⟩⟩⟩⟩⟩⟩⟩
theorem X4.sound (a0p : Option Addr) (a0n : Nat) (a0c : Nat) (w : World) (Q : Value → World → Prop) (h : X4.f a0p a0n a0c w Q) : CallR Try.prog 4 #[.slice a0p a0n a0c] w Q :=
  fn_sound noGr mixed Try.func4 (c := X4.c) (an := X4.an) (S := X4.S Q) (φ := fun _ => 0) (args := [.slice a0p a0n a0c]) (by kernel_rfl) (by kernel_rfl) (by kernel_rfl) (X4.v Q) (Eq.mp (by kernel_rfl) h)
/-! ### mooring/mooringlaw1.CodecTurned: function 5 -/
def X5.j0 (Q : Value → World → Prop) (t1 : Int) (t2 : Int) (t7p : Option Addr) (t7n : Nat) (t7c : Nat) (w : World) : Prop := CallR Try.prog 14 #[.int .i64 t1, .int .i64 ((t7n : Nat) : Int)] w fun v1 w2 => ∃ (y3 : Int), v1 = .int .i64 y3 ∧ drewK w2 fun w4 => (0 ≤ y3 ∧ y3 < ((t7n : Nat) : Int)) ∧ optP t7p fun p5 => ldI .u8 w4 (p5.add (Int.toNat y3 * 1)) fun x6 => CallR Try.prog 14 #[.int .i64 t2, .int .i64 (255 : Int)] w4 fun v7 w8 => ∃ (y9 : Int), v7 = .int .i64 y9 ∧ (World.cell? w4 (p5.add (Int.toNat y3 * 1)) = some (.int .u8 x6) ∧ World.cell? w8 (p5.add (Int.toNat y3 * 1)) = some (.int .u8 x6)) ∧ (0 ≤ y3 ∧ y3 < ((t7n : Nat) : Int)) ∧ optP t7p fun p10 => stK w8 (p10.add (Int.toNat y3 * 1)) (.int .u8 (iXor .u8 x6 (IntKind.wrap .u8 (IntKind.wrap .i64 ((1 : Int) + y9))))) fun w11 => CallR Try.prog 21 #[.slice t7p t7n t7c] w11 fun v12 w13 => ∃ (y14p : Option Addr) (y14n y14c : Nat) (y15 : Int), v12 = .tuple #[.slice y14p y14n y14c, .int .i64 y15] ∧ bcase (y15 == (23 : Int)) (Q (.bool (((y14n : Nat) : Int) == (0 : Int))) w13) (Q (.bool false) w13)
def X5.f (a0p : Option Addr) (a0n : Nat) (a0c : Nat) (a1 : Int) (a2 : Int) (w : World) (Q : Value → World → Prop) : Prop := CallR Try.prog 23 #[.slice a0p a0n a0c] w fun v1 w2 => ∃ (y3p : Option Addr) (y3n y3c : Nat), v1 = .slice y3p y3n y3c ∧ CallR Try.prog 13 #[] w2 fun v4 w5 => ∃ (y6 : Bool), v4 = .bool y6 ∧ bcase (!y6) (Q (.bool false) w5) (bcase (((y3n : Nat) : Int) != (IntKind.wrap .i64 (((a0n : Nat) : Int) + (4 : Int)))) (Q (.bool false) w5) (X5.j0 Q a1 a2 y3p y3n y3c w5))
def X5.S (Q : Value → World → Prop) : Segs
  | 0, φ, ρ, w => qI .i64 (ρ 1) fun t1 => qI .i64 (ρ 2) fun t2 => qSl (ρ 7) fun t7p t7n t7c => X5.j0 Q t1 t2 t7p t7n t7c w
  | _, _, _, _ => False
noncomputable def X5.an : Ann := (.seq .leaf (.seq .leaf (.seq (.seq .leaf (.cond (.seq .leaf .leaf) .leaf)) (.join 0 (.seq .leaf (.seq (.draw [0, 0, 0, 0, 12, 28, 0, 64, 192, 448, 1020, 2047, 4095] [[0, 1, 2, 3, 4, 5, 6, 7, 8, 9, 10, 11, 12]]) (.seq .leaf (.seq .leaf .leaf))))))))
noncomputable def X5.c : Code := Try.f5.body.getD .skip
theorem X5.v (Q : Value → World → Prop) : V Try.prog (X5.S Q) X5.an X5.c (retC Try.prog Try.f5 Q) := ⟨trivial, ⟨trivial, ⟨⟨trivial, ⟨⟨trivial, trivial⟩, trivial⟩⟩, ⟨(by
    intro φ ρ w h
    simp only [X5.S] at h
    obtain ⟨t1, e1, h⟩ := qI_elim h
    obtain ⟨t2, e2, h⟩ := qI_elim h
    obtain ⟨t7p, t7n, t7c, e7, h⟩ := qSl_elim h
    exact ⟨(((Env.nil.put (some 1) (.int .i64 t1)).put (some 2) (.int .i64 t2)).put (some 7) (.slice t7p t7n t7c)), Env.le_put e7 (Env.le_put e2 (Env.le_put e1 (Env.le_nil _))), Eq.mp (by kernel_rfl) h⟩), ⟨trivial, ⟨trivial, ⟨trivial, ⟨trivial, trivial⟩⟩⟩⟩⟩⟩⟩⟩
theorem X5.sound (a0p : Option Addr) (a0n : Nat) (a0c : Nat) (a1 : Int) (a2 : Int) (w : World) (Q : Value → World → Prop) (h : X5.f a0p a0n a0c a1 a2 w Q) : CallR Try.prog 5 #[.slice a0p a0n a0c, .int .i64 a1, .int .i64 a2] w Q :=
  fn_sound noGr mixed Try.func5 (c := X5.c) (an := X5.an) (S := X5.S Q) (φ := fun _ => 0) (args := [.slice a0p a0n a0c, .int .i64 a1, .int .i64 a2]) (by kernel_rfl) (by kernel_rfl) (by kernel_rfl) (X5.v Q) (Eq.mp (by kernel_rfl) h)
/-! ### mooring/mooringlaw1.CodecReads: function 6 -/
def X6.f (a0p : Option Addr) (a0n : Nat) (a0c : Nat) (a1p : Option Addr) (a1n : Nat) (a1c : Nat) (w : World) (Q : Value → World → Prop) : Prop := CallR Try.prog 13 #[] w fun v1 w2 => ∃ (y3 : Bool), v1 = .bool y3 ∧ bcase y3 (CallR Try.prog 27 #[.slice a0p a0n a0c, .slice a1p a1n a1c] w2 fun v4 w5 => ∃ (y6 : Bool), v4 = .bool y6 ∧ Q (.bool y6) w5) (Q (.bool false) w2)
def X6.S (Q : Value → World → Prop) : Segs
  | _, _, _, _ => False
noncomputable def X6.an : Ann := (.seq .leaf (.seq .leaf .leaf))
noncomputable def X6.c : Code := Try.f6.body.getD .skip
theorem X6.v (Q : Value → World → Prop) : V Try.prog (X6.S Q) X6.an X6.c (retC Try.prog Try.f6 Q) := ⟨trivial, ⟨trivial, trivial⟩⟩
theorem X6.sound (a0p : Option Addr) (a0n : Nat) (a0c : Nat) (a1p : Option Addr) (a1n : Nat) (a1c : Nat) (w : World) (Q : Value → World → Prop) (h : X6.f a0p a0n a0c a1p a1n a1c w Q) : CallR Try.prog 6 #[.slice a0p a0n a0c, .slice a1p a1n a1c] w Q :=
  fn_sound noGr mixed Try.func6 (c := X6.c) (an := X6.an) (S := X6.S Q) (φ := fun _ => 0) (args := [.slice a0p a0n a0c, .slice a1p a1n a1c]) (by kernel_rfl) (by kernel_rfl) (by kernel_rfl) (X6.v Q) (Eq.mp (by kernel_rfl) h)
/-! ### mooring/mooringlaw1.CodecNear: function 7 -/
def X7.j1 (Q : Value → World → Prop) (b0 : Option Addr → Nat → Nat → Option Addr → Nat → Nat → Option Addr → Nat → Nat → Option Addr → Nat → Nat → Int → World → Prop) (t0p : Option Addr) (t0n : Nat) (t0c : Nat) (t3p : Option Addr) (t3n : Nat) (t3c : Nat) (t9p : Option Addr) (t9n : Nat) (t9c : Nat) (t10p : Option Addr) (t10n : Nat) (t10c : Nat) (t11 : Int) (t12 : Addr) (t50 : Bool) (w : World) : Prop := bcase t50 ((0 ≤ t11 ∧ t11 < ((t3n : Nat) : Int)) ∧ optP t3p fun p1 => ldI .u8 w ((p1.add (Int.toNat t11 * 4)).add 1) fun x2 => stK w (t12.add 1) (.int .u8 x2) fun w3 => (0 ≤ t11 ∧ t11 < ((t3n : Nat) : Int)) ∧ optP t3p fun p4 => ldI .u64 w3 ((p4.add (Int.toNat t11 * 4)).add 2) fun x5 => stK w3 (t12.add 2) (.int .u64 x5) fun w6 => (0 ≤ t11 ∧ t11 < ((t3n : Nat) : Int)) ∧ optP t3p fun p7 => ldI .i64 w6 ((p7.add (Int.toNat t11 * 4)).add 3) fun x8 => stK w6 (t12.add 3) (.int .i64 x8) fun w9 => ldI .i64 w9 (t12.add 0) fun x10 => ldI .u8 w9 (t12.add 1) fun x11 => ldI .u64 w9 (t12.add 2) fun x12 => ldI .i64 w9 (t12.add 3) fun x13 => newK w9 #[.int .i64 x10, .int .u8 x11, .int .u64 x12, .int .i64 x13] 49 fun g14 w15 => RunR Try.prog (Builtin.append_ #[45, 45] 45 #[.slice t10p t10n t10c, .slice (some g14) 1 1]) w15 fun v16 w17 => ∃ (s18p : Option Addr) (s18n s18c : Nat), v16 = .slice s18p s18n s18c ∧ b0 t0p t0n t0c t3p t3n t3c t9p t9n t9c s18p s18n s18c (IntKind.wrap .i64 (t11 + (1 : Int))) w17) (ldI .i64 w (t12.add 0) fun x19 => ldI .u8 w (t12.add 1) fun x20 => ldI .u64 w (t12.add 2) fun x21 => ldI .i64 w (t12.add 3) fun x22 => newK w #[.int .i64 x19, .int .u8 x20, .int .u64 x21, .int .i64 x22] 49 fun g23 w24 => RunR Try.prog (Builtin.append_ #[45, 45] 45 #[.slice t10p t10n t10c, .slice (some g23) 1 1]) w24 fun v25 w26 => ∃ (s27p : Option Addr) (s27n s27c : Nat), v25 = .slice s27p s27n s27c ∧ b0 t0p t0n t0c t3p t3n t3c t9p t9n t9c s27p s27n s27c (IntKind.wrap .i64 (t11 + (1 : Int))) w26)
def X7.l0 (Q : Value → World → Prop) : Nat → (Option Addr) → Nat → Nat → (Option Addr) → Nat → Nat → (Option Addr) → Nat → Nat → (Option Addr) → Nat → Nat → Int → World → Prop
  | 0, _, _, _, _, _, _, _, _, _, _, _, _, _, _ => False
  | k + 1, t0p, t0n, t0c, t3p, t3n, t3c, t9p, t9n, t9c, t10p, t10n, t10c, t11, w => bcase (decide (t11 < ((t0n : Nat) : Int))) ((0 ≤ t11 ∧ t11 < ((t0n : Nat) : Int)) ∧ optP t0p fun p1 => ldI .i64 w ((p1.add (Int.toNat t11 * 4)).add 0) fun x2 => CallR Try.prog 14 #[.int .i64 x2, .int .i64 (3 : Int)] w fun v3 w4 => ∃ (y5 : Int), v3 = .int .i64 y5 ∧ newK w4 #[.int .i64 (0 : Int), .int .u8 (0 : Int), .int .u64 (0 : Int), .int .i64 (0 : Int)] 49 fun g6 w7 => stAll w7 g6 [.int .i64 y5, .int .u8 (255 : Int), .int .u64 (18446744073709551615 : Int), .int .i64 (1048576 : Int)] fun w8 => bcase (decide (t11 < ((t3n : Nat) : Int))) ((0 ≤ t11 ∧ t11 < ((t3n : Nat) : Int)) ∧ optP t3p fun p9 => ldI .i64 w8 ((p9.add (Int.toNat t11 * 4)).add 0) fun x10 => (3 : Int) ≠ 0 ∧ X7.j1 Q (X7.l0 Q k) t0p t0n t0c t3p t3n t3c t9p t9n t9c t10p t10n t10c t11 g6 ((Int.tmod x10 (3 : Int)) == (0 : Int)) w8) (X7.j1 Q (X7.l0 Q k) t0p t0n t0c t3p t3n t3c t9p t9n t9c t10p t10n t10c t11 g6 false w8)) (CallR Try.prog 13 #[] w fun v11 w12 => ∃ (y13 : Bool), v11 = .bool y13 ∧ bcase y13 (CallR Try.prog 27 #[.slice t9p t9n t9c, .slice t10p t10n t10c] w12 fun v14 w15 => ∃ (y16 : Bool), v14 = .bool y16 ∧ Q (.bool y16) w15) (Q (.bool false) w12))
def X7.j2 (Q : Value → World → Prop) (t0p : Option Addr) (t0n : Nat) (t0c : Nat) (t3p : Option Addr) (t3n : Nat) (t3c : Nat) (t9p : Option Addr) (t9n : Nat) (t9c : Nat) (w : World) : Prop := ∃ m1, X7.l0 Q m1 t0p t0n t0c t3p t3n t3c t9p t9n t9c none 0 0 (0 : Int) w
def X7.f (a0p : Option Addr) (a0n : Nat) (a0c : Nat) (a1 : Int) (a2 : Int) (a3p : Option Addr) (a3n : Nat) (a3c : Nat) (w : World) (Q : Value → World → Prop) : Prop := CallR Try.prog 28 #[.slice a0p a0n a0c] w fun v1 w2 => ∃ (y3p : Option Addr) (y3n y3c : Nat), v1 = .slice y3p y3n y3c ∧ bcase (decide (((y3n : Nat) : Int) > (0 : Int))) (CallR Try.prog 14 #[.int .i64 a1, .int .i64 ((y3n : Nat) : Int)] w2 fun v4 w5 => ∃ (y6 : Int), v4 = .int .i64 y6 ∧ (0 ≤ y6 ∧ y6 < ((y3n : Nat) : Int)) ∧ optP y3p fun p7 => stK w5 (p7.add (Int.toNat y6 * 1)) (.int .u8 a2) fun w8 => X7.j2 Q a0p a0n a0c a3p a3n a3c y3p y3n y3c w8) (X7.j2 Q a0p a0n a0c a3p a3n a3c y3p y3n y3c w2)
def X7.S (Q : Value → World → Prop) : Segs
  | 0, φ, ρ, w => qSl (ρ 0) fun t0p t0n t0c => qSl (ρ 3) fun t3p t3n t3c => qSl (ρ 9) fun t9p t9n t9c => qSl (ρ 10) fun t10p t10n t10c => qI .i64 (ρ 11) fun t11 => X7.l0 Q (φ 0) t0p t0n t0c t3p t3n t3c t9p t9n t9c t10p t10n t10c t11 w
  | 1, φ, ρ, w => qSl (ρ 0) fun t0p t0n t0c => qSl (ρ 3) fun t3p t3n t3c => qSl (ρ 9) fun t9p t9n t9c => qSl (ρ 10) fun t10p t10n t10c => qI .i64 (ρ 11) fun t11 => qA (ρ 12) fun t12 => qB (ρ 50) fun t50 => X7.j1 Q (X7.l0 Q (φ 0)) t0p t0n t0c t3p t3n t3c t9p t9n t9c t10p t10n t10c t11 t12 t50 w
  | 2, φ, ρ, w => qSl (ρ 0) fun t0p t0n t0c => qSl (ρ 3) fun t3p t3n t3c => qSl (ρ 9) fun t9p t9n t9c => X7.j2 Q t0p t0n t0c t3p t3n t3c t9p t9n t9c w
  | _, _, _, _ => False
noncomputable def X7.an : Ann := (.seq .leaf (.seq .leaf (.seq (.seq .leaf (.cond .leaf .leaf)) (.join 2 (.seq .leaf (.seq (.seq .leaf (.block (.loop 0 (.seq (.seq .leaf (.cond .leaf .leaf)) (.seq (.block (.seq .leaf (.seq (.seq .leaf (.join 1 (.cond (.seq .leaf (.seq .leaf .leaf)) .leaf))) .leaf))) .leaf))))) (.seq .leaf .leaf)))))))
noncomputable def X7.c : Code := Try.f7.body.getD .skip
theorem X7.v (Q : Value → World → Prop) : V Try.prog (X7.S Q) X7.an X7.c (retC Try.prog Try.f7 Q) := ⟨trivial, ⟨trivial, ⟨⟨trivial, ⟨trivial, trivial⟩⟩, ⟨(by
    intro φ ρ w h
    simp only [X7.S] at h
    obtain ⟨t0p, t0n, t0c, e0, h⟩ := qSl_elim h
    obtain ⟨t3p, t3n, t3c, e3, h⟩ := qSl_elim h
    obtain ⟨t9p, t9n, t9c, e9, h⟩ := qSl_elim h
    exact ⟨(((Env.nil.put (some 0) (.slice t0p t0n t0c)).put (some 3) (.slice t3p t3n t3c)).put (some 9) (.slice t9p t9n t9c)), Env.le_put e9 (Env.le_put e3 (Env.le_put e0 (Env.le_nil _))), Eq.mp (by kernel_rfl) h⟩), ⟨trivial, ⟨⟨trivial, ⟨(by
    intro φ ρ w h
    simp only [X7.S] at h
    obtain ⟨t0p, t0n, t0c, e0, h⟩ := qSl_elim h
    obtain ⟨t3p, t3n, t3c, e3, h⟩ := qSl_elim h
    obtain ⟨t9p, t9n, t9c, e9, h⟩ := qSl_elim h
    obtain ⟨t10p, t10n, t10c, e10, h⟩ := qSl_elim h
    obtain ⟨t11, e11, h⟩ := qI_elim h
    cases hk : φ 0 with
    | zero => rw [hk] at h; exact h.elim
    | succ k => rw [hk] at h; exact ⟨k, Nat.lt_succ_self k, (((((Env.nil.put (some 0) (.slice t0p t0n t0c)).put (some 3) (.slice t3p t3n t3c)).put (some 9) (.slice t9p t9n t9c)).put (some 10) (.slice t10p t10n t10c)).put (some 11) (.int .i64 t11)), Env.le_put e11 (Env.le_put e10 (Env.le_put e9 (Env.le_put e3 (Env.le_put e0 (Env.le_nil _))))), Eq.mp (by kernel_rfl) h⟩), ⟨⟨trivial, ⟨trivial, trivial⟩⟩, ⟨⟨trivial, ⟨⟨trivial, ⟨(by
    intro φ ρ w h
    simp only [X7.S] at h
    obtain ⟨t0p, t0n, t0c, e0, h⟩ := qSl_elim h
    obtain ⟨t3p, t3n, t3c, e3, h⟩ := qSl_elim h
    obtain ⟨t9p, t9n, t9c, e9, h⟩ := qSl_elim h
    obtain ⟨t10p, t10n, t10c, e10, h⟩ := qSl_elim h
    obtain ⟨t11, e11, h⟩ := qI_elim h
    obtain ⟨t12, e12, h⟩ := qA_elim h
    obtain ⟨t50, e50, h⟩ := qB_elim h
    exact ⟨(((((((Env.nil.put (some 0) (.slice t0p t0n t0c)).put (some 3) (.slice t3p t3n t3c)).put (some 9) (.slice t9p t9n t9c)).put (some 10) (.slice t10p t10n t10c)).put (some 11) (.int .i64 t11)).put (some 12) (.pointer (some t12))).put (some 50) (.bool t50)), Env.le_put e50 (Env.le_put e12 (Env.le_put e11 (Env.le_put e10 (Env.le_put e9 (Env.le_put e3 (Env.le_put e0 (Env.le_nil _))))))), Eq.mp (by kernel_rfl) h⟩), ⟨⟨trivial, ⟨trivial, trivial⟩⟩, trivial⟩⟩⟩, trivial⟩⟩, trivial⟩⟩⟩⟩, ⟨trivial, trivial⟩⟩⟩⟩⟩⟩⟩
theorem X7.sound (a0p : Option Addr) (a0n : Nat) (a0c : Nat) (a1 : Int) (a2 : Int) (a3p : Option Addr) (a3n : Nat) (a3c : Nat) (w : World) (Q : Value → World → Prop) (h : X7.f a0p a0n a0c a1 a2 a3p a3n a3c w Q) : CallR Try.prog 7 #[.slice a0p a0n a0c, .int .i64 a1, .int .u8 a2, .slice a3p a3n a3c] w Q :=
  fn_sound noGr mixed Try.func7 (c := X7.c) (an := X7.an) (S := X7.S Q) (φ := fun _ => 0) (args := [.slice a0p a0n a0c, .int .i64 a1, .int .u8 a2, .slice a3p a3n a3c]) (by kernel_rfl) (by kernel_rfl) (by kernel_rfl) (X7.v Q) (Eq.mp (by kernel_rfl) h)
/-! ### mooring/mooringlaw1.CodecBack: function 8 -/
def X8.l0 (Q : Value → World → Prop) : Nat → (Option Addr) → Nat → Nat → (Option Addr) → Int → World → Prop
  | 0, _, _, _, _, _, _ => False
  | k + 1, t0p, t0n, t0c, t3, t4, w => bcase (decide (t4 < ((t0n : Nat) : Int))) ((0 ≤ t4 ∧ t4 < ((t0n : Nat) : Int)) ∧ optP t0p fun p1 => ldI .i64 w ((p1.add (Int.toNat t4 * 4)).add 0) fun x2 => CallR Try.prog 14 #[.int .i64 x2, .int .i64 (3 : Int)] w fun v3 w4 => ∃ (y5 : Int), v3 = .int .i64 y5 ∧ bcase (y5 == (0 : Int)) (drewK w4 fun w6 => (0 ≤ t4 ∧ t4 < ((t0n : Nat) : Int)) ∧ optP t0p fun p7 => ldI .u8 w6 ((p7.add (Int.toNat t4 * 4)).add 1) fun x8 => CallR Try.prog 30 #[.pointer t3, .int .u8 x8] w6 fun v9 w10 => ∃ (y11 : Int), v9 = .int .u8 y11 ∧ (0 ≤ t4 ∧ t4 < ((t0n : Nat) : Int)) ∧ optP t0p fun p12 => ldI .u8 w10 ((p12.add (Int.toNat t4 * 4)).add 1) fun x13 => (World.cell? w6 ((p12.add (Int.toNat t4 * 4)).add 1) = some (.int .u8 x13) ∧ World.cell? w10 ((p12.add (Int.toNat t4 * 4)).add 1) = some (.int .u8 x13)) ∧ bcase (y11 != x13) (Q (.bool false) w10) (X8.l0 Q k t0p t0n t0c t3 (IntKind.wrap .i64 (t4 + (1 : Int))) w10)) (bcase (y5 == (1 : Int)) (drewK w4 fun w14 => (0 ≤ t4 ∧ t4 < ((t0n : Nat) : Int)) ∧ optP t0p fun p15 => ldI .u64 w14 ((p15.add (Int.toNat t4 * 4)).add 2) fun x16 => CallR Try.prog 31 #[.pointer t3, .int .u64 x16] w14 fun v17 w18 => ∃ (y19 : Int), v17 = .int .u64 y19 ∧ (0 ≤ t4 ∧ t4 < ((t0n : Nat) : Int)) ∧ optP t0p fun p20 => ldI .u64 w18 ((p20.add (Int.toNat t4 * 4)).add 2) fun x21 => (World.cell? w14 ((p20.add (Int.toNat t4 * 4)).add 2) = some (.int .u64 x21) ∧ World.cell? w18 ((p20.add (Int.toNat t4 * 4)).add 2) = some (.int .u64 x21)) ∧ bcase (y19 != x21) (Q (.bool false) w18) (X8.l0 Q k t0p t0n t0c t3 (IntKind.wrap .i64 (t4 + (1 : Int))) w18)) (drewK w4 fun w22 => (0 ≤ t4 ∧ t4 < ((t0n : Nat) : Int)) ∧ optP t0p fun p23 => ldSl w22 ((p23.add (Int.toNat t4 * 4)).add 3) fun x24p x24n x24c => CallR Try.prog 32 #[.pointer t3, .int .i64 ((x24n : Nat) : Int)] w22 fun v25 w26 => ∃ (y27p : Option Addr) (y27n y27c : Nat), v25 = .slice y27p y27n y27c ∧ ∃ bs28 : List Int, BytesAt w26 y27p y27n bs28 ∧ (0 ≤ t4 ∧ t4 < ((t0n : Nat) : Int)) ∧ optP t0p fun p29 => ldSl w26 ((p29.add (Int.toNat t4 * 4)).add 3) fun x30p x30n x30c => (World.cell? w22 ((p29.add (Int.toNat t4 * 4)).add 3) = some (.slice x30p x30n x30c) ∧ World.cell? w26 ((p29.add (Int.toNat t4 * 4)).add 3) = some (.slice x30p x30n x30c)) ∧ ∃ bs31 : List Int, BytesAt w26 x30p x30n bs31 ∧ (BytesAt w22 x30p x30n bs31 ∧ BytesAt w26 x30p x30n bs31) ∧ bcase (!strEq (strOfNums bs28) (strOfNums bs31)) (Q (.bool false) w26) (X8.l0 Q k t0p t0n t0c t3 (IntKind.wrap .i64 (t4 + (1 : Int))) w26)))) (CallR Try.prog 33 #[.pointer t3] w fun v32 w33 => ∃ (y34 : Int), v32 = .int .i64 y34 ∧ Q (.bool (y34 == (0 : Int))) w33)
def X8.j1 (Q : Value → World → Prop) (t0p : Option Addr) (t0n : Nat) (t0c : Nat) (t3 : Option Addr) (w : World) : Prop := ∃ m1, X8.l0 Q m1 t0p t0n t0c t3 (0 : Int) w
def X8.f (a0p : Option Addr) (a0n : Nat) (a0c : Nat) (w : World) (Q : Value → World → Prop) : Prop := CallR Try.prog 28 #[.slice a0p a0n a0c] w fun v1 w2 => ∃ (y3p : Option Addr) (y3n y3c : Nat), v1 = .slice y3p y3n y3c ∧ CallR Try.prog 29 #[.slice y3p y3n y3c] w2 fun v4 w5 => ∃ (y6 : Option Addr), v4 = .pointer y6 ∧ CallR Try.prog 13 #[] w5 fun v7 w8 => ∃ (y9 : Bool), v7 = .bool y9 ∧ bcase (!y9) (Q (.bool false) w8) (bcase (Option.isNone y6) (Q (.bool false) w8) (X8.j1 Q a0p a0n a0c y6 w8))
def X8.S (Q : Value → World → Prop) : Segs
  | 0, φ, ρ, w => qSl (ρ 0) fun t0p t0n t0c => qP (ρ 3) fun t3 => qI .i64 (ρ 4) fun t4 => X8.l0 Q (φ 0) t0p t0n t0c t3 t4 w
  | 1, φ, ρ, w => qSl (ρ 0) fun t0p t0n t0c => qP (ρ 3) fun t3 => X8.j1 Q t0p t0n t0c t3 w
  | _, _, _, _ => False
noncomputable def X8.an : Ann := (.seq .leaf (.seq .leaf (.seq (.seq .leaf (.cond (.seq .leaf .leaf) .leaf)) (.join 1 (.seq (.seq .leaf (.block (.loop 0 (.seq (.seq .leaf (.cond .leaf .leaf)) (.seq (.block (.seq .leaf (.block (.seq .leaf (.cond (.seq (.draw [0, 0, 0, 6, 14, 30, 63, 0, 0, 384, 896, 1920, 4095] [[0, 1, 2, 3, 4, 5, 6, 7, 8, 9, 10, 11, 12]]) (.cond (.seq .leaf .leaf) .leaf)) (.seq .leaf (.cond (.seq (.draw [0, 0, 0, 6, 14, 30, 63, 0, 0, 384, 896, 1920, 4095] [[0, 1, 2, 3, 4, 5, 6, 7, 8, 9, 10, 11, 12]]) (.cond (.seq .leaf .leaf) .leaf)) (.seq (.draw [0, 0, 0, 6, 14, 30, 62, 127, 255, 0, 0, 1536, 3584, 7680, 15872, 32767] [[0, 1, 2, 3, 4, 5, 6, 7, 8, 9, 10, 11, 12, 13, 14, 15]]) (.cond (.seq .leaf .leaf) .leaf))))))))) .leaf))))) (.seq .leaf .leaf))))))
noncomputable def X8.c : Code := Try.f8.body.getD .skip
theorem X8.v (Q : Value → World → Prop) : V Try.prog (X8.S Q) X8.an X8.c (retC Try.prog Try.f8 Q) := ⟨trivial, ⟨trivial, ⟨⟨trivial, ⟨⟨trivial, trivial⟩, trivial⟩⟩, ⟨(by
    intro φ ρ w h
    simp only [X8.S] at h
    obtain ⟨t0p, t0n, t0c, e0, h⟩ := qSl_elim h
    obtain ⟨t3, e3, h⟩ := qP_elim h
    exact ⟨((Env.nil.put (some 0) (.slice t0p t0n t0c)).put (some 3) (.pointer t3)), Env.le_put e3 (Env.le_put e0 (Env.le_nil _)), Eq.mp (by kernel_rfl) h⟩), ⟨⟨trivial, ⟨(by
    intro φ ρ w h
    simp only [X8.S] at h
    obtain ⟨t0p, t0n, t0c, e0, h⟩ := qSl_elim h
    obtain ⟨t3, e3, h⟩ := qP_elim h
    obtain ⟨t4, e4, h⟩ := qI_elim h
    cases hk : φ 0 with
    | zero => rw [hk] at h; exact h.elim
    | succ k => rw [hk] at h; exact ⟨k, Nat.lt_succ_self k, (((Env.nil.put (some 0) (.slice t0p t0n t0c)).put (some 3) (.pointer t3)).put (some 4) (.int .i64 t4)), Env.le_put e4 (Env.le_put e3 (Env.le_put e0 (Env.le_nil _))), Eq.mp (by kernel_rfl) h⟩), ⟨⟨trivial, ⟨trivial, trivial⟩⟩, ⟨⟨trivial, ⟨trivial, ⟨⟨trivial, ⟨⟨trivial, trivial⟩, trivial⟩⟩, ⟨trivial, ⟨⟨trivial, ⟨⟨trivial, trivial⟩, trivial⟩⟩, ⟨trivial, ⟨⟨trivial, trivial⟩, trivial⟩⟩⟩⟩⟩⟩⟩, trivial⟩⟩⟩⟩, ⟨trivial, trivial⟩⟩⟩⟩⟩⟩
theorem X8.sound (a0p : Option Addr) (a0n : Nat) (a0c : Nat) (w : World) (Q : Value → World → Prop) (h : X8.f a0p a0n a0c w Q) : CallR Try.prog 8 #[.slice a0p a0n a0c] w Q :=
  fn_sound noGr mixed Try.func8 (c := X8.c) (an := X8.an) (S := X8.S Q) (φ := fun _ => 0) (args := [.slice a0p a0n a0c]) (by kernel_rfl) (by kernel_rfl) (by kernel_rfl) (X8.v Q) (Eq.mp (by kernel_rfl) h)
/-! ### mooring/mooringlaw1.CodecCut: function 9 -/
def X9.l0 (Q : Value → World → Prop) : Nat → (Option Addr) → Nat → Nat → (Option Addr) → Int → World → Prop
  | 0, _, _, _, _, _, _ => False
  | k + 1, t0p, t0n, t0c, t6, t7, w => bcase (decide (t7 < ((t0n : Nat) : Int))) ((0 ≤ t7 ∧ t7 < ((t0n : Nat) : Int)) ∧ optP t0p fun p1 => ldI .i64 w ((p1.add (Int.toNat t7 * 4)).add 0) fun x2 => CallR Try.prog 14 #[.int .i64 x2, .int .i64 (3 : Int)] w fun v3 w4 => ∃ (y5 : Int), v3 = .int .i64 y5 ∧ bcase (y5 == (0 : Int)) (CallR Try.prog 30 #[.pointer t6, .int .u8 (255 : Int)] w4 fun v6 w7 => ∃ (y8 : Int), v6 = .int .u8 y8 ∧ X9.l0 Q k t0p t0n t0c t6 (IntKind.wrap .i64 (t7 + (1 : Int))) w7) (bcase (y5 == (1 : Int)) (CallR Try.prog 31 #[.pointer t6, .int .u64 (18446744073709551615 : Int)] w4 fun v9 w10 => ∃ (y11 : Int), v9 = .int .u64 y11 ∧ X9.l0 Q k t0p t0n t0c t6 (IntKind.wrap .i64 (t7 + (1 : Int))) w10) ((0 ≤ t7 ∧ t7 < ((t0n : Nat) : Int)) ∧ optP t0p fun p12 => ldSl w4 ((p12.add (Int.toNat t7 * 4)).add 3) fun x13p x13n x13c => CallR Try.prog 32 #[.pointer t6, .int .i64 ((x13n : Nat) : Int)] w4 fun v14 w15 => ∃ (y16p : Option Addr) (y16n y16c : Nat), v14 = .slice y16p y16n y16c ∧ X9.l0 Q k t0p t0n t0c t6 (IntKind.wrap .i64 (t7 + (1 : Int))) w15))) (CallR Try.prog 33 #[.pointer t6] w fun v17 w18 => ∃ (y19 : Int), v17 = .int .i64 y19 ∧ Q (.bool (y19 == (20 : Int))) w18)
def X9.f (a0p : Option Addr) (a0n : Nat) (a0c : Nat) (a1 : Int) (w : World) (Q : Value → World → Prop) : Prop := CallR Try.prog 28 #[.slice a0p a0n a0c] w fun v1 w2 => ∃ (y3p : Option Addr) (y3n y3c : Nat), v1 = .slice y3p y3n y3c ∧ CallR Try.prog 13 #[] w2 fun v4 w5 => ∃ (y6 : Bool), v4 = .bool y6 ∧ bcase (!y6) (Q (.bool false) w5) (bcase (((y3n : Nat) : Int) == (0 : Int)) (Q (.bool true) w5) (CallR Try.prog 14 #[.int .i64 a1, .int .i64 ((y3n : Nat) : Int)] w5 fun v7 w8 => ∃ (y9 : Int), v7 = .int .i64 y9 ∧ (0 ≤ ((0 : Nat) : Int) ∧ ((0 : Nat) : Int) ≤ y9 ∧ y9 ≤ ((y3c : Nat) : Int)) ∧ CallR Try.prog 29 #[.slice (cutAt 1 y3c (Int.toNat ((0 : Nat) : Int)) y3p) (Int.toNat y9 - Int.toNat ((0 : Nat) : Int)) (y3c - Int.toNat ((0 : Nat) : Int))] w8 fun v10 w11 => ∃ (y12 : Option Addr), v10 = .pointer y12 ∧ bcase (Option.isNone y12) (Q (.bool false) w11) (∃ m13, X9.l0 Q m13 a0p a0n a0c y12 (0 : Int) w11)))
def X9.S (Q : Value → World → Prop) : Segs
  | 0, φ, ρ, w => qSl (ρ 0) fun t0p t0n t0c => qP (ρ 6) fun t6 => qI .i64 (ρ 7) fun t7 => X9.l0 Q (φ 0) t0p t0n t0c t6 t7 w
  | _, _, _, _ => False
noncomputable def X9.an : Ann := (.seq .leaf (.seq .leaf (.seq (.seq .leaf (.cond (.seq .leaf .leaf) .leaf)) (.seq (.seq .leaf (.cond (.seq .leaf .leaf) .leaf)) (.seq .leaf (.seq (.seq .leaf (.cond (.seq .leaf .leaf) .leaf)) (.seq (.seq .leaf (.block (.loop 0 (.seq (.seq .leaf (.cond .leaf .leaf)) (.seq (.block (.seq .leaf (.block (.seq .leaf (.cond .leaf (.seq .leaf (.cond .leaf .leaf))))))) .leaf))))) (.seq .leaf .leaf))))))))
noncomputable def X9.c : Code := Try.f9.body.getD .skip
theorem X9.v (Q : Value → World → Prop) : V Try.prog (X9.S Q) X9.an X9.c (retC Try.prog Try.f9 Q) := ⟨trivial, ⟨trivial, ⟨⟨trivial, ⟨⟨trivial, trivial⟩, trivial⟩⟩, ⟨⟨trivial, ⟨⟨trivial, trivial⟩, trivial⟩⟩, ⟨trivial, ⟨⟨trivial, ⟨⟨trivial, trivial⟩, trivial⟩⟩, ⟨⟨trivial, ⟨(by
    intro φ ρ w h
    simp only [X9.S] at h
    obtain ⟨t0p, t0n, t0c, e0, h⟩ := qSl_elim h
    obtain ⟨t6, e6, h⟩ := qP_elim h
    obtain ⟨t7, e7, h⟩ := qI_elim h
    cases hk : φ 0 with
    | zero => rw [hk] at h; exact h.elim
    | succ k => rw [hk] at h; exact ⟨k, Nat.lt_succ_self k, (((Env.nil.put (some 0) (.slice t0p t0n t0c)).put (some 6) (.pointer t6)).put (some 7) (.int .i64 t7)), Env.le_put e7 (Env.le_put e6 (Env.le_put e0 (Env.le_nil _))), Eq.mp (by kernel_rfl) h⟩), ⟨⟨trivial, ⟨trivial, trivial⟩⟩, ⟨⟨trivial, ⟨trivial, ⟨trivial, ⟨trivial, ⟨trivial, trivial⟩⟩⟩⟩⟩, trivial⟩⟩⟩⟩, ⟨trivial, trivial⟩⟩⟩⟩⟩⟩⟩⟩
theorem X9.sound (a0p : Option Addr) (a0n : Nat) (a0c : Nat) (a1 : Int) (w : World) (Q : Value → World → Prop) (h : X9.f a0p a0n a0c a1 w Q) : CallR Try.prog 9 #[.slice a0p a0n a0c, .int .i64 a1] w Q :=
  fn_sound noGr mixed Try.func9 (c := X9.c) (an := X9.an) (S := X9.S Q) (φ := fun _ => 0) (args := [.slice a0p a0n a0c, .int .i64 a1]) (by kernel_rfl) (by kernel_rfl) (by kernel_rfl) (X9.v Q) (Eq.mp (by kernel_rfl) h)
/-! ### mooring/mooringlaw1.CodecOne: function 10 -/
def X10.l0 (Q : Value → World → Prop) : Nat → (Option Addr) → Nat → Nat → (Option Addr) → Nat → Nat → (Option Addr) → (Option Addr) → Nat → Nat → Int → World → Prop
  | 0, _, _, _, _, _, _, _, _, _, _, _, _ => False
  | k + 1, t0p, t0n, t0c, t1p, t1n, t1c, t5, t6p, t6n, t6c, t7, w => bcase (decide (t7 < ((t1n : Nat) : Int))) ((0 ≤ t7 ∧ t7 < ((t1n : Nat) : Int)) ∧ optP t1p fun p1 => ldI .i64 w (p1.add (Int.toNat t7 * 1)) fun x2 => CallR Try.prog 14 #[.int .i64 x2, .int .i64 (3 : Int)] w fun v3 w4 => ∃ (y5 : Int), v3 = .int .i64 y5 ∧ newK w4 #[.int .i64 (0 : Int), .int .u8 (0 : Int), .int .u64 (0 : Int), .slice none 0 0] 30 fun g6 w7 => stAll w7 g6 [.int .i64 y5, .int .u8 (0 : Int), .int .u64 (0 : Int), .slice none 0 0] fun w8 => ldI .i64 w8 (g6.add 0) fun x9 => bcase (x9 == (0 : Int)) (CallR Try.prog 30 #[.pointer t5, .int .u8 (255 : Int)] w8 fun v10 w11 => ∃ (y12 : Int), v10 = .int .u8 y12 ∧ stK w11 (g6.add 1) (.int .u8 y12) fun w13 => ldI .i64 w13 (g6.add 0) fun x14 => ldI .u8 w13 (g6.add 1) fun x15 => ldI .u64 w13 (g6.add 2) fun x16 => ldSl w13 (g6.add 3) fun x17p x17n x17c => newK w13 #[.int .i64 x14, .int .u8 x15, .int .u64 x16, .slice x17p x17n x17c] 30 fun g18 w19 => RunR Try.prog (Builtin.append_ #[22, 22] 22 #[.slice t6p t6n t6c, .slice (some g18) 1 1]) w19 fun v20 w21 => ∃ (s22p : Option Addr) (s22n s22c : Nat), v20 = .slice s22p s22n s22c ∧ X10.l0 Q k t0p t0n t0c t1p t1n t1c t5 s22p s22n s22c (IntKind.wrap .i64 (t7 + (1 : Int))) w21) (bcase (x9 == (1 : Int)) (CallR Try.prog 31 #[.pointer t5, .int .u64 (18446744073709551615 : Int)] w8 fun v23 w24 => ∃ (y25 : Int), v23 = .int .u64 y25 ∧ stK w24 (g6.add 2) (.int .u64 y25) fun w26 => ldI .i64 w26 (g6.add 0) fun x27 => ldI .u8 w26 (g6.add 1) fun x28 => ldI .u64 w26 (g6.add 2) fun x29 => ldSl w26 (g6.add 3) fun x30p x30n x30c => newK w26 #[.int .i64 x27, .int .u8 x28, .int .u64 x29, .slice x30p x30n x30c] 30 fun g31 w32 => RunR Try.prog (Builtin.append_ #[22, 22] 22 #[.slice t6p t6n t6c, .slice (some g31) 1 1]) w32 fun v33 w34 => ∃ (s35p : Option Addr) (s35n s35c : Nat), v33 = .slice s35p s35n s35c ∧ X10.l0 Q k t0p t0n t0c t1p t1n t1c t5 s35p s35n s35c (IntKind.wrap .i64 (t7 + (1 : Int))) w34) (CallR Try.prog 32 #[.pointer t5, .int .i64 ((t0n : Nat) : Int)] w8 fun v36 w37 => ∃ (y38p : Option Addr) (y38n y38c : Nat), v36 = .slice y38p y38n y38c ∧ stK w37 (g6.add 3) (.slice y38p y38n y38c) fun w39 => ldI .i64 w39 (g6.add 0) fun x40 => ldI .u8 w39 (g6.add 1) fun x41 => ldI .u64 w39 (g6.add 2) fun x42 => ldSl w39 (g6.add 3) fun x43p x43n x43c => newK w39 #[.int .i64 x40, .int .u8 x41, .int .u64 x42, .slice x43p x43n x43c] 30 fun g44 w45 => RunR Try.prog (Builtin.append_ #[22, 22] 22 #[.slice t6p t6n t6c, .slice (some g44) 1 1]) w45 fun v46 w47 => ∃ (s48p : Option Addr) (s48n s48c : Nat), v46 = .slice s48p s48n s48c ∧ X10.l0 Q k t0p t0n t0c t1p t1n t1c t5 s48p s48n s48c (IntKind.wrap .i64 (t7 + (1 : Int))) w47))) (drewK w fun w49 => CallR Try.prog 33 #[.pointer t5] w49 fun v50 w51 => ∃ (y52 : Int), v50 = .int .i64 y52 ∧ bcase (y52 != (0 : Int)) (Q (.bool true) w51) (CallR Try.prog 28 #[.slice t6p t6n t6c] w51 fun v53 w54 => ∃ (y55p : Option Addr) (y55n y55c : Nat), v53 = .slice y55p y55n y55c ∧ ∃ bs56 : List Int, BytesAt w54 y55p y55n bs56 ∧ ∃ bs57 : List Int, BytesAt w54 t0p t0n bs57 ∧ (BytesAt w51 t0p t0n bs57 ∧ BytesAt w54 t0p t0n bs57) ∧ Q (.bool (strEq (strOfNums bs56) (strOfNums bs57))) w54))
def X10.j1 (Q : Value → World → Prop) (t0p : Option Addr) (t0n : Nat) (t0c : Nat) (t1p : Option Addr) (t1n : Nat) (t1c : Nat) (t5 : Option Addr) (w : World) : Prop := ∃ m1, X10.l0 Q m1 t0p t0n t0c t1p t1n t1c t5 none 0 0 (0 : Int) w
def X10.f (a0p : Option Addr) (a0n : Nat) (a0c : Nat) (a1p : Option Addr) (a1n : Nat) (a1c : Nat) (w : World) (Q : Value → World → Prop) : Prop := CallR Try.prog 29 #[.slice a0p a0n a0c] w fun v1 w2 => ∃ (y3 : Option Addr), v1 = .pointer y3 ∧ CallR Try.prog 13 #[] w2 fun v4 w5 => ∃ (y6 : Bool), v4 = .bool y6 ∧ bcase (!y6) (Q (.bool false) w5) (bcase (Option.isNone y3) (Q (.bool false) w5) (X10.j1 Q a0p a0n a0c a1p a1n a1c y3 w5))
def X10.S (Q : Value → World → Prop) : Segs
  | 0, φ, ρ, w => qSl (ρ 0) fun t0p t0n t0c => qSl (ρ 1) fun t1p t1n t1c => qP (ρ 5) fun t5 => qSl (ρ 6) fun t6p t6n t6c => qI .i64 (ρ 7) fun t7 => X10.l0 Q (φ 0) t0p t0n t0c t1p t1n t1c t5 t6p t6n t6c t7 w
  | 1, φ, ρ, w => qSl (ρ 0) fun t0p t0n t0c => qSl (ρ 1) fun t1p t1n t1c => qP (ρ 5) fun t5 => X10.j1 Q t0p t0n t0c t1p t1n t1c t5 w
  | _, _, _, _ => False
noncomputable def X10.an : Ann := (.seq .leaf (.seq .leaf (.seq (.seq .leaf (.cond (.seq .leaf .leaf) .leaf)) (.join 1 (.seq .leaf (.seq (.seq .leaf (.block (.loop 0 (.seq (.seq .leaf (.cond .leaf .leaf)) (.seq (.block (.seq .leaf (.seq (.seq .leaf (.block (.seq .leaf (.cond .leaf (.seq .leaf (.cond .leaf .leaf)))))) .leaf))) .leaf))))) (.seq (.draw [0, 1, 3, 7, 15, 31, 63, 15, 143, 511, 1023, 2047] [[0, 1, 2, 3, 4, 5, 6, 7, 8, 9, 10, 11]]) .leaf)))))))
noncomputable def X10.c : Code := Try.f10.body.getD .skip
theorem X10.v (Q : Value → World → Prop) : V Try.prog (X10.S Q) X10.an X10.c (retC Try.prog Try.f10 Q) := ⟨trivial, ⟨trivial, ⟨⟨trivial, ⟨⟨trivial, trivial⟩, trivial⟩⟩, ⟨(by
    intro φ ρ w h
    simp only [X10.S] at h
    obtain ⟨t0p, t0n, t0c, e0, h⟩ := qSl_elim h
    obtain ⟨t1p, t1n, t1c, e1, h⟩ := qSl_elim h
    obtain ⟨t5, e5, h⟩ := qP_elim h
    exact ⟨(((Env.nil.put (some 0) (.slice t0p t0n t0c)).put (some 1) (.slice t1p t1n t1c)).put (some 5) (.pointer t5)), Env.le_put e5 (Env.le_put e1 (Env.le_put e0 (Env.le_nil _))), Eq.mp (by kernel_rfl) h⟩), ⟨trivial, ⟨⟨trivial, ⟨(by
    intro φ ρ w h
    simp only [X10.S] at h
    obtain ⟨t0p, t0n, t0c, e0, h⟩ := qSl_elim h
    obtain ⟨t1p, t1n, t1c, e1, h⟩ := qSl_elim h
    obtain ⟨t5, e5, h⟩ := qP_elim h
    obtain ⟨t6p, t6n, t6c, e6, h⟩ := qSl_elim h
    obtain ⟨t7, e7, h⟩ := qI_elim h
    cases hk : φ 0 with
    | zero => rw [hk] at h; exact h.elim
    | succ k => rw [hk] at h; exact ⟨k, Nat.lt_succ_self k, (((((Env.nil.put (some 0) (.slice t0p t0n t0c)).put (some 1) (.slice t1p t1n t1c)).put (some 5) (.pointer t5)).put (some 6) (.slice t6p t6n t6c)).put (some 7) (.int .i64 t7)), Env.le_put e7 (Env.le_put e6 (Env.le_put e5 (Env.le_put e1 (Env.le_put e0 (Env.le_nil _))))), Eq.mp (by kernel_rfl) h⟩), ⟨⟨trivial, ⟨trivial, trivial⟩⟩, ⟨⟨trivial, ⟨⟨trivial, ⟨trivial, ⟨trivial, ⟨trivial, ⟨trivial, trivial⟩⟩⟩⟩⟩, trivial⟩⟩, trivial⟩⟩⟩⟩, ⟨trivial, trivial⟩⟩⟩⟩⟩⟩⟩
theorem X10.sound (a0p : Option Addr) (a0n : Nat) (a0c : Nat) (a1p : Option Addr) (a1n : Nat) (a1c : Nat) (w : World) (Q : Value → World → Prop) (h : X10.f a0p a0n a0c a1p a1n a1c w Q) : CallR Try.prog 10 #[.slice a0p a0n a0c, .slice a1p a1n a1c] w Q :=
  fn_sound noGr mixed Try.func10 (c := X10.c) (an := X10.an) (S := X10.S Q) (φ := fun _ => 0) (args := [.slice a0p a0n a0c, .slice a1p a1n a1c]) (by kernel_rfl) (by kernel_rfl) (by kernel_rfl) (X10.v Q) (Eq.mp (by kernel_rfl) h)
/-! ### mooring/mooringlaw1.CodecKnown: function 11 -/
def X11.j0 (Q : Value → World → Prop) (w : World) : Prop := newK w #[.int .u8 (97 : Int)] 5 fun g1 w2 => CallR Try.prog 23 #[.slice (some g1) 1 1] (markStr w2 g1) fun v3 w4 => ∃ (y5p : Option Addr) (y5n y5c : Nat), v3 = .slice y5p y5n y5c ∧ CallR Try.prog 21 #[.slice y5p y5n y5c] w4 fun v6 w7 => ∃ (y8p : Option Addr) (y8n y8c : Nat) (y9 : Int), v6 = .tuple #[.slice y8p y8n y8c, .int .i64 y9] ∧ newK w7 #[.int .u8 (97 : Int), .int .u8 (98 : Int), .int .u8 (99 : Int)] 5 fun g10 w11 => CallR Try.prog 21 #[.slice (some g10) 3 3] (markStr w11 g10) fun v12 w13 => ∃ (y14p : Option Addr) (y14n y14c : Nat) (y15 : Int), v12 = .tuple #[.slice y14p y14n y14c, .int .i64 y15] ∧ CallR Try.prog 13 #[] w13 fun v16 w17 => ∃ (y18 : Bool), v16 = .bool y18 ∧ bcase y18 (CallR Try.prog 24 #[.slice none 0 0] w17 fun v19 w20 => ∃ (y21 : Int), v19 = .int .u32 y21 ∧ bcase (y21 == (0 : Int)) (∃ bs22 : List Int, BytesAt w20 y8p y8n bs22 ∧ bcase (strEq (strOfNums bs22) (⟨#[97]⟩ : ByteArray)) (bcase (y9 == (0 : Int)) (Q (.bool (y15 == (20 : Int))) w20) (Q (.bool false) w20)) (Q (.bool false) w20)) (Q (.bool false) w20)) (Q (.bool false) w17)
def X11.j1 (Q : Value → World → Prop) (w : World) : Prop := newK w #[.int .u8 (128 : Int), .int .u8 (0 : Int)] 5 fun g1 w2 => CallR Try.prog 29 #[.slice (some g1) 2 2] w2 fun v3 w4 => ∃ (y5 : Option Addr), v3 = .pointer y5 ∧ newK w4 #[.int .u8 (172 : Int), .int .u8 (2 : Int)] 5 fun g6 w7 => CallR Try.prog 29 #[.slice (some g6) 2 2] w7 fun v8 w9 => ∃ (y10 : Option Addr), v8 = .pointer y10 ∧ bcase (Option.isNone y5) (Q (.bool false) w9) (bcase (Option.isNone y10) (Q (.bool false) w9) (CallR Try.prog 31 #[.pointer y5, .int .u64 (9 : Int)] w9 fun v11 w12 => ∃ (y13 : Int), v11 = .int .u64 y13 ∧ bcase (y13 != (0 : Int)) (Q (.bool false) w12) (CallR Try.prog 33 #[.pointer y5] w12 fun v14 w15 => ∃ (y16 : Int), v14 = .int .i64 y16 ∧ bcase (y16 != (21 : Int)) (Q (.bool false) w15) (CallR Try.prog 31 #[.pointer y10, .int .u64 (299 : Int)] w15 fun v17 w18 => ∃ (y19 : Int), v17 = .int .u64 y19 ∧ bcase (y19 != (0 : Int)) (Q (.bool false) w18) (CallR Try.prog 33 #[.pointer y10] w18 fun v20 w21 => ∃ (y22 : Int), v20 = .int .i64 y22 ∧ bcase (y22 != (22 : Int)) (Q (.bool false) w21) (X11.j0 Q  w21))))))
def X11.f (w : World) (Q : Value → World → Prop) : Prop := newK w #[.int .u8 (7 : Int), .int .u8 (172 : Int), .int .u8 (2 : Int), .int .u8 (2 : Int), .int .u8 (97 : Int), .int .u8 (98 : Int)] 5 fun g1 w2 => CallR Try.prog 29 #[.slice (some g1) 6 6] (markStr w2 g1) fun v3 w4 => ∃ (y5 : Option Addr), v3 = .pointer y5 ∧ bcase (Option.isNone y5) (Q (.bool false) w4) (CallR Try.prog 30 #[.pointer y5, .int .u8 (9 : Int)] w4 fun v6 w7 => ∃ (y8 : Int), v6 = .int .u8 y8 ∧ bcase (y8 != (7 : Int)) (Q (.bool false) w7) (CallR Try.prog 31 #[.pointer y5, .int .u64 (300 : Int)] w7 fun v9 w10 => ∃ (y11 : Int), v9 = .int .u64 y11 ∧ bcase (y11 != (300 : Int)) (Q (.bool false) w10) (CallR Try.prog 32 #[.pointer y5, .int .i64 (5 : Int)] w10 fun v12 w13 => ∃ (y14p : Option Addr) (y14n y14c : Nat), v12 = .slice y14p y14n y14c ∧ ∃ bs15 : List Int, BytesAt w13 y14p y14n bs15 ∧ bcase (!strEq (strOfNums bs15) (⟨#[97, 98]⟩ : ByteArray)) (Q (.bool false) w13) (CallR Try.prog 33 #[.pointer y5] w13 fun v16 w17 => ∃ (y18 : Int), v16 = .int .i64 y18 ∧ bcase (y18 != (0 : Int)) (Q (.bool false) w17) (X11.j1 Q  w17)))))
def X11.S (Q : Value → World → Prop) : Segs
  | 0, φ, ρ, w => X11.j0 Q  w
  | 1, φ, ρ, w => X11.j1 Q  w
  | _, _, _, _ => False
noncomputable def X11.an : Ann := (.seq .leaf (.seq .leaf (.seq (.seq .leaf (.cond (.seq .leaf .leaf) .leaf)) (.join 1 (.seq .leaf (.seq .leaf (.seq (.seq .leaf (.cond (.seq .leaf .leaf) .leaf)) (.join 0 (.seq .leaf (.seq .leaf (.seq .leaf .leaf)))))))))))
noncomputable def X11.c : Code := Try.f11.body.getD .skip
theorem X11.v (Q : Value → World → Prop) : V Try.prog (X11.S Q) X11.an X11.c (retC Try.prog Try.f11 Q) := ⟨trivial, ⟨trivial, ⟨⟨trivial, ⟨⟨trivial, trivial⟩, trivial⟩⟩, ⟨(by
    intro φ ρ w h
    simp only [X11.S] at h
    exact ⟨Env.nil, Env.le_nil _, Eq.mp (by kernel_rfl) h⟩), ⟨trivial, ⟨trivial, ⟨⟨trivial, ⟨⟨trivial, trivial⟩, trivial⟩⟩, ⟨(by
    intro φ ρ w h
    simp only [X11.S] at h
    exact ⟨Env.nil, Env.le_nil _, Eq.mp (by kernel_rfl) h⟩), ⟨trivial, ⟨trivial, ⟨trivial, trivial⟩⟩⟩⟩⟩⟩⟩⟩⟩⟩⟩
theorem X11.sound (w : World) (Q : Value → World → Prop) (h : X11.f  w Q) : CallR Try.prog 11 #[] w Q :=
  fn_sound noGr mixed Try.func11 (c := X11.c) (an := X11.an) (S := X11.S Q) (φ := fun _ => 0) (args := []) (by kernel_rfl) (by kernel_rfl) (by kernel_rfl) (X11.v Q) (Eq.mp (by kernel_rfl) h)
/-! ### mooring/codec.NewWriter: function 12 -/
def X12.f (w : World) (Q : Value → World → Prop) : Prop := newK w #[.slice none 0 0] 61 fun g1 w2 => Q (.pointer (some g1)) w2
def X12.S (Q : Value → World → Prop) : Segs
  | _, _, _, _ => False
noncomputable def X12.an : Ann := (.seq .leaf (.seq .leaf .leaf))
noncomputable def X12.c : Code := Try.f12.body.getD .skip
theorem X12.v (Q : Value → World → Prop) : V Try.prog (X12.S Q) X12.an X12.c (retC Try.prog Try.f12 Q) := ⟨trivial, ⟨trivial, trivial⟩⟩
theorem X12.sound (w : World) (Q : Value → World → Prop) (h : X12.f  w Q) : CallR Try.prog 12 #[] w Q :=
  fn_sound noGr mixed Try.func12 (c := X12.c) (an := X12.an) (S := X12.S Q) (φ := fun _ => 0) (args := []) (by kernel_rfl) (by kernel_rfl) (by kernel_rfl) (X12.v Q) (Eq.mp (by kernel_rfl) h)
/-! ### mooring/mooringlaw1.known: function 13 -/
def X13.f (w : World) (Q : Value → World → Prop) : Prop := CallR Try.prog 12 #[] w fun v1 w2 => ∃ (y3 : Option Addr), v1 = .pointer y3 ∧ bcase (Option.isNone y3) (Q (.bool false) w2) (CallR Try.prog 15 #[.pointer y3, .int .u8 (7 : Int)] w2 fun v4 w5 => v4 = .tuple #[] ∧ CallR Try.prog 16 #[.pointer y3, .int .u64 (300 : Int)] w5 fun v6 w7 => v6 = .tuple #[] ∧ newK w7 #[.int .u8 (97 : Int), .int .u8 (98 : Int)] 5 fun g8 w9 => CallR Try.prog 18 #[.pointer y3, .slice (some g8) 2 2] (markStr w9 g8) fun v10 w11 => v10 = .tuple #[] ∧ CallR Try.prog 20 #[.pointer y3] w11 fun v12 w13 => ∃ (y14p : Option Addr) (y14n y14c : Nat), v12 = .slice y14p y14n y14c ∧ ∃ bs15 : List Int, BytesAt w13 y14p y14n bs15 ∧ bcase (strEq (strOfNums bs15) (⟨#[7, 172, 2, 2, 97, 98]⟩ : ByteArray)) (newK w13 #[.int .u8 (49 : Int), .int .u8 (50 : Int), .int .u8 (51 : Int), .int .u8 (52 : Int), .int .u8 (53 : Int), .int .u8 (54 : Int), .int .u8 (55 : Int), .int .u8 (56 : Int), .int .u8 (57 : Int)] 5 fun g16 w17 => CallR Try.prog 24 #[.slice (some g16) 9 9] (markStr w17 g16) fun v18 w19 => ∃ (y20 : Int), v18 = .int .u32 y20 ∧ Q (.bool (y20 == (3421780262 : Int))) w19) (Q (.bool false) w13))
def X13.S (Q : Value → World → Prop) : Segs
  | _, _, _, _ => False
noncomputable def X13.an : Ann := (.seq .leaf (.seq .leaf (.seq (.seq .leaf (.cond (.seq .leaf .leaf) .leaf)) (.seq .leaf (.seq .leaf (.seq .leaf (.seq .leaf .leaf)))))))
noncomputable def X13.c : Code := Try.f13.body.getD .skip
theorem X13.v (Q : Value → World → Prop) : V Try.prog (X13.S Q) X13.an X13.c (retC Try.prog Try.f13 Q) := ⟨trivial, ⟨trivial, ⟨⟨trivial, ⟨⟨trivial, trivial⟩, trivial⟩⟩, ⟨trivial, ⟨trivial, ⟨trivial, ⟨trivial, trivial⟩⟩⟩⟩⟩⟩⟩
theorem X13.sound (w : World) (Q : Value → World → Prop) (h : X13.f  w Q) : CallR Try.prog 13 #[] w Q :=
  fn_sound noGr mixed Try.func13 (c := X13.c) (an := X13.an) (S := X13.S Q) (φ := fun _ => 0) (args := []) (by kernel_rfl) (by kernel_rfl) (by kernel_rfl) (X13.v Q) (Eq.mp (by kernel_rfl) h)
/-! ### mooring/mooringhand.Pick: function 14 -/
def X14.f (a0 : Int) (a1 : Int) (w : World) (Q : Value → World → Prop) : Prop := a1 ≠ 0 ∧ bcase (decide ((Int.tmod a0 a1) < (0 : Int))) (Q (.int .i64 (IntKind.wrap .i64 ((Int.tmod a0 a1) + a1))) w) (Q (.int .i64 (Int.tmod a0 a1)) w)
def X14.S (Q : Value → World → Prop) : Segs
  | _, _, _, _ => False
noncomputable def X14.an : Ann := (.seq .leaf (.seq .leaf (.seq (.seq .leaf (.cond .leaf .leaf)) (.seq .leaf .leaf))))
noncomputable def X14.c : Code := Try.f14.body.getD .skip
theorem X14.v (Q : Value → World → Prop) : V Try.prog (X14.S Q) X14.an X14.c (retC Try.prog Try.f14 Q) := ⟨trivial, ⟨trivial, ⟨⟨trivial, ⟨trivial, trivial⟩⟩, ⟨trivial, trivial⟩⟩⟩⟩
theorem X14.sound (a0 : Int) (a1 : Int) (w : World) (Q : Value → World → Prop) (h : X14.f a0 a1 w Q) : CallR Try.prog 14 #[.int .i64 a0, .int .i64 a1] w Q :=
  fn_sound noGr mixed Try.func14 (c := X14.c) (an := X14.an) (S := X14.S Q) (φ := fun _ => 0) (args := [.int .i64 a0, .int .i64 a1]) (by kernel_rfl) (by kernel_rfl) (by kernel_rfl) (X14.v Q) (Eq.mp (by kernel_rfl) h)
/-! ### (*mooring/codec.Writer).Byte: function 15 -/
def X15.f (a0 : Option Addr) (a1 : Int) (w : World) (Q : Value → World → Prop) : Prop := optP a0 fun p1 => ldSl w (p1.add 0) fun x2p x2n x2c => newK w #[.int .u8 a1] 5 fun g3 w4 => RunR Try.prog (Builtin.append_ #[23, 23] 23 #[.slice x2p x2n x2c, .slice (some g3) 1 1]) w4 fun v5 w6 => ∃ (s7p : Option Addr) (s7n s7c : Nat), v5 = .slice s7p s7n s7c ∧ optP a0 fun p8 => stK w6 (p8.add 0) (.slice s7p s7n s7c) fun w9 => Q (.tuple #[]) w9
def X15.S (Q : Value → World → Prop) : Segs
  | _, _, _, _ => False
noncomputable def X15.an : Ann := .leaf
noncomputable def X15.c : Code := Try.f15.body.getD .skip
theorem X15.v (Q : Value → World → Prop) : V Try.prog (X15.S Q) X15.an X15.c (retC Try.prog Try.f15 Q) := trivial
theorem X15.sound (a0 : Option Addr) (a1 : Int) (w : World) (Q : Value → World → Prop) (h : X15.f a0 a1 w Q) : CallR Try.prog 15 #[.pointer a0, .int .u8 a1] w Q :=
  fn_sound noGr mixed Try.func15 (c := X15.c) (an := X15.an) (S := X15.S Q) (φ := fun _ => 0) (args := [.pointer a0, .int .u8 a1]) (by kernel_rfl) (by kernel_rfl) (by kernel_rfl) (X15.v Q) (Eq.mp (by kernel_rfl) h)
/-! ### (*mooring/codec.Writer).Num: function 16 -/
def X16.l0 (Q : Value → World → Prop) : Nat → (Option Addr) → Int → World → Prop
  | 0, _, _, _ => False
  | k + 1, t0, t1, w => bcase (decide (t1 ≥ (128 : Int))) (optP t0 fun p1 => ldSl w (p1.add 0) fun x2p x2n x2c => newK w #[.int .u8 (iOr .u8 (IntKind.wrap .u8 t1) (128 : Int))] 5 fun g3 w4 => RunR Try.prog (Builtin.append_ #[23, 23] 23 #[.slice x2p x2n x2c, .slice (some g3) 1 1]) w4 fun v5 w6 => ∃ (s7p : Option Addr) (s7n s7c : Nat), v5 = .slice s7p s7n s7c ∧ optP t0 fun p8 => stK w6 (p8.add 0) (.slice s7p s7n s7c) fun w9 => 0 ≤ (7 : Int) ∧ X16.l0 Q k t0 (iShr .u64 t1 (7 : Int)) w9) (optP t0 fun p10 => ldSl w (p10.add 0) fun x11p x11n x11c => newK w #[.int .u8 (IntKind.wrap .u8 t1)] 5 fun g12 w13 => RunR Try.prog (Builtin.append_ #[23, 23] 23 #[.slice x11p x11n x11c, .slice (some g12) 1 1]) w13 fun v14 w15 => ∃ (s16p : Option Addr) (s16n s16c : Nat), v14 = .slice s16p s16n s16c ∧ optP t0 fun p17 => stK w15 (p17.add 0) (.slice s16p s16n s16c) fun w18 => Q (.tuple #[]) w18)
def X16.f (a0 : Option Addr) (a1 : Int) (w : World) (Q : Value → World → Prop) : Prop := ∃ m1, X16.l0 Q m1 a0 a1 w
def X16.S (Q : Value → World → Prop) : Segs
  | 0, φ, ρ, w => qP (ρ 0) fun t0 => qI .u64 (ρ 1) fun t1 => X16.l0 Q (φ 0) t0 t1 w
  | _, _, _, _ => False
noncomputable def X16.an : Ann := (.seq (.block (.loop 0 (.seq (.seq .leaf (.cond .leaf .leaf)) (.block (.seq .leaf .leaf))))) .leaf)
noncomputable def X16.c : Code := Try.f16.body.getD .skip
theorem X16.v (Q : Value → World → Prop) : V Try.prog (X16.S Q) X16.an X16.c (retC Try.prog Try.f16 Q) := ⟨⟨(by
    intro φ ρ w h
    simp only [X16.S] at h
    obtain ⟨t0, e0, h⟩ := qP_elim h
    obtain ⟨t1, e1, h⟩ := qI_elim h
    cases hk : φ 0 with
    | zero => rw [hk] at h; exact h.elim
    | succ k => rw [hk] at h; exact ⟨k, Nat.lt_succ_self k, ((Env.nil.put (some 0) (.pointer t0)).put (some 1) (.int .u64 t1)), Env.le_put e1 (Env.le_put e0 (Env.le_nil _)), Eq.mp (by kernel_rfl) h⟩), ⟨⟨trivial, ⟨trivial, trivial⟩⟩, ⟨trivial, trivial⟩⟩⟩, trivial⟩
theorem X16.sound (a0 : Option Addr) (a1 : Int) (w : World) (Q : Value → World → Prop) (h : X16.f a0 a1 w Q) : CallR Try.prog 16 #[.pointer a0, .int .u64 a1] w Q :=
  fn_sound noGr mixed Try.func16 (c := X16.c) (an := X16.an) (S := X16.S Q) (φ := fun _ => 0) (args := [.pointer a0, .int .u64 a1]) (by kernel_rfl) (by kernel_rfl) (by kernel_rfl) (X16.v Q) (Eq.mp (by kernel_rfl) h)
/-! ### mooring/mooringref1.Num: function 17 -/
def X17.l0 (Q : Value → World → Prop) : Nat → Int → (Option Addr) → Nat → Nat → World → Prop
  | 0, _, _, _, _, _ => False
  | k + 1, t0, t3p, t3n, t3c, w => bcase (decide (t0 ≥ (128 : Int))) ((128 : Int) ≠ 0 ∧ newK w #[.int .u8 (IntKind.wrap .u8 (IntKind.wrap .u64 ((Int.tmod t0 (128 : Int)) + (128 : Int))))] 5 fun g1 w2 => RunR Try.prog (Builtin.append_ #[23, 23] 23 #[.slice t3p t3n t3c, .slice (some g1) 1 1]) w2 fun v3 w4 => ∃ (s5p : Option Addr) (s5n s5c : Nat), v3 = .slice s5p s5n s5c ∧ (128 : Int) ≠ 0 ∧ X17.l0 Q k (IntKind.wrap .u64 (Int.tdiv t0 (128 : Int))) s5p s5n s5c w4) (newK w #[.int .u8 (IntKind.wrap .u8 t0)] 5 fun g6 w7 => RunR Try.prog (Builtin.append_ #[23, 23] 23 #[.slice t3p t3n t3c, .slice (some g6) 1 1]) w7 fun v8 w9 => ∃ (s10p : Option Addr) (s10n s10c : Nat), v8 = .slice s10p s10n s10c ∧ Q (.slice s10p s10n s10c) w9)
def X17.f (a0 : Int) (w : World) (Q : Value → World → Prop) : Prop := ∃ m1, X17.l0 Q m1 a0 none 0 0 w
def X17.S (Q : Value → World → Prop) : Segs
  | 0, φ, ρ, w => qI .u64 (ρ 0) fun t0 => qSl (ρ 3) fun t3p t3n t3c => X17.l0 Q (φ 0) t0 t3p t3n t3c w
  | _, _, _, _ => False
noncomputable def X17.an : Ann := (.seq .leaf (.seq .leaf (.seq (.block (.loop 0 (.seq (.seq .leaf (.cond .leaf .leaf)) (.block (.seq .leaf .leaf))))) (.seq .leaf .leaf))))
noncomputable def X17.c : Code := Try.f17.body.getD .skip
theorem X17.v (Q : Value → World → Prop) : V Try.prog (X17.S Q) X17.an X17.c (retC Try.prog Try.f17 Q) := ⟨trivial, ⟨trivial, ⟨⟨(by
    intro φ ρ w h
    simp only [X17.S] at h
    obtain ⟨t0, e0, h⟩ := qI_elim h
    obtain ⟨t3p, t3n, t3c, e3, h⟩ := qSl_elim h
    cases hk : φ 0 with
    | zero => rw [hk] at h; exact h.elim
    | succ k => rw [hk] at h; exact ⟨k, Nat.lt_succ_self k, ((Env.nil.put (some 0) (.int .u64 t0)).put (some 3) (.slice t3p t3n t3c)), Env.le_put e3 (Env.le_put e0 (Env.le_nil _)), Eq.mp (by kernel_rfl) h⟩), ⟨⟨trivial, ⟨trivial, trivial⟩⟩, ⟨trivial, trivial⟩⟩⟩, ⟨trivial, trivial⟩⟩⟩⟩
theorem X17.sound (a0 : Int) (w : World) (Q : Value → World → Prop) (h : X17.f a0 w Q) : CallR Try.prog 17 #[.int .u64 a0] w Q :=
  fn_sound noGr mixed Try.func17 (c := X17.c) (an := X17.an) (S := X17.S Q) (φ := fun _ => 0) (args := [.int .u64 a0]) (by kernel_rfl) (by kernel_rfl) (by kernel_rfl) (X17.v Q) (Eq.mp (by kernel_rfl) h)
/-! ### (*mooring/codec.Writer).Text: function 18 -/
def X18.f (a0 : Option Addr) (a1p : Option Addr) (a1n : Nat) (a1c : Nat) (w : World) (Q : Value → World → Prop) : Prop := CallR Try.prog 16 #[.pointer a0, .int .u64 (IntKind.wrap .u64 ((a1n : Nat) : Int))] w fun v1 w2 => v1 = .tuple #[] ∧ optP a0 fun p3 => ldSl w2 (p3.add 0) fun x4p x4n x4c => RunR Try.prog (Builtin.append_ #[23, 23] 23 #[.slice x4p x4n x4c, .slice a1p a1n a1c]) w2 fun v5 w6 => ∃ (s7p : Option Addr) (s7n s7c : Nat), v5 = .slice s7p s7n s7c ∧ optP a0 fun p8 => stK w6 (p8.add 0) (.slice s7p s7n s7c) fun w9 => Q (.tuple #[]) w9
def X18.S (Q : Value → World → Prop) : Segs
  | _, _, _, _ => False
noncomputable def X18.an : Ann := (.seq .leaf .leaf)
noncomputable def X18.c : Code := Try.f18.body.getD .skip
theorem X18.v (Q : Value → World → Prop) : V Try.prog (X18.S Q) X18.an X18.c (retC Try.prog Try.f18 Q) := ⟨trivial, trivial⟩
theorem X18.sound (a0 : Option Addr) (a1p : Option Addr) (a1n : Nat) (a1c : Nat) (w : World) (Q : Value → World → Prop) (h : X18.f a0 a1p a1n a1c w Q) : CallR Try.prog 18 #[.pointer a0, .slice a1p a1n a1c] w Q :=
  fn_sound noGr mixed Try.func18 (c := X18.c) (an := X18.an) (S := X18.S Q) (φ := fun _ => 0) (args := [.pointer a0, .slice a1p a1n a1c]) (by kernel_rfl) (by kernel_rfl) (by kernel_rfl) (X18.v Q) (Eq.mp (by kernel_rfl) h)
/-! ### mooring/mooringref1.Text: function 19 -/
def X19.f (a0p : Option Addr) (a0n : Nat) (a0c : Nat) (w : World) (Q : Value → World → Prop) : Prop := CallR Try.prog 17 #[.int .u64 (IntKind.wrap .u64 ((a0n : Nat) : Int))] w fun v1 w2 => ∃ (y3p : Option Addr) (y3n y3c : Nat), v1 = .slice y3p y3n y3c ∧ RunR Try.prog (Builtin.append_ #[23, 23] 23 #[.slice y3p y3n y3c, .slice a0p a0n a0c]) w2 fun v4 w5 => ∃ (s6p : Option Addr) (s6n s6c : Nat), v4 = .slice s6p s6n s6c ∧ Q (.slice s6p s6n s6c) w5
def X19.S (Q : Value → World → Prop) : Segs
  | _, _, _, _ => False
noncomputable def X19.an : Ann := (.seq .leaf (.seq .leaf .leaf))
noncomputable def X19.c : Code := Try.f19.body.getD .skip
theorem X19.v (Q : Value → World → Prop) : V Try.prog (X19.S Q) X19.an X19.c (retC Try.prog Try.f19 Q) := ⟨trivial, ⟨trivial, trivial⟩⟩
theorem X19.sound (a0p : Option Addr) (a0n : Nat) (a0c : Nat) (w : World) (Q : Value → World → Prop) (h : X19.f a0p a0n a0c w Q) : CallR Try.prog 19 #[.slice a0p a0n a0c] w Q :=
  fn_sound noGr mixed Try.func19 (c := X19.c) (an := X19.an) (S := X19.S Q) (φ := fun _ => 0) (args := [.slice a0p a0n a0c]) (by kernel_rfl) (by kernel_rfl) (by kernel_rfl) (X19.v Q) (Eq.mp (by kernel_rfl) h)
/-! ### (*mooring/codec.Writer).Bytes: function 20 -/
def X20.f (a0 : Option Addr) (w : World) (Q : Value → World → Prop) : Prop := newK w #[] 5 fun g1 w2 => optP a0 fun p3 => ldSl w2 (p3.add 0) fun x4p x4n x4c => RunR Try.prog (Builtin.append_ #[23, 23] 23 #[.slice (some g1) 0 0, .slice x4p x4n x4c]) w2 fun v5 w6 => ∃ (s7p : Option Addr) (s7n s7c : Nat), v5 = .slice s7p s7n s7c ∧ Q (.slice s7p s7n s7c) w6
def X20.S (Q : Value → World → Prop) : Segs
  | _, _, _, _ => False
noncomputable def X20.an : Ann := (.seq .leaf (.seq .leaf .leaf))
noncomputable def X20.c : Code := Try.f20.body.getD .skip
theorem X20.v (Q : Value → World → Prop) : V Try.prog (X20.S Q) X20.an X20.c (retC Try.prog Try.f20 Q) := ⟨trivial, ⟨trivial, trivial⟩⟩
theorem X20.sound (a0 : Option Addr) (w : World) (Q : Value → World → Prop) (h : X20.f a0 w Q) : CallR Try.prog 20 #[.pointer a0] w Q :=
  fn_sound noGr mixed Try.func20 (c := X20.c) (an := X20.an) (S := X20.S Q) (φ := fun _ => 0) (args := [.pointer a0]) (by kernel_rfl) (by kernel_rfl) (by kernel_rfl) (X20.v Q) (Eq.mp (by kernel_rfl) h)
/-! ### mooring/codec.Unseal: function 21 -/
def X21.l0 (Q : Value → World → Prop) : Nat → (Option Addr) → Nat → Nat → Int → (Option Addr) → Nat → Nat → Int → World → Prop
  | 0, _, _, _, _, _, _, _, _, _ => False
  | k + 1, t0p, t0n, t0c, t4, t5p, t5n, t5c, t6, w => bcase (decide (t6 < ((t0n : Nat) : Int))) (drewK w fun w1 => (0 ≤ t6 ∧ t6 < ((t5n : Nat) : Int)) ∧ optP t5p fun p2 => ldI .u8 w1 (p2.add (Int.toNat t6 * 1)) fun x3 => (0 ≤ t6 ∧ t6 < ((t0n : Nat) : Int)) ∧ optP t0p fun p4 => ldI .u8 w1 (p4.add (Int.toNat t6 * 1)) fun x5 => bcase (x3 != x5) (Q (.tuple #[.slice none 0 0, .int .i64 (23 : Int)]) w1) (X21.l0 Q k t0p t0n t0c t4 t5p t5n t5c (IntKind.wrap .i64 (t6 + (1 : Int))) w1)) (newK w #[] 5 fun g6 w7 => (0 ≤ ((0 : Nat) : Int) ∧ ((0 : Nat) : Int) ≤ t4 ∧ t4 ≤ ((t0c : Nat) : Int)) ∧ RunR Try.prog (Builtin.append_ #[23, 23] 23 #[.slice (some g6) 0 0, .slice (cutAt 1 t0c (Int.toNat ((0 : Nat) : Int)) t0p) (Int.toNat t4 - Int.toNat ((0 : Nat) : Int)) (t0c - Int.toNat ((0 : Nat) : Int))]) w7 fun v8 w9 => ∃ (s10p : Option Addr) (s10n s10c : Nat), v8 = .slice s10p s10n s10c ∧ Q (.tuple #[.slice s10p s10n s10c, .int .i64 (0 : Int)]) w9)
def X21.f (a0p : Option Addr) (a0n : Nat) (a0c : Nat) (w : World) (Q : Value → World → Prop) : Prop := bcase (decide (((a0n : Nat) : Int) < (4 : Int))) (Q (.tuple #[.slice none 0 0, .int .i64 (20 : Int)]) w) ((0 ≤ ((0 : Nat) : Int) ∧ ((0 : Nat) : Int) ≤ (IntKind.wrap .i64 (((a0n : Nat) : Int) - (4 : Int))) ∧ (IntKind.wrap .i64 (((a0n : Nat) : Int) - (4 : Int))) ≤ ((a0c : Nat) : Int)) ∧ CallR Try.prog 23 #[.slice (cutAt 1 a0c (Int.toNat ((0 : Nat) : Int)) a0p) (Int.toNat (IntKind.wrap .i64 (((a0n : Nat) : Int) - (4 : Int))) - Int.toNat ((0 : Nat) : Int)) (a0c - Int.toNat ((0 : Nat) : Int))] w fun v1 w2 => ∃ (y3p : Option Addr) (y3n y3c : Nat), v1 = .slice y3p y3n y3c ∧ ∃ m4, X21.l0 Q m4 a0p a0n a0c (IntKind.wrap .i64 (((a0n : Nat) : Int) - (4 : Int))) y3p y3n y3c (IntKind.wrap .i64 (((a0n : Nat) : Int) - (4 : Int))) w2)
def X21.S (Q : Value → World → Prop) : Segs
  | 0, φ, ρ, w => qSl (ρ 0) fun t0p t0n t0c => qI .i64 (ρ 4) fun t4 => qSl (ρ 5) fun t5p t5n t5c => qI .i64 (ρ 6) fun t6 => X21.l0 Q (φ 0) t0p t0n t0c t4 t5p t5n t5c t6 w
  | _, _, _, _ => False
noncomputable def X21.an : Ann := (.seq .leaf (.seq (.seq .leaf (.cond (.seq .leaf .leaf) .leaf)) (.seq .leaf (.seq .leaf (.seq (.seq .leaf (.block (.loop 0 (.seq (.seq .leaf (.cond .leaf .leaf)) (.seq (.block (.seq (.draw [0, 0, 3, 7, 0, 0, 48, 112, 255] [[0, 1, 2, 3, 4, 5, 6, 7, 8]]) (.cond (.seq .leaf .leaf) .leaf))) .leaf))))) (.seq .leaf .leaf))))))
noncomputable def X21.c : Code := Try.f21.body.getD .skip
theorem X21.v (Q : Value → World → Prop) : V Try.prog (X21.S Q) X21.an X21.c (retC Try.prog Try.f21 Q) := ⟨trivial, ⟨⟨trivial, ⟨⟨trivial, trivial⟩, trivial⟩⟩, ⟨trivial, ⟨trivial, ⟨⟨trivial, ⟨(by
    intro φ ρ w h
    simp only [X21.S] at h
    obtain ⟨t0p, t0n, t0c, e0, h⟩ := qSl_elim h
    obtain ⟨t4, e4, h⟩ := qI_elim h
    obtain ⟨t5p, t5n, t5c, e5, h⟩ := qSl_elim h
    obtain ⟨t6, e6, h⟩ := qI_elim h
    cases hk : φ 0 with
    | zero => rw [hk] at h; exact h.elim
    | succ k => rw [hk] at h; exact ⟨k, Nat.lt_succ_self k, ((((Env.nil.put (some 0) (.slice t0p t0n t0c)).put (some 4) (.int .i64 t4)).put (some 5) (.slice t5p t5n t5c)).put (some 6) (.int .i64 t6)), Env.le_put e6 (Env.le_put e5 (Env.le_put e4 (Env.le_put e0 (Env.le_nil _)))), Eq.mp (by kernel_rfl) h⟩), ⟨⟨trivial, ⟨trivial, trivial⟩⟩, ⟨⟨trivial, ⟨⟨trivial, trivial⟩, trivial⟩⟩, trivial⟩⟩⟩⟩, ⟨trivial, trivial⟩⟩⟩⟩⟩⟩
theorem X21.sound (a0p : Option Addr) (a0n : Nat) (a0c : Nat) (w : World) (Q : Value → World → Prop) (h : X21.f a0p a0n a0c w Q) : CallR Try.prog 21 #[.slice a0p a0n a0c] w Q :=
  fn_sound noGr mixed Try.func21 (c := X21.c) (an := X21.an) (S := X21.S Q) (φ := fun _ => 0) (args := [.slice a0p a0n a0c]) (by kernel_rfl) (by kernel_rfl) (by kernel_rfl) (X21.v Q) (Eq.mp (by kernel_rfl) h)
/-! ### mooring/mooringref1.Unseal: function 22 -/
def X22.f (a0p : Option Addr) (a0n : Nat) (a0c : Nat) (w : World) (Q : Value → World → Prop) : Prop := bcase (decide (((a0n : Nat) : Int) < (4 : Int))) (Q (.tuple #[.slice none 0 0, .int .i64 (20 : Int)]) w) ((0 ≤ ((0 : Nat) : Int) ∧ ((0 : Nat) : Int) ≤ (IntKind.wrap .i64 (((a0n : Nat) : Int) - (4 : Int))) ∧ (IntKind.wrap .i64 (((a0n : Nat) : Int) - (4 : Int))) ≤ ((a0c : Nat) : Int)) ∧ CallR Try.prog 25 #[.slice (cutAt 1 a0c (Int.toNat ((0 : Nat) : Int)) a0p) (Int.toNat (IntKind.wrap .i64 (((a0n : Nat) : Int) - (4 : Int))) - Int.toNat ((0 : Nat) : Int)) (a0c - Int.toNat ((0 : Nat) : Int))] w fun v1 w2 => ∃ (y3 : Int), v1 = .int .u32 y3 ∧ (0 ≤ (IntKind.wrap .i64 (((a0n : Nat) : Int) - (4 : Int))) ∧ (IntKind.wrap .i64 (((a0n : Nat) : Int) - (4 : Int))) < ((a0n : Nat) : Int)) ∧ optP a0p fun p4 => ldI .u8 w2 (p4.add (Int.toNat (IntKind.wrap .i64 (((a0n : Nat) : Int) - (4 : Int))) * 1)) fun x5 => bcase (x5 != (IntKind.wrap .u8 y3)) (Q (.tuple #[.slice none 0 0, .int .i64 (23 : Int)]) w2) ((0 ≤ (IntKind.wrap .i64 ((IntKind.wrap .i64 (((a0n : Nat) : Int) - (4 : Int))) + (1 : Int))) ∧ (IntKind.wrap .i64 ((IntKind.wrap .i64 (((a0n : Nat) : Int) - (4 : Int))) + (1 : Int))) < ((a0n : Nat) : Int)) ∧ optP a0p fun p6 => ldI .u8 w2 (p6.add (Int.toNat (IntKind.wrap .i64 ((IntKind.wrap .i64 (((a0n : Nat) : Int) - (4 : Int))) + (1 : Int))) * 1)) fun x7 => 0 ≤ (8 : Int) ∧ bcase (x7 != (IntKind.wrap .u8 (iShr .u32 y3 (8 : Int)))) (Q (.tuple #[.slice none 0 0, .int .i64 (23 : Int)]) w2) ((0 ≤ (IntKind.wrap .i64 ((IntKind.wrap .i64 (((a0n : Nat) : Int) - (4 : Int))) + (2 : Int))) ∧ (IntKind.wrap .i64 ((IntKind.wrap .i64 (((a0n : Nat) : Int) - (4 : Int))) + (2 : Int))) < ((a0n : Nat) : Int)) ∧ optP a0p fun p8 => ldI .u8 w2 (p8.add (Int.toNat (IntKind.wrap .i64 ((IntKind.wrap .i64 (((a0n : Nat) : Int) - (4 : Int))) + (2 : Int))) * 1)) fun x9 => 0 ≤ (16 : Int) ∧ bcase (x9 != (IntKind.wrap .u8 (iShr .u32 y3 (16 : Int)))) (Q (.tuple #[.slice none 0 0, .int .i64 (23 : Int)]) w2) ((0 ≤ (IntKind.wrap .i64 ((IntKind.wrap .i64 (((a0n : Nat) : Int) - (4 : Int))) + (3 : Int))) ∧ (IntKind.wrap .i64 ((IntKind.wrap .i64 (((a0n : Nat) : Int) - (4 : Int))) + (3 : Int))) < ((a0n : Nat) : Int)) ∧ optP a0p fun p10 => ldI .u8 w2 (p10.add (Int.toNat (IntKind.wrap .i64 ((IntKind.wrap .i64 (((a0n : Nat) : Int) - (4 : Int))) + (3 : Int))) * 1)) fun x11 => 0 ≤ (24 : Int) ∧ bcase (x11 != (IntKind.wrap .u8 (iShr .u32 y3 (24 : Int)))) (Q (.tuple #[.slice none 0 0, .int .i64 (23 : Int)]) w2) (newK w2 #[] 5 fun g12 w13 => (0 ≤ ((0 : Nat) : Int) ∧ ((0 : Nat) : Int) ≤ (IntKind.wrap .i64 (((a0n : Nat) : Int) - (4 : Int))) ∧ (IntKind.wrap .i64 (((a0n : Nat) : Int) - (4 : Int))) ≤ ((a0c : Nat) : Int)) ∧ RunR Try.prog (Builtin.append_ #[23, 23] 23 #[.slice (some g12) 0 0, .slice (cutAt 1 a0c (Int.toNat ((0 : Nat) : Int)) a0p) (Int.toNat (IntKind.wrap .i64 (((a0n : Nat) : Int) - (4 : Int))) - Int.toNat ((0 : Nat) : Int)) (a0c - Int.toNat ((0 : Nat) : Int))]) w13 fun v14 w15 => ∃ (s16p : Option Addr) (s16n s16c : Nat), v14 = .slice s16p s16n s16c ∧ Q (.tuple #[.slice s16p s16n s16c, .int .i64 (0 : Int)]) w15)))))
def X22.S (Q : Value → World → Prop) : Segs
  | _, _, _, _ => False
noncomputable def X22.an : Ann := (.seq .leaf (.seq (.seq .leaf (.cond (.seq .leaf .leaf) .leaf)) (.seq .leaf (.seq .leaf (.seq (.seq .leaf (.cond (.seq .leaf .leaf) .leaf)) (.seq .leaf .leaf))))))
noncomputable def X22.c : Code := Try.f22.body.getD .skip
theorem X22.v (Q : Value → World → Prop) : V Try.prog (X22.S Q) X22.an X22.c (retC Try.prog Try.f22 Q) := ⟨trivial, ⟨⟨trivial, ⟨⟨trivial, trivial⟩, trivial⟩⟩, ⟨trivial, ⟨trivial, ⟨⟨trivial, ⟨⟨trivial, trivial⟩, trivial⟩⟩, ⟨trivial, trivial⟩⟩⟩⟩⟩⟩
theorem X22.sound (a0p : Option Addr) (a0n : Nat) (a0c : Nat) (w : World) (Q : Value → World → Prop) (h : X22.f a0p a0n a0c w Q) : CallR Try.prog 22 #[.slice a0p a0n a0c] w Q :=
  fn_sound noGr mixed Try.func22 (c := X22.c) (an := X22.an) (S := X22.S Q) (φ := fun _ => 0) (args := [.slice a0p a0n a0c]) (by kernel_rfl) (by kernel_rfl) (by kernel_rfl) (X22.v Q) (Eq.mp (by kernel_rfl) h)
/-! ### mooring/codec.Seal: function 23 -/
def X23.f (a0p : Option Addr) (a0n : Nat) (a0c : Nat) (w : World) (Q : Value → World → Prop) : Prop := CallR Try.prog 24 #[.slice a0p a0n a0c] w fun v1 w2 => ∃ (y3 : Int), v1 = .int .u32 y3 ∧ newK w2 #[] 5 fun g4 w5 => RunR Try.prog (Builtin.append_ #[23, 23] 23 #[.slice (some g4) 0 0, .slice a0p a0n a0c]) w5 fun v6 w7 => ∃ (s8p : Option Addr) (s8n s8c : Nat), v6 = .slice s8p s8n s8c ∧ 0 ≤ (8 : Int) ∧ 0 ≤ (16 : Int) ∧ 0 ≤ (24 : Int) ∧ newK w7 #[.int .u8 (IntKind.wrap .u8 y3), .int .u8 (IntKind.wrap .u8 (iShr .u32 y3 (8 : Int))), .int .u8 (IntKind.wrap .u8 (iShr .u32 y3 (16 : Int))), .int .u8 (IntKind.wrap .u8 (iShr .u32 y3 (24 : Int)))] 5 fun g9 w10 => RunR Try.prog (Builtin.append_ #[23, 23] 23 #[.slice s8p s8n s8c, .slice (some g9) 4 4]) w10 fun v11 w12 => ∃ (s13p : Option Addr) (s13n s13c : Nat), v11 = .slice s13p s13n s13c ∧ Q (.slice s13p s13n s13c) w12
def X23.S (Q : Value → World → Prop) : Segs
  | _, _, _, _ => False
noncomputable def X23.an : Ann := (.seq .leaf (.seq .leaf (.seq .leaf .leaf)))
noncomputable def X23.c : Code := Try.f23.body.getD .skip
theorem X23.v (Q : Value → World → Prop) : V Try.prog (X23.S Q) X23.an X23.c (retC Try.prog Try.f23 Q) := ⟨trivial, ⟨trivial, ⟨trivial, trivial⟩⟩⟩
theorem X23.sound (a0p : Option Addr) (a0n : Nat) (a0c : Nat) (w : World) (Q : Value → World → Prop) (h : X23.f a0p a0n a0c w Q) : CallR Try.prog 23 #[.slice a0p a0n a0c] w Q :=
  fn_sound noGr mixed Try.func23 (c := X23.c) (an := X23.an) (S := X23.S Q) (φ := fun _ => 0) (args := [.slice a0p a0n a0c]) (by kernel_rfl) (by kernel_rfl) (by kernel_rfl) (X23.v Q) (Eq.mp (by kernel_rfl) h)
/-! ### mooring/codec.Sum: function 24 -/
def X24.l1 (Q : Value → World → Prop) (b0 : Int → Option Addr → Nat → Nat → Int → Int → World → Prop) : Nat → Int → Int → (Option Addr) → Nat → Nat → Int → Int → World → Prop
  | 0, _, _, _, _, _, _, _, _ => False
  | k + 1, t3, t6, t8p, t8n, t8c, t9, t10, w => bcase (decide (t6 < (8 : Int))) (0 ≤ (1 : Int) ∧ bcase ((iAnd .u32 t3 (1 : Int)) == (1 : Int)) (X24.l1 Q b0 k (iXor .u32 (iShr .u32 t3 (1 : Int)) (3988292384 : Int)) (IntKind.wrap .i64 (t6 + (1 : Int))) t8p t8n t8c t9 t10 w) (X24.l1 Q b0 k (iShr .u32 t3 (1 : Int)) (IntKind.wrap .i64 (t6 + (1 : Int))) t8p t8n t8c t9 t10 w)) (b0 t3 t8p t8n t8c t9 (IntKind.wrap .i64 (t10 + (1 : Int))) w)
def X24.l0 (Q : Value → World → Prop) : Nat → Int → (Option Addr) → Nat → Nat → Int → Int → World → Prop
  | 0, _, _, _, _, _, _, _ => False
  | k + 1, t3, t8p, t8n, t8c, t9, t10, w => bcase (decide (t10 < t9)) ((0 ≤ t10 ∧ t10 < ((t8n : Nat) : Int)) ∧ optP t8p fun p1 => ldI .u8 w (p1.add (Int.toNat t10 * 1)) fun x2 => ∃ m3, X24.l1 Q (X24.l0 Q k) m3 (iXor .u32 t3 (IntKind.wrap .u32 x2)) (0 : Int) t8p t8n t8c t9 t10 w) (Q (.int .u32 (iNot .u32 t3)) w)
def X24.f (a0p : Option Addr) (a0n : Nat) (a0c : Nat) (w : World) (Q : Value → World → Prop) : Prop := ∃ m1, X24.l0 Q m1 (4294967295 : Int) a0p a0n a0c ((a0n : Nat) : Int) (0 : Int) w
def X24.S (Q : Value → World → Prop) : Segs
  | 0, φ, ρ, w => qI .u32 (ρ 3) fun t3 => qSl (ρ 8) fun t8p t8n t8c => qI .i64 (ρ 9) fun t9 => qI .i64 (ρ 10) fun t10 => X24.l0 Q (φ 0) t3 t8p t8n t8c t9 t10 w
  | 1, φ, ρ, w => qI .u32 (ρ 3) fun t3 => qI .i64 (ρ 6) fun t6 => qSl (ρ 8) fun t8p t8n t8c => qI .i64 (ρ 9) fun t9 => qI .i64 (ρ 10) fun t10 => X24.l1 Q (X24.l0 Q (φ 0)) (φ 1) t3 t6 t8p t8n t8c t9 t10 w
  | _, _, _, _ => False
noncomputable def X24.an : Ann := (.seq .leaf (.seq .leaf (.seq (.seq .leaf (.block (.loop 0 (.seq .leaf (.seq (.cond .leaf .leaf) (.seq (.block (.seq .leaf (.seq .leaf (.seq .leaf (.block (.loop 1 (.seq (.seq .leaf (.cond .leaf .leaf)) (.seq (.block (.seq .leaf (.seq .leaf (.seq .leaf (.cond .leaf .leaf))))) .leaf)))))))) .leaf)))))) (.seq .leaf .leaf))))
noncomputable def X24.c : Code := Try.f24.body.getD .skip
theorem X24.v (Q : Value → World → Prop) : V Try.prog (X24.S Q) X24.an X24.c (retC Try.prog Try.f24 Q) := ⟨trivial, ⟨trivial, ⟨⟨trivial, ⟨(by
    intro φ ρ w h
    simp only [X24.S] at h
    obtain ⟨t3, e3, h⟩ := qI_elim h
    obtain ⟨t8p, t8n, t8c, e8, h⟩ := qSl_elim h
    obtain ⟨t9, e9, h⟩ := qI_elim h
    obtain ⟨t10, e10, h⟩ := qI_elim h
    cases hk : φ 0 with
    | zero => rw [hk] at h; exact h.elim
    | succ k => rw [hk] at h; exact ⟨k, Nat.lt_succ_self k, ((((Env.nil.put (some 3) (.int .u32 t3)).put (some 8) (.slice t8p t8n t8c)).put (some 9) (.int .i64 t9)).put (some 10) (.int .i64 t10)), Env.le_put e10 (Env.le_put e9 (Env.le_put e8 (Env.le_put e3 (Env.le_nil _)))), Eq.mp (by kernel_rfl) h⟩), ⟨trivial, ⟨⟨trivial, trivial⟩, ⟨⟨trivial, ⟨trivial, ⟨trivial, ⟨(by
    intro φ ρ w h
    simp only [X24.S] at h
    obtain ⟨t3, e3, h⟩ := qI_elim h
    obtain ⟨t6, e6, h⟩ := qI_elim h
    obtain ⟨t8p, t8n, t8c, e8, h⟩ := qSl_elim h
    obtain ⟨t9, e9, h⟩ := qI_elim h
    obtain ⟨t10, e10, h⟩ := qI_elim h
    cases hk : φ 1 with
    | zero => rw [hk] at h; exact h.elim
    | succ k => rw [hk] at h; exact ⟨k, Nat.lt_succ_self k, (((((Env.nil.put (some 3) (.int .u32 t3)).put (some 6) (.int .i64 t6)).put (some 8) (.slice t8p t8n t8c)).put (some 9) (.int .i64 t9)).put (some 10) (.int .i64 t10)), Env.le_put e10 (Env.le_put e9 (Env.le_put e8 (Env.le_put e6 (Env.le_put e3 (Env.le_nil _))))), Eq.mp (by kernel_rfl) h⟩), ⟨⟨trivial, ⟨trivial, trivial⟩⟩, ⟨⟨trivial, ⟨trivial, ⟨trivial, ⟨trivial, trivial⟩⟩⟩⟩, trivial⟩⟩⟩⟩⟩⟩, trivial⟩⟩⟩⟩⟩, ⟨trivial, trivial⟩⟩⟩⟩
theorem X24.sound (a0p : Option Addr) (a0n : Nat) (a0c : Nat) (w : World) (Q : Value → World → Prop) (h : X24.f a0p a0n a0c w Q) : CallR Try.prog 24 #[.slice a0p a0n a0c] w Q :=
  fn_sound noGr mixed Try.func24 (c := X24.c) (an := X24.an) (S := X24.S Q) (φ := fun _ => 0) (args := [.slice a0p a0n a0c]) (by kernel_rfl) (by kernel_rfl) (by kernel_rfl) (X24.v Q) (Eq.mp (by kernel_rfl) h)
/-! ### mooring/mooringref1.Sum: function 25 -/
def X25.l1 (Q : Value → World → Prop) (b0 : Option Addr → Nat → Nat → Int → Int → World → Prop) : Nat → (Option Addr) → Nat → Nat → Int → Int → Int → World → Prop
  | 0, _, _, _, _, _, _, _ => False
  | k + 1, t0p, t0n, t0c, t3, t4, t5, w => bcase (decide (t5 < (8 : Int))) ((2 : Int) ≠ 0 ∧ bcase ((iAnd .u32 t3 (1 : Int)) == (1 : Int)) (X25.l1 Q b0 k t0p t0n t0c (iXor .u32 (IntKind.wrap .u32 (Int.tdiv t3 (2 : Int))) (3988292384 : Int)) t4 (IntKind.wrap .i64 (t5 + (1 : Int))) w) (X25.l1 Q b0 k t0p t0n t0c (IntKind.wrap .u32 (Int.tdiv t3 (2 : Int))) t4 (IntKind.wrap .i64 (t5 + (1 : Int))) w)) (b0 t0p t0n t0c t3 (IntKind.wrap .i64 (t4 + (1 : Int))) w)
def X25.l0 (Q : Value → World → Prop) : Nat → (Option Addr) → Nat → Nat → Int → Int → World → Prop
  | 0, _, _, _, _, _, _ => False
  | k + 1, t0p, t0n, t0c, t3, t4, w => bcase (decide (t4 < ((t0n : Nat) : Int))) ((0 ≤ t4 ∧ t4 < ((t0n : Nat) : Int)) ∧ optP t0p fun p1 => ldI .u8 w (p1.add (Int.toNat t4 * 1)) fun x2 => ∃ m3, X25.l1 Q (X25.l0 Q k) m3 t0p t0n t0c (iXor .u32 t3 (IntKind.wrap .u32 x2)) t4 (0 : Int) w) (Q (.int .u32 (iXor .u32 t3 (4294967295 : Int))) w)
def X25.f (a0p : Option Addr) (a0n : Nat) (a0c : Nat) (w : World) (Q : Value → World → Prop) : Prop := ∃ m1, X25.l0 Q m1 a0p a0n a0c (4294967295 : Int) (0 : Int) w
def X25.S (Q : Value → World → Prop) : Segs
  | 0, φ, ρ, w => qSl (ρ 0) fun t0p t0n t0c => qI .u32 (ρ 3) fun t3 => qI .i64 (ρ 4) fun t4 => X25.l0 Q (φ 0) t0p t0n t0c t3 t4 w
  | 1, φ, ρ, w => qSl (ρ 0) fun t0p t0n t0c => qI .u32 (ρ 3) fun t3 => qI .i64 (ρ 4) fun t4 => qI .i64 (ρ 5) fun t5 => X25.l1 Q (X25.l0 Q (φ 0)) (φ 1) t0p t0n t0c t3 t4 t5 w
  | _, _, _, _ => False
noncomputable def X25.an : Ann := (.seq .leaf (.seq .leaf (.seq (.seq .leaf (.block (.loop 0 (.seq (.seq .leaf (.cond .leaf .leaf)) (.seq (.block (.seq .leaf (.seq .leaf (.block (.loop 1 (.seq (.seq .leaf (.cond .leaf .leaf)) (.seq (.block (.seq .leaf (.seq .leaf (.seq .leaf (.cond .leaf .leaf))))) .leaf))))))) .leaf))))) (.seq .leaf .leaf))))
noncomputable def X25.c : Code := Try.f25.body.getD .skip
theorem X25.v (Q : Value → World → Prop) : V Try.prog (X25.S Q) X25.an X25.c (retC Try.prog Try.f25 Q) := ⟨trivial, ⟨trivial, ⟨⟨trivial, ⟨(by
    intro φ ρ w h
    simp only [X25.S] at h
    obtain ⟨t0p, t0n, t0c, e0, h⟩ := qSl_elim h
    obtain ⟨t3, e3, h⟩ := qI_elim h
    obtain ⟨t4, e4, h⟩ := qI_elim h
    cases hk : φ 0 with
    | zero => rw [hk] at h; exact h.elim
    | succ k => rw [hk] at h; exact ⟨k, Nat.lt_succ_self k, (((Env.nil.put (some 0) (.slice t0p t0n t0c)).put (some 3) (.int .u32 t3)).put (some 4) (.int .i64 t4)), Env.le_put e4 (Env.le_put e3 (Env.le_put e0 (Env.le_nil _))), Eq.mp (by kernel_rfl) h⟩), ⟨⟨trivial, ⟨trivial, trivial⟩⟩, ⟨⟨trivial, ⟨trivial, ⟨(by
    intro φ ρ w h
    simp only [X25.S] at h
    obtain ⟨t0p, t0n, t0c, e0, h⟩ := qSl_elim h
    obtain ⟨t3, e3, h⟩ := qI_elim h
    obtain ⟨t4, e4, h⟩ := qI_elim h
    obtain ⟨t5, e5, h⟩ := qI_elim h
    cases hk : φ 1 with
    | zero => rw [hk] at h; exact h.elim
    | succ k => rw [hk] at h; exact ⟨k, Nat.lt_succ_self k, ((((Env.nil.put (some 0) (.slice t0p t0n t0c)).put (some 3) (.int .u32 t3)).put (some 4) (.int .i64 t4)).put (some 5) (.int .i64 t5)), Env.le_put e5 (Env.le_put e4 (Env.le_put e3 (Env.le_put e0 (Env.le_nil _)))), Eq.mp (by kernel_rfl) h⟩), ⟨⟨trivial, ⟨trivial, trivial⟩⟩, ⟨⟨trivial, ⟨trivial, ⟨trivial, ⟨trivial, trivial⟩⟩⟩⟩, trivial⟩⟩⟩⟩⟩, trivial⟩⟩⟩⟩, ⟨trivial, trivial⟩⟩⟩⟩
theorem X25.sound (a0p : Option Addr) (a0n : Nat) (a0c : Nat) (w : World) (Q : Value → World → Prop) (h : X25.f a0p a0n a0c w Q) : CallR Try.prog 25 #[.slice a0p a0n a0c] w Q :=
  fn_sound noGr mixed Try.func25 (c := X25.c) (an := X25.an) (S := X25.S Q) (φ := fun _ => 0) (args := [.slice a0p a0n a0c]) (by kernel_rfl) (by kernel_rfl) (by kernel_rfl) (X25.v Q) (Eq.mp (by kernel_rfl) h)
/-! ### mooring/mooringref1.Seal: function 26 -/
def X26.f (a0p : Option Addr) (a0n : Nat) (a0c : Nat) (w : World) (Q : Value → World → Prop) : Prop := CallR Try.prog 25 #[.slice a0p a0n a0c] w fun v1 w2 => ∃ (y3 : Int), v1 = .int .u32 y3 ∧ newK w2 #[] 5 fun g4 w5 => RunR Try.prog (Builtin.append_ #[23, 23] 23 #[.slice (some g4) 0 0, .slice a0p a0n a0c]) w5 fun v6 w7 => ∃ (s8p : Option Addr) (s8n s8c : Nat), v6 = .slice s8p s8n s8c ∧ 0 ≤ (8 : Int) ∧ 0 ≤ (16 : Int) ∧ 0 ≤ (24 : Int) ∧ newK w7 #[.int .u8 (IntKind.wrap .u8 y3), .int .u8 (IntKind.wrap .u8 (iShr .u32 y3 (8 : Int))), .int .u8 (IntKind.wrap .u8 (iShr .u32 y3 (16 : Int))), .int .u8 (IntKind.wrap .u8 (iShr .u32 y3 (24 : Int)))] 5 fun g9 w10 => RunR Try.prog (Builtin.append_ #[23, 23] 23 #[.slice s8p s8n s8c, .slice (some g9) 4 4]) w10 fun v11 w12 => ∃ (s13p : Option Addr) (s13n s13c : Nat), v11 = .slice s13p s13n s13c ∧ Q (.slice s13p s13n s13c) w12
def X26.S (Q : Value → World → Prop) : Segs
  | _, _, _, _ => False
noncomputable def X26.an : Ann := (.seq .leaf (.seq .leaf (.seq .leaf (.seq .leaf .leaf))))
noncomputable def X26.c : Code := Try.f26.body.getD .skip
theorem X26.v (Q : Value → World → Prop) : V Try.prog (X26.S Q) X26.an X26.c (retC Try.prog Try.f26 Q) := ⟨trivial, ⟨trivial, ⟨trivial, ⟨trivial, trivial⟩⟩⟩⟩
theorem X26.sound (a0p : Option Addr) (a0n : Nat) (a0c : Nat) (w : World) (Q : Value → World → Prop) (h : X26.f a0p a0n a0c w Q) : CallR Try.prog 26 #[.slice a0p a0n a0c] w Q :=
  fn_sound noGr mixed Try.func26 (c := X26.c) (an := X26.an) (S := X26.S Q) (φ := fun _ => 0) (args := [.slice a0p a0n a0c]) (by kernel_rfl) (by kernel_rfl) (by kernel_rfl) (X26.v Q) (Eq.mp (by kernel_rfl) h)
/-! ### mooring/mooringlaw1.reads: function 27 -/
def X27.l1 (Q : Value → World → Prop) (b0 : Option Addr → Nat → Nat → Option Addr → Nat → Nat → Option Addr → Nat → Nat → Option Addr → Addr → Int → World → Prop) : Nat → (Option Addr) → Nat → Nat → (Option Addr) → Nat → Nat → (Option Addr) → Nat → Nat → (Option Addr) → Addr → Int → Bool → (Option Addr) → Nat → Nat → Int → World → Prop
  | 0, _, _, _, _, _, _, _, _, _, _, _, _, _, _, _, _, _, _ => False
  | k + 1, t0p, t0n, t0c, t1p, t1n, t1c, t5p, t5n, t5c, t6, t7, t8, t9, t10p, t10n, t10c, t11, w => bcase (decide (t11 < ((t10n : Nat) : Int))) ((0 ≤ t11 ∧ t11 < ((t10n : Nat) : Int)) ∧ optP t10p fun p1 => stK w (p1.add (Int.toNat t11 * 1)) (.int .u8 (238 : Int)) fun w2 => X27.l1 Q b0 k t0p t0n t0c t1p t1n t1c t5p t5n t5c t6 t7 t8 t9 t10p t10n t10c (IntKind.wrap .i64 (t11 + (1 : Int))) w2) (bcase (!t9) (Q (.bool false) w) (b0 t0p t0n t0c t1p t1n t1c t5p t5n t5c t6 t7 (IntKind.wrap .i64 (t8 + (1 : Int))) w))
def X27.l0 (Q : Value → World → Prop) : Nat → (Option Addr) → Nat → Nat → (Option Addr) → Nat → Nat → (Option Addr) → Nat → Nat → (Option Addr) → Addr → Int → World → Prop
  | 0, _, _, _, _, _, _, _, _, _, _, _, _, _ => False
  | k + 1, t0p, t0n, t0c, t1p, t1n, t1c, t5p, t5n, t5c, t6, t7, t8, w => bcase (decide (t8 < ((t1n : Nat) : Int))) ((0 ≤ t8 ∧ t8 < ((t1n : Nat) : Int)) ∧ optP t1p fun p1 => ldI .i64 w ((p1.add (Int.toNat t8 * 4)).add 0) fun x2 => CallR Try.prog 14 #[.int .i64 x2, .int .i64 (4 : Int)] w fun v3 w4 => ∃ (y5 : Int), v3 = .int .i64 y5 ∧ bcase (y5 == (0 : Int)) (drewK w4 fun w6 => (0 ≤ t8 ∧ t8 < ((t1n : Nat) : Int)) ∧ optP t1p fun p7 => ldI .u8 w6 ((p7.add (Int.toNat t8 * 4)).add 1) fun x8 => CallR Try.prog 30 #[.pointer t6, .int .u8 x8] w6 fun v9 w10 => ∃ (y11 : Int), v9 = .int .u8 y11 ∧ (0 ≤ t8 ∧ t8 < ((t1n : Nat) : Int)) ∧ optP t1p fun p12 => ldI .u8 w10 ((p12.add (Int.toNat t8 * 4)).add 1) fun x13 => (World.cell? w6 ((p12.add (Int.toNat t8 * 4)).add 1) = some (.int .u8 x13) ∧ World.cell? w10 ((p12.add (Int.toNat t8 * 4)).add 1) = some (.int .u8 x13)) ∧ CallR Try.prog 34 #[.pointer (some t7), .int .u8 x13] w10 fun v14 w15 => ∃ (y16 : Int), v14 = .int .u8 y16 ∧ bcase (!(y11 == y16)) (Q (.bool false) w15) (X27.l0 Q k t0p t0n t0c t1p t1n t1c t5p t5n t5c t6 t7 (IntKind.wrap .i64 (t8 + (1 : Int))) w15)) (bcase (y5 == (1 : Int)) (drewK w4 fun w17 => (0 ≤ t8 ∧ t8 < ((t1n : Nat) : Int)) ∧ optP t1p fun p18 => ldI .u64 w17 ((p18.add (Int.toNat t8 * 4)).add 2) fun x19 => CallR Try.prog 31 #[.pointer t6, .int .u64 x19] w17 fun v20 w21 => ∃ (y22 : Int), v20 = .int .u64 y22 ∧ (0 ≤ t8 ∧ t8 < ((t1n : Nat) : Int)) ∧ optP t1p fun p23 => ldI .u64 w21 ((p23.add (Int.toNat t8 * 4)).add 2) fun x24 => (World.cell? w17 ((p23.add (Int.toNat t8 * 4)).add 2) = some (.int .u64 x24) ∧ World.cell? w21 ((p23.add (Int.toNat t8 * 4)).add 2) = some (.int .u64 x24)) ∧ CallR Try.prog 35 #[.pointer (some t7), .int .u64 x24] w21 fun v25 w26 => ∃ (y27 : Int), v25 = .int .u64 y27 ∧ bcase (!(y22 == y27)) (Q (.bool false) w26) (X27.l0 Q k t0p t0n t0c t1p t1n t1c t5p t5n t5c t6 t7 (IntKind.wrap .i64 (t8 + (1 : Int))) w26)) (bcase (y5 == (2 : Int)) ((0 ≤ t8 ∧ t8 < ((t1n : Nat) : Int)) ∧ optP t1p fun p28 => ldI .i64 w4 ((p28.add (Int.toNat t8 * 4)).add 3) fun x29 => CallR Try.prog 32 #[.pointer t6, .int .i64 x29] w4 fun v30 w31 => ∃ (y32p : Option Addr) (y32n y32c : Nat), v30 = .slice y32p y32n y32c ∧ drewK w31 fun w33 => ∃ bs34 : List Int, BytesAt w33 y32p y32n bs34 ∧ (0 ≤ t8 ∧ t8 < ((t1n : Nat) : Int)) ∧ optP t1p fun p35 => ldI .i64 w33 ((p35.add (Int.toNat t8 * 4)).add 3) fun x36 => CallR Try.prog 36 #[.pointer (some t7), .int .i64 x36] w33 fun v37 w38 => ∃ (y39p : Option Addr) (y39n y39c : Nat), v37 = .slice y39p y39n y39c ∧ (BytesAt w33 y32p y32n bs34 ∧ BytesAt w38 y32p y32n bs34) ∧ ∃ bs40 : List Int, BytesAt w38 y39p y39n bs40 ∧ ∃ m41, X27.l1 Q (X27.l0 Q k) m41 t0p t0n t0c t1p t1n t1c t5p t5n t5c t6 t7 t8 (strEq (strOfNums bs34) (strOfNums bs40)) y32p y32n y32c (0 : Int) w38) (CallR Try.prog 33 #[.pointer t6] w4 fun v42 w43 => ∃ (y44 : Int), v42 = .int .i64 y44 ∧ CallR Try.prog 37 #[.pointer (some t7)] w43 fun v45 w46 => ∃ (y47 : Int), v45 = .int .i64 y47 ∧ bcase (!(y44 == y47)) (Q (.bool false) w46) (X27.l0 Q k t0p t0n t0c t1p t1n t1c t5p t5n t5c t6 t7 (IntKind.wrap .i64 (t8 + (1 : Int))) w46))))) (CallR Try.prog 33 #[.pointer t6] w fun v48 w49 => ∃ (y50 : Int), v48 = .int .i64 y50 ∧ CallR Try.prog 37 #[.pointer (some t7)] w49 fun v51 w52 => ∃ (y53 : Int), v51 = .int .i64 y53 ∧ bcase (y50 == y53) (∃ bs54 : List Int, BytesAt w52 t5p t5n bs54 ∧ ∃ bs55 : List Int, BytesAt w52 t0p t0n bs55 ∧ Q (.bool (strEq (strOfNums bs54) (strOfNums bs55))) w52) (Q (.bool false) w52))
def X27.f (a0p : Option Addr) (a0n : Nat) (a0c : Nat) (a1p : Option Addr) (a1n : Nat) (a1c : Nat) (w : World) (Q : Value → World → Prop) : Prop := newK w #[] 5 fun g1 w2 => RunR Try.prog (Builtin.append_ #[23, 23] 23 #[.slice (some g1) 0 0, .slice a0p a0n a0c]) w2 fun v3 w4 => ∃ (s5p : Option Addr) (s5n s5c : Nat), v3 = .slice s5p s5n s5c ∧ CallR Try.prog 29 #[.slice s5p s5n s5c] w4 fun v6 w7 => ∃ (y8 : Option Addr), v6 = .pointer y8 ∧ newK w7 #[.slice a0p a0n a0c, .int .i64 (0 : Int), .int .i64 (0 : Int)] 65 fun g9 w10 => bcase (Option.isNone y8) (Q (.bool false) w10) (∃ m11, X27.l0 Q m11 a0p a0n a0c a1p a1n a1c s5p s5n s5c y8 g9 (0 : Int) w10)
def X27.S (Q : Value → World → Prop) : Segs
  | 0, φ, ρ, w => qSl (ρ 0) fun t0p t0n t0c => qSl (ρ 1) fun t1p t1n t1c => qSl (ρ 5) fun t5p t5n t5c => qP (ρ 6) fun t6 => qA (ρ 7) fun t7 => qI .i64 (ρ 8) fun t8 => X27.l0 Q (φ 0) t0p t0n t0c t1p t1n t1c t5p t5n t5c t6 t7 t8 w
  | 1, φ, ρ, w => qSl (ρ 0) fun t0p t0n t0c => qSl (ρ 1) fun t1p t1n t1c => qSl (ρ 5) fun t5p t5n t5c => qP (ρ 6) fun t6 => qA (ρ 7) fun t7 => qI .i64 (ρ 8) fun t8 => qB (ρ 9) fun t9 => qSl (ρ 10) fun t10p t10n t10c => qI .i64 (ρ 11) fun t11 => X27.l1 Q (X27.l0 Q (φ 0)) (φ 1) t0p t0n t0c t1p t1n t1c t5p t5n t5c t6 t7 t8 t9 t10p t10n t10c t11 w
  | _, _, _, _ => False
noncomputable def X27.an : Ann := (.seq .leaf (.seq .leaf (.seq .leaf (.seq .leaf (.seq (.seq .leaf (.cond (.seq .leaf .leaf) .leaf)) (.seq (.seq .leaf (.block (.loop 0 (.seq (.seq .leaf (.cond .leaf .leaf)) (.seq (.block (.seq .leaf (.seq (.seq .leaf (.block (.seq .leaf (.cond (.draw [0, 0, 0, 6, 14, 30, 63, 0, 0, 0, 768, 1792, 3840, 8191, 16383, 32767] [[0, 1, 2, 3, 4, 5, 6, 7, 8, 9, 10, 11, 12, 13, 14, 15]]) (.seq .leaf (.cond (.draw [0, 0, 0, 6, 14, 30, 63, 0, 0, 0, 768, 1792, 3840, 8191, 16383, 32767] [[0, 1, 2, 3, 4, 5, 6, 7, 8, 9, 10, 11, 12, 13, 14, 15]]) (.seq .leaf (.cond (.seq .leaf (.seq (.draw [0, 1, 0, 0, 0, 24, 56, 120, 252, 508, 1023, 2047] [[0, 1, 2, 3, 4, 5, 6, 7, 8, 9, 10, 11]]) (.seq .leaf (.block (.loop 1 (.seq (.seq .leaf (.cond .leaf .leaf)) (.seq (.block .leaf) .leaf))))))) .leaf)))))))) (.seq .leaf (.cond (.seq .leaf .leaf) .leaf))))) .leaf))))) (.seq .leaf .leaf)))))))
noncomputable def X27.c : Code := Try.f27.body.getD .skip
theorem X27.v (Q : Value → World → Prop) : V Try.prog (X27.S Q) X27.an X27.c (retC Try.prog Try.f27 Q) := ⟨trivial, ⟨trivial, ⟨trivial, ⟨trivial, ⟨⟨trivial, ⟨⟨trivial, trivial⟩, trivial⟩⟩, ⟨⟨trivial, ⟨(by
    intro φ ρ w h
    simp only [X27.S] at h
    obtain ⟨t0p, t0n, t0c, e0, h⟩ := qSl_elim h
    obtain ⟨t1p, t1n, t1c, e1, h⟩ := qSl_elim h
    obtain ⟨t5p, t5n, t5c, e5, h⟩ := qSl_elim h
    obtain ⟨t6, e6, h⟩ := qP_elim h
    obtain ⟨t7, e7, h⟩ := qA_elim h
    obtain ⟨t8, e8, h⟩ := qI_elim h
    cases hk : φ 0 with
    | zero => rw [hk] at h; exact h.elim
    | succ k => rw [hk] at h; exact ⟨k, Nat.lt_succ_self k, ((((((Env.nil.put (some 0) (.slice t0p t0n t0c)).put (some 1) (.slice t1p t1n t1c)).put (some 5) (.slice t5p t5n t5c)).put (some 6) (.pointer t6)).put (some 7) (.pointer (some t7))).put (some 8) (.int .i64 t8)), Env.le_put e8 (Env.le_put e7 (Env.le_put e6 (Env.le_put e5 (Env.le_put e1 (Env.le_put e0 (Env.le_nil _)))))), Eq.mp (by kernel_rfl) h⟩), ⟨⟨trivial, ⟨trivial, trivial⟩⟩, ⟨⟨trivial, ⟨⟨trivial, ⟨trivial, ⟨trivial, ⟨trivial, ⟨trivial, ⟨trivial, ⟨⟨trivial, ⟨trivial, ⟨trivial, ⟨(by
    intro φ ρ w h
    simp only [X27.S] at h
    obtain ⟨t0p, t0n, t0c, e0, h⟩ := qSl_elim h
    obtain ⟨t1p, t1n, t1c, e1, h⟩ := qSl_elim h
    obtain ⟨t5p, t5n, t5c, e5, h⟩ := qSl_elim h
    obtain ⟨t6, e6, h⟩ := qP_elim h
    obtain ⟨t7, e7, h⟩ := qA_elim h
    obtain ⟨t8, e8, h⟩ := qI_elim h
    obtain ⟨t9, e9, h⟩ := qB_elim h
    obtain ⟨t10p, t10n, t10c, e10, h⟩ := qSl_elim h
    obtain ⟨t11, e11, h⟩ := qI_elim h
    cases hk : φ 1 with
    | zero => rw [hk] at h; exact h.elim
    | succ k => rw [hk] at h; exact ⟨k, Nat.lt_succ_self k, (((((((((Env.nil.put (some 0) (.slice t0p t0n t0c)).put (some 1) (.slice t1p t1n t1c)).put (some 5) (.slice t5p t5n t5c)).put (some 6) (.pointer t6)).put (some 7) (.pointer (some t7))).put (some 8) (.int .i64 t8)).put (some 9) (.bool t9)).put (some 10) (.slice t10p t10n t10c)).put (some 11) (.int .i64 t11)), Env.le_put e11 (Env.le_put e10 (Env.le_put e9 (Env.le_put e8 (Env.le_put e7 (Env.le_put e6 (Env.le_put e5 (Env.le_put e1 (Env.le_put e0 (Env.le_nil _))))))))), Eq.mp (by kernel_rfl) h⟩), ⟨⟨trivial, ⟨trivial, trivial⟩⟩, ⟨trivial, trivial⟩⟩⟩⟩⟩⟩, trivial⟩⟩⟩⟩⟩⟩⟩, ⟨trivial, ⟨⟨trivial, trivial⟩, trivial⟩⟩⟩⟩, trivial⟩⟩⟩⟩, ⟨trivial, trivial⟩⟩⟩⟩⟩⟩⟩
theorem X27.sound (a0p : Option Addr) (a0n : Nat) (a0c : Nat) (a1p : Option Addr) (a1n : Nat) (a1c : Nat) (w : World) (Q : Value → World → Prop) (h : X27.f a0p a0n a0c a1p a1n a1c w Q) : CallR Try.prog 27 #[.slice a0p a0n a0c, .slice a1p a1n a1c] w Q :=
  fn_sound noGr mixed Try.func27 (c := X27.c) (an := X27.an) (S := X27.S Q) (φ := fun _ => 0) (args := [.slice a0p a0n a0c, .slice a1p a1n a1c]) (by kernel_rfl) (by kernel_rfl) (by kernel_rfl) (X27.v Q) (Eq.mp (by kernel_rfl) h)
/-! ### mooring/mooringlaw1.laid: function 28 -/
def X28.l0 (Q : Value → World → Prop) : Nat → (Option Addr) → Nat → Nat → (Option Addr) → Int → World → Prop
  | 0, _, _, _, _, _, _ => False
  | k + 1, t0p, t0n, t0c, t3, t4, w => bcase (decide (t4 < ((t0n : Nat) : Int))) ((0 ≤ t4 ∧ t4 < ((t0n : Nat) : Int)) ∧ optP t0p fun p1 => ldI .i64 w ((p1.add (Int.toNat t4 * 4)).add 0) fun x2 => CallR Try.prog 14 #[.int .i64 x2, .int .i64 (3 : Int)] w fun v3 w4 => ∃ (y5 : Int), v3 = .int .i64 y5 ∧ bcase (y5 == (0 : Int)) ((0 ≤ t4 ∧ t4 < ((t0n : Nat) : Int)) ∧ optP t0p fun p6 => ldI .u8 w4 ((p6.add (Int.toNat t4 * 4)).add 1) fun x7 => CallR Try.prog 15 #[.pointer t3, .int .u8 x7] w4 fun v8 w9 => v8 = .tuple #[] ∧ X28.l0 Q k t0p t0n t0c t3 (IntKind.wrap .i64 (t4 + (1 : Int))) w9) (bcase (y5 == (1 : Int)) ((0 ≤ t4 ∧ t4 < ((t0n : Nat) : Int)) ∧ optP t0p fun p10 => ldI .u64 w4 ((p10.add (Int.toNat t4 * 4)).add 2) fun x11 => CallR Try.prog 16 #[.pointer t3, .int .u64 x11] w4 fun v12 w13 => v12 = .tuple #[] ∧ X28.l0 Q k t0p t0n t0c t3 (IntKind.wrap .i64 (t4 + (1 : Int))) w13) ((0 ≤ t4 ∧ t4 < ((t0n : Nat) : Int)) ∧ optP t0p fun p14 => ldSl w4 ((p14.add (Int.toNat t4 * 4)).add 3) fun x15p x15n x15c => CallR Try.prog 18 #[.pointer t3, .slice x15p x15n x15c] w4 fun v16 w17 => v16 = .tuple #[] ∧ X28.l0 Q k t0p t0n t0c t3 (IntKind.wrap .i64 (t4 + (1 : Int))) w17))) (CallR Try.prog 20 #[.pointer t3] w fun v18 w19 => ∃ (y20p : Option Addr) (y20n y20c : Nat), v18 = .slice y20p y20n y20c ∧ Q (.slice y20p y20n y20c) w19)
def X28.f (a0p : Option Addr) (a0n : Nat) (a0c : Nat) (w : World) (Q : Value → World → Prop) : Prop := CallR Try.prog 12 #[] w fun v1 w2 => ∃ (y3 : Option Addr), v1 = .pointer y3 ∧ bcase (Option.isNone y3) (Q (.slice none 0 0) w2) (∃ m4, X28.l0 Q m4 a0p a0n a0c y3 (0 : Int) w2)
def X28.S (Q : Value → World → Prop) : Segs
  | 0, φ, ρ, w => qSl (ρ 0) fun t0p t0n t0c => qP (ρ 3) fun t3 => qI .i64 (ρ 4) fun t4 => X28.l0 Q (φ 0) t0p t0n t0c t3 t4 w
  | _, _, _, _ => False
noncomputable def X28.an : Ann := (.seq .leaf (.seq .leaf (.seq (.seq .leaf (.cond (.seq .leaf .leaf) .leaf)) (.seq (.seq .leaf (.block (.loop 0 (.seq (.seq .leaf (.cond .leaf .leaf)) (.seq (.block (.seq .leaf (.block (.seq .leaf (.cond .leaf (.seq .leaf (.cond .leaf .leaf))))))) .leaf))))) (.seq .leaf .leaf)))))
noncomputable def X28.c : Code := Try.f28.body.getD .skip
theorem X28.v (Q : Value → World → Prop) : V Try.prog (X28.S Q) X28.an X28.c (retC Try.prog Try.f28 Q) := ⟨trivial, ⟨trivial, ⟨⟨trivial, ⟨⟨trivial, trivial⟩, trivial⟩⟩, ⟨⟨trivial, ⟨(by
    intro φ ρ w h
    simp only [X28.S] at h
    obtain ⟨t0p, t0n, t0c, e0, h⟩ := qSl_elim h
    obtain ⟨t3, e3, h⟩ := qP_elim h
    obtain ⟨t4, e4, h⟩ := qI_elim h
    cases hk : φ 0 with
    | zero => rw [hk] at h; exact h.elim
    | succ k => rw [hk] at h; exact ⟨k, Nat.lt_succ_self k, (((Env.nil.put (some 0) (.slice t0p t0n t0c)).put (some 3) (.pointer t3)).put (some 4) (.int .i64 t4)), Env.le_put e4 (Env.le_put e3 (Env.le_put e0 (Env.le_nil _))), Eq.mp (by kernel_rfl) h⟩), ⟨⟨trivial, ⟨trivial, trivial⟩⟩, ⟨⟨trivial, ⟨trivial, ⟨trivial, ⟨trivial, ⟨trivial, trivial⟩⟩⟩⟩⟩, trivial⟩⟩⟩⟩, ⟨trivial, trivial⟩⟩⟩⟩⟩
theorem X28.sound (a0p : Option Addr) (a0n : Nat) (a0c : Nat) (w : World) (Q : Value → World → Prop) (h : X28.f a0p a0n a0c w Q) : CallR Try.prog 28 #[.slice a0p a0n a0c] w Q :=
  fn_sound noGr mixed Try.func28 (c := X28.c) (an := X28.an) (S := X28.S Q) (φ := fun _ => 0) (args := [.slice a0p a0n a0c]) (by kernel_rfl) (by kernel_rfl) (by kernel_rfl) (X28.v Q) (Eq.mp (by kernel_rfl) h)
/-! ### mooring/codec.NewReader: function 29 -/
def X29.f (a0p : Option Addr) (a0n : Nat) (a0c : Nat) (w : World) (Q : Value → World → Prop) : Prop := newK w #[] 5 fun g1 w2 => RunR Try.prog (Builtin.append_ #[23, 23] 23 #[.slice (some g1) 0 0, .slice a0p a0n a0c]) w2 fun v3 w4 => ∃ (s5p : Option Addr) (s5n s5c : Nat), v3 = .slice s5p s5n s5c ∧ newK w4 #[.slice s5p s5n s5c, .int .i64 (0 : Int), .int .i64 (0 : Int)] 67 fun g6 w7 => Q (.pointer (some g6)) w7
def X29.S (Q : Value → World → Prop) : Segs
  | _, _, _, _ => False
noncomputable def X29.an : Ann := (.seq .leaf (.seq .leaf .leaf))
noncomputable def X29.c : Code := Try.f29.body.getD .skip
theorem X29.v (Q : Value → World → Prop) : V Try.prog (X29.S Q) X29.an X29.c (retC Try.prog Try.f29 Q) := ⟨trivial, ⟨trivial, trivial⟩⟩
theorem X29.sound (a0p : Option Addr) (a0n : Nat) (a0c : Nat) (w : World) (Q : Value → World → Prop) (h : X29.f a0p a0n a0c w Q) : CallR Try.prog 29 #[.slice a0p a0n a0c] w Q :=
  fn_sound noGr mixed Try.func29 (c := X29.c) (an := X29.an) (S := X29.S Q) (φ := fun _ => 0) (args := [.slice a0p a0n a0c]) (by kernel_rfl) (by kernel_rfl) (by kernel_rfl) (X29.v Q) (Eq.mp (by kernel_rfl) h)
/-! ### (*mooring/codec.Reader).Byte: function 30 -/
def X30.f (a0 : Option Addr) (a1 : Int) (w : World) (Q : Value → World → Prop) : Prop := optP a0 fun p1 => ldI .i64 w (p1.add 2) fun x2 => bcase (x2 != (0 : Int)) (Q (.int .u8 (0 : Int)) w) (drewK w fun w3 => optP a0 fun p4 => ldI .i64 w3 (p4.add 1) fun x5 => optP a0 fun p6 => ldSl w3 (p6.add 0) fun x7p x7n x7c => bcase (decide (x5 ≥ ((x7n : Nat) : Int))) (CallR Try.prog 38 #[.pointer a0, .int .i64 (20 : Int)] w3 fun v8 w9 => v8 = .tuple #[] ∧ Q (.int .u8 (0 : Int)) w9) (drewK w3 fun w10 => optP a0 fun p11 => ldSl w10 (p11.add 0) fun x12p x12n x12c => optP a0 fun p13 => ldI .i64 w10 (p13.add 1) fun x14 => (0 ≤ x14 ∧ x14 < ((x12n : Nat) : Int)) ∧ optP x12p fun p15 => ldI .u8 w10 (p15.add (Int.toNat x14 * 1)) fun x16 => bcase (decide (x16 > a1)) (CallR Try.prog 38 #[.pointer a0, .int .i64 (22 : Int)] w10 fun v17 w18 => v17 = .tuple #[] ∧ Q (.int .u8 (0 : Int)) w18) (optP a0 fun p19 => ldI .i64 w10 (p19.add 1) fun x20 => optP a0 fun p21 => stK w10 (p21.add 1) (.int .i64 (IntKind.wrap .i64 (x20 + (1 : Int)))) fun w22 => drewK w22 fun w23 => optP a0 fun p24 => ldSl w23 (p24.add 0) fun x25p x25n x25c => optP a0 fun p26 => ldI .i64 w23 (p26.add 1) fun x27 => (0 ≤ (IntKind.wrap .i64 (x27 - (1 : Int))) ∧ (IntKind.wrap .i64 (x27 - (1 : Int))) < ((x25n : Nat) : Int)) ∧ optP x25p fun p28 => ldI .u8 w23 (p28.add (Int.toNat (IntKind.wrap .i64 (x27 - (1 : Int))) * 1)) fun x29 => Q (.int .u8 x29) w23)))
def X30.S (Q : Value → World → Prop) : Segs
  | _, _, _, _ => False
noncomputable def X30.an : Ann := (.seq .leaf (.seq (.block (.seq .leaf (.cond (.seq .leaf .leaf) (.seq (.draw [0, 1, 3, 7, 0, 16, 48, 112, 240, 511, 1023] [[0, 1, 2, 3, 4, 5, 6, 7, 8, 9, 10]]) (.cond (.seq .leaf (.seq .leaf .leaf)) (.seq (.draw [0, 1, 3, 7, 0, 16, 48, 112, 255, 511, 0, 2047, 4095] [[0, 1, 2, 3, 4, 5, 6, 7, 8, 9, 10, 11, 12]]) (.cond (.seq .leaf (.seq .leaf .leaf)) .leaf))))))) (.seq .leaf (.seq (.draw [0, 1, 3, 7, 0, 16, 48, 112, 240, 511, 1023, 2047] [[0, 1, 2, 3, 4, 5, 6, 7, 8, 9, 10, 11]]) .leaf))))
noncomputable def X30.c : Code := Try.f30.body.getD .skip
theorem X30.v (Q : Value → World → Prop) : V Try.prog (X30.S Q) X30.an X30.c (retC Try.prog Try.f30 Q) := ⟨trivial, ⟨⟨trivial, ⟨⟨trivial, trivial⟩, ⟨trivial, ⟨⟨trivial, ⟨trivial, trivial⟩⟩, ⟨trivial, ⟨⟨trivial, ⟨trivial, trivial⟩⟩, trivial⟩⟩⟩⟩⟩⟩, ⟨trivial, ⟨trivial, trivial⟩⟩⟩⟩
theorem X30.sound (a0 : Option Addr) (a1 : Int) (w : World) (Q : Value → World → Prop) (h : X30.f a0 a1 w Q) : CallR Try.prog 30 #[.pointer a0, .int .u8 a1] w Q :=
  fn_sound noGr mixed Try.func30 (c := X30.c) (an := X30.an) (S := X30.S Q) (φ := fun _ => 0) (args := [.pointer a0, .int .u8 a1]) (by kernel_rfl) (by kernel_rfl) (by kernel_rfl) (X30.v Q) (Eq.mp (by kernel_rfl) h)
/-! ### (*mooring/codec.Reader).Num: function 31 -/
def X31.f (a0 : Option Addr) (a1 : Int) (w : World) (Q : Value → World → Prop) : Prop := optP a0 fun p1 => ldI .i64 w (p1.add 2) fun x2 => bcase (x2 != (0 : Int)) (Q (.int .u64 (0 : Int)) w) (drewK w fun w3 => optP a0 fun p4 => ldSl w3 (p4.add 0) fun x5p x5n x5c => optP a0 fun p6 => ldI .i64 w3 (p6.add 1) fun x7 => CallR Try.prog 39 #[.slice x5p x5n x5c, .int .i64 x7] w3 fun v8 w9 => ∃ (y10 : Int) (y11 : Int) (y12 : Int), v8 = .tuple #[.int .u64 y10, .int .i64 y11, .int .i64 y12] ∧ bcase (y11 == (0 : Int)) (bcase (decide (y10 > a1)) (bcase ((22 : Int) != (0 : Int)) (CallR Try.prog 38 #[.pointer a0, .int .i64 (22 : Int)] w9 fun v13 w14 => v13 = .tuple #[] ∧ Q (.int .u64 (0 : Int)) w14) (optP a0 fun p15 => stK w9 (p15.add 1) (.int .i64 y12) fun w16 => Q (.int .u64 y10) w16)) (bcase (y11 != (0 : Int)) (CallR Try.prog 38 #[.pointer a0, .int .i64 y11] w9 fun v17 w18 => v17 = .tuple #[] ∧ Q (.int .u64 (0 : Int)) w18) (optP a0 fun p19 => stK w9 (p19.add 1) (.int .i64 y12) fun w20 => Q (.int .u64 y10) w20))) (bcase (y11 != (0 : Int)) (CallR Try.prog 38 #[.pointer a0, .int .i64 y11] w9 fun v21 w22 => v21 = .tuple #[] ∧ Q (.int .u64 (0 : Int)) w22) (optP a0 fun p23 => stK w9 (p23.add 1) (.int .i64 y12) fun w24 => Q (.int .u64 y10) w24)))
def X31.S (Q : Value → World → Prop) : Segs
  | _, _, _, _ => False
noncomputable def X31.an : Ann := (.seq .leaf (.seq (.seq .leaf (.cond (.seq .leaf .leaf) .leaf)) (.seq (.draw [0, 1, 3, 7, 0, 16, 48, 112, 255, 511, 1023, 1023, 1023, 2047, 12287, 32767] [[0, 1, 2, 3, 4, 5, 6, 7, 8, 9, 10, 11, 12, 13, 14, 15]]) (.seq (.seq .leaf (.cond .leaf .leaf)) (.seq (.seq .leaf (.cond (.seq .leaf (.seq .leaf .leaf)) .leaf)) (.seq .leaf (.seq .leaf .leaf)))))))
noncomputable def X31.c : Code := Try.f31.body.getD .skip
theorem X31.v (Q : Value → World → Prop) : V Try.prog (X31.S Q) X31.an X31.c (retC Try.prog Try.f31 Q) := ⟨trivial, ⟨⟨trivial, ⟨⟨trivial, trivial⟩, trivial⟩⟩, ⟨trivial, ⟨⟨trivial, ⟨trivial, trivial⟩⟩, ⟨⟨trivial, ⟨⟨trivial, ⟨trivial, trivial⟩⟩, trivial⟩⟩, ⟨trivial, ⟨trivial, trivial⟩⟩⟩⟩⟩⟩⟩
theorem X31.sound (a0 : Option Addr) (a1 : Int) (w : World) (Q : Value → World → Prop) (h : X31.f a0 a1 w Q) : CallR Try.prog 31 #[.pointer a0, .int .u64 a1] w Q :=
  fn_sound noGr mixed Try.func31 (c := X31.c) (an := X31.an) (S := X31.S Q) (φ := fun _ => 0) (args := [.pointer a0, .int .u64 a1]) (by kernel_rfl) (by kernel_rfl) (by kernel_rfl) (X31.v Q) (Eq.mp (by kernel_rfl) h)
/-! ### (*mooring/codec.Reader).Text: function 32 -/
def X32.f (a0 : Option Addr) (a1 : Int) (w : World) (Q : Value → World → Prop) : Prop := optP a0 fun p1 => ldI .i64 w (p1.add 1) fun x2 => CallR Try.prog 31 #[.pointer a0, .int .u64 (IntKind.wrap .u64 (max2 a1 (0 : Int)))] w fun v3 w4 => ∃ (y5 : Int), v3 = .int .u64 y5 ∧ optP a0 fun p6 => ldI .i64 w4 (p6.add 2) fun x7 => bcase (x7 != (0 : Int)) (Q (.slice none 0 0) w4) (drewK w4 fun w8 => optP a0 fun p9 => ldSl w8 (p9.add 0) fun x10p x10n x10c => optP a0 fun p11 => ldI .i64 w8 (p11.add 1) fun x12 => bcase (decide ((IntKind.wrap .u64 (IntKind.wrap .i64 (((x10n : Nat) : Int) - x12))) < y5)) (optP a0 fun p13 => stK w8 (p13.add 1) (.int .i64 x2) fun w14 => CallR Try.prog 38 #[.pointer a0, .int .i64 (20 : Int)] w14 fun v15 w16 => v15 = .tuple #[] ∧ Q (.slice none 0 0) w16) (optP a0 fun p17 => ldI .i64 w8 (p17.add 1) fun x18 => optP a0 fun p19 => stK w8 (p19.add 1) (.int .i64 (IntKind.wrap .i64 (x18 + (IntKind.wrap .i64 y5)))) fun w20 => drewK w20 fun w21 => newK w21 #[] 5 fun g22 w23 => optP a0 fun p24 => ldSl w23 (p24.add 0) fun x25p x25n x25c => (World.cell? w21 (p24.add 0) = some (.slice x25p x25n x25c) ∧ World.cell? w23 (p24.add 0) = some (.slice x25p x25n x25c)) ∧ optP a0 fun p26 => ldI .i64 w23 (p26.add 1) fun x27 => (World.cell? w21 (p26.add 1) = some (.int .i64 x27) ∧ World.cell? w23 (p26.add 1) = some (.int .i64 x27)) ∧ optP a0 fun p28 => ldI .i64 w23 (p28.add 1) fun x29 => (World.cell? w21 (p28.add 1) = some (.int .i64 x29) ∧ World.cell? w23 (p28.add 1) = some (.int .i64 x29)) ∧ (0 ≤ (IntKind.wrap .i64 (x27 - (IntKind.wrap .i64 y5))) ∧ (IntKind.wrap .i64 (x27 - (IntKind.wrap .i64 y5))) ≤ x29 ∧ x29 ≤ ((x25c : Nat) : Int)) ∧ RunR Try.prog (Builtin.append_ #[23, 23] 23 #[.slice (some g22) 0 0, .slice (cutAt 1 x25c (Int.toNat (IntKind.wrap .i64 (x27 - (IntKind.wrap .i64 y5)))) x25p) (Int.toNat x29 - Int.toNat (IntKind.wrap .i64 (x27 - (IntKind.wrap .i64 y5)))) (x25c - Int.toNat (IntKind.wrap .i64 (x27 - (IntKind.wrap .i64 y5))))]) w23 fun v30 w31 => ∃ (s32p : Option Addr) (s32n s32c : Nat), v30 = .slice s32p s32n s32c ∧ Q (.slice s32p s32n s32c) w31))
def X32.S (Q : Value → World → Prop) : Segs
  | _, _, _, _ => False
noncomputable def X32.an : Ann := (.seq .leaf (.seq .leaf (.seq .leaf (.seq (.seq .leaf (.cond (.seq .leaf .leaf) .leaf)) (.seq (.seq (.draw [0, 1, 3, 7, 15, 0, 32, 96, 224, 511, 1023, 0, 4095] [[0, 1, 2, 3, 4, 5, 6, 7, 8, 9, 10, 11, 12]]) (.cond (.seq .leaf (.seq .leaf (.seq .leaf .leaf))) .leaf)) (.seq .leaf (.seq (.draw [0, 0, 2, 6, 14, 0, 32, 96, 224, 0, 512, 2016, 0, 4096, 12288, 28672, 65534, 131071, 262143] [[0, 1, 2, 3, 4, 5, 6, 7, 8, 9, 10, 11, 12, 13, 14, 15, 16, 17, 18]]) .leaf)))))))
noncomputable def X32.c : Code := Try.f32.body.getD .skip
theorem X32.v (Q : Value → World → Prop) : V Try.prog (X32.S Q) X32.an X32.c (retC Try.prog Try.f32 Q) := ⟨trivial, ⟨trivial, ⟨trivial, ⟨⟨trivial, ⟨⟨trivial, trivial⟩, trivial⟩⟩, ⟨⟨trivial, ⟨⟨trivial, ⟨trivial, ⟨trivial, trivial⟩⟩⟩, trivial⟩⟩, ⟨trivial, ⟨trivial, trivial⟩⟩⟩⟩⟩⟩⟩
theorem X32.sound (a0 : Option Addr) (a1 : Int) (w : World) (Q : Value → World → Prop) (h : X32.f a0 a1 w Q) : CallR Try.prog 32 #[.pointer a0, .int .i64 a1] w Q :=
  fn_sound noGr mixed Try.func32 (c := X32.c) (an := X32.an) (S := X32.S Q) (φ := fun _ => 0) (args := [.pointer a0, .int .i64 a1]) (by kernel_rfl) (by kernel_rfl) (by kernel_rfl) (X32.v Q) (Eq.mp (by kernel_rfl) h)
/-! ### (*mooring/codec.Reader).End: function 33 -/
def X33.f (a0 : Option Addr) (w : World) (Q : Value → World → Prop) : Prop := drewK w fun w1 => optP a0 fun p2 => ldI .i64 w1 (p2.add 2) fun x3 => bcase (x3 == (0 : Int)) (optP a0 fun p4 => ldI .i64 w1 (p4.add 1) fun x5 => optP a0 fun p6 => ldSl w1 (p6.add 0) fun x7p x7n x7c => bcase (decide (x5 < ((x7n : Nat) : Int))) (Q (.int .i64 (21 : Int)) w1) (optP a0 fun p8 => ldI .i64 w1 (p8.add 2) fun x9 => Q (.int .i64 x9) w1)) (optP a0 fun p10 => ldI .i64 w1 (p10.add 2) fun x11 => Q (.int .i64 x11) w1)
def X33.S (Q : Value → World → Prop) : Segs
  | _, _, _, _ => False
noncomputable def X33.an : Ann := (.seq .leaf (.seq (.seq (.draw [0, 1, 3, 7, 15, 31, 63, 127, 255, 511, 63, 1087, 3135, 7231, 15423, 32767, 65535] [[0, 1, 2, 3, 4, 5, 6, 7, 8, 9, 10, 11, 12, 13, 14, 15, 16]]) (.cond (.seq .leaf .leaf) .leaf)) (.seq .leaf .leaf)))
noncomputable def X33.c : Code := Try.f33.body.getD .skip
theorem X33.v (Q : Value → World → Prop) : V Try.prog (X33.S Q) X33.an X33.c (retC Try.prog Try.f33 Q) := ⟨trivial, ⟨⟨trivial, ⟨⟨trivial, trivial⟩, trivial⟩⟩, ⟨trivial, trivial⟩⟩⟩
theorem X33.sound (a0 : Option Addr) (w : World) (Q : Value → World → Prop) (h : X33.f a0 w Q) : CallR Try.prog 33 #[.pointer a0] w Q :=
  fn_sound noGr mixed Try.func33 (c := X33.c) (an := X33.an) (S := X33.S Q) (φ := fun _ => 0) (args := [.pointer a0]) (by kernel_rfl) (by kernel_rfl) (by kernel_rfl) (X33.v Q) (Eq.mp (by kernel_rfl) h)
/-! ### (*mooring/mooringref1.Reader).Byte: function 34 -/
def X34.f (a0 : Option Addr) (a1 : Int) (w : World) (Q : Value → World → Prop) : Prop := optP a0 fun p1 => ldI .i64 w (p1.add 2) fun x2 => bcase (x2 != (0 : Int)) (Q (.int .u8 (0 : Int)) w) (drewK w fun w3 => optP a0 fun p4 => ldI .i64 w3 (p4.add 1) fun x5 => optP a0 fun p6 => ldSl w3 (p6.add 0) fun x7p x7n x7c => bcase (decide (x5 ≥ ((x7n : Nat) : Int))) (optP a0 fun p8 => ldI .i64 w3 (p8.add 1) fun x9 => CallR Try.prog 40 #[.pointer a0, .int .i64 x9, .int .i64 (20 : Int)] w3 fun v10 w11 => ∃ (y12 : Int), v10 = .int .u64 y12 ∧ Q (.int .u8 (0 : Int)) w11) (drewK w3 fun w13 => optP a0 fun p14 => ldSl w13 (p14.add 0) fun x15p x15n x15c => optP a0 fun p16 => ldI .i64 w13 (p16.add 1) fun x17 => (0 ≤ x17 ∧ x17 < ((x15n : Nat) : Int)) ∧ optP x15p fun p18 => ldI .u8 w13 (p18.add (Int.toNat x17 * 1)) fun x19 => bcase (decide (x19 > a1)) (optP a0 fun p20 => ldI .i64 w13 (p20.add 1) fun x21 => CallR Try.prog 40 #[.pointer a0, .int .i64 x21, .int .i64 (22 : Int)] w13 fun v22 w23 => ∃ (y24 : Int), v22 = .int .u64 y24 ∧ Q (.int .u8 (0 : Int)) w23) (optP a0 fun p25 => ldI .i64 w13 (p25.add 1) fun x26 => optP a0 fun p27 => stK w13 (p27.add 1) (.int .i64 (IntKind.wrap .i64 (x26 + (1 : Int)))) fun w28 => drewK w28 fun w29 => optP a0 fun p30 => ldSl w29 (p30.add 0) fun x31p x31n x31c => optP a0 fun p32 => ldI .i64 w29 (p32.add 1) fun x33 => (0 ≤ (IntKind.wrap .i64 (x33 - (1 : Int))) ∧ (IntKind.wrap .i64 (x33 - (1 : Int))) < ((x31n : Nat) : Int)) ∧ optP x31p fun p34 => ldI .u8 w29 (p34.add (Int.toNat (IntKind.wrap .i64 (x33 - (1 : Int))) * 1)) fun x35 => Q (.int .u8 x35) w29)))
def X34.S (Q : Value → World → Prop) : Segs
  | _, _, _, _ => False
noncomputable def X34.an : Ann := (.seq .leaf (.seq (.block (.seq .leaf (.cond .leaf (.seq (.draw [0, 1, 3, 7, 0, 16, 48, 112, 240, 511, 1023] [[0, 1, 2, 3, 4, 5, 6, 7, 8, 9, 10]]) (.cond .leaf (.seq (.draw [0, 1, 3, 7, 0, 16, 48, 112, 255, 511, 0, 2047, 4095] [[0, 1, 2, 3, 4, 5, 6, 7, 8, 9, 10, 11, 12]]) (.cond .leaf (.seq .leaf (.seq (.draw [0, 1, 3, 7, 0, 16, 48, 112, 240, 511, 1023, 2047] [[0, 1, 2, 3, 4, 5, 6, 7, 8, 9, 10, 11]]) .leaf))))))))) (.seq .leaf .leaf)))
noncomputable def X34.c : Code := Try.f34.body.getD .skip
theorem X34.v (Q : Value → World → Prop) : V Try.prog (X34.S Q) X34.an X34.c (retC Try.prog Try.f34 Q) := ⟨trivial, ⟨⟨trivial, ⟨trivial, ⟨trivial, ⟨trivial, ⟨trivial, ⟨trivial, ⟨trivial, ⟨trivial, trivial⟩⟩⟩⟩⟩⟩⟩⟩, ⟨trivial, trivial⟩⟩⟩
theorem X34.sound (a0 : Option Addr) (a1 : Int) (w : World) (Q : Value → World → Prop) (h : X34.f a0 a1 w Q) : CallR Try.prog 34 #[.pointer a0, .int .u8 a1] w Q :=
  fn_sound noGr mixed Try.func34 (c := X34.c) (an := X34.an) (S := X34.S Q) (φ := fun _ => 0) (args := [.pointer a0, .int .u8 a1]) (by kernel_rfl) (by kernel_rfl) (by kernel_rfl) (X34.v Q) (Eq.mp (by kernel_rfl) h)
/-! ### (*mooring/mooringref1.Reader).Num: function 35 -/
def X35.j1 (Q : Value → World → Prop) (b0 : Option Addr → Int → Int → Int → Int → World → Prop) (t0 : Option Addr) (t1 : Int) (t5 : Int) (t6 : Int) (t7 : Int) (w : World) : Prop := bcase (decide (t6 > t1)) (CallR Try.prog 40 #[.pointer t0, .int .i64 t5, .int .i64 (22 : Int)] w fun v1 w2 => ∃ (y3 : Int), v1 = .int .u64 y3 ∧ Q (.int .u64 y3) w2) (optP t0 fun p4 => stK w (p4.add 1) (.int .i64 (IntKind.wrap .i64 ((IntKind.wrap .i64 (t5 + t7)) + (1 : Int)))) fun w5 => Q (.int .u64 t6) w5)
def X35.j2 (Q : Value → World → Prop) (b0 : Option Addr → Int → Int → Int → Int → World → Prop) (t0 : Option Addr) (t1 : Int) (t5 : Int) (t6 : Int) (t7 : Int) (t8 : Int) (w : World) : Prop := (128 : Int) ≠ 0 ∧ 0 ≤ (IntKind.wrap .u64 (IntKind.wrap .i64 ((7 : Int) * t7))) ∧ bcase (decide (t8 ≥ (128 : Int))) (b0 t0 t1 t5 (IntKind.wrap .u64 (t6 + (iShl .u64 (IntKind.wrap .u64 (Int.tmod t8 (128 : Int))) (IntKind.wrap .u64 (IntKind.wrap .i64 ((7 : Int) * t7)))))) (IntKind.wrap .i64 (t7 + (1 : Int))) w) (bcase (t8 == (0 : Int)) (bcase (decide (t7 > (0 : Int))) (CallR Try.prog 40 #[.pointer t0, .int .i64 t5, .int .i64 (21 : Int)] w fun v1 w2 => ∃ (y3 : Int), v1 = .int .u64 y3 ∧ Q (.int .u64 y3) w2) (X35.j1 Q b0 t0 t1 t5 (IntKind.wrap .u64 (t6 + (iShl .u64 (IntKind.wrap .u64 (Int.tmod t8 (128 : Int))) (IntKind.wrap .u64 (IntKind.wrap .i64 ((7 : Int) * t7)))))) t7 w)) (X35.j1 Q b0 t0 t1 t5 (IntKind.wrap .u64 (t6 + (iShl .u64 (IntKind.wrap .u64 (Int.tmod t8 (128 : Int))) (IntKind.wrap .u64 (IntKind.wrap .i64 ((7 : Int) * t7)))))) t7 w))
def X35.l0 (Q : Value → World → Prop) : Nat → (Option Addr) → Int → Int → Int → Int → World → Prop
  | 0, _, _, _, _, _, _ => False
  | k + 1, t0, t1, t5, t6, t7, w => optP t0 fun p1 => ldSl w (p1.add 0) fun x2p x2n x2c => bcase (decide ((IntKind.wrap .i64 (t5 + t7)) ≥ ((x2n : Nat) : Int))) (CallR Try.prog 40 #[.pointer t0, .int .i64 t5, .int .i64 (20 : Int)] w fun v3 w4 => ∃ (y5 : Int), v3 = .int .u64 y5 ∧ Q (.int .u64 y5) w4) (optP t0 fun p6 => ldSl w (p6.add 0) fun x7p x7n x7c => (0 ≤ (IntKind.wrap .i64 (t5 + t7)) ∧ (IntKind.wrap .i64 (t5 + t7)) < ((x7n : Nat) : Int)) ∧ optP x7p fun p8 => ldI .u8 w (p8.add (Int.toNat (IntKind.wrap .i64 (t5 + t7)) * 1)) fun x9 => bcase (t7 == (9 : Int)) (bcase (decide (x9 > (1 : Int))) (CallR Try.prog 40 #[.pointer t0, .int .i64 t5, .int .i64 (21 : Int)] w fun v10 w11 => ∃ (y12 : Int), v10 = .int .u64 y12 ∧ Q (.int .u64 y12) w11) (X35.j2 Q (X35.l0 Q k) t0 t1 t5 t6 t7 x9 w)) (X35.j2 Q (X35.l0 Q k) t0 t1 t5 t6 t7 x9 w))
def X35.f (a0 : Option Addr) (a1 : Int) (w : World) (Q : Value → World → Prop) : Prop := optP a0 fun p1 => ldI .i64 w (p1.add 2) fun x2 => bcase (x2 != (0 : Int)) (Q (.int .u64 (0 : Int)) w) (optP a0 fun p3 => ldI .i64 w (p3.add 1) fun x4 => ∃ m5, X35.l0 Q m5 a0 a1 x4 (0 : Int) (0 : Int) w)
def X35.S (Q : Value → World → Prop) : Segs
  | 0, φ, ρ, w => qP (ρ 0) fun t0 => qI .u64 (ρ 1) fun t1 => qI .i64 (ρ 5) fun t5 => qI .u64 (ρ 6) fun t6 => qI .i64 (ρ 7) fun t7 => X35.l0 Q (φ 0) t0 t1 t5 t6 t7 w
  | 1, φ, ρ, w => qP (ρ 0) fun t0 => qI .u64 (ρ 1) fun t1 => qI .i64 (ρ 5) fun t5 => qI .u64 (ρ 6) fun t6 => qI .i64 (ρ 7) fun t7 => X35.j1 Q (X35.l0 Q (φ 0)) t0 t1 t5 t6 t7 w
  | 2, φ, ρ, w => qP (ρ 0) fun t0 => qI .u64 (ρ 1) fun t1 => qI .i64 (ρ 5) fun t5 => qI .u64 (ρ 6) fun t6 => qI .i64 (ρ 7) fun t7 => qI .u8 (ρ 8) fun t8 => X35.j2 Q (X35.l0 Q (φ 0)) t0 t1 t5 t6 t7 t8 w
  | _, _, _, _ => False
noncomputable def X35.an : Ann := (.seq .leaf (.seq (.seq .leaf (.cond (.seq .leaf .leaf) .leaf)) (.seq .leaf (.seq .leaf (.seq .leaf (.block (.loop 0 (.seq (.block (.seq (.seq .leaf (.cond (.seq .leaf .leaf) .leaf)) (.seq .leaf (.seq (.seq .leaf (.cond (.seq .leaf .leaf) .leaf)) (.join 2 (.seq .leaf (.seq (.seq .leaf (.cond .leaf .leaf)) (.seq (.seq .leaf (.cond (.seq .leaf .leaf) .leaf)) (.join 1 (.seq (.seq .leaf (.cond (.seq .leaf .leaf) .leaf)) (.seq .leaf (.seq .leaf .leaf)))))))))))) .leaf))))))))
noncomputable def X35.c : Code := Try.f35.body.getD .skip
theorem X35.v (Q : Value → World → Prop) : V Try.prog (X35.S Q) X35.an X35.c (retC Try.prog Try.f35 Q) := ⟨trivial, ⟨⟨trivial, ⟨⟨trivial, trivial⟩, trivial⟩⟩, ⟨trivial, ⟨trivial, ⟨trivial, ⟨(by
    intro φ ρ w h
    simp only [X35.S] at h
    obtain ⟨t0, e0, h⟩ := qP_elim h
    obtain ⟨t1, e1, h⟩ := qI_elim h
    obtain ⟨t5, e5, h⟩ := qI_elim h
    obtain ⟨t6, e6, h⟩ := qI_elim h
    obtain ⟨t7, e7, h⟩ := qI_elim h
    cases hk : φ 0 with
    | zero => rw [hk] at h; exact h.elim
    | succ k => rw [hk] at h; exact ⟨k, Nat.lt_succ_self k, (((((Env.nil.put (some 0) (.pointer t0)).put (some 1) (.int .u64 t1)).put (some 5) (.int .i64 t5)).put (some 6) (.int .u64 t6)).put (some 7) (.int .i64 t7)), Env.le_put e7 (Env.le_put e6 (Env.le_put e5 (Env.le_put e1 (Env.le_put e0 (Env.le_nil _))))), Eq.mp (by kernel_rfl) h⟩), ⟨⟨⟨trivial, ⟨⟨trivial, trivial⟩, trivial⟩⟩, ⟨trivial, ⟨⟨trivial, ⟨⟨trivial, trivial⟩, trivial⟩⟩, ⟨(by
    intro φ ρ w h
    simp only [X35.S] at h
    obtain ⟨t0, e0, h⟩ := qP_elim h
    obtain ⟨t1, e1, h⟩ := qI_elim h
    obtain ⟨t5, e5, h⟩ := qI_elim h
    obtain ⟨t6, e6, h⟩ := qI_elim h
    obtain ⟨t7, e7, h⟩ := qI_elim h
    obtain ⟨t8, e8, h⟩ := qI_elim h
    exact ⟨((((((Env.nil.put (some 0) (.pointer t0)).put (some 1) (.int .u64 t1)).put (some 5) (.int .i64 t5)).put (some 6) (.int .u64 t6)).put (some 7) (.int .i64 t7)).put (some 8) (.int .u8 t8)), Env.le_put e8 (Env.le_put e7 (Env.le_put e6 (Env.le_put e5 (Env.le_put e1 (Env.le_put e0 (Env.le_nil _)))))), Eq.mp (by kernel_rfl) h⟩), ⟨trivial, ⟨⟨trivial, ⟨trivial, trivial⟩⟩, ⟨⟨trivial, ⟨⟨trivial, trivial⟩, trivial⟩⟩, ⟨(by
    intro φ ρ w h
    simp only [X35.S] at h
    obtain ⟨t0, e0, h⟩ := qP_elim h
    obtain ⟨t1, e1, h⟩ := qI_elim h
    obtain ⟨t5, e5, h⟩ := qI_elim h
    obtain ⟨t6, e6, h⟩ := qI_elim h
    obtain ⟨t7, e7, h⟩ := qI_elim h
    exact ⟨(((((Env.nil.put (some 0) (.pointer t0)).put (some 1) (.int .u64 t1)).put (some 5) (.int .i64 t5)).put (some 6) (.int .u64 t6)).put (some 7) (.int .i64 t7)), Env.le_put e7 (Env.le_put e6 (Env.le_put e5 (Env.le_put e1 (Env.le_put e0 (Env.le_nil _))))), Eq.mp (by kernel_rfl) h⟩), ⟨⟨trivial, ⟨⟨trivial, trivial⟩, trivial⟩⟩, ⟨trivial, ⟨trivial, trivial⟩⟩⟩⟩⟩⟩⟩⟩⟩⟩⟩, trivial⟩⟩⟩⟩⟩⟩⟩
theorem X35.sound (a0 : Option Addr) (a1 : Int) (w : World) (Q : Value → World → Prop) (h : X35.f a0 a1 w Q) : CallR Try.prog 35 #[.pointer a0, .int .u64 a1] w Q :=
  fn_sound noGr mixed Try.func35 (c := X35.c) (an := X35.an) (S := X35.S Q) (φ := fun _ => 0) (args := [.pointer a0, .int .u64 a1]) (by kernel_rfl) (by kernel_rfl) (by kernel_rfl) (X35.v Q) (Eq.mp (by kernel_rfl) h)
/-! ### (*mooring/mooringref1.Reader).Text: function 36 -/
def X36.f (a0 : Option Addr) (a1 : Int) (w : World) (Q : Value → World → Prop) : Prop := optP a0 fun p1 => ldI .i64 w (p1.add 2) fun x2 => bcase (x2 != (0 : Int)) (Q (.slice none 0 0) w) (optP a0 fun p3 => ldI .i64 w (p3.add 1) fun x4 => CallR Try.prog 35 #[.pointer a0, .int .u64 (IntKind.wrap .u64 (max2 (0 : Int) a1))] w fun v5 w6 => ∃ (y7 : Int), v5 = .int .u64 y7 ∧ optP a0 fun p8 => ldI .i64 w6 (p8.add 2) fun x9 => bcase (x9 != (0 : Int)) (Q (.slice none 0 0) w6) (drewK w6 fun w10 => optP a0 fun p11 => ldSl w10 (p11.add 0) fun x12p x12n x12c => optP a0 fun p13 => ldI .i64 w10 (p13.add 1) fun x14 => bcase (decide ((IntKind.wrap .u64 (IntKind.wrap .i64 (((x12n : Nat) : Int) - x14))) < y7)) (CallR Try.prog 40 #[.pointer a0, .int .i64 x4, .int .i64 (20 : Int)] w10 fun v15 w16 => ∃ (y17 : Int), v15 = .int .u64 y17 ∧ Q (.slice none 0 0) w16) (drewK w10 fun w18 => newK w18 #[] 5 fun g19 w20 => optP a0 fun p21 => ldSl w20 (p21.add 0) fun x22p x22n x22c => (World.cell? w18 (p21.add 0) = some (.slice x22p x22n x22c) ∧ World.cell? w20 (p21.add 0) = some (.slice x22p x22n x22c)) ∧ optP a0 fun p23 => ldI .i64 w20 (p23.add 1) fun x24 => (World.cell? w18 (p23.add 1) = some (.int .i64 x24) ∧ World.cell? w20 (p23.add 1) = some (.int .i64 x24)) ∧ optP a0 fun p25 => ldI .i64 w20 (p25.add 1) fun x26 => (World.cell? w18 (p25.add 1) = some (.int .i64 x26) ∧ World.cell? w20 (p25.add 1) = some (.int .i64 x26)) ∧ (0 ≤ x24 ∧ x24 ≤ (IntKind.wrap .i64 (x26 + (IntKind.wrap .i64 y7))) ∧ (IntKind.wrap .i64 (x26 + (IntKind.wrap .i64 y7))) ≤ ((x22c : Nat) : Int)) ∧ RunR Try.prog (Builtin.append_ #[23, 23] 23 #[.slice (some g19) 0 0, .slice (cutAt 1 x22c (Int.toNat x24) x22p) (Int.toNat (IntKind.wrap .i64 (x26 + (IntKind.wrap .i64 y7))) - Int.toNat x24) (x22c - Int.toNat x24)]) w20 fun v27 w28 => ∃ (s29p : Option Addr) (s29n s29c : Nat), v27 = .slice s29p s29n s29c ∧ optP a0 fun p30 => ldI .i64 w28 (p30.add 1) fun x31 => optP a0 fun p32 => stK w28 (p32.add 1) (.int .i64 (IntKind.wrap .i64 (x31 + (IntKind.wrap .i64 y7)))) fun w33 => Q (.slice s29p s29n s29c) w33)))
def X36.S (Q : Value → World → Prop) : Segs
  | _, _, _, _ => False
noncomputable def X36.an : Ann := (.seq .leaf (.seq (.seq .leaf (.cond (.seq .leaf .leaf) .leaf)) (.seq .leaf (.seq .leaf (.seq (.seq .leaf (.cond (.seq .leaf .leaf) .leaf)) (.seq (.seq (.draw [0, 1, 3, 7, 15, 0, 32, 96, 224, 511, 1023, 0, 4095] [[0, 1, 2, 3, 4, 5, 6, 7, 8, 9, 10, 11, 12]]) (.cond (.seq .leaf (.seq .leaf .leaf)) .leaf)) (.seq (.draw [0, 0, 2, 6, 14, 0, 32, 96, 224, 0, 512, 1536, 3584, 0, 8192, 32256, 65534, 131071, 262143] [[0, 1, 2, 3, 4, 5, 6, 7, 8, 9, 10, 11, 12, 13, 14, 15, 16, 17, 18]]) (.seq .leaf (.seq .leaf .leaf)))))))))
noncomputable def X36.c : Code := Try.f36.body.getD .skip
theorem X36.v (Q : Value → World → Prop) : V Try.prog (X36.S Q) X36.an X36.c (retC Try.prog Try.f36 Q) := ⟨trivial, ⟨⟨trivial, ⟨⟨trivial, trivial⟩, trivial⟩⟩, ⟨trivial, ⟨trivial, ⟨⟨trivial, ⟨⟨trivial, trivial⟩, trivial⟩⟩, ⟨⟨trivial, ⟨⟨trivial, ⟨trivial, trivial⟩⟩, trivial⟩⟩, ⟨trivial, ⟨trivial, ⟨trivial, trivial⟩⟩⟩⟩⟩⟩⟩⟩⟩
theorem X36.sound (a0 : Option Addr) (a1 : Int) (w : World) (Q : Value → World → Prop) (h : X36.f a0 a1 w Q) : CallR Try.prog 36 #[.pointer a0, .int .i64 a1] w Q :=
  fn_sound noGr mixed Try.func36 (c := X36.c) (an := X36.an) (S := X36.S Q) (φ := fun _ => 0) (args := [.pointer a0, .int .i64 a1]) (by kernel_rfl) (by kernel_rfl) (by kernel_rfl) (X36.v Q) (Eq.mp (by kernel_rfl) h)
/-! ### (*mooring/mooringref1.Reader).End: function 37 -/
def X37.f (a0 : Option Addr) (w : World) (Q : Value → World → Prop) : Prop := drewK w fun w1 => optP a0 fun p2 => ldI .i64 w1 (p2.add 2) fun x3 => bcase (x3 == (0 : Int)) (optP a0 fun p4 => ldI .i64 w1 (p4.add 1) fun x5 => optP a0 fun p6 => ldSl w1 (p6.add 0) fun x7p x7n x7c => bcase (decide (x5 < ((x7n : Nat) : Int))) (Q (.int .i64 (21 : Int)) w1) (optP a0 fun p8 => ldI .i64 w1 (p8.add 2) fun x9 => Q (.int .i64 x9) w1)) (optP a0 fun p10 => ldI .i64 w1 (p10.add 2) fun x11 => Q (.int .i64 x11) w1)
def X37.S (Q : Value → World → Prop) : Segs
  | _, _, _, _ => False
noncomputable def X37.an : Ann := (.seq .leaf (.seq (.seq (.draw [0, 1, 3, 7, 15, 31, 63, 127, 255, 511, 63, 1087, 3135, 7231, 15423, 32767, 65535] [[0, 1, 2, 3, 4, 5, 6, 7, 8, 9, 10, 11, 12, 13, 14, 15, 16]]) (.cond (.seq .leaf .leaf) .leaf)) (.seq .leaf .leaf)))
noncomputable def X37.c : Code := Try.f37.body.getD .skip
theorem X37.v (Q : Value → World → Prop) : V Try.prog (X37.S Q) X37.an X37.c (retC Try.prog Try.f37 Q) := ⟨trivial, ⟨⟨trivial, ⟨⟨trivial, trivial⟩, trivial⟩⟩, ⟨trivial, trivial⟩⟩⟩
theorem X37.sound (a0 : Option Addr) (w : World) (Q : Value → World → Prop) (h : X37.f a0 w Q) : CallR Try.prog 37 #[.pointer a0] w Q :=
  fn_sound noGr mixed Try.func37 (c := X37.c) (an := X37.an) (S := X37.S Q) (φ := fun _ => 0) (args := [.pointer a0]) (by kernel_rfl) (by kernel_rfl) (by kernel_rfl) (X37.v Q) (Eq.mp (by kernel_rfl) h)
/-! ### (*mooring/codec.Reader).fault: function 38 -/
def X38.f (a0 : Option Addr) (a1 : Int) (w : World) (Q : Value → World → Prop) : Prop := optP a0 fun p1 => ldI .i64 w (p1.add 2) fun x2 => bcase (x2 == (0 : Int)) (optP a0 fun p3 => stK w (p3.add 2) (.int .i64 a1) fun w4 => Q (.tuple #[]) w4) (Q (.tuple #[]) w)
def X38.S (Q : Value → World → Prop) : Segs
  | _, _, _, _ => False
noncomputable def X38.an : Ann := (.seq .leaf (.cond .leaf .leaf))
noncomputable def X38.c : Code := Try.f38.body.getD .skip
theorem X38.v (Q : Value → World → Prop) : V Try.prog (X38.S Q) X38.an X38.c (retC Try.prog Try.f38 Q) := ⟨trivial, ⟨trivial, trivial⟩⟩
theorem X38.sound (a0 : Option Addr) (a1 : Int) (w : World) (Q : Value → World → Prop) (h : X38.f a0 a1 w Q) : CallR Try.prog 38 #[.pointer a0, .int .i64 a1] w Q :=
  fn_sound noGr mixed Try.func38 (c := X38.c) (an := X38.an) (S := X38.S Q) (φ := fun _ => 0) (args := [.pointer a0, .int .i64 a1]) (by kernel_rfl) (by kernel_rfl) (by kernel_rfl) (X38.v Q) (Eq.mp (by kernel_rfl) h)
/-! ### mooring/codec.number: function 39 -/
def X39.j1 (Q : Value → World → Prop) (b0 : Option Addr → Nat → Nat → Int → Int → Int → World → Prop) (t0p : Option Addr) (t0n : Nat) (t0c : Nat) (t1 : Int) (t7 : Int) (t8 : Int) (t9 : Int) (w : World) : Prop := 0 ≤ (IntKind.wrap .u64 (IntKind.wrap .i64 ((7 : Int) * t8))) ∧ bcase (decide (t9 ≥ (128 : Int))) (b0 t0p t0n t0c t1 (iOr .u64 t7 (iShl .u64 (IntKind.wrap .u64 (iAnd .u8 t9 (127 : Int))) (IntKind.wrap .u64 (IntKind.wrap .i64 ((7 : Int) * t8))))) (IntKind.wrap .i64 (t8 + (1 : Int))) w) (bcase (t9 == (0 : Int)) (bcase (decide (t8 > (0 : Int))) (Q (.tuple #[.int .u64 (0 : Int), .int .i64 (21 : Int), .int .i64 (0 : Int)]) w) (Q (.tuple #[.int .u64 (iOr .u64 t7 (iShl .u64 (IntKind.wrap .u64 (iAnd .u8 t9 (127 : Int))) (IntKind.wrap .u64 (IntKind.wrap .i64 ((7 : Int) * t8))))), .int .i64 (0 : Int), .int .i64 (IntKind.wrap .i64 ((IntKind.wrap .i64 (t1 + t8)) + (1 : Int)))]) w)) (Q (.tuple #[.int .u64 (iOr .u64 t7 (iShl .u64 (IntKind.wrap .u64 (iAnd .u8 t9 (127 : Int))) (IntKind.wrap .u64 (IntKind.wrap .i64 ((7 : Int) * t8))))), .int .i64 (0 : Int), .int .i64 (IntKind.wrap .i64 ((IntKind.wrap .i64 (t1 + t8)) + (1 : Int)))]) w))
def X39.l0 (Q : Value → World → Prop) : Nat → (Option Addr) → Nat → Nat → Int → Int → Int → World → Prop
  | 0, _, _, _, _, _, _, _ => False
  | k + 1, t0p, t0n, t0c, t1, t7, t8, w => bcase (decide ((IntKind.wrap .i64 (t1 + t8)) ≥ ((t0n : Nat) : Int))) (Q (.tuple #[.int .u64 (0 : Int), .int .i64 (20 : Int), .int .i64 (0 : Int)]) w) ((0 ≤ (IntKind.wrap .i64 (t1 + t8)) ∧ (IntKind.wrap .i64 (t1 + t8)) < ((t0n : Nat) : Int)) ∧ optP t0p fun p1 => ldI .u8 w (p1.add (Int.toNat (IntKind.wrap .i64 (t1 + t8)) * 1)) fun x2 => bcase (t8 == (9 : Int)) (bcase (decide (x2 > (1 : Int))) (Q (.tuple #[.int .u64 (0 : Int), .int .i64 (21 : Int), .int .i64 (0 : Int)]) w) (X39.j1 Q (X39.l0 Q k) t0p t0n t0c t1 t7 t8 x2 w)) (X39.j1 Q (X39.l0 Q k) t0p t0n t0c t1 t7 t8 x2 w))
def X39.f (a0p : Option Addr) (a0n : Nat) (a0c : Nat) (a1 : Int) (w : World) (Q : Value → World → Prop) : Prop := ∃ m1, X39.l0 Q m1 a0p a0n a0c a1 (0 : Int) (0 : Int) w
def X39.S (Q : Value → World → Prop) : Segs
  | 0, φ, ρ, w => qSl (ρ 0) fun t0p t0n t0c => qI .i64 (ρ 1) fun t1 => qI .u64 (ρ 7) fun t7 => qI .i64 (ρ 8) fun t8 => X39.l0 Q (φ 0) t0p t0n t0c t1 t7 t8 w
  | 1, φ, ρ, w => qSl (ρ 0) fun t0p t0n t0c => qI .i64 (ρ 1) fun t1 => qI .u64 (ρ 7) fun t7 => qI .i64 (ρ 8) fun t8 => qI .u8 (ρ 9) fun t9 => X39.j1 Q (X39.l0 Q (φ 0)) t0p t0n t0c t1 t7 t8 t9 w
  | _, _, _, _ => False
noncomputable def X39.an : Ann := (.seq .leaf (.seq .leaf (.seq .leaf (.block (.loop 0 (.seq (.block (.seq (.seq .leaf (.cond (.seq .leaf .leaf) .leaf)) (.seq .leaf (.seq (.seq .leaf (.cond (.seq .leaf .leaf) .leaf)) (.join 1 (.seq .leaf (.seq (.seq .leaf (.cond .leaf .leaf)) (.seq (.seq .leaf (.cond (.seq .leaf .leaf) .leaf)) (.seq .leaf .leaf))))))))) .leaf))))))
noncomputable def X39.c : Code := Try.f39.body.getD .skip
theorem X39.v (Q : Value → World → Prop) : V Try.prog (X39.S Q) X39.an X39.c (retC Try.prog Try.f39 Q) := ⟨trivial, ⟨trivial, ⟨trivial, ⟨(by
    intro φ ρ w h
    simp only [X39.S] at h
    obtain ⟨t0p, t0n, t0c, e0, h⟩ := qSl_elim h
    obtain ⟨t1, e1, h⟩ := qI_elim h
    obtain ⟨t7, e7, h⟩ := qI_elim h
    obtain ⟨t8, e8, h⟩ := qI_elim h
    cases hk : φ 0 with
    | zero => rw [hk] at h; exact h.elim
    | succ k => rw [hk] at h; exact ⟨k, Nat.lt_succ_self k, ((((Env.nil.put (some 0) (.slice t0p t0n t0c)).put (some 1) (.int .i64 t1)).put (some 7) (.int .u64 t7)).put (some 8) (.int .i64 t8)), Env.le_put e8 (Env.le_put e7 (Env.le_put e1 (Env.le_put e0 (Env.le_nil _)))), Eq.mp (by kernel_rfl) h⟩), ⟨⟨⟨trivial, ⟨⟨trivial, trivial⟩, trivial⟩⟩, ⟨trivial, ⟨⟨trivial, ⟨⟨trivial, trivial⟩, trivial⟩⟩, ⟨(by
    intro φ ρ w h
    simp only [X39.S] at h
    obtain ⟨t0p, t0n, t0c, e0, h⟩ := qSl_elim h
    obtain ⟨t1, e1, h⟩ := qI_elim h
    obtain ⟨t7, e7, h⟩ := qI_elim h
    obtain ⟨t8, e8, h⟩ := qI_elim h
    obtain ⟨t9, e9, h⟩ := qI_elim h
    exact ⟨(((((Env.nil.put (some 0) (.slice t0p t0n t0c)).put (some 1) (.int .i64 t1)).put (some 7) (.int .u64 t7)).put (some 8) (.int .i64 t8)).put (some 9) (.int .u8 t9)), Env.le_put e9 (Env.le_put e8 (Env.le_put e7 (Env.le_put e1 (Env.le_put e0 (Env.le_nil _))))), Eq.mp (by kernel_rfl) h⟩), ⟨trivial, ⟨⟨trivial, ⟨trivial, trivial⟩⟩, ⟨⟨trivial, ⟨⟨trivial, trivial⟩, trivial⟩⟩, ⟨trivial, trivial⟩⟩⟩⟩⟩⟩⟩⟩, trivial⟩⟩⟩⟩⟩
theorem X39.sound (a0p : Option Addr) (a0n : Nat) (a0c : Nat) (a1 : Int) (w : World) (Q : Value → World → Prop) (h : X39.f a0p a0n a0c a1 w Q) : CallR Try.prog 39 #[.slice a0p a0n a0c, .int .i64 a1] w Q :=
  fn_sound noGr mixed Try.func39 (c := X39.c) (an := X39.an) (S := X39.S Q) (φ := fun _ => 0) (args := [.slice a0p a0n a0c, .int .i64 a1]) (by kernel_rfl) (by kernel_rfl) (by kernel_rfl) (X39.v Q) (Eq.mp (by kernel_rfl) h)
/-! ### (*mooring/mooringref1.Reader).wrong: function 40 -/
def X40.f (a0 : Option Addr) (a1 : Int) (a2 : Int) (w : World) (Q : Value → World → Prop) : Prop := optP a0 fun p1 => stK w (p1.add 2) (.int .i64 a2) fun w2 => optP a0 fun p3 => stK w2 (p3.add 1) (.int .i64 a1) fun w4 => Q (.int .u64 (0 : Int)) w4
def X40.S (Q : Value → World → Prop) : Segs
  | _, _, _, _ => False
noncomputable def X40.an : Ann := (.seq .leaf (.seq .leaf (.seq .leaf (.seq .leaf .leaf))))
noncomputable def X40.c : Code := Try.f40.body.getD .skip
theorem X40.v (Q : Value → World → Prop) : V Try.prog (X40.S Q) X40.an X40.c (retC Try.prog Try.f40 Q) := ⟨trivial, ⟨trivial, ⟨trivial, ⟨trivial, trivial⟩⟩⟩⟩
theorem X40.sound (a0 : Option Addr) (a1 : Int) (a2 : Int) (w : World) (Q : Value → World → Prop) (h : X40.f a0 a1 a2 w Q) : CallR Try.prog 40 #[.pointer a0, .int .i64 a1, .int .i64 a2] w Q :=
  fn_sound noGr mixed Try.func40 (c := X40.c) (an := X40.an) (S := X40.S Q) (φ := fun _ => 0) (args := [.pointer a0, .int .i64 a1, .int .i64 a2]) (by kernel_rfl) (by kernel_rfl) (by kernel_rfl) (X40.v Q) (Eq.mp (by kernel_rfl) h)
end Go.Proofs.YtgeinpljchpdgaaX
