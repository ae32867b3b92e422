/- TableKnown: chapter 6's examples. -/
import Derived.Test.YtbgebldhpbnacaaTLocSI
import Derived.Test.YtbgebldhpbnacaaL6Known
namespace Go.Proofs.YtbgebldhpbnacaaX
open Go.RowKit
set_option linter.unusedVariables false
set_option linter.unusedSimpArgs false
set_option maxRecDepth 100000
section
variable {W w : World} {Q : Value → World → Prop}
theorem newII_bad {m : Int} (h : m < 1 ∨ 4096 < m) (hQ : Q (.tuple #[.pointer none, .int .i64 1]) w) : CallR Try.prog 22 #[.int .i64 m] w Q := by
  refine X22.sound _ _ _ ?_
  unfold X22.f
  exact bc_dec (fun _ => hQ) (fun h1 => bc_dec (fun _ => hQ) (fun h2 => by omega))
abbrev sa : ByteArray := ⟨#[97]⟩
abbrev sb : ByteArray := ⟨#[98]⟩
theorem egL : put strLt (put strLt ([] : List (ByteArray × Int)) sb 1) sa 2 = [(sa, 2), (sb, 1)] := by decide +kernel
theorem eg1 : after strLt [(sa, (2 : Int)), (sb, 1)] sb = some sa := by decide +kernel
theorem eg2 : next strLt [(sa, (2 : Int)), (sb, 1)] sb = none := by decide +kernel
theorem eg3 : has strLt [(sa, (2 : Int)), (sb, 1)] sa = true := by decide +kernel
theorem eg4 : drp strLt [(sa, (2 : Int)), (sb, 1)] sa = [(sb, 1)] := by decide +kernel
theorem eg5 : has strLt [(sb, (1 : Int))] sa = false := by decide +kernel
theorem eg6 : drp strLt [(sb, (1 : Int))] sa = [(sb, 1)] := by decide +kernel
theorem tableKnown_row : CallR Try.prog 7 #[] W fun v w' => v = .bool true ∧ Fr [] W w' := by
  refine X7.sound _ _ ?_
  unfold X7.f
  refine newII_bad (.inl (by omega)) ⟨_, _, rfl, newII_bad (.inr (by omega)) ⟨_, _, rfl, ?_⟩⟩
  refine newL_SI (Fr.refl W) (fun h => by omega) ?_
  intro _ _ g w1 k1
  refine ⟨_, _, rfl, known_spec fun w2 f2 => ⟨_, rfl, ?_⟩⟩
  have k2 := k1.keep f2
  refine bc_bool (fun h => by cases h) (fun _ => bc_ne (fun h => absurd rfl h) (fun _ => bc_ne (fun h => absurd rfl h) (fun _ => bc_ne (fun h => absurd rfl h) (fun _ => bc_bool (fun h => by cases h) (fun _ => ?_)))))
  unfold X7.j0
  obtain ⟨ft, t2⟩ := k2.t
  refine first_SI t2 ?_
  rw [show (keys ([] : List (ByteArray × Int)))[0]? = none from rfl]
  refine ⟨_, _, rfl, ?_⟩
  refine putL_SI k2 (fun _ h => by simp at h) (fun _ w3 k3 => ⟨_, rfl, ?_⟩)
  refine putL_SI k3 (fun _ h => by rw [put_length] at h; split at h <;> simp at h) (fun _ w4 k4 => ⟨_, rfl, ?_⟩)
  rw [egL] at k4
  obtain ⟨ft4, t4⟩ := k4.t
  refine keys_SI t4 ?_
  intro p c w5 o5 f5 n5
  refine ⟨_, _, _, rfl, ?_⟩
  have k5 := k4.keep f5
  obtain ⟨ft5, t5⟩ := k5.t
  refine after_SI t5 ?_
  rw [eg1]
  refine ⟨_, _, rfl, next_SI t5 ?_⟩
  rw [eg2]
  refine ⟨_, _, rfl, ?_⟩
  obtain ⟨q0, h0, c0⟩ := cell_40 o5.cells (i := 0) (x := sa) rfl
  obtain ⟨q1, h1, c1⟩ := cell_40 o5.cells (i := 1) (x := sb) rfl
  refine bc_bool (fun _ => ?_) (fun h => absurd h (by decide))
  refine bc_eq (fun _ => ?_) (fun h => absurd rfl h)
  refine ⟨by decide, opt_some h0 (ld_str c0 ?_)⟩
  refine bc_streq (fun _ => ?_) (fun h => absurd rfl h)
  refine ⟨by decide, opt_some h1 (ld_str c1 ?_)⟩
  refine bc_streq (fun _ => ?_) (fun h => absurd rfl h)
  refine bc_streq (fun _ => ?_) (fun h => absurd rfl h)
  refine bc_bool (fun _ => ?_) (fun h => absurd h (by decide))
  refine bc_streq (fun _ => ?_) (fun h => absurd rfl h)
  refine bc_bool (fun _ => ?_) (fun h => absurd h (by decide))
  refine dropL_SI k5 ?_
  rw [eg3, eg4]
  intro w6 k6
  refine ⟨_, rfl, bc_bool (fun _ => ?_) (fun h => by cases h)⟩
  refine dropL_SI k6 ?_
  rw [eg5, eg6]
  intro w7 k7
  refine ⟨_, rfl, bc_bool (fun _ => ?_) (fun h => by cases h)⟩
  obtain ⟨ft7, t7⟩ := k7.t
  exact len_SI t7 ⟨_, rfl, rfl, k7.fr⟩
end
end Go.Proofs.YtbgebldhpbnacaaX
