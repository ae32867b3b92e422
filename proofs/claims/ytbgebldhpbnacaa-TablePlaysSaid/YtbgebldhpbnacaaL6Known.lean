/- Chapter 6's example, as the statements call it; a remainder. -/
import Derived.Test.YtbgebldhpbnacaaTLocUS
namespace Go.Proofs.YtbgebldhpbnacaaX
open Go.RowKit
set_option linter.unusedVariables false
theorem strEq_self (s : ByteArray) : strEq s s = true := by simp [strEq]
theorem pick_spec {w : World} {n m : Int} {Q : Value → World → Prop} (hm : 0 < m) (hm2 : m ≤ 9223372036854775807) (hQ : Q (.int .i64 (n % m)) w) : CallR Try.prog 19 #[.int .i64 n, .int .i64 m] w Q := by
  refine X19.sound _ _ _ _ ?_
  have h1 := tmod_pick n m hm
  have h2 := Int.emod_nonneg n (by omega : m ≠ 0)
  have h3 := Int.emod_lt_of_pos n hm
  refine ⟨by omega, bc_dec (fun h => ?_) (fun h => ?_)⟩
  · rw [if_pos h] at h1
    rw [h1, i64w _ (by omega) (by omega)]
    exact hQ
  · rw [if_neg h] at h1
    rw [h1]
    exact hQ
theorem put_eg1 : put ilt ([] : List (Int × ByteArray)) 5 ⟨#[97]⟩ = [(5, ⟨#[97]⟩)] := rfl
theorem put_eg2 : put ilt (put ilt ([] : List (Int × ByteArray)) 5 ⟨#[97]⟩) 3 ⟨#[98]⟩ = [(3, ⟨#[98]⟩), (5, ⟨#[97]⟩)] := rfl
theorem put_eg3 : put ilt [((3 : Int), (⟨#[98]⟩ : ByteArray)), (5, ⟨#[97]⟩)] 5 ⟨#[100]⟩ = [(3, ⟨#[98]⟩), (5, ⟨#[100]⟩)] := rfl
theorem known_spec {w : World} {Q : Value → World → Prop} (hQ : ∀ w', Fr [] w w' → Q (.bool true) w') : CallR Try.prog 10 #[] w Q := by
  refine X10.sound _ _ ?_
  refine newL_US (Fr.refl w) (fun h => by omega) ?_
  intro _ _ g w1 h1
  refine ⟨_, _, rfl, ?_⟩
  show X10.j0 Q _ w1
  unfold X10.j0
  refine putL_US h1 (fun _ h => by simp at h) (fun _ w2 h2 => ⟨_, rfl, ?_⟩)
  refine putL_US h2 (fun _ h => by simp [put_eg1] at h) (fun _ w3 h3 => ⟨_, rfl, ?_⟩)
  rw [put_eg2] at h3
  refine putL_US h3 (fun _ _ w4 h4 => ⟨_, rfl, ?_⟩) (fun h w4 h4 => by rcases h with h | h; exact absurd h (by decide); simp at h)
  refine putL_US h4 (fun h => absurd h (by decide)) (fun _ w5 h5 => ⟨_, rfl, ?_⟩)
  rw [put_eg3] at h5
  obtain ⟨ft, t5⟩ := h5.t
  refine get_US t5 (fun h => absurd h (by decide +kernel)) (fun v hv => ?_)
  have hv : (⟨#[100]⟩ : ByteArray) = v := by
    have : get ilt [((3 : Int), (⟨#[98]⟩ : ByteArray)), (5, ⟨#[100]⟩)] 5 = some ⟨#[100]⟩ := rfl
    rw [this] at hv
    injection hv
  subst hv
  refine ⟨_, _, rfl, next_US t5 ?_⟩
  have : next ilt [((3 : Int), (⟨#[98]⟩ : ByteArray)), (5, ⟨#[100]⟩)] 3 = some 5 := rfl
  rw [this]
  refine ⟨_, _, rfl, ?_⟩
  rw [strEq_self]
  exact hQ _ h5.fr
end Go.Proofs.YtbgebldhpbnacaaX
