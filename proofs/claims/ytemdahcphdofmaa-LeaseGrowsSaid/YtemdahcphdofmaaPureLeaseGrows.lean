/- For all two numbers of the kind uint32 the waits begin with the first, double, and end at the most within seventy steps. There is no condition beyond the kinds. -/
import Derived.Test.YtemdahcphdofmaaPLeaseGrowsx1
import Derived.Test.YtemdahcphdofmaaNum
namespace Go.Proofs.Ytemdahcphdofmaa.Pure
open Go.RowKit Go.Proofs.Ytemdahcphdofmaa.PLeaseGrows Go.Proofs.YtemdahcphdofmaaW.PrintWords Go.Proofs.YtemdahcphdofmaaW.PrintLast Go.Proofs.YtemdahcphdofmaaW.PrintMore Go.Proofs.Ytemdahcphdofmaa.Num

theorem known_true : mooringlaw17_known.f = some true := by decide +kernel

theorem grows (f most : Int) (hf : 1 ≤ f) (hm : most ≤ 8589934592) (d : Nat) : ∀ (k i : Nat) (w : Int), i + d = 70 → d < k → f ≤ w → w ≤ most → (w = most ∨ 2 ^ i ≤ w) →
    mooringlaw17_LeaseGrows.l0 k f most w i = some true := by
  induction d with
  | zero =>
    intro k i w hi hk h1 h2 h3
    obtain ⟨k, rfl⟩ : ∃ m, k = m + 1 := ⟨k - 1, by omega⟩
    obtain rfl : i = 70 := by omega
    have hp : (2 : Int) ^ 70 = 1180591620717411303424 := by decide +kernel
    simp only [mooringlaw17_LeaseGrows.l0]
    rw [if_neg (by omega)]
    have : w = most := by omega
    subst this
    simp
  | succ d ih =>
    intro k i w hi hk h1 h2 h3
    obtain ⟨k, rfl⟩ : ∃ m, k = m + 1 := ⟨k - 1, by omega⟩
    have hq : IntKind.u64.wrap (Int.tdiv most 2) = most / 2 := IntWalk.u64_quo most 2 ⟨by omega, by omega, by omega⟩
    simp only [mooringlaw17_LeaseGrows.l0]
    rw [if_pos (by omega), i64w ((i : Int) + 1) (by omega) (by omega)]
    have hc : ((i : Int) + 1) = ((i + 1 : Nat) : Int) := by omega
    rw [hc]
    unfold lease_Wait.f
    rw [if_neg (by omega), hq]
    by_cases hb : w > most / 2
    · rw [if_pos hb]
      simp only [Option.bind_some]
      rw [if_neg (by omega), if_neg (by omega), if_pos trivial]
      exact ih k (i + 1) most (by omega) (by omega) (by omega) (by omega) (Or.inl rfl)
    · rw [if_neg hb]
      simp only [Option.bind_some]
      rw [u64w (2 * w) (by omega) (by omega), if_neg (by omega), if_neg (by omega)]
      have hnext := ih k (i + 1) (2 * w) (by omega) (by omega) (by omega) (by omega) (Or.inr (by rw [Int.pow_succ]; omega))
      by_cases he : 2 * w = most
      · rw [if_pos he]; exact hnext
      · rw [if_neg he, if_pos trivial]; exact hnext

theorem LeaseGrows : mooringlaw17_LeaseGrows.Pure := by
  intro a b ha hb
  have ha' := u32b ha
  have hb' := u32b hb
  refine ⟨73, ?_⟩
  unfold mooringlaw17_LeaseGrows.f
  rw [u64w a (by omega) (by omega), u64w b (by omega) (by omega), u64w (a + 1) (by omega) (by omega), u64w (a + 1 + b) (by omega) (by omega)]
  have hw : lease_Wait.f 0 (a + 1) (a + 1 + b) = some (a + 1) := by
    unfold lease_Wait.f mn
    rw [if_pos rfl, if_neg (by omega)]
  rw [hw, known_true]
  simp only [Option.bind_some, if_true]
  simp only [mooringlaw17_LeaseGrows.j0]
  rw [if_neg (by simp)]
  exact grows (a + 1) (a + 1 + b) (by omega) (by omega) 70 72 0 (a + 1) (by omega) (by omega) (by omega) (by omega) (Or.inr (by simp; omega))

end Go.Proofs.Ytemdahcphdofmaa.Pure
