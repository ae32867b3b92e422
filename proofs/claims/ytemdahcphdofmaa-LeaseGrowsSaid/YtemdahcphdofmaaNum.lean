import Derived.IntWalk
import Derived.RowKit
namespace Go.Proofs.Ytemdahcphdofmaa.Num
open Go.RowKit

theorem u64b {a : Int} (h : (Lit.int .u64 a).wf = true) : 0 ≤ a ∧ a ≤ 18446744073709551615 := by
  simp [Lit.wf, IntKind.min, IntKind.max, IntKind.signed, IntKind.bits] at h; omega
theorem u32b {a : Int} (h : (Lit.int .u32 a).wf = true) : 0 ≤ a ∧ a ≤ 4294967295 := by
  simp [Lit.wf, IntKind.min, IntKind.max, IntKind.signed, IntKind.bits] at h; omega
theorem i64b {a : Int} (h : (Lit.int .i64 a).wf = true) : -9223372036854775808 ≤ a ∧ a ≤ 9223372036854775807 := by
  simp [Lit.wf, IntKind.min, IntKind.max, IntKind.signed, IntKind.bits] at h; omega

theorem u64w (n : Int) (h : 0 ≤ n) (h' : n ≤ 18446744073709551615) : IntKind.u64.wrap n = n := IntWalk.u64_in n ⟨h, h'⟩
theorem i64w (n : Int) (h : -9223372036854775808 ≤ n) (h' : n ≤ 9223372036854775807) : wrap64 n = n := IntWalk.wrap64_in n ⟨h, h'⟩

/-- the remainder by a positive number, as Pick works it out -/
theorem tmod_pick (n m : Int) (hm : 0 < m) : (if Int.tmod n m < 0 then Int.tmod n m + m else Int.tmod n m) = n % m := by
  have h1 := Int.tmod_eq_emod (a := n) (b := m)
  have h2 := Int.emod_nonneg n (by omega : m ≠ 0)
  have h3 := Int.emod_lt_of_pos n hm
  rw [h1]
  split <;> split <;> omega

theorem mulb {a b c d : Int} (h1 : a ≤ c) (h2 : b ≤ d) (h3 : 0 ≤ b) (h4 : 0 ≤ c) : a * b ≤ c * d := Int.mul_le_mul h1 h2 h3 h4
theorem mul0 {a b : Int} (h1 : 0 ≤ a) (h2 : 0 ≤ b) : 0 ≤ a * b := Int.mul_nonneg h1 h2

end Go.Proofs.Ytemdahcphdofmaa.Num
