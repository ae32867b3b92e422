/- For all three numbers the holder's time is n short ticks where the lease is n long ones, and it is live just below that and not at it. There is no condition beyond the kinds. -/
import Derived.Test.YtemdahcphdofmaaPLeaseLeastx1
import Derived.Test.YtemdahcphdofmaaNum
namespace Go.Proofs.Ytemdahcphdofmaa.Pure
open Go.RowKit Go.Proofs.Ytemdahcphdofmaa.PLeaseLeast Go.Proofs.YtemdahcphdofmaaW.PrintWords Go.Proofs.YtemdahcphdofmaaW.PrintLast Go.Proofs.YtemdahcphdofmaaW.PrintMore Go.Proofs.Ytemdahcphdofmaa.Num

theorem known_true : mooringlaw17_known.f = some true := by decide +kernel

theorem pick_eq (n m : Int) (hm : 0 < m) (hb : m ≤ 9223372036854775807) : mooringhand_Pick.f n m = some (n % m) := by
  have h2 := Int.emod_nonneg n (by omega : m ≠ 0)
  have h3 := Int.emod_lt_of_pos n hm
  have h := tmod_pick n m hm
  unfold mooringhand_Pick.f
  rw [if_neg (by omega)]
  by_cases ht : Int.tmod n m < 0
  · rw [if_pos ht] at h ⊢
    rw [h, i64w _ (by omega) (by omega)]
  · rw [if_neg ht] at h ⊢
    rw [h]

theorem holder_eq (l u d : Int) (h1 : 1 ≤ u) (h2 : u ≤ 1048576) (h3 : 0 ≤ d) (h4 : d < u) (h5 : 0 ≤ l) (h6 : l ≤ 4294967295) :
    lease_Holder.f l u d = some (l * (u - d) / (u + d), 0) ∧ 0 ≤ l * (u - d) ∧ l * (u - d) ≤ 4503599627370496 := by
  have a1 : 0 ≤ l * (u - d) := mul0 h5 (by omega)
  have a2 : l * (u - d) ≤ 4294967295 * 1048576 := mulb h6 (by omega) (by omega) (by omega)
  refine ⟨?_, a1, by omega⟩
  unfold lease_Holder.f
  rw [if_neg (by omega), if_neg (by omega), if_neg (by omega), if_neg (by omega), u64w (u + d) (by omega) (by omega), if_neg (by omega),
    u64w (u - d) (by omega) (by omega), u64w (l * (u - d)) (by omega) (by omega), IntWalk.u64_quo _ _ ⟨a1, by omega, by omega⟩]

theorem LeaseLeast : mooringlaw17_LeaseLeast.Pure := by
  intro k a b hk ha hb
  unfold mooringlaw17_LeaseLeast.f
  rw [pick_eq a 500 (by omega) (by omega)]
  simp only [Option.bind_some]
  have q1 := Int.emod_nonneg a (by omega : (500 : Int) ≠ 0)
  have q2 := Int.emod_lt_of_pos a (by omega : (0 : Int) < 500)
  generalize a % 500 = t at q1 q2
  rw [i64w (2 + t) (by omega) (by omega), u64w (2 + t) (by omega) (by omega), i64w (2 + t) (by omega) (by omega)]
  obtain ⟨u, hu, u1⟩ : ∃ u, u = 2 + t ∧ 2 ≤ u := ⟨2 + t, rfl, by omega⟩
  rw [← hu]
  rw [pick_eq b u (by omega) (by omega)]
  simp only [Option.bind_some]
  have q3 := Int.emod_nonneg b (by omega : u ≠ 0)
  have q4 := Int.emod_lt_of_pos b (by omega : 0 < u)
  generalize b % u = d at q3 q4
  rw [pick_eq k 50 (by omega) (by omega)]
  simp only [Option.bind_some]
  have q5 := Int.emod_nonneg k (by omega : (50 : Int) ≠ 0)
  have q6 := Int.emod_lt_of_pos k (by omega : (0 : Int) < 50)
  generalize k % 50 = m at q5 q6
  rw [i64w (1 + m) (by omega) (by omega), u64w (1 + m) (by omega) (by omega), u64w d (by omega) (by omega),
    u64w (u + d) (by omega) (by omega), u64w (u - d) (by omega) (by omega)]
  obtain ⟨n, hn, n1⟩ : ∃ n, n = 1 + m ∧ 1 ≤ n := ⟨1 + m, rfl, by omega⟩
  rw [← hn]
  have a1 : 0 ≤ n * (u + d) := mul0 (by omega) (by omega)
  have a2 : n * (u + d) ≤ 50 * 1002 := mulb (by omega) (by omega) (by omega) (by omega)
  have a3 : 0 ≤ n * (u - d) := mul0 (by omega) (by omega)
  have a4 : n * (u - d) ≤ 50 * 501 := mulb (by omega) (by omega) (by omega) (by omega)
  have a5 : 1 * 1 ≤ n * (u - d) := mulb (by omega) (by omega) (by omega) (by omega)
  rw [u64w (n * (u + d)) (by omega) (by omega), u64w (n * (u - d)) (by omega) (by omega)]
  obtain ⟨e1, e2, e3⟩ := holder_eq (n * (u + d)) u d (by omega) (by omega) (by omega) (by omega) (by omega) (by omega)
  have e4 : n * (u + d) * (u - d) / (u + d) = n * (u - d) := by
    rw [Int.mul_assoc, Int.mul_comm (u + d) (u - d), ← Int.mul_assoc]
    exact Int.mul_ediv_cancel _ (by omega)
  rw [e1, e4, known_true]
  simp only [Option.bind_some, if_true]
  generalize n * (u - d) = s at *
  unfold lease_Live.f
  rw [u64w (s - 1) (by omega) (by omega), if_pos (by omega), if_pos (by omega)]
  simp only [Option.bind_some, Int.sub_zero]
  rw [u64w (s - 1) (by omega) (by omega), u64w s (by omega) (by omega), decide_eq_true (by omega : s - 1 < s), decide_eq_false (by omega : ¬ s < s)]
  rfl

end Go.Proofs.Ytemdahcphdofmaa.Pure
