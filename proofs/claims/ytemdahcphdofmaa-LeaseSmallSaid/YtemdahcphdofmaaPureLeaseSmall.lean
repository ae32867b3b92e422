/- For every lease of the kind uint32, and every unit and drift brought within their bounds, Holder's answer is the greatest number of ticks that the document's inequality allows. There is no condition beyond the kinds. -/
import Derived.Test.YtemdahcphdofmaaPLeaseSmallx1
import Derived.Test.YtemdahcphdofmaaNum
namespace Go.Proofs.Ytemdahcphdofmaa.Pure
open Go.RowKit Go.Proofs.Ytemdahcphdofmaa.PLeaseSmall Go.Proofs.YtemdahcphdofmaaW.PrintWords Go.Proofs.YtemdahcphdofmaaW.PrintLast Go.Proofs.YtemdahcphdofmaaW.PrintMore Go.Proofs.Ytemdahcphdofmaa.Num

theorem known_true : mooringlaw17_known.f = some true := by decide +kernel

theorem pick_eq (n m : Int) (hm : 0 < m) (hb : m ≤ 9223372036854775807) : mooringhand_Pick.f n m = some (n % m) := by
  have h2 := Int.emod_nonneg n (by omega : m ≠ 0)
  have h3 := Int.emod_lt_of_pos n hm
  have h := tmod_pick n m hm
  unfold mooringhand_Pick.f
  rw [if_neg (by omega)]
  by_cases ht : Int.tmod n m < 0
  · rw [if_pos ht] at h ⊢
    rw [h, i64w _ (by omega) (by omega)]
  · rw [if_neg ht] at h ⊢
    rw [h]

theorem holder_eq (l u d : Int) (h1 : 1 ≤ u) (h2 : u ≤ 1048576) (h3 : 0 ≤ d) (h4 : d < u) (h5 : 0 ≤ l) (h6 : l ≤ 4294967295) :
    lease_Holder.f l u d = some (l * (u - d) / (u + d), 0) ∧ 0 ≤ l * (u - d) ∧ l * (u - d) ≤ 4503599627370496 := by
  have a1 : 0 ≤ l * (u - d) := mul0 h5 (by omega)
  have a2 : l * (u - d) ≤ 4294967295 * 1048576 := mulb h6 (by omega) (by omega) (by omega)
  refine ⟨?_, a1, by omega⟩
  unfold lease_Holder.f
  rw [if_neg (by omega), if_neg (by omega), if_neg (by omega), if_neg (by omega), u64w (u + d) (by omega) (by omega), if_neg (by omega),
    u64w (u - d) (by omega) (by omega), u64w (l * (u - d)) (by omega) (by omega), IntWalk.u64_quo _ _ ⟨a1, by omega, by omega⟩]

theorem LeaseSmall : mooringlaw17_LeaseSmall.Pure := by
  intro l a b hl ha hb
  have hl' := u32b hl
  have p1 := pick_eq a 1048576 (by omega) (by omega)
  have q1 := Int.emod_nonneg a (by omega : (1048576 : Int) ≠ 0)
  have q2 := Int.emod_lt_of_pos a (by omega : (0 : Int) < 1048576)
  unfold mooringlaw17_LeaseSmall.f
  rw [p1]
  simp only [Option.bind_some]
  generalize a % 1048576 = t at q1 q2
  rw [i64w (1 + t) (by omega) (by omega), u64w (1 + t) (by omega) (by omega), i64w (1 + t) (by omega) (by omega)]
  rw [pick_eq b (1 + t) (by omega) (by omega)]
  have q3 := Int.emod_nonneg b (by omega : (1 + t : Int) ≠ 0)
  have q4 := Int.emod_lt_of_pos b (by omega : (0 : Int) < 1 + t)
  simp only [Option.bind_some]
  generalize b % (1 + t) = d at q3 q4
  obtain ⟨hu, hu1, hu2⟩ : ∃ u, u = 1 + t ∧ 1 ≤ u := ⟨1 + t, rfl, by omega⟩
  rw [← hu1] at q4 ⊢
  rw [u64w l (by omega) (by omega), u64w d (by omega) (by omega)]
  obtain ⟨e1, e2, e3⟩ := holder_eq l hu d (by omega) (by omega) (by omega) (by omega) (by omega) (by omega)
  rw [e1, known_true]
  simp only [Option.bind_some, if_true]
  rw [u64w (hu + d) (by omega) (by omega), u64w (hu - d) (by omega) (by omega), u64w (l * (hu - d)) (by omega) (by omega)]
  have c1 : l * (hu - d) ≤ l * (hu + d) := Int.mul_le_mul_of_nonneg_left (by omega) (by omega)
  have c2 := Int.ediv_mul_le (l * (hu - d)) (by omega : hu + d ≠ 0)
  have c3 := Int.lt_ediv_add_one_mul_self (l * (hu - d)) (by omega : 0 < hu + d)
  have c4 : 0 ≤ l * (hu - d) / (hu + d) := Int.ediv_nonneg e2 (by omega)
  have c5 : l * (hu - d) / (hu + d) ≤ l := Int.ediv_le_of_le_mul (by omega) c1
  generalize l * (hu - d) / (hu + d) = q at *
  generalize l * (hu - d) = p at *
  have c6 : (q + 1) * (hu + d) = q * (hu + d) + (hu + d) := by rw [Int.add_mul, Int.one_mul]
  have c7 : 0 ≤ q * (hu + d) := mul0 c4 (by omega)
  rw [c6] at c3
  rw [u64w (q + 1) (by omega) (by omega), c6]
  rw [u64w (q * (hu + d)) (by omega) (by omega), u64w (q * (hu + d) + (hu + d)) (by omega) (by omega)]
  rw [if_pos c5, if_pos c2]
  simp only [gt_iff_lt, decide_eq_true c3]

end Go.Proofs.Ytemdahcphdofmaa.Pure
