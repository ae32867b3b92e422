/- For all four numbers of the kind uint64 the program's Every and Wait answer as the document's do. There is no condition beyond the kinds. -/
import Derived.Test.YtemdahcphdofmaaPLeaseWaitsx1
import Derived.Test.YtemdahcphdofmaaNum
namespace Go.Proofs.Ytemdahcphdofmaa.Pure
open Go.RowKit Go.Proofs.Ytemdahcphdofmaa.PLeaseWaits Go.Proofs.YtemdahcphdofmaaW.PrintWords Go.Proofs.YtemdahcphdofmaaW.PrintLast Go.Proofs.YtemdahcphdofmaaW.PrintMore Go.Proofs.Ytemdahcphdofmaa.Num

theorem known_true : mooringlaw17_known.f = some true := by decide +kernel

theorem wait_same (a b c : Int) (ha : 0 ≤ a) (hc : 0 ≤ c) (hc' : c ≤ 18446744073709551615) :
    ∃ r, lease_Wait.f a b c = some r ∧ mooringref3_Wait.f a b c = some r := by
  have hq : IntKind.u64.wrap (Int.tdiv c 2) = c / 2 := IntWalk.u64_quo c 2 ⟨hc, hc', by omega⟩
  unfold lease_Wait.f mooringref3_Wait.f
  rw [hq]
  by_cases h0 : a = 0
  · rw [if_pos h0, if_pos h0]; exact ⟨_, rfl, rfl⟩
  · rw [if_neg h0, if_neg h0]
    by_cases h1 : a > c / 2
    · rw [if_pos h1, if_pos h1]; exact ⟨_, rfl, rfl⟩
    · rw [if_neg h1, if_neg h1, u64w (2 * a) (by omega) (by omega)]
      refine ⟨_, rfl, ?_⟩
      unfold mn
      rw [if_neg (by omega)]

theorem LeaseWaits : mooringlaw17_LeaseWaits.Pure := by
  intro s a b c hs ha hb hc
  have ha' := u64b ha
  have hc' := u64b hc
  obtain ⟨r, h1, h2⟩ := wait_same a b c ha'.1 hc'.1 hc'.2
  have he : mooringref3_Every.f s = lease_Every.f s := by
    unfold mooringref3_Every.f lease_Every.f mx
    congr 1
    split <;> split <;> omega
  have h : ∃ r, lease_Every.f s = some r := ⟨_, rfl⟩
  obtain ⟨q, hq⟩ := h
  unfold mooringlaw17_LeaseWaits.f
  rw [he, hq, known_true, h1, h2]
  simp

end Go.Proofs.Ytemdahcphdofmaa.Pure
