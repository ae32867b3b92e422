/- For all three numbers of the kind uint64 the program's Holder and the document's Holder answer the same number and the same code. There is no condition beyond the kinds. -/
import Derived.Test.YtemdahcphdofmaaPLeaseHolderx1
import Derived.Test.YtemdahcphdofmaaNum
namespace Go.Proofs.Ytemdahcphdofmaa.Pure
open Go.RowKit Go.Proofs.Ytemdahcphdofmaa.PLeaseHolder Go.Proofs.YtemdahcphdofmaaW.PrintWords Go.Proofs.YtemdahcphdofmaaW.PrintLast Go.Proofs.YtemdahcphdofmaaW.PrintMore Go.Proofs.Ytemdahcphdofmaa.Num

theorem known_true : mooringlaw17_known.f = some true := by decide +kernel

theorem holder_some (l u d : Int) (_hu : 0 ≤ u) (hd : 0 ≤ d) : ∃ n e, lease_Holder.f l u d = some (n, e) := by
  unfold lease_Holder.f
  repeat' split
  all_goals first
    | exact ⟨_, _, rfl⟩
    | (rename_i h; rw [u64w _ (by omega) (by omega)] at h; omega)

theorem LeaseHolder : mooringlaw17_LeaseHolder.Pure := by
  intro a b c ha hb hc
  have hb' := u64b hb
  have hc' := u64b hc
  have he : mooringref3_Holder.f a b c = lease_Holder.f a b c := by
    unfold mooringref3_Holder.f lease_Holder.f
    by_cases h0 : b = 0
    · rw [if_pos h0, if_pos (by omega)]
    · rw [if_neg h0, if_neg (by omega : ¬ b < 1)]
  obtain ⟨n, e, h⟩ := holder_some a b c hb'.1 hc'.1
  unfold mooringlaw17_LeaseHolder.f
  rw [he, h, known_true]
  simp

end Go.Proofs.Ytemdahcphdofmaa.Pure
