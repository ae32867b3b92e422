/- For all three numbers of the kind uint64 the program's Live and the document's Live answer alike. There is no condition beyond the kinds. -/
import Derived.Test.YtemdahcphdofmaaPLeaseLivex1
import Derived.Test.YtemdahcphdofmaaNum
namespace Go.Proofs.Ytemdahcphdofmaa.Pure
open Go.RowKit Go.Proofs.Ytemdahcphdofmaa.PLeaseLive Go.Proofs.YtemdahcphdofmaaW.PrintWords Go.Proofs.YtemdahcphdofmaaW.PrintLast Go.Proofs.YtemdahcphdofmaaW.PrintMore Go.Proofs.Ytemdahcphdofmaa.Num

theorem known_true : mooringlaw17_known.f = some true := by decide +kernel

theorem LeaseLive : mooringlaw17_LeaseLive.Pure := by
  intro a b c ha hb hc
  have he : mooringref3_Live.f a b c = lease_Live.f a b c := by
    unfold mooringref3_Live.f lease_Live.f
    rfl
  have h : ∃ r, lease_Live.f a b c = some r := by
    unfold lease_Live.f
    split <;> exact ⟨_, rfl⟩
  obtain ⟨r, h⟩ := h
  unfold mooringlaw17_LeaseLive.f
  rw [he, h, known_true]
  simp

end Go.Proofs.Ytemdahcphdofmaa.Pure
