/- The closed sentence LeaseKnown holds: chapter 17's examples come out as written. There is no condition. -/
import Derived.Test.YtemdahcphdofmaaPLeaseKnownx1
import Derived.Test.YtemdahcphdofmaaNum
namespace Go.Proofs.Ytemdahcphdofmaa.Pure
open Go.RowKit Go.Proofs.Ytemdahcphdofmaa.PLeaseKnown Go.Proofs.YtemdahcphdofmaaW.PrintWords Go.Proofs.YtemdahcphdofmaaW.PrintLast Go.Proofs.YtemdahcphdofmaaW.PrintMore Go.Proofs.Ytemdahcphdofmaa.Num

theorem LeaseKnown : mooringlaw17_LeaseKnown.Pure := by
  show mooringlaw17_LeaseKnown.f = some true
  decide +kernel

end Go.Proofs.Ytemdahcphdofmaa.Pure
