/- CodecWrites: what its row hands in is opened, the body's walk is applied, and what comes out is shut again. -/
import Derived.Test.YtgeinpljchpdgaaRows
import Derived.Test.YtgeinpljchpdgaaL1Writes
import Derived.Test.YtgeinpljchpdgaaXLies
import Derived.WalkKit
import Derived.ProofKit
import Derived.OpenShut
import Derived.ShutString
import Derived.ChangeOld
import Derived.Below
import Derived.SizedLaws
import Derived.JoinedOf
import Derived.JoinedCond
import Derived.Deep.CondSized
namespace Go.Proofs.Ytgeinpljchpdgaa.codecWrites
open Go.ChangeShapes Go.WideShapes Go.ChangeAt Go.RowKit
open Go.ChangeMaps (open_string shut_string)
set_option linter.unusedVariables false
theorem own : ownKnob Try.prog.godebug = none := by kernel_rfl
theorem laidOut : laidOutB Try.prog = true := by kernel_rfl
set_option maxRecDepth 100000 in
theorem lifted (os : Os) (started : os.Started) (H : Type) (enc : TypeId × Value → H) (F0 : Stop.Interp) :
    ReturnsInHanded {} Try.checked os 3 .any ((Rows.OpenSpec.upto Rows.codecWritesSpec).pre6 enc Try.prog Try.f3 Rows.codecWritesUptoRow.domain false) (((Rows.OpenSpec.upto Rows.codecWritesSpec).at F0).post enc Try.prog Try.f3 false true false false) := by
  refine returnsInHanded_of_cond_sized (C := Try.checked) (s := (Rows.OpenSpec.upto Rows.codecWritesSpec)) (k := Rows.uptoSmall) rfl own started (by kernel_rfl) Try.func3
    (OpenSpec.witness (enc := enc) (C := Try.checked) (s := (Rows.OpenSpec.upto Rows.codecWritesSpec)) (k := Rows.uptoSmall) rfl false ⟨#[], #[.slice none 0 0], []⟩ 8 (by kernel_rfl) (by kernel_rfl) (by kernel_rfl)
      (x := ([.nil], [], [])) (by kernel_rfl) (by kernel_rfl) (by kernel_rfl)) ?_
  intro W base args ds gs before hval0 hW hcnd hsmall hsz0 _
  have hsz : (DataW.weightsEach Try.prog (Try.f3.params.toList ++ Rows.codecWritesSpec.plain.varTypes Try.prog) (ds ++ gs)).all (· ≤ reachBytes) = true := hsz0
  have hB0 : Rows.uptoBulkAll (ds ++ gs) ≤ 1048576 := of_decide_eq_true hsmall
  have hval : ∀ (j : Nat) t v, Try.f3.params[j]? = some t → args[j]? = some v → Value.okWide Try.prog W .any base t v := hval0
  have hW' := hW
  obtain ⟨p, q, hA0, hV, rfl, hfz, hnd⟩ := hW
  have hA : DataW.TrodAll enc Try.prog W 0 (fun _ => true) true Try.f3.params.toList args.toList ds p := hA0
  rw [Try.params3] at hA hval hsz
  obtain ⟨v0, vs0, d0, ds0, p0, q0, hargs, rfl, rfl, h0, r0⟩ := trodAll_cons hA
  obtain ⟨rfl, rfl, rfl⟩ := trodAll_nil r0
  obtain rfl : args = #[v0] := by cases args; simp_all
  obtain ⟨rfl, rfl⟩ := trodVars_none hV
  obtain ⟨a0, len0, cap0, rfl⟩ := okWide_slice Try.underlying22 (hval 0 22 v0 rfl rfl)
  have k0 := h0
  have lt0 : ∀ x ∈ p0, x.block < W.heap.size := by obtain ⟨m, hm⟩ := k0; exact DataW.trod_lt m _ _ _ hm
  have w0 : Go.Proofs.YtgeinpljchpdgaaX.Lies Try.prog W 6 22 [.slice a0 len0 cap0] d0 := by obtain ⟨m, hm⟩ := k0; exact Go.Proofs.YtgeinpljchpdgaaX.lies_of_trod 6 m _ _ _ hm
  have y0 : len0 * 48 ≤ 140737488351232 := Go.Proofs.YtgeinpljchpdgaaX.open_sized hsz (j := 0) (t := 22) rfl rfl Try.underlying22 (by kernel_rfl) h0
  clear hA0 hval0 hsz0 hsz
  refine (Go.Proofs.YtgeinpljchpdgaaX.codecWrites_row w0 y0 hB0).calls.mono fun e W' hres => ?_
  obtain ⟨v, he, hv, hw⟩ := hres
  subst he
  subst hv
  have bel : Below W.heap.size W W' := hw.below (Nat.le_refl _) (by simp)
  exact ⟨_, rfl, _, _, _, [], _, [], hW', trodAll_mk1 (shut_bool Try.underlying4 _), (trodAll_cons_mk (Below.trod laidOut (by kernel_rfl) (of_decide_eq_true (by kernel_rfl)) k0 bel lt0) trodAll_mk0), rfl, bel.frame _, fun h => by cases h⟩
theorem over : Rows.codecWritesUptoRow.holds Try.pinned (Rows.OpenSpec.upto Rows.codecWritesSpec) :=
  OpenClaim.holds_of_cond 3 Try.f3 rfl rfl rfl rfl rfl rfl rfl ⟨rfl, rfl, rfl, rfl, rfl⟩ rfl rfl rfl rfl rfl (by kernel_rfl) Try.func3 (by kernel_rfl)
    (of_decide_eq_true (by kernel_rfl)) (by unfold Func.isWrapper; first | (rw [if_pos (by decide +kernel)]; kernel_rfl) | (rw [if_neg (by decide +kernel)]; exact ⟨rfl, rfl⟩))
    (fun os started H enc _ F0 => lifted os started H enc F0)
theorem proved : Rows.CodecWritesUptoSaid := over
#print axioms proved
end Go.Proofs.Ytgeinpljchpdgaa.codecWrites
namespace Go.Proofs.Ytgeinpljchpdgaa
/-- The row, under a short name, for the claim. -/
theorem codecWrites_holds : Rows.CodecWritesUptoSaid := codecWrites.proved
end Go.Proofs.Ytgeinpljchpdgaa
