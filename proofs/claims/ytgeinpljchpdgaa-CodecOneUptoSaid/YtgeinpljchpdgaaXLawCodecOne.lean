/- CodecOne: what its row hands in is opened, the body's walk is applied, and what comes out is shut again. -/
import Derived.Test.YtgeinpljchpdgaaRows
import Derived.Test.YtgeinpljchpdgaaL1One
import Derived.Test.YtgeinpljchpdgaaXLies
import Derived.WalkKit
import Derived.ProofKit
import Derived.OpenShut
import Derived.ShutString
import Derived.ChangeOld
import Derived.Below
import Derived.SizedLaws
import Derived.JoinedOf
import Derived.JoinedCond
import Derived.Deep.CondSized
namespace Go.Proofs.Ytgeinpljchpdgaa.codecOne
open Go.ChangeShapes Go.WideShapes Go.ChangeAt Go.RowKit
open Go.ChangeMaps (open_string shut_string)
set_option linter.unusedVariables false
theorem own : ownKnob Try.prog.godebug = none := by kernel_rfl
theorem laidOut : laidOutB Try.prog = true := by kernel_rfl
set_option maxRecDepth 100000 in
theorem lifted (os : Os) (started : os.Started) (H : Type) (enc : TypeId × Value → H) (F0 : Stop.Interp) :
    ReturnsInHanded {} Try.checked os 10 .any ((Rows.OpenSpec.upto Rows.codecOneSpec).pre6 enc Try.prog Try.f10 Rows.codecOneUptoRow.domain false) (((Rows.OpenSpec.upto Rows.codecOneSpec).at F0).post enc Try.prog Try.f10 false true false false) := by
  refine returnsInHanded_of_cond_sized (C := Try.checked) (s := (Rows.OpenSpec.upto Rows.codecOneSpec)) (k := Rows.uptoSmall) rfl own started (by kernel_rfl) Try.func10
    (OpenSpec.witness (enc := enc) (C := Try.checked) (s := (Rows.OpenSpec.upto Rows.codecOneSpec)) (k := Rows.uptoSmall) rfl false ⟨#[], #[.slice none 0 0, .slice none 0 0], []⟩ 8 (by kernel_rfl) (by kernel_rfl) (by kernel_rfl)
      (x := ([.nil, .nil], [], [])) (by kernel_rfl) (by kernel_rfl) (by kernel_rfl)) ?_
  intro W base args ds gs before hval0 hW hcnd hsmall hsz0 _
  have hsz : (DataW.weightsEach Try.prog (Try.f10.params.toList ++ Rows.codecOneSpec.plain.varTypes Try.prog) (ds ++ gs)).all (· ≤ reachBytes) = true := hsz0
  have hB0 : Rows.uptoBulkAll (ds ++ gs) ≤ 1048576 := of_decide_eq_true hsmall
  have hval : ∀ (j : Nat) t v, Try.f10.params[j]? = some t → args[j]? = some v → Value.okWide Try.prog W .any base t v := hval0
  have hW' := hW
  obtain ⟨p, q, hA0, hV, rfl, hfz, hnd⟩ := hW
  have hA : DataW.TrodAll enc Try.prog W 0 (fun _ => true) true Try.f10.params.toList args.toList ds p := hA0
  rw [Try.params10] at hA hval hsz
  obtain ⟨v0, vs0, d0, ds0, p0, q0, hargs, rfl, rfl, h0, r0⟩ := trodAll_cons hA
  obtain ⟨v1, vs1, d1, ds1, p1, q1, rfl, rfl, rfl, h1, r1⟩ := trodAll_cons r0
  obtain ⟨rfl, rfl, rfl⟩ := trodAll_nil r1
  obtain rfl : args = #[v0, v1] := by cases args; simp_all
  obtain ⟨rfl, rfl⟩ := trodVars_none hV
  obtain ⟨a0, len0, cap0, rfl⟩ := okWide_slice Try.underlying23 (hval 0 23 v0 rfl rfl)
  have k0 := h0
  have lt0 : ∀ x ∈ p0, x.block < W.heap.size := by obtain ⟨m, hm⟩ := k0; exact DataW.trod_lt m _ _ _ hm
  have w0 : Go.Proofs.YtgeinpljchpdgaaX.Lies Try.prog W 6 23 [.slice a0 len0 cap0] d0 := by obtain ⟨m, hm⟩ := k0; exact Go.Proofs.YtgeinpljchpdgaaX.lies_of_trod 6 m _ _ _ hm
  have y0 : len0 * 1 ≤ 140737488351232 := Go.Proofs.YtgeinpljchpdgaaX.open_sized hsz (j := 0) (t := 23) rfl rfl Try.underlying23 (by kernel_rfl) h0
  obtain ⟨a1, len1, cap1, rfl⟩ := okWide_slice Try.underlying58 (hval 1 58 v1 rfl rfl)
  have k1 := h1
  have lt1 : ∀ x ∈ p1, x.block < W.heap.size := by obtain ⟨m, hm⟩ := k1; exact DataW.trod_lt m _ _ _ hm
  have w1 : Go.Proofs.YtgeinpljchpdgaaX.Lies Try.prog W 6 58 [.slice a1 len1 cap1] d1 := by obtain ⟨m, hm⟩ := k1; exact Go.Proofs.YtgeinpljchpdgaaX.lies_of_trod 6 m _ _ _ hm
  obtain ⟨z1, u1⟩ := Go.Proofs.YtgeinpljchpdgaaX.open_row Try.underlying58 Try.underlying3 (by kernel_rfl) h1
  have y1 : len1 * 8 ≤ 140737488351232 := Go.Proofs.YtgeinpljchpdgaaX.open_sized hsz (j := 1) (t := 58) rfl rfl Try.underlying58 (by kernel_rfl) h1
  clear hA0 hval0 hsz0 hsz
  refine (Go.Proofs.YtgeinpljchpdgaaX.codecOne_row w0 y0 w1 u1 y1 hB0).calls.mono fun e W' hres => ?_
  obtain ⟨v, he, hv, hw⟩ := hres
  subst he
  subst hv
  have bel : Below W.heap.size W W' := hw.below (Nat.le_refl _) (by simp)
  exact ⟨_, rfl, _, _, _, [], _, [], hW', trodAll_mk1 (shut_bool Try.underlying4 _), (trodAll_cons_mk (Below.trod laidOut (by kernel_rfl) (of_decide_eq_true (by kernel_rfl)) k0 bel lt0) (trodAll_cons_mk (Below.trod laidOut (by kernel_rfl) (of_decide_eq_true (by kernel_rfl)) k1 bel lt1) trodAll_mk0)), rfl, bel.frame _, fun h => by cases h⟩
theorem over : Rows.codecOneUptoRow.holds Try.pinned (Rows.OpenSpec.upto Rows.codecOneSpec) :=
  OpenClaim.holds_of_cond 10 Try.f10 rfl rfl rfl rfl rfl rfl rfl ⟨rfl, rfl, rfl, rfl, rfl⟩ rfl rfl rfl rfl rfl (by kernel_rfl) Try.func10 (by kernel_rfl)
    (of_decide_eq_true (by kernel_rfl)) (by unfold Func.isWrapper; first | (rw [if_pos (by decide +kernel)]; kernel_rfl) | (rw [if_neg (by decide +kernel)]; exact ⟨rfl, rfl⟩))
    (fun os started H enc _ F0 => lifted os started H enc F0)
theorem proved : Rows.CodecOneUptoSaid := over
#print axioms proved
end Go.Proofs.Ytgeinpljchpdgaa.codecOne
namespace Go.Proofs.Ytgeinpljchpdgaa
/-- The row, under a short name, for the claim. -/
theorem codecOne_holds : Rows.CodecOneUptoSaid := codecOne.proved
end Go.Proofs.Ytgeinpljchpdgaa
