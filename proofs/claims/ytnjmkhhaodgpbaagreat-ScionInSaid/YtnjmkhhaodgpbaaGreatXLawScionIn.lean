/- ScionIn: what its row hands in is opened, the body's walk is applied, and what comes out is shut again. -/
import Derived.Test.YtnjmkhhaodgpbaaGreatRows
import Derived.WalkKit
import Derived.ProofKit
import Derived.OpenShut
import Derived.ShutString
import Derived.ChangeOld
import Derived.Below
import Derived.SizedLaws
import Derived.JoinedOf
import Derived.JoinedCond
import Derived.Deep.CondSized
import Derived.Test.YtnjmkhhaodgpbaaGreatC7
namespace Go.Proofs.YtnjmkhhaodgpbaaGreat.scionIn
open Go.ChangeShapes Go.WideShapes Go.ChangeAt Go.RowKit
open Go.ChangeMaps (open_string shut_string)
set_option linter.unusedVariables false
theorem own : ownKnob Tryz.prog.godebug = none := by kernel_rfl
theorem laidOut : laidOutB Tryz.prog = true := by kernel_rfl
set_option maxRecDepth 100000 in
theorem lifted (os : Os) (started : os.Started) (H : Type) (enc : TypeId × Value → H) :
    ReturnsInHanded {} Tryz.checked os 4 .any (Rows.scionInSpec.pre6 enc Tryz.prog Tryz.f4 Rows.scionInRow.domain false) (Rows.scionInSpec.post enc Tryz.prog Tryz.f4 false true false false) := by
  refine returnsInHanded_of_change_sized (C := Tryz.checked) own started (by kernel_rfl) Tryz.func4
    (ChangeSpec.witness6 (enc := enc) (C := Tryz.checked) false ⟨#[], #[(.agg #[.int .i64 0, .int .i64 0, .int .i64 0, .int .i64 0, .int .i64 0, .int .i64 0, .int .i64 0, .int .i64 0, .int .i64 0, .int .i64 0, .int .i64 0, .int .i64 0, .int .i64 0, .int .i64 0, .int .i64 0, .int .i64 0, .int .i64 0, .int .i64 0, .int .i64 0, .int .i64 0, .int .u64 0, .int .u64 0]), .slice none 0 0], []⟩ 8 (by kernel_rfl) (by kernel_rfl) (by kernel_rfl) (by kernel_rfl)) ?_
  intro W base args ds gs before hval0 hW hcnd hsz0 _
  have hsz : (DataW.weightsEach Tryz.prog (Tryz.f4.params.toList ++ Rows.scionInSpec.plain.varTypes Tryz.prog) (ds ++ gs)).all (· ≤ reachBytes) = true := hsz0
  have hval : ∀ (j : Nat) t v, Tryz.f4.params[j]? = some t → args[j]? = some v → Value.okWide Tryz.prog W .any base t v := hval0
  have hW' := hW
  obtain ⟨p, q, hA0, hV, rfl, hfz, hnd⟩ := hW
  have hA : DataW.TrodAll enc Tryz.prog W 0 (fun _ => true) true Tryz.f4.params.toList args.toList ds p := hA0
  rw [Tryz.params4] at hA hval hsz
  obtain ⟨v0, vs0, d0, ds0, p0, q0, hargs, rfl, rfl, h0, r0⟩ := trodAll_cons hA
  obtain ⟨v1, vs1, d1, ds1, p1, q1, rfl, rfl, rfl, h1, r1⟩ := trodAll_cons r0
  obtain ⟨rfl, rfl, rfl⟩ := trodAll_nil r1
  obtain rfl : args = #[v0, v1] := by cases args; simp_all
  obtain ⟨rfl, rfl⟩ := trodVars_none hV
  obtain ⟨cs0, rfl, hcs0⟩ := okWide_struct Tryz.underlying24 (hval 0 24 v0 rfl rfl)
  have k0 := h0
  have lt0 : ∀ x ∈ p0, x.block < W.heap.size := by obtain ⟨m, hm⟩ := k0; exact DataW.trod_lt m _ _ _ hm
  have w0 : Go.Proofs.YtnjmkhhaodgpbaaGreatX.Lies Tryz.prog W 6 24 cs0.toList d0 := by obtain ⟨m, hm⟩ := k0; exact Go.Proofs.YtnjmkhhaodgpbaaGreatX.lies_of_trod 6 m _ _ _ hm
  have y0 : Go.Proofs.YtnjmkhhaodgpbaaGreatX.SizedD Tryz.prog 24 d0 := Go.Proofs.YtnjmkhhaodgpbaaGreatX.sized_at hsz (j := 0) rfl rfl
  obtain ⟨a1, len1, cap1, rfl⟩ := okWide_slice Tryz.underlying25 (hval 1 25 v1 rfl rfl)
  have k1 := h1
  have lt1 : ∀ x ∈ p1, x.block < W.heap.size := by obtain ⟨m, hm⟩ := k1; exact DataW.trod_lt m _ _ _ hm
  have w1 : Go.Proofs.YtnjmkhhaodgpbaaGreatX.Lies Tryz.prog W 6 25 [.slice a1 len1 cap1] d1 := by obtain ⟨m, hm⟩ := k1; exact Go.Proofs.YtnjmkhhaodgpbaaGreatX.lies_of_trod 6 m _ _ _ hm
  have y1 : Go.Proofs.YtnjmkhhaodgpbaaGreatX.SizedD Tryz.prog 25 d1 := Go.Proofs.YtnjmkhhaodgpbaaGreatX.sized_at hsz (j := 1) rfl rfl
  clear hA0 hval0 hsz0 hsz
  refine (Go.Proofs.YtnjmkhhaodgpbaaGreatX.scionIn_row w0 y0 w1 y1).calls.mono fun e W' hres => ?_
  obtain ⟨v, he, hv, hw⟩ := hres
  subst he
  subst hv
  have bel : Below W.heap.size W W' := hw.below (Nat.le_refl _) (by simp)
  exact ⟨_, rfl, _, _, _, [], _, [], hW', trodAll_mk1 (shut_bool Tryz.underlying4 _), (trodAll_cons_mk (Below.trod laidOut (by kernel_rfl) (of_decide_eq_true (by kernel_rfl)) k0 bel lt0) (trodAll_cons_mk (Below.trod laidOut (by kernel_rfl) (of_decide_eq_true (by kernel_rfl)) k1 bel lt1) trodAll_mk0)), rfl, bel.frame _, fun h => by cases h⟩
theorem over : Rows.scionInRow.holds Tryz.pinned (OpenSpec.ofChange Rows.scionInSpec) :=
  OpenClaim.holds_of_wide 4 Tryz.f4 rfl rfl rfl rfl rfl rfl rfl ⟨rfl, rfl, rfl, rfl, rfl⟩ rfl rfl rfl rfl rfl (by kernel_rfl) Tryz.func4 (by kernel_rfl)
    (of_decide_eq_true (by kernel_rfl)) (by unfold Func.isWrapper; first | (rw [if_pos (by decide +kernel)]; kernel_rfl) | (rw [if_neg (by decide +kernel)]; exact ⟨rfl, rfl⟩))
    (fun os started H enc _ => lifted os started H enc)
theorem proved : Rows.ScionInSaid := over
#print axioms proved
end Go.Proofs.YtnjmkhhaodgpbaaGreat.scionIn
namespace Go.Proofs.YtnjmkhhaodgpbaaGreat
/-- The row, under a short name, for the claim. -/
theorem scionIn_holds : Rows.ScionInSaid := scionIn.proved
end Go.Proofs.YtnjmkhhaodgpbaaGreat
