/- CodecSums and CodecTurned: their bodies come to true. -/
import Derived.Test.YtgeinpljchpdgaaL1Known
namespace Go.Proofs.YtgeinpljchpdgaaX
open Go.RowKit
set_option linter.unusedVariables false

theorem unseal_seal (bs : List Int) : unsealOf (sealOf bs) = (bs, 0) := by
  have hl : (sealOf bs).length = bs.length + 4 := by simp [sealOf, sumBytes]
  have h4 : (sealOf bs).length - 4 = bs.length := by omega
  have ht : (sealOf bs).take bs.length = bs := by unfold sealOf; rw [List.take_append_of_le_length (Nat.le_refl _), List.take_length]
  have hd : (sealOf bs).drop bs.length = sumBytes (crc bs) := by unfold sealOf; rw [List.drop_append_of_le_length (Nat.le_refl _), List.drop_length, List.nil_append]
  rw [unseal_ok (by omega) (by rw [h4, ht, hd]), h4, ht]
theorem codecSums {w : World} {x : Option Addr} {n c : Nat} {bs : List Int} (hb : ByS w x n c bs) (hn : n ≤ 140737488351232) :
    CallR Try.prog 4 #[.slice x n c] w fun v w' => v = .bool true ∧ Fr [] w w' := by
  refine X4.sound _ _ _ _ _ ?_
  unfold X4.f newK
  refine app_new hb (by omega) ?_
  intro p c1 w1 o1 f1 e1
  have hown := ByS.of_own o1 hb.wf
  refine ⟨_, _, _, rfl, unseal_spec hown (by omega) ?_⟩
  intro p2 m2 c2 w2 b2 f2
  refine ⟨_, _, _, _, rfl, runseal_spec (hb.keep' (f1.tr f2)) (by omega) ?_⟩
  intro p3 m3 c3 w3 b3 f3
  refine ⟨_, _, _, _, rfl, seal_spec (hown.keep' (f2.tr f3)) (by omega) ?_⟩
  intro p4 c4 w4 o4 f4 e4
  have hs4 : ByS w4 p4 (n + 4) c4 (sealOf bs) := ByS.of_own o4 (sealOf_wf hb.wf)
  refine ⟨_, _, _, rfl, unseal_spec hs4 (by omega) ?_⟩
  intro p5 m5 c5 w5 b5 f5
  rw [unseal_seal] at b5 ⊢
  refine ⟨_, _, _, _, rfl, ?_⟩
  unfold drewK
  refine known_spec ?_
  intro w6 f6
  refine ⟨_, rfl, ?_⟩
  have f56 : Fr [] w5 w6 := Fr.drew.tr f6
  have g1 : Fr [] w1 w6 := f2.tr (f3.tr (f4.tr (f5.tr f56)))
  have g0 : Fr [] w w6 := f1.tr g1
  refine sum_spec (hown.keep' g1) (by omega) ⟨_, rfl, rsum_spec (hb.keep' g0) (by omega) ⟨_, rfl, bc_eq (fun _ => ?_) (fun h => absurd rfl h)⟩⟩
  have hs6 := hs4.keep' (f5.tr f56)
  refine ⟨_, hs6.at_, rseal_spec (hb.keep' g0) (by omega) ?_⟩
  intro p7 c7 w7 o7 f7 e7
  have hs7 : ByS w7 p7 (n + 4) c7 (sealOf bs) := ByS.of_own o7 (sealOf_wf hb.wf)
  refine ⟨_, _, _, rfl, ⟨hs6.at_, (hs6.keep' f7).at_⟩, _, hs7.at_, ?_⟩
  rw [strEq_self, bcase_true]
  have f27 : Fr [] w2 w7 := f3.tr (f4.tr (f5.tr (f56.tr f7)))
  have f37 : Fr [] w3 w7 := f4.tr (f5.tr (f56.tr f7))
  refine ⟨_, (b2.keep' f27).at_, _, (b3.keep' f37).at_, ?_⟩
  rw [strEq_self, bcase_true]
  refine bc_eq (fun _ => ?_) (fun h => absurd rfl h)
  have g7 : Fr [] w w7 := g0.tr f7
  refine ⟨_, (b5.keep' (f56.tr f7)).at_, _, (hb.keep' g7).at_, ?_⟩
  rw [strEq_self, bcase_true]
  refine bc_eq (fun _ => ?_) (fun h => absurd rfl h)
  refine ⟨_, (hown.keep' (g1.tr f7)).at_, _, (hb.keep' g7).at_, ?_⟩
  rw [strEq_self]
  exact ⟨rfl, g7⟩
/-- as the row hands it in -/
theorem codecSums_row {w : World} {x : Option Addr} {n c : Nat} {zs : List Int} (h : IsRow .u8 w x n c zs) (hn : n * 1 ≤ 140737488351232) :
    CallR Try.prog 4 #[.slice x n c] w fun v w' => v = .bool true ∧ Fr [] w w' := codecSums (ByS.of_row h) (by omega)
end Go.Proofs.YtgeinpljchpdgaaX
