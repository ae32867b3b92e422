/- StubKnown: chapter 18's examples. -/
import Derived.Test.YtglininpmfgggaaL18Report
import Derived.Test.YtglininpmfgggaaL18Full
namespace Go.Proofs.YtglininpmfgggaaX
open Go.RowKit
set_option linter.unusedVariables false
set_option linter.unusedSimpArgs false
set_option maxRecDepth 100000
section
variable {w w' W : World} {Q : Value → World → Prop} {g gt gc : Nat} {ft ft' : List Nat} {S S' : Sn} {c : Cfg}
theorem rspan_spec (hm : mayB c = true) (h0 : 0 ≤ c.drift) (hQ : ∀ w', Fr [] w w' → Q (.int .u64 (holdN c.lease c.unit c.drift)) w') : CallR Try.prog 22 #[c.val] w Q := by
  apply X22.sound
  unfold X22.f
  refine newB fun g1 w2 b f2 _ => ?_
  have b : Blk w2 g1 c.cells 24 := b
  have hu := may_unit hm
  refine ld_int (b.cat 13 _ rfl) (ld_int (b.cat 11 _ rfl) (ld_int (b.cat 12 _ rfl) (X47.sound _ _ _ _ _ ?_)))
  unfold X47.f
  refine bc_eq (fun h => by omega) (fun _ => bc_neg (by omega) (bc_neg (by omega) (bc_neg (by omega) ⟨?_, _, _, rfl, hQ _ f2⟩)))
  rw [u64w _ (by omega) (by omega)]; omega
abbrev cz : Cfg := ⟨0, 0, 0, 0, 0, 0, 0, 0, 0, 0, 0, 0, 0, 0, 0, 0, 0, 0, 0, 0, 0, 0⟩
def u1 : Sn := (wantS k0 1 5 2 0).1
def u2 : Sn := (wantS u1 0 0 2 0).1
def u3 : Sn := (wantS u2 2 5 2 10).1
def u4 : Sn := (toldS u3 kM 12).1
def u5 : Sn := reportS u4 [] 13
def u6 : Sn := (stepS u5 13).1
abbrev kC : Msg := ⟨7, 2, 1, 0, 0, 0, 0, 0, 2, 5, none, 0, 0, 0, 0, 2, 0, 0, 0, 0, none, 0, 0⟩
def u7 : Sn := (cleanedS u6 kC).1
def kspan : Int := holdN (configOf rz).lease (configOf rz).unit (configOf rz).drift
theorem un1 : (wantS k0 1 5 2 0).2.2 = 1 := by decide +kernel
theorem un2 : (wantS u1 0 0 2 0).2.2 = 1 := by decide +kernel
theorem un3 : stateS u4 2 5 (IntKind.wrap .u64 (IntKind.wrap .u64 (10 + kspan) - 1)) = 2 := by decide +kernel
theorem un4 : stateS u4 2 5 (IntKind.wrap .u64 (10 + kspan)) = 4 := by decide +kernel
theorem un5 : (stepS u5 13).2.2 = true := by decide +kernel
theorem un5m : (stepS u5 13).2.1.kind = 6 ∧ (stepS u5 13).2.1.seq = 2 := by decide +kernel
theorem un6 : u6.seq = 2 := by decide +kernel
theorem un7 : (cleanedS u6 kC).2 = true := by decide +kernel
theorem un8 : u7.l.length = 0 := by decide +kernel
theorem un9 : ∀ e ∈ u4.l, (Lit.int .i64 e.2.nd).wf = true ∧ (Lit.int .u64 e.2.sr).wf = true := by decide +kernel
theorem bad0 : ¬ newOk cz 1 0 := fun h => by have := h.1; revert this; decide +kernel
theorem bad1 : ¬ newOk (configOf rz) 0 0 := fun h => h.2.1 (by decide)
theorem bad2 : ¬ newOk (configOf rz) 1 72057594037927936 := fun h => h.2.2.2 (by decide)
theorem known_j0 {gx : Nat} (bc : Blk W gc (configOf rz).cells 24) (bx : Blk W gx (idcs 2 5) 40) (p : PL W w g gt ft k0) (hQ : ∀ w', Fr [] W w' → Q (.bool true) w') : X8.j0 Q (at0 gc 0) (at0 gx 0) (some (at0 g 0)) w := by
  unfold X8.j0
  refine want_spec (S := k0) p.t ?_
  intro ft2 w2 t2 f2 e2
  have p2 : PL W w2 g gt ft2 u1 := p.next t2 f2 e2
  refine ⟨_, _, rfl, want_spec (S := u1) p2.t ?_⟩
  intro ft6 w6 t6 f6 e6
  have p6 : PL W w6 g gt ft6 u2 := p2.next t6 f6 e6
  have bx6 := bx.keep' p6.F
  refine ⟨_, _, rfl, ld_int (bx6.cat 0 _ rfl) (ld_int (bx6.cat 1 _ rfl) (want_spec (S := u2) p6.t ?_))⟩
  intro ft12 w12 t12 f12 e12
  have p12 : PL W w12 g gt ft12 u3 := p6.next t12 f12 e12
  have bx12 := bx.keep' p12.F
  refine ⟨_, _, rfl, ld_int (bx12.cat 0 _ rfl) (ld_int (bx12.cat 1 _ rfl) (told_spec (S := u3) (m := kM) p12.t ?_))⟩
  intro ft18 w18 t18 f18 e18
  have p18 : PL W w18 g gt ft18 u4 := p12.next t18 f18 e18
  refine ⟨_, rfl, ld_Cfg (s := configOf rz) (bc.keep' p18.F).cat (rspan_spec k_ok.1 (drift_half rz).1 fun w43 f43 => ⟨_, rfl, ?_⟩)⟩
  have p43 := p18.keep' f43
  have bx43 := bx.keep' p43.F
  refine ld_int (bx43.cat 0 _ rfl) (ld_int (bx43.cat 1 _ rfl) (state_spec (S := u4) p43.t fun w48 f48 => ⟨_, rfl, ?_⟩))
  have p48 := p43.keep' f48
  have bx48 := bx.keep' p48.F
  refine ld_int (bx48.cat 0 _ rfl) (ld_int (bx48.cat 1 _ rfl) (state_spec (S := u4) p48.t fun w53 f53 => ⟨_, rfl, ?_⟩))
  have p53 := p48.keep' f53
  have ws : IdWs u4 := fun e he => ⟨(un9 e he).1, (un9 e he).2⟩
  refine report_spec (S := u4) (o := []) (op := none) (oc := 0) p53.t ws (by decide) (by simp) List.Pairwise.nil (by simp) ?_
  intro ft56 w56 t56 f56 e56
  have p56 : PL W w56 g gt ft56 u5 := p53.next t56 f56 e56
  refine ⟨rfl, step_spec (S := u5) p56.t ?_⟩
  intro ft58 w58 t58 f58 e58
  have p58 : PL W w58 g gt ft58 u6 := p56.next t58 f58 e58
  rw [un5]
  refine ⟨_, _, _, _, _, _, _, _, _, _, _, _, _, _, _, _, _, _, _, _, _, _, _, _, rfl, newB fun gm w80 bm f80 h80 => stAllB (vs := (stepS u5 13).2.1.cells) bm rfl fun w81 b81 f81 => ?_⟩
  have nm := p58.fresh h80
  have z58 := p58.F.size
  have p81 := (p58.keep' f80).off nm (by omega) f81
  have e3 : stateS u4 2 5 (IntKind.wrap .u64 (IntKind.wrap .u64 (10 + holdN (configOf rz).lease (configOf rz).unit (configOf rz).drift) - 1)) = 2 := un3
  have e4 : stateS u4 2 5 (IntKind.wrap .u64 (10 + holdN (configOf rz).lease (configOf rz).unit (configOf rz).drift)) = 4 := un4
  refine bc_eqt' un1 (bc_eqt' un2 (bc_eqt' e3 (bc_eqt' e4 (bc_bool (fun _ => ?_) (fun h => by cases h)))))
  refine ld_int (b81.cat 0 _ rfl) (bc_eqt' un5m.1 (ld_int (b81.cat 13 _ rfl) (bc_eqt' un5m.2 (seq_spec p81.t ⟨_, rfl, bc_eqt' un6 ?_⟩))))
  have bx81 := bx.keep' p81.F
  refine ld_int (bx81.cat 0 _ rfl) (ld_int (bx81.cat 1 _ rfl) (cleaned_spec (S := u6) (m := kC) p81.t ?_))
  intro ft90 w90 t90 f90 e90
  have p90 : PL W w90 g gt ft90 u7 := p81.next t90 f90 e90
  rw [un7]
  refine ⟨_, rfl, bc_bool (fun _ => all_spec p90.t fun ap ac w93 o93 f93 n93 => ⟨_, _, _, rfl, ?_⟩) (fun h => by cases h)⟩
  have := hQ w93 (p90.F.tr f93)
  rw [un8]
  exact this
theorem stubKnown_row : CallR Try.prog 8 #[] W fun v w' => v = .bool true ∧ Fr [] W w' := by
  apply X8.sound
  unfold X8.f
  refine small_spec fun w2 f2 => ⟨_, _, _, _, _, _, _, _, _, _, _, _, _, _, _, _, _, _, _, _, _, _, rfl, newB fun g25 w26 b25 f26 h26 => stAllB (vs := (configOf rz).cells) b25 rfl fun w27 b27 f27 => newB fun gx w29 bx f29 h29 => stAllB (vs := idcs 2 5) bx rfl fun w30 b30 f30 => ?_⟩
  have z2 := f2.size
  have F27 : Fr [] W w27 := (f2.tr f26).loc f27 (by omega)
  have z27 := F27.size
  have F30 : Fr [] W w30 := (F27.tr f29).loc f30 (by omega)
  have l27 := b27.lt
  have b25 := (b27.keep' f29).off1 (by omega) f30
  refine new_spec (c := cz) (by decide) (fun _ w32 f32 => ⟨_, _, rfl, ?_⟩) (fun h => absurd h bad0)
  have b32 := b25.keep' f32
  refine ld_Cfg (s := configOf rz) b32.cat (new_spec (drift_half rz).1 (fun _ w58 f58 => ⟨_, _, rfl, ?_⟩) (fun h => absurd h bad1))
  have b58 := b32.keep' f58
  refine ld_Cfg (s := configOf rz) b58.cat (new_spec (drift_half rz).1 (fun _ w84 f84 => ⟨_, _, rfl, ?_⟩) (fun h => absurd h bad2))
  have b84 := b58.keep' f84
  refine ld_Cfg (s := configOf rz) b84.cat (newL k_ok (drift_half rz).1 fun g gt ft w110 p => ⟨_, _, rfl, known_spec fun w114 f114 => ⟨_, rfl, bc_bool (fun h => by cases h) (fun _ => bc_ne (fun h => absurd rfl h) (fun _ => bc_ne (fun h => absurd rfl h) (fun _ => bc_ne (fun h => absurd rfl h) (fun _ => bc_ne (fun h => absurd rfl h) (fun _ => bc_bool (fun h => by cases h) (fun _ => ?_))))))⟩⟩)
  have F84 : Fr [] W w84 := F30.tr (f32.tr (f58.tr f84))
  exact known_j0 b84 (b30.keep' (f32.tr (f58.tr f84))) (p.keep' f114) (fun w' f' => ⟨rfl, F84.tr f'⟩)
end
end Go.Proofs.YtglininpmfgggaaX
