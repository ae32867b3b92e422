-- PRINTED BY print.sh 35421559b90ae4d0a3588c463048766b98c2df88dd9212a6774a882060cdf62d: not written by this session
import Derived.Test.YtemdahcphdofmaaPLeaseGrowsx0
namespace Go.Proofs.Ytemdahcphdofmaa.PLeaseGrows
open Go.RowKit Go.Proofs.YtemdahcphdofmaaW.PrintWords Go.Proofs.YtemdahcphdofmaaW.PrintLast Go.Proofs.YtemdahcphdofmaaW.PrintMore
attribute [local go_sem] max2_int min2_int max_two min_two max_three min_three max_four min_four   -- for this text's walks alone
set_option linter.unusedVariables false
set_option linter.unusedSimpArgs false

/-! ### lease_Holder: function 11 -/
def lease_Holder.f (a0 : Int) (a1 : Int) (a2 : Int) : Option (Int × Int) := if a1 < 1 then (some (0, 1)) else (if a1 > 1048576 then (some (0, 1)) else (if a2 ≥ a1 then (some (0, 1)) else (if a0 > 4294967295 then (some (0, 1)) else (if (IntKind.u64.wrap (a1 + a2)) = 0 then (none) else (some (IntKind.u64.wrap (Int.tdiv (IntKind.u64.wrap (a0 * (IntKind.u64.wrap (a1 - a2)))) (IntKind.u64.wrap (a1 + a2))), 0))))))
set_option maxHeartbeats 8000000 in
set_option maxRecDepth 100000 in
theorem lease_Holder.calls (a0 : Int) (a1 : Int) (a2 : Int) (r1 : Int) (r2 : Int) (w : World) (h : lease_Holder.f a0 a1 a2 = some (r1, r2)) :
    Calls Try.prog 11 #[.int .u64 a0, .int .u64 a1, .int .u64 a2] w fun e w' => e = .returned (.tuple #[.int .u64 r1, .int .i64 r2]) ∧ Drawn0 w w' := by
  have H : (if a1 < 1 then (some (0, 1)) else (if a1 > 1048576 then (some (0, 1)) else (if a2 ≥ a1 then (some (0, 1)) else (if a0 > 4294967295 then (some (0, 1)) else (if (IntKind.u64.wrap (a1 + a2)) = 0 then (none) else (some (IntKind.u64.wrap (Int.tdiv (IntKind.u64.wrap (a0 * (IntKind.u64.wrap (a1 - a2)))) (IntKind.u64.wrap (a1 + a2))), 0))))))) = some (r1, r2) := h
  clear h
  by_cases c4 : a1 < 1
  · rw [if_pos c4] at H
    have c4b0 : decide (a1 < 1) = true := decide_eq_true c4
    clear c4
    simp only [Option.some.injEq, Prod.mk.injEq] at H
    obtain ⟨rfl, rfl⟩ := H
    go_enter Try.func11, Try.ntmps11
    go_wp2
    go_ret2
    exact ⟨by first | rfl | (simp; done) | (simp [*]; done), by repeat (first | exact Drawn0.refl _ | apply Drawn0.step)⟩
  · rw [if_neg c4] at H
    have c4b0 : decide (a1 < 1) = false := decide_eq_false c4
    clear c4
    by_cases c5 : a1 > 1048576
    · rw [if_pos c5] at H
      have c5b0 : decide (1048576 < a1) = true := decide_eq_true c5
      clear c5
      simp only [Option.some.injEq, Prod.mk.injEq] at H
      obtain ⟨rfl, rfl⟩ := H
      go_enter Try.func11, Try.ntmps11
      go_wp2
      go_ret2
      exact ⟨by first | rfl | (simp; done) | (simp [*]; done), by repeat (first | exact Drawn0.refl _ | apply Drawn0.step)⟩
    · rw [if_neg c5] at H
      have c5b0 : decide (1048576 < a1) = false := decide_eq_false c5
      clear c5
      by_cases c6 : a2 ≥ a1
      · rw [if_pos c6] at H
        have c6b0 : decide (a1 ≤ a2) = true := decide_eq_true c6
        clear c6
        simp only [Option.some.injEq, Prod.mk.injEq] at H
        obtain ⟨rfl, rfl⟩ := H
        go_enter Try.func11, Try.ntmps11
        go_wp2
        go_ret2
        exact ⟨by first | rfl | (simp; done) | (simp [*]; done), by repeat (first | exact Drawn0.refl _ | apply Drawn0.step)⟩
      · rw [if_neg c6] at H
        have c6b0 : decide (a1 ≤ a2) = false := decide_eq_false c6
        clear c6
        by_cases c7 : a0 > 4294967295
        · rw [if_pos c7] at H
          have c7b0 : decide (4294967295 < a0) = true := decide_eq_true c7
          clear c7
          simp only [Option.some.injEq, Prod.mk.injEq] at H
          obtain ⟨rfl, rfl⟩ := H
          go_enter Try.func11, Try.ntmps11
          go_wp2
          go_ret2
          exact ⟨by first | rfl | (simp; done) | (simp [*]; done), by repeat (first | exact Drawn0.refl _ | apply Drawn0.step)⟩
        · rw [if_neg c7] at H
          have c7b0 : decide (4294967295 < a0) = false := decide_eq_false c7
          clear c7
          by_cases c8 : (IntKind.u64.wrap (a1 + a2)) = 0
          · rw [if_pos c8] at H
            exact absurd H (by simp)
          · rw [if_neg c8] at H
            have c8b0 : ((IntKind.u64.wrap (a1 + a2)) == 0) = false := beq_eq_false_iff_ne.mpr c8
            have c8b1 : ((IntKind.u64.wrap (a1 + a2)) != 0) = true := bne_iff_ne.mpr c8
            simp only [Option.some.injEq, Prod.mk.injEq] at H
            obtain ⟨rfl, rfl⟩ := H
            go_enter Try.func11, Try.ntmps11
            go_wp2
            go_ret2
            exact ⟨by first | rfl | (simp; done) | (simp [*]; done), by repeat (first | exact Drawn0.refl _ | apply Drawn0.step)⟩

/-! ### lease_Live: function 13 -/
def lease_Live.f (a0 : Int) (a1 : Int) (a2 : Int) : Option (Bool) := if a2 ≥ a0 then (some (decide ((IntKind.u64.wrap (a2 - a0)) < a1))) else (some false)
set_option maxHeartbeats 8000000 in
set_option maxRecDepth 100000 in
theorem lease_Live.calls (a0 : Int) (a1 : Int) (a2 : Int) (r : Bool) (w : World) (h : lease_Live.f a0 a1 a2 = some r) :
    Calls Try.prog 13 #[.int .u64 a0, .int .u64 a1, .int .u64 a2] w fun e w' => e = .returned (.bool r) ∧ Drawn0 w w' := by
  have H : (if a2 ≥ a0 then (some (decide ((IntKind.u64.wrap (a2 - a0)) < a1))) else (some false)) = some r := h
  clear h
  by_cases c4 : a2 ≥ a0
  · rw [if_pos c4] at H
    have c4b0 : decide (a0 ≤ a2) = true := decide_eq_true c4
    clear c4
    obtain rfl := Option.some.inj H
    go_enter Try.func13, Try.ntmps13
    go_wp2
    go_ret
    exact ⟨by first | rfl | (simp; done) | (simp [*]; done), by repeat (first | exact Drawn0.refl _ | apply Drawn0.step)⟩
  · rw [if_neg c4] at H
    have c4b0 : decide (a0 ≤ a2) = false := decide_eq_false c4
    clear c4
    obtain rfl := Option.some.inj H
    go_enter Try.func13, Try.ntmps13
    go_wp2
    go_ret
    exact ⟨by first | rfl | (simp; done) | (simp [*]; done), by repeat (first | exact Drawn0.refl _ | apply Drawn0.step)⟩

/-! ### lease_Every: function 14 -/
def lease_Every.f (a0 : Int) : Option (Int) := some (mx (IntKind.u64.wrap (Int.tdiv a0 4)) 1)
set_option maxHeartbeats 8000000 in
set_option maxRecDepth 100000 in
theorem lease_Every.calls (a0 : Int) (r : Int) (w : World) (h : lease_Every.f a0 = some r) :
    Calls Try.prog 14 #[.int .u64 a0] w fun e w' => e = .returned (.int .u64 r) ∧ Below w.heap.size w w' := by
  have HB := Aside0.mk (Below.refl w.heap.size w)
  have H : (some (mx (IntKind.u64.wrap (Int.tdiv a0 4)) 1)) = some r := h
  clear h
  obtain ⟨ji2, hji2⟩ : ∃ j_ : Int, (mx (IntKind.u64.wrap (Int.tdiv a0 4)) 1) = j_ := ⟨_, rfl⟩
  replace H : (some ji2) = some r := by first | (rw [hji2] at H; exact H) | (simp only [hji2] at H ⊢; exact H)
  (try (have hji2l : 1 ≤ ji2 := by (rw [← hji2]; unfold mx; (repeat' split) <;> omega)))
  (try (have hji2m : 0 ≤ ji2 := by omega))
  have hji2_ : (if (IntKind.u64.wrap (Int.tdiv a0 4)) < 1 then 1 else (IntKind.u64.wrap (Int.tdiv a0 4))) = ji2 := hji2
  obtain rfl := Option.some.inj H
  go_enter Try.func14, Try.ntmps14
  go_wp2
  go_ret
  exact ⟨by first | rfl | (simp [errW_none, errW_some] <;> rfl) | (simp only [← hji2]; first | rfl | (simp [errW_none, errW_some] <;> rfl)) | (simp [*, errW_none, errW_some] <;> rfl), by repeat (first | (with_reducible first | exact HB.out | apply below_alloc | apply pw_below_drewN | apply below_drew1) | exact HB.out)⟩

/-! ### lease_Wait: function 15 -/
def lease_Wait.f (a0 : Int) (a1 : Int) (a2 : Int) : Option (Int) := if a0 = 0 then (some (mn a1 a2)) else (if a0 > (IntKind.u64.wrap (Int.tdiv a2 2)) then (some a2) else (some (IntKind.u64.wrap (2 * a0))))
set_option maxHeartbeats 8000000 in
set_option maxRecDepth 100000 in
theorem lease_Wait.calls (a0 : Int) (a1 : Int) (a2 : Int) (r : Int) (w : World) (h : lease_Wait.f a0 a1 a2 = some r) :
    Calls Try.prog 15 #[.int .u64 a0, .int .u64 a1, .int .u64 a2] w fun e w' => e = .returned (.int .u64 r) ∧ Below w.heap.size w w' := by
  have HB := Aside0.mk (Below.refl w.heap.size w)
  have H : (if a0 = 0 then (some (mn a1 a2)) else (if a0 > (IntKind.u64.wrap (Int.tdiv a2 2)) then (some a2) else (some (IntKind.u64.wrap (2 * a0))))) = some r := h
  clear h
  by_cases c4 : a0 = 0
  · rw [if_pos c4] at H
    have c4b0 : (a0 == 0) = true := beq_iff_eq.mpr c4
    have c4b1 : (a0 != 0) = false := bne_eq_false_iff_eq.mpr c4
    clear c4
    obtain ⟨ji5, hji5⟩ : ∃ j_ : Int, (mn a1 a2) = j_ := ⟨_, rfl⟩
    replace H : (some ji5) = some r := by first | (rw [hji5] at H; exact H) | (simp only [hji5] at H ⊢; exact H)
    have hji5_ : (if a2 < a1 then a2 else a1) = ji5 := hji5
    obtain rfl := Option.some.inj H
    go_enter Try.func15, Try.ntmps15
    go_wp2
    go_ret
    exact ⟨by first | rfl | (simp [errW_none, errW_some] <;> rfl) | (simp only [← hji5]; first | rfl | (simp [errW_none, errW_some] <;> rfl)) | (simp [*, errW_none, errW_some] <;> rfl), by repeat (first | (with_reducible first | exact HB.out | apply below_alloc | apply pw_below_drewN | apply below_drew1) | exact HB.out)⟩
  · rw [if_neg c4] at H
    have c4b0 : (a0 == 0) = false := beq_eq_false_iff_ne.mpr c4
    have c4b1 : (a0 != 0) = true := bne_iff_ne.mpr c4
    by_cases c6 : a0 > (IntKind.u64.wrap (Int.tdiv a2 2))
    · rw [if_pos c6] at H
      have c6b0 : decide ((IntKind.u64.wrap (Int.tdiv a2 2)) < a0) = true := decide_eq_true c6
      clear c6
      obtain rfl := Option.some.inj H
      go_enter Try.func15, Try.ntmps15
      go_wp2
      go_ret
      exact ⟨by first | rfl | (simp [errW_none, errW_some] <;> rfl) | (simp [*, errW_none, errW_some] <;> rfl), by repeat (first | (with_reducible first | exact HB.out | apply below_alloc | apply pw_below_drewN | apply below_drew1) | exact HB.out)⟩
    · rw [if_neg c6] at H
      have c6b0 : decide ((IntKind.u64.wrap (Int.tdiv a2 2)) < a0) = false := decide_eq_false c6
      clear c6
      obtain rfl := Option.some.inj H
      go_enter Try.func15, Try.ntmps15
      go_wp2
      go_ret
      exact ⟨by first | rfl | (simp [errW_none, errW_some] <;> rfl) | (simp [*, errW_none, errW_some] <;> rfl), by repeat (first | (with_reducible first | exact HB.out | apply below_alloc | apply pw_below_drewN | apply below_drew1) | exact HB.out)⟩

/-! ### mooringlaw17_known: function 12 -/
def mooringlaw17_known.f  : Option (Bool) := (lease_Holder.f 100 10 1).bind fun bt101 => (if bt101.1 = 81 then (if bt101.2 = 0 then ((lease_Live.f 5 3 7).bind fun t103 => (if t103 = true then ((lease_Live.f 5 3 8).bind fun t104 => (if t104 = true then (some false) else ((lease_Every.f 100).bind fun t105 => (if t105 = 25 then ((lease_Wait.f 4 4 20).bind fun t106 => (some (t106 == 8))) else (some false))))) else (some false))) else (some false)) else (some false))
set_option maxHeartbeats 8000000 in
set_option maxRecDepth 100000 in
theorem mooringlaw17_known.calls  (r : Bool) (w : World) (h : mooringlaw17_known.f  = some r) :
    Calls Try.prog 12 #[] w fun e w' => e = .returned (.bool r) ∧ Below w.heap.size w w' := by
  have HB := Aside0.mk (Below.refl w.heap.size w)
  have H : ((lease_Holder.f 100 10 1).bind fun bt101 => (if bt101.1 = 81 then (if bt101.2 = 0 then ((lease_Live.f 5 3 7).bind fun t103 => (if t103 = true then ((lease_Live.f 5 3 8).bind fun t104 => (if t104 = true then (some false) else ((lease_Every.f 100).bind fun t105 => (if t105 = 25 then ((lease_Wait.f 4 4 20).bind fun t106 => (some (t106 == 8))) else (some false))))) else (some false))) else (some false)) else (some false))) = some r := h
  clear h
  replace H := Option.bind_eq_some_iff.mp H
  obtain ⟨⟨t101, t102⟩, A10, H⟩ := H
  replace H : (if t101 = 81 then (if t102 = 0 then ((lease_Live.f 5 3 7).bind fun t103 => (if t103 = true then ((lease_Live.f 5 3 8).bind fun t104 => (if t104 = true then (some false) else ((lease_Every.f 100).bind fun t105 => (if t105 = 25 then ((lease_Wait.f 4 4 20).bind fun t106 => (some (t106 == 8))) else (some false))))) else (some false))) else (some false)) else (some false)) = some r := H
  have A1 := Aside0.mk A10
  clear A10
  by_cases c2 : t101 = 81
  · rw [if_pos c2] at H
    have c2b0 : (t101 == 81) = true := beq_iff_eq.mpr c2
    have c2b1 : (t101 != 81) = false := bne_eq_false_iff_eq.mpr c2
    clear c2
    by_cases c3 : t102 = 0
    · rw [if_pos c3] at H
      have c3b0 : (t102 == 0) = true := beq_iff_eq.mpr c3
      have c3b1 : (t102 != 0) = false := bne_eq_false_iff_eq.mpr c3
      clear c3
      replace H := Option.bind_eq_some_iff.mp H
      obtain ⟨t103, A40, H⟩ := H
      replace H : (if t103 = true then ((lease_Live.f 5 3 8).bind fun t104 => (if t104 = true then (some false) else ((lease_Every.f 100).bind fun t105 => (if t105 = 25 then ((lease_Wait.f 4 4 20).bind fun t106 => (some (t106 == 8))) else (some false))))) else (some false)) = some r := H
      have A4 := Aside0.mk A40
      clear A40
      by_cases c5 : t103 = true
      · subst c5
        have H1 : ((lease_Live.f 5 3 8).bind fun t104 => (if t104 = true then (some false) else ((lease_Every.f 100).bind fun t105 => (if t105 = 25 then ((lease_Wait.f 4 4 20).bind fun t106 => (some (t106 == 8))) else (some false))))) = some r := by rw [if_pos rfl] at H; exact H
        clear H
        have H := H1
        clear H1
        replace H := Option.bind_eq_some_iff.mp H
        obtain ⟨t104, A60, H⟩ := H
        replace H : (if t104 = true then (some false) else ((lease_Every.f 100).bind fun t105 => (if t105 = 25 then ((lease_Wait.f 4 4 20).bind fun t106 => (some (t106 == 8))) else (some false)))) = some r := H
        have A6 := Aside0.mk A60
        clear A60
        by_cases c7 : t104 = true
        · subst c7
          have H1 : (some false) = some r := by rw [if_pos rfl] at H; exact H
          clear H
          have H := H1
          clear H1
          obtain rfl := Option.some.inj H
          go_enter Try.func12, Try.ntmps12
          go_wp2_with (first | ((with_reducible refine gate_callee (f := 11) rfl ?_); refine goesL_ (some 4) rfl rfl Try.func11 (by kernel_rfl) rfl #[.int .u64 100, .int .u64 10, .int .u64 1] rfl (by (try simp only [List.map_toArray, List.map_cons, List.map_nil]); first | done | rfl | (simp only [List.length_drop, List.length_take]; rfl)) ?_; (with_reducible refine (lease_Holder.calls 100 10 1 t101 t102 _ A1.out).mono ?_); rintro e w' ⟨rfl, ⟨nd, rfl⟩⟩; refine ⟨_, rfl, ?_⟩) | (go_at_call 13; (with_reducible refine (lease_Live.calls 5 3 7 true _ A4.out).mono ?_); rintro e w' ⟨rfl, ⟨nd, rfl⟩⟩) | (go_at_call 13; (with_reducible refine (lease_Live.calls 5 3 8 true _ A6.out).mono ?_); rintro e w' ⟨rfl, ⟨nd, rfl⟩⟩))
          go_ret
          exact ⟨by first | rfl | (simp [errW_none, errW_some] <;> rfl) | (simp [*, errW_none, errW_some] <;> rfl), by repeat (first | (with_reducible first | exact HB.out | apply below_alloc | apply pw_below_drewN | apply below_drew1) | exact HB.out)⟩
        · replace c7 := Bool.eq_false_iff.mpr c7
          subst c7
          have H1 : ((lease_Every.f 100).bind fun t105 => (if t105 = 25 then ((lease_Wait.f 4 4 20).bind fun t106 => (some (t106 == 8))) else (some false))) = some r := by rw [if_neg (show ¬ (false = true) by decide)] at H; exact H
          clear H
          have H := H1
          clear H1
          replace H := Option.bind_eq_some_iff.mp H
          obtain ⟨t105, A80, H⟩ := H
          replace H : (if t105 = 25 then ((lease_Wait.f 4 4 20).bind fun t106 => (some (t106 == 8))) else (some false)) = some r := H
          have A8 := Aside0.mk A80
          clear A80
          by_cases c9 : t105 = 25
          · rw [if_pos c9] at H
            have c9b0 : (t105 == 25) = true := beq_iff_eq.mpr c9
            have c9b1 : (t105 != 25) = false := bne_eq_false_iff_eq.mpr c9
            clear c9
            replace H := Option.bind_eq_some_iff.mp H
            obtain ⟨t106, A100, H⟩ := H
            replace H : (some (t106 == 8)) = some r := H
            have A10 := Aside0.mk A100
            clear A100
            obtain rfl := Option.some.inj H
            go_enter Try.func12, Try.ntmps12
            go_wp2_with (first | ((with_reducible refine gate_callee (f := 11) rfl ?_); refine goesL_ (some 4) rfl rfl Try.func11 (by kernel_rfl) rfl #[.int .u64 100, .int .u64 10, .int .u64 1] rfl (by (try simp only [List.map_toArray, List.map_cons, List.map_nil]); first | done | rfl | (simp only [List.length_drop, List.length_take]; rfl)) ?_; (with_reducible refine (lease_Holder.calls 100 10 1 t101 t102 _ A1.out).mono ?_); rintro e w' ⟨rfl, ⟨nd, rfl⟩⟩; refine ⟨_, rfl, ?_⟩) | (go_at_call 13; (with_reducible refine (lease_Live.calls 5 3 7 true _ A4.out).mono ?_); rintro e w' ⟨rfl, ⟨nd, rfl⟩⟩) | (go_at_call 13; (with_reducible refine (lease_Live.calls 5 3 8 false _ A6.out).mono ?_); rintro e w' ⟨rfl, ⟨nd, rfl⟩⟩) | (go_at_call 14; (with_reducible refine (lease_Every.calls 100 t105 _ A8.out).mono ?_); rintro e w11 ⟨rfl, hb⟩; have n0_ := Aside0.mk (below_step (by repeat (first | (with_reducible first | exact HB.out | apply below_alloc | apply pw_below_drewN | apply below_drew1) | exact HB.out)) hb); clear HB; have HB := n0_; clear n0_; (try clear hb); (try clear hb2); (try clear hk); (try clear hi)) | (go_at_call 15; (with_reducible refine (lease_Wait.calls 4 4 20 t106 _ A10.out).mono ?_); rintro e w12 ⟨rfl, hb⟩; have n0_ := Aside0.mk (below_step (by repeat (first | (with_reducible first | exact HB.out | apply below_alloc | apply pw_below_drewN | apply below_drew1) | exact HB.out)) hb); clear HB; have HB := n0_; clear n0_; (try clear hb); (try clear hb2); (try clear hk); (try clear hi)))
            go_ret
            exact ⟨by first | rfl | (simp [errW_none, errW_some] <;> rfl) | (simp [*, errW_none, errW_some] <;> rfl), by repeat (first | (with_reducible first | exact HB.out | apply below_alloc | apply pw_below_drewN | apply below_drew1) | exact HB.out)⟩
          · rw [if_neg c9] at H
            have c9b0 : (t105 == 25) = false := beq_eq_false_iff_ne.mpr c9
            have c9b1 : (t105 != 25) = true := bne_iff_ne.mpr c9
            obtain rfl := Option.some.inj H
            go_enter Try.func12, Try.ntmps12
            go_wp2_with (first | ((with_reducible refine gate_callee (f := 11) rfl ?_); refine goesL_ (some 4) rfl rfl Try.func11 (by kernel_rfl) rfl #[.int .u64 100, .int .u64 10, .int .u64 1] rfl (by (try simp only [List.map_toArray, List.map_cons, List.map_nil]); first | done | rfl | (simp only [List.length_drop, List.length_take]; rfl)) ?_; (with_reducible refine (lease_Holder.calls 100 10 1 t101 t102 _ A1.out).mono ?_); rintro e w' ⟨rfl, ⟨nd, rfl⟩⟩; refine ⟨_, rfl, ?_⟩) | (go_at_call 13; (with_reducible refine (lease_Live.calls 5 3 7 true _ A4.out).mono ?_); rintro e w' ⟨rfl, ⟨nd, rfl⟩⟩) | (go_at_call 13; (with_reducible refine (lease_Live.calls 5 3 8 false _ A6.out).mono ?_); rintro e w' ⟨rfl, ⟨nd, rfl⟩⟩) | (go_at_call 14; (with_reducible refine (lease_Every.calls 100 t105 _ A8.out).mono ?_); rintro e w13 ⟨rfl, hb⟩; have n0_ := Aside0.mk (below_step (by repeat (first | (with_reducible first | exact HB.out | apply below_alloc | apply pw_below_drewN | apply below_drew1) | exact HB.out)) hb); clear HB; have HB := n0_; clear n0_; (try clear hb); (try clear hb2); (try clear hk); (try clear hi)))
            go_ret
            exact ⟨by first | rfl | (simp [errW_none, errW_some] <;> rfl) | (simp [*, errW_none, errW_some] <;> rfl), by repeat (first | (with_reducible first | exact HB.out | apply below_alloc | apply pw_below_drewN | apply below_drew1) | exact HB.out)⟩
      · replace c5 := Bool.eq_false_iff.mpr c5
        subst c5
        have H1 : (some false) = some r := by rw [if_neg (show ¬ (false = true) by decide)] at H; exact H
        clear H
        have H := H1
        clear H1
        obtain rfl := Option.some.inj H
        go_enter Try.func12, Try.ntmps12
        go_wp2_with (first | ((with_reducible refine gate_callee (f := 11) rfl ?_); refine goesL_ (some 4) rfl rfl Try.func11 (by kernel_rfl) rfl #[.int .u64 100, .int .u64 10, .int .u64 1] rfl (by (try simp only [List.map_toArray, List.map_cons, List.map_nil]); first | done | rfl | (simp only [List.length_drop, List.length_take]; rfl)) ?_; (with_reducible refine (lease_Holder.calls 100 10 1 t101 t102 _ A1.out).mono ?_); rintro e w' ⟨rfl, ⟨nd, rfl⟩⟩; refine ⟨_, rfl, ?_⟩) | (go_at_call 13; (with_reducible refine (lease_Live.calls 5 3 7 false _ A4.out).mono ?_); rintro e w' ⟨rfl, ⟨nd, rfl⟩⟩))
        go_ret
        exact ⟨by first | rfl | (simp [errW_none, errW_some] <;> rfl) | (simp [*, errW_none, errW_some] <;> rfl), by repeat (first | (with_reducible first | exact HB.out | apply below_alloc | apply pw_below_drewN | apply below_drew1) | exact HB.out)⟩
    · rw [if_neg c3] at H
      have c3b0 : (t102 == 0) = false := beq_eq_false_iff_ne.mpr c3
      have c3b1 : (t102 != 0) = true := bne_iff_ne.mpr c3
      obtain rfl := Option.some.inj H
      go_enter Try.func12, Try.ntmps12
      go_wp2_with (first | ((with_reducible refine gate_callee (f := 11) rfl ?_); refine goesL_ (some 4) rfl rfl Try.func11 (by kernel_rfl) rfl #[.int .u64 100, .int .u64 10, .int .u64 1] rfl (by (try simp only [List.map_toArray, List.map_cons, List.map_nil]); first | done | rfl | (simp only [List.length_drop, List.length_take]; rfl)) ?_; (with_reducible refine (lease_Holder.calls 100 10 1 t101 t102 _ A1.out).mono ?_); rintro e w' ⟨rfl, ⟨nd, rfl⟩⟩; refine ⟨_, rfl, ?_⟩))
      go_ret
      exact ⟨by first | rfl | (simp [errW_none, errW_some] <;> rfl) | (simp [*, errW_none, errW_some] <;> rfl), by repeat (first | (with_reducible first | exact HB.out | apply below_alloc | apply pw_below_drewN | apply below_drew1) | exact HB.out)⟩
  · rw [if_neg c2] at H
    have c2b0 : (t101 == 81) = false := beq_eq_false_iff_ne.mpr c2
    have c2b1 : (t101 != 81) = true := bne_iff_ne.mpr c2
    obtain rfl := Option.some.inj H
    go_enter Try.func12, Try.ntmps12
    go_wp2_with (first | ((with_reducible refine gate_callee (f := 11) rfl ?_); refine goesL_ (some 4) rfl rfl Try.func11 (by kernel_rfl) rfl #[.int .u64 100, .int .u64 10, .int .u64 1] rfl (by (try simp only [List.map_toArray, List.map_cons, List.map_nil]); first | done | rfl | (simp only [List.length_drop, List.length_take]; rfl)) ?_; (with_reducible refine (lease_Holder.calls 100 10 1 t101 t102 _ A1.out).mono ?_); rintro e w' ⟨rfl, ⟨nd, rfl⟩⟩; refine ⟨_, rfl, ?_⟩))
    go_ret
    exact ⟨by first | rfl | (simp [errW_none, errW_some] <;> rfl) | (simp [*, errW_none, errW_some] <;> rfl), by repeat (first | (with_reducible first | exact HB.out | apply below_alloc | apply pw_below_drewN | apply below_drew1) | exact HB.out)⟩

/-! ### mooringlaw17_LeaseGrows: function 8 -/
mutual
def mooringlaw17_LeaseGrows.j0 : Nat → Int → Int → Int → Bool → Option (Bool)
  | 0, _, _, _, _ => none
  | k + 1, x5, x6, x7, x26 => if x26 = true then (some false) else (mooringlaw17_LeaseGrows.l0 k x5 x6 x7 0)
def mooringlaw17_LeaseGrows.l0 : Nat → Int → Int → Int → Int → Option (Bool)
  | 0, _, _, _, _ => none
  | k + 1, x5, x6, x7, x8 => if x8 < 70 then ((lease_Wait.f x7 x5 x6).bind fun t109 => (if t109 > x6 then (some false) else (if t109 < x7 then (some false) else (if t109 = x6 then (mooringlaw17_LeaseGrows.l0 k x5 x6 t109 (wrap64 (x8 + 1))) else (if t109 = (IntKind.u64.wrap (2 * x7)) then (mooringlaw17_LeaseGrows.l0 k x5 x6 t109 (wrap64 (x8 + 1))) else (some false)))))) else (some (x7 == x6))
end
def mooringlaw17_LeaseGrows.f (k : Nat) (a0 : Int) (a1 : Int) : Option (Bool) := (lease_Wait.f 0 (IntKind.u64.wrap ((IntKind.u64.wrap (a0)) + 1)) (IntKind.u64.wrap ((IntKind.u64.wrap ((IntKind.u64.wrap (a0)) + 1)) + (IntKind.u64.wrap (a1))))).bind fun t107 => ((mooringlaw17_known.f).bind fun t108 => (if t108 = true then (mooringlaw17_LeaseGrows.j0 k (IntKind.u64.wrap ((IntKind.u64.wrap (a0)) + 1)) (IntKind.u64.wrap ((IntKind.u64.wrap ((IntKind.u64.wrap (a0)) + 1)) + (IntKind.u64.wrap (a1)))) t107 (t107 != (IntKind.u64.wrap ((IntKind.u64.wrap (a0)) + 1)))) else (mooringlaw17_LeaseGrows.j0 k (IntKind.u64.wrap ((IntKind.u64.wrap (a0)) + 1)) (IntKind.u64.wrap ((IntKind.u64.wrap ((IntKind.u64.wrap (a0)) + 1)) + (IntKind.u64.wrap (a1)))) t107 true)))
theorem mooringlaw17_LeaseGrows.mono_l : ∀ k, (∀ y0 y1 y2 y3, LeO (mooringlaw17_LeaseGrows.j0 k y0 y1 y2 y3) (mooringlaw17_LeaseGrows.j0 (k + 1) y0 y1 y2 y3)) ∧ (∀ y0 y1 y2 y3, LeO (mooringlaw17_LeaseGrows.l0 k y0 y1 y2 y3) (mooringlaw17_LeaseGrows.l0 (k + 1) y0 y1 y2 y3))
  | 0 => ⟨fun _ _ _ _ r h => by simp [mooringlaw17_LeaseGrows.j0] at h, fun _ _ _ _ r h => by simp [mooringlaw17_LeaseGrows.l0] at h⟩
  | k + 1 => by
    obtain ⟨ih0, ih1⟩ := mooringlaw17_LeaseGrows.mono_l k
    refine ⟨?_, ?_⟩
    · intro y0 y1 y2 y3
      unfold mooringlaw17_LeaseGrows.j0
      repeat' first
      | (with_reducible exact ih0 _ _ _ _)
      | (with_reducible exact ih1 _ _ _ _)
      | (with_reducible exact LeO.refl _)
      | (with_reducible exact LeO.none _)
      | (with_reducible refine LeO.ite ?_ ?_)
      | (with_reducible refine LeO.bind ?_ (fun _ => ?_))
      | exact ih0 _ _ _ _
      | exact ih1 _ _ _ _
      | exact LeO.none _
      | refine LeO.ite ?_ ?_
      | refine LeO.bind ?_ (fun _ => ?_)
    · intro y0 y1 y2 y3
      unfold mooringlaw17_LeaseGrows.l0
      repeat' first
      | (with_reducible exact ih0 _ _ _ _)
      | (with_reducible exact ih1 _ _ _ _)
      | (with_reducible exact LeO.refl _)
      | (with_reducible exact LeO.none _)
      | (with_reducible refine LeO.ite ?_ ?_)
      | (with_reducible refine LeO.bind ?_ (fun _ => ?_))
      | exact ih0 _ _ _ _
      | exact ih1 _ _ _ _
      | exact LeO.none _
      | refine LeO.ite ?_ ?_
      | refine LeO.bind ?_ (fun _ => ?_)
theorem mooringlaw17_LeaseGrows.mono : ∀ a0 a1 k, LeO (mooringlaw17_LeaseGrows.f k a0 a1) (mooringlaw17_LeaseGrows.f (k + 1) a0 a1) := by
  intro a0 a1 k
  obtain ⟨ih0, ih1⟩ := mooringlaw17_LeaseGrows.mono_l k
  unfold mooringlaw17_LeaseGrows.f
  repeat' first
      | (with_reducible exact ih0 _ _ _ _)
      | (with_reducible exact ih1 _ _ _ _)
      | (with_reducible exact LeO.refl _)
      | (with_reducible exact LeO.none _)
      | (with_reducible refine LeO.ite ?_ ?_)
      | (with_reducible refine LeO.bind ?_ (fun _ => ?_))
      | exact ih0 _ _ _ _
      | exact ih1 _ _ _ _
      | exact LeO.none _
      | refine LeO.ite ?_ ?_
      | refine LeO.bind ?_ (fun _ => ?_)
set_option maxHeartbeats 8000000 in
set_option maxRecDepth 100000 in
theorem mooringlaw17_LeaseGrows.calls (k : Nat) (a0 : Int) (a1 : Int) (r : Bool) (w : World) (h : mooringlaw17_LeaseGrows.f k a0 a1 = some r) :
    Calls Try.prog 8 #[.int .u32 a0, .int .u32 a1] w fun e w' => e = .returned (.bool r) ∧ Below w.heap.size w w' := by
  have HB := Aside0.mk (Below.refl w.heap.size w)
  have H : ((lease_Wait.f 0 (IntKind.u64.wrap ((IntKind.u64.wrap (a0)) + 1)) (IntKind.u64.wrap ((IntKind.u64.wrap ((IntKind.u64.wrap (a0)) + 1)) + (IntKind.u64.wrap (a1))))).bind fun t107 => ((mooringlaw17_known.f).bind fun t108 => (if t108 = true then (mooringlaw17_LeaseGrows.j0 k (IntKind.u64.wrap ((IntKind.u64.wrap (a0)) + 1)) (IntKind.u64.wrap ((IntKind.u64.wrap ((IntKind.u64.wrap (a0)) + 1)) + (IntKind.u64.wrap (a1)))) t107 (t107 != (IntKind.u64.wrap ((IntKind.u64.wrap (a0)) + 1)))) else (mooringlaw17_LeaseGrows.j0 k (IntKind.u64.wrap ((IntKind.u64.wrap (a0)) + 1)) (IntKind.u64.wrap ((IntKind.u64.wrap ((IntKind.u64.wrap (a0)) + 1)) + (IntKind.u64.wrap (a1)))) t107 true)))) = some r := h
  clear h
  replace H := Option.bind_eq_some_iff.mp H
  obtain ⟨t107, A30, H⟩ := H
  replace H : ((mooringlaw17_known.f).bind fun t108 => (if t108 = true then (mooringlaw17_LeaseGrows.j0 k (IntKind.u64.wrap ((IntKind.u64.wrap (a0)) + 1)) (IntKind.u64.wrap ((IntKind.u64.wrap ((IntKind.u64.wrap (a0)) + 1)) + (IntKind.u64.wrap (a1)))) t107 (t107 != (IntKind.u64.wrap ((IntKind.u64.wrap (a0)) + 1)))) else (mooringlaw17_LeaseGrows.j0 k (IntKind.u64.wrap ((IntKind.u64.wrap (a0)) + 1)) (IntKind.u64.wrap ((IntKind.u64.wrap ((IntKind.u64.wrap (a0)) + 1)) + (IntKind.u64.wrap (a1)))) t107 true))) = some r := H
  have A3 := Aside0.mk A30
  clear A30
  have HC4 := Aside0.mk H
  clear H
  go_enter Try.func8, Try.ntmps8
  go_upto_region 4 with (first | ((with_reducible refine gate_callee (f := 15) rfl ?_); refine goesL_ (some 19) rfl rfl Try.func15 (by kernel_rfl) rfl #[.int .u64 0, .int .u64 (IntKind.u64.wrap ((IntKind.u64.wrap (a0)) + 1)), .int .u64 (IntKind.u64.wrap ((IntKind.u64.wrap ((IntKind.u64.wrap (a0)) + 1)) + (IntKind.u64.wrap (a1))))] rfl (by (try simp only [List.map_toArray, List.map_cons, List.map_nil]); first | done | rfl | (simp only [List.length_drop, List.length_take]; rfl)) ?_; (with_reducible refine (lease_Wait.calls 0 (IntKind.u64.wrap ((IntKind.u64.wrap (a0)) + 1)) (IntKind.u64.wrap ((IntKind.u64.wrap ((IntKind.u64.wrap (a0)) + 1)) + (IntKind.u64.wrap (a1)))) t107 _ A3.out).mono ?_); rintro e w5 ⟨rfl, hb⟩; refine ⟨_, rfl, ?_⟩; have n0_ := Aside0.mk (below_step (by repeat (first | (with_reducible first | exact HB.out | apply below_alloc | apply pw_below_drewN | apply below_drew1) | exact HB.out)) hb); clear HB; have HB := n0_; clear n0_; (try clear hb); (try clear hb2); (try clear hk); (try clear hi)))
  (try simp only [Act.put, List.setIfInBounds_toArray, List.set_cons_zero, List.set_cons_succ])
  go_cut [26] (fun v26 wc => ∃ (kq : Nat) (x26_3 : Bool), v26 = .bool x26_3 ∧ Aside0 (mooringlaw17_LeaseGrows.j0 kq (IntKind.u64.wrap ((IntKind.u64.wrap (a0)) + 1)) (IntKind.u64.wrap ((IntKind.u64.wrap ((IntKind.u64.wrap (a0)) + 1)) + (IntKind.u64.wrap (a1)))) t107 x26_3 = some r) ∧ Aside0 (kq ≤ k) ∧ Aside0 (Below w.heap.size w wc))
  case first =>
    have H := HC4.out
    clear HC4
    replace H := Option.bind_eq_some_iff.mp H
    obtain ⟨t108, A60, H⟩ := H
    replace H : (if t108 = true then (mooringlaw17_LeaseGrows.j0 k (IntKind.u64.wrap ((IntKind.u64.wrap (a0)) + 1)) (IntKind.u64.wrap ((IntKind.u64.wrap ((IntKind.u64.wrap (a0)) + 1)) + (IntKind.u64.wrap (a1)))) t107 (t107 != (IntKind.u64.wrap ((IntKind.u64.wrap (a0)) + 1)))) else (mooringlaw17_LeaseGrows.j0 k (IntKind.u64.wrap ((IntKind.u64.wrap (a0)) + 1)) (IntKind.u64.wrap ((IntKind.u64.wrap ((IntKind.u64.wrap (a0)) + 1)) + (IntKind.u64.wrap (a1)))) t107 true)) = some r := H
    have A6 := Aside0.mk A60
    clear A60
    by_cases c7 : t108 = true
    · subst c7
      have H1 : (mooringlaw17_LeaseGrows.j0 k (IntKind.u64.wrap ((IntKind.u64.wrap (a0)) + 1)) (IntKind.u64.wrap ((IntKind.u64.wrap ((IntKind.u64.wrap (a0)) + 1)) + (IntKind.u64.wrap (a1)))) t107 (t107 != (IntKind.u64.wrap ((IntKind.u64.wrap (a0)) + 1)))) = some r := by rw [if_pos rfl] at H; exact H
      clear H
      have H := H1
      clear H1
      have H' := Aside0.mk H
      clear H
      go_wp2_with (first | ((with_reducible refine gate_callee (f := 12) rfl ?_); refine goesL_ (some 20) rfl rfl Try.func12 (by kernel_rfl) rfl #[] rfl (by (try simp only [List.map_toArray, List.map_cons, List.map_nil]); first | done | rfl | (simp only [List.length_drop, List.length_take]; rfl)) ?_; (with_reducible refine (mooringlaw17_known.calls  true _ A6.out).mono ?_); rintro e w8 ⟨rfl, hb⟩; refine ⟨_, rfl, ?_⟩; have n0_ := Aside0.mk (below_step (by repeat (first | (with_reducible first | exact HB.out | apply below_alloc | apply pw_below_drewN | apply below_drew1) | exact HB.out)) hb); clear HB; have HB := n0_; clear n0_; (try clear hb); (try clear hb2); (try clear hk); (try clear hi)))
      go_meet
      case rel => exact ⟨_, ((t107 != (IntKind.u64.wrap ((IntKind.u64.wrap (a0)) + 1)))), (by first | rfl | (simp; done) | (simp [*]; done)), H', ⟨by first | omega | exact Nat.le_refl _⟩, ⟨by repeat (first | (with_reducible first | exact HB.out | apply below_alloc | apply pw_below_drewN | apply below_drew1) | exact HB.out)⟩⟩
    · replace c7 := Bool.eq_false_iff.mpr c7
      subst c7
      have H1 : (mooringlaw17_LeaseGrows.j0 k (IntKind.u64.wrap ((IntKind.u64.wrap (a0)) + 1)) (IntKind.u64.wrap ((IntKind.u64.wrap ((IntKind.u64.wrap (a0)) + 1)) + (IntKind.u64.wrap (a1)))) t107 true) = some r := by rw [if_neg (show ¬ (false = true) by decide)] at H; exact H
      clear H
      have H := H1
      clear H1
      have H' := Aside0.mk H
      clear H
      go_wp2_with (first | ((with_reducible refine gate_callee (f := 12) rfl ?_); refine goesL_ (some 20) rfl rfl Try.func12 (by kernel_rfl) rfl #[] rfl (by (try simp only [List.map_toArray, List.map_cons, List.map_nil]); first | done | rfl | (simp only [List.length_drop, List.length_take]; rfl)) ?_; (with_reducible refine (mooringlaw17_known.calls  false _ A6.out).mono ?_); rintro e w9 ⟨rfl, hb⟩; refine ⟨_, rfl, ?_⟩; have n0_ := Aside0.mk (below_step (by repeat (first | (with_reducible first | exact HB.out | apply below_alloc | apply pw_below_drewN | apply below_drew1) | exact HB.out)) hb); clear HB; have HB := n0_; clear n0_; (try clear hb); (try clear hb2); (try clear hk); (try clear hi)))
      go_meet
      case rel => exact ⟨_, (true), (by first | rfl | (simp; done) | (simp [*]; done)), H', ⟨by first | omega | exact Nat.le_refl _⟩, ⟨by repeat (first | (with_reducible first | exact HB.out | apply below_alloc | apply pw_below_drewN | apply below_drew1) | exact HB.out)⟩⟩
  case rest =>
    clear HC4
    try clear c1
    try clear p2
    try clear c7
    try clear c8
    obtain ⟨kq, x26_3, rfl, HA, HJ3, HB⟩ := hcut
    cases kq with
    | zero => exact absurd HA.out (by simp [mooringlaw17_LeaseGrows.j0])
    | succ kj3 =>
      have H := HA.out
      clear HA
      simp only [mooringlaw17_LeaseGrows.j0] at H
      by_cases c10 : x26_3 = true
      · subst c10
        have H1 : (some false) = some r := by rw [if_pos rfl] at H; exact H
        clear H
        have H := H1
        clear H1
        obtain rfl := Option.some.inj H
        go_wp2
        go_ret
        exact ⟨by first | rfl | (simp [errW_none, errW_some] <;> rfl) | (simp [*, errW_none, errW_some] <;> rfl), by repeat (first | (with_reducible first | exact HB.out | apply below_alloc | apply pw_below_drewN | apply below_drew1) | exact HB.out)⟩
      · replace c10 := Bool.eq_false_iff.mpr c10
        subst c10
        have H1 : (mooringlaw17_LeaseGrows.l0 kj3 (IntKind.u64.wrap ((IntKind.u64.wrap (a0)) + 1)) (IntKind.u64.wrap ((IntKind.u64.wrap ((IntKind.u64.wrap (a0)) + 1)) + (IntKind.u64.wrap (a1)))) t107 0) = some r := by rw [if_neg (show ¬ (false = true) by decide)] at H; exact H
        clear H
        have H := H1
        clear H1
        have H' := Aside0.mk H
        clear H
        go_wp2
        go_loopg [7, 8] kj3 (fun kq v7 v8 w' => ∃ (x7_2 : Int) (x8_2 : Int), v7 = .int .u64 x7_2 ∧ v8 = .int .i64 x8_2 ∧ Aside0 (mooringlaw17_LeaseGrows.l0 kq (IntKind.u64.wrap ((IntKind.u64.wrap (a0)) + 1)) (IntKind.u64.wrap ((IntKind.u64.wrap ((IntKind.u64.wrap (a0)) + 1)) + (IntKind.u64.wrap (a1)))) x7_2 x8_2 = some r) ∧ Aside0 (kq ≤ kj3) ∧ Aside0 (Below w.heap.size w w'))
        case atStart => exact ⟨(t107), (0), (by first | rfl | (simp; done) | (simp [*]; done)), (by first | rfl | (simp; done) | (simp [*]; done)), H', ⟨Nat.le_refl _⟩, ⟨by repeat (first | (with_reducible first | exact HB.out | apply below_alloc | apply pw_below_drewN | apply below_drew1) | exact HB.out)⟩⟩
        case round =>
          clear H'
          try clear c1
          try clear p2
          try clear c7
          try clear c8
          try clear c10
          try clear p2
          obtain ⟨x7_2, x8_2, rfl, rfl, HA, HK2, HB⟩ := hrel
          cases gk with
          | zero => exact absurd HA.out (by simp [mooringlaw17_LeaseGrows.l0])
          | succ k2 =>
            have H := HA.out
            clear HA
            simp only [mooringlaw17_LeaseGrows.l0] at H
            by_cases c11 : x8_2 < 70
            · rw [if_pos c11] at H
              have c11b0 : decide (x8_2 < 70) = true := decide_eq_true c11
              clear c11
              replace H := Option.bind_eq_some_iff.mp H
              obtain ⟨t109, A120, H⟩ := H
              replace H : (if t109 > (IntKind.u64.wrap ((IntKind.u64.wrap ((IntKind.u64.wrap (a0)) + 1)) + (IntKind.u64.wrap (a1)))) then (some false) else (if t109 < x7_2 then (some false) else (if t109 = (IntKind.u64.wrap ((IntKind.u64.wrap ((IntKind.u64.wrap (a0)) + 1)) + (IntKind.u64.wrap (a1)))) then (mooringlaw17_LeaseGrows.l0 k2 (IntKind.u64.wrap ((IntKind.u64.wrap (a0)) + 1)) (IntKind.u64.wrap ((IntKind.u64.wrap ((IntKind.u64.wrap (a0)) + 1)) + (IntKind.u64.wrap (a1)))) t109 (wrap64 (x8_2 + 1))) else (if t109 = (IntKind.u64.wrap (2 * x7_2)) then (mooringlaw17_LeaseGrows.l0 k2 (IntKind.u64.wrap ((IntKind.u64.wrap (a0)) + 1)) (IntKind.u64.wrap ((IntKind.u64.wrap ((IntKind.u64.wrap (a0)) + 1)) + (IntKind.u64.wrap (a1)))) t109 (wrap64 (x8_2 + 1))) else (some false))))) = some r := H
              have A12 := Aside0.mk A120
              clear A120
              by_cases c13 : t109 > (IntKind.u64.wrap ((IntKind.u64.wrap ((IntKind.u64.wrap (a0)) + 1)) + (IntKind.u64.wrap (a1))))
              · rw [if_pos c13] at H
                have c13b0 : decide ((IntKind.u64.wrap ((IntKind.u64.wrap ((IntKind.u64.wrap (a0)) + 1)) + (IntKind.u64.wrap (a1)))) < t109) = true := decide_eq_true c13
                clear c13
                obtain rfl := Option.some.inj H
                go_wp2_with (first | ((with_reducible refine gate_callee (f := 15) rfl ?_); refine goesL_ (some 34) rfl rfl Try.func15 (by kernel_rfl) rfl #[.int .u64 x7_2, .int .u64 (IntKind.u64.wrap ((IntKind.u64.wrap (a0)) + 1)), .int .u64 (IntKind.u64.wrap ((IntKind.u64.wrap ((IntKind.u64.wrap (a0)) + 1)) + (IntKind.u64.wrap (a1))))] rfl (by (try simp only [List.map_toArray, List.map_cons, List.map_nil]); first | done | rfl | (simp only [List.length_drop, List.length_take]; rfl)) ?_; (with_reducible refine (lease_Wait.calls x7_2 (IntKind.u64.wrap ((IntKind.u64.wrap (a0)) + 1)) (IntKind.u64.wrap ((IntKind.u64.wrap ((IntKind.u64.wrap (a0)) + 1)) + (IntKind.u64.wrap (a1)))) t109 _ A12.out).mono ?_); rintro e w14 ⟨rfl, hb⟩; refine ⟨_, rfl, ?_⟩; have n0_ := Aside0.mk (below_step (by repeat (first | (with_reducible first | exact HB.out | apply below_alloc | apply pw_below_drewN | apply below_drew1) | exact HB.out)) hb); clear HB; have HB := n0_; clear n0_; (try clear hb); (try clear hb2); (try clear hk); (try clear hi)))
                go_ret
                exact ⟨by first | rfl | (simp [errW_none, errW_some] <;> rfl) | (simp [*, errW_none, errW_some] <;> rfl), by repeat (first | (with_reducible first | exact HB.out | apply below_alloc | apply pw_below_drewN | apply below_drew1) | exact HB.out)⟩
              · rw [if_neg c13] at H
                have c13b0 : decide ((IntKind.u64.wrap ((IntKind.u64.wrap ((IntKind.u64.wrap (a0)) + 1)) + (IntKind.u64.wrap (a1)))) < t109) = false := decide_eq_false c13
                clear c13
                by_cases c15 : t109 < x7_2
                · rw [if_pos c15] at H
                  have c15b0 : decide (t109 < x7_2) = true := decide_eq_true c15
                  clear c15
                  obtain rfl := Option.some.inj H
                  go_wp2_with (first | ((with_reducible refine gate_callee (f := 15) rfl ?_); refine goesL_ (some 34) rfl rfl Try.func15 (by kernel_rfl) rfl #[.int .u64 x7_2, .int .u64 (IntKind.u64.wrap ((IntKind.u64.wrap (a0)) + 1)), .int .u64 (IntKind.u64.wrap ((IntKind.u64.wrap ((IntKind.u64.wrap (a0)) + 1)) + (IntKind.u64.wrap (a1))))] rfl (by (try simp only [List.map_toArray, List.map_cons, List.map_nil]); first | done | rfl | (simp only [List.length_drop, List.length_take]; rfl)) ?_; (with_reducible refine (lease_Wait.calls x7_2 (IntKind.u64.wrap ((IntKind.u64.wrap (a0)) + 1)) (IntKind.u64.wrap ((IntKind.u64.wrap ((IntKind.u64.wrap (a0)) + 1)) + (IntKind.u64.wrap (a1)))) t109 _ A12.out).mono ?_); rintro e w16 ⟨rfl, hb⟩; refine ⟨_, rfl, ?_⟩; have n0_ := Aside0.mk (below_step (by repeat (first | (with_reducible first | exact HB.out | apply below_alloc | apply pw_below_drewN | apply below_drew1) | exact HB.out)) hb); clear HB; have HB := n0_; clear n0_; (try clear hb); (try clear hb2); (try clear hk); (try clear hi)))
                  go_ret
                  exact ⟨by first | rfl | (simp [errW_none, errW_some] <;> rfl) | (simp [*, errW_none, errW_some] <;> rfl), by repeat (first | (with_reducible first | exact HB.out | apply below_alloc | apply pw_below_drewN | apply below_drew1) | exact HB.out)⟩
                · rw [if_neg c15] at H
                  have c15b0 : decide (t109 < x7_2) = false := decide_eq_false c15
                  clear c15
                  by_cases c17 : t109 = (IntKind.u64.wrap ((IntKind.u64.wrap ((IntKind.u64.wrap (a0)) + 1)) + (IntKind.u64.wrap (a1))))
                  · rw [if_pos c17] at H
                    have c17b0 : (t109 == (IntKind.u64.wrap ((IntKind.u64.wrap ((IntKind.u64.wrap (a0)) + 1)) + (IntKind.u64.wrap (a1))))) = true := beq_iff_eq.mpr c17
                    have c17b1 : (t109 != (IntKind.u64.wrap ((IntKind.u64.wrap ((IntKind.u64.wrap (a0)) + 1)) + (IntKind.u64.wrap (a1))))) = false := bne_eq_false_iff_eq.mpr c17
                    clear c17
                    have H' := Aside0.mk H
                    clear H
                    go_wp2_with (first | ((with_reducible refine gate_callee (f := 15) rfl ?_); refine goesL_ (some 34) rfl rfl Try.func15 (by kernel_rfl) rfl #[.int .u64 x7_2, .int .u64 (IntKind.u64.wrap ((IntKind.u64.wrap (a0)) + 1)), .int .u64 (IntKind.u64.wrap ((IntKind.u64.wrap ((IntKind.u64.wrap (a0)) + 1)) + (IntKind.u64.wrap (a1))))] rfl (by (try simp only [List.map_toArray, List.map_cons, List.map_nil]); first | done | rfl | (simp only [List.length_drop, List.length_take]; rfl)) ?_; (with_reducible refine (lease_Wait.calls x7_2 (IntKind.u64.wrap ((IntKind.u64.wrap (a0)) + 1)) (IntKind.u64.wrap ((IntKind.u64.wrap ((IntKind.u64.wrap (a0)) + 1)) + (IntKind.u64.wrap (a1)))) t109 _ A12.out).mono ?_); rintro e w18 ⟨rfl, hb⟩; refine ⟨_, rfl, ?_⟩; have n0_ := Aside0.mk (below_step (by repeat (first | (with_reducible first | exact HB.out | apply below_alloc | apply pw_below_drewN | apply below_drew1) | exact HB.out)) hb); clear HB; have HB := n0_; clear n0_; (try clear hb); (try clear hb2); (try clear hk); (try clear hi)))
                    go_roundg k2
                    case measure => have := HJ3.out; have := HK2.out; omega
                    case rel => exact ⟨(t109), (wrap64 (x8_2 + 1)), (by first | rfl | (simp; done) | (simp [*]; done)), (by first | rfl | (simp; done) | (simp [*]; done)), H', ⟨by have := HJ3.out; have := HK2.out; omega⟩, ⟨by repeat (first | (with_reducible first | exact HB.out | apply below_alloc | apply pw_below_drewN | apply below_drew1) | exact HB.out)⟩⟩
                  · rw [if_neg c17] at H
                    have c17b0 : (t109 == (IntKind.u64.wrap ((IntKind.u64.wrap ((IntKind.u64.wrap (a0)) + 1)) + (IntKind.u64.wrap (a1))))) = false := beq_eq_false_iff_ne.mpr c17
                    have c17b1 : (t109 != (IntKind.u64.wrap ((IntKind.u64.wrap ((IntKind.u64.wrap (a0)) + 1)) + (IntKind.u64.wrap (a1))))) = true := bne_iff_ne.mpr c17
                    by_cases c19 : t109 = (IntKind.u64.wrap (2 * x7_2))
                    · rw [if_pos c19] at H
                      have c19b0 : (t109 == (IntKind.u64.wrap (2 * x7_2))) = true := beq_iff_eq.mpr c19
                      have c19b1 : (t109 != (IntKind.u64.wrap (2 * x7_2))) = false := bne_eq_false_iff_eq.mpr c19
                      clear c19
                      have H' := Aside0.mk H
                      clear H
                      go_wp2_with (first | ((with_reducible refine gate_callee (f := 15) rfl ?_); refine goesL_ (some 34) rfl rfl Try.func15 (by kernel_rfl) rfl #[.int .u64 x7_2, .int .u64 (IntKind.u64.wrap ((IntKind.u64.wrap (a0)) + 1)), .int .u64 (IntKind.u64.wrap ((IntKind.u64.wrap ((IntKind.u64.wrap (a0)) + 1)) + (IntKind.u64.wrap (a1))))] rfl (by (try simp only [List.map_toArray, List.map_cons, List.map_nil]); first | done | rfl | (simp only [List.length_drop, List.length_take]; rfl)) ?_; (with_reducible refine (lease_Wait.calls x7_2 (IntKind.u64.wrap ((IntKind.u64.wrap (a0)) + 1)) (IntKind.u64.wrap ((IntKind.u64.wrap ((IntKind.u64.wrap (a0)) + 1)) + (IntKind.u64.wrap (a1)))) t109 _ A12.out).mono ?_); rintro e w20 ⟨rfl, hb⟩; refine ⟨_, rfl, ?_⟩; have n0_ := Aside0.mk (below_step (by repeat (first | (with_reducible first | exact HB.out | apply below_alloc | apply pw_below_drewN | apply below_drew1) | exact HB.out)) hb); clear HB; have HB := n0_; clear n0_; (try clear hb); (try clear hb2); (try clear hk); (try clear hi)))
                      go_roundg k2
                      case measure => have := HJ3.out; have := HK2.out; omega
                      case rel => exact ⟨(t109), (wrap64 (x8_2 + 1)), (by first | rfl | (simp; done) | (simp [*]; done)), (by first | rfl | (simp; done) | (simp [*]; done)), H', ⟨by have := HJ3.out; have := HK2.out; omega⟩, ⟨by repeat (first | (with_reducible first | exact HB.out | apply below_alloc | apply pw_below_drewN | apply below_drew1) | exact HB.out)⟩⟩
                    · rw [if_neg c19] at H
                      have c19b0 : (t109 == (IntKind.u64.wrap (2 * x7_2))) = false := beq_eq_false_iff_ne.mpr c19
                      have c19b1 : (t109 != (IntKind.u64.wrap (2 * x7_2))) = true := bne_iff_ne.mpr c19
                      obtain rfl := Option.some.inj H
                      go_wp2_with (first | ((with_reducible refine gate_callee (f := 15) rfl ?_); refine goesL_ (some 34) rfl rfl Try.func15 (by kernel_rfl) rfl #[.int .u64 x7_2, .int .u64 (IntKind.u64.wrap ((IntKind.u64.wrap (a0)) + 1)), .int .u64 (IntKind.u64.wrap ((IntKind.u64.wrap ((IntKind.u64.wrap (a0)) + 1)) + (IntKind.u64.wrap (a1))))] rfl (by (try simp only [List.map_toArray, List.map_cons, List.map_nil]); first | done | rfl | (simp only [List.length_drop, List.length_take]; rfl)) ?_; (with_reducible refine (lease_Wait.calls x7_2 (IntKind.u64.wrap ((IntKind.u64.wrap (a0)) + 1)) (IntKind.u64.wrap ((IntKind.u64.wrap ((IntKind.u64.wrap (a0)) + 1)) + (IntKind.u64.wrap (a1)))) t109 _ A12.out).mono ?_); rintro e w21 ⟨rfl, hb⟩; refine ⟨_, rfl, ?_⟩; have n0_ := Aside0.mk (below_step (by repeat (first | (with_reducible first | exact HB.out | apply below_alloc | apply pw_below_drewN | apply below_drew1) | exact HB.out)) hb); clear HB; have HB := n0_; clear n0_; (try clear hb); (try clear hb2); (try clear hk); (try clear hi)))
                      go_ret
                      exact ⟨by first | rfl | (simp [errW_none, errW_some] <;> rfl) | (simp [*, errW_none, errW_some] <;> rfl), by repeat (first | (with_reducible first | exact HB.out | apply below_alloc | apply pw_below_drewN | apply below_drew1) | exact HB.out)⟩
            · rw [if_neg c11] at H
              have c11b0 : decide (x8_2 < 70) = false := decide_eq_false c11
              clear c11
              obtain rfl := Option.some.inj H
              go_wp2
              go_ret
              exact ⟨by first | rfl | (simp [errW_none, errW_some] <;> rfl) | (simp [*, errW_none, errW_some] <;> rfl), by repeat (first | (with_reducible first | exact HB.out | apply below_alloc | apply pw_below_drewN | apply below_drew1) | exact HB.out)⟩

/-- THE ONE PURE STATEMENT of mooringlaw17_LeaseGrows: yours. -/
def mooringlaw17_LeaseGrows.Pure : Prop := ∀ (a0 : Int) (a1 : Int), (Lit.int .u32 a0).wf = true → (Lit.int .u32 a1).wf = true → ∃ k, mooringlaw17_LeaseGrows.f k a0 a1 = some true
theorem mooringlaw17_LeaseGrows.walk (P : mooringlaw17_LeaseGrows.Pure) (a0 : Int) (a1 : Int) (w : World) (w0 : (Lit.int .u32 a0).wf = true) (w1 : (Lit.int .u32 a1).wf = true) :
    Calls Try.prog 8 #[.int .u32 a0, .int .u32 a1] w fun e w' => e = .returned (.bool true) ∧ Below w.heap.size w w' := by
  obtain ⟨k, h⟩ := P a0 a1 w0 w1
  refine (mooringlaw17_LeaseGrows.calls k a0 a1 true w h).mono ?_
  rintro e w' ⟨rfl, hd⟩
  exact ⟨rfl, hd⟩

end Go.Proofs.Ytemdahcphdofmaa.PLeaseGrows
