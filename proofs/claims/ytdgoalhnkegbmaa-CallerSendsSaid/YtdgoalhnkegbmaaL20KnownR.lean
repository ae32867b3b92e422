/- CallerKnown: chapter 20's examples. -/
import Derived.Test.YtdgoalhnkegbmaaL20HeldR
namespace Go.Proofs.YtdgoalhnkegbmaaX
open Go.RowKit
set_option linter.unusedVariables false
set_option linter.unusedSimpArgs false
set_option maxRecDepth 100000
section
variable {w w' W : World} {Q : Value → World → Prop} {g gs gx ga gb gc k : Nat} {ft al ft' al' : List Nat} {S S' : Cs} {C c : Cfg} {lat : List Int} {last e now : Int} {y : Cp} {v : Int × Int} {refs : List (Int × Int)} {tp : Option Addr} {tc : Nat} {ts : Int}
theorem past_no {a : Int} (h0 : 1 ≤ a) (h1 : a ≤ 4294967295) : pastB 0 a (a - 1) = false := by
  unfold pastB
  rw [if_pos (by omega), u64w (a - 1 - 0) (by omega) (by omega)]
  exact decide_eq_false (by omega)
theorem one_await_busy (hn : 2 ≤ C.nodes) (hp : 1 ≤ C.patience ∧ C.patience ≤ 4294967295) (h1 : y.state = 1) (hb : y.born = 0) : awaitC (oneS C lat last y) 2 1 (C.patience - 1) = (oneS C lat last y, yZero, false, 8) := by
  unfold awaitC
  rw [one_get hn]
  simp only [h1, hb]
  rw [if_neg (by decide), if_neg (by decide), show (oneS C lat last y).c.patience = C.patience from rfl, past_no hp.1 hp.2, if_pos rfl]
theorem one_await_late (hn : 2 ≤ C.nodes) (hp : 1 ≤ C.patience ∧ C.patience ≤ 4294967295) (h1 : y.state = 1) (hb : y.born = 0) (ht : y.to = 2) (hm : y.num = 1) : awaitC (oneS C lat last y) 2 1 C.patience = (oneS C lat last { y with state := 4 }, yZero, false, 3) := by
  unfold awaitC
  rw [one_get hn]
  simp only [h1, hb]
  rw [if_neg (by decide), if_neg (by decide), show (oneS C lat last y).c.patience = C.patience from rfl, past0 (by omega) hp.2 (Int.le_refl _), if_neg (by decide), if_neg (by decide), one_put (by exact ht) (by exact hm)]
theorem one_await_left (hn : 2 ≤ C.nodes) (h1 : y.state = 4) : awaitC (oneS C lat last y) 2 1 now = (oneS C lat last y, yZero, false, 5) := by
  unfold awaitC
  rw [one_get hn]
  simp only [h1]
  rw [if_pos trivial]
theorem nR1 {S : Cs} (h : S.node = 1) : false = true ↔ Right (askM S (newY 1 1 0 0 0 0 [] 0) 1) := by
  refine ⟨fun h => (by cases h), fun hr => absurd ?_ (right_to hr).2.2⟩
  exact h
theorem nR2 {S : Cs} (h : S.node = 1) : false = true ↔ Right (askM S (newY 2 4 0 0 0 0 [] 0) 1) := by
  refine ⟨fun h => (by cases h), fun hr => ?_⟩
  have h5 := hr.2.2.2.2 5 (by omega)
  unfold okF at h5
  rw [show (askM S (newY 2 4 0 0 0 0 [] 0) 1).kind = 1 from rfl, if_pos (by decide)] at h5
  have h6 := h5.2.1 ⟨rfl, rfl⟩
  unfold aimsNone at h6
  rcases h6 with h6 | h6
  · rcases h6.2 with h | h
    · exact absurd h (by show ¬ (4 : Int) = 1; decide)
    · exact absurd h (by show ¬ (4 : Int) = 6; decide)
  · exact absurd h6.1 (by show ¬ (1 : Int) = 8; decide)
theorem begin_bad {to op field tn ts value now : Int} {S : Cs} : beginS S false to op field tn ts value refs now = (S, 0, 1) := by
  unfold beginS
  rw [if_pos (.inr (.inl rfl))]
/-- a row of IDs beside the table -/
structure RB (w : World) (al : List Nat) (p : Option Addr) (c : Nat) (l : List (Int × Int)) : Prop where
  r : IdRow w p c l
  n : ∀ k ∈ fbl p, k ∉ al
theorem RB.keep' {p : Option Addr} {c : Nat} {l : List (Int × Int)} (h : RB w al p c l) (f : Fr [] w w') : RB w' al p c l := ⟨h.r.keep' f, h.n⟩
theorem RB.next {p : Option Addr} {c : Nat} {l : List (Int × Int)} (h : RB w al p c l) (pl : PL W w g ft al S) (f : Fr ft w w') (e : ∀ x ∈ al', x ∈ al ∨ w.heap.size ≤ x) : RB w' al' p c l :=
  ⟨h.r.keep f (fun k hk hm => h.n k hk (pl.t.sub _ hm)), fun k hk => pl.out (h.n k hk) (h.r.lt k hk) e⟩
theorem RB.off {p : Option Addr} {c : Nat} {l : List (Int × Int)} (h : RB w al p c l) (hne : w.heap.size ≤ k) (f0 : Fr [] w w') {w2 : World} (f : Fr [k] w' w2) : RB w2 al p c l :=
  ⟨IdRow.off (h.r.keep' f0) (fun hm => by have := h.r.lt k hm; omega) f, h.n⟩
abbrev rN : Raw := ⟨0, 0, 0, 0, 0, 0, 2, 0, 0, 0, 0, 0, 0, 0, 0, 0, 0, 0, 0, 0, 0, 0⟩
abbrev cZ : Cfg := { nodes := 0, mutators := 0, slots := 0, cel := 0, objects := 0, stubs := 0, calls := 0, window := 0, grey := 0, bag := 0, inbox := 0, unit := 0, drift := 0, lease := 0, wait := 0, most := 0, patience := 0, suspect := 0, trace := 0, work := 0, start := 0, last := 0 }
theorem known6_j0 (hn : 2 ≤ C.nodes) (hc : 1 ≤ C.calls ∧ C.calls ≤ 16) (hw : 1 ≤ C.window ∧ C.window ≤ 8) (hp : 1 ≤ C.patience ∧ C.patience < 4294967295) (p : PL W w g ft al (newC C 1 0)) (bc : Blk W gs C.cells 31)
    (hQ : ∀ w', Fr [] W w' → Q (.bool true) w') : X6.j0 Q (at0 gs 0) (some (at0 g 0)) w := by
  obtain ⟨lat, hl, eb⟩ := one_begin (ts := 4) (refs := [(3, 9)]) hn hc.1 hw
  unfold X6.j0
  refine begin_spec (refs := []) (rp := none) (rc := 0) p.t Own.nil (by simp) (nR1 (S := newC C 1 0) rfl) ?_
  rw [begin_bad]
  intro ft2 al2 w2 t2 f2 e2 a2
  have p2 := p.next t2 f2 a2
  refine ⟨_, _, rfl, begin_spec (refs := []) (rp := none) (rc := 0) p2.t Own.nil (by simp) (nR2 (S := newC C 1 0) rfl) ?_⟩
  rw [begin_bad]
  intro ft6 al6 w6 t6 f6 e6 a6
  have p6 := p2.next t6 f6 a6
  refine ⟨_, _, rfl, newB fun g9 w10 b9 f10 h9 => ?_⟩
  have p10 := p6.keep' f10
  refine begin_spec (refs := [(3, 9)]) (rp := some (at0 g9 0)) (rc := 1) p10.t (idOne b9) (by simp) (hR (S := newC C 1 0) rfl ?_ ?_ (by omega)) ?_
  · unfold okID okSerial
    exact .inr ⟨by decide, by decide⟩
  · unfold okID okSerial
    exact .inr ⟨by decide, by decide⟩
  rw [eb]
  intro ft12 al12 w12 t12 f12 e12 a12
  have p12 : PL W w12 g ft12 al12 (oneS C lat 0 (yB 4 (3, 9))) := p10.next t12 f12 a12
  have eh : heldC (oneS C lat 0 (yB 4 (3, 9))) = [(2, 4), (3, 9)] := by rw [heldC_one]; exact heldC_yB rfl (by omega)
  refine ⟨_, _, rfl, held_spec p12.t hc.2 fun hp' hc' w16 r16 n16 f16 => ⟨_, _, _, rfl, ?_⟩⟩
  rw [eh] at r16 ⊢
  have p16 := p12.keep' f16
  have rb16 : RB w16 al12 hp' hc' [(2, 4), (3, 9)] := ⟨r16, fun k hk => p12.t.fresh (n16 k hk)⟩
  have ep1 : IntKind.wrap .u64 (C.patience - 1) = C.patience - 1 := u64w _ (by omega) (by omega)
  have ep2 : IntKind.wrap .u64 (C.patience + 1) = C.patience + 1 := u64w _ (by omega) (by omega)
  refine ld_int ((bc.keep' p16.F).cat 16 _ rfl) ?_
  rw [show IntKind.wrap .u64 (C.patience - 1) = C.patience - 1 from ep1]
  refine await_spec p16.t ?_
  rw [one_await_busy hn ⟨hp.1, by omega⟩ rfl rfl]
  intro y20 ft20 al20 w20 c20 t20 f20 e20 a20
  have p20 := p16.next t20 f20 a20
  have rb20 := rb16.next p16 f20 a20
  refine ⟨_, _, _, _, _, _, _, _, _, _, _, _, _, _, _, _, _, _, _, _, _, rfl, newB fun g38 w39 b38 f39 h38 => stAllB (vs := y20.cells) b38 rfl fun w40 b40 f40 => ?_⟩
  have z20 := p20.F.size
  have p40 := (p20.keep' f39).off (p20.t.fresh h38) (by omega) f40
  have rb40 := rb20.off h38 f39 f40
  refine ld_int ((bc.keep' p40.F).cat 16 _ rfl) (await_spec p40.t ?_)
  rw [one_await_late hn ⟨hp.1, by omega⟩ rfl rfl rfl rfl]
  intro y43 ft43 al43 w43 c43 t43 f43 e43 a43
  have p43 := p40.next t43 f43 a43
  have rb43 := rb40.next p40 f43 a43
  refine ⟨_, _, _, _, _, _, _, _, _, _, _, _, _, _, _, _, _, _, _, _, _, rfl, newB fun g61 w62 b61 f62 h61 => stAllB (vs := y43.cells) b61 rfl fun w63 b63 f63 => ?_⟩
  have z43 := p43.F.size
  have p63 := (p43.keep' f62).off (p43.t.fresh h61) (by omega) f63
  have rb63 := rb43.off h61 f62 f63
  refine ld_int ((bc.keep' p63.F).cat 16 _ rfl) ?_
  rw [show IntKind.wrap .u64 (C.patience + 1) = C.patience + 1 from ep2]
  refine await_spec p63.t ?_
  rw [one_await_left hn rfl]
  intro y66 ft66 al66 w66 c66 t66 f66 e66 a66
  have p66 := p63.next t66 f66 a66
  have rb66 := rb63.next p63 f66 a66
  refine ⟨_, _, _, _, _, _, _, _, _, _, _, _, _, _, _, _, _, _, _, _, _, rfl, newB fun g84 w85 b84 f85 h84 => stAllB (vs := y66.cells) b84 rfl fun w86 b86 f86 => ?_⟩
  have z66 := p66.F.size
  have p86 := (p66.keep' f85).off (p66.t.fresh h84) (by omega) f86
  have rb86 := rb66.off h84 f85 f86
  refine reply_spec' (S := oneS C lat 0 { yB 4 (3, 9) with state := 4 }) (m := ⟨2, 2, 1, 1, 0, 0, 0, 0, 0, 0, [], 0, 0, 0, 0, 0, 0, 0, []⟩) (rp := none) (rc := 0) (lc := 0) p86.t Own.nil (by simp) (by simp [fbl]) ?_
  have er : replyC (oneS C lat 0 { yB 4 (3, 9) with state := 4 }) 2 1 2 1 0 0 [] = (noS C lat 0, [], true) := one_reply hn rfl rfl rfl
  intro tp tc ft88 al88 w88 r88 n88 t88 f88 e88 a88
  simp only [er] at r88 t88 ⊢
  have p88 := p86.next t88 f88 a88
  have rb88 := rb86.next p86 f88 a88
  obtain ⟨q0, hq0, x0, x1⟩ := ids_at rb88.r.cells (i := 0) (x := (2, 4)) rfl
  obtain ⟨q1, hq1, x2, x3⟩ := ids_at rb88.r.cells (i := 1) (x := (3, 9)) rfl
  refine ⟨_, _, _, _, rfl, bc_eqt' rfl (bc_eqt' rfl (bc_eqt' rfl (bc_eqt' rfl (bc_eqt' rfl ⟨⟨by omega, by show (0 : Int) < ((2 : Nat) : Int); omega⟩, opt_some hq0 (ld_int x0 (ld_int x1 ⟨isS26, bc_bool (fun _ => ?_) (fun h => by cases h)⟩))⟩))))⟩
  refine ⟨⟨by omega, by show (1 : Int) < ((2 : Nat) : Int); omega⟩, opt_some hq1 (ld_int x2 (ld_int x3 ⟨isS26, bc_bool (fun _ => bc_eqt' rfl (bc_eqt' rfl (bc_bool (fun _ => bc_eqt' rfl (bc_bool (fun _ => ?_) (fun h => by cases h))) (fun h => by cases h)))) (fun h => by cases h)⟩))⟩
  refine all_spec t88 fun ap ac xs w98 o98 a98 f98 n98 => ⟨_, _, _, rfl, bc_eqt' rfl (floor_spec (p88.keep' f98).t fun w101 f101 => ⟨_, rfl, ?_⟩)⟩
  rw [no_floor hn hl]
  exact hQ w101 (p88.F.tr (f98.tr f101))
theorem badL {nd ls : Int} (h0 : 0 ≤ c.drift) (hr : ¬ newOk c nd ls) (hK : ∀ w', Fr [] w w' → Q (.tuple #[.pointer none, .int .i64 1]) w') : CallR Try.prog 10 #[c.val, .int .i64 nd, .int .u64 ls] w Q :=
  new_spec h0 (fun _ => hK) fun h => absurd h hr
theorem mayZ : mayB cZ = false := by decide +kernel
theorem callerKnown_row : CallR Try.prog 6 #[] W fun v w' => v = .bool true ∧ Fr [] W w' := by
  refine X6.sound _ _ ?_
  unfold X6.f
  have cr := conf_rng rN
  have dr := (drift_half rN).1
  have hm : mayB (configOf rN) = true := may_config ⟨by decide, by decide⟩
  have hpat := may_pat hm
  refine config_spec (r := rN) fun w2 f2 => ⟨_, _, _, _, _, _, _, _, _, _, _, _, _, _, _, _, _, _, _, _, _, _, rfl, newB fun gc w26 bc f26 h26 => stAllB (vs := (configOf rN).cells) bc rfl fun w27 b27 f27 => ?_⟩
  have z2 := f2.size
  have F27 : Fr [] W w27 := (f2.tr f26).loc f27 (by omega)
  refine badL (c := cZ) (by decide) (fun h => by have := h.1; rw [mayZ] at this; cases this) fun w29 f29 => ⟨_, _, rfl, ?_⟩
  refine ld_Cfg (s := configOf rN) (b27.keep' f29).cat (badL dr (fun h => h.2.1 (by omega)) fun w55 f55 => ⟨_, _, rfl, ?_⟩)
  refine ld_Cfg (s := configOf rN) (b27.keep' (f29.tr f55)).cat (badL dr (fun h => h.2.2.2 (by omega)) fun w81 f81 => ⟨_, _, rfl, ?_⟩)
  have F81 := F27.tr (f29.tr (f55.tr f81))
  refine ld_Cfg (s := configOf rN) (b27.keep' (f29.tr (f55.tr f81))).cat (newL (c := configOf rN) ⟨hm, by omega, by omega, by omega⟩ dr fun g ft al w107 p => ⟨_, _, rfl, known_spec fun w111 f111 => ⟨_, rfl, bc_bool (fun h => by cases h) (fun _ => bc_ne (fun h => absurd rfl h) (fun _ => bc_ne (fun h => absurd rfl h) (fun _ => bc_ne (fun h => absurd rfl h) (fun _ => bc_ne (fun h => absurd rfl h) (fun _ => bc_bool (fun h => by cases h) (fun _ => ?_))))))⟩⟩)
  refine known6_j0 (W := w81) (by omega) (by omega) (by omega) ⟨hpat.1, ?_⟩ (p.keep' f111) (b27.keep' (f29.tr (f55.tr f81))) (fun w' f' => ⟨rfl, F81.tr f'⟩)
  have h60 := md (n := rN.patience) (m := 60) (by omega)
  have h20 := md (n := rN.unit) (m := 20) (by omega)
  have := mul_rng (a := 4 + rN.unit % 20) (b := 1 + rN.patience % 60) (A := 23) (B := 60) (by omega) (by omega) (by omega) (by omega)
  show (4 + rN.unit % 20) * (1 + rN.patience % 60) < _
  omega
end
end Go.Proofs.YtdgoalhnkegbmaaX
