/- The small config may be; chapter 18's example, as the statements call it. -/
import Derived.Test.YtglininpmfgggaaL18Config
namespace Go.Proofs.YtglininpmfgggaaX
open Go.RowKit
set_option linter.unusedVariables false
set_option linter.unusedSimpArgs false
set_option maxRecDepth 100000
structure RawW (r : Raw) : Prop where
  s0 : 0 ≤ r.start
  l0 : 0 ≤ r.last
theorem inB_of {n most : Int} (h1 : 1 ≤ n) (h2 : n ≤ most) : inB n most = true := by unfold inB; rw [if_pos h1, decide_eq_true h2]
theorem drift_half (r : Raw) : 0 ≤ (configOf r).drift ∧ 2 * (configOf r).drift + 2 ≤ (configOf r).unit ∧ 4 ≤ (configOf r).unit ∧ (configOf r).unit ≤ 23 := by
  have m := md (n := r.unit) (m := 20) (by omega)
  have d := md (n := r.drift) (m := (4 + r.unit % 20) / 2) (by omega)
  show 0 ≤ r.drift % ((4 + r.unit % 20) / 2) ∧ 2 * (r.drift % ((4 + r.unit % 20) / 2)) + 2 ≤ 4 + r.unit % 20 ∧ 4 ≤ 4 + r.unit % 20 ∧ 4 + r.unit % 20 ≤ 23
  omega
theorem lease_rng (r : Raw) : 160 ≤ (configOf r).lease ∧ (configOf r).lease ≤ 5497 := by
  have m := md (n := r.unit) (m := 20) (by omega)
  have d := md (n := r.lease) (m := 200) (by omega)
  have h1 := Int.mul_le_mul (a := 4) (b := 40) (c := 4 + r.unit % 20) (d := 40 + r.lease % 200) (by omega) (by omega) (by omega) (by omega)
  have h2 := Int.mul_le_mul (a := 4 + r.unit % 20) (b := 40 + r.lease % 200) (c := 23) (d := 239) (by omega) (by omega) (by omega) (by omega)
  show 160 ≤ (4 + r.unit % 20) * (40 + r.lease % 200) ∧ (4 + r.unit % 20) * (40 + r.lease % 200) ≤ 5497
  omega
theorem may_config {r : Raw} (hr : RawW r) : mayB (configOf r) = true := by
  have dh := drift_half r
  have ls := lease_rng r
  have hA : mayA (configOf r) = true := by
    have a0 := md (n := r.nodes) (m := 3) (by omega)
    have a1 := md (n := r.mutators) (m := 3) (by omega)
    have a2 := md (n := r.slots) (m := 4) (by omega)
    have a3 := md (n := r.cel) (m := 8) (by omega)
    unfold mayA configOf
    simp only
    rw [inB_of (by omega) (by omega), inB_of (by omega) (by omega), inB_of (by omega) (by omega), inB_of (by omega) (by omega), Int.tmod_eq_emod_of_nonneg (by omega), show 16 * (1 + r.cel % 8) % 16 = 0 by omega]
    rfl
  have hC : mayC (configOf r) = true := by
    have a0 := md (n := r.objects) (m := 14) (by omega)
    have a1 := md (n := r.stubs) (m := 10) (by omega)
    have a2 := md (n := r.calls) (m := 6) (by omega)
    have a3 := md (n := r.window) (m := 4) (by omega)
    have a4 := md (n := r.grey) (m := 8) (by omega)
    have a5 := md (n := r.bag) (m := 60) (by omega)
    have a6 := md (n := r.inbox) (m := 4) (by omega)
    unfold mayC configOf
    simp only
    rw [inB_of (by omega) (by omega), inB_of (by omega) (by omega), inB_of (by omega) (by omega), inB_of (by omega) (by omega), inB_of (by omega) (by omega), inB_of (by omega) (by omega), inB_of (by omega) (by omega)]
    rfl
  have hD : mayD (configOf r) = true := by
    have p1 := mul_rng (a := (configOf r).lease) (b := (configOf r).unit - (configOf r).drift) (A := 5497) (B := 23) (by omega) (by omega) (by omega) (by omega)
    have p2 := Int.mul_le_mul_of_nonneg_right (a := 160) (b := (configOf r).lease) (c := (configOf r).unit - (configOf r).drift) (by omega) (by omega)
    unfold mayD
    rw [u64w ((configOf r).unit - (configOf r).drift) (by omega) (by omega), u64w ((configOf r).unit + (configOf r).drift) (by omega) (by omega), u64w ((configOf r).lease * _) (by omega) (by omega), u64w (8 * _) (by omega) (by omega)]
    rw [decide_eq_true (by omega), decide_eq_true (by omega), decide_eq_true (by omega), decide_eq_true (by omega), decide_eq_true (by omega)]
    rfl
  have hE : mayE (configOf r) = true := by
    have a0 := md (n := r.wait) (m := 30) (by omega)
    have a1 := md (n := r.most) (m := 60) (by omega)
    have a2 := md (n := r.unit) (m := 20) (by omega)
    have a3 := md (n := r.patience) (m := 60) (by omega)
    have h1 := Int.mul_le_mul (a := 4) (b := 1) (c := 4 + r.unit % 20) (d := 1 + r.patience % 60) (by omega) (by omega) (by omega) (by omega)
    have h2 := Int.mul_le_mul (a := 4 + r.unit % 20) (b := 1 + r.patience % 60) (c := 23) (d := 60) (by omega) (by omega) (by omega) (by omega)
    unfold mayE configOf
    simp only
    rw [decide_eq_true (by omega), decide_eq_true (by omega), decide_eq_true (by omega), decide_eq_true (by omega), decide_eq_true (by omega)]
    rfl
  have hF : mayF (configOf r) = true := by
    have a0 := md (n := r.suspect) (m := 4) (by omega)
    have a1 := md (n := r.trace) (m := 4) (by omega)
    have a2 := md (n := r.work) (m := 12) (by omega)
    have s1 : Int.tmod r.start 1000 < 1000 := by rw [Int.tmod_eq_emod_of_nonneg hr.s0]; exact Int.emod_lt_of_pos _ (by omega)
    have s2 : Int.tmod r.last 1000 < 1000 := by rw [Int.tmod_eq_emod_of_nonneg hr.l0]; exact Int.emod_lt_of_pos _ (by omega)
    unfold mayF configOf
    simp only
    rw [inB_of (by omega) (by omega), decide_eq_true (by omega), decide_eq_true (by omega), inB_of (by omega) (by omega), decide_eq_true (by omega), decide_eq_true (by omega)]
    rfl
  unfold mayB
  rw [hA, hC, hD, hE, hF]
  rfl
abbrev rz : Raw := ⟨0, 0, 0, 0, 0, 0, 0, 0, 0, 0, 0, 0, 0, 0, 0, 0, 0, 0, 0, 0, 0, 0⟩
/-- the table among what is new since W -/
structure PL (W w : World) (g gt : Nat) (ft : List Nat) (S : Sn) : Prop where
  t : PTa w g gt ft S
  new : ∀ x ∈ g :: ft, W.heap.size ≤ x
  F : Fr [] W w
section
variable {w w' W : World} {Q : Value → World → Prop} {g gt : Nat} {ft ft' : List Nat} {S S' : Sn}
theorem PL.keep' (h : PL W w g gt ft S) (f : Fr [] w w') : PL W w' g gt ft S := ⟨h.t.keep' f, h.new, h.F.tr f⟩
theorem PL.next (h : PL W w g gt ft S) (t' : PTa w' g gt ft' S') (f : Fr (g :: ft) w w') (e : ∀ x ∈ ft', x ∈ ft ∨ w.heap.size ≤ x) : PL W w' g gt ft' S' := by
  have := h.F.size
  refine ⟨t', fun x hx => ?_, h.F.trans f (fun x hx => .inr (h.new x hx))⟩
  rcases List.mem_cons.1 hx with rfl | hx
  · exact h.new x (by simp)
  · rcases e x hx with h' | h'
    · exact h.new x (by simp [h'])
    · omega
theorem PL.off (h : PL W w g gt ft S) {x : Nat} (hx : x ∉ g :: ft) (hw : W.heap.size ≤ x) (f : Fr [x] w w') : PL W w' g gt ft S := ⟨h.t.off hx f, h.new, h.F.loc f hw⟩
theorem PL.fresh (h : PL W w g gt ft S) {x : Nat} (hx : w.heap.size ≤ x) : x ∉ g :: ft := fun hm => by have := h.t.lt x hm; omega
theorem bc_eqt' {a b : Int} {A B : Prop} (h : a = b) (x : A) : bcase (a == b) A B := bc_eq (fun _ => x) (fun hn => absurd h hn)
theorem small_spec (hQ : ∀ w', Fr [] w w' → Q (configOf rz).val w') : CallR Try.prog 28 #[] w Q := by
  refine X28.sound _ _ ?_
  unfold X28.f
  refine newB fun g1 w2 b1 f2 h1 => config_spec (r := rz) fun w4 f4 => ⟨_, _, _, _, _, _, _, _, _, _, _, _, _, _, _, _, _, _, _, _, _, _, rfl, stAllB (vs := (configOf rz).cells) (b1.keep' f4) rfl fun w27 b27 f27 => ld_Cfg (s := configOf rz) b27.cat (hQ _ ((f2.tr f4).loc f27 h1))⟩
theorem newL {c : Cfg} {node seq : Int} (hr : newOk c node seq) (h0 : 0 ≤ c.drift) (hK : ∀ g gt ft w', PL w w' g gt ft (newS c node seq) → Q (.tuple #[.pointer (some (at0 g 0)), .int .i64 0]) w') : CallR Try.prog 11 #[c.val, .int .i64 node, .int .u64 seq] w Q :=
  new_spec h0 (fun h => absurd hr h) fun _ g gt ft w' t f n => hK g gt ft w' ⟨t, n, f⟩
def k0 : Sn := newS (configOf rz) 1 0
def k1 : Sn := (wantS k0 2 5 2 10).1
def k2 : Sn := (stepS k1 10).1
def k3 : Sn := (stepS k2 10).1
abbrev kM : Msg := ⟨5, 2, 1, 0, 0, 0, 0, 0, 2, 5, none, 0, 0, 0, 0, 1, 0, 10, 0, 0, none, 0, 0⟩
def k4 : Sn := (toldS k3 kM 12).1
theorem k_ok : newOk (configOf rz) 1 0 := ⟨may_config ⟨by decide, by decide⟩, by decide, by decide, by decide⟩
theorem kn1 : (wantS k0 2 5 2 10).2 = (1, 0) := by decide +kernel
theorem kn2 : (stepS k1 10).2.2 = true := by decide +kernel
theorem kn2m : (stepS k1 10).2.1.kind = 4 ∧ (stepS k1 10).2.1.seq = 1 ∧ (stepS k1 10).2.1.voucher = 2 ∧ (stepS k1 10).2.1.at_ = 10 := by decide +kernel
theorem kn3 : (stepS k2 10).2.2 = false := by decide +kernel
theorem kn4 : (toldS k3 kM 12).2 = true := by decide +kernel
theorem kn5 : stateS k4 2 5 12 = 2 := by decide +kernel
theorem known_spec (hQ : ∀ w', Fr [] w w' → Q (.bool true) w') : CallR Try.prog 13 #[] w Q := by
  refine X13.sound _ _ ?_
  unfold X13.f
  refine small_spec fun w2 f2 => ⟨_, _, _, _, _, _, _, _, _, _, _, _, _, _, _, _, _, _, _, _, _, _, rfl, newB fun g25 w26 b25 f26 h26 => stAllB (vs := (configOf rz).cells) b25 rfl fun w27 b27 f27 => newB fun gx w29 bx f29 h29 => stAllB (vs := idcs 2 5) bx rfl fun w30 b30 f30 => ?_⟩
  have z2 := f2.size
  have F27 : Fr [] w w27 := (f2.tr f26).loc f27 (by omega)
  have z27 := F27.size
  have F30 : Fr [] w w30 := (F27.tr f29).loc f30 (by omega)
  have l27 := b27.lt
  have b25 := (b27.keep' f29).off1 (by omega) f30
  refine ld_Cfg (s := configOf rz) b25.cat (newL k_ok (drift_half rz).1 fun g gt ft w54 p => ⟨_, _, rfl, bc_ne (fun h => absurd rfl h) (fun _ => bc_bool (fun h => by cases h) (fun _ => ?_))⟩)
  unfold X13.j0
  have bx54 := b30.keep' p.F
  refine ld_int (bx54.cat 0 _ rfl) (ld_int (bx54.cat 1 _ rfl) (want_spec (S := newS (configOf rz) 1 0) p.t ?_))
  intro ft4 w4 t4 f4 e4
  have p4 := p.next t4 f4 e4
  rw [show wantS (newS (configOf rz) 1 0) 2 5 2 10 = wantS k0 2 5 2 10 from rfl] at *
  rw [show (wantS k0 2 5 2 10).2 = (1, 0) from kn1] at *
  refine ⟨_, _, rfl, step_spec (S := k1) p4.t ?_⟩
  intro ft8 w8 t8 f8 e8
  have p8 : PL w30 w8 g gt ft8 k2 := p4.next t8 f8 e8
  rw [kn2]
  refine ⟨_, _, _, _, _, _, _, _, _, _, _, _, _, _, _, _, _, _, _, _, _, _, _, _, rfl, newB fun gm w30' bm f30' h30' => stAllB (vs := (stepS k1 10).2.1.cells) bm rfl fun w31 bm31 f31 => ?_⟩
  have nm := p8.fresh h30'
  have z8 := p8.F.size
  have p31 := (p8.keep' f30').off nm (by omega) f31
  refine step_spec (S := k2) p31.t ?_
  intro ft33 w33 t33 f33 e33
  have p33 : PL w30 w33 g gt ft33 k3 := p31.next t33 f33 e33
  rw [kn3]
  have bm33 := bm31.keep f33 nm
  refine ⟨_, _, _, _, _, _, _, _, _, _, _, _, _, _, _, _, _, _, _, _, _, _, _, _, rfl, newB fun gm2 w55 bm2 f55 h55 => stAllB (vs := (stepS k2 10).2.1.cells) bm2 rfl fun w56 bm56 f56 => ?_⟩
  have nm2 := p33.fresh h55
  have z33 := p33.F.size
  have lm := bm33.lt
  have p56 := (p33.keep' f55).off nm2 (by omega) f56
  have bmz := (bm33.keep' f55).off1 (by omega) f56
  have bx56 := b30.keep' p56.F
  refine ld_int (bx56.cat 0 _ rfl) (ld_int (bx56.cat 1 _ rfl) (told_spec (S := k3) (m := kM) p56.t ?_))
  intro ft60 w60 t60 f60 e60
  have p60 : PL w30 w60 g gt ft60 k4 := p56.next t60 f60 e60
  have nm60 : gm ∉ g :: ft33 := by
    have l31 := bm31.lt
    intro hm
    rcases List.mem_cons.1 hm with h | h
    · exact nm (by simp [h])
    · rcases e33 gm h with h | h
      · exact nm (by simp [h])
      · omega
  have bm60 := bmz.keep f60 nm60
  have bx60 := b30.keep' p60.F
  rw [kn4]
  obtain ⟨q1, q2, q3, q4⟩ := kn2m
  refine ⟨_, rfl, bc_eqt' rfl (bc_eqt' rfl (bc_bool (fun _ => ld_int (bm60.cat 0 _ rfl) (bc_eqt' q1 (ld_int (bm60.cat 13 _ rfl) (bc_eqt' q2 (ld_int (bm60.cat 14 _ rfl) (bc_eqt' q3 (ld_int (bm60.cat 15 _ rfl) (bc_eqt' q4 (bc_bool (fun _ => bc_bool (fun _ => ?_) (fun h => by cases h)) (fun h => by cases h)))))))))) (fun h => by cases h)))⟩
  refine ld_int (bx60.cat 0 _ rfl) (ld_int (bx60.cat 1 _ rfl) (state_spec (S := k4) p60.t fun w69 f69 => ⟨_, rfl, ?_⟩))
  rw [kn5]
  exact hQ _ (F30.tr (p60.F.tr f69))
end
end Go.Proofs.YtglininpmfgggaaX
