/- CallerHeld: what a call holds, from its begin to its end. -/
import Derived.Test.YtdgoalhnkegbmaaL20Late
namespace Go.Proofs.YtdgoalhnkegbmaaX
open Go.RowKit
set_option linter.unusedVariables false
set_option linter.unusedSimpArgs false
set_option maxRecDepth 100000
/-- an ID in a block beside the table -/
structure IB (W w : World) (al : List Nat) (gx : Nat) (v : Int × Int) : Prop where
  b : Blk w gx (idc v) 26
  n : gx ∉ al
  x : W.heap.size ≤ gx
section
variable {w w' W : World} {Q : Value → World → Prop} {g gs gx ga gb gc k : Nat} {ft al ft' al' : List Nat} {S S' : Cs} {C c : Cfg} {lat : List Int} {last e : Int} {y : Cp} {v : Int × Int} {want refs : List (Int × Int)} {tp : Option Addr} {tc : Nat} {rf : Bool} {ts bn bs cn cs : Int}
theorem IB.keep' (h : IB W w al gx v) (f : Fr [] w w') : IB W w' al gx v := ⟨h.b.keep' f, h.n, h.x⟩
theorem IB.next (h : IB W w al gx v) (p : PL W w g ft al S) (f : Fr ft w w') (e : ∀ x ∈ al', x ∈ al ∨ w.heap.size ≤ x) : IB W w' al' gx v := ⟨h.b.keep f (fun hm => h.n (p.t.sub _ hm)), p.out h.n h.b.lt e, h.x⟩
theorem IB.off (h : IB W w al gx v) (hne : gx ≠ k) (f : Fr [k] w w') : IB W w' al gx v := ⟨h.b.off1 hne f, h.n, h.x⟩
theorem IB.off' (h : IB W w al gx v) (hk : w.heap.size ≤ k) (f0 : Fr [] w w') {w2 : World} (f : Fr [k] w' w2) : IB W w2 al gx v := (h.keep' f0).off (by have := h.b.lt; omega) f
theorem heldC_one : heldC (oneS C lat last y) = heldOf y := by
  unfold heldC oneS
  simp
theorem pinned_one : pinnedC (oneS C lat last y) v = (openB y && y.refs.any fun z => decide (z = v) && !noneB z.1 z.2) := by
  unfold pinnedC oneS
  simp
theorem one_begin (hn : 2 ≤ C.nodes) (hc : 1 ≤ C.calls) (hw : 1 ≤ C.window ∧ C.window ≤ 8) : ∃ lat, latestOf (noS C lat 0) 2 = 1 ∧ beginS (newC C 1 0) true 2 3 0 2 ts 0 refs 0 = (oneS C lat 0 ⟨2, 1, 3, 0, 2, ts, refs, 0, 1, 0, [], 0, 0, 0, 0⟩, 1, 0) := by
  obtain ⟨e1, e2, e3⟩ := run_begin (op := 3) (field := 0) (tn := 2) (ts := ts) (value := 0) (now := 0) (refs := refs) (run_new (c := C) (to := 2) (b := 0) (by omega) hn) (by omega) hn (by omega) (by omega) (by omega) (by omega) (by omega) hw.2 (.inr rfl)
  have el := e2.lat
  have e4 : ((0 : Int) + ((0 : Nat) : Int) + 1) = 1 := rfl
  rw [e4] at e1 e3
  refine ⟨(newC C 1 0).latest.set (2 : Int).toNat 1, ?_, ?_⟩
  · rw [e1] at el
    exact el
  · rw [e1] at e3 ⊢
    have e5 : (putC { newC C 1 0 with latest := (newC C 1 0).latest.set (2 : Int).toNat 1 } ⟨2, 1, 3, 0, 2, ts, refs, 0, 1, 0, [], 0, 0, 0, 0⟩).l = [(K1, ⟨2, 1, 3, 0, 2, ts, refs, 0, 1, 0, [], 0, 0, 0, 0⟩)] := by
      rw [key21] at e3
      exact e3
    show ((⟨C, 1, 0, (newC C 1 0).latest.set (2 : Int).toNat 1, 0, (putC { newC C 1 0 with latest := (newC C 1 0).latest.set (2 : Int).toNat 1 } ⟨2, 1, 3, 0, 2, ts, refs, 0, 1, 0, [], 0, 0, 0, 0⟩).l⟩ : Cs), (1 : Int), (0 : Int)) = _
    rw [e5]
    rfl
theorem one_reply1 (hn : 2 ≤ C.nodes) (h1 : y.to = 2) (h2 : y.num = 1) (h4 : y.state = 1) : replyC (oneS C lat last y) 2 1 2 1 0 0 refs = (oneS C lat last { y with state := 2, code := 0, back := 0, result := refs }, refs, false) := by
  unfold replyC
  rw [if_neg (by rw [one_other hn]; simp [oneS]), one_get hn]
  simp only [h4]
  rw [if_pos trivial, one_put (by exact h1) (by exact h2)]
theorem one_settle (hn : 2 ≤ C.nodes) (h1 : y.to = 2) (h2 : y.num = 1) (h4 : y.state = 2) : settleC (oneS C lat last y) 2 1 e = (oneS C lat last (if e ≠ 0 then { y with state := 3, code := e, back := 0, result := [] } else { y with state := 3 }), true) := by
  unfold settleC
  rw [one_get hn]
  simp only [h4]
  rw [if_neg (by decide), one_put (by split <;> exact h1) (by split <;> exact h2)]
theorem one_await3 (hn : 2 ≤ C.nodes) (h4 : y.state = 3) : awaitC (oneS C lat last y) 2 1 0 = (noS C lat last, y, false, 0) := by
  unfold awaitC
  rw [one_get hn]
  simp only [h4]
  rw [if_neg (by decide), if_pos trivial, key21]
  show ({ oneS C lat last y with l := drp ilt [(K1, y)] K1 }, y, false, (0 : Int)) = _
  rw [drp_self1]
  rfl
theorem held_j0 (hn : 2 ≤ C.nodes) (hc : C.calls ≤ 16) (p : PL W w g ft al (oneS C lat last y)) (h3 : y.state = 3) (hh : heldOf y = want) (hr : y.result = want) (hl : want.length ≤ 1000) (hw : Cells w tp (want.flatMap idc)) (nw : ∀ k ∈ fbl tp, k ∉ al) (hcode : ((y.code == 4) == rf) = true)
    (hQ : ∀ w', Fr [] W w' → Q (.bool true) w') : X7.j0 Q rf (some (at0 g 0)) 1 tp want.length tc w := by
  unfold X7.j0
  refine held_spec p.t hc fun p1 c1 w2 r2 n2 f2 => ⟨_, _, _, rfl, ?_⟩
  rw [heldC_one, hh] at r2 ⊢
  have p2 := p.keep' f2
  have hw2 := hw.keep' f2
  refine ids_spec r2.cells hw2 (by omega) fun w5 f5 => ⟨_, rfl, bc_bool (fun h => by simp at h) (fun _ => ?_)⟩
  have p5 := p2.keep' f5
  have hw5 := hw2.keep' f5
  refine await_spec p5.t ?_
  rw [one_await3 hn h3]
  intro x ft8 al8 w8 c8 t8 f8 e8 a8
  have p8 := p5.next t8 f8 a8
  have hw8 := hw5.keep f8 (fun k hk hm => nw k hk (p.t.sub _ hm))
  refine ⟨_, _, _, _, _, _, _, _, _, _, _, _, _, _, _, _, _, _, _, _, _, rfl, newB fun g26 w27 b26 f27 h26 => stAllB (vs := x.cells) b26 rfl fun w28 b28 f28 => ?_⟩
  obtain ⟨rp, rc, sp, sc, hx, _, s8, _, _⟩ := c8
  subst hx
  have z8 := p8.F.size
  have F28 : Fr [] w8 w28 := f27.loc f28 h26
  have p28 := (p8.keep' f27).off (p8.t.fresh h26) (by omega) f28
  have s28 := s8.keep' F28
  have hw28 := hw8.keep' F28
  refine bc_eqt' rfl (ld_sl (a := sp) (n := y.result.length) (c := sc) (b28.cat 10 _ rfl) (ids_spec s28.cells hw28 (by rw [hr]; omega) fun w31 f31 => ⟨_, rfl, bc_bool (fun _ => ?_) (fun h => by rw [hr] at h; simp at h)⟩))
  have p31 := p28.keep' f31
  refine held_spec p31.t hc fun p3 c3 w34 r34 n34 f34 => ⟨_, _, _, rfl, bc_eqt' rfl (ld_int ((b28.keep' (f31.tr f34)).cat 9 _ rfl) ?_)⟩
  have := hQ w34 (p31.F.tr f34)
  rw [show ((y.cl rp rc sp sc).code == 4) = (y.code == 4) from rfl, hcode]
  exact this
theorem held_j1 (hn : 2 ≤ C.nodes) (hc : C.calls ≤ 16) (p : PL W w g ft al (oneS C lat last y)) (ic : IB W w al gc v) (hv : nzI v = true) (h1 : y.to = 2) (h2 : y.num = 1) (h4 : y.state = 2) (hr : y.result = [v]) (h0 : y.code = 0)
    (hQ : ∀ w', Fr [] W w' → Q (.bool true) w') : X7.j1 Q rf (some (at0 g 0)) (at0 gc 0) 1 w := by
  unfold X7.j1
  refine ld_int (ic.b.cat 0 _ rfl) (ld_int (ic.b.cat 1 _ rfl) (newB fun g3 w4 b3 f4 h3 => ?_))
  have p4 := p.keep' f4
  have b3 : Blk w4 g3 (idc v) 26 := b3
  have n3 := p.t.fresh h3
  have l3 := b3.lt
  refine bc_bool (fun hrf => ?_) (fun hrf => ?_)
  · refine settle_spec p4.t ?_
    rw [one_settle hn h1 h2 h4, if_pos (by decide)]
    intro ft6 al6 w6 t6 f6 e6 a6
    have p6 := p4.next t6 f6 a6
    refine ⟨_, rfl, held_j0 (y := { y with state := 3, code := 4, back := 0, result := [] }) (want := []) hn hc p6 rfl rfl rfl (by simp) (by intro j u hj; simp at hj) (by simp [fbl]) (by rw [hrf]; rfl) hQ⟩
  · refine settle_spec p4.t ?_
    rw [one_settle hn h1 h2 h4, if_neg (by decide)]
    intro ft6 al6 w6 t6 f6 e6 a6
    have p6 := p4.next t6 f6 a6
    refine ⟨_, rfl, held_j0 (y := { y with state := 3 }) (want := [v]) hn hc p6 rfl ?_ hr (by simp) (idOne (b3.keep f6 (fun hm => n3 (p.t.sub _ hm)))).cells (fun k hk => ?_) ?_ hQ⟩
    · show ((if (decide ((3 : Int) = 1 ∨ (3 : Int) = 4)) = true then (y.tn, y.ts) :: y.refs else y.result).filter nzI) = [v]
      rw [hr, if_neg (by decide)]
      simp [List.filter, hv]
    · simp [fbl, at0] at hk
      subst hk
      exact p4.out n3 l3 a6
    · rw [hrf]
      show ((y.code == 4) == false) = true
      rw [h0]
      rfl
def yB (ts : Int) (b : Int × Int) : Cp := ⟨2, 1, 3, 0, 2, ts, [b], 0, 1, 0, [], 0, 0, 0, 0⟩
abbrev yC (ts : Int) (b c : Int × Int) : Cp := { yB ts b with state := 2, code := 0, back := 0, result := [c] }
variable {b v : Int × Int}
theorem heldC_yC (hv : nzI v = true) : heldOf (yC ts b v) = [v] := by
  show ((if (decide ((2 : Int) = 1 ∨ (2 : Int) = 4)) = true then _ else [v]).filter nzI) = [v]
  rw [if_neg (by decide)]
  simp [List.filter, hv]
theorem heldC_yB (hb : nzI b = true) (ht : 1 ≤ ts) : heldOf (yB ts b) = [(2, ts), b] := by
  show ((if (decide ((1 : Int) = 1 ∨ (1 : Int) = 4)) = true then [(2, ts), b] else _).filter nzI) = _
  rw [if_pos (by decide)]
  have h2 : nzI (2, ts) = true := by unfold nzI noneB; rfl
  simp only [List.filter, h2, hb]
theorem pinned_yB (hb : nzI b = true) {z : Int × Int} : pinnedC (oneS C lat last (yB ts b)) z = decide (b = z) := by
  rw [pinned_one]
  have h1 : openB (yB ts b) = true := rfl
  have h2 : (!noneB b.1 b.2) = true := hb
  rw [h1]
  show (true && ([b].any fun w => decide (w = z) && !noneB w.1 w.2)) = _
  simp [h2]
theorem held_j2 (hn : 2 ≤ C.nodes) (hc : C.calls ≤ 16) (p : PL W w g ft al (oneS C lat last (yB ts b))) (ib : IB W w al gb b) (ic : IB W w al gc v) (hv : nzI v = true)
    (hQ : ∀ w', Fr [] W w' → Q (.bool true) w') : X7.j2 Q rf (some (at0 g 0)) (at0 gb 0) (at0 gc 0) 1 w := by
  unfold X7.j2
  refine ld_int (ic.b.cat 0 _ rfl) (ld_int (ic.b.cat 1 _ rfl) (newB fun g3 w4 b3 f4 h3 => ?_))
  have p4 := p.keep' f4
  have n3 := p.t.fresh h3
  refine reply_spec' (S := oneS C lat last (yB ts b)) (m := ⟨2, 2, 1, 1, 0, 0, 0, 0, 0, 0, [v], 0, 0, 0, 0, 0, 0, 0, []⟩) (rp := some (at0 g3 0)) (rc := 1) (lc := 0) p4.t (idOne b3) (by simp) (fun k hk hm => ?_) ?_
  · simp [fbl, at0] at hk
    subst hk
    exact n3 (p.t.sub _ hm)
  have er : replyC (oneS C lat last (yB ts b)) 2 1 2 1 0 0 [v] = (oneS C lat last (yC ts b v), [v], false) := one_reply1 hn rfl rfl rfl
  intro tp tc ft6 al6 w6 r6 n6 t6 f6 e6 a6
  simp only [er] at r6 t6 ⊢
  have p6 := p4.next t6 f6 a6
  have ib6 := (ib.keep' f4).next p4 f6 a6
  have ic6 := (ic.keep' f4).next p4 f6 a6
  have tail : ∀ w18, PL W w18 g ft6 al6 (oneS C lat last (yC ts b v)) → IB W w18 al6 gb b → IB W w18 al6 gc v → (ldI .i64 w18 ((at0 gb 0).add 0) fun x20 => ldI .u64 w18 ((at0 gb 0).add 1) fun x21 => CallR Try.prog 25 #[.pointer (some (at0 g 0)), .agg #[.int .i64 x20, .int .u64 x21]] w18 fun v22 w23 => ∃ (y24 : Bool), v22 = .bool y24 ∧ bcase y24 (Q (.bool false) w23) (ldI .i64 w23 ((at0 gc 0).add 0) fun x25 => ldI .u64 w23 ((at0 gc 0).add 1) fun x26 => CallR Try.prog 25 #[.pointer (some (at0 g 0)), .agg #[.int .i64 x25, .int .u64 x26]] w23 fun v27 w28 => ∃ (y29 : Bool), v27 = .bool y29 ∧ bcase y29 (Q (.bool false) w28) (X7.j1 Q rf (some (at0 g 0)) (at0 gc 0) 1 w28))) := by
    intro w18 p18 ib18 ic18
    refine ld_int (ib18.b.cat 0 _ rfl) (ld_int (ib18.b.cat 1 _ rfl) (pinned_spec p18.t fun w23 f23 => ⟨_, rfl, bc_bool (fun h => ?_) (fun _ => ?_)⟩))
    · rw [pinned_one] at h
      cases h
    have ic23 := ic18.keep' f23
    have p23 := p18.keep' f23
    refine ld_int (ic23.b.cat 0 _ rfl) (ld_int (ic23.b.cat 1 _ rfl) (pinned_spec p23.t fun w28 f28 => ⟨_, rfl, bc_bool (fun h => ?_) (fun _ => ?_)⟩))
    · rw [pinned_one] at h
      cases h
    exact held_j1 hn hc (p23.keep' f28) (ic23.keep' f28) hv rfl rfl rfl rfl rfl hQ
  have eh : heldC (oneS C lat last (yC ts b v)) = [v] := by rw [heldC_one]; exact heldC_yC hv
  refine ⟨_, _, _, _, rfl, drawn fun w9 f9 _ => ⟨?_, ?_⟩⟩
  · have p9 := p6.keep' f9
    have ib9 := ib6.keep' f9
    have ic9 := ic6.keep' f9
    refine held_spec p9.t hc fun hp' hc' w11 r11 n11 f11 => ⟨_, _, _, rfl, ?_⟩
    have p11 := p9.keep' f11
    have ib11 := ib9.keep' f11
    have ic11 := ic9.keep' f11
    rw [eh] at r11 ⊢
    refine ld_int (ic11.b.cat 0 _ rfl) (ld_int (ic11.b.cat 1 _ rfl) ⟨⟨ic9.b.cat, ic11.b.cat⟩, newB fun g15 w16 b15 f16 h15 => ?_⟩)
    refine ids_spec (A := [v]) (B := [v]) (r11.keep' f16).cells (idOne b15).cells (by simp) fun w18 f18 => ⟨_, rfl, bc_bool (fun h => by simp at h) (fun _ => ?_)⟩
    exact tail w18 (p11.keep' (f16.tr f18)) (ib11.keep' (f16.tr f18)) (ic11.keep' (f16.tr f18))
  · have p9 := p6.keep' f9
    have ib9 := ib6.keep' f9
    have ic9 := ic6.keep' f9
    refine ld_int (ic9.b.cat 0 _ rfl) (ld_int (ic9.b.cat 1 _ rfl) (newB fun g15 w33 b15 f33 h15 => ?_))
    have ic33 := ic9.keep' f33
    refine held_spec (p9.keep' f33).t hc fun hp' hc' w11 r11 n11 f11 => ⟨_, _, _, rfl, ?_⟩
    rw [eh] at r11 ⊢
    refine ⟨⟨ic33.b.cat, (ic33.keep' f11).b.cat⟩, ids_spec (A := [v]) (B := [v]) r11.cells ((idOne b15).keep' f11).cells (by simp) fun w18 f18 => ⟨_, rfl, bc_bool (fun h => by simp at h) (fun _ => ?_)⟩⟩
    exact tail w18 (p9.keep' (f33.tr (f11.tr f18))) (ib9.keep' (f33.tr (f11.tr f18))) (ic9.keep' (f33.tr (f11.tr f18)))
theorem hR {S : Cs} (h : S.node = 1) (h1 : okID (2, ts)) (h2 : okID b) (h3 : 1 ≤ ts) : true = true ↔ Right (askM S (newY 2 3 0 2 ts 0 [b] 0) 1) := by
  refine ⟨fun _ => right_ask (by omega) (by show 1 ≤ (2 : Int) ∧ (2 : Int) ≤ 64; omega) (by show S.node ≠ 2; omega) (by show okSerial 1; unfold okSerial; omega) (by show (1 : Int) ≤ 1 ∧ (1 : Int) ≤ 1; omega) (by show 1 ≤ (3 : Int) ∧ (3 : Int) ≤ 6; omega) (by show 0 ≤ (0 : Int) ∧ (0 : Int) ≤ 63; omega) h1 ?_ ⟨fun x hx => ?_, by show 1 ≤ 2; omega⟩, fun _ => rfl⟩
  · show noID (2, ts) ↔ _
    unfold noID
    constructor
    · intro h; exact absurd h.1 (show ¬ (2 : Int) = 0 by decide)
    · rintro (h | h)
      · exact absurd h (by show ¬ (3 : Int) = 1; decide)
      · exact absurd h (by show ¬ (3 : Int) = 6; decide)
  · have hx' : x ∈ [b] := hx
    simp at hx'
    subst hx'
    exact h2
/-- the three IDs -/
structure Ids3 (ts : Int) (b v : Int × Int) : Prop where
  t1 : 1 ≤ ts
  ot : okID (2, ts)
  ob : okID b
  nb : nzI b = true
  nv : nzI v = true
  bt : b ≠ (2, ts)
  bv : b ≠ v
theorem held_j3 (hn : 2 ≤ C.nodes) (hc : 1 ≤ C.calls ∧ C.calls ≤ 16) (hw : 1 ≤ C.window ∧ C.window ≤ 8) (p : PL W w g ft al (newC C 1 0)) (ia : IB W w al ga (2, ts)) (ib : IB W w al gb b) (ic : IB W w al gc v) (h : Ids3 ts b v)
    (hQ : ∀ w', Fr [] W w' → Q (.bool true) w') : X7.j3 Q rf (some (at0 g 0)) (at0 ga 0) (at0 gb 0) (at0 gc 0) w := by
  obtain ⟨lat, hl, eb⟩ := one_begin (ts := ts) (refs := [b]) hn hc.1 hw
  unfold X7.j3
  refine ld_int (ia.b.cat 0 _ rfl) (ld_int (ia.b.cat 1 _ rfl) (ld_int (ib.b.cat 0 _ rfl) (ld_int (ib.b.cat 1 _ rfl) (newB fun g5 w6 b5 f6 h5 => ?_))))
  have p6 := p.keep' f6
  refine begin_spec (refs := [b]) (rp := some (at0 g5 0)) (rc := 1) p6.t (idOne b5) (by simp) (hR (S := newC C 1 0) rfl h.ot h.ob h.t1) ?_
  rw [eb]
  intro ft8 al8 w8 t8 f8 e8 a8
  have p8 : PL W w8 g ft8 al8 (oneS C lat 0 (yB ts b)) := p6.next t8 f8 a8
  have ia8 := (ia.keep' f6).next p6 f8 a8
  have ib8 := (ib.keep' f6).next p6 f8 a8
  have ic8 := (ic.keep' f6).next p6 f8 a8
  have eh : heldC (oneS C lat 0 (yB ts b)) = [(2, ts), b] := by rw [heldC_one]; exact heldC_yB h.nb h.t1
  have tail : ∀ w22, PL W w22 g ft8 al8 (oneS C lat 0 (yB ts b)) → IB W w22 al8 ga (2, ts) → IB W w22 al8 gb b → IB W w22 al8 gc v → (ldI .i64 w22 ((at0 gb 0).add 0) fun x24 => ldI .u64 w22 ((at0 gb 0).add 1) fun x25 => CallR Try.prog 25 #[.pointer (some (at0 g 0)), .agg #[.int .i64 x24, .int .u64 x25]] w22 fun v26 w27 => ∃ (y28 : Bool), v26 = .bool y28 ∧ bcase (!y28) (Q (.bool false) w27) (ldI .i64 w27 ((at0 ga 0).add 0) fun x29 => ldI .u64 w27 ((at0 ga 0).add 1) fun x30 => CallR Try.prog 25 #[.pointer (some (at0 g 0)), .agg #[.int .i64 x29, .int .u64 x30]] w27 fun v31 w32 => ∃ (y33 : Bool), v31 = .bool y33 ∧ bcase y33 (Q (.bool false) w32) (ldI .i64 w32 ((at0 gc 0).add 0) fun x34 => ldI .u64 w32 ((at0 gc 0).add 1) fun x35 => CallR Try.prog 25 #[.pointer (some (at0 g 0)), .agg #[.int .i64 x34, .int .u64 x35]] w32 fun v36 w37 => ∃ (y38 : Bool), v36 = .bool y38 ∧ bcase y38 (Q (.bool false) w37) (X7.j2 Q rf (some (at0 g 0)) (at0 gb 0) (at0 gc 0) 1 w37)))) := by
    intro w22 p22 ia22 ib22 ic22
    refine ld_int (ib22.b.cat 0 _ rfl) (ld_int (ib22.b.cat 1 _ rfl) (pinned_spec p22.t fun w27 f27 => ⟨_, rfl, bc_bool (fun hh => ?_) (fun _ => ?_)⟩))
    · rw [pinned_yB h.nb, decide_eq_true rfl] at hh
      cases hh
    have p27 := p22.keep' f27
    have ia27 := ia22.keep' f27
    have ib27 := ib22.keep' f27
    have ic27 := ic22.keep' f27
    refine ld_int (ia27.b.cat 0 _ rfl) (ld_int (ia27.b.cat 1 _ rfl) (pinned_spec p27.t fun w32 f32 => ⟨_, rfl, bc_bool (fun hh => ?_) (fun _ => ?_)⟩))
    · rw [pinned_yB h.nb, decide_eq_false h.bt] at hh
      cases hh
    have p32 := p27.keep' f32
    have ib32 := ib27.keep' f32
    have ic32 := ic27.keep' f32
    refine ld_int (ic32.b.cat 0 _ rfl) (ld_int (ic32.b.cat 1 _ rfl) (pinned_spec p32.t fun w37 f37 => ⟨_, rfl, bc_bool (fun hh => ?_) (fun _ => ?_)⟩))
    · rw [pinned_yB h.nb, decide_eq_false h.bv] at hh
      cases hh
    exact held_j2 hn hc.2 (p32.keep' f37) (ib32.keep' f37) (ic32.keep' f37) h.nv hQ
  have two : ∀ {w : World} {gg : Nat}, Blk w gg #[.int .i64 2, .int .u64 ts, .int .i64 b.1, .int .u64 b.2].toList 26 → IdRow w (some (at0 gg 0)) 2 [(2, ts), b] := by
    intro w gg hb
    unfold IdRow
    exact own_blk (cur := [.int .i64 2, .int .u64 ts, .int .i64 b.1, .int .u64 b.2]) hb rfl (Nat.le_refl _) (by simp [maxLen]) rfl
  refine ⟨_, _, rfl, drawn fun w11 f11 _ => ⟨?_, ?_⟩⟩
  · have p11 := p8.keep' f11
    have ia11 := ia8.keep' f11
    have ib11 := ib8.keep' f11
    have ic11 := ic8.keep' f11
    refine bc_ne (fun hh => absurd rfl hh) (fun _ => held_spec p11.t hc.2 fun hp' hc' w13 r13 n13 f13 => ⟨_, _, _, rfl, ?_⟩)
    rw [eh] at r13 ⊢
    have p13 := p11.keep' f13
    have ia13 := ia11.keep' f13
    have ib13 := ib11.keep' f13
    have ic13 := ic11.keep' f13
    refine ld_int (ia13.b.cat 0 _ rfl) (ld_int (ia13.b.cat 1 _ rfl) ⟨⟨ia11.b.cat, ia13.b.cat⟩, ld_int (ib13.b.cat 0 _ rfl) (ld_int (ib13.b.cat 1 _ rfl) ⟨⟨ib11.b.cat, ib13.b.cat⟩, newB fun g19 w20 b19 f20 h19 => ?_⟩)⟩)
    refine ids_spec (A := [(2, ts), b]) (B := [(2, ts), b]) (r13.keep' f20).cells (two b19).cells (by simp) fun w22 f22 => ⟨_, rfl, bc_bool (fun hh => by simp at hh) (fun _ => ?_)⟩
    exact tail w22 (p13.keep' (f20.tr f22)) (ia13.keep' (f20.tr f22)) (ib13.keep' (f20.tr f22)) (ic13.keep' (f20.tr f22))
  · have p11 := p8.keep' f11
    have ia11 := ia8.keep' f11
    have ib11 := ib8.keep' f11
    have ic11 := ic8.keep' f11
    refine bc_ne (fun hh => absurd rfl hh) (fun _ => ld_int (ia11.b.cat 0 _ rfl) (ld_int (ia11.b.cat 1 _ rfl) (ld_int (ib11.b.cat 0 _ rfl) (ld_int (ib11.b.cat 1 _ rfl) (newB fun g43 w44 b43 f44 h43 => ?_)))))
    have ia44 := ia11.keep' f44
    have ib44 := ib11.keep' f44
    refine held_spec (p11.keep' f44).t hc.2 fun hp' hc' w46 r46 n46 f46 => ⟨_, _, _, rfl, ?_⟩
    rw [eh] at r46 ⊢
    refine ⟨⟨ib44.b.cat, (ib44.keep' f46).b.cat⟩, ⟨ia44.b.cat, (ia44.keep' f46).b.cat⟩, ids_spec (A := [(2, ts), b]) (B := [(2, ts), b]) r46.cells ((two b43).keep' f46).cells (by simp) fun w22 f22 => ⟨_, rfl, bc_bool (fun hh => by simp at hh) (fun _ => ?_)⟩⟩
    exact tail w22 (p11.keep' (f44.tr (f46.tr f22))) (ia44.keep' (f46.tr f22)) (ib44.keep' (f46.tr f22)) ((ic11.keep' f44).keep' (f46.tr f22))
theorem tmod99 {n : Int} (h : 0 ≤ n) : 0 ≤ Int.tmod n 99 ∧ Int.tmod n 99 < 99 := by
  rw [Int.tmod_eq_emod_of_nonneg h]
  exact md (by omega)
theorem held_j4 {i3 : Int × Int} (hn : 2 ≤ C.nodes) (hc : 1 ≤ C.calls ∧ C.calls ≤ 16) (hw : 1 ≤ C.window ∧ C.window ≤ 8) (p : PL W w g ft al (newC C 1 0)) (ia : IB W w al ga (2, ts)) (ib : IB W w al gb b) (i : Blk W gs (idc i3) 26) (h0 : 0 ≤ i3.2)
    (ht : 1 ≤ ts ∧ ts ≤ 99) (hb : 1 ≤ b.1 ∧ b.1 ≤ 3 ∧ 100 ≤ b.2 ∧ b.2 ≤ 198) (hQ : ∀ w', Fr [] W w' → Q (.bool true) w') : X7.j4 Q rf (at0 gs 0) (some (at0 g 0)) (at0 ga 0) (at0 gb 0) w := by
  have hm := md (n := i3.1) (m := 3) (by omega)
  have hm2 := tmod99 h0
  have e1 : IntKind.wrap .i64 (1 + i3.1 % 3) = 1 + i3.1 % 3 := i64w _ (by omega) (by omega)
  have e2 : IntKind.wrap .u64 (200 + Int.tmod i3.2 99) = 200 + Int.tmod i3.2 99 := u64w _ (by omega) (by omega)
  have h3 : Ids3 ts b (1 + i3.1 % 3, 200 + Int.tmod i3.2 99) := by
    refine ⟨ht.1, ?_, ?_, ?_, ?_, ?_, ?_⟩
    · unfold okID okSerial
      exact .inr ⟨by show 1 ≤ (2 : Int) ∧ (2 : Int) ≤ 64; omega, by show 1 ≤ ts ∧ ts ≤ _; omega⟩
    · unfold okID okSerial
      exact .inr ⟨by omega, by omega⟩
    · unfold nzI noneB
      rw [show (b.1 == 0) = false by simp; omega]
      rfl
    · unfold nzI noneB
      rw [show (((1 + i3.1 % 3, 200 + Int.tmod i3.2 99) : Int × Int).1 == 0) = false by simp; omega]
      rfl
    · intro h; rw [h] at hb; have : 100 ≤ ts := hb.2.2.1; omega
    · intro h; rw [h] at hb; have : 200 + Int.tmod i3.2 99 ≤ 198 := hb.2.2.2; omega
  unfold X7.j4
  refine drawn fun w1 f1 _ => ?_
  have p1 := p.keep' f1
  have i1 := i.keep' p1.F
  have ia1 := ia.keep' f1
  have ib1 := ib.keep' f1
  have z1 := p1.F.size
  have fin : ∀ {g7 : Nat} {w8 : World}, Fr [] w1 w8 → w1.heap.size ≤ g7 → Blk w8 g7 [.int .i64 0, .int .u64 0] 26 → stAll w8 (at0 g7 0) [.int .i64 (IntKind.wrap .i64 ((1 : Int) + i3.1 % 3)), .int .u64 (IntKind.wrap .u64 ((200 : Int) + (Int.tmod i3.2 (99 : Int))))] fun w9 => X7.j3 Q rf (some (at0 g 0)) (at0 ga 0) (at0 gb 0) (at0 g7 0) w9 := by
    intro g7 w8 f8 h7 b7
    rw [e1, e2]
    refine stAllB (vs := idc (1 + i3.1 % 3, 200 + Int.tmod i3.2 99)) b7 rfl fun w9 b9 f9 => ?_
    have n7 : g7 ∉ al := p1.t.fresh h7
    exact held_j3 hn hc hw ((p1.keep' f8).off n7 (by omega) f9) (ia1.off' h7 f8 f9) (ib1.off' h7 f8 f9) ⟨b9, n7, by omega⟩ h3 hQ
  refine ⟨?_, ?_⟩
  · refine ld_int (i1.cat 0 _ rfl) (pick_spec (by omega) (by omega) ⟨_, rfl, ld_int (i1.cat 1 _ rfl) ⟨⟨i1.cat 1 _ rfl, i1.cat 1 _ rfl⟩, by omega, newB fun g7 w8 b7 f8 h7 => ?_⟩⟩)
    have i8 := i1.keep' f8
    exact ⟨⟨i1.cat 1 _ rfl, i8.cat 1 _ rfl⟩, ⟨i1.cat 0 _ rfl, i8.cat 0 _ rfl⟩, fin f8 h7 b7⟩
  · refine ld_int (i1.cat 0 _ rfl) (ld_int (i1.cat 1 _ rfl) ⟨by omega, newB fun g7 w8 b7 f8 h7 => ?_⟩)
    have i8 := i1.keep' f8
    exact ⟨⟨i1.cat 1 _ rfl, i8.cat 1 _ rfl⟩, ⟨i1.cat 0 _ rfl, i8.cat 0 _ rfl⟩, pick_spec (by omega) (by omega) ⟨_, rfl, ⟨i8.cat 1 _ rfl, i8.cat 1 _ rfl⟩, fin f8 h7 b7⟩⟩
theorem held_j5 {gt gu : Nat} {i1 i2 i3 : Int × Int} (hn : 2 ≤ C.nodes) (hc : 1 ≤ C.calls ∧ C.calls ≤ 16) (hw : 1 ≤ C.window ∧ C.window ≤ 8) (p : PL W w g ft al (newC C 1 0)) (ia : Blk W gt (idc i1) 26) (ib : Blk W gu (idc i2) 26) (ic : Blk W gs (idc i3) 26) (h1 : 0 ≤ i1.2) (h2 : 0 ≤ i2.2) (h3 : 0 ≤ i3.2)
    (hQ : ∀ w', Fr [] W w' → Q (.bool true) w') : X7.j5 Q rf (at0 gt 0) (at0 gu 0) (at0 gs 0) (some (at0 g 0)) w := by
  have hm1 := tmod99 h1
  have hm := md (n := i2.1) (m := 3) (by omega)
  have hm2 := tmod99 h2
  have e0 : IntKind.wrap .u64 (1 + Int.tmod i1.2 99) = 1 + Int.tmod i1.2 99 := u64w _ (by omega) (by omega)
  have e1 : IntKind.wrap .i64 (1 + i2.1 % 3) = 1 + i2.1 % 3 := i64w _ (by omega) (by omega)
  have e2 : IntKind.wrap .u64 (100 + Int.tmod i2.2 99) = 100 + Int.tmod i2.2 99 := u64w _ (by omega) (by omega)
  unfold X7.j5
  refine ld_int ((ia.keep' p.F).cat 1 _ rfl) ⟨by omega, newB fun g2 w3 b2 f3 hg2 => ?_⟩
  rw [e0]
  refine stAllB (vs := idc (2, 1 + Int.tmod i1.2 99)) b2 rfl fun w4 b4 f4 => drawn fun w5 f5 _ => ?_
  have z0 := p.F.size
  have n2 := p.t.fresh hg2
  have p5 := ((p.keep' f3).off n2 (by omega) f4).keep' f5
  have ia5 : IB W w5 al g2 (2, 1 + Int.tmod i1.2 99) := ⟨b4.keep' f5, n2, by omega⟩
  have z5 := p5.F.size
  have i5 := ib.keep' p5.F
  have fin : ∀ {g7 : Nat} {w8 : World}, Fr [] w5 w8 → w5.heap.size ≤ g7 → Blk w8 g7 [.int .i64 0, .int .u64 0] 26 → stAll w8 (at0 g7 0) [.int .i64 (IntKind.wrap .i64 ((1 : Int) + i2.1 % 3)), .int .u64 (IntKind.wrap .u64 ((100 : Int) + (Int.tmod i2.2 (99 : Int))))] fun w9 => X7.j4 Q rf (at0 gs 0) (some (at0 g 0)) (at0 g2 0) (at0 g7 0) w9 := by
    intro g7 w8 f8 h7 b7
    rw [e1, e2]
    refine stAllB (vs := idc (1 + i2.1 % 3, 100 + Int.tmod i2.2 99)) b7 rfl fun w9 b9 f9 => ?_
    have n7 : g7 ∉ al := p5.t.fresh h7
    exact held_j4 (i3 := i3) (ts := 1 + Int.tmod i1.2 99) (b := (1 + i2.1 % 3, 100 + Int.tmod i2.2 99)) hn hc hw ((p5.keep' f8).off n7 (by omega) f9) (ia5.off' h7 f8 f9) ⟨b9, n7, by omega⟩ ic h3 ⟨by omega, by omega⟩ ⟨by show 1 ≤ 1 + i2.1 % 3; omega, by show 1 + i2.1 % 3 ≤ 3; omega, by show 100 ≤ 100 + Int.tmod i2.2 99; omega, by show 100 + Int.tmod i2.2 99 ≤ 198; omega⟩ hQ
  refine ⟨?_, ?_⟩
  · refine ld_int (i5.cat 0 _ rfl) (pick_spec (by omega) (by omega) ⟨_, rfl, ld_int (i5.cat 1 _ rfl) ⟨⟨i5.cat 1 _ rfl, i5.cat 1 _ rfl⟩, by omega, newB fun g7 w8 b7 f8 h7 => ?_⟩⟩)
    have i8 := i5.keep' f8
    exact ⟨⟨i5.cat 1 _ rfl, i8.cat 1 _ rfl⟩, ⟨i5.cat 0 _ rfl, i8.cat 0 _ rfl⟩, fin f8 h7 b7⟩
  · refine ld_int (i5.cat 0 _ rfl) (ld_int (i5.cat 1 _ rfl) ⟨by omega, newB fun g7 w8 b7 f8 h7 => ?_⟩)
    have i8 := i5.keep' f8
    exact ⟨⟨i5.cat 1 _ rfl, i8.cat 1 _ rfl⟩, ⟨i5.cat 0 _ rfl, i8.cat 0 _ rfl⟩, pick_spec (by omega) (by omega) ⟨_, rfl, ⟨i8.cat 1 _ rfl, i8.cat 1 _ rfl⟩, fin f8 h7 b7⟩⟩
theorem idn_open {H : Type} {W : World} {cs : Array Value} {d : DataW H} (h : Lies Try.prog W 6 26 cs.toList d) : ∃ v : Int × Int, cs = #[.int .i64 v.1, .int .u64 v.2] ∧ 0 ≤ v.2 := by
  obtain ⟨x, hx, w1⟩ := Idn_of_lies (n := 4) h
  exact ⟨(x.nd, x.sr), by apply Array.ext'; exact hx, (u64b w1).1⟩
theorem callerHeld_row {H : Type} {cs : Array Value} {d : DataW H} (h : Lies Try.prog W 6 24 cs.toList d) (hs : SizedD Try.prog 24 d) {c1 : Array Value} {d1 : DataW H} (h1 : Lies Try.prog W 6 26 c1.toList d1) (hs1 : SizedD Try.prog 26 d1)
    {c2 : Array Value} {d2 : DataW H} (h2 : Lies Try.prog W 6 26 c2.toList d2) (hs2 : SizedD Try.prog 26 d2) {c3 : Array Value} {d3 : DataW H} (h3 : Lies Try.prog W 6 26 c3.toList d3) (hs3 : SizedD Try.prog 26 d3) (rf : Bool) :
    CallR Try.prog 7 #[.agg cs, .agg c1, .agg c2, .agg c3, .bool rf] W fun v w' => v = .bool true ∧ Fr [] W w' := by
  obtain ⟨r, rfl, hr⟩ := raw_open h
  obtain ⟨i1, rfl, o1⟩ := idn_open h1
  obtain ⟨i2, rfl, o2⟩ := idn_open h2
  obtain ⟨i3, rfl, o3⟩ := idn_open h3
  apply X7.sound
  unfold X7.f
  have cr := conf_rng r
  have dr := (drift_half r).1
  refine newB fun g1 w2 b f2 _ => newB fun g3 w4 b3 f4 _ => newB fun g5 w6 b5 f6 _ => newB fun g7 w8 b7 f8 _ => ?_
  have b : Blk w8 g1 r.cells 24 := b.keep' (f4.tr (f6.tr f8))
  have b3 : Blk w8 g3 (idc i1) 26 := b3.keep' (f6.tr f8)
  have b5 : Blk w8 g5 (idc i2) 26 := b5.keep' f8
  have b7 : Blk w8 g7 (idc i3) 26 := b7
  have F8 := f2.tr (f4.tr (f6.tr f8))
  refine ld_Raw (s := r) b.cat (config_spec (r := r) fun w26 f26 => ⟨_, _, _, _, _, _, _, _, _, _, _, _, _, _, _, _, _, _, _, _, _, _, rfl, newB fun gc w50 bc f50 h50 => stAllB (vs := (configOf r).cells) bc rfl fun w51 b51 f51 => ?_⟩)
  have F26 := F8.tr f26
  have z26 := f26.size
  have F851 : Fr [] w8 w51 := (f26.tr f50).loc f51 (by omega)
  have F51 : Fr [] W w51 := F8.tr F851
  refine ld_Cfg (s := configOf r) b51.cat (newL (conf_ok hr _ (by omega)) dr fun g ft al w80 p => ⟨_, _, rfl, known_spec fun w84 f84 => ⟨_, rfl, bc_bool (fun h => by cases h) (fun _ => bc_ne (fun h => absurd rfl h) (fun _ => bc_bool (fun h => by cases h) (fun _ => ?_)))⟩⟩)
  exact held_j5 (W := w51) (by omega) (by omega) (by omega) (p.keep' f84) (b3.keep' F851) (b5.keep' F851) (b7.keep' F851) o1 o2 o3 (fun w' f' => ⟨rfl, F51.tr f'⟩)
end
end Go.Proofs.YtdgoalhnkegbmaaX
