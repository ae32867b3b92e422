/- CallerSends: a call is sent, and sent again behind its waits, till its reply comes. -/
import Derived.Test.YtdgoalhnkegbmaaL20Args
namespace Go.Proofs.YtdgoalhnkegbmaaX
open Go.RowKit
set_option linter.unusedVariables false
set_option linter.unusedSimpArgs false
set_option maxRecDepth 100000
section
variable {w w' w2 W W1 : World} {Q : Value → World → Prop} {g gs gx k : Nat} {ft al ft' al' al2 F : List Nat} {S S' : Cs} {C : Cfg} {p : Option Addr} {c : Nat} {l : List (Int × Int)} {cs : List Value} {e : TypeId} {now last to : Int} {lat : List Int} {y z : Cp} {m : Msg}
/-- a block beside the table -/
structure BB (w : World) (al : List Nat) (gx : Nat) (cs : List Value) (e : TypeId) : Prop where
  b : Blk w gx cs e
  n : gx ∉ al
/-- what lies beside the table stays -/
structure Tr (w : World) (al : List Nat) (w' : World) (al' : List Nat) : Prop where
  bb : ∀ gx cs e, BB w al gx cs e → BB w' al' gx cs e
  rb : ∀ p c l, RB w al p c l → RB w' al' p c l
  sz : w.heap.size ≤ w'.heap.size
theorem Tr.refl : Tr w al w al := ⟨fun _ _ _ h => h, fun _ _ _ h => h, Nat.le_refl _⟩
theorem Tr.tr (h : Tr w al w' al') (h2 : Tr w' al' w2 al2) : Tr w al w2 al2 := ⟨fun _ _ _ b => h2.bb _ _ _ (h.bb _ _ _ b), fun _ _ _ b => h2.rb _ _ _ (h.rb _ _ _ b), Nat.le_trans h.sz h2.sz⟩
theorem Tr.keep (f : Fr [] w w') : Tr w al w' al := ⟨fun _ _ _ h => ⟨h.b.keep' f, h.n⟩, fun _ _ _ h => h.keep' f, f.size⟩
theorem Tr.next (pl : PL W w g ft al S) (f : Fr ft w w') (e : ∀ x ∈ al', x ∈ al ∨ w.heap.size ≤ x) : Tr w al w' al' :=
  ⟨fun _ _ _ h => ⟨h.b.keep f (fun hm => h.n (pl.t.sub _ hm)), pl.out h.n h.b.lt e⟩, fun _ _ _ h => h.next pl f e, f.size⟩
theorem Tr.off (hk : w.heap.size ≤ k) (f0 : Fr [] w w') (f : Fr [k] w' w2) : Tr w al w2 al :=
  ⟨fun _ _ _ h => ⟨(h.b.keep' f0).off1 (by have := h.b.lt; omega) f, h.n⟩, fun _ _ _ h => h.off hk f0 f, Nat.le_trans f0.size f.size⟩
theorem PL.base (h : PL W1 w g ft al S) (F : Fr [] W W1) : PL W w g ft al S := ⟨h.t, fun x hx => by have := h.new x hx; have := F.size; omega, F.tr h.F⟩
theorem step_out {K : Addr → Bool → World → Prop} (p : PL W w g ft al S) {b : Bool} (es : stepC S now = (S', y, b)) (em : stepM S now = m)
    (hK : ∀ mp mc ft' al' w' gm, IdRow w' mp mc m.refs → Blk w' gm (m.cells mp mc none 0) 47 → PL W w' g ft' al' S' → Tr w al w' al' → K (at0 gm 0) b w') : CallR Try.prog 15 #[.pointer (some (at0 g 0)), .int .u64 now] w fun v1 w2 => ∃ (y3 : Int) (y4 : Int) (y5 : Int) (y6 : Int) (y7 : Int) (y8 : Int) (y9p : Option Addr) (y9n y9c : Nat) (y10 : Int) (y11 : Int) (y12 : Int) (y13p : Option Addr) (y13n y13c : Nat) (y14 : Int) (y15 : Int) (y16 : Int) (y17 : Int) (y18 : Int) (y19 : Int) (y20 : Int) (y21 : Int) (y22 : Int) (y23 : Int) (y24 : Int) (y25 : Int) (y26 : Int) (y27 : Int) (y28p : Option Addr) (y28n y28c : Nat) (y29 : Int) (y30 : Int) (y31 : Int) (y32 : Int) (y33 : Int) (y34 : Int) (y35 : Int) (y36p : Option Addr) (y36n y36c : Nat) (y37 : Bool), v1 = .tuple #[.agg #[.int .i64 y3, .int .u64 y4, .int .i64 y5, .int .i64 y6, .int .i64 y7, .int .u64 y8, .slice y9p y9n y9c, .int .u64 y10, .int .i64 y11, .int .i64 y12, .slice y13p y13n y13c, .int .u64 y14, .int .u64 y15, .int .u64 y16, .int .u64 y17], .agg #[.int .i64 y18, .int .i64 y19, .int .i64 y20, .int .u64 y21, .int .u64 y22, .int .i64 y23, .int .i64 y24, .int .i64 y25, .int .i64 y26, .int .u64 y27, .slice y28p y28n y28c, .int .u64 y29, .int .i64 y30, .int .u64 y31, .int .i64 y32, .int .u64 y33, .int .i64 y34, .int .u64 y35, .slice y36p y36n y36c], .bool y37] ∧ newK w2 #[.int .i64 (0 : Int), .int .u64 (0 : Int), .int .i64 (0 : Int), .int .i64 (0 : Int), .int .i64 (0 : Int), .int .u64 (0 : Int), .slice none 0 0, .int .u64 (0 : Int), .int .i64 (0 : Int), .int .i64 (0 : Int), .slice none 0 0, .int .u64 (0 : Int), .int .u64 (0 : Int), .int .u64 (0 : Int), .int .u64 (0 : Int)] 44 fun g38 w39 => newK w39 #[.int .i64 (0 : Int), .int .i64 (0 : Int), .int .i64 (0 : Int), .int .u64 (0 : Int), .int .u64 (0 : Int), .int .i64 (0 : Int), .int .i64 (0 : Int), .int .i64 (0 : Int), .int .i64 (0 : Int), .int .u64 (0 : Int), .slice none 0 0, .int .u64 (0 : Int), .int .i64 (0 : Int), .int .u64 (0 : Int), .int .i64 (0 : Int), .int .u64 (0 : Int), .int .i64 (0 : Int), .int .u64 (0 : Int), .slice none 0 0] 47 fun g40 w41 => stAll w41 g38 [.int .i64 y3, .int .u64 y4, .int .i64 y5, .int .i64 y6, .int .i64 y7, .int .u64 y8, .slice y9p y9n y9c, .int .u64 y10, .int .i64 y11, .int .i64 y12, .slice y13p y13n y13c, .int .u64 y14, .int .u64 y15, .int .u64 y16, .int .u64 y17] fun w42 => stAll w42 g40 [.int .i64 y18, .int .i64 y19, .int .i64 y20, .int .u64 y21, .int .u64 y22, .int .i64 y23, .int .i64 y24, .int .i64 y25, .int .i64 y26, .int .u64 y27, .slice y28p y28n y28c, .int .u64 y29, .int .i64 y30, .int .u64 y31, .int .i64 y32, .int .u64 y33, .int .i64 y34, .int .u64 y35, .slice y36p y36n y36c] fun w43 => K g40 y37 w43 := by
  refine step_spec p.t ?_
  rw [es, em]
  intro x mp mc ft4 al4 w3 m20 n20 t20 f20 e20 a20
  have p3 := p.next t20 f20 a20
  refine ⟨_, _, _, _, _, _, _, _, _, _, _, _, _, _, _, _, _, _, _, _, _, _, _, _, _, _, _, _, _, _, _, _, _, _, _, _, _, _, _, _, _, _, _, rfl, newB fun g39 w40 b39 f40 h39 => newB fun g41 w42 b41 f42 h41 => stAllB (vs := x.cells) (b39.keep' f42) rfl fun w43 b43 f43 => ?_⟩
  have l39 := b39.lt
  refine stAllB (vs := m.cells mp mc none 0) (b41.off1 (by omega) f43) rfl fun w44 b44 f44 => ?_
  have z3 := p3.F.size
  have z40 := f40.size
  have nn39 : g39 ∉ al4 := p3.t.fresh h39
  have nn41 : g41 ∉ al4 := fun hm => by have := p3.t.lt g41 hm; omega
  have p44 : PL W w44 g ft4 al4 S' := (((p3.keep' f40).keep' f42).off nn39 (by omega) f43).off nn41 (by omega) f44
  have lm := m20.lt
  have r44 : IdRow w44 mp mc m.refs := IdRow.off (IdRow.off (m20.keep' (f40.tr f42)) (fun hm => by have := lm g39 hm; omega) f43) (fun hm => by have := lm g41 hm; omega) f44
  have t1 : Tr w al w3 al4 := Tr.next p f20 a20
  have t2 : Tr w3 al4 w43 al4 := Tr.off h39 (f40.tr f42) f43
  have t3 : Tr w3 al4 w44 al4 := ⟨fun gx cs e h => ⟨(((h.b.keep' (f40.tr f42)).off1 (by have := h.b.lt; omega) f43).off1 (by have := h.b.lt; omega) f44), h.n⟩, fun p c l h => ⟨IdRow.off (IdRow.off (h.r.keep' (f40.tr f42)) (fun hm => by have := h.r.lt _ hm; omega) f43) (fun hm => by have := h.r.lt _ hm; omega) f44, h.n⟩, by have := f42.size; have := f43.size; have := f44.size; omega⟩
  exact hK mp mc ft4 al4 w44 g41 r44 b44 p44 (t1.tr t3)
/-- the table with one call alone, to any node -/
def oneT (C : Cfg) (lat : List Int) (last to : Int) (y : Cp) : Cs := ⟨C, 1, 0, lat, last, [(keyOf to 1, y)]⟩
structure OkTo (C : Cfg) (to : Int) : Prop where
  a : 2 ≤ to
  b : to ≤ C.nodes
  c : C.nodes ≤ 64
theorem ot_other (h : OkTo C to) : otherB (oneT C lat last to y) to = true := by
  have h1 := h.a
  have h2 := h.b
  unfold otherB
  rw [if_pos (by omega), if_pos (show to ≤ (oneT C lat last to y).c.nodes from h2)]
  show (to != 1) = true
  simp
  omega
theorem ot_get (h : OkTo C to) : getC (oneT C lat last to y) to 1 = some y := by
  unfold getC
  rw [if_neg (by rw [ot_other h]; simp)]
  exact get_self1
theorem ot_key (h : OkTo C to) : keyOf to 0 < keyOf to 1 ∧ 0 < keyOf to 1 := by
  have h1 := h.a
  have h2 := h.b
  have h3 := h.c
  rw [keyOf_eq (by omega) (by omega) (by omega) (by omega), keyOf_eq (by omega) (by omega) (by omega) (by omega)]
  omega
theorem ot_floor (h : OkTo C to) : floorC (oneT C lat last to y) to = 1 := by
  have h1 := h.a
  have h2 := h.b
  have h3 := h.c
  unfold floorC
  rw [if_neg (by rw [ot_other h]; simp)]
  rw [show next ilt (oneT C lat last to y).l (keyOf to 0) = some (keyOf to 1) from next_lt1 (ot_key h).1]
  simp only
  rw [key_shr (by omega) (by omega) (by omega) (by omega), if_neg (by simp), key_and (by omega) (by omega) (by omega) (by omega)]
theorem ot_put (h1 : z.to = to) (h2 : z.num = 1) : putC (oneT C lat last to y) z = oneT C lat last to z := by
  show { oneT C lat last to y with l := putF C.calls [(keyOf to 1, y)] (keyOf z.to z.num) z } = _
  rw [h1, h2]
  unfold putF
  rw [has_self1, if_pos (.inl rfl), put_self1]
  rfl
theorem ot_after (h : OkTo C to) (hl : last = 0 ∨ last = keyOf to 1) : after ilt (oneT C lat last to y).l (oneT C lat last to y).last = some (keyOf to 1) := by
  show after ilt [(keyOf to 1, y)] last = _
  rcases hl with rfl | rfl
  · exact after_lt1 (ot_key h).2
  · unfold after next
    rw [has_self1, at_self1]
    rfl
theorem ot_step (h : OkTo C to) (hl : last = 0 ∨ last = keyOf to 1) (h1 : y.to = to) (h2 : y.num = 1) (hs : (decide (y.state = 1 ∨ y.state = 4) && pastB y.sent y.wait now) = true) :
    stepC (oneT C lat last to y) now = (oneT C lat (keyOf to 1) to { y with sent := now, wait := waitN y.wait C.wait C.most }, y, true) := by
  unfold stepC
  have e : get ilt (oneT C lat last to y).l (keyOf to 1) = some y := get_self1
  have es : sendsB (oneT C lat last to y) y now = true := hs
  rw [ot_after h hl]
  simp only [e, Option.getD_some, es, if_true]
  show (putC (oneT C lat (keyOf to 1) to y) { y with sent := now, wait := waitN y.wait C.wait C.most }, y, true) = _
  rw [ot_put (z := { y with sent := now, wait := waitN y.wait C.wait C.most }) h1 h2]
theorem ot_stop (h : OkTo C to) (hl : last = 0 ∨ last = keyOf to 1) (hs : (decide (y.state = 1 ∨ y.state = 4) && pastB y.sent y.wait now) = false) :
    stepC (oneT C lat last to y) now = (oneT C lat (keyOf to 1) to y, y, false) := by
  unfold stepC
  have e : get ilt (oneT C lat last to y).l (keyOf to 1) = some y := get_self1
  have es : sendsB (oneT C lat last to y) y now = false := hs
  rw [ot_after h hl]
  simp only [e, Option.getD_some, es]
  rfl
theorem ot_stepM (h : OkTo C to) (hl : last = 0 ∨ last = keyOf to 1) (h1 : y.to = to) (h2 : y.num = 1) (hs : (decide (y.state = 1 ∨ y.state = 4) && pastB y.sent y.wait now) = true) :
    stepM (oneT C lat last to y) now = askM (oneT C lat (keyOf to 1) to { y with sent := now, wait := waitN y.wait C.wait C.most }) y 1 := by
  unfold stepM
  rw [ot_step h hl h1 h2 hs]
  simp only [if_true, h1]
  rw [ot_floor h]
theorem ot_stopM (h : OkTo C to) (hl : last = 0 ∨ last = keyOf to 1) (hs : (decide (y.state = 1 ∨ y.state = 4) && pastB y.sent y.wait now) = false) : stepM (oneT C lat last to y) now = mZ := by
  unfold stepM
  rw [ot_stop h hl hs]
  rfl
theorem ot_reply (h : OkTo C to) (h1 : y.to = to) (h2 : y.num = 1) (h4 : y.state = 1) {refs : List (Int × Int)} : replyC (oneT C lat last to y) 2 1 to 1 0 0 refs = (oneT C lat last to { y with state := 2, code := 0, back := 0, result := refs }, refs, false) := by
  unfold replyC
  rw [if_neg (by rw [ot_other h]; simp [oneT]), ot_get h]
  simp only [h4]
  rw [if_pos trivial, ot_put (by exact h1) (by exact h2)]
theorem ot_again (h : OkTo C to) (h4 : y.state = 2) {refs : List (Int × Int)} : replyC (oneT C lat last to y) 2 1 to 1 0 0 refs = (oneT C lat last to y, [], false) := by
  unfold replyC
  rw [if_neg (by rw [ot_other h]; simp [oneT]), ot_get h]
  simp only [h4]
  rw [if_neg (by decide), if_neg (by decide), if_neg (by decide)]
theorem ot_begin {op field tn ts value : Int} {refs : List (Int × Int)} (h : OkTo C to) (hc : 1 ≤ C.calls) (hw : 1 ≤ C.window ∧ C.window ≤ 8) (ht : noneB tn ts = true ∨ tn = to) :
    ∃ lat, beginS (newC C 1 0) true to op field tn ts value refs now = (oneT C lat 0 to ⟨to, 1, op, field, tn, ts, refs, value, 1, 0, [], 0, now, 0, now⟩, 1, 0) := by
  have h1 := h.a
  have h2 := h.b
  have h3 := h.c
  obtain ⟨e1, e2, e3⟩ := run_begin (op := op) (field := field) (tn := tn) (ts := ts) (value := value) (now := now) (refs := refs) (run_new (c := C) (to := to) (b := 0) (by omega) h2) h1 h2 (by omega) (by omega) (by omega) (by omega) (by omega) hw.2 ht
  have e4 : ((0 : Int) + ((0 : Nat) : Int) + 1) = 1 := rfl
  rw [e4] at e1 e3
  refine ⟨(newC C 1 0).latest.set to.toNat 1, ?_⟩
  rw [e1] at e3 ⊢
  have e5 : (putC { newC C 1 0 with latest := (newC C 1 0).latest.set to.toNat 1 } ⟨to, 1, op, field, tn, ts, refs, value, 1, 0, [], 0, now, 0, now⟩).l = [(keyOf to 1, ⟨to, 1, op, field, tn, ts, refs, value, 1, 0, [], 0, now, 0, now⟩)] := e3
  show ((⟨C, 1, 0, (newC C 1 0).latest.set to.toNat 1, 0, (putC { newC C 1 0 with latest := (newC C 1 0).latest.set to.toNat 1 } ⟨to, 1, op, field, tn, ts, refs, value, 1, 0, [], 0, now, 0, now⟩).l⟩ : Cs), (1 : Int), (0 : Int)) = _
  rw [e5]
  rfl
/-- the next wait, as the statement has it -/
theorem wait_next {wt : Int} (hw : 1 ≤ C.wait ∧ C.wait ≤ C.most ∧ C.most ≤ 4294967295) (h0 : wt = 0 ∨ (C.wait ≤ wt ∧ wt ≤ C.most)) :
    waitN wt C.wait C.most = min2 (max2 C.wait (IntKind.wrap .u64 (2 * wt))) C.most ∧ C.wait ≤ waitN wt C.wait C.most ∧ waitN wt C.wait C.most ≤ C.most := by
  have e2 : IntKind.wrap .u64 (2 * wt) = 2 * wt := u64w _ (by omega) (by omega)
  have em : IntKind.wrap .u64 (Int.tdiv C.most 2) = C.most / 2 := by rw [Int.tdiv_eq_ediv_of_nonneg (by omega)]; exact u64w _ (by omega) (by omega)
  unfold waitN
  rw [e2, em]
  unfold min2 max2
  rcases h0 with rfl | h0
  · rw [if_pos rfl, if_neg (show ¬ 2 * (0 : Int) > C.wait by omega)]
    split <;> omega
  · rw [if_neg (show ¬ wt = 0 by omega)]
    refine ⟨?_, ?_, ?_⟩ <;> (repeat' split) <;> omega
theorem past_at {s wt d : Int} (h0 : 0 ≤ s) (h1 : 0 ≤ d) (h2 : d ≤ 4294967295000) : pastB s wt (s + d) = decide (d ≥ wt) := by
  unfold pastB
  rw [if_pos (by omega), show s + d - s = d by omega, u64w d (by omega) (by omega)]
/-- the call under way -/
abbrev yS (x : Sq) (to tn ts snt wt : Int) : Cp := ⟨to, 1, argOp x, x.field % 64, tn, ts, argRefs x, x.n, 1, 0, [], 0, snt, wt, 5⟩
variable {x : Sq} {gc gt k2 : Nat} {rp rp0 : Option Addr} {rc rc0 : Nat} {times tn ts : Int}
theorem sends_j1 {b0 : Int → Addr → Addr → Option Addr → Int → Int → Int → Addr → Option Addr → Nat → Nat → Int → Int → Int → Int → World → Prop} {snt wt : Int} {i : Nat} {x0 : Sq} (h : OkTo C to) (hl : last = 0 ∨ last = keyOf to 1) (p : PL W w g ft al (oneT C lat last to (yS x to tn ts snt wt)))
    (bc : BB w al gc C.cells 31) (bs : BB w al gs (x0.cells rp0 rc0) 29) (hxn : x0.n = x.n) (bt : BB w al gt (idc (tn, ts)) 26) (rb : RB w al rp rc (argRefs x)) (hs : 0 ≤ snt ∧ snt ≤ 4294967295000) (hw : 0 ≤ wt ∧ wt ≤ 4294967295)
    (hB : ∀ w' ft' al', PL W w' g ft' al' (oneT C lat (keyOf to 1) to (yS x to tn ts (snt + wt) (waitN wt C.wait C.most))) → Tr w al w' al' → b0 times (at0 gs 0) (at0 gc 0) (some (at0 g 0)) to (argOp x) (x.field % 64) (at0 gt 0) rp (argRefs x).length rc 1 (snt + wt) (min2 (max2 C.wait (IntKind.wrap .u64 (2 * wt))) C.most) (IntKind.wrap .i64 ((i : Int) + 1)) w') :
    X3.j1 Q b0 times (at0 gs 0) (at0 gc 0) (some (at0 g 0)) to (argOp x) (x.field % 64) (at0 gt 0) rp (argRefs x).length rc 1 snt wt (i : Int) w := by
  unfold X3.j1
  have ew : IntKind.wrap .u64 (snt + wt) = snt + wt := u64w _ (by omega) (by omega)
  rw [ew]
  have hsd : (decide ((yS x to tn ts snt wt).state = 1 ∨ (yS x to tn ts snt wt).state = 4) && pastB (yS x to tn ts snt wt).sent (yS x to tn ts snt wt).wait (snt + wt)) = true := by
    show (decide ((1 : Int) = 1 ∨ (1 : Int) = 4) && pastB snt wt (snt + wt)) = true
    rw [past_at hs.1 hw.1 (by omega), decide_eq_true (show wt ≥ wt by omega)]
    rfl
  refine step_out p (ot_step h hl rfl rfl hsd) (ot_stepM h hl rfl rfl hsd) fun mp mc ft' al' w' gm hr hb p' tr => ?_
  have bt' := tr.bb _ _ _ bt
  have bs' := tr.bb _ _ _ bs
  have rb' := tr.rb _ _ _ rb
  refine bc_bool (fun e => by cases e) (fun _ => ld_int (hb.cat 0 _ rfl) (bc_ne (fun e => absurd rfl e) (fun _ => ld_int (hb.cat 1 _ rfl) (bc_ne (fun e => absurd rfl e) (fun _ => ld_int (hb.cat 2 _ rfl) (bc_ne (fun e => absurd rfl e) (fun _ => ld_int (hb.cat 3 _ rfl) (bc_ne (fun e => absurd rfl e) (fun _ => ?_)))))))))
  refine ld_int (hb.cat 4 _ rfl) (bc_ne (fun e => absurd rfl e) (fun _ => ld_int (hb.cat 5 _ rfl) (bc_ne (fun e => absurd rfl e) (fun _ => ld_int (hb.cat 6 _ rfl) (bc_ne (fun e => absurd rfl e) (fun _ => ?_))))))
  refine ld_int (hb.cat.sub 8 0 rfl) (ld_int (hb.cat.sub 8 1 rfl) (ld_int (bt'.b.cat 0 _ rfl) (ld_int (bt'.b.cat 1 _ rfl) ⟨isS26, bc_bool (fun e => ?_) (fun _ => ?_)⟩)))
  · exfalso
    have : (!((tn == tn) && ((ts == ts) && true))) = true := e
    simp at this
  refine ld_int (hb.cat 11 _ rfl) (ld_int (bs'.b.cat 5 _ rfl) (bc_ne (fun e => absurd hxn.symm e) (fun _ => ld_sl (a := mp) (n := (argRefs x).length) (c := mc) (hb.cat 10 _ rfl) ?_)))
  have hlen : (argRefs x).length ≤ 1000000 := by unfold argRefs; rw [List.length_map, List.length_take]; omega
  have hr : IdRow w' mp mc (argRefs x) := hr
  refine ids_spec hr.cells rb'.r.cells hlen fun w59 f59 => ⟨_, rfl, bc_bool (fun e => by simp at e) (fun _ => ?_)⟩
  have bc' := (tr.bb _ _ _ bc).b.keep' f59
  refine ld_int (bc'.cat 14 _ rfl) (ld_int (bc'.cat 15 _ rfl) ?_)
  exact hB w59 ft' al' (p'.keep' f59) (tr.tr (Tr.keep f59))
theorem sends_l0 {x0 : Sq} (h : OkTo C to) (hwt : 1 ≤ C.wait ∧ C.wait ≤ C.most ∧ C.most ≤ 4294967295) (hxn : x0.n = x.n) (hQ : ∀ w', Fr [] W w' → Q (.bool true) w') :
    ∀ (f i : Nat) (w : World) (ft al : List Nat) (last snt wt : Int), 9 - i < f → i ≤ 8 → PL W w g ft al (oneT C lat last to (yS x to tn ts snt wt)) → (last = 0 ∨ last = keyOf to 1) → BB w al gc C.cells 31 → BB w al gs (x0.cells rp0 rc0) 29 → BB w al gt (idc (tn, ts)) 26 → RB w al rp rc (argRefs x) →
      (wt = 0 ∨ (C.wait ≤ wt ∧ wt ≤ C.most)) → 0 ≤ snt → snt ≤ 5 + (i : Int) * 4294967295 → X3.l0 Q f times (at0 gs 0) (at0 gc 0) (some (at0 g 0)) to (argOp x) (x.field % 64) (at0 gt 0) rp (argRefs x).length rc 1 snt wt (i : Int) w := by
  intro f
  induction f with
  | zero => intro i w ft al last snt wt hf; exact absurd hf (Nat.not_lt_zero _)
  | succ f ih =>
    intro i w ft al last snt wt hf hi p hl bc bs bt rb h0 s0 s1
    rw [X3.l0]
    have hm := md (n := times) (m := 9) (by omega)
    have hlen : (argRefs x).length ≤ 2 := by unfold argRefs; rw [List.length_map, List.length_take]; omega
    refine pick_spec (by omega) (by omega) ⟨_, rfl, bc_dec (fun h1 => ?_) (fun h1 => ?_)⟩
    · have hi64 : IntKind.wrap .i64 ((i : Int) + 1) = ((i + 1 : Nat) : Int) := by rw [i64w ((i : Int) + 1) (by omega) (by omega)]; omega
      have wn := wait_next (C := C) hwt h0
      have rest : ∀ {w1 : World} {ft1 al1 : List Nat} {last1 : Int}, PL W w1 g ft1 al1 (oneT C lat last1 to (yS x to tn ts snt wt)) → (last1 = 0 ∨ last1 = keyOf to 1) → Tr w al w1 al1 → X3.j1 Q (X3.l0 Q f) times (at0 gs 0) (at0 gc 0) (some (at0 g 0)) to (argOp x) (x.field % 64) (at0 gt 0) rp (argRefs x).length rc 1 snt wt (i : Int) w1 := by
        intro w1 ft1 al1 last1 p1 hl1 tr1
        refine sends_j1 h hl1 p1 (tr1.bb _ _ _ bc) (tr1.bb _ _ _ bs) hxn (tr1.bb _ _ _ bt) (tr1.rb _ _ _ rb) ⟨s0, by omega⟩ (by omega) fun w' ft' al' p' tr' => ?_
        rw [hi64, ← wn.1]
        have tr := tr1.tr tr'
        exact ih (i + 1) w' ft' al' (keyOf to 1) (snt + wt) (waitN wt C.wait C.most) (by omega) (by omega) p' (.inr rfl) (tr.bb _ _ _ bc) (tr.bb _ _ _ bs) (tr.bb _ _ _ bt) (tr.rb _ _ _ rb) (.inr wn.2) (by omega) (by omega)
      refine bc_dec (fun h2 => ?_) (fun h2 => rest p hl Tr.refl)
      have ew : IntKind.wrap .u64 (IntKind.wrap .u64 (snt + wt) - 1) = snt + (wt - 1) := by rw [u64w (snt + wt) (by omega) (by omega), u64w _ (by omega) (by omega)]; omega
      rw [ew]
      have hsd : (decide ((yS x to tn ts snt wt).state = 1 ∨ (yS x to tn ts snt wt).state = 4) && pastB (yS x to tn ts snt wt).sent (yS x to tn ts snt wt).wait (snt + (wt - 1))) = false := by
        show (decide ((1 : Int) = 1 ∨ (1 : Int) = 4) && pastB snt wt (snt + (wt - 1))) = false
        rw [past_at s0 (by omega) (by omega), decide_eq_false (show ¬ wt - 1 ≥ wt by omega)]
        rfl
      refine step_out p (ot_stop h hl hsd) (ot_stopM h hl hsd) fun mp mc ft' al' w' gm hr hb p' tr => bc_bool (fun e => by cases e) (fun _ => rest p' (.inr rfl) tr)
    · refine reply_spec' (S := oneT C lat last to (yS x to tn ts snt wt)) (m := ⟨2, to, 1, 1, 0, 0, 0, 0, 0, 0, argRefs x, 0, 0, 0, 0, 0, 0, 0, []⟩) (lc := 0) p.t rb.r (by show (argRefs x).length ≤ 4096; omega) (fun k hk hm => rb.n k hk (p.t.sub k hm)) ?_
      have er : replyC (oneT C lat last to (yS x to tn ts snt wt)) 2 1 to 1 0 0 (argRefs x) = (oneT C lat last to { yS x to tn ts snt wt with state := 2, code := 0, back := 0, result := argRefs x }, argRefs x, false) := ot_reply h rfl rfl rfl
      intro tp tc ft7 al7 w7 r7 n7 t7 f7 e7 a7
      simp only [er] at r7 t7 ⊢
      have p7 := p.next t7 f7 a7
      have tr7 : Tr w al w7 al7 := Tr.next p f7 a7
      have rt7 : RB w7 al7 tp tc (argRefs x) := ⟨r7, fun k hk => (n7 k hk).2⟩
      have bc7 := tr7.bb _ _ _ bc
      have rb7 := tr7.rb _ _ _ rb
      refine ⟨_, _, _, _, rfl, ld_int (bc7.b.cat 15 _ rfl) ?_⟩
      have hst : ∀ now, (decide (({ yS x to tn ts snt wt with state := 2, code := 0, back := 0, result := argRefs x } : Cp).state = 1 ∨ ({ yS x to tn ts snt wt with state := 2, code := 0, back := 0, result := argRefs x } : Cp).state = 4) && pastB ({ yS x to tn ts snt wt with state := 2, code := 0, back := 0, result := argRefs x } : Cp).sent ({ yS x to tn ts snt wt with state := 2, code := 0, back := 0, result := argRefs x } : Cp).wait now) = false := fun now => rfl
      refine step_out p7 (ot_stop h hl (hst _)) (ot_stopM h hl (hst _)) fun mp mc ft9 al9 w9 gm hr9 hb9 p9 tr9 => ?_
      refine reply_spec' (S := oneT C lat (keyOf to 1) to { yS x to tn ts snt wt with state := 2, code := 0, back := 0, result := argRefs x }) (m := ⟨2, to, 1, 1, 0, 0, 0, 0, 0, 0, [], 0, 0, 0, 0, 0, 0, 0, []⟩) (rp := none) (rc := 0) (lc := 0) p9.t Own.nil (by simp) (by simp [fbl]) ?_
      have er2 : replyC (oneT C lat (keyOf to 1) to { yS x to tn ts snt wt with state := 2, code := 0, back := 0, result := argRefs x }) 2 1 to 1 0 0 [] = (oneT C lat (keyOf to 1) to { yS x to tn ts snt wt with state := 2, code := 0, back := 0, result := argRefs x }, [], false) := ot_again h rfl
      intro up uc ft11 al11 w11 r11 n11 t11 f11 e11 a11
      simp only [er2] at r11 t11 ⊢
      have p11 := p9.next t11 f11 a11
      have tr11 : Tr w9 al9 w11 al11 := Tr.next p9 f11 a11
      have rt11 := tr11.rb _ _ _ (tr9.rb _ _ _ rt7)
      have rb11 := tr11.rb _ _ _ (tr9.rb _ _ _ rb7)
      refine ⟨_, _, _, _, rfl, ids_spec rt11.r.cells rb11.r.cells (by omega) fun w13 f13 => ⟨_, rfl, bc_bool (fun _ => bc_bool (fun _ => bc_bool (fun _ => bc_eqt' rfl (hQ w13 (p11.F.tr f13))) (fun e => by cases e)) (fun e => by cases e)) (fun e => by simp at e)⟩⟩
theorem ld_Sq {w : World} {a : Addr} {x : Sq} {p : Option Addr} {c : Nat} {K : Int → Int → Int → Int → Int → Int → Int → Int → Option Addr → Nat → Nat → Bool → Prop} (h : At w a (x.cells p c)) (hk : K x.what x.to x.op x.field x.num x.n x.tn x.ts p x.refs.length c x.near) :
    ldI .i64 w (a.add 0) fun x0 => ldI .i64 w (a.add 1) fun x1 => ldI .i64 w (a.add 2) fun x2 => ldI .i64 w (a.add 3) fun x3 => ldI .u64 w (a.add 4) fun x4 => ldI .u64 w (a.add 5) fun x5 => ldI .i64 w (a.add 6) fun x6 => ldI .u64 w (a.add 7) fun x7 => ldSl w (a.add 8) fun x8p x8n x8c => ldB w (a.add 9) fun x9 => K x0 x1 x2 x3 x4 x5 x6 x7 x8p x8n x8c x9 :=
  ld_int (h 0 _ rfl) (ld_int (h 1 _ rfl) (ld_int (h 2 _ rfl) (ld_int (h 3 _ rfl) (ld_int (h 4 _ rfl) (ld_int (h 5 _ rfl) (ld_int (h 6 _ rfl) (ld_int (h 7 _ rfl) (ld_sl (h 8 _ rfl) (ld_bool (h 9 _ rfl) hk)))))))))
theorem args_right {S : Cs} (hS : S.node = 1) (hw : SqW x) (h1 : 2 ≤ argTo C x) (h2 : argTo C x ≤ 64) : true = true ↔ Right (askM S (newY (argTo C x) (argOp x) (x.field % 64) (argTg C x).1 (argTg C x).2 x.n (argRefs x) now) 1) := by
  have hm := md (n := x.op) (m := 6) (by omega)
  have hf := md (n := x.field) (m := 64) (by omega)
  have hm4 := tmod_rng (m := 4) hw.num.1 (by omega)
  have ho : 1 ≤ argOp x ∧ argOp x ≤ 6 := by unfold argOp; omega
  refine ⟨fun _ => right_ask (by omega) ⟨by show 1 ≤ argTo C x; omega, h2⟩ (by show S.node ≠ argTo C x; omega) (by show okSerial 1; unfold okSerial; omega) (by show (1 : Int) ≤ 1 ∧ (1 : Int) ≤ 1; omega) ho (by show 0 ≤ x.field % 64 ∧ x.field % 64 ≤ 63; omega) ?_ ?_ ⟨fun z hz => ?_, ?_⟩, fun _ => rfl⟩
  · show okID ((argTg C x).1, (argTg C x).2)
    unfold argTg okID okSerial
    split
    · exact .inl ⟨rfl, rfl⟩
    · exact .inr ⟨by show 1 ≤ argTo C x ∧ argTo C x ≤ 64; omega, by show 1 ≤ 1 + Int.tmod x.num 4 ∧ 1 + Int.tmod x.num 4 ≤ _; omega⟩
  · show noID ((argTg C x).1, (argTg C x).2) ↔ (argOp x = 1 ∨ argOp x = 6)
    unfold argTg noID
    constructor
    · intro h
      by_cases hh : argOp x = 1 ∨ argOp x = 6
      · exact hh
      · rw [if_neg hh] at h
        have : argTo C x = 0 := h.1
        omega
    · intro h
      rw [if_pos h]
      exact ⟨rfl, rfl⟩
  · have hz' : z ∈ argRefs x := hz
    obtain ⟨u, hu, rfl⟩ := List.mem_map.1 hz'
    have hm3 := md (n := u.1) (m := 3) (by omega)
    have hm5 := tmod_rng (n := u.2) (m := 5) (hw.refs u (List.mem_of_mem_take hu)).1 (by omega)
    unfold okID okSerial argRef
    exact .inr ⟨by show 1 ≤ 1 + u.1 % 3 ∧ 1 + u.1 % 3 ≤ 64; omega, by show 1 ≤ 1 + Int.tmod u.2 5 ∧ 1 + Int.tmod u.2 5 ≤ _; omega⟩
  · show (argRefs x).length ≤ 2
    unfold argRefs
    rw [List.length_map, List.length_take]
    omega
theorem sends_j2 (hw : SqW x) (hn : 2 ≤ C.nodes ∧ C.nodes ≤ 64) (hc : 1 ≤ C.calls) (hwin : 1 ≤ C.window ∧ C.window ≤ 8) (hwt : 1 ≤ C.wait ∧ C.wait ≤ C.most ∧ C.most ≤ 4294967295) (p : PL W w g ft al (newC C 1 0)) (bc : BB w al gc C.cells 31) (bs : BB w al gs (x.cells rp0 rc0) 29) (hgs : W.heap.size ≤ gs) (hne : gc ≠ gs)
    (hcells : Cells W rp0 (x.refs.flatMap idc)) (hQ : ∀ w', Fr [] W w' → Q (.bool true) w') : X3.j2 Q times (at0 gs 0) (at0 gc 0) (some (at0 g 0)) w := by
  unfold X3.j2
  have hm := md (n := x.to) (m := C.nodes - 1) (by omega)
  have e1 : IntKind.wrap .i64 (C.nodes - 1) = C.nodes - 1 := i64w _ (by omega) (by omega)
  have e2 : IntKind.wrap .i64 (1 + x.to % (C.nodes - 1)) = 1 + x.to % (C.nodes - 1) := i64w _ (by omega) (by omega)
  refine stB bs.b (by show 9 < 10; omega) fun w1 b1 f1 => ?_
  have bc1 := bc.b.off1 hne f1
  refine ld_int (b1.cat 1 _ rfl) (ld_int (bc1.cat 0 _ rfl) ?_)
  rw [e1]
  refine pick_spec (by omega) (by omega) ⟨_, rfl, ?_⟩
  rw [e2]
  refine stB b1 (by simp [Sq.cells]) fun w7 b7 f7 => ?_
  have bc7 := bc1.off1 hne f7
  have p7 := (p.off bs.n hgs f1).off bs.n hgs f7
  generalize hx : ({ x with near := true, to := 1 + x.to % (C.nodes - 1) } : Sq) = x1
  have b7 : Blk w7 gs (x1.cells rp0 rc0) 29 := by rw [← hx]; exact b7
  have hw1 : SqW x1 := by rw [← hx]; exact ⟨hw.num, hw.n, hw.ts, hw.refs, hw.len⟩
  have hnr : x1.near = true := by rw [← hx]
  have hto : x1.to = 1 + x.to % (C.nodes - 1) := by rw [← hx]
  have hrf : x1.refs = x.refs := by rw [← hx]
  have eto : argTo C x1 = 2 + x.to % (C.nodes - 1) := by
    unfold argTo
    rw [hto, Int.emod_eq_of_lt (by omega) (by omega)]
    omega
  have okt : OkTo C (argTo C x1) := ⟨by omega, by omega, hn.2⟩
  refine ld_Cfg (s := C) bc7.cat (ld_Sq (x := x1) (p := rp0) (c := rc0) b7.cat ?_)
  refine args_spec (x := x1) hw1 ⟨by omega, hn.2⟩ (by rw [hrf]; exact hcells.keep' p7.F) hnr fun rp rc w41 r41 n41 f41 => ⟨_, _, _, _, _, _, _, _, rfl, newB fun g48 w49 b48 f49 h48 => stAllB (vs := idc (argTg C x1)) b48 rfl fun w50 b50 f50 => ?_⟩
  have z7 := p7.F.size
  have z41 := f41.size
  have p41 := p7.keep' f41
  have n48 : g48 ∉ al := p41.t.fresh h48
  have p50 := (p41.keep' f49).off n48 (by omega) f50
  have tr50 : Tr w7 al w50 al := (Tr.keep f41).tr (Tr.off h48 f49 f50)
  have bc50 := tr50.bb _ _ _ ⟨bc7, bc.n⟩
  have bs50 := tr50.bb _ _ _ ⟨b7, bs.n⟩
  have rb41 : RB w41 al rp rc (argRefs x1) := ⟨r41, fun k hk => p7.t.fresh (n41 k hk)⟩
  have rb50 : RB w50 al rp rc (argRefs x1) := (Tr.off h48 f49 f50).rb _ _ _ rb41
  have bt50 : BB w50 al g48 (idc (argTg C x1)) 26 := ⟨b50, n48⟩
  have hlen : (argRefs x1).length ≤ 2 := by unfold argRefs; rw [List.length_map, List.length_take]; omega
  refine ld_int (b50.cat 0 _ rfl) (ld_int (b50.cat 1 _ rfl) (ld_int (bs50.b.cat 5 _ rfl) ?_))
  refine begin_spec (S := newC C 1 0) p50.t rb50.r (by omega) (args_right (C := C) (x := x1) (S := newC C 1 0) (now := 5) rfl hw1 (by omega) (by omega)) ?_
  have ht : noneB (argTg C x1).1 (argTg C x1).2 = true ∨ (argTg C x1).1 = argTo C x1 := by
    unfold argTg
    split
    · exact .inl rfl
    · exact .inr rfl
  obtain ⟨lat, eb⟩ := ot_begin (C := C) (op := argOp x1) (field := x1.field % 64) (tn := (argTg C x1).1) (ts := (argTg C x1).2) (value := x1.n) (refs := argRefs x1) (now := 5) okt hc hwin ht
  rw [eb]
  intro ft55 al55 w55 t55 f55 e55 a55
  have p55 := p50.next t55 f55 a55
  have tr55 : Tr w50 al w55 al55 := Tr.next p50 f55 a55
  refine ⟨_, _, rfl, bc_ne (fun h => absurd rfl h) (fun _ => ⟨10, ?_⟩)⟩
  exact sends_l0 (W := W) (x := x1) (x0 := x1) (tn := (argTg C x1).1) (ts := (argTg C x1).2) okt hwt rfl hQ 10 0 w55 ft55 al55 0 5 0 (by omega) (by omega) p55 (.inl rfl) (tr55.bb _ _ _ bc50) (tr55.bb _ _ _ bs50) (tr55.bb _ _ _ bt50) (tr55.rb _ _ _ rb50) (.inl rfl) (by omega) (by omega)
theorem callerSends_row {H : Type} {cs : Array Value} {d : DataW H} (h : Lies Try.prog W 6 24 cs.toList d) (hs : SizedD Try.prog 24 d) {c1 : Array Value} {d1 : DataW H} (h1 : Lies Try.prog W 6 29 c1.toList d1) (hs1 : SizedD Try.prog 29 d1) (times : Int) (_ : (Lit.int .i64 times).wf = true) :
    CallR Try.prog 3 #[.agg cs, .agg c1, .int .i64 times] W fun v w' => v = .bool true ∧ Fr [] W w' := by
  obtain ⟨r, rfl, hr⟩ := raw_open h
  obtain ⟨x, rp0, rc0, hx, hcl, _, hw⟩ := step_of_lies (n := 2) h1 hs1
  obtain rfl : c1 = (x.cells rp0 rc0).toArray := by apply Array.ext'; exact hx
  apply X3.sound
  unfold X3.f
  have cr := conf_rng r
  have dr := (drift_half r).1
  have hm : mayB (configOf r) = true := may_config hr
  refine newB fun g1 w2 b f2 _ => newB fun gs w4 bs f4 h4 => ?_
  have b : Blk w4 g1 r.cells 24 := b.keep' f4
  have bs : Blk w4 gs (x.cells rp0 rc0) 29 := bs
  refine ld_Raw (s := r) b.cat (config_spec (r := r) fun w26 f26 => ⟨_, _, _, _, _, _, _, _, _, _, _, _, _, _, _, _, _, _, _, _, _, _, rfl, newB fun gc w50 bc f50 h50 => stAllB (vs := (configOf r).cells) bc rfl fun w51 b51 f51 => ?_⟩)
  have F4 := f2.tr f4
  have F26 := F4.tr f26
  have z2 := f2.size
  have z26 := f26.size
  have ls := bs.lt
  have F51 : Fr [] W w51 := (F26.tr f50).loc f51 (by have := F26.size; omega)
  have bs51 := (bs.keep' (f26.tr f50)).off1 (by omega) f51
  refine ld_Cfg (s := configOf r) b51.cat (newL (conf_ok hr _ (by omega)) dr fun g ft al w80 p => ⟨_, _, rfl, known_spec fun w84 f84 => ⟨_, rfl, bc_bool (fun h => by cases h) (fun _ => bc_ne (fun h => absurd rfl h) (fun _ => bc_bool (fun h => by cases h) (fun _ => ?_)))⟩⟩)
  have p84 := p.keep' f84
  have ls51 := bs51.lt
  have lc51 := b51.lt
  exact sends_j2 (x := x) (C := configOf r) hw (by omega) (by omega) (by omega) (may_wait hm) (p84.base F51) ⟨b51.keep' p84.F, fun hm => by have := p84.new _ hm; omega⟩ ⟨bs51.keep' p84.F, fun hm => by have := p84.new _ hm; omega⟩ (by omega) (by omega) hcl (fun w' f' => ⟨rfl, f'⟩)
end
end Go.Proofs.YtdgoalhnkegbmaaX
