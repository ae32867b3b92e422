/- Step, Settle, Await, Reply. -/
import Derived.Test.YtdgoalhnkegbmaaL20Begin
namespace Go.Proofs.YtdgoalhnkegbmaaX
open Go.RowKit
set_option linter.unusedVariables false
set_option linter.unusedSimpArgs false
set_option maxRecDepth 100000
section
variable {w w' W : World} {Q : Value → World → Prop} {g gs gx gz gm gt1 : Nat} {ft al ft' al' F : List Nat} {S S' : Cs} {k to num now fl e : Int} {x z : Cl} {y : Cp} {refs : List (Int × Int)} {rp sp : Option Addr} {rc sc : Nat} {m : Msg}
theorem CRel.off (h : CRel w ft al x y) {k : Nat} (hk : k ∉ al) (f : Fr [k] w w') : CRel w' ft al x y := h.keep f (fun j hj _ hm => hk (by simp at hm; rw [← hm]; exact hj))
/-- a call in hand: its own block -/
structure HC (W w : World) (g : Nat) (ft al : List Nat) (S : Cs) (gx : Nat) (x : Cl) (y : Cp) : Prop where
  t : PC w g ft al S
  b : Blk w gx x.cells 44
  r : CRel w ft al x y
  nx : gx ∉ al
  wx : W.heap.size ≤ gx
  F : Fr ft W w
theorem HC.keep' (h : HC W w g ft al S gx x y) (f : Fr [] w w') : HC W w' g ft al S gx x y := ⟨h.t.keep' f, h.b.keep' f, h.r.keep' f, h.nx, h.wx, h.F.tr f.any⟩
theorem HC.off (h : HC W w g ft al S gx x y) {k : Nat} (hk : k ∉ al) (hkx : gx ≠ k) (hw : W.heap.size ≤ k) (f : Fr [k] w w') : HC W w' g ft al S gx x y := ⟨h.t.off hk f, h.b.off1 hkx f, h.r.off hk f, h.nx, h.wx, h.F.loc f hw⟩
/-- one of its cells is stored, no list -/
theorem HC.st (h : HC W w g ft al S gx x y) {i : Nat} {v : Value} (x' : Cl) (y' : Cp) (hi : i < 15) (he : x.cells.set i v = x'.cells) (hr : ∀ w', CRel w' ft al x y → CRel w' ft al x' y') {K : World → Prop} (hK : ∀ w', HC W w' g ft al S gx x' y' → Fr [gx] w w' → K w') : stK w ((at0 gx 0).add i) v K :=
  stB h.b (by rw [Cl.len]; exact hi) fun w' b' f => hK w' ⟨h.t.off h.nx f, by rw [← he]; exact b', hr w' (h.r.off h.nx f), h.nx, h.wx, h.F.loc f h.wx⟩ f
theorem HC.put (h : HC W w g ft al S gx x y) (hK : AftC W g ft al (putC S y) (.tuple #[]) Q) : CallR Try.prog 33 #[.pointer (some (at0 g 0)), x.val] w Q :=
  put_spec h.t h.r (hK.next h.F (fun x hx => .inl hx) (fun x hx => .inl hx))
/-- a call got from the table, in a block of its own -/
theorem HC.made (t : PC w g ft al S) (r : CRel w ft al x y) {zs : Array Value} (hz : zs.size = 15) {K : Addr → World → Prop} (hW : W.heap.size ≤ w.heap.size) (F : Fr ft W w) (hK : ∀ gx w', HC W w' g ft al S gx x y → Fr [] w w' → w.heap.size ≤ gx → K (at0 gx 0) w') :
    newK w zs 44 fun gx w2 => stAll w2 gx x.cells fun w3 => K gx w3 :=
  newB fun gx w2 b f hx => stAllB (vs := x.cells) b (by rw [Cl.len]; simpa using hz.symm) fun w3 b3 f3 => by
    have n := t.fresh hx
    exact hK gx w3 ⟨(t.keep' f).off n f3, b3, (r.keep' f).off n f3, n, by omega, (F.tr f.any).loc f3 (by omega)⟩ (f.loc f3 hx) hx
theorem rel_sc (h : CRel w ft al x y) (f : ∀ rp rc sp sc, x = y.cl rp rc sp sc → ∃ y' : Cp, z = y'.cl rp rc sp sc ∧ y'.refs = y.refs ∧ y'.result = y.result) : True := trivial
theorem CRel.state (h : CRel w ft al x y) (v : Int) : CRel w ft al { x with state := v } { y with state := v } := by
  obtain ⟨rp, rc, sp, sc, e1, e2, e3, h4, h5⟩ := h.ex
  exact ⟨h.lr, h.ls, rp, rc, sp, sc, by rw [e1]; rfl, e2, e3, h4, h5⟩
theorem CRel.code (h : CRel w ft al x y) (v : Int) : CRel w ft al { x with code := v } { y with code := v } := by
  obtain ⟨rp, rc, sp, sc, e1, e2, e3, h4, h5⟩ := h.ex
  exact ⟨h.lr, h.ls, rp, rc, sp, sc, by rw [e1]; rfl, e2, e3, h4, h5⟩
theorem CRel.back (h : CRel w ft al x y) (v : Int) : CRel w ft al { x with back := v } { y with back := v } := by
  obtain ⟨rp, rc, sp, sc, e1, e2, e3, h4, h5⟩ := h.ex
  exact ⟨h.lr, h.ls, rp, rc, sp, sc, by rw [e1]; rfl, e2, e3, h4, h5⟩
theorem CRel.sent (h : CRel w ft al x y) (v : Int) : CRel w ft al { x with sent := v } { y with sent := v } := by
  obtain ⟨rp, rc, sp, sc, e1, e2, e3, h4, h5⟩ := h.ex
  exact ⟨h.lr, h.ls, rp, rc, sp, sc, by rw [e1]; rfl, e2, e3, h4, h5⟩
theorem CRel.wait (h : CRel w ft al x y) (v : Int) : CRel w ft al { x with wait := v } { y with wait := v } := by
  obtain ⟨rp, rc, sp, sc, e1, e2, e3, h4, h5⟩ := h.ex
  exact ⟨h.lr, h.ls, rp, rc, sp, sc, by rw [e1]; rfl, e2, e3, h4, h5⟩
theorem CRel.noRes (h : CRel w ft al x y) : CRel w ft al { x with resultp := none, resultn := 0, resultc := 0 } { y with result := [] } := by
  obtain ⟨rp, rc, sp, sc, e1, e2, e3, h4, h5⟩ := h.ex
  exact ⟨h.lr, by simp, rp, rc, none, 0, by rw [e1]; rfl, e2, Own.nil, h4, fun k hk => by simp [fbl] at hk⟩
theorem CRel.res (h : CRel w ft al x y) {p : Option Addr} {c : Nat} {l : List (Int × Int)} (hl : l.length ≤ 4096) (hr : IdRow w p c l) (hn : ∀ k ∈ fbl p, k ∉ ft ∧ k ∈ al) : CRel w ft al { x with resultp := p, resultn := l.length, resultc := c } { y with result := l } := by
  obtain ⟨rp, rc, sp, sc, e1, e2, e3, h4, h5⟩ := h.ex
  exact ⟨h.lr, hl, rp, rc, p, c, by rw [e1]; rfl, e2, hr, h4, hn⟩
theorem CRel.facts (h : CRel w ft al x y) : x.to = y.to ∧ x.num = y.num ∧ x.state = y.state ∧ x.sent = y.sent ∧ x.wait = y.wait ∧ x.born = y.born := by
  obtain ⟨rp, rc, sp, sc, e1, _⟩ := h.ex
  rw [e1]; exact ⟨rfl, rfl, rfl, rfl, rfl, rfl⟩
theorem settle_spec (t : PC w g ft al S) (hK : AftC w g ft al (settleC S to num e).1 (.bool (settleC S to num e).2) Q) : CallR Try.prog 26 #[.pointer (some (at0 g 0)), .int .i64 to, .int .u64 num, .int .i64 e] w Q := by
  apply X26.sound
  unfold X26.f
  unfold settleC at hK
  refine get_spec t (fun hg w2 f2 => ?_) (fun x y w2 hg r f2 => ?_)
  · rw [hg] at hK
    have t2 := t.keep' f2
    refine ⟨_, _, _, _, _, _, _, _, _, _, _, _, _, _, _, _, _, _, _, _, rfl, newB fun g19 w20 b20 f20 h20 => stAllB (vs := clZ.cells) b20 rfl fun w21 b21 f21 => bc_bool (fun _ => ?_) (fun e => by cases e)⟩
    exact hK.same t ((f2.tr f20).loc f21 (by have := f2.size; omega))
  · rw [hg] at hK
    simp only at hK
    have t2 := t.keep' f2
    have z2 := f2.size
    refine ⟨_, _, _, _, _, _, _, _, _, _, _, _, _, _, _, _, _, _, _, _, rfl, HC.made (W := w) t2 r rfl (by omega) f2.any fun gx w3 h f3 hx => bc_bool (fun e => by cases e) (fun _ => ?_)⟩
    have es : x.state = y.state := r.facts.2.2.1
    refine ld_int (h.b.cat 8 _ rfl) (bc_ne (fun hs => ?_) (fun hs => ?_))
    · rw [if_pos (by rw [← es]; exact hs)] at hK
      exact hK ft al w3 h.t h.F (fun x hx => .inl hx) (fun x hx => .inl hx)
    · rw [if_neg (by rw [← es]; simp [hs])] at hK
      unfold X26.j0
      refine h.st { x with state := 3 } { y with state := 3 } (by omega) rfl (fun w' r => r.state 3) fun w1 h1 _ => bc_ne (fun he => ?_) (fun he => ?_)
      · rw [if_pos he] at hK
        refine h1.st { x with state := 3, code := e } { y with state := 3, code := e } (by omega) rfl (fun w' r => r.code e) fun w4 h4 _ => ?_
        refine h4.st { x with state := 3, code := e, back := 0 } { y with state := 3, code := e, back := 0 } (by omega) rfl (fun w' r => r.back 0) fun w5 h5 _ => ?_
        refine h5.st { x with state := 3, code := e, back := 0, resultp := none, resultn := 0, resultc := 0 } { y with state := 3, code := e, back := 0, result := [] } (by omega) rfl (fun w' r => r.noRes) fun w6 h6 _ => ?_
        refine ld_Cl (s := { x with state := 3, code := e, back := 0, resultp := none, resultn := 0, resultc := 0 }) h6.b.cat (h6.put ?_)
        intro ft' al' w7 t7 f7 e7 e8
        exact ⟨rfl, hK ft' al' w7 t7 f7 e7 e8⟩
      · rw [if_neg (by simp [he])] at hK
        refine ld_Cl (s := { x with state := 3 }) h1.b.cat (h1.put ?_)
        intro ft' al' w7 t7 f7 e7 e8
        exact ⟨rfl, hK ft' al' w7 t7 f7 e7 e8⟩
/-- an answer that is a call, its lists new -/
def CallA (W w : World) (x : Cl) (y : Cp) : Prop := ∃ rp rc sp sc, x = y.cl rp rc sp sc ∧ IdRow w rp rc y.refs ∧ IdRow w sp sc y.result ∧ (∀ k ∈ fbl rp, W.heap.size ≤ k) ∧ (∀ k ∈ fbl sp, W.heap.size ≤ k)
theorem callA_zero : CallA W w clZ yZero := ⟨none, 0, none, 0, rfl, Own.nil, Own.nil, by simp [fbl], by simp [fbl]⟩
def AftA (w : World) (g : Nat) (ft al : List Nat) (S' : Cs) (y : Cp) (V : Value → Value) (Q : Value → World → Prop) : Prop := ∀ x ft' al' w', CallA w w' x y → PC w' g ft' al' S' → Fr ft w w' → (∀ x ∈ ft', x ∈ ft ∨ w.heap.size ≤ x) → (∀ x ∈ al', x ∈ al ∨ w.heap.size ≤ x) → Q (V x.val) w'
theorem await_j0 {c : Bool} (h : HC w w' g ft al S gx x y) (b8 : Blk w' gz clZ.cells 44) (n8 : gz ∉ al) (n8x : gz ≠ gx) (w8 : w.heap.size ≤ gz) (hg : getC S to num = some y) (hc : c = decide (y.state = 4))
    (hK : AftA w g ft al (awaitC S to num now).1 (awaitC S to num now).2.1 (fun v => .tuple #[v, .bool (awaitC S to num now).2.2.1, .int .i64 (awaitC S to num now).2.2.2]) Q) :
    X24.j0 Q (some (at0 g 0)) to num now (at0 gz 0) (at0 gx 0) c w' := by
  unfold X24.j0
  simp only [optP_some]
  obtain ⟨e1, e2, e3, e4, e5, e6⟩ := h.r.facts
  have zz := h.F.size
  unfold awaitC at hK
  rw [hg] at hK
  simp only at hK
  have zero : ∀ {S2 : Cs} {b : Bool} {v : Int} {w2 : World}, AftA w g ft al S2 yZero (fun v' => .tuple #[v', .bool b, .int .i64 v]) Q → ∀ {ft2 al2 : List Nat}, PC w2 g ft2 al2 S2 → Fr ft w w2 → (∀ x ∈ ft2, x ∈ ft ∨ w.heap.size ≤ x) → (∀ x ∈ al2, x ∈ al ∨ w.heap.size ≤ x) → gz ∉ al2 → Blk w2 gz clZ.cells 44 →
      stAll w2 (at0 gz 0) clZ.cells fun w82 => ldI .i64 w82 ((at0 gz 0).add 0) fun x0 => ldI .u64 w82 ((at0 gz 0).add 1) fun x1 => ldI .i64 w82 ((at0 gz 0).add 2) fun x2 => ldI .i64 w82 ((at0 gz 0).add 3) fun x3 => ldI .i64 w82 ((at0 gz 0).add 4) fun x4 => ldI .u64 w82 ((at0 gz 0).add 5) fun x5 => ldSl w82 ((at0 gz 0).add 6) fun x6p x6n x6c => ldI .u64 w82 ((at0 gz 0).add 7) fun x7 => ldI .i64 w82 ((at0 gz 0).add 8) fun x8 => ldI .i64 w82 ((at0 gz 0).add 9) fun x9 => ldSl w82 ((at0 gz 0).add 10) fun x10p x10n x10c => ldI .u64 w82 ((at0 gz 0).add 11) fun x11 => ldI .u64 w82 ((at0 gz 0).add 12) fun x12 => ldI .u64 w82 ((at0 gz 0).add 13) fun x13 => ldI .u64 w82 ((at0 gz 0).add 14) fun x14 => Q (.tuple #[.agg #[.int .i64 x0, .int .u64 x1, .int .i64 x2, .int .i64 x3, .int .i64 x4, .int .u64 x5, .slice x6p x6n x6c, .int .u64 x7, .int .i64 x8, .int .i64 x9, .slice x10p x10n x10c, .int .u64 x11, .int .u64 x12, .int .u64 x13, .int .u64 x14], .bool b, .int .i64 v]) w82 := by
    intro S2 b v w2 hk ft2 al2 t2 f2 q1 q2 nz bz
    refine stAllB (vs := clZ.cells) bz rfl fun w82 b82 f82 => ld_Cl (s := clZ) b82.cat ?_
    exact hk clZ ft2 al2 w82 callA_zero (t2.off nz f82) (f2.loc f82 w8) q1 q2
  refine bc_bool (fun e => ?_) (fun e => ?_)
  · rw [if_pos (by rw [e] at hc; simpa using hc.symm)] at hK
    exact zero hK h.t h.F (fun x hx => .inl hx) (fun x hx => .inl hx) n8 b8
  · have n4 : ¬ y.state = 4 := by rw [e] at hc; simpa using hc.symm
    rw [if_neg n4] at hK
    refine ld_int (h.b.cat 8 _ rfl) (bc_eq (fun hs => ?_) (fun hs => ?_))
    · rw [if_pos (by rw [← e3]; exact hs)] at hK
      refine drawn fun w18 f18 _ => ?_
      have h18 := h.keep' f18
      obtain ⟨lp, lc, gt, rt, lm, t'⟩ := id h18.t
      refine ld_ptr (t'.blk.cat 25 _ rfl) (key_spec fun w22 f22 => ⟨_, rfl, ⟨t'.blk.cat 25 _ rfl, (t'.blk.keep' f22).cat 25 _ rfl⟩, drop_spec (t'.keep' f22) fun b => ?_⟩)
      intro ft' al' w25 t25 f25 e25 e26
      have h22 := h18.keep' f22
      have F22 := h22.F
      have z22 := F22.size
      have nxf : gx ∉ ft := fun hm => h.nx (h.t.sub gx hm)
      have n8f : gz ∉ ft := fun hm => n8 (h.t.sub gz hm)
      have b25 := h22.b.keep f25 nxf
      have b825 := (b8.keep' (f18.tr f22)).keep f25 n8f
      have l22 := h22.b.lt
      have l8 := (b8.keep' (f18.tr f22)).lt
      have F25 := F22.tr f25
      have q1 : ∀ x ∈ ft', x ∈ ft ∨ w.heap.size ≤ x := fun x hx => (e25 x hx).imp id (fun h => by omega)
      have q2 : ∀ x ∈ al', x ∈ al ∨ w.heap.size ≤ x := fun x hx => (e26 x hx).imp id (fun h => by omega)
      have nz' : gz ∉ al' := fun hm => by
        rcases e26 gz hm with h | h
        · exact n8 h
        · omega
      obtain ⟨rp, rc, sp, sc, hx, r1, r2, r3, r4⟩ := h22.r.ex
      have r1' := r1.keep f25 (fun k hk => (r3 k hk).1)
      have r2' := r2.keep f25 (fun k hk => (r4 k hk).1)
      subst hx
      refine ⟨_, rfl, ld_Cl (s := y.cl rp rc sp sc) b25.cat (twin_spec r1' r2' h.r.lr h.r.ls fun rp' rc' sp' sc' w43 q43 s43 f43 m43 k43 => ?_)⟩
      refine ⟨_, _, _, _, _, _, _, _, _, _, _, _, _, _, _, _, _, _, _, rfl, stAllB (vs := (y.cl rp' rc' sp' sc').cells) (b825.keep' f43) rfl fun w59 b59 f59 => ld_Cl (s := y.cl rp' rc' sp' sc') b59.cat ?_⟩
      have z25 := F25.size
      have l825 := b825.lt
      refine hK (y.cl rp' rc' sp' sc') ft' al' w59 ⟨rp', rc', sp', sc', rfl, IdRow.off q43 (fun hm => by have := m43 _ hm; omega) f59, IdRow.off s43 (fun hm => by have := k43 _ hm; omega) f59, fun k hk => by have := m43 k hk; omega, fun k hk => by have := k43 k hk; omega⟩ ((t25.keep' f43).off nz' f59) ((F25.tr f43.any).loc f59 w8) q1 q2
    · rw [if_neg (by rw [← e3]; exact hs)] at hK
      refine drawn fun w75 f75 _ => ?_
      have h75 := h.keep' f75
      have b875 := b8.keep' f75
      refine ld_int (h75.b.cat 14 _ rfl) (ld_int (h75.t.cfg0 16 _ rfl) (past_spec ⟨_, rfl, bc_bool (fun hp => ?_) (fun hp => ?_)⟩))
      · rw [if_pos (by rw [← e6]; simpa using hp)] at hK
        exact zero hK h75.t h75.F (fun x hx => .inl hx) (fun x hx => .inl hx) n8 b875
      · rw [if_neg (by rw [← e6]; simpa using hp)] at hK
        refine ld_int (h75.b.cat 8 _ rfl) (bc_eq (fun h2 => ?_) (fun h2 => ?_))
        · rw [if_pos (by rw [← e3]; exact h2)] at hK
          refine drawn fun w18 f18 _ => ?_
          have h18 := h75.keep' f18
          obtain ⟨lp, lc, gt, rt, lm, t'⟩ := id h18.t
          refine ld_ptr (t'.blk.cat 25 _ rfl) (key_spec fun w22 f22 => ⟨_, rfl, ⟨t'.blk.cat 25 _ rfl, (t'.blk.keep' f22).cat 25 _ rfl⟩, drop_spec (t'.keep' f22) fun b => ?_⟩)
          intro ft' al' w25 t25 f25 e25 e26
          have h22 := h18.keep' f22
          have F22 := h22.F
          have z22 := F22.size
          have n8f : gz ∉ ft := fun hm => n8 (h.t.sub gz hm)
          have b822 := b875.keep' (f18.tr f22)
          have l822 := b822.lt
          exact ⟨_, rfl, zero hK t25 (F22.tr f25) (fun x hx => (e25 x hx).imp id (fun h => by omega)) (fun x hx => (e26 x hx).imp id (fun h => by omega)) (fun hm => by
            rcases e26 gz hm with h | h
            · exact n8 h
            · omega) (b822.keep f25 n8f)⟩
        · rw [if_neg (by rw [← e3]; exact h2)] at hK
          refine h75.st { x with state := 4 } { y with state := 4 } (by omega) rfl (fun w' r => r.state 4) fun w124 h124 f124 => ?_
          have b8124 := b875.off1 n8x f124
          refine ld_Cl (s := { x with state := 4 }) h124.b.cat (put_spec h124.t h124.r ?_)
          intro ft' al' w25 t25 f25 e25 e26
          have F22 := h124.F
          have z22 := F22.size
          have n8f : gz ∉ ft := fun hm => n8 (h.t.sub gz hm)
          have l822 := b8124.lt
          exact ⟨rfl, zero hK t25 (F22.tr f25) (fun x hx => (e25 x hx).imp id (fun h => by omega)) (fun x hx => (e26 x hx).imp id (fun h => by omega)) (fun hm => by
            rcases e26 gz hm with h | h
            · exact n8 h
            · omega) (b8124.keep f25 n8f)⟩
theorem await_spec (t : PC w g ft al S) (hK : AftA w g ft al (awaitC S to num now).1 (awaitC S to num now).2.1 (fun v => .tuple #[v, .bool (awaitC S to num now).2.2.1, .int .i64 (awaitC S to num now).2.2.2]) Q) :
    CallR Try.prog 24 #[.pointer (some (at0 g 0)), .int .i64 to, .int .u64 num, .int .u64 now] w Q := by
  apply X24.sound
  unfold X24.f
  refine newB fun gz w2 bz f2 hz => get_spec (t.keep' f2) (fun hg w4 f4 => ?_) (fun x y w4 hg r f4 => ?_)
  · have bz : Blk w2 gz clZ.cells 44 := bz
    refine ⟨_, _, _, _, _, _, _, _, _, _, _, _, _, _, _, _, _, _, _, _, rfl, newB fun gx w22 bx f22 hx => stAllB (vs := clZ.cells) bx rfl fun w23 b23 f23 => bc_bool (fun _ => ?_) (fun e => by cases e)⟩
    unfold X24.j0
    have z2 := f2.size
    have z4 := f4.size
    have lz := bz.lt
    have F23 : Fr [] w w23 := ((f2.tr f4).tr f22).loc f23 (by omega)
    have bz23 := (bz.keep' (f4.tr f22)).off1 (by omega) f23
    unfold awaitC at hK
    rw [hg] at hK
    simp only at hK
    refine bc_bool (fun _ => stAllB (vs := clZ.cells) bz23 rfl fun w82 b82 f82 => ld_Cl (s := clZ) b82.cat ?_) (fun e => by cases e)
    exact hK clZ ft al w82 callA_zero ((t.keep' F23).off (fun hm => by have := t.lt gz hm; omega) f82) (F23.loc f82 hz).any (fun x hx => .inl hx) (fun x hx => .inl hx)
  · have bz : Blk w2 gz clZ.cells 44 := bz
    have z2 := f2.size
    have z4 := f4.size
    have lz := bz.lt
    have t4 := (t.keep' f2).keep' f4
    refine ⟨_, _, _, _, _, _, _, _, _, _, _, _, _, _, _, _, _, _, _, _, rfl, HC.made (W := w) t4 r rfl (by omega) (f2.tr f4).any fun gx w23 h f23 hx => bc_bool (fun e => by cases e) (fun _ => ld_int (h.b.cat 8 _ rfl) ?_)⟩
    refine await_j0 h (bz.keep' (f4.tr f23)) (fun hm => by have := t.lt gz hm; omega) (by omega) hz hg ?_ hK
    rw [r.facts.2.2.1]
    by_cases h4 : y.state = 4 <;> simp [h4]
end
end Go.Proofs.YtdgoalhnkegbmaaX
