/- Step, Reply. -/
import Derived.Test.YtdgoalhnkegbmaaL20Step
namespace Go.Proofs.YtdgoalhnkegbmaaX
open Go.RowKit
set_option linter.unusedVariables false
set_option linter.unusedSimpArgs false
set_option maxRecDepth 100000
section
variable {w w' W : World} {Q : Value → World → Prop} {g gs gx gz gm gt1 g1 g3 : Nat} {ft al ft' al' F : List Nat} {S S' : Cs} {k to num now fl e : Int} {x z : Cl} {y : Cp} {refs : List (Int × Int)} {rp sp : Option Addr} {rc sc : Nat} {m : Msg}
/-- the message that a step sends -/
def stepM (S : Cs) (now : Int) : Msg := if (stepC S now).2.2 then askM (stepC S now).1 (stepC S now).2.1 (floorC (stepC S now).1 (stepC S now).2.1.to) else mZ
/-- an answer that is a call, a message and whether it is sent -/
def AftM (w : World) (g : Nat) (ft al : List Nat) (S' : Cs) (m : Msg) (b : Bool) (Q : Value → World → Prop) : Prop := ∀ (x : Cl) mp mc ft' al' w', IdRow w' mp mc m.refs → (∀ k ∈ fbl mp, w.heap.size ≤ k ∧ k ∉ ft') → PC w' g ft' al' S' → Fr ft w w' → (∀ x ∈ ft', x ∈ ft ∨ w.heap.size ≤ x) → (∀ x ∈ al', x ∈ al ∨ w.heap.size ≤ x) → Q (.tuple #[x.val, msgV m mp mc none 0, .bool b]) w'
/-- the answers' blocks, beside the table -/
structure SB (W w : World) (al : List Nat) (gx g1 g3 gt1 : Nat) (z : Cl) : Prop where
  b1 : Blk w g1 clZ.cells 44
  b3 : Blk w g3 (mZ.cells none 0 none 0) 47
  bt : Blk w gt1 z.cells 44
  n1 : g1 ∉ al
  n3 : g3 ∉ al
  nt : gt1 ∉ al
  x1 : gx ≠ g1
  x3 : gx ≠ g3
  xt : gx ≠ gt1
  d13 : g1 ≠ g3
  d1t : g1 ≠ gt1
  d3t : g3 ≠ gt1
  w1 : W.heap.size ≤ g1
  w3 : W.heap.size ≤ g3
theorem SB.keep' (h : SB W w al gx g1 g3 gt1 z) (f : Fr [] w w') : SB W w' al gx g1 g3 gt1 z := ⟨h.b1.keep' f, h.b3.keep' f, h.bt.keep' f, h.n1, h.n3, h.nt, h.x1, h.x3, h.xt, h.d13, h.d1t, h.d3t, h.w1, h.w3⟩
theorem SB.offx (h : SB W w al gx g1 g3 gt1 z) (f : Fr [gx] w w') : SB W w' al gx g1 g3 gt1 z := ⟨h.b1.off1 h.x1.symm f, h.b3.off1 h.x3.symm f, h.bt.off1 h.xt.symm f, h.n1, h.n3, h.nt, h.x1, h.x3, h.xt, h.d13, h.d1t, h.d3t, h.w1, h.w3⟩
theorem step_j0 (h : HC w w' g ft al S gx x y) (sb : SB w w' al gx g1 g3 gt1 z)
    (hK : AftM w g ft al (putC S (againS S y now)) (askM (putC S (againS S y now)) y (floorC (putC S (againS S y now)) y.to)) true Q) : X15.j0 Q (some (at0 g 0)) now (at0 g1 0) (at0 g3 0) (at0 gx 0) (at0 gt1 0) w' := by
  unfold X15.j0
  simp only [optP_some]
  refine h.st { x with sent := now } { y with sent := now } (by omega) rfl (fun w' r => r.sent now) fun w1 h1 f1 => drawn fun w2 f2 _ => ?_
  have sb2 := (sb.offx f1).keep' f2
  have h2 := h1.keep' f2
  have ew : ({ x with sent := now } : Cl).wait = y.wait := h.r.facts.2.2.2.2.1
  refine ld_int (h2.b.cat 13 _ rfl) (ld_int (h2.t.cfg0 14 _ rfl) (ld_int (h2.t.cfg0 15 _ rfl) (wait_spec ⟨_, rfl, ?_⟩)))
  rw [ew]
  refine h2.st { x with sent := now, wait := waitN y.wait S.c.wait S.c.most } (againS S y now) (by omega) rfl (fun w' r => r.wait _) fun w11 h11 f11 => ?_
  have sb11 := sb2.offx f11
  refine ld_Cl (s := { x with sent := now, wait := waitN y.wait S.c.wait S.c.most }) h11.b.cat (put_spec h11.t h11.r ?_)
  intro ft' al' w28 t28 f28 e28 e29
  have nf : ∀ {k : Nat}, k ∉ al → k ∉ ft := fun hk hm => hk (h.t.sub _ hm)
  have F28 := h11.F.tr f28
  have z11 := h11.F.size
  have q1 : ∀ x ∈ ft', x ∈ ft ∨ w.heap.size ≤ x := fun x hx => (e28 x hx).imp id (fun h => by omega)
  have q2 : ∀ x ∈ al', x ∈ al ∨ w.heap.size ≤ x := fun x hx => (e29 x hx).imp id (fun h => by omega)
  have na : ∀ {k : Nat}, k ∉ al → k < w11.heap.size → k ∉ al' := fun hk hl hm => by
    rcases e29 _ hm with h | h
    · exact hk h
    · omega
  have l1 := sb11.b1.lt
  have l3 := sb11.b3.lt
  have lt1 := sb11.bt.lt
  have lx := h11.b.lt
  have n1 := na sb.n1 l1
  have n3 := na sb.n3 l3
  have b1 := sb11.b1.keep f28 (nf sb.n1)
  have b3 := sb11.b3.keep f28 (nf sb.n3)
  have bt := sb11.bt.keep f28 (nf sb.nt)
  have bx := h11.b.keep f28 (nf h.nx)
  obtain ⟨rp, rc, sp, sc, hx, r1, r2, r3, r4⟩ := h11.r.ex
  have r28 : IdRow w28 rp rc y.refs := r1.keep f28 (fun k hk => (r3 k hk).1)
  rw [hx] at bx
  refine ⟨rfl, drawn fun w29 f29 _ => ld_Cl (s := z) (bt.keep' f29).cat (ld_Cl (s := (againS S y now).cl rp rc sp sc) (bx.keep' f29).cat (ld_int ((bx.keep' f29).cat 0 _ rfl) (floor_spec (t28.keep' f29) fun w62 f62 => ⟨_, rfl, ⟨(bx.keep' f29).cat, (bx.keep' (f29.tr f62)).cat⟩, ⟨(bt.keep' f29).cat, (bt.keep' (f29.tr f62)).cat⟩, ?_⟩)))⟩
  have f2962 := f29.tr f62
  refine asks_spec (y := againS S y now) (t28.keep' f2962) (r28.keep' f2962) h11.r.lr fun mp mc w65 m65 f65 n65 => ⟨_, _, _, _, _, _, _, _, _, _, _, _, _, _, _, _, _, _, _, _, _, _, _, rfl, ⟨(bt.keep' f2962).cat, (bt.keep' (f2962.tr f65)).cat⟩, ?_⟩
  have f65' := f2962.tr f65
  have z28 := f28.size
  have z62 := f2962.size
  refine stAllB (vs := z.cells) (b1.keep' f65') rfl fun w85 b85 f85 => ?_
  have b385 := (b3.keep' f65').off1 sb.d13.symm f85
  refine stAllB (vs := (askM (putC S (againS S y now)) (againS S y now) (floorC (putC S (againS S y now)) y.to)).cells mp mc none 0) b385 rfl fun w86 b86 f86 => ?_
  have b186 := b85.off1 sb.d13 f86
  refine ld_Cl (s := z) b186.cat (ld_Mg (m := askM (putC S (againS S y now)) (againS S y now) (floorC (putC S (againS S y now)) y.to)) (rp := mp) (rc := mc) (lp := none) (lc := 0) b86.cat ?_)
  have mb : ∀ k ∈ fbl mp, w62.heap.size ≤ k := n65
  have m85 : IdRow w85 mp mc y.refs := IdRow.off m65 (fun hm => by have := mb _ hm; omega) f85
  have m86 : IdRow w86 mp mc y.refs := IdRow.off m85 (fun hm => by have := mb _ hm; omega) f86
  have t86 := ((t28.keep' f65').off n1 f85).off n3 f86
  exact hK z mp mc ft' al' w86 m86 (fun k hk => ⟨by have := mb k hk; omega, fun hm => by have := mb k hk; have := t28.lt k (t28.sub k hm); omega⟩) t86 (((F28.tr f65'.any).loc f85 sb.w1).loc f86 sb.w3) q1 q2
theorem step_spec (t : PC w g ft al S) (hK : AftM w g ft al (stepC S now).1 (stepM S now) (stepC S now).2.2 Q) : CallR Try.prog 15 #[.pointer (some (at0 g 0)), .int .u64 now] w Q := by
  apply X15.sound
  unfold X15.f
  simp only [optP_some]
  refine newB fun g1 w2 b1 f2 h1 => newB fun g3 w4 b3 f4 h3 => drawn fun w5 f5 _ => ?_
  have b1 : Blk w2 g1 clZ.cells 44 := b1
  have b3 : Blk w4 g3 (mZ.cells none 0 none 0) 47 := b3
  have F5 := (f2.tr f4).tr f5
  have z2 := f2.size
  have z4 := f4.size
  have z5 := f5.size
  have l1 := b1.lt
  have l3 := b3.lt
  have t5 := t.keep' F5
  have n1 : g1 ∉ al := fun hm => by have := t.lt g1 hm; omega
  have n3 : g3 ∉ al := fun hm => by have := t.lt g3 hm; omega
  -- nothing is sent: the answer z, an empty message
  have none_ : ∀ {z : Cl} {S2 : Cs} {w2 : World}, PC w2 g ft al S2 → Fr ft w w2 → Blk w2 g1 clZ.cells 44 → Blk w2 g3 (mZ.cells none 0 none 0) 47 → AftM w g ft al S2 mZ false Q →
      stAll w2 (at0 g1 0) z.cells fun w14 => stAll w14 (at0 g3 0) (mZ.cells none 0 none 0) fun w15 => ldI .i64 w15 ((at0 g1 0).add 0) fun x0 => ldI .u64 w15 ((at0 g1 0).add 1) fun x1 => ldI .i64 w15 ((at0 g1 0).add 2) fun x2 => ldI .i64 w15 ((at0 g1 0).add 3) fun x3 => ldI .i64 w15 ((at0 g1 0).add 4) fun x4 => ldI .u64 w15 ((at0 g1 0).add 5) fun x5 => ldSl w15 ((at0 g1 0).add 6) fun x6p x6n x6c => ldI .u64 w15 ((at0 g1 0).add 7) fun x7 => ldI .i64 w15 ((at0 g1 0).add 8) fun x8 => ldI .i64 w15 ((at0 g1 0).add 9) fun x9 => ldSl w15 ((at0 g1 0).add 10) fun x10p x10n x10c => ldI .u64 w15 ((at0 g1 0).add 11) fun x11 => ldI .u64 w15 ((at0 g1 0).add 12) fun x12 => ldI .u64 w15 ((at0 g1 0).add 13) fun x13 => ldI .u64 w15 ((at0 g1 0).add 14) fun x14 =>
        ldI .i64 w15 ((at0 g3 0).add 0) fun y0 => ldI .i64 w15 ((at0 g3 0).add 1) fun y1 => ldI .i64 w15 ((at0 g3 0).add 2) fun y2 => ldI .u64 w15 ((at0 g3 0).add 3) fun y3 => ldI .u64 w15 ((at0 g3 0).add 4) fun y4 => ldI .i64 w15 ((at0 g3 0).add 5) fun y5 => ldI .i64 w15 ((at0 g3 0).add 6) fun y6 => ldI .i64 w15 ((at0 g3 0).add 7) fun y7 => ldI .i64 w15 ((at0 g3 0).add 8) fun y8 => ldI .u64 w15 ((at0 g3 0).add 9) fun y9 => ldSl w15 ((at0 g3 0).add 10) fun y10p y10n y10c => ldI .u64 w15 ((at0 g3 0).add 11) fun y11 => ldI .i64 w15 ((at0 g3 0).add 12) fun y12 => ldI .u64 w15 ((at0 g3 0).add 13) fun y13 => ldI .i64 w15 ((at0 g3 0).add 14) fun y14 => ldI .u64 w15 ((at0 g3 0).add 15) fun y15 => ldI .i64 w15 ((at0 g3 0).add 16) fun y16 => ldI .u64 w15 ((at0 g3 0).add 17) fun y17 => ldSl w15 ((at0 g3 0).add 18) fun y18p y18n y18c =>
        Q (.tuple #[.agg #[.int .i64 x0, .int .u64 x1, .int .i64 x2, .int .i64 x3, .int .i64 x4, .int .u64 x5, .slice x6p x6n x6c, .int .u64 x7, .int .i64 x8, .int .i64 x9, .slice x10p x10n x10c, .int .u64 x11, .int .u64 x12, .int .u64 x13, .int .u64 x14], .agg #[.int .i64 y0, .int .i64 y1, .int .i64 y2, .int .u64 y3, .int .u64 y4, .int .i64 y5, .int .i64 y6, .int .i64 y7, .int .i64 y8, .int .u64 y9, .slice y10p y10n y10c, .int .u64 y11, .int .i64 y12, .int .u64 y13, .int .i64 y14, .int .u64 y15, .int .i64 y16, .int .u64 y17, .slice y18p y18n y18c], .bool false]) w15 := by
    intro z S2 w2 t2 f2 b1 b3 hk
    refine stAllB (vs := z.cells) b1 rfl fun w14 b14 f14 => stAllB (vs := mZ.cells none 0 none 0) (b3.off1 (by omega) f14) rfl fun w15 b15 f15 => ?_
    refine ld_Cl (s := z) (b14.off1 (by omega) f15).cat (ld_Mg (m := mZ) (rp := none) (rc := 0) (lp := none) (lc := 0) b15.cat ?_)
    exact hk z none 0 ft al w15 Own.nil (by simp [fbl]) ((t2.off n1 f14).off n3 f15) ((f2.loc f14 h1).loc f15 (by omega)) (fun x hx => .inl hx) (fun x hx => .inl hx)
  have b15 := b1.keep' (f4.tr f5)
  have b35 := b3.keep' f5
  obtain ⟨lp, lc, gt, rt, lm, t'⟩ := id t5
  refine ld_ptr (t'.blk.cat 25 _ rfl) (ld_int t5.last (after_CB t'.tab ⟨_, _, rfl, ?_⟩))
  rw [after_keys t'.rel.keys]
  unfold stepM at hK
  unfold stepC at hK
  cases ha : after ilt S.l S.last with
  | none =>
    rw [ha] at hK
    exact bc_bool (fun _ => none_ (z := clZ) t5 F5.any b15 b35 hK) (fun e => by cases e)
  | some kk =>
    rw [ha] at hK
    simp only at hK
    refine bc_bool (fun e => by cases e) (fun _ => ?_)
    have hin : g ∈ ft := by rw [t'.foot]; simp
    refine stB t'.blk (by show 26 < 27; omega) fun w51 b51 f51 => ?_
    have b51 : Blk w51 g (ccells { S with last := kk } lp lc gt) 74 := b51
    have f51' : Fr ft w5 w51 := f51.mono fun x hx => by simp at hx; rw [hx]; exact hin
    have hgl := t'.gl
    have hgr := t'.gr
    have t51 : PCa w51 g ft al { S with last := kk } lp lc gt rt lm := ⟨b51, t'.lat.keep f51 (fun x hx hm => hgl (by simp at hm; rwa [← hm])), t'.tab.keep f51 (fun x hx hm => hgr (by simp at hm; rwa [← hm])), t'.rel.keep f51' (fun k hk hn => hn), t'.foot, hgl, hgr, t'.lr, t'.sub, fun x hx => by have := t'.lt x hx; have := f51.size; omega, t'.ll⟩
    have nf : ∀ {k : Nat}, k ∉ al → k ∉ ft := fun hk hm => hk (t.sub _ hm)
    have b151 := b15.keep f51' (nf n1)
    have b351 := b35.keep f51' (nf n3)
    have F51 : Fr ft w w51 := F5.any.tr f51'
    have z51 := f51.size
    refine ld_ptr (t51.blk.cat 25 _ rfl) (rowsGet t51.tab t51.rel (fun hg => ?_) (fun x y hg r w55 f55 => ?_))
    · exfalso
      by_cases hn : 0 < S.l.length
      · have hs := t.sorted
        unfold after next at ha
        have hmem : kk ∈ keys S.l := by
          cases h1 : (keys S.l)[if has ilt S.l S.last = true then at_ ilt S.l S.last + 1 else at_ ilt S.l S.last]? with
          | some v => rw [h1, Option.some_or] at ha; injection ha with ha; subst ha; exact List.mem_of_getElem? h1
          | none => rw [h1, Option.none_or] at ha; exact List.mem_of_getElem? ha
        exact (get_none ilt_lin hs).1 hg hmem
      · have : S.l = [] := List.eq_nil_of_length_eq_zero (by omega)
        rw [this] at ha
        simp [after, next, keys] at ha
    · have hgS : get ilt S.l kk = some y := hg
      rw [hgS] at hK
      simp only [Option.getD_some] at hK
      have z55 := f55.size
      have t55 := t51.pc.keep' f55
      have r55 := r.keep' f55
      refine ⟨_, _, _, _, _, _, _, _, _, _, _, _, _, _, _, _, _, _, _, _, rfl, HC.made (W := w) t55 r55 rfl (by have := F51.size; omega) (F51.tr f55.any) fun gx w74 h f74 hx => ?_⟩
      have b174 := b151.keep' (f55.tr f74)
      have b374 := b351.keep' (f55.tr f74)
      obtain ⟨rp, rc, sp, sc, hxe, r1, r2, r3, r4⟩ := h.r.ex
      have hbx := h.b
      rw [hxe] at hbx
      refine ld_Cl (s := y.cl rp rc sp sc) hbx.cat (twin_spec r1 r2 h.r.lr h.r.ls fun rp' rc' sp' sc' w91 q1 q2 f91 m1 m2 => ?_)
      have h91 := h.keep' f91
      have l91 := q1.lt
      have ls91 := q2.lt
      refine ⟨_, _, _, _, _, _, _, _, _, _, _, _, _, _, _, _, _, _, _, rfl, newB fun gt1 w108 bt f108 ht => stAllB (vs := (y.cl rp' rc' sp' sc').cells) bt rfl fun w109 b109 f109 => ?_⟩
      have z51w := F51.size
      have z74 := f74.size
      have z91 := f91.size
      have lx := h.b.lt
      have nt : gt1 ∉ al := h91.t.fresh ht
      have F109 : Fr [] w91 w109 := f108.loc f109 ht
      have h109 : HC w w109 g ft al { S with last := kk } gx x y := (h91.keep' f108).off nt (by omega) (by omega) f109
      have b1109 := (b174.keep' (f91.tr f108)).off1 (by omega) f109
      have b3109 := (b374.keep' (f91.tr f108)).off1 (by omega) f109
      have l151 := b151.lt
      have l351 := b351.lt
      have sb : SB w w109 al gx g1 g3 gt1 (y.cl rp' rc' sp' sc') := ⟨b1109, b3109, b109, n1, n3, nt, by omega, by omega, by omega, by omega, by omega, by omega, h1, by omega⟩
      obtain ⟨e1, e2, e3, e4, e5, e6⟩ := h.r.facts
      have nosend : ∀ {w2 : World}, Fr [] w109 w2 → sendsB S y now = false → ldI .i64 w2 ((at0 gt1 0).add 0) fun x0 => ldI .u64 w2 ((at0 gt1 0).add 1) fun x1 => ldI .i64 w2 ((at0 gt1 0).add 2) fun x2 => ldI .i64 w2 ((at0 gt1 0).add 3) fun x3 => ldI .i64 w2 ((at0 gt1 0).add 4) fun x4 => ldI .u64 w2 ((at0 gt1 0).add 5) fun x5 => ldSl w2 ((at0 gt1 0).add 6) fun x6p x6n x6c => ldI .u64 w2 ((at0 gt1 0).add 7) fun x7 => ldI .i64 w2 ((at0 gt1 0).add 8) fun x8 => ldI .i64 w2 ((at0 gt1 0).add 9) fun x9 => ldSl w2 ((at0 gt1 0).add 10) fun x10p x10n x10c => ldI .u64 w2 ((at0 gt1 0).add 11) fun x11 => ldI .u64 w2 ((at0 gt1 0).add 12) fun x12 => ldI .u64 w2 ((at0 gt1 0).add 13) fun x13 => ldI .u64 w2 ((at0 gt1 0).add 14) fun x14 =>
          stAll w2 (at0 g1 0) [.int .i64 x0, .int .u64 x1, .int .i64 x2, .int .i64 x3, .int .i64 x4, .int .u64 x5, .slice x6p x6n x6c, .int .u64 x7, .int .i64 x8, .int .i64 x9, .slice x10p x10n x10c, .int .u64 x11, .int .u64 x12, .int .u64 x13, .int .u64 x14] fun w14 => stAll w14 (at0 g3 0) (mZ.cells none 0 none 0) fun w15 => ldI .i64 w15 ((at0 g1 0).add 0) fun x0 => ldI .u64 w15 ((at0 g1 0).add 1) fun x1 => ldI .i64 w15 ((at0 g1 0).add 2) fun x2 => ldI .i64 w15 ((at0 g1 0).add 3) fun x3 => ldI .i64 w15 ((at0 g1 0).add 4) fun x4 => ldI .u64 w15 ((at0 g1 0).add 5) fun x5 => ldSl w15 ((at0 g1 0).add 6) fun x6p x6n x6c => ldI .u64 w15 ((at0 g1 0).add 7) fun x7 => ldI .i64 w15 ((at0 g1 0).add 8) fun x8 => ldI .i64 w15 ((at0 g1 0).add 9) fun x9 => ldSl w15 ((at0 g1 0).add 10) fun x10p x10n x10c => ldI .u64 w15 ((at0 g1 0).add 11) fun x11 => ldI .u64 w15 ((at0 g1 0).add 12) fun x12 => ldI .u64 w15 ((at0 g1 0).add 13) fun x13 => ldI .u64 w15 ((at0 g1 0).add 14) fun x14 =>
        ldI .i64 w15 ((at0 g3 0).add 0) fun y0 => ldI .i64 w15 ((at0 g3 0).add 1) fun y1 => ldI .i64 w15 ((at0 g3 0).add 2) fun y2 => ldI .u64 w15 ((at0 g3 0).add 3) fun y3 => ldI .u64 w15 ((at0 g3 0).add 4) fun y4 => ldI .i64 w15 ((at0 g3 0).add 5) fun y5 => ldI .i64 w15 ((at0 g3 0).add 6) fun y6 => ldI .i64 w15 ((at0 g3 0).add 7) fun y7 => ldI .i64 w15 ((at0 g3 0).add 8) fun y8 => ldI .u64 w15 ((at0 g3 0).add 9) fun y9 => ldSl w15 ((at0 g3 0).add 10) fun y10p y10n y10c => ldI .u64 w15 ((at0 g3 0).add 11) fun y11 => ldI .i64 w15 ((at0 g3 0).add 12) fun y12 => ldI .u64 w15 ((at0 g3 0).add 13) fun y13 => ldI .i64 w15 ((at0 g3 0).add 14) fun y14 => ldI .u64 w15 ((at0 g3 0).add 15) fun y15 => ldI .i64 w15 ((at0 g3 0).add 16) fun y16 => ldI .u64 w15 ((at0 g3 0).add 17) fun y17 => ldSl w15 ((at0 g3 0).add 18) fun y18p y18n y18c =>
        Q (.tuple #[.agg #[.int .i64 x0, .int .u64 x1, .int .i64 x2, .int .i64 x3, .int .i64 x4, .int .u64 x5, .slice x6p x6n x6c, .int .u64 x7, .int .i64 x8, .int .i64 x9, .slice x10p x10n x10c, .int .u64 x11, .int .u64 x12, .int .u64 x13, .int .u64 x14], .agg #[.int .i64 y0, .int .i64 y1, .int .i64 y2, .int .u64 y3, .int .u64 y4, .int .i64 y5, .int .i64 y6, .int .i64 y7, .int .i64 y8, .int .u64 y9, .slice y10p y10n y10c, .int .u64 y11, .int .i64 y12, .int .u64 y13, .int .i64 y14, .int .u64 y15, .int .i64 y16, .int .u64 y17, .slice y18p y18n y18c], .bool false]) w15 := by
        intro w2 f2 hs
        rw [hs] at hK
        simp only [Bool.false_eq_true, if_false] at hK
        have h2 := h109.keep' f2
        exact ld_Cl (s := y.cl rp' rc' sp' sc') (b109.keep' f2).cat (none_ (z := y.cl rp' rc' sp' sc') h2.t h2.F (b1109.keep' f2) (b3109.keep' f2) hK)
      have send : ∀ {w2 : World}, Fr [] w109 w2 → sendsB S y now = true → X15.j0 Q (some (at0 g 0)) now (at0 g1 0) (at0 g3 0) (at0 gx 0) (at0 gt1 0) w2 := by
        intro w2 f2 hs
        rw [hs] at hK
        simp only [if_true] at hK
        exact step_j0 (h109.keep' f2) (sb.keep' f2) hK
      have hxb : Blk w109 gx (y.cl rp rc sp sc).cells 44 := by have := h109.b; rw [hxe] at this; exact this
      have past : (y.state = 1 ∨ y.state = 4) → CallR Try.prog 36 #[.int .u64 y.sent, .int .u64 y.wait, .int .u64 now] w109 (fun v w => v = .bool (pastB y.sent y.wait now) ∧ w = w109) := fun _ => past_spec ⟨rfl, rfl⟩
      refine ld_int (hxb.cat 8 _ rfl) (bc_ne (fun n1' => ld_int (hxb.cat 8 _ rfl) (bc_ne (fun n4 => ?_) (fun e4' => ?_))) (fun e1' => ?_))
      · refine nosend (Fr.refl _) ?_
        unfold sendsB
        rw [decide_eq_false (by rintro (h | h); · exact n1' h
                                · exact n4 h)]
        rfl
      · refine ld_int (hxb.cat 12 _ rfl) (ld_int (hxb.cat 13 _ rfl) (past_spec ⟨_, rfl, bc_bool (fun hp => nosend (Fr.refl _) ?_) (fun hp => send (Fr.refl _) ?_)⟩))
        · have hp' : pastB y.sent y.wait now = false := by have h : (!pastB y.sent y.wait now) = true := hp; simpa using h
          unfold sendsB; rw [hp', Bool.and_false]
        · have hp' : pastB y.sent y.wait now = true := by have h : (!pastB y.sent y.wait now) = false := hp; simpa using h
          have e4'' : y.state = 4 := e4'
          unfold sendsB; rw [hp', decide_eq_true (.inr e4'')]; rfl
      · refine ld_int (hxb.cat 12 _ rfl) (ld_int (hxb.cat 13 _ rfl) (past_spec ⟨_, rfl, bc_bool (fun hp => nosend (Fr.refl _) ?_) (fun hp => send (Fr.refl _) ?_)⟩))
        · have hp' : pastB y.sent y.wait now = false := by have h : (!pastB y.sent y.wait now) = true := hp; simpa using h
          unfold sendsB; rw [hp', Bool.and_false]
        · have hp' : pastB y.sent y.wait now = true := by have h : (!pastB y.sent y.wait now) = false := hp; simpa using h
          have e1'' : y.state = 1 := e1'
          unfold sendsB; rw [hp', decide_eq_true (.inl e1'')]; rfl
end
end Go.Proofs.YtdgoalhnkegbmaaX
