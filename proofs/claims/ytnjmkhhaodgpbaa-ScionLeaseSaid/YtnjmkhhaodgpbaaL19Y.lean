/- Who holds an owner's objects: Dirty, Clean. -/
import Derived.Test.YtnjmkhhaodgpbaaL19X
namespace Go.Proofs.YtnjmkhhaodgpbaaX
open Go.RowKit
set_option linter.unusedVariables false
set_option linter.unusedSimpArgs false
set_option maxRecDepth 100000
abbrev res3 (m : Msg) (a b : Bool) : Value := .tuple #[msgV m none 0 none 0, .bool a, .bool b]
section
variable {w w' W : World} {Q : Value → World → Prop} {g gt bm : Nat} {x : HB} {ft ft' fh fh' rt rt' F : List Nat} {S S' : Sc} {s d now k : Int} {r : Scn} {m : Msg} {rp lp : Option Addr} {rc lc : Nat} {pin : Bool} {b : Nat} {v : Value} {t4 t5 t6 t8 t11 t15 t18 : Nat} {o : Option Scn}
/-- the row that is there, and the next one -/
structure DR (W w : World) (ft : List Nat) (t15 t18 : Nat) (o : Option Scn) (m : Msg) (now : Int) : Prop where
  b15 : Blk w t15 (o.getD scnZ).cells 53
  b18 : Blk w t18 (nextR m now true).cells 53
  n18 : t18 ∉ ft
  h18 : W.heap.size ≤ t18
theorem dirty_j1 {t73 : Bool} (h : DD W w g x ft S t4 t5 t6 t8 t11 m rp rc lp lc pin) (hm : mineS S m 4) (r : DR W w ft t15 t18 o m now) (ho : get ilt S.rows (keyS m.ts m.frm) = o) (h1 : ∀ r, o = some r → ¬ r.seq > m.seq)
    (h73 : t73 = true ↔ ∃ r, o = some r ∧ r.seq = m.seq ∧ r.present = true)
    (hQ : AftS W g x ft (askedS S m pin now).1 (res3 (askedS S m pin now).2.1 (askedS S m pin now).2.2.1 (askedS S m pin now).2.2.2) Q) :
    X11.j1 Q (at0 t4 0) (at0 t5 0) (at0 t8 0) (at0 t11 0) (at0 t5 0) (at0 t15 0) o.isSome (at0 t5 0) (at0 t4 0) (at0 t6 0) (at0 t11 0) (at0 t18 0) t73 w := by
  unfold X11.j1
  unfold askedS at hQ
  rw [ho] at hQ
  refine bc_bool (fun ht => ?_) (fun ht => ?_)
  · obtain ⟨q, hq, h2, h3⟩ := h73.1 ht
    rw [hq] at hQ
    simp only [] at hQ
    rw [if_neg (h1 q hq), if_pos h2, if_pos h3] at hQ
    refine ld_ptr (h.D.b4.cell rfl) (ld_Scn (s := nextR m now true) r.b18.cat (put_spec h.P (mine4 hm now true) fun ft2 w54 P54 f54 e54 => ⟨rfl, ?_⟩))
    have z45 := h.F.size
    have o54 : ∀ y ∈ [t4, t5, t6, t8, t11], y ∉ ft2 := fun y hy hm => by
      rcases e54 _ hm with h' | h'
      · exact h.out y hy h'
      · have := h.D.lt y hy
        omega
    have D54 := h.D.keep f54 h.out
    refine told_spec D54.b5 fun w56 f56 => ⟨_, _, _, _, _, _, _, _, _, _, _, _, _, _, _, _, _, _, _, _, _, _, _, rfl, ?_⟩
    obtain ⟨cs, b8, hl⟩ := (D54.keep' f56).b8
    refine stAllB (vs := (toldM m 0).cells none 0 none 0) b8 hl.symm fun w22 b22 f22 => ld_msgA (m := toldM m 0) b22 ?_
    exact hQ.done (P54.keep' f56) ((h.F.tr f54).tr f56.any) (fun y hy => (e54 y hy).imp_right fun h => by omega) f22 h.new (o54 _ (by simp))
  · cases o with
    | none =>
      simp only [] at hQ
      exact bc_bool (fun e => by cases e) (fun _ => dirty_j0 h hm r.b18 r.n18 r.h18 (fun e => by cases e) (fun _ => hQ))
    | some q =>
      simp only [] at hQ
      rw [if_neg (h1 q rfl)] at hQ
      refine bc_bool (fun _ => ld_int (r.b15.cat 3 _ rfl) (ld_int (h.D.b5.cat 13 _ rfl) ?_)) (fun e => by cases e)
      refine dirty_j0 h hm r.b18 r.n18 r.h18 (fun e => ?_) (fun e => ?_)
      · have e : q.seq = m.seq := by simpa using e
        rw [if_pos e, if_neg (fun hp => by rw [h73.2 ⟨q, rfl, e, hp⟩] at ht; cases ht)] at hQ
        exact hQ
      · have e : ¬ q.seq = m.seq := by simpa using e
        rw [if_neg e] at hQ
        exact hQ
theorem dirty_j2 {t63 : Bool} (h : DD W w g x ft S t4 t5 t6 t8 t11 m rp rc lp lc pin) (hm : mineS S m 4) (r : DR W w ft t15 t18 o m now) (ho : get ilt S.rows (keyS m.ts m.frm) = o) (h63 : t63 = true ↔ ∃ r, o = some r ∧ r.seq > m.seq)
    (hQ : AftS W g x ft (askedS S m pin now).1 (res3 (askedS S m pin now).2.1 (askedS S m pin now).2.2.1 (askedS S m pin now).2.2.2) Q) :
    X11.j2 Q (at0 t4 0) (at0 t5 0) (at0 t8 0) (at0 t11 0) (at0 t5 0) (at0 t15 0) o.isSome (at0 t5 0) (at0 t4 0) (at0 t6 0) (at0 t11 0) (at0 t18 0) t63 w := by
  unfold X11.j2
  refine bc_bool (fun ht => ?_) (fun ht => ?_)
  · obtain ⟨q, hq, h2⟩ := h63.1 ht
    unfold askedS at hQ
    rw [ho, hq] at hQ
    simp only [] at hQ
    rw [if_pos h2] at hQ
    obtain ⟨cs, b8, hl⟩ := h.D.b8
    refine stAllB (vs := msgZ.cells none 0 none 0) b8 hl.symm fun w22 b22 f22 => ld_msgA (m := msgZ) b22 ?_
    exact hQ.done h.P h.F (fun y hy => .inl hy) f22 h.new (h.out _ (by simp))
  · have h1 : ∀ r, o = some r → ¬ r.seq > m.seq := fun q hq hn => by
      rw [h63.2 ⟨q, hq, hn⟩] at ht
      cases ht
    cases o with
    | none => exact bc_bool (fun e => by cases e) (fun _ => dirty_j1 h hm r ho h1 ⟨fun e => (by cases e), fun ⟨q, e, _⟩ => (by cases e)⟩ hQ)
    | some q =>
      refine bc_bool (fun _ => ld_int (r.b15.cat 3 _ rfl) (ld_int (h.D.b5.cat 13 _ rfl) (bc_eq (fun e => ld_bool (r.b15.cat 2 _ rfl) ?_) (fun e => ?_)))) (fun e => by cases e)
      · exact dirty_j1 h hm r ho h1 ⟨fun hp => ⟨q, rfl, e, hp⟩, fun ⟨q', hq', _, hp⟩ => by injection hq' with hq'; rw [← hq'] at hp; exact hp⟩ hQ
      · exact dirty_j1 h hm r ho h1 ⟨fun hp => (by cases hp), fun ⟨q', hq', he, _⟩ => by injection hq' with hq'; rw [← hq'] at he; exact absurd he e⟩ hQ
theorem dirty_j3 (h : DD W w g x ft S t4 t5 t6 t8 t11 m rp rc lp lc pin) (hm : mineS S m 4) (b15 : Blk w t15 (o.getD scnZ).cells 53) (ho : get ilt S.rows (keyS m.ts m.frm) = o)
    (hlt : ∀ y ∈ ft, y < w.heap.size)
    (hQ : AftS W g x ft (askedS S m pin now).1 (res3 (askedS S m pin now).2.1 (askedS S m pin now).2.2.1 (askedS S m pin now).2.2.2) Q) :
    X11.j3 Q now (at0 t4 0) (at0 t5 0) (at0 t6 0) (at0 t8 0) (at0 t11 0) (at0 t5 0) (at0 t15 0) o.isSome w := by
  unfold X11.j3
  refine ld_int (h.D.b11.cell rfl) (ld_int (h.D.b5.cat 1 _ rfl) (ld_int (h.D.b5.cat 13 _ rfl) (ld_int (h.D.b5.cat 16 _ rfl) (newB fun g5 w6 b6 f6 h6 => ?_))))
  refine stAllB (vs := (nextR m now true).cells) b6 rfl fun w7 b7 f7 => ?_
  have z6 := f6.size
  have zF := h.F.size
  have F7 : Fr [] w w7 := f6.trans f7 (fun y hy => .inr (by simp at hy; omega))
  have h7 := h.keep' F7
  have r7 : DR W w7 ft t15 g5 o m now := ⟨b15.keep' F7, b7, fun hy => by have := hlt _ hy; omega, by omega⟩
  cases o with
  | none => exact bc_bool (fun e => by cases e) (fun _ => dirty_j2 h7 hm r7 ho ⟨fun e => (by cases e), fun ⟨q, e, _⟩ => (by cases e)⟩ hQ)
  | some q =>
    refine bc_bool (fun _ => ld_int (r7.b15.cat 3 _ rfl) (ld_int (h7.D.b5.cat 13 _ rfl) ?_)) (fun e => by cases e)
    exact dirty_j2 h7 hm r7 ho ⟨fun e => ⟨q, rfl, by simpa using e⟩, fun ⟨q', hq', hp⟩ => by injection hq' with hq'; rw [← hq'] at hp; simpa using hp⟩ hQ

theorem dirty_j4 (h : DD W w g x ft S t4 t5 t6 t8 t11 m rp rc lp lc pin) (hm : mineS S m 4)
    (hQ : AftS W g x ft (askedS S m pin now).1 (res3 (askedS S m pin now).2.1 (askedS S m pin now).2.2.1 (askedS S m pin now).2.2.2) Q) :
    X11.j4 Q now (at0 t4 0) (at0 t5 0) (at0 t6 0) (at0 t8 0) (at0 t11 0) (at0 t5 0) w := by
  unfold X11.j4
  refine drawn fun w1 f1 _ => ?_
  have h1 := h.keep' f1
  have R := h.P.ri
  have hlt := h1.P.lt
  obtain ⟨fh, gt, bm, rt, P1⟩ := h1.P
  have fin : ∀ {o : Option Scn} {w'' : World} {t15 : Nat}, Fr [] w1 w'' → get ilt S.rows (keyS m.ts m.frm) = o → Blk w'' t15 (o.getD scnZ).cells 53 → X11.j3 Q now (at0 t4 0) (at0 t5 0) (at0 t6 0) (at0 t8 0) (at0 t11 0) (at0 t5 0) (at0 t15 0) o.isSome w'' := fun f ho b => dirty_j3 (h1.keep' f) hm b ho (fun y hy => by have := hlt y hy; have := f.size; omega) hQ
  refine ⟨?_, ?_, ?_⟩
  · refine ld_ptr (h1.D.b4.cell rfl) (opt_some rfl (ld_ptr (P1.cat 23 rfl) (ld_int (h1.D.b11.cell rfl) (ld_int (h1.D.b5.cat 1 _ rfl) (key_spec ⟨_, rfl, ⟨P1.cat 23 rfl, P1.cat 23 rfl⟩, ⟨h1.D.b4.cell rfl, h1.D.b4.cell rfl⟩, get_SC P1.tab (fun hn w20 f20 => ?_) (fun r hr w20 f20 => ?_)⟩)))))
    · refine ⟨_, _, _, _, _, _, _, rfl, newB fun g28 w29 b29 f29 h29 => ?_⟩
      have D20 := h1.D.keep' f20
      have P20 := P1.keep' f20
      have D29 := D20.keep' f29
      have P29 := P20.keep' f29
      have z20 := f20.size
      refine ⟨⟨D20.b5.cat 1 _ rfl, D29.b5.cat 1 _ rfl⟩, ⟨D20.b11.cell rfl, D29.b11.cell rfl⟩, ⟨P20.cat 23 rfl, P29.cat 23 rfl⟩, ⟨D20.b4.cell rfl, D29.b4.cell rfl⟩, stAllB (vs := scnZ.cells) b29 rfl fun w30 b30 f30 => ?_⟩
      exact fin (o := none) ((f20.tr f29).trans f30 (fun y hy => .inr (by simp at hy; omega))) hn b30
    · refine ⟨_, _, _, _, _, _, _, rfl, newB fun g28 w29 b29 f29 h29 => ?_⟩
      have D20 := h1.D.keep' f20
      have P20 := P1.keep' f20
      have D29 := D20.keep' f29
      have P29 := P20.keep' f29
      have z20 := f20.size
      refine ⟨⟨D20.b5.cat 1 _ rfl, D29.b5.cat 1 _ rfl⟩, ⟨D20.b11.cell rfl, D29.b11.cell rfl⟩, ⟨P20.cat 23 rfl, P29.cat 23 rfl⟩, ⟨D20.b4.cell rfl, D29.b4.cell rfl⟩, stAllB (vs := r.cells) b29 rfl fun w30 b30 f30 => ?_⟩
      exact fin (o := some r) ((f20.tr f29).trans f30 (fun y hy => .inr (by simp at hy; omega))) hr b30
  · refine ld_ptr (h1.D.b4.cell rfl) (opt_some rfl (ld_ptr (P1.cat 23 rfl) (ld_int (h1.D.b11.cell rfl) (ld_int (h1.D.b5.cat 1 _ rfl) (key_spec ⟨_, rfl, ⟨P1.cat 23 rfl, P1.cat 23 rfl⟩, ⟨h1.D.b4.cell rfl, h1.D.b4.cell rfl⟩, newB fun g28 w29 b29 f29 h29 => ?_⟩)))))
    have D29 := h1.D.keep' f29
    have P29 := P1.keep' f29
    refine ⟨⟨h1.D.b5.cat 1 _ rfl, D29.b5.cat 1 _ rfl⟩, ⟨h1.D.b11.cell rfl, D29.b11.cell rfl⟩, ⟨P1.cat 23 rfl, P29.cat 23 rfl⟩, ⟨h1.D.b4.cell rfl, D29.b4.cell rfl⟩, get_SC P29.tab (fun hn w20 f20 => ?_) (fun r hr w20 f20 => ?_)⟩
    · refine ⟨_, _, _, _, _, _, _, rfl, stAllB (vs := scnZ.cells) (b29.keep' f20) rfl fun w30 b30 f30 => ?_⟩
      exact fin (o := none) ((f29.tr f20).trans f30 (fun y hy => .inr (by simp at hy; omega))) hn b30
    · refine ⟨_, _, _, _, _, _, _, rfl, stAllB (vs := r.cells) (b29.keep' f20) rfl fun w30 b30 f30 => ?_⟩
      exact fin (o := some r) ((f29.tr f20).trans f30 (fun y hy => .inr (by simp at hy; omega))) hr b30
  · refine ld_ptr (h1.D.b4.cell rfl) (opt_some rfl (ld_ptr (P1.cat 23 rfl) (ld_int (h1.D.b11.cell rfl) (ld_int (h1.D.b5.cat 1 _ rfl) (newB fun g28 w29 b29 f29 h29 => ?_)))))
    have D29 := h1.D.keep' f29
    have P29 := P1.keep' f29
    refine ⟨⟨h1.D.b5.cat 1 _ rfl, D29.b5.cat 1 _ rfl⟩, ⟨h1.D.b11.cell rfl, D29.b11.cell rfl⟩, ⟨P1.cat 23 rfl, P29.cat 23 rfl⟩, ⟨h1.D.b4.cell rfl, D29.b4.cell rfl⟩, key_spec ⟨_, rfl, ⟨P29.cat 23 rfl, P29.cat 23 rfl⟩, ⟨D29.b4.cell rfl, D29.b4.cell rfl⟩, get_SC P29.tab (fun hn w20 f20 => ?_) (fun r hr w20 f20 => ?_)⟩⟩
    · refine ⟨_, _, _, _, _, _, _, rfl, stAllB (vs := scnZ.cells) (b29.keep' f20) rfl fun w30 b30 f30 => ?_⟩
      exact fin (o := none) ((f29.tr f20).trans f30 (fun y hy => .inr (by simp at hy; omega))) hn b30
    · refine ⟨_, _, _, _, _, _, _, rfl, stAllB (vs := r.cells) (b29.keep' f20) rfl fun w30 b30 f30 => ?_⟩
      exact fin (o := some r) ((f29.tr f20).trans f30 (fun y hy => .inr (by simp at hy; omega))) hr b30
theorem dirty_spec (t : PS w g x ft S) (hM : MM w m rp rc lp lc) (hQ : AftS w g x ft (dirtyS S m pin now).1 (res3 (dirtyS S m pin now).2.1 (dirtyS S m pin now).2.2.1 (dirtyS S m pin now).2.2.2) Q) :
    CallR Try.prog 11 #[.pointer (some (at0 g 0)), msgV m rp rc lp lc, .bool pin, .int .u64 now] w Q := by
  apply X11.sound
  unfold X11.f
  have lt := t.lt
  refine newB fun g1 w2 b1 f2 h2 => newB fun g3 w4 b3 f4 h4 => newB fun g5 w6 b5 f6 h6 => newB fun g7 w8 b7 f8 h8 => ?_
  have b3 : Blk w4 g3 (m.cells rp rc lp lc) 40 := b3
  have z2 := f2.size
  have z4 := f4.size
  have z6 := f6.size
  have F8 := f2.tr (f4.tr (f6.tr f8))
  have b1' := b1.keep' (f4.tr (f6.tr f8))
  have b3' := b3.keep' (f6.tr f8)
  have b5' := b5.keep' f8
  refine ld_ptr (b1'.cell rfl) (ld_msgA (m := m) b3' (mine_spec (t.keep' F8) (hM.keep' F8) fun bo w30 hbo f30 => ⟨_, rfl, bc_bool (fun hb => ?_) (fun hb => ?_)⟩))
  · have hn : ¬ mineS S m 4 := fun h => by rw [hbo.2 h] at hb; cases hb
    unfold dirtyS at hQ
    rw [if_neg hn] at hQ
    refine stAllB (vs := msgZ.cells none 0 none 0) (b7.keep' f30) rfl fun w22 b22 f22 => ld_msgA (m := msgZ) b22 ?_
    exact hQ.done (t.keep' (F8.tr f30)) (F8.tr f30).any (fun y hy => .inl hy) f22 (by omega) (fun hm => by have := lt _ hm; omega)
  · have hm : mineS S m 4 := hbo.1 (by simpa using hb)
    unfold dirtyS at hQ
    rw [if_pos hm] at hQ
    have c3 := b3'.keep' f30
    have c9 : w30.cell? (((at0 g3 0).add 8).add 1) = some (.int .u64 m.ts) := by rw [add_add]; exact c3.cat 9 _ rfl
    refine ld_int c9 (newB fun g53 w54 b53 f54 h54 => ?_)
    have z8 := f8.size
    have z30 := f30.size
    have hts := (mine4 hm now true).1
    refine ⟨b53.storeOk (i := 0) (by decide), ?_⟩
    have s55 : Blk (w54.setCell (at0 g53 0) (.int .u64 m.ts)) g53 [.int .u64 m.ts] 22 := b53.set 0 _
    have f55 : Fr [g53] w54 (w54.setCell (at0 g53 0) (.int .u64 m.ts)) := Fr.setCell (by simp [at0]) _
    generalize w54.setCell (at0 g53 0) (.int .u64 m.ts) = w55 at *
    have F55 : Fr [] w30 w55 := f54.trans f55 (fun y hy => .inr (by simp at hy; omega))
    have FW : Fr [] w w55 := (F8.tr f30).tr F55
    have DDW : DD w w55 g x ft S g1 g3 g5 g7 g53 m rp rc lp lc pin := ⟨t.keep' FW, ⟨b1'.keep' (f30.tr F55), c3.keep' F55, b5'.keep' (f30.tr F55), ⟨_, b7.keep' (f30.tr F55), rfl⟩, s55, by have := b3.lt; omega⟩, FW.any, fun y hy hm => by
      have := lt y hm
      simp at hy
      rcases hy with rfl | rfl | rfl | rfl | rfl <;> omega, by omega⟩
    refine drawn fun w56 f56 _ => ?_
    have h56 := DDW.keep' f56
    obtain ⟨fh, gt, bm, rt, P56⟩ := h56.P
    have ts0 : 0 ≤ m.ts := by have := hts.1; simp at this; omega
    have ts1 : m.ts ≤ 18446744073709551615 := by have := hts.2; simp at this; omega
    have fin : ∀ {w71 : World}, Fr [] w56 w71 → bcase (!hasO S.os m.ts) (CallR Try.prog 31 #[.int .i64 4, .pointer (some (at0 g3 0))] w71 fun v72 w73 => ∃ (y74 : Int) (y75 : Int) (y76 : Int) (y77 : Int) (y78 : Int) (y79 : Int) (y80 : Int) (y81 : Int) (y82 : Int) (y83 : Int) (y84p : Option Addr) (y84n y84c : Nat) (y85 : Int) (y86 : Int) (y87 : Int) (y88 : Int) (y89 : Int) (y90 : Int) (y91 : Int) (y92p : Option Addr) (y92n y92c : Nat), v72 = .agg #[.int .i64 y74, .int .i64 y75, .int .i64 y76, .int .u64 y77, .int .u64 y78, .int .i64 y79, .int .i64 y80, .int .i64 y81, .int .i64 y82, .int .u64 y83, .slice y84p y84n y84c, .int .u64 y85, .int .i64 y86, .int .u64 y87, .int .i64 y88, .int .u64 y89, .int .i64 y90, .int .u64 y91, .slice y92p y92n y92c] ∧ stAll w73 (at0 g7 0) [.int .i64 y74, .int .i64 y75, .int .i64 y76, .int .u64 y77, .int .u64 y78, .int .i64 y79, .int .i64 y80, .int .i64 y81, .int .i64 y82, .int .u64 y83, .slice y84p y84n y84c, .int .u64 y85, .int .i64 y86, .int .u64 y87, .int .i64 y88, .int .u64 y89, .int .i64 y90, .int .u64 y91, .slice y92p y92n y92c] fun w93 => ldI .i64 w93 ((at0 g7 0).add 0) fun x94 => ldI .i64 w93 ((at0 g7 0).add 1) fun x95 => ldI .i64 w93 ((at0 g7 0).add 2) fun x96 => ldI .u64 w93 ((at0 g7 0).add 3) fun x97 => ldI .u64 w93 ((at0 g7 0).add 4) fun x98 => ldI .i64 w93 ((at0 g7 0).add 5) fun x99 => ldI .i64 w93 ((at0 g7 0).add 6) fun x100 => ldI .i64 w93 ((at0 g7 0).add 7) fun x101 => ldI .i64 w93 ((at0 g7 0).add 8) fun x102 => ldI .u64 w93 ((at0 g7 0).add 9) fun x103 => ldSl w93 ((at0 g7 0).add 10) fun x104p x104n x104c => ldI .u64 w93 ((at0 g7 0).add 11) fun x105 => ldI .i64 w93 ((at0 g7 0).add 12) fun x106 => ldI .u64 w93 ((at0 g7 0).add 13) fun x107 => ldI .i64 w93 ((at0 g7 0).add 14) fun x108 => ldI .u64 w93 ((at0 g7 0).add 15) fun x109 => ldI .i64 w93 ((at0 g7 0).add 16) fun x110 => ldI .u64 w93 ((at0 g7 0).add 17) fun x111 => ldSl w93 ((at0 g7 0).add 18) fun x112p x112n x112c => Q (.tuple #[.agg #[.int .i64 x94, .int .i64 x95, .int .i64 x96, .int .u64 x97, .int .u64 x98, .int .i64 x99, .int .i64 x100, .int .i64 x101, .int .i64 x102, .int .u64 x103, .slice x104p x104n x104c, .int .u64 x105, .int .i64 x106, .int .u64 x107, .int .i64 x108, .int .u64 x109, .int .i64 x110, .int .u64 x111, .slice x112p x112n x112c], .bool false, .bool true]) w93) (X11.j4 Q now (at0 g1 0) (at0 g3 0) (at0 g5 0) (at0 g7 0) (at0 g53 0) (at0 g3 0) w71) := by
      intro w71 f71
      have h71 := h56.keep' f71
      refine bc_bool (fun hb => ?_) (fun hb => ?_)
      · have ho : ¬ hasO S.os m.ts = true := fun h => by rw [h] at hb; cases hb
        rw [if_neg ho] at hQ
        refine told_spec h71.D.b5 fun w73 f73 => ⟨_, _, _, _, _, _, _, _, _, _, _, _, _, _, _, _, _, _, _, _, _, _, _, rfl, ?_⟩
        have h73 := h71.keep' f73
        obtain ⟨cs, b8, hl⟩ := h73.D.b8
        refine stAllB (vs := (toldM m 4).cells none 0 none 0) b8 hl.symm fun w22 b22 f22 => ld_msgA (m := toldM m 4) b22 ?_
        exact hQ.done h73.P h73.F (fun y hy => .inl hy) f22 h73.new (h73.out _ (by simp))
      · have ho : hasO S.os m.ts = true := by simpa using hb
        rw [if_pos ho] at hQ
        exact dirty_j4 h71 hm hQ
    refine ⟨?_, ?_⟩
    · refine ld_ptr (h56.D.b4.cell rfl) (opt_some rfl (ld_ptr (P56.cat 22 rfl) (ld_int (h56.D.b11.cell rfl) (object_spec P56.heap ts0 ts1 fun w62 ser cell rp rn rc vp vn vc f62 => ⟨_, _, _, _, _, _, _, _, _, _, rfl, newB fun g69 w70 b70 f70 h70 => ?_⟩))))
      have D62 := h56.D.keep' f62
      have D70 := D62.keep' f70
      have P62 := P56.keep' f62
      have P70 := P62.keep' f70
      have z62 := f62.size
      refine ⟨⟨D62.b11.cell rfl, D70.b11.cell rfl⟩, ⟨P62.cat 22 rfl, P70.cat 22 rfl⟩, ⟨D62.b4.cell rfl, D70.b4.cell rfl⟩, stAllB (vs := Obj.cells ⟨ser, cell, rp, rn, rc, vp, vn, vc, inO S.os m.ts⟩) b70 rfl fun w71 b71 f71 => ?_⟩
      exact fin ((f62.tr f70).trans f71 (fun y hy => .inr (by simp at hy; omega)))
    · refine ld_ptr (h56.D.b4.cell rfl) (opt_some rfl (ld_ptr (P56.cat 22 rfl) (ld_int (h56.D.b11.cell rfl) (newB fun g69 w70 b70 f70 h70 => ?_))))
      have D70 := h56.D.keep' f70
      have P70 := P56.keep' f70
      refine ⟨⟨h56.D.b11.cell rfl, D70.b11.cell rfl⟩, ⟨P56.cat 22 rfl, P70.cat 22 rfl⟩, ⟨h56.D.b4.cell rfl, D70.b4.cell rfl⟩, object_spec P70.heap ts0 ts1 fun w62 ser cell rp rn rc vp vn vc f62 => ⟨_, _, _, _, _, _, _, _, _, _, rfl, ?_⟩⟩
      refine stAllB (vs := Obj.cells ⟨ser, cell, rp, rn, rc, vp, vn, vc, inO S.os m.ts⟩) (b70.keep' f62) rfl fun w71 b71 f71 => ?_
      exact fin ((f70.tr f62).trans f71 (fun y hy => .inr (by simp at hy; omega)))
end
end Go.Proofs.YtnjmkhhaodgpbaaX
