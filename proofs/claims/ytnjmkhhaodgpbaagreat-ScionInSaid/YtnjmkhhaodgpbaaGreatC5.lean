/- Part 5. -/
import Derived.Test.YtnjmkhhaodgpbaaGreatC4
set_option linter.unusedVariables false
set_option linter.unusedSimpArgs false
namespace Go.Proofs.YtnjmkhhaodgpbaaGreatX
open Go.RowKit
set_option maxRecDepth 100000
abbrev res3 (m : Msg) (a b : Bool) : Value := .tuple #[msgV m none 0 none 0, .bool a, .bool b]
section
variable {w w' W : World} {Q : QT} {g gt bm : Nat} {x : HB} {ft ft' fh fh' rt rt' F : List Nat} {S S' : Sc} {s d now k : Int} {r : Scn} {m : Msg} {rp lp : Option Addr} {rc lc : Nat} {pin : Bool} {b : Nat} {v : Value} {t4 t5 t6 t8 t11 t15 t18 : Nat} {o : Option Scn}
structure DR (W w : World) (ft : List Nat) (t15 t18 : Nat) (o : Option Scn) (m : Msg) (now : Int) : Prop where
  b15 : Blk w t15 (o.getD scnZ).cells 52
  b18 : Blk w t18 (nextR m now true).cells 52
  n18 : t18 ∉ ft
  h18 : W.heap.size ≤ t18
theorem dirty_j1 {t73 : Bool} (h : DD W w g x ft S t4 t5 t6 t8 t11 m rp rc lp lc pin) (hm : mineS S m 4) (r : DR W w ft t15 t18 o m now) (ho : get ilt S.rows (keyS m.ts m.frm) = o) (h1 : ∀ r, o = some r → ¬ r.seq > m.seq)
    (h73 : t73 = true ↔ ∃ r, o = some r ∧ r.seq = m.seq ∧ r.present = true)
    (hQ : AftS W g x ft (askedS S m pin now).1 (res3 (askedS S m pin now).2.1 (askedS S m pin now).2.2.1 (askedS S m pin now).2.2.2) Q) :
    X19.j1 Q (at0 t4 0) (at0 t5 0) (at0 t8 0) (at0 t11 0) (at0 t5 0) (at0 t15 0) o.isSome (at0 t5 0) (at0 t4 0) (at0 t6 0) (at0 t11 0) (at0 t18 0) t73 w := by
  unfold X19.j1
  unfold askedS at hQ
  rw [ho] at hQ
  refine bc_bool (fun ht => ?_) (fun ht => ?_)
  · obtain ⟨q, hq, h2, h3⟩ := h73.1 ht
    rw [hq] at hQ
    simp only [] at hQ
    rw [if_neg (h1 q hq), if_pos h2, if_pos h3] at hQ
    refine ld_ptr (h.D.b4.cell rfl) (ld_Scn (s := nextR m now true) r.b18.cat (put_spec h.P (mine4 hm now true) fun ft2 w54 P54 f54 e54 => ⟨rfl, ?_⟩))
    have z45 := h.F.size
    have o54 : ∀ y ∈ [t4, t5, t6, t8, t11], y ∉ ft2 := fun y hy hm => by
      rcases e54 _ hm with h' | h'
      · exact h.out y hy h'
      · have := h.D.lt y hy
        omega
    have D54 := h.D.keep f54 h.out
    refine told_spec D54.b5 fun w56 f56 => ⟨_, _, _, _, _, _, _, _, _, _, _, _, _, _, _, _, _, _, _, _, _, _, _, rfl, ?_⟩
    obtain ⟨cs, b8, hl⟩ := (D54.keep' f56).b8
    refine stAllB (vs := (toldM m 0).cells none 0 none 0) b8 hl.symm fun w22 b22 f22 => ld_msgA (m := toldM m 0) b22 ?_
    exact hQ.done (P54.keep' f56) ((h.F.tr f54).tr f56.any) (fun y hy => (e54 y hy).imp_right fun h => by omega) f22 h.new (o54 _ (by simp))
  · cases o with
    | none =>
      simp only [] at hQ
      exact bc_bool (fun e => by cases e) (fun _ => dirty_j0 h hm r.b18 r.n18 r.h18 (fun e => by cases e) (fun _ => hQ))
    | some q =>
      simp only [] at hQ
      rw [if_neg (h1 q rfl)] at hQ
      refine bc_bool (fun _ => ld_int (r.b15.cat 3 _ rfl) (ld_int (h.D.b5.cat 13 _ rfl) ?_)) (fun e => by cases e)
      refine dirty_j0 h hm r.b18 r.n18 r.h18 (fun e => ?_) (fun e => ?_)
      · have e : q.seq = m.seq := by simpa using e
        rw [if_pos e, if_neg (fun hp => by rw [h73.2 ⟨q, rfl, e, hp⟩] at ht; cases ht)] at hQ
        exact hQ
      · have e : ¬ q.seq = m.seq := by simpa using e
        rw [if_neg e] at hQ
        exact hQ
theorem dirty_j2 {t63 : Bool} (h : DD W w g x ft S t4 t5 t6 t8 t11 m rp rc lp lc pin) (hm : mineS S m 4) (r : DR W w ft t15 t18 o m now) (ho : get ilt S.rows (keyS m.ts m.frm) = o) (h63 : t63 = true ↔ ∃ r, o = some r ∧ r.seq > m.seq)
    (hQ : AftS W g x ft (askedS S m pin now).1 (res3 (askedS S m pin now).2.1 (askedS S m pin now).2.2.1 (askedS S m pin now).2.2.2) Q) :
    X19.j2 Q (at0 t4 0) (at0 t5 0) (at0 t8 0) (at0 t11 0) (at0 t5 0) (at0 t15 0) o.isSome (at0 t5 0) (at0 t4 0) (at0 t6 0) (at0 t11 0) (at0 t18 0) t63 w := by
  unfold X19.j2
  refine bc_bool (fun ht => ?_) (fun ht => ?_)
  · obtain ⟨q, hq, h2⟩ := h63.1 ht
    unfold askedS at hQ
    rw [ho, hq] at hQ
    simp only [] at hQ
    rw [if_pos h2] at hQ
    obtain ⟨cs, b8, hl⟩ := h.D.b8
    refine stAllB (vs := msgZ.cells none 0 none 0) b8 hl.symm fun w22 b22 f22 => ld_msgA (m := msgZ) b22 ?_
    exact hQ.done h.P h.F (fun y hy => .inl hy) f22 h.new (h.out _ (by simp))
  · have h1 : ∀ r, o = some r → ¬ r.seq > m.seq := fun q hq hn => by
      rw [h63.2 ⟨q, hq, hn⟩] at ht
      cases ht
    cases o with
    | none => exact bc_bool (fun e => by cases e) (fun _ => dirty_j1 h hm r ho h1 ⟨fun e => (by cases e), fun ⟨q, e, _⟩ => (by cases e)⟩ hQ)
    | some q =>
      refine bc_bool (fun _ => ld_int (r.b15.cat 3 _ rfl) (ld_int (h.D.b5.cat 13 _ rfl) (bc_eq (fun e => ld_bool (r.b15.cat 2 _ rfl) ?_) (fun e => ?_)))) (fun e => by cases e)
      · exact dirty_j1 h hm r ho h1 ⟨fun hp => ⟨q, rfl, e, hp⟩, fun ⟨q', hq', _, hp⟩ => by injection hq' with hq'; rw [← hq'] at hp; exact hp⟩ hQ
      · exact dirty_j1 h hm r ho h1 ⟨fun hp => (by cases hp), fun ⟨q', hq', he, _⟩ => by injection hq' with hq'; rw [← hq'] at he; exact absurd he e⟩ hQ
theorem dirty_j3 (h : DD W w g x ft S t4 t5 t6 t8 t11 m rp rc lp lc pin) (hm : mineS S m 4) (b15 : Blk w t15 (o.getD scnZ).cells 52) (ho : get ilt S.rows (keyS m.ts m.frm) = o)
    (hlt : ∀ y ∈ ft, y < w.heap.size)
    (hQ : AftS W g x ft (askedS S m pin now).1 (res3 (askedS S m pin now).2.1 (askedS S m pin now).2.2.1 (askedS S m pin now).2.2.2) Q) :
    X19.j3 Q now (at0 t4 0) (at0 t5 0) (at0 t6 0) (at0 t8 0) (at0 t11 0) (at0 t5 0) (at0 t15 0) o.isSome w := by
  unfold X19.j3
  refine ld_int (h.D.b11.cell rfl) (ld_int (h.D.b5.cat 1 _ rfl) (ld_int (h.D.b5.cat 13 _ rfl) (ld_int (h.D.b5.cat 16 _ rfl) (newB fun g5 w6 b6 f6 h6 => ?_))))
  refine stAllB (vs := (nextR m now true).cells) b6 rfl fun w7 b7 f7 => ?_
  have z6 := f6.size
  have zF := h.F.size
  have F7 : Fr [] w w7 := f6.trans f7 (fun y hy => .inr (by simp at hy; omega))
  have h7 := h.keep' F7
  have r7 : DR W w7 ft t15 g5 o m now := ⟨b15.keep' F7, b7, fun hy => by have := hlt _ hy; omega, by omega⟩
  cases o with
  | none => exact bc_bool (fun e => by cases e) (fun _ => dirty_j2 h7 hm r7 ho ⟨fun e => (by cases e), fun ⟨q, e, _⟩ => (by cases e)⟩ hQ)
  | some q =>
    refine bc_bool (fun _ => ld_int (r7.b15.cat 3 _ rfl) (ld_int (h7.D.b5.cat 13 _ rfl) ?_)) (fun e => by cases e)
    exact dirty_j2 h7 hm r7 ho ⟨fun e => ⟨q, rfl, by simpa using e⟩, fun ⟨q', hq', hp⟩ => by injection hq' with hq'; rw [← hq'] at hp; simpa using hp⟩ hQ
theorem dirty_j4 (h : DD W w g x ft S t4 t5 t6 t8 t11 m rp rc lp lc pin) (hm : mineS S m 4)
    (hQ : AftS W g x ft (askedS S m pin now).1 (res3 (askedS S m pin now).2.1 (askedS S m pin now).2.2.1 (askedS S m pin now).2.2.2) Q) :
    X19.j4 Q now (at0 t4 0) (at0 t5 0) (at0 t6 0) (at0 t8 0) (at0 t11 0) (at0 t5 0) w := by
  unfold X19.j4
  refine drawn fun w1 f1 _ => ?_
  have h1 := h.keep' f1
  have R := h.P.ri
  have hlt := h1.P.lt
  obtain ⟨fh, gt, bm, rt, P1⟩ := h1.P
  have fin : ∀ {o : Option Scn} {w'' : World} {t15 : Nat}, Fr [] w1 w'' → get ilt S.rows (keyS m.ts m.frm) = o → Blk w'' t15 (o.getD scnZ).cells 52 → X19.j3 Q now (at0 t4 0) (at0 t5 0) (at0 t6 0) (at0 t8 0) (at0 t11 0) (at0 t5 0) (at0 t15 0) o.isSome w'' := fun f ho b => dirty_j3 (h1.keep' f) hm b ho (fun y hy => by have := hlt y hy; have := f.size; omega) hQ
  refine ⟨?_, ?_, ?_⟩
  · refine ld_ptr (h1.D.b4.cell rfl) (opt_some rfl (ld_ptr (P1.cat 23 rfl) (ld_int (h1.D.b11.cell rfl) (ld_int (h1.D.b5.cat 1 _ rfl) (key_spec ⟨_, rfl, ⟨P1.cat 23 rfl, P1.cat 23 rfl⟩, ⟨h1.D.b4.cell rfl, h1.D.b4.cell rfl⟩, get_SC P1.tab (fun hn w20 f20 => ?_) (fun r hr w20 f20 => ?_)⟩)))))
    · refine ⟨_, _, _, _, _, _, _, rfl, newB fun g28 w29 b29 f29 h29 => ?_⟩
      have D20 := h1.D.keep' f20
      have P20 := P1.keep' f20
      have D29 := D20.keep' f29
      have P29 := P20.keep' f29
      have z20 := f20.size
      refine ⟨⟨D20.b5.cat 1 _ rfl, D29.b5.cat 1 _ rfl⟩, ⟨D20.b11.cell rfl, D29.b11.cell rfl⟩, ⟨P20.cat 23 rfl, P29.cat 23 rfl⟩, ⟨D20.b4.cell rfl, D29.b4.cell rfl⟩, stAllB (vs := scnZ.cells) b29 rfl fun w30 b30 f30 => ?_⟩
      exact fin (o := none) ((f20.tr f29).trans f30 (fun y hy => .inr (by simp at hy; omega))) hn b30
    · refine ⟨_, _, _, _, _, _, _, rfl, newB fun g28 w29 b29 f29 h29 => ?_⟩
      have D20 := h1.D.keep' f20
      have P20 := P1.keep' f20
      have D29 := D20.keep' f29
      have P29 := P20.keep' f29
      have z20 := f20.size
      refine ⟨⟨D20.b5.cat 1 _ rfl, D29.b5.cat 1 _ rfl⟩, ⟨D20.b11.cell rfl, D29.b11.cell rfl⟩, ⟨P20.cat 23 rfl, P29.cat 23 rfl⟩, ⟨D20.b4.cell rfl, D29.b4.cell rfl⟩, stAllB (vs := r.cells) b29 rfl fun w30 b30 f30 => ?_⟩
      exact fin (o := some r) ((f20.tr f29).trans f30 (fun y hy => .inr (by simp at hy; omega))) hr b30
  · refine ld_ptr (h1.D.b4.cell rfl) (opt_some rfl (ld_ptr (P1.cat 23 rfl) (ld_int (h1.D.b11.cell rfl) (ld_int (h1.D.b5.cat 1 _ rfl) (key_spec ⟨_, rfl, ⟨P1.cat 23 rfl, P1.cat 23 rfl⟩, ⟨h1.D.b4.cell rfl, h1.D.b4.cell rfl⟩, newB fun g28 w29 b29 f29 h29 => ?_⟩)))))
    have D29 := h1.D.keep' f29
    have P29 := P1.keep' f29
    refine ⟨⟨h1.D.b5.cat 1 _ rfl, D29.b5.cat 1 _ rfl⟩, ⟨h1.D.b11.cell rfl, D29.b11.cell rfl⟩, ⟨P1.cat 23 rfl, P29.cat 23 rfl⟩, ⟨h1.D.b4.cell rfl, D29.b4.cell rfl⟩, get_SC P29.tab (fun hn w20 f20 => ?_) (fun r hr w20 f20 => ?_)⟩
    · refine ⟨_, _, _, _, _, _, _, rfl, stAllB (vs := scnZ.cells) (b29.keep' f20) rfl fun w30 b30 f30 => ?_⟩
      exact fin (o := none) ((f29.tr f20).trans f30 (fun y hy => .inr (by simp at hy; omega))) hn b30
    · refine ⟨_, _, _, _, _, _, _, rfl, stAllB (vs := r.cells) (b29.keep' f20) rfl fun w30 b30 f30 => ?_⟩
      exact fin (o := some r) ((f29.tr f20).trans f30 (fun y hy => .inr (by simp at hy; omega))) hr b30
  · refine ld_ptr (h1.D.b4.cell rfl) (opt_some rfl (ld_ptr (P1.cat 23 rfl) (ld_int (h1.D.b11.cell rfl) (ld_int (h1.D.b5.cat 1 _ rfl) (newB fun g28 w29 b29 f29 h29 => ?_)))))
    have D29 := h1.D.keep' f29
    have P29 := P1.keep' f29
    refine ⟨⟨h1.D.b5.cat 1 _ rfl, D29.b5.cat 1 _ rfl⟩, ⟨h1.D.b11.cell rfl, D29.b11.cell rfl⟩, ⟨P1.cat 23 rfl, P29.cat 23 rfl⟩, ⟨h1.D.b4.cell rfl, D29.b4.cell rfl⟩, key_spec ⟨_, rfl, ⟨P29.cat 23 rfl, P29.cat 23 rfl⟩, ⟨D29.b4.cell rfl, D29.b4.cell rfl⟩, get_SC P29.tab (fun hn w20 f20 => ?_) (fun r hr w20 f20 => ?_)⟩⟩
    · refine ⟨_, _, _, _, _, _, _, rfl, stAllB (vs := scnZ.cells) (b29.keep' f20) rfl fun w30 b30 f30 => ?_⟩
      exact fin (o := none) ((f29.tr f20).trans f30 (fun y hy => .inr (by simp at hy; omega))) hn b30
    · refine ⟨_, _, _, _, _, _, _, rfl, stAllB (vs := r.cells) (b29.keep' f20) rfl fun w30 b30 f30 => ?_⟩
      exact fin (o := some r) ((f29.tr f20).trans f30 (fun y hy => .inr (by simp at hy; omega))) hr b30
theorem dirty_spec (t : PS w g x ft S) (hM : MM w m rp rc lp lc) (hQ : AftS w g x ft (dirtyS S m pin now).1 (res3 (dirtyS S m pin now).2.1 (dirtyS S m pin now).2.2.1 (dirtyS S m pin now).2.2.2) Q) :
    CallR Tryz.prog 19 #[.pointer (some (at0 g 0)), msgV m rp rc lp lc, .bool pin, .int .u64 now] w Q := by
  apply X19.sound
  unfold X19.f
  have lt := t.lt
  refine newB fun g1 w2 b1 f2 h2 => newB fun g3 w4 b3 f4 h4 => newB fun g5 w6 b5 f6 h6 => newB fun g7 w8 b7 f8 h8 => ?_
  have b3 : Blk w4 g3 (m.cells rp rc lp lc) 41 := b3
  have z2 := f2.size
  have z4 := f4.size
  have z6 := f6.size
  have F8 := f2.tr (f4.tr (f6.tr f8))
  have b1' := b1.keep' (f4.tr (f6.tr f8))
  have b3' := b3.keep' (f6.tr f8)
  have b5' := b5.keep' f8
  refine ld_ptr (b1'.cell rfl) (ld_msgA (m := m) b3' (mine_spec (t.keep' F8) (hM.keep' F8) fun bo w30 hbo f30 => ⟨_, rfl, bc_bool (fun hb => ?_) (fun hb => ?_)⟩))
  · have hn : ¬ mineS S m 4 := fun h => by rw [hbo.2 h] at hb; cases hb
    unfold dirtyS at hQ
    rw [if_neg hn] at hQ
    refine stAllB (vs := msgZ.cells none 0 none 0) (b7.keep' f30) rfl fun w22 b22 f22 => ld_msgA (m := msgZ) b22 ?_
    exact hQ.done (t.keep' (F8.tr f30)) (F8.tr f30).any (fun y hy => .inl hy) f22 (by omega) (fun hm => by have := lt _ hm; omega)
  · have hm : mineS S m 4 := hbo.1 (by simpa using hb)
    unfold dirtyS at hQ
    rw [if_pos hm] at hQ
    have c3 := b3'.keep' f30
    have c9 : w30.cell? (((at0 g3 0).add 8).add 1) = some (.int .u64 m.ts) := by rw [add_add]; exact c3.cat 9 _ rfl
    refine ld_int c9 (newB fun g53 w54 b53 f54 h54 => ?_)
    have z8 := f8.size
    have z30 := f30.size
    have hts := (mine4 hm now true).1
    refine ⟨b53.storeOk (i := 0) (by decide), ?_⟩
    have s55 : Blk (w54.setCell (at0 g53 0) (.int .u64 m.ts)) g53 [.int .u64 m.ts] 22 := b53.set 0 _
    have f55 : Fr [g53] w54 (w54.setCell (at0 g53 0) (.int .u64 m.ts)) := Fr.setCell (by simp [at0]) _
    generalize w54.setCell (at0 g53 0) (.int .u64 m.ts) = w55 at *
    have F55 : Fr [] w30 w55 := f54.trans f55 (fun y hy => .inr (by simp at hy; omega))
    have FW : Fr [] w w55 := (F8.tr f30).tr F55
    have DDW : DD w w55 g x ft S g1 g3 g5 g7 g53 m rp rc lp lc pin := ⟨t.keep' FW, ⟨b1'.keep' (f30.tr F55), c3.keep' F55, b5'.keep' (f30.tr F55), ⟨_, b7.keep' (f30.tr F55), rfl⟩, s55, by have := b3.lt; omega⟩, FW.any, fun y hy hm => by
      have := lt y hm
      simp at hy
      rcases hy with rfl | rfl | rfl | rfl | rfl <;> omega, by omega⟩
    refine drawn fun w56 f56 _ => ?_
    have h56 := DDW.keep' f56
    obtain ⟨fh, gt, bm, rt, P56⟩ := h56.P
    have ts0 : 0 ≤ m.ts := by have := hts.1; simp at this; omega
    have ts1 : m.ts ≤ 18446744073709551615 := by have := hts.2; simp at this; omega
    have fin : ∀ {w71 : World}, Fr [] w56 w71 → bcase (!hasO S.os m.ts) (CallR Tryz.prog 51 #[.int .i64 4, .pointer (some (at0 g3 0))] w71 fun v72 w73 => ∃ (y74 y75 y76 y77 y78 y79 y80 y81 y82 y83 : Int) (y84p : Option Addr) (y84n y84c : Nat) (y85 y86 y87 y88 y89 y90 y91 : Int) (y92p : Option Addr) (y92n y92c : Nat), v72 = .agg #[.int .i64 y74, .int .i64 y75, .int .i64 y76, .int .u64 y77, .int .u64 y78, .int .i64 y79, .int .i64 y80, .int .i64 y81, .int .i64 y82, .int .u64 y83, .slice y84p y84n y84c, .int .u64 y85, .int .i64 y86, .int .u64 y87, .int .i64 y88, .int .u64 y89, .int .i64 y90, .int .u64 y91, .slice y92p y92n y92c] ∧ stAll w73 (at0 g7 0) [.int .i64 y74, .int .i64 y75, .int .i64 y76, .int .u64 y77, .int .u64 y78, .int .i64 y79, .int .i64 y80, .int .i64 y81, .int .i64 y82, .int .u64 y83, .slice y84p y84n y84c, .int .u64 y85, .int .i64 y86, .int .u64 y87, .int .i64 y88, .int .u64 y89, .int .i64 y90, .int .u64 y91, .slice y92p y92n y92c] fun w93 => ldI .i64 w93 ((at0 g7 0).add 0) fun x94 => ldI .i64 w93 ((at0 g7 0).add 1) fun x95 => ldI .i64 w93 ((at0 g7 0).add 2) fun x96 => ldI .u64 w93 ((at0 g7 0).add 3) fun x97 => ldI .u64 w93 ((at0 g7 0).add 4) fun x98 => ldI .i64 w93 ((at0 g7 0).add 5) fun x99 => ldI .i64 w93 ((at0 g7 0).add 6) fun x100 => ldI .i64 w93 ((at0 g7 0).add 7) fun x101 => ldI .i64 w93 ((at0 g7 0).add 8) fun x102 => ldI .u64 w93 ((at0 g7 0).add 9) fun x103 => ldSl w93 ((at0 g7 0).add 10) fun x104p x104n x104c => ldI .u64 w93 ((at0 g7 0).add 11) fun x105 => ldI .i64 w93 ((at0 g7 0).add 12) fun x106 => ldI .u64 w93 ((at0 g7 0).add 13) fun x107 => ldI .i64 w93 ((at0 g7 0).add 14) fun x108 => ldI .u64 w93 ((at0 g7 0).add 15) fun x109 => ldI .i64 w93 ((at0 g7 0).add 16) fun x110 => ldI .u64 w93 ((at0 g7 0).add 17) fun x111 => ldSl w93 ((at0 g7 0).add 18) fun x112p x112n x112c => Q (.tuple #[.agg #[.int .i64 x94, .int .i64 x95, .int .i64 x96, .int .u64 x97, .int .u64 x98, .int .i64 x99, .int .i64 x100, .int .i64 x101, .int .i64 x102, .int .u64 x103, .slice x104p x104n x104c, .int .u64 x105, .int .i64 x106, .int .u64 x107, .int .i64 x108, .int .u64 x109, .int .i64 x110, .int .u64 x111, .slice x112p x112n x112c], .bool false, .bool true]) w93) (X19.j4 Q now (at0 g1 0) (at0 g3 0) (at0 g5 0) (at0 g7 0) (at0 g53 0) (at0 g3 0) w71) := by
      intro w71 f71
      have h71 := h56.keep' f71
      refine bc_bool (fun hb => ?_) (fun hb => ?_)
      · have ho : ¬ hasO S.os m.ts = true := fun h => by rw [h] at hb; cases hb
        rw [if_neg ho] at hQ
        refine told_spec h71.D.b5 fun w73 f73 => ⟨_, _, _, _, _, _, _, _, _, _, _, _, _, _, _, _, _, _, _, _, _, _, _, rfl, ?_⟩
        have h73 := h71.keep' f73
        obtain ⟨cs, b8, hl⟩ := h73.D.b8
        refine stAllB (vs := (toldM m 4).cells none 0 none 0) b8 hl.symm fun w22 b22 f22 => ld_msgA (m := toldM m 4) b22 ?_
        exact hQ.done h73.P h73.F (fun y hy => .inl hy) f22 h73.new (h73.out _ (by simp))
      · have ho : hasO S.os m.ts = true := by simpa using hb
        rw [if_pos ho] at hQ
        exact dirty_j4 h71 hm hQ
    refine ⟨?_, ?_⟩
    · refine ld_ptr (h56.D.b4.cell rfl) (opt_some rfl (ld_ptr (P56.cat 22 rfl) (ld_int (h56.D.b11.cell rfl) (object_spec P56.heap ts0 ts1 fun w62 ser cell rp rn rc vp vn vc f62 => ⟨_, _, _, _, _, _, _, _, _, _, rfl, newB fun g69 w70 b70 f70 h70 => ?_⟩))))
      have D62 := h56.D.keep' f62
      have D70 := D62.keep' f70
      have P62 := P56.keep' f62
      have P70 := P62.keep' f70
      have z62 := f62.size
      refine ⟨⟨D62.b11.cell rfl, D70.b11.cell rfl⟩, ⟨P62.cat 22 rfl, P70.cat 22 rfl⟩, ⟨D62.b4.cell rfl, D70.b4.cell rfl⟩, stAllB (vs := Obj.cells ⟨ser, cell, rp, rn, rc, vp, vn, vc, inO S.os m.ts⟩) b70 rfl fun w71 b71 f71 => ?_⟩
      exact fin ((f62.tr f70).trans f71 (fun y hy => .inr (by simp at hy; omega)))
    · refine ld_ptr (h56.D.b4.cell rfl) (opt_some rfl (ld_ptr (P56.cat 22 rfl) (ld_int (h56.D.b11.cell rfl) (newB fun g69 w70 b70 f70 h70 => ?_))))
      have D70 := h56.D.keep' f70
      have P70 := P56.keep' f70
      refine ⟨⟨h56.D.b11.cell rfl, D70.b11.cell rfl⟩, ⟨P56.cat 22 rfl, P70.cat 22 rfl⟩, ⟨h56.D.b4.cell rfl, D70.b4.cell rfl⟩, object_spec P70.heap ts0 ts1 fun w62 ser cell rp rn rc vp vn vc f62 => ⟨_, _, _, _, _, _, _, _, _, _, rfl, ?_⟩⟩
      refine stAllB (vs := Obj.cells ⟨ser, cell, rp, rn, rc, vp, vn, vc, inO S.os m.ts⟩) (b70.keep' f62) rfl fun w71 b71 f71 => ?_
      exact fin ((f70.tr f62).trans f71 (fun y hy => .inr (by simp at hy; omega)))
end
end Go.Proofs.YtnjmkhhaodgpbaaGreatX
namespace Go.Proofs.YtnjmkhhaodgpbaaGreatX
open Go.RowKit
set_option maxRecDepth 100000
abbrev res2 (m : Msg) (b : Bool) : Value := .tuple #[msgV m none 0 none 0, .bool b]
abbrev withS (r : Scn) (m : Msg) : Scn := ⟨r.serial, r.holder, false, m.seq, r.at_, r.dist⟩
section
variable {w w' W : World} {Q : QT} {g gt bm : Nat} {x : HB} {ft ft' fh fh' rt rt' F : List Nat} {S S' : Sc} {s d now k : Int} {r : Scn} {m : Msg} {rp lp : Option Addr} {rc lc : Nat} {pin : Bool} {b : Nat} {v : Value} {t3 t4 t6 : Nat} {o : Option Scn}
structure CC (W w : World) (g : Nat) (x : HB) (ft : List Nat) (S : Sc) (t3 t4 t6 : Nat) (r : Scn) (m : Msg) (rp : Option Addr) (rc : Nat) (lp : Option Addr) (lc : Nat) : Prop where
  P : PS w g x ft S
  b3 : Blk w t3 (m.cells rp rc lp lc) 41
  b4 : ∃ cs, Blk w t4 cs 41 ∧ cs.length = 19
  b6 : Blk w t6 r.cells 52
  F : Fr ft W w
  out : t3 ∉ ft ∧ t4 ∉ ft ∧ t6 ∉ ft
  n34 : t3 ≠ t4
  new : W.heap.size ≤ t4 ∧ W.heap.size ≤ t6
theorem CC.keep' (h : CC W w g x ft S t3 t4 t6 r m rp rc lp lc) (f : Fr [] w w') : CC W w' g x ft S t3 t4 t6 r m rp rc lp lc := by
  obtain ⟨cs, b4, hl⟩ := h.b4
  exact ⟨h.P.keep' f, h.b3.keep' f, ⟨cs, b4.keep' f, hl⟩, h.b6.keep' f, h.F.tr f.any, h.out, h.n34, h.new⟩
theorem CC.c8 (h : CC W w g x ft S t3 t4 t6 r m rp rc lp lc) : w.cell? (((at0 t3 0).add 8).add 0) = some (.int .i64 m.tn) := by rw [add_add]; exact h.b3.cat 8 _ rfl
theorem CC.c9 (h : CC W w g x ft S t3 t4 t6 r m rp rc lp lc) : w.cell? (((at0 t3 0).add 8).add 1) = some (.int .u64 m.ts) := by rw [add_add]; exact h.b3.cat 9 _ rfl
theorem clean_j0f (h : CC W w g x ft S t3 t4 t6 r m rp rc lp lc) (hQ : AftS W g x ft S (res2 (cleanedM m) true) Q) : X22.j0 Q (some (at0 g 0)) (at0 t3 0) (at0 t4 0) (at0 t6 0) false w := by
  unfold X22.j0
  refine bc_bool (fun e => by cases e) (fun _ => ld_int (h.b3.cat 2 _ rfl) (ld_int (h.b3.cat 1 _ rfl) (ld_int h.c8 (ld_int h.c9 (ld_int (h.b3.cat 13 _ rfl) ?_)))))
  obtain ⟨cs, b8, hl⟩ := h.b4
  refine stAllB (vs := (cleanedM m).cells none 0 none 0) b8 hl.symm fun w22 b22 f22 => ld_msgA (m := cleanedM m) b22 ?_
  exact hQ.done h.P h.F (fun y hy => .inl hy) f22 h.new.1 h.out.2.1
theorem clean_j0t (h : CC W w g x ft S t3 t4 t6 r m rp rc lp lc) (hr : okRow (withS r m)) (hQ : AftS W g x ft (putS S (withS r m)) (res2 (cleanedM m) true) Q) : X22.j0 Q (some (at0 g 0)) (at0 t3 0) (at0 t4 0) (at0 t6 0) true w := by
  unfold X22.j0
  refine bc_bool (fun _ => drawn fun w1 f1 _ => ?_) (fun e => by cases e)
  have h1 := h.keep' f1
  refine ld_int (h1.b3.cat 13 _ rfl) (stB (i := 2) h1.b6 (show 2 < 6 by omega) fun w3 b6 f3 => ?_)
  have n63 : t3 ≠ t6 := h1.b3.ne h1.b6 (by decide)
  have n64 : t4 ≠ t6 := by
    obtain ⟨cs, b4, _⟩ := h1.b4
    exact b4.ne h1.b6 (by decide)
  have b3 := h1.b3.off1 n63 f3
  refine ⟨⟨h1.b3.cat 13 _ rfl, b3.cat 13 _ rfl⟩, stB (i := 3) b6 (show 3 < 6 by omega) fun w4 b6' f4 => ?_⟩
  have b6' : Blk w4 t6 (withS r m).cells 52 := b6'
  have f14 : Fr [t6] w1 w4 := f3.tr f4
  have P4 := h1.P.keep f14 (fun y hy hm => h.out.2.2 (by simp at hm; rwa [← hm]))
  have b3' := h1.b3.off1 n63 f14
  have F4 : Fr ft W w4 := h1.F.trans f14 (fun y hy => .inr (by have := h.new.2; simp at hy; omega))
  obtain ⟨cs, b4, hl⟩ := h1.b4
  have b4' := b4.off1 n64 f14
  refine ld_Scn (s := withS r m) b6'.cat (put_spec P4 hr fun ft2 w12 P12 f12 e12 => ⟨rfl, ?_⟩)
  have c3 := b3'.keep f12 h.out.1
  have c4 := b4'.keep f12 h.out.2.1
  have c8 : w12.cell? (((at0 t3 0).add 8).add 0) = some (.int .i64 m.tn) := by rw [add_add]; exact c3.cat 8 _ rfl
  have c9 : w12.cell? (((at0 t3 0).add 8).add 1) = some (.int .u64 m.ts) := by rw [add_add]; exact c3.cat 9 _ rfl
  have z4 := F4.size
  refine ld_int (c3.cat 2 _ rfl) (ld_int (c3.cat 1 _ rfl) (ld_int c8 (ld_int c9 (ld_int (c3.cat 13 _ rfl) ?_))))
  refine stAllB (vs := (cleanedM m).cells none 0 none 0) c4 hl.symm fun w22 b22 f22 => ld_msgA (m := cleanedM m) b22 ?_
  exact hQ.done P12 (F4.tr f12) (fun y hy => (e12 y hy).imp_right fun h => by omega) f22 h.new.1 (fun hm => by
    rcases e12 _ hm with h' | h'
    · exact h.out.2.1 h'
    · have := b4'.lt
      omega)
theorem clean_j1 (h : CC W w g x ft S t3 t4 t6 (o.getD scnZ) m rp rc lp lc) (hm : mineS S m 6) (ho : get ilt S.rows (keyS m.ts m.frm) = o) (h1 : ∀ r, o = some r → ¬ r.seq > m.seq) (hQ : AftS W g x ft (cleanR S m).1 (res2 (cleanR S m).2.1 (cleanR S m).2.2) Q) :
    X22.j1 Q (some (at0 g 0)) (at0 t3 0) (at0 t4 0) (at0 t6 0) o.isSome w := by
  unfold X22.j1
  refine drawn fun w1 f1 _ => ?_
  have h1' := h.keep' f1
  have R := h.P.ri
  obtain ⟨hts, hfr⟩ := mine6 hm
  obtain ⟨fh, gt, bm, rt, P1⟩ := h1'.P
  unfold cleanR at hQ
  rw [ho] at hQ
  have fin : ∀ {w15 : World}, Fr [] w1 w15 → bcase (!o.isSome) (bcase (hasO S.os m.ts) (ldI .u64 w15 (((at0 t3 0).add 8).add 1) fun x16 => ldI .i64 w15 ((at0 t3 0).add 1) fun x17 => stAll w15 (at0 t6 0) [.int .u64 x16, .int .i64 x17, .bool false, .int .u64 0, .int .u64 0, .int .i64 0] fun w18 => X22.j0 Q (some (at0 g 0)) (at0 t3 0) (at0 t4 0) (at0 t6 0) true w18) (X22.j0 Q (some (at0 g 0)) (at0 t3 0) (at0 t4 0) (at0 t6 0) o.isSome w15)) (X22.j0 Q (some (at0 g 0)) (at0 t3 0) (at0 t4 0) (at0 t6 0) o.isSome w15) := by
    intro w15 f15
    have h15 := h1'.keep' f15
    cases o with
    | none =>
      simp only [] at hQ
      refine bc_bool (fun _ => bc_bool (fun hh => ?_) (fun hh => ?_)) (fun e => by cases e)
      · rw [if_pos hh] at hQ
        refine ld_int h15.c9 (ld_int (h15.b3.cat 1 _ rfl) (stAllB (vs := Scn.cells ⟨m.ts, m.frm, false, 0, 0, 0⟩) h15.b6 rfl fun w18 b18 f18 => ?_))
        have n63 : t3 ≠ t6 := h15.b3.ne h15.b6 (by decide)
        obtain ⟨cs, b4, hl⟩ := h15.b4
        have n64 : t4 ≠ t6 := b4.ne h15.b6 (by decide)
        have h18 : CC W w18 g x ft S t3 t4 t6 ⟨m.ts, m.frm, false, 0, 0, 0⟩ m rp rc lp lc := ⟨h15.P.keep f18 (fun y hy hm => h.out.2.2 (by simp at hm; rwa [← hm])), h15.b3.off1 n63 f18, ⟨cs, b4.off1 n64 f18, hl⟩, b18, h15.F.trans f18 (fun y hy => .inr (by have := h.new.2; simp at hy; omega)), h.out, h.n34, h.new⟩
        exact clean_j0t h18 ⟨hts, hfr, by simp⟩ hQ
      · rw [if_neg (by rw [hh]; decide)] at hQ
        exact clean_j0f h15 hQ
    | some q =>
      simp only [] at hQ
      rw [if_neg (h1 q rfl)] at hQ
      refine bc_bool (fun e => by cases e) (fun _ => ?_)
      exact clean_j0t h15 (get_key R ho).1 hQ
  have ts0 : 0 ≤ m.ts := by have := hts.1; omega
  have ts1 : m.ts ≤ 18446744073709551615 := by have := hts.2; omega
  refine ⟨?_, ?_⟩
  · refine opt_some rfl (ld_ptr (P1.cat 22 rfl) (ld_int h1'.c9 (object_spec P1.heap ts0 ts1 fun w62 ser cell rp rn rc vp vn vc f62 => ⟨_, _, _, _, _, _, _, _, _, _, rfl, newB fun g69 w70 b70 f70 h70 => ?_⟩)))
    have c62 := h1'.keep' f62
    have c70 := c62.keep' f70
    have P62 := P1.keep' f62
    have P70 := P62.keep' f70
    have z62 := f62.size
    refine ⟨⟨c62.c9, c70.c9⟩, ⟨P62.cat 22 rfl, P70.cat 22 rfl⟩, stAllB (vs := Obj.cells ⟨ser, cell, rp, rn, rc, vp, vn, vc, inO S.os m.ts⟩) b70 rfl fun w71 b71 f71 => ?_⟩
    exact fin ((f62.tr f70).trans f71 (fun y hy => .inr (by simp at hy; omega)))
  · refine opt_some rfl (ld_ptr (P1.cat 22 rfl) (ld_int h1'.c9 (newB fun g69 w70 b70 f70 h70 => ?_)))
    have c70 := h1'.keep' f70
    have P70 := P1.keep' f70
    refine ⟨⟨h1'.c9, c70.c9⟩, ⟨P1.cat 22 rfl, P70.cat 22 rfl⟩, object_spec P70.heap ts0 ts1 fun w62 ser cell rp rn rc vp vn vc f62 => ⟨_, _, _, _, _, _, _, _, _, _, rfl, ?_⟩⟩
    refine stAllB (vs := Obj.cells ⟨ser, cell, rp, rn, rc, vp, vn, vc, inO S.os m.ts⟩) (b70.keep' f62) rfl fun w71 b71 f71 => ?_
    exact fin ((f70.tr f62).trans f71 (fun y hy => .inr (by simp at hy; omega)))
theorem clean_j2 (h : CC W w g x ft S t3 t4 t6 (o.getD scnZ) m rp rc lp lc) (hm : mineS S m 6) (ho : get ilt S.rows (keyS m.ts m.frm) = o) (hQ : AftS W g x ft (cleanR S m).1 (res2 (cleanR S m).2.1 (cleanR S m).2.2) Q) :
    X22.j2 Q (some (at0 g 0)) (at0 t3 0) (at0 t4 0) (at0 t6 0) o.isSome w := by
  unfold X22.j2
  cases o with
  | none => exact bc_bool (fun e => by cases e) (fun _ => clean_j1 h hm ho (fun r e => by cases e) hQ)
  | some q =>
    refine bc_bool (fun _ => ld_int (h.b6.cat 3 _ rfl) (ld_int (h.b3.cat 13 _ rfl) (bc_dec (fun hh => ?_) (fun hh => ?_)))) (fun e => by cases e)
    · unfold cleanR at hQ
      rw [ho] at hQ
      simp only [] at hQ
      rw [if_pos (show q.seq > m.seq from hh)] at hQ
      obtain ⟨cs, b8, hl⟩ := h.b4
      refine stAllB (vs := msgZ.cells none 0 none 0) b8 hl.symm fun w22 b22 f22 => ld_msgA (m := msgZ) b22 ?_
      exact hQ.done h.P h.F (fun y hy => .inl hy) f22 h.new.1 h.out.2.1
    · exact clean_j1 h hm ho (fun r e => by injection e with e; rw [← e]; exact hh) hQ
theorem clean_spec (t : PS w g x ft S) (hM : MM w m rp rc lp lc) (hQ : AftS w g x ft (cleanS S m).1 (res2 (cleanS S m).2.1 (cleanS S m).2.2) Q) :
    CallR Tryz.prog 22 #[.pointer (some (at0 g 0)), msgV m rp rc lp lc] w Q := by
  apply X22.sound
  unfold X22.f
  have lt := t.lt
  refine newB fun g1 w2 b1 f2 h2 => newB fun g3 w4 b3 f4 h4 => ?_
  have b1 : Blk w2 g1 (m.cells rp rc lp lc) 41 := b1
  have z2 := f2.size
  have z4 := f4.size
  have F4 := f2.tr f4
  have b1' := b1.keep' f4
  refine ld_msgA (m := m) b1' (mine_spec (t.keep' F4) (hM.keep' F4) fun bo w25 hbo f25 => ⟨_, rfl, bc_bool (fun hb => ?_) (fun hb => ?_)⟩)
  · have hn : ¬ mineS S m 6 := fun h => by rw [hbo.2 h] at hb; cases hb
    unfold cleanS at hQ
    rw [if_neg hn] at hQ
    refine stAllB (vs := msgZ.cells none 0 none 0) (b3.keep' f25) rfl fun w22 b22 f22 => ld_msgA (m := msgZ) b22 ?_
    exact hQ.done (t.keep' (F4.tr f25)) (F4.tr f25).any (fun y hy => .inl hy) f22 (by omega) (fun hm => by have := lt _ hm; omega)
  · have hm : mineS S m 6 := hbo.1 (by simpa using hb)
    unfold cleanS at hQ
    rw [if_pos hm] at hQ
    refine drawn fun w47 f47 _ => ?_
    have F47 := (F4.tr f25).tr f47
    have z25 := f25.size
    have z47 := f47.size
    have c1 := b1'.keep' (f25.tr f47)
    have c3 := b3.keep' (f25.tr f47)
    have P47 := t.keep' F47
    obtain ⟨fh, gt, bm, rt, P47⟩ := P47
    have l1 := b1.lt
    have c9 : ∀ {w' : World}, Blk w' g1 (m.cells rp rc lp lc) 41 → w'.cell? (((at0 g1 0).add 8).add 1) = some (.int .u64 m.ts) := fun b => by rw [add_add]; exact b.cat 9 _ rfl
    have fin : ∀ {o : Option Scn} {w'' : World} {t6 : Nat}, Fr [] w47 w'' → w47.heap.size ≤ t6 → get ilt S.rows (keyS m.ts m.frm) = o → Blk w'' t6 (o.getD scnZ).cells 52 → X22.j2 Q (some (at0 g 0)) (at0 g1 0) (at0 g3 0) (at0 t6 0) o.isSome w'' := fun {o w'' t6} f h6 ho b => clean_j2 (W := w) ⟨⟨_, _, _, _, P47.keep' f⟩, c1.keep' f, ⟨_, c3.keep' f, rfl⟩, b, (F47.tr f).any, ⟨fun hm => by have := lt _ hm; omega, fun hm => by have := lt _ hm; omega, fun hm => by have := lt _ hm; omega⟩, by omega, by omega, by omega⟩ hm ho hQ
    refine ⟨?_, ?_, ?_⟩
    · refine opt_some rfl (ld_ptr (P47.cat 23 rfl) (ld_int (c9 c1) (ld_int (c1.cat 1 _ rfl) (key_spec ⟨_, rfl, ⟨P47.cat 23 rfl, P47.cat 23 rfl⟩, get_SC P47.tab (fun hn w20 f20 => ?_) (fun r hr w20 f20 => ?_)⟩))))
      · refine ⟨_, _, _, _, _, _, _, rfl, newB fun g28 w29 b29 f29 h29 => ?_⟩
        have z20 := f20.size
        have d1 := c1.keep' f20
        have d1' := d1.keep' f29
        have P20 := P47.keep' f20
        refine ⟨⟨d1.cat 1 _ rfl, d1'.cat 1 _ rfl⟩, ⟨c9 d1, c9 d1'⟩, ⟨P20.cat 23 rfl, (P20.keep' f29).cat 23 rfl⟩, stAllB (vs := scnZ.cells) b29 rfl fun w30 b30 f30 => ?_⟩
        exact fin (o := none) ((f20.tr f29).trans f30 (fun y hy => .inr (by simp at hy; omega))) (by omega) hn b30
      · refine ⟨_, _, _, _, _, _, _, rfl, newB fun g28 w29 b29 f29 h29 => ?_⟩
        have z20 := f20.size
        have d1 := c1.keep' f20
        have d1' := d1.keep' f29
        have P20 := P47.keep' f20
        refine ⟨⟨d1.cat 1 _ rfl, d1'.cat 1 _ rfl⟩, ⟨c9 d1, c9 d1'⟩, ⟨P20.cat 23 rfl, (P20.keep' f29).cat 23 rfl⟩, stAllB (vs := r.cells) b29 rfl fun w30 b30 f30 => ?_⟩
        exact fin (o := some r) ((f20.tr f29).trans f30 (fun y hy => .inr (by simp at hy; omega))) (by omega) hr b30
    · refine opt_some rfl (ld_ptr (P47.cat 23 rfl) (ld_int (c9 c1) (ld_int (c1.cat 1 _ rfl) (key_spec ⟨_, rfl, ⟨P47.cat 23 rfl, P47.cat 23 rfl⟩, newB fun g28 w29 b29 f29 h29 => ?_⟩))))
      have d1' := c1.keep' f29
      have P29 := P47.keep' f29
      refine ⟨⟨c1.cat 1 _ rfl, d1'.cat 1 _ rfl⟩, ⟨c9 c1, c9 d1'⟩, ⟨P47.cat 23 rfl, P29.cat 23 rfl⟩, get_SC P29.tab (fun hn w20 f20 => ?_) (fun r hr w20 f20 => ?_)⟩
      · refine ⟨_, _, _, _, _, _, _, rfl, stAllB (vs := scnZ.cells) (b29.keep' f20) rfl fun w30 b30 f30 => ?_⟩
        exact fin (o := none) ((f29.tr f20).trans f30 (fun y hy => .inr (by simp at hy; omega))) (by omega) hn b30
      · refine ⟨_, _, _, _, _, _, _, rfl, stAllB (vs := r.cells) (b29.keep' f20) rfl fun w30 b30 f30 => ?_⟩
        exact fin (o := some r) ((f29.tr f20).trans f30 (fun y hy => .inr (by simp at hy; omega))) (by omega) hr b30
    · refine opt_some rfl (ld_ptr (P47.cat 23 rfl) (ld_int (c9 c1) (ld_int (c1.cat 1 _ rfl) (newB fun g28 w29 b29 f29 h29 => ?_))))
      have d1' := c1.keep' f29
      have P29 := P47.keep' f29
      refine ⟨⟨c1.cat 1 _ rfl, d1'.cat 1 _ rfl⟩, ⟨c9 c1, c9 d1'⟩, ⟨P47.cat 23 rfl, P29.cat 23 rfl⟩, key_spec ⟨_, rfl, ⟨P29.cat 23 rfl, P29.cat 23 rfl⟩, get_SC P29.tab (fun hn w20 f20 => ?_) (fun r hr w20 f20 => ?_)⟩⟩
      · refine ⟨_, _, _, _, _, _, _, rfl, stAllB (vs := scnZ.cells) (b29.keep' f20) rfl fun w30 b30 f30 => ?_⟩
        exact fin (o := none) ((f29.tr f20).trans f30 (fun y hy => .inr (by simp at hy; omega))) (by omega) hn b30
      · refine ⟨_, _, _, _, _, _, _, rfl, stAllB (vs := r.cells) (b29.keep' f20) rfl fun w30 b30 f30 => ?_⟩
        exact fin (o := some r) ((f29.tr f20).trans f30 (fun y hy => .inr (by simp at hy; omega))) (by omega) hr b30
end
end Go.Proofs.YtnjmkhhaodgpbaaGreatX
namespace Go.Proofs.YtnjmkhhaodgpbaaGreatX
open Go.RowKit
set_option maxRecDepth 100000
def b16 (t : Nat) : List Value := (List.range 16).map fun i => .bool (t.testBit i)
theorem b16_len (t : Nat) : (b16 t).length = 16 := by simp [b16]
structure RAR (w : World) (a cb tb : Nat) (cs : List Int) (ts : List Nat) : Prop where
  blk : Blk w a [.slice (some (at0 cb 0)) 16 16, .slice (some (at0 tb 0)) 16 16] 138
  crow : Own 3 1 w (some (at0 cb 0)) 16 16 (cs.map iv)
  trow : Own 142 16 w (some (at0 tb 0)) 16 16 (ts.flatMap b16)
theorem flat_set16 (l : List Nat) (b i : Nat) (t v : Nat) (hb : l[b]? = some t) (hi : i < 16) (hv : ∀ j, j < 16 → v.testBit j = (decide (j = i) || t.testBit j)) : (l.flatMap b16).set (b * 16 + i) (.bool true) = (l.set b v).flatMap b16 := by
  apply List.ext_getElem?
  intro j
  obtain ⟨hlt, he⟩ := List.getElem?_eq_some_iff.1 hb
  have hfl : ∀ l : List Nat, (l.flatMap b16).length = l.length * 16 := fun l => flat_length b16_len l
  have gt : ∀ (l : List Nat) (j : Nat), (l.flatMap b16)[j]? = if j < l.length * 16 then some (.bool ((l.getD (j / 16) 0).testBit (j % 16))) else none := by
    intro l j
    by_cases hj : j < l.length * 16
    · rw [if_pos hj]
      have hq : j / 16 < l.length := by omega
      have h1 := flat_get (f := b16) b16_len l (i := j / 16) (j := j % 16) (v := l[j / 16]) (List.getElem?_eq_getElem hq) (u := .bool (l[j / 16].testBit (j % 16))) (by
        unfold b16
        rw [List.getElem?_map, List.getElem?_range (by omega)]
        rfl)
      rw [show j / 16 * 16 + j % 16 = j by omega] at h1
      rw [h1, List.getD_eq_getElem?_getD, List.getElem?_eq_getElem hq]
      rfl
    · rw [if_neg hj, List.getElem?_eq_none_iff.2 (by rw [hfl]; omega)]
  rw [List.getElem?_set, gt, gt, hfl, List.length_set]
  by_cases h1 : b * 16 + i = j
  · subst h1
    rw [if_pos rfl, if_pos (by omega), if_pos (by omega), getD_set hlt, if_pos (by omega), hv _ (by omega)]
    simp [show (b * 16 + i) % 16 = i by omega]
  · rw [if_neg h1]
    by_cases h2 : j < l.length * 16
    · rw [if_pos h2, if_pos h2, getD_set hlt]
      by_cases h3 : b = j / 16
      · rw [if_pos h3, hv _ (by omega), decide_eq_false (by omega), ← h3, List.getD_eq_getElem?_getD, hb]
        rfl
      · rw [if_neg h3]
    · rw [if_neg h2, if_neg h2]
theorem hi_bit {t j : Nat} (h : t ≤ 255) (hj : 8 ≤ j) : t.testBit j = false := Nat.testBit_lt_two_pow (Nat.lt_of_lt_of_le (show t < 2 ^ 8 by omega) (Nat.pow_le_pow_right (by omega) hj))
section
variable {w w' W : World} {Q : QT} {a cb tb b k : Nat} {cs : List Int} {ts : List Nat} {S : List Nat}
theorem RAR.keep (r : RAR w a cb tb cs ts) (f : Fr S w w') (h1 : a ∉ S) (h2 : cb ∉ S) (h3 : tb ∉ S) : RAR w' a cb tb cs ts :=
  ⟨r.blk.keep f h1, r.crow.keep f (fun x hx => by simp [fbl, at0] at hx; rwa [hx]), r.trow.keep f (fun x hx => by simp [fbl, at0] at hx; rwa [hx])⟩
theorem RAR.keep' (r : RAR w a cb tb cs ts) (f : Fr [] w w') : RAR w' a cb tb cs ts := r.keep f (by simp) (by simp) (by simp)
theorem RAR.dis (r : RAR w a cb tb cs ts) : a ≠ cb ∧ a ≠ tb ∧ cb ≠ tb := by
  obtain ⟨c1, b1⟩ := r.crow.nb
  obtain ⟨c2, b2⟩ := r.trow.nb
  exact ⟨r.blk.ne b1 (by decide), r.blk.ne b2 (by decide), b1.ne b2 (by decide)⟩
theorem RAR.c0 (r : RAR w a cb tb cs ts) : w.cell? ((at0 a 0).add 0) = some (.slice (some (at0 cb 0)) 16 16) := r.blk.cat 0 _ rfl
theorem RAR.c1 (r : RAR w a cb tb cs ts) : w.cell? ((at0 a 0).add 1) = some (.slice (some (at0 tb 0)) 16 16) := r.blk.cat 1 _ rfl
theorem RAR.cv (r : RAR w a cb tb cs ts) (hb : b < 16) : w.cell? ((at0 cb 0).add (Int.toNat (b : Int) * 1)) = some (.int .i64 (cs.getD b 0)) := by
  have hl : cs.length = 16 := by have := r.crow.len; simpa using this
  have hg := List.getElem?_eq_getElem (show b < cs.length by omega)
  rw [Int.toNat_natCast, List.getD_eq_getElem?_getD, hg, Option.getD_some]
  exact row_cell (f := iv) r.crow hg
theorem RAR.stC (r : RAR w a cb tb cs ts) (hb : b < 16) (v : Int) {K : World → Prop} (hK : ∀ w', RAR w' a cb tb (cs.set b v) ts → Fr [cb] w w' → K w') : stK w ((at0 cb 0).add (Int.toNat (b : Int) * 1)) (.int .i64 v) K := by
  have hl : cs.length = 16 := by have := r.crow.len; simpa using this
  obtain ⟨d1, d2, d3⟩ := r.dis
  rw [Int.toNat_natCast]
  exact row_st r.crow (by omega) v fun w' o f => hK w' ⟨r.blk.off1 d1 f, o, r.trow.off1 (by simp [fbl, at0]; exact d3) f⟩ f
theorem RAR.tv (r : RAR w a cb tb cs ts) (T : TsI ts) (hb : b < 16) (hk : k < 16) : w.cell? (((at0 tb 0).add (Int.toNat (b : Int) * 16)).add (Int.toNat (k : Int) * 1)) = some (.bool (bitAt ts b k)) := by
  have hl := T.len
  have hg := List.getElem?_eq_getElem (show b < ts.length by omega)
  have h1 := flat_get (f := b16) b16_len ts (i := b) (j := k) (v := ts[b]) hg (u := .bool (ts[b].testBit k)) (by
    unfold b16
    rw [List.getElem?_map, List.getElem?_range (by omega)]
    rfl)
  obtain ⟨p, hp, hv⟩ := r.trow.cells _ _ h1
  injection hp with hp
  subst hp
  rw [Int.toNat_natCast, Int.toNat_natCast, add_add, Nat.mul_one, hv]
  unfold bitAt
  rw [List.getD_eq_getElem?_getD, hg]
  rfl
theorem RAR.stT (r : RAR w a cb tb cs ts) (T : TsI ts) (hb : b < 16) (hk : k < 8) (hf : bitAt ts b k = false) {K : World → Prop} (hK : ∀ w', RAR w' a cb tb cs (setAt ts b k) → Fr [tb] w w' → K w') : stK w (((at0 tb 0).add (Int.toNat (b : Int) * 16)).add (Int.toNat (k : Int) * 1)) (.bool true) K := by
  have hl := T.len
  obtain ⟨d1, d2, d3⟩ := r.dis
  have hg := List.getElem?_eq_getElem (show b < ts.length by omega)
  have hfl : (ts.flatMap b16).length = ts.length * 16 := flat_length b16_len ts
  rw [Int.toNat_natCast, Int.toNat_natCast, add_add, Nat.mul_one]
  have ho := r.trow.set (i := b * 16 + k) (by omega) (.bool true)
  have f : Fr [tb] w (w.setCell ((at0 tb 0).add (b * 16 + k)) (.bool true)) := Fr.setCell (by rw [add_block]; simp [at0]) _
  refine ⟨r.trow.storeOk (by omega), hK _ ⟨r.blk.off1 d2 f, r.crow.off1 (by simp [fbl, at0]; exact fun e => d3 e.symm) f, ?_⟩ f⟩
  have hge : ts.getD b 0 = ts[b] := by rw [List.getD_eq_getElem?_getD, hg]; rfl
  rw [flat_set16 ts b k ts[b] (ts.getD b 0 + 2 ^ k) hg (by omega) (fun j hj => ?_)] at ho
  · exact ho
  · rw [← hge]
    by_cases h8 : j < 8
    · exact setbit_eq (T.at_ b) hk h8 hf
    · have hs := set_eq (T.at_ b) hk hf
      rw [hi_bit hs.2.1 (by omega), hi_bit (T.at_ b) (by omega), decide_eq_false (by omega)]
      rfl
theorem rclass_spec (hQ : Q (.int .i64 2) w) : CallR Tryz.prog 86 #[.int .i64 2] w Q := by
  apply X86.sound
  unfold X86.f
  refine ⟨2, ?_⟩
  rw [X86.l0]
  refine bc_pos (by omega) (bc_pos (by omega) (bc_neg (by omega) ?_))
  rw [show IntKind.wrap .i64 (2 * 1) = 2 by decide +kernel, X86.l0]
  exact bc_pos (by omega) (bc_pos (by omega) (bc_pos (by omega) hQ))
theorem ralloc_l1 {B0 : Option Addr → Int → Int → World → Prop} (r : RAR w a cb tb (ts.map clsB) ts) (T : TsI ts) (hb : b < 16) (hne : ts.getD b 0 ≠ 0) (hB : ts.getD b 0 = 255 → B0 (some (at0 a 0)) 2 ((b + 1 : Nat) : Int) w)
    (hQ : ts.getD b 0 < 255 → ∀ w', RAR w' a cb tb (ts.map clsB) (setAt ts b (lz (ts.getD b 0))) → Fr [tb] w w' → Q (.tuple #[.int .i64 (16 * (b : Int) + 2 * (lz (ts.getD b 0) : Int)), .int .i64 0]) w') :
    ∀ (f i : Nat), 8 - i < f → i ≤ 8 → (ts.getD b 0 < 255 → i ≤ lz (ts.getD b 0)) → X61.l1 Q B0 f (some (at0 a 0)) 2 (b : Int) (i : Int) w
  | 0, i, hf, _, _ => absurd hf (Nat.not_lt_zero _)
  | f + 1, i, hf, hi, hl => by
    have hc2 : clsB (ts.getD b 0) = 2 := by unfold clsB; rw [if_neg hne]
    have hcv := r.cv hb
    rw [cls_get T hb, hc2] at hcv
    have hle := T.at_ b
    rw [X61.l1]
    have e8 : IntKind.wrap .i64 (Int.tdiv 16 2) = 8 := by decide +kernel
    have eb : IntKind.wrap .i64 ((b : Int) + 1) = ((b + 1 : Nat) : Int) := by rw [i64w ((b : Int) + 1) (by omega) (by omega)]; omega
    have ei : IntKind.wrap .i64 ((i : Int) + 1) = ((i + 1 : Nat) : Int) := by rw [i64w ((i : Int) + 1) (by omega) (by omega)]; omega
    refine opt_some rfl (ld_sl r.c0 ⟨⟨by omega, by omega⟩, opt_some rfl (ld_int hcv (bc_eqt' rfl ⟨by omega, ?_⟩))⟩)
    rw [e8, eb, ]
    refine bc_dec (fun h8 => ?_) (fun h8 => ?_)
    · unfold X61.j3
      refine opt_some rfl (ld_sl r.c1 ⟨⟨by omega, by omega⟩, opt_some rfl ⟨⟨by omega, by omega⟩, ld_bool (r.tv T hb (show i < 16 by omega)) ?_⟩⟩)
      rw [ei]
      refine bc_bool (fun hn => ?_) (fun hn => ?_)
      · have hbit : bitAt ts b i = false := by simpa using hn
        have h255 : ts.getD b 0 < 255 := by
          have : ts.getD b 0 ≠ 255 := fun e => by
            unfold bitAt at hbit
            rw [e] at hbit
            have : ∀ j : Fin 8, (255 : Nat).testBit j.val = true := by decide
            rw [this ⟨i, by omega⟩] at hbit
            cases hbit
          omega
        obtain ⟨l1, l2, l3⟩ := lz_lt h255
        have he : i = lz (ts.getD b 0) := by
          have := hl h255
          by_cases hlt : i < lz (ts.getD b 0)
          · unfold bitAt at hbit
            rw [l3 i hlt] at hbit
            cases hbit
          · omega
        subst he
        refine opt_some rfl (ld_sl r.c1 ⟨⟨by omega, by omega⟩, opt_some rfl ⟨⟨by omega, by omega⟩, r.stT T hb l1 hbit fun w8 r8 f8 => ?_⟩⟩)
        rw [i64w (16 * (b : Int)) (by omega) (by omega), i64w (2 * ((lz (ts.getD b 0) : Nat) : Int)) (by omega) (by omega), i64w _ (by omega) (by omega)]
        exact hQ h255 w8 r8 f8
      · have hbit : bitAt ts b i = true := by simpa using hn
        refine ralloc_l1 r T hb hne hB hQ f (i + 1) (by omega) (by omega) (fun h255 => ?_)
        obtain ⟨l1, l2, l3⟩ := lz_lt h255
        have := hl h255
        by_cases he : i = lz (ts.getD b 0)
        · unfold bitAt at hbit
          rw [he, l2] at hbit
          cases hbit
        · omega
    · refine hB ?_
      by_cases h255 : ts.getD b 0 < 255
      · have := hl h255
        have := (lz_lt h255).1
        omega
      · omega
theorem ralloc_l2 (r : RAR w a cb tb (ts.map clsB) ts) (T : TsI ts) (hb : b < 16) (hz : ts.getD b 0 = 0) (hlt : ∀ j, j < b → ts.getD j 0 ≠ 0)
    (hQ : ∀ w', RAR w' a cb tb ((setAt ts b 0).map clsB) (setAt ts b 0) → Fr [cb, tb] w w' → Q (.tuple #[.int .i64 (16 * (b : Int)), .int .i64 0]) w') :
    ∀ (f i : Nat), b - i < f → i ≤ b → X61.l2 Q f (some (at0 a 0)) 2 (i : Int) w
  | 0, i, hf, _ => absurd hf (Nat.not_lt_zero _)
  | f + 1, i, hf, hi => by
    have hcv := r.cv (show i < 16 by omega)
    rw [cls_get T (by omega)] at hcv
    rw [X61.l2]
    have ei : IntKind.wrap .i64 ((i : Int) + 1) = ((i + 1 : Nat) : Int) := by rw [i64w ((i : Int) + 1) (by omega) (by omega)]; omega
    refine opt_some rfl (ld_sl r.c0 (bc_pos (by omega) (opt_some rfl (ld_sl r.c0 ⟨⟨by omega, by omega⟩, opt_some rfl (ld_int hcv ?_)⟩))))
    rw [ei]
    by_cases he : i = b
    · subst he
      rw [hz]
      have hbf : bitAt ts i 0 = false := by unfold bitAt; rw [hz]; simp
      refine bc_eqt' rfl (opt_some rfl (ld_sl r.c0 ⟨⟨by omega, by omega⟩, opt_some rfl (r.stC hb 2 fun w10 r10 f10 => opt_some rfl (ld_sl r10.c1 ⟨⟨by omega, by omega⟩, opt_some rfl ⟨⟨by omega, by omega⟩, ?_⟩⟩))⟩))
      refine r10.stT (k := 0) T hb (by omega) hbf fun w14 r14 f14 => ?_
      rw [i64w (16 * (i : Int)) (by omega) (by omega)]
      refine hQ w14 ?_ ((f10.mono fun y hy => by simp at hy; simp [hy]).tr (f14.mono fun y hy => by simp at hy; simp [hy]))
      rw [cls_set T hb (by omega) hbf]
      exact r14
    · have hn : clsB (ts.getD i 0) = 2 := by unfold clsB; rw [if_neg (hlt i (by omega))]
      rw [hn]
      exact bc_eq (fun e => by cases e) (fun _ => ralloc_l2 r T hb hz hlt hQ f (i + 1) (by omega) (by omega))
theorem ralloc_l0 (r : RAR w a cb tb (ts.map clsB) ts) (T : TsI ts) (hp : (ts.map pop).sum < 128)
    (hQ : ∀ b w', allocB ts = some b → b < 16 → ts.getD b 0 < 255 → RAR w' a cb tb ((setAt ts b (lz (ts.getD b 0))).map clsB) (setAt ts b (lz (ts.getD b 0))) → Fr [cb, tb] w w' → Q (.tuple #[.int .i64 (16 * (b : Int) + 2 * (lz (ts.getD b 0) : Int)), .int .i64 0]) w') :
    ∀ (f i : Nat), 16 - i < f → i ≤ 16 → (ts.take i).findIdx? fitB = none → X61.l0 Q f (some (at0 a 0)) 2 (i : Int) w
  | 0, i, hf, _, _ => absurd hf (Nat.not_lt_zero _)
  | f + 1, i, hf, hi, hn => by
    have hl := T.len
    rw [X61.l0]
    refine opt_some rfl (ld_sl r.c0 (bc_dec (fun hlt => ?_) (fun hge => ?_)))
    · have hi16 : i < 16 := by omega
      have hcv := r.cv hi16
      rw [cls_get T hi16] at hcv
      have ei : IntKind.wrap .i64 ((i : Int) + 1) = ((i + 1 : Nat) : Int) := by rw [i64w ((i : Int) + 1) (by omega) (by omega)]; omega
      have hle := T.at_ i
      by_cases h0 : ts.getD i 0 = 0
      · refine ⟨1, ?_⟩
        rw [X61.l1]
        have hc0 : clsB (ts.getD i 0) = 0 := by unfold clsB; rw [if_pos h0]
        rw [hc0] at hcv
        refine opt_some rfl (ld_sl r.c0 ⟨⟨by omega, by omega⟩, opt_some rfl (ld_int hcv (bc_eq (fun e => by cases e) (fun _ => ?_)))⟩)
        rw [ei]
        exact ralloc_l0 r T hp hQ f (i + 1) (by omega) (by omega) (fit_none_succ (by omega) hn (by unfold fitB; rw [h0]; rfl))
      · refine ⟨9, ralloc_l1 r T hi16 h0 (fun h255 => ?_) (fun h255 w' r' f' => ?_) 9 0 (by omega) (by omega) (fun _ => by omega)⟩
        · exact ralloc_l0 r T hp hQ f (i + 1) (by omega) (by omega) (fit_none_succ (by omega) hn (by unfold fitB; rw [h255]; rfl))
        · have hfit : fitB (ts.getD i 0) = true := by unfold fitB; rw [decide_eq_true h0, decide_eq_true (show ts.getD i 0 ≠ 255 by omega)]; rfl
          have hz := lz_lt h255
          have ecs : (setAt ts i (lz (ts.getD i 0))).map clsB = ts.map clsB := by
            rw [cls_set T hi16 hz.1 hz.2.1]
            have hg := List.getElem?_eq_getElem (show i < (ts.map clsB).length by simp; omega)
            have hc2 : clsB (ts.getD i 0) = 2 := by unfold clsB; rw [if_neg h0]
            have : (ts.map clsB)[i]'(by simp; omega) = 2 := by
              have := cls_get T hi16
              rw [List.getD_eq_getElem?_getD, hg, hc2] at this
              exact this
            exact set_same' (by rw [hg, this])
          exact hQ i w' (fit_here (by omega) hn hfit) hi16 h255 (by rw [ecs]; exact r') (f'.mono fun y hy => by simp at hy; simp [hy])
    · have hi16 : i = 16 := by omega
      subst hi16
      have htk : ts.take 16 = ts := List.take_of_length_le (by omega)
      rw [htk] at hn
      obtain ⟨b, hb, hb16, hbt⟩ := alloc_ok T hp
      have hz : ts.getD b 0 = 0 ∧ ∀ j, j < b → ts.getD j 0 ≠ 0 := by
        unfold allocB at hb
        rw [hn, Option.none_or] at hb
        obtain ⟨hlt, hz, hj⟩ := List.findIdx?_eq_some_iff_getElem.1 hb
        refine ⟨?_, fun j hjb => ?_⟩
        · rw [List.getD_eq_getElem?_getD, List.getElem?_eq_getElem hlt]
          simpa using hz
        · have := hj j hjb
          rw [List.getD_eq_getElem?_getD, List.getElem?_eq_getElem (by omega)]
          simpa using this
      have e0 : lz (ts.getD b 0) = 0 := by rw [hz.1]; decide
      refine ⟨b + 1, ralloc_l2 r T hb16 hz.1 hz.2 (fun w' r' f' => ?_) (b + 1) 0 (by omega) (by omega)⟩
      have := hQ b w' hb hb16 hbt (by rw [e0]; exact r') f'
      rw [e0] at this
      simpa using this
theorem ralloc_spec (r : RAR w a cb tb (ts.map clsB) ts) (T : TsI ts) (hp : (ts.map pop).sum < 128)
    (hQ : ∀ b w', allocB ts = some b → b < 16 → ts.getD b 0 < 255 → RAR w' a cb tb ((setAt ts b (lz (ts.getD b 0))).map clsB) (setAt ts b (lz (ts.getD b 0))) → Fr [cb, tb] w w' → Q (.tuple #[.int .i64 (16 * (b : Int) + 2 * (lz (ts.getD b 0) : Int)), .int .i64 0]) w') :
    CallR Tryz.prog 61 #[.pointer (some (at0 a 0)), .int .i64 2] w Q := by
  apply X61.sound
  unfold X61.f
  refine rclass_spec ⟨_, rfl, bc_eq (fun e => by cases e) (fun _ => ⟨17, ralloc_l0 r T hp hQ 17 0 (by omega) (by omega) (by simp)⟩)⟩
theorem newRA_spec (hQ : ∀ a cb tb w', RAR w' a cb tb ((List.replicate 16 0).map clsB) (List.replicate 16 0) → Fr [] w w' → w.heap.size ≤ a → w.heap.size ≤ cb → w.heap.size ≤ tb → Q (.pointer (some (at0 a 0))) w') :
    CallR Tryz.prog 58 #[.int .i64 256] w Q := by
  apply X58.sound
  unfold X58.f
  have e16 : IntKind.wrap .i64 (Int.tdiv 256 16) = ((16 : Nat) : Int) := by decide +kernel
  rw [e16]
  have mC : ∀ {w : World} {K : QT}, (∀ g w', Own 3 1 w' (some (at0 g 0)) 16 16 (((List.replicate 16 0).map clsB).map iv) → Fr [] w w' → w.heap.size ≤ g → K (.slice (some (at0 g 0)) 16 16) w') → RunR Tryz.prog (Instr.makeSlice 132 (.int .i64 ((16 : Nat) : Int)) (.int .i64 ((16 : Nat) : Int))) w K := fun hK =>
    makeN (n := 16) (Z := 1) (E := 3) (i := Tryz.t3) (z := .int .i64 0) (by kernel_rfl) (by kernel_rfl) (by kernel_rfl) (by kernel_rfl) (by decide +kernel) (by omega) (by kernel_rfl) hK
  have mT : ∀ {w : World} {K : QT}, (∀ g w', Own 142 16 w' (some (at0 g 0)) 16 16 ((List.replicate 16 0).flatMap b16) → Fr [] w w' → w.heap.size ≤ g → K (.slice (some (at0 g 0)) 16 16) w') → RunR Tryz.prog (Instr.makeSlice 136 (.int .i64 ((16 : Nat) : Int)) (.int .i64 ((16 : Nat) : Int))) w K := fun hK =>
    makeN (n := 16) (Z := 16) (E := 142) (i := Tryz.t142) (z := .agg (Array.replicate 16 (.bool false))) (by kernel_rfl) (by kernel_rfl) (by kernel_rfl) (by kernel_rfl) (by decide +kernel) (by omega) (by kernel_rfl) hK
  refine drawn fun w1 f1 _ => ⟨⟨by omega, mC fun g3 w3 o3 f3 h3 => ⟨_, _, _, rfl, by omega, mT fun g6 w6 o6 f6 h6 => ⟨_, _, _, rfl, newB fun g8 w9 b9 f9 h9 => ?_⟩⟩⟩, by omega, by omega, mT fun g6 w3 o6 f3 h6 => ⟨_, _, _, rfl, mC fun g3 w6 o3 f6 h3 => ⟨_, _, _, rfl, newB fun g8 w9 b9 f9 h9 => ?_⟩⟩⟩
  · have z1 := f1.size
    have z3 := f3.size
    have z6 := f6.size
    exact hQ g8 g3 g6 w9 ⟨b9, o3.keep' (f6.tr f9), o6.keep' f9⟩ (f1.tr (f3.tr (f6.tr f9))) (by omega) (by omega) (by omega)
  · have z1 := f1.size
    have z3 := f3.size
    have z6 := f6.size
    exact hQ g8 g3 g6 w9 ⟨b9, o3.keep' f9, o6.keep' (f6.tr f9)⟩ (f1.tr (f3.tr (f6.tr f9))) (by omega) (by omega) (by omega)
end
end Go.Proofs.YtnjmkhhaodgpbaaGreatX
namespace Go.Proofs.YtnjmkhhaodgpbaaGreatX
open Go.RowKit
set_option maxRecDepth 100000
theorem rowP : RowT Tryz.prog 76 92 1 8 := ⟨by kernel_rfl, ⟨Tryz.t92, .pointer none, by kernel_rfl, by kernel_rfl, by kernel_rfl, by kernel_rfl, by kernel_rfl⟩, by omega⟩
theorem Own.nbs {w : World} {n c sz : Nat} {e : TypeId} {p : Option Addr} {xs : List Value} (o : Own e sz w p n c xs) : ∀ y ∈ fbl p, ∃ cur, Blk w y cur e := by
  intro y hy
  cases p with
  | none => simp [fbl] at hy
  | some a =>
    obtain ⟨g, cur, rfl, h2, _⟩ := o.blk
    simp [fbl, at0] at hy
    subst hy
    exact ⟨cur, h2⟩
def OT.rcells (o : OT) : List Value := [.int .u64 o.s, .int .i64 (16 * (o.b : Int) + 2 * (o.k : Int)), .slice (some (at0 o.r 0)) 1 1, .slice (some (at0 o.v 0)) 0 0, .int .i64 o.d]
def pv (g : Nat) : Value := .pointer (some (at0 g 0))
structure RB (w : World) (ts : List Nat) (o : OT) : Prop where
  blk : Blk w o.g o.rcells 89
  bl : o.b < 16
  kl : o.k < 8
  bit : bitAt ts o.b o.k = true
structure RHB where
  h : Nat
  a : Nat
  cb : Nat
  tb : Nat
def rhcells (x : RHB) (node last : Int) (lp : Option Addr) (n lc : Nat) : List Value := [.int .i64 node, .int .i64 12, .int .u64 last, .pointer (some (at0 x.a 0)), .slice lp n lc]
structure PRa (w : World) (x : RHB) (fh : List Nat) (node last : Int) (ts : List Nat) (os : List OT) (lp : Option Addr) (lc : Nat) : Prop where
  blk : Blk w x.h (rhcells x node last lp os.length lc) 78
  ar : RAR w x.a x.cb x.tb (ts.map clsB) ts
  tsI : TsI ts
  pops : (ts.map pop).sum = os.length
  row : Own 92 1 w lp os.length lc (os.map fun o => pv o.g)
  obs : ∀ o ∈ os, RB w ts o
  gd : os.Pairwise fun o p => o.g ≠ p.g
  pl : os.Pairwise fun o p => ¬ (o.b = p.b ∧ o.k = p.k)
  le : os.length ≤ 12
  sd : os.Pairwise fun o p => o.s ≠ p.s
  ser : ∀ o ∈ os, 1 ≤ o.s ∧ o.s ≤ last
  lst : 0 ≤ last ∧ last ≤ 72057594037927935
  foot : x.h ∈ fh ∧ x.a ∈ fh ∧ x.cb ∈ fh ∧ x.tb ∈ fh ∧ ∀ y ∈ fbl lp, y ∈ fh
  obf : ∀ o ∈ os, o.g ∈ fh
  lt : ∀ y ∈ fh, y < w.heap.size
def PR (w : World) (x : RHB) (fh : List Nat) (node last : Int) (l : List (Int × Int)) : Prop := ∃ ts os lp lc, PRa w x fh node last ts os lp lc ∧ l = os.map OT.pr
section
variable {w w' W : World} {Q : QT} {x : RHB} {fh F : List Nat} {node last s d : Int} {ts : List Nat} {os : List OT} {o : OT} {l : List (Int × Int)} {lp : Option Addr} {lc b g r v : Nat}
theorem PRa.keep (t : PRa w x fh node last ts os lp lc) (f : Fr F w w') (hd : ∀ y ∈ fh, y ∉ F) : PRa w' x fh node last ts os lp lc := by
  obtain ⟨f1, f2, f3, f4, f5⟩ := t.foot
  have hz := f.size
  exact ⟨t.blk.keep f (hd _ f1), t.ar.keep f (hd _ f2) (hd _ f3) (hd _ f4), t.tsI, t.pops, t.row.keep f (fun y hy => hd _ (f5 y hy)), fun o ho => ⟨(t.obs o ho).blk.keep f (hd _ (t.obf o ho)), (t.obs o ho).bl, (t.obs o ho).kl, (t.obs o ho).bit⟩, t.gd, t.pl, t.le, t.sd, t.ser, t.lst, t.foot, t.obf, fun y hy => by have := t.lt y hy; omega⟩
theorem PRa.keep' (t : PRa w x fh node last ts os lp lc) (f : Fr [] w w') : PRa w' x fh node last ts os lp lc := t.keep f (by simp)
theorem PR.keep (t : PR w x fh node last l) (f : Fr F w w') (hd : ∀ y ∈ fh, y ∉ F) : PR w' x fh node last l := by
  obtain ⟨ts, os, lp, lc, t, e⟩ := t
  exact ⟨ts, os, lp, lc, t.keep f hd, e⟩
theorem PR.keep' (t : PR w x fh node last l) (f : Fr [] w w') : PR w' x fh node last l := t.keep f (by simp)
theorem PR.lt (t : PR w x fh node last l) : ∀ y ∈ fh, y < w.heap.size := by
  obtain ⟨ts, os, lp, lc, t, e⟩ := t
  exact t.lt
theorem PRa.c0 (t : PRa w x fh node last ts os lp lc) (i : Nat) {u : Value} (hu : (rhcells x node last lp os.length lc)[i]? = some u) : w.cell? ((at0 x.h 0).add i) = some u := t.blk.cat i _ hu
def AftR (w : World) (x : RHB) (fh : List Nat) (node last' : Int) (l' : List (Int × Int)) (v : Value) (Q : QT) : Prop := ∀ fh' w', PR w' x fh' node last' l' → Fr fh w w' → (∀ y ∈ fh', y ∈ fh ∨ w.heap.size ≤ y) → Q v w'
theorem AftR.same {v : Value} (h : AftR w x fh node last l v Q) (t : PR w x fh node last l) (f : Fr [] w w') : Q v w' := h fh w' (t.keep' f) f.any (fun y hy => .inl hy)
theorem PRa.off (t : PRa w x fh node last ts os lp lc) (ho : o ∈ os) {y : Nat} (hy : y = x.h ∨ y = x.a ∨ y = x.cb ∨ y = x.tb ∨ y ∈ fbl lp) : o.g ≠ y := by
  have b1 := (t.obs o ho).blk
  obtain ⟨d3, e3⟩ := t.ar.crow.nb
  obtain ⟨d4, e4⟩ := t.ar.trow.nb
  rcases hy with rfl | rfl | rfl | rfl | hy
  · exact b1.ne t.blk (by decide)
  · exact b1.ne t.ar.blk (by decide)
  · exact b1.ne e3 (by decide)
  · exact b1.ne e4 (by decide)
  · obtain ⟨c, e5⟩ := t.row.nbs y hy
    exact b1.ne e5 (by decide)
theorem PRa.dis (t : PRa w x fh node last ts os lp lc) : x.h ≠ x.a ∧ x.h ≠ x.cb ∧ x.h ≠ x.tb ∧ ∀ y ∈ fbl lp, y ≠ x.h ∧ y ≠ x.a ∧ y ≠ x.cb ∧ y ≠ x.tb := by
  obtain ⟨d3, e3⟩ := t.ar.crow.nb
  obtain ⟨d4, e4⟩ := t.ar.trow.nb
  refine ⟨t.blk.ne t.ar.blk (by decide), t.blk.ne e3 (by decide), t.blk.ne e4 (by decide), fun y hy => ?_⟩
  obtain ⟨c, e5⟩ := t.row.nbs y hy
  exact ⟨e5.ne t.blk (by decide), e5.ne t.ar.blk (by decide), e5.ne e3 (by decide), e5.ne e4 (by decide)⟩
theorem rnew_spec (h1 : 1 ≤ node) (h2 : node ≤ 64) (hQ : ∀ x fh w', PR w' x fh node 0 [] → Fr [] w w' → (∀ y ∈ fh, w.heap.size ≤ y) → Q (.pointer (some (at0 x.h 0))) w') :
    CallR Tryz.prog 24 #[.int .i64 node, .int .i64 256, .int .i64 12, .int .u64 0] w Q := by
  apply X24.sound
  unfold X24.f
  refine bc_neg (by omega) (bc_neg (by omega) (bc_neg (by omega) (bc_neg (by omega) (bc_neg (by omega) (bc_neg (by omega) (bc_neg (by omega) ⟨by omega, ?_⟩))))))
  rw [show Int.tmod 256 16 = 0 by decide +kernel]
  refine bc_ne (fun e => absurd rfl e) (fun _ => newRA_spec fun a cb tb w2 A f2 ha hcb htb => ⟨_, rfl, newB fun g w8 B f8 hg => ?_⟩)
  have z2 := f2.size
  have A8 := A.keep' f8
  obtain ⟨d3, e3⟩ := A8.crow.nb
  obtain ⟨d4, e4⟩ := A8.trow.nb
  refine hQ ⟨g, a, cb, tb⟩ [g, a, cb, tb] w8 ⟨List.replicate 16 0, [], none, 0, ⟨B, A8, ⟨by simp, fun t ht => by simp at ht; omega⟩, by rw [List.map_replicate, pop_zero]; rfl, Own.nil, by simp, List.Pairwise.nil, List.Pairwise.nil, by simp, List.Pairwise.nil, by simp, by omega, by simp [fbl], by simp, fun y hy => ?_⟩, rfl⟩ (f2.tr f8) (fun y hy => ?_)
  · simp at hy
    rcases hy with rfl | rfl | rfl | rfl
    · exact B.lt
    · exact A8.blk.lt
    · exact e3.lt
    · exact e4.lt
  · simp at hy
    rcases hy with rfl | rfl | rfl | rfl <;> omega
theorem rmake_spec (t : PR w x fh node last l) (hQ : AftR w x fh node (makeO last l).1 (makeO last l).2.1 (.tuple #[.int .u64 (makeO last l).2.2.1, .int .i64 (makeO last l).2.2.2]) Q) :
    CallR Tryz.prog 26 #[.pointer (some (at0 x.h 0)), .int .i64 1, .int .i64 0] w Q := by
  apply X26.sound
  unfold X26.f
  refine bc_neg (by omega) (bc_neg (by omega) (bc_neg (by omega) (bc_neg (by omega) ?_)))
  unfold X26.j0
  simp only [optP_some]
  obtain ⟨ts, os, lp, lc, t, rfl⟩ := t
  have tt : PR w x fh node last (os.map OT.pr) := ⟨ts, os, lp, lc, t, rfl⟩
  refine drawn fun w1 f1 _ => ?_
  have t1 := t.keep' f1
  have tt1 := tt.keep' f1
  unfold makeO at hQ
  rw [List.length_map] at hQ
  refine ld_sl (t1.c0 4 rfl) (ld_int (t1.c0 1 rfl) (bc_dec (fun h => ?_) (fun h => ?_)))
  · rw [if_pos (by omega)] at hQ
    exact hQ.same tt f1
  · rw [if_neg (by omega)] at hQ
    have hlst := t.lst
    refine ld_int (t1.c0 2 rfl) (bc_dec (fun h2 => ?_) (fun h2 => ?_))
    · rw [if_pos (by omega)] at hQ
      exact hQ.same tt f1
    · rw [if_neg (by omega)] at hQ
      have t1l := t1.lt
      refine ld_ptr (t1.c0 3 rfl) ?_
      rw [show IntKind.wrap .i64 (IntKind.wrap .i64 (1 + 1) + 0) = 2 by decide +kernel]
      refine ralloc_spec t1.ar t1.tsI (by rw [t1.pops]; omega) fun b w12 hab hb hbt A12 f12 => ⟨_, _, rfl, bc_ne (fun e => absurd rfl e) (fun _ => ?_)⟩
      obtain ⟨d1, d2, d3, d4⟩ := t1.dis
      have B12 := t1.blk.keep f12 (by simp [d2, d3])
      have L12 := t1.row.keep f12 (fun y hy => by obtain ⟨_, _, h3, h4⟩ := d4 y hy; simp [h3, h4])
      refine ld_int (B12.cat 2 _ rfl) (stB (i := 2) B12 (show 2 < 5 by omega) fun w18 B18 f18 => ?_)
      rw [u64w (last + 1) (by omega) (by omega)] at B18
      have B18 : Blk w18 x.h (rhcells x node (last + 1) lp os.length lc) 78 := B18
      have A18 := A12.keep f18 (by simp; exact fun e => d1 e.symm) (by simp; exact fun e => d2 e.symm) (by simp; exact fun e => d3 e.symm)
      have L18 := L12.keep f18 (fun y hy => by obtain ⟨h1, _⟩ := d4 y hy; simp [h1])
      have F18 : Fr [x.h, x.cb, x.tb] w w18 := (f1.any.tr (f12.mono fun y hy => by simp at hy; rcases hy with rfl | rfl <;> simp)).tr (f18.mono fun y hy => by simp at hy; simp [hy])
      refine drawn fun w19 f19 _ => ?_
      have B19 := B18.keep' f19
      have A19 := A18.keep' f19
      have L19 := L18.keep' f19
      have F19 := F18.tr f19.any
      have z19 := F19.size
      have fin : ∀ {g g' r v : Nat} {w31 : World} {K : World → Prop}, Fr [] w19 w31 → w19.heap.size ≤ g → w19.heap.size ≤ g' → Blk w31 g (OT.rcells ⟨last + 1, b, lz (ts.getD b 0), g, r, v, 0⟩) 89 → Blk w31 g' [pv g] 92 →
          RunR Tryz.prog (Builtin.append_ #[76, 76] 76 #[.slice lp os.length lc, .slice (some (at0 g' 0)) 1 1]) w31 fun v33 w34 => ∃ (s35p : Option Addr) (s35n s35c : Nat), v33 = .slice s35p s35n s35c ∧ optP (some (at0 x.h 0)) fun p36 => stK w34 (p36.add 4) (.slice s35p s35n s35c) fun w37 => optP (some (at0 x.h 0)) fun p38 => ldI .u64 w37 (p38.add 2) fun x39 => Q (.tuple #[.int .u64 x39, .int .i64 0]) w37 := by
        intro g g' r v w31 K f31 hg hg' T T'
        have L31 := L19.keep' f31
        have z31 := f31.size
        refine app_own rowP L31 (cells_one T') rfl some_ne (by simp [pv, Value.oneCell']) (by simp only [maxLen]; omega) (Nat.le_trans (Nat.mul_le_mul (show os.length + 1 ≤ 100 by omega) (Nat.le_refl 8)) (by omega)) fun lp2 lc2 w34 L34 f34 e34 => ⟨_, _, _, rfl, ?_⟩
        have B31 := B19.keep' f31
        have nh : x.h ∉ fbl lp := fun hm => (d4 _ hm).1 rfl
        have B34 := B31.keep f34 nh
        refine opt_some rfl (stB (i := 4) B34 (show 4 < 5 by omega) fun w37 B37 f37 => ?_)
        have hlen : (os ++ [(⟨last + 1, b, lz (ts.getD b 0), g, r, v, 0⟩ : OT)]).length = os.length + 1 := by simp
        have B37 : Blk w37 x.h (rhcells x node (last + 1) lp2 (os ++ [(⟨last + 1, b, lz (ts.getD b 0), g, r, v, 0⟩ : OT)]).length lc2) 78 := by rw [hlen]; exact B37
        have A31 := A19.keep' f31
        have A34 := A31.keep f34 (fun hm => (d4 _ hm).2.1 rfl) (fun hm => (d4 _ hm).2.2.1 rfl) (fun hm => (d4 _ hm).2.2.2 rfl)
        have A37 := A34.keep f37 (by simp; exact fun e => d1 e.symm) (by simp; exact fun e => d2 e.symm) (by simp; exact fun e => d3 e.symm)
        have nl2 : ∀ y ∈ fbl lp2, y ≠ x.h := fun y hy => by
          obtain ⟨c, e5⟩ := L34.nbs y hy
          exact e5.ne B34 (by decide)
        have L37 := L34.keep f37 (fun y hy => by simp [nl2 y hy])
        have gl : g ∉ fbl lp := fun hm => by
          have := L19.lt g hm
          omega
        have gh : g ≠ x.h := T.ne B31 (by decide)
        have T37 := (T.keep f34 gl).off1 gh f37
        have hz := lz_lt hbt
        have hS := t.tsI.set hb hz.1 hz.2.1
        obtain ⟨f1', f2', f3', f4', f5'⟩ := t.foot
        have F34 : Fr (x.h :: x.cb :: x.tb :: fbl lp) w w34 := ((F19.mono fun y hy => by simp at hy; rcases hy with rfl | rfl | rfl <;> simp).tr f31.any).tr (f34.mono fun y hy => by simp [hy])
        have F37 : Fr (x.h :: x.cb :: x.tb :: fbl lp) w w37 := F34.tr (f37.mono fun y hy => by simp at hy; simp [hy])
        have z37 := F37.size
        have z34 := F34.size
        have z3437 := f37.size
        have keepO : ∀ p ∈ os, RB w37 (setAt ts b (lz (ts.getD b 0))) p := fun p hp => by
          have q := t.obs p hp
          refine ⟨q.blk.keep F37 (fun hm => ?_), q.bl, q.kl, ?_⟩
          · rcases List.mem_cons.1 hm with h | hm
            · exact t.off hp (.inl h) rfl
            rcases List.mem_cons.1 hm with h | hm
            · exact t.off hp (.inr (.inr (.inl h))) rfl
            rcases List.mem_cons.1 hm with h | hm
            · exact t.off hp (.inr (.inr (.inr (.inl h)))) rfl
            · exact t.off hp (.inr (.inr (.inr (.inr hm)))) rfl
          · rw [hS.2.2 _ _ q.kl, q.bit]
            simp
        refine opt_some rfl (ld_int (B37.cat 2 _ rfl) (hQ (fh ++ (g :: fbl lp2)) w37 ⟨setAt ts b (lz (ts.getD b 0)), os ++ [⟨last + 1, b, lz (ts.getD b 0), g, r, v, 0⟩], lp2, lc2, ⟨B37, A37, hS.1, by rw [hS.2.1, t.pops]; simp, ?_, ?_, ?_, ?_, by simp; omega, ?_, ?_, ⟨by omega, by omega⟩, ?_, ?_, ?_⟩, by simp [OT.pr]⟩ ?_ ?_))
        · rw [hlen, List.map_append]
          exact L37
        · intro p hp
          rcases List.mem_append.1 hp with hp | hp
          · exact keepO p hp
          · have hp := List.mem_singleton.1 hp
            subst hp
            refine ⟨T37, hb, hz.1, ?_⟩
            show bitAt _ b (lz _) = true
            rw [hS.2.2 _ _ hz.1]
            simp
        · rw [List.pairwise_append]
          refine ⟨t.gd, by simp, fun p hp q hq => ?_⟩
          have hq := List.mem_singleton.1 hq
          subst hq
          show p.g ≠ g
          have := t.lt _ (t.obf p hp)
          omega
        · rw [List.pairwise_append]
          refine ⟨t.pl, by simp, fun p hp q hq => ?_⟩
          have hq := List.mem_singleton.1 hq
          subst hq
          show ¬ (p.b = b ∧ p.k = lz _)
          rintro ⟨e1, e2⟩
          have q := (t.obs p hp).bit
          rw [e1, e2] at q
          unfold bitAt at q
          rw [hz.2.1] at q
          cases q
        · rw [List.pairwise_append]
          refine ⟨t.sd, by simp, fun p hp q hq => ?_⟩
          have hq := List.mem_singleton.1 hq
          subst hq
          show p.s ≠ last + 1
          have := t.ser p hp
          omega
        · intro p hp
          rcases List.mem_append.1 hp with hp | hp
          · have := t.ser p hp
            omega
          · have hp := List.mem_singleton.1 hp
            subst hp
            show 1 ≤ last + 1 ∧ last + 1 ≤ last + 1
            omega
        · exact ⟨by simp [f1'], by simp [f2'], by simp [f3'], by simp [f4'], fun y hy => by simp [hy]⟩
        · intro p hp
          rcases List.mem_append.1 hp with hp | hp
          · have := t.obf p hp
            simp [this]
          · have hp := List.mem_singleton.1 hp
            subst hp
            simp
        · intro y hy
          rcases List.mem_append.1 hy with hy | hy
          · have := t.lt y hy
            omega
          rcases List.mem_cons.1 hy with rfl | hy
          · exact T37.lt
          · exact L37.lt y hy
        · exact F37.mono fun y hy => by
            rcases List.mem_cons.1 hy with rfl | hy
            · exact f1'
            rcases List.mem_cons.1 hy with rfl | hy
            · exact f3'
            rcases List.mem_cons.1 hy with rfl | hy
            · exact f4'
            · exact f5' y hy
        · intro y hy
          rcases List.mem_append.1 hy with hy | hy
          · exact .inl hy
          rcases List.mem_cons.1 hy with rfl | hy
          · exact .inr (by omega)
          · rcases e34 y hy with h' | h'
            · exact .inl (f5' y h')
            · exact .inr (by omega)
      refine ⟨?_, ?_⟩
      · refine ld_sl (B19.cat 4 _ rfl) (ld_int (B19.cat 2 _ rfl) ?_)
        refine makeN (n := 1) (Z := 2) (E := 37) (i := Tryz.t37) (z := Value.agg #[.int .i64 0, .int .u64 0]) (by kernel_rfl) (by kernel_rfl) (by kernel_rfl) (by kernel_rfl) (by decide +kernel) (by omega) (xs := idc0) (by kernel_rfl) fun r w25 R25 f25 hr => ⟨_, _, _, rfl, ⟨B19.cat 2 _ rfl, (B19.keep' f25).cat 2 _ rfl⟩, ⟨B19.cat 4 _ rfl, (B19.keep' f25).cat 4 _ rfl⟩, ?_⟩
        refine makeN (n := 0) (Z := 1) (E := 22) (i := Tryz.t22) (z := .int .u64 0) (by kernel_rfl) (by kernel_rfl) (by kernel_rfl) (by kernel_rfl) (by decide +kernel) (by omega) (xs := []) (by kernel_rfl) fun v w28 V28 f28 hv => ⟨_, _, _, rfl, ⟨(B19.keep' f25).cat 2 _ rfl, (B19.keep' (f25.tr f28)).cat 2 _ rfl⟩, ⟨(B19.keep' f25).cat 4 _ rfl, (B19.keep' (f25.tr f28)).cat 4 _ rfl⟩, ?_⟩
        refine newB fun g w31 T31 f31 hg => ⟨⟨(B19.keep' (f25.tr f28)).cat 4 _ rfl, (B19.keep' (f25.tr (f28.tr f31))).cat 4 _ rfl⟩, newB fun g' w32 T32 f32 hg' => ⟨⟨(B19.keep' (f25.tr (f28.tr f31))).cat 4 _ rfl, (B19.keep' (f25.tr (f28.tr (f31.tr f32)))).cat 4 _ rfl⟩, ?_⟩⟩
        have z25 := f25.size
        have z28 := f28.size
        have z31 := f31.size
        exact fin (r := r) (v := v) (K := fun _ => True) (f25.tr (f28.tr (f31.tr f32))) (by omega) (by omega) (T31.keep' f32) T32
      · refine ld_sl (B19.cat 4 _ rfl) (ld_int (B19.cat 2 _ rfl) ?_)
        refine makeN (n := 0) (Z := 1) (E := 22) (i := Tryz.t22) (z := .int .u64 0) (by kernel_rfl) (by kernel_rfl) (by kernel_rfl) (by kernel_rfl) (by decide +kernel) (by omega) (xs := []) (by kernel_rfl) fun v w25 V25 f25 hv => ⟨_, _, _, rfl, ⟨B19.cat 2 _ rfl, (B19.keep' f25).cat 2 _ rfl⟩, ⟨B19.cat 4 _ rfl, (B19.keep' f25).cat 4 _ rfl⟩, ?_⟩
        refine makeN (n := 1) (Z := 2) (E := 37) (i := Tryz.t37) (z := Value.agg #[.int .i64 0, .int .u64 0]) (by kernel_rfl) (by kernel_rfl) (by kernel_rfl) (by kernel_rfl) (by decide +kernel) (by omega) (xs := idc0) (by kernel_rfl) fun r w28 R28 f28 hr => ⟨_, _, _, rfl, ⟨(B19.keep' f25).cat 2 _ rfl, (B19.keep' (f25.tr f28)).cat 2 _ rfl⟩, ⟨(B19.keep' f25).cat 4 _ rfl, (B19.keep' (f25.tr f28)).cat 4 _ rfl⟩, ?_⟩
        refine newB fun g w31 T31 f31 hg => ⟨⟨(B19.keep' (f25.tr f28)).cat 4 _ rfl, (B19.keep' (f25.tr (f28.tr f31))).cat 4 _ rfl⟩, newB fun g' w32 T32 f32 hg' => ⟨⟨(B19.keep' (f25.tr (f28.tr f31))).cat 4 _ rfl, (B19.keep' (f25.tr (f28.tr (f31.tr f32)))).cat 4 _ rfl⟩, ?_⟩⟩
        have z25 := f25.size
        have z28 := f28.size
        have z31 := f31.size
        exact fin (r := r) (v := v) (K := fun _ => True) (f25.tr (f28.tr (f31.tr f32))) (by omega) (by omega) (T31.keep' f32) T32
end
end Go.Proofs.YtnjmkhhaodgpbaaGreatX
namespace Go.Proofs.YtnjmkhhaodgpbaaGreatX
open Go.RowKit
set_option maxRecDepth 100000
def inB (n most : Int) : Bool := if n ≥ 1 then decide (n ≤ most) else false
theorem apin_spec {a b : Int} {w : World} {Q : QT} (hQ : Q (.bool (inB a b)) w) : CallR Tryz.prog 87 #[.int .i64 a, .int .i64 b] w Q := by
  apply X87.sound
  unfold X87.f
  unfold inB at hQ
  exact bc_dec (fun h => by rw [if_pos h] at hQ; exact hQ) (fun h => by rw [if_neg h] at hQ; exact hQ)
def configOf (r : Raw) : Cfg :=
  { nodes := 2 + r.nodes % 3, mutators := 1 + r.mutators % 3, slots := 2 + r.slots % 4, cel := 16 * (1 + r.cel % 8), objects := 2 + r.objects % 14, stubs := 2 + r.stubs % 10, calls := 1 + r.calls % 6, window := 1 + r.window % 4,
    grey := 1 + r.grey % 8, bag := 4 + r.bag % 60, inbox := 1 + r.inbox % 4, unit := 4 + r.unit % 20, drift := r.drift % ((4 + r.unit % 20) / 2), lease := (4 + r.unit % 20) * (40 + r.lease % 200), wait := 1 + r.wait % 30,
    most := 1 + r.wait % 30 + r.most % 60, patience := (4 + r.unit % 20) * (1 + r.patience % 60), suspect := 1 + r.suspect % 4, trace := 1 + r.suspect % 4 + 1 + r.trace % 4, work := 1 + r.work % 12, start := Int.tmod r.start 1000, last := Int.tmod r.last 1000 }
section
variable {w w' W : World} {Q : QT} {g1 g3 g22 : Nat} {r : Raw}
theorem pick_spec {n m : Int} {w : World} {Q : QT} (hm : 0 < m) (hb : m ≤ 9223372036854775807) (h : Q (.int .i64 (n % m)) w) : CallR Tryz.prog 9 #[.int .i64 n, .int .i64 m] w Q := by
  apply X9.sound
  have h2 := Int.emod_nonneg n (by omega : m ≠ 0)
  have h3 := Int.emod_lt_of_pos n hm
  have ht := tmod_pick n m hm
  unfold X9.f
  refine ⟨by omega, bc_dec (fun hlt => ?_) (fun hge => ?_)⟩
  · rw [if_pos hlt] at ht
    rw [ht, i64w _ (by omega) (by omega)]; exact h
  · rw [if_neg hge] at ht
    rw [ht]; exact h
theorem md {n m : Int} (hm : 0 < m) : 0 ≤ n % m ∧ n % m < m := ⟨Int.emod_nonneg _ (by omega), Int.emod_lt_of_pos _ hm⟩
theorem mul_rng {a b A B : Int} (h1 : 0 ≤ a) (h2 : a ≤ A) (h3 : 0 ≤ b) (h4 : b ≤ B) : 0 ≤ a * b ∧ a * b ≤ A * B := ⟨Int.mul_nonneg h1 h3, Int.mul_le_mul h2 h4 h3 (Int.le_trans h1 h2)⟩
theorem wadd {b n m : Int} (h0 : 0 < m) (h1 : 0 ≤ b) (h2 : b + m ≤ 9223372036854775807) : IntKind.wrap .i64 (b + n % m) = b + n % m := by have := md (n := n) h0; exact i64w _ (by omega) (by omega)
theorem waddu {b n m : Int} (h0 : 0 < m) (h1 : 0 ≤ b) (h2 : b + m ≤ 9223372036854775807) : IntKind.wrap .u64 (b + n % m) = b + n % m := by have := md (n := n) h0; exact u64w _ (by omega) (by omega)
theorem wmodu {n m : Int} (h0 : 0 < m) (h2 : m ≤ 9223372036854775807) : IntKind.wrap .u64 (n % m) = n % m := by have := md (n := n) h0; exact u64w _ (by omega) (by omega)
theorem half_pos (u : Int) : 0 < (4 + u % 20) / 2 ∧ (4 + u % 20) / 2 ≤ 9223372036854775807 := by have := md (n := u) (m := 20) (by omega); omega
theorem half_eq (u : Int) : IntKind.wrap .i64 (Int.tdiv (IntKind.wrap .i64 (4 + u % 20)) 2) = (4 + u % 20) / 2 := by
  have := md (n := u) (m := 20) (by omega)
  rw [i64w (4 + u % 20) (by omega) (by omega), Int.tdiv_eq_ediv_of_nonneg (by omega), i64w _ (by omega) (by omega)]
theorem wmul (u l : Int) {b m : Int} (h0 : 0 < m) (h1 : 0 ≤ b) (h2 : b + m ≤ 1000) : IntKind.wrap .u64 ((4 + u % 20) * (b + l % m)) = (4 + u % 20) * (b + l % m) := by
  have := md (n := u) (m := 20) (by omega)
  have := md (n := l) h0
  have := mul_rng (a := 4 + u % 20) (b := b + l % m) (A := 23) (B := 1000) (by omega) (by omega) (by omega) (by omega)
  exact u64w _ (by omega) (by omega)
theorem wthree (a b : Int) : IntKind.wrap .u64 (1 + a % 30 + b % 60) = 1 + a % 30 + b % 60 := by
  have := md (n := a) (m := 30) (by omega)
  have := md (n := b) (m := 60) (by omega)
  exact u64w _ (by omega) (by omega)
theorem wfour (a b : Int) : IntKind.wrap .i64 (IntKind.wrap .i64 (1 + a % 4 + 1) + b % 4) = 1 + a % 4 + 1 + b % 4 := by
  have := md (n := a) (m := 4) (by omega)
  have := md (n := b) (m := 4) (by omega)
  rw [i64w (1 + a % 4 + 1) (by omega) (by omega), i64w _ (by omega) (by omega)]
def cfg4 (r : Raw) : List Value := [.int .i64 (2 + r.nodes % 3), .int .i64 (1 + r.mutators % 3), .int .i64 (2 + r.slots % 4), .int .i64 (16 * (1 + r.cel % 8)), .int .i64 0, .int .i64 0, .int .i64 0, .int .i64 0, .int .i64 0, .int .i64 0, .int .i64 0, .int .u64 0, .int .u64 0, .int .u64 0, .int .u64 0, .int .u64 0, .int .u64 0, .int .i64 0, .int .i64 0, .int .i64 0, .int .u64 0, .int .u64 0]
theorem config_j0 (b1 : Blk w g1 r.cells 24) (b3 : Blk w g3 (cfg4 r) 27) {old : List Value} (b2 : Blk w g22 old 27) (ho : old.length = 22) (n1 : g1 ≠ g3) (n2 : g22 ≠ g3) (F : Fr [] W w) (h3 : W.heap.size ≤ g3) (h2 : W.heap.size ≤ g22) (hQ : ∀ w', Fr [] W w' → Q (configOf r).val w') : X7.j0 Q (at0 g1 0) (at0 g22 0) (at0 g3 0) w := by
  unfold X7.j0
  have b3 : Blk w g3 [.int .i64 (2 + r.nodes % 3), .int .i64 (1 + r.mutators % 3), .int .i64 (2 + r.slots % 4), .int .i64 (16 * (1 + r.cel % 8)), .int .i64 (0), .int .i64 (0), .int .i64 (0), .int .i64 (0), .int .i64 (0), .int .i64 (0), .int .i64 (0), .int .u64 (0), .int .u64 (0), .int .u64 (0), .int .u64 (0), .int .u64 (0), .int .u64 (0), .int .i64 (0), .int .i64 (0), .int .i64 (0), .int .u64 (0), .int .u64 (0)] 27 := b3
  refine ld_int (b1.cat 4 _ rfl) (pick_spec (by decide) (by decide) ⟨_, rfl, ?_⟩)
  rw [wadd (by decide) (by decide) (by decide)]
  refine stB b3 (by simp only [List.length_cons, List.length_nil]; omega) fun x1 b3' f' => ?_
  replace F := F.loc f' h3
  replace b1 := b1.off1 n1 f'
  replace b2 := b2.off1 n2 f'
  clear f'
  have b4 : Blk x1 g3 [.int .i64 (2 + r.nodes % 3), .int .i64 (1 + r.mutators % 3), .int .i64 (2 + r.slots % 4), .int .i64 (16 * (1 + r.cel % 8)), .int .i64 (2 + r.objects % 14), .int .i64 (0), .int .i64 (0), .int .i64 (0), .int .i64 (0), .int .i64 (0), .int .i64 (0), .int .u64 (0), .int .u64 (0), .int .u64 (0), .int .u64 (0), .int .u64 (0), .int .u64 (0), .int .i64 (0), .int .i64 (0), .int .i64 (0), .int .u64 (0), .int .u64 (0)] 27 := b3'
  clear b3'
  replace b3 := b4
  clear b4
  refine ld_int (b1.cat 5 _ rfl) (pick_spec (by decide) (by decide) ⟨_, rfl, ?_⟩)
  rw [wadd (by decide) (by decide) (by decide)]
  refine stB b3 (by simp only [List.length_cons, List.length_nil]; omega) fun x2 b3' f' => ?_
  replace F := F.loc f' h3
  replace b1 := b1.off1 n1 f'
  replace b2 := b2.off1 n2 f'
  clear f'
  have b4 : Blk x2 g3 [.int .i64 (2 + r.nodes % 3), .int .i64 (1 + r.mutators % 3), .int .i64 (2 + r.slots % 4), .int .i64 (16 * (1 + r.cel % 8)), .int .i64 (2 + r.objects % 14), .int .i64 (2 + r.stubs % 10), .int .i64 (0), .int .i64 (0), .int .i64 (0), .int .i64 (0), .int .i64 (0), .int .u64 (0), .int .u64 (0), .int .u64 (0), .int .u64 (0), .int .u64 (0), .int .u64 (0), .int .i64 (0), .int .i64 (0), .int .i64 (0), .int .u64 (0), .int .u64 (0)] 27 := b3'
  clear b3'
  replace b3 := b4
  clear b4
  refine ld_int (b1.cat 6 _ rfl) (pick_spec (by decide) (by decide) ⟨_, rfl, ?_⟩)
  rw [wadd (by decide) (by decide) (by decide)]
  refine stB b3 (by simp only [List.length_cons, List.length_nil]; omega) fun x3 b3' f' => ?_
  replace F := F.loc f' h3
  replace b1 := b1.off1 n1 f'
  replace b2 := b2.off1 n2 f'
  clear f'
  have b4 : Blk x3 g3 [.int .i64 (2 + r.nodes % 3), .int .i64 (1 + r.mutators % 3), .int .i64 (2 + r.slots % 4), .int .i64 (16 * (1 + r.cel % 8)), .int .i64 (2 + r.objects % 14), .int .i64 (2 + r.stubs % 10), .int .i64 (1 + r.calls % 6), .int .i64 (0), .int .i64 (0), .int .i64 (0), .int .i64 (0), .int .u64 (0), .int .u64 (0), .int .u64 (0), .int .u64 (0), .int .u64 (0), .int .u64 (0), .int .i64 (0), .int .i64 (0), .int .i64 (0), .int .u64 (0), .int .u64 (0)] 27 := b3'
  clear b3'
  replace b3 := b4
  clear b4
  refine ld_int (b1.cat 7 _ rfl) (pick_spec (by decide) (by decide) ⟨_, rfl, ?_⟩)
  rw [wadd (by decide) (by decide) (by decide)]
  refine stB b3 (by simp only [List.length_cons, List.length_nil]; omega) fun x4 b3' f' => ?_
  replace F := F.loc f' h3
  replace b1 := b1.off1 n1 f'
  replace b2 := b2.off1 n2 f'
  clear f'
  have b4 : Blk x4 g3 [.int .i64 (2 + r.nodes % 3), .int .i64 (1 + r.mutators % 3), .int .i64 (2 + r.slots % 4), .int .i64 (16 * (1 + r.cel % 8)), .int .i64 (2 + r.objects % 14), .int .i64 (2 + r.stubs % 10), .int .i64 (1 + r.calls % 6), .int .i64 (1 + r.window % 4), .int .i64 (0), .int .i64 (0), .int .i64 (0), .int .u64 (0), .int .u64 (0), .int .u64 (0), .int .u64 (0), .int .u64 (0), .int .u64 (0), .int .i64 (0), .int .i64 (0), .int .i64 (0), .int .u64 (0), .int .u64 (0)] 27 := b3'
  clear b3'
  replace b3 := b4
  clear b4
  refine ld_int (b1.cat 8 _ rfl) (pick_spec (by decide) (by decide) ⟨_, rfl, ?_⟩)
  rw [wadd (by decide) (by decide) (by decide)]
  refine stB b3 (by simp only [List.length_cons, List.length_nil]; omega) fun x5 b3' f' => ?_
  replace F := F.loc f' h3
  replace b1 := b1.off1 n1 f'
  replace b2 := b2.off1 n2 f'
  clear f'
  have b4 : Blk x5 g3 [.int .i64 (2 + r.nodes % 3), .int .i64 (1 + r.mutators % 3), .int .i64 (2 + r.slots % 4), .int .i64 (16 * (1 + r.cel % 8)), .int .i64 (2 + r.objects % 14), .int .i64 (2 + r.stubs % 10), .int .i64 (1 + r.calls % 6), .int .i64 (1 + r.window % 4), .int .i64 (1 + r.grey % 8), .int .i64 (0), .int .i64 (0), .int .u64 (0), .int .u64 (0), .int .u64 (0), .int .u64 (0), .int .u64 (0), .int .u64 (0), .int .i64 (0), .int .i64 (0), .int .i64 (0), .int .u64 (0), .int .u64 (0)] 27 := b3'
  clear b3'
  replace b3 := b4
  clear b4
  refine ld_int (b1.cat 9 _ rfl) (pick_spec (by decide) (by decide) ⟨_, rfl, ?_⟩)
  rw [wadd (by decide) (by decide) (by decide)]
  refine stB b3 (by simp only [List.length_cons, List.length_nil]; omega) fun x6 b3' f' => ?_
  replace F := F.loc f' h3
  replace b1 := b1.off1 n1 f'
  replace b2 := b2.off1 n2 f'
  clear f'
  have b4 : Blk x6 g3 [.int .i64 (2 + r.nodes % 3), .int .i64 (1 + r.mutators % 3), .int .i64 (2 + r.slots % 4), .int .i64 (16 * (1 + r.cel % 8)), .int .i64 (2 + r.objects % 14), .int .i64 (2 + r.stubs % 10), .int .i64 (1 + r.calls % 6), .int .i64 (1 + r.window % 4), .int .i64 (1 + r.grey % 8), .int .i64 (4 + r.bag % 60), .int .i64 (0), .int .u64 (0), .int .u64 (0), .int .u64 (0), .int .u64 (0), .int .u64 (0), .int .u64 (0), .int .i64 (0), .int .i64 (0), .int .i64 (0), .int .u64 (0), .int .u64 (0)] 27 := b3'
  clear b3'
  replace b3 := b4
  clear b4
  refine ld_int (b1.cat 10 _ rfl) (pick_spec (by decide) (by decide) ⟨_, rfl, ?_⟩)
  rw [wadd (by decide) (by decide) (by decide)]
  refine stB b3 (by simp only [List.length_cons, List.length_nil]; omega) fun x7 b3' f' => ?_
  replace F := F.loc f' h3
  replace b1 := b1.off1 n1 f'
  replace b2 := b2.off1 n2 f'
  clear f'
  have b4 : Blk x7 g3 [.int .i64 (2 + r.nodes % 3), .int .i64 (1 + r.mutators % 3), .int .i64 (2 + r.slots % 4), .int .i64 (16 * (1 + r.cel % 8)), .int .i64 (2 + r.objects % 14), .int .i64 (2 + r.stubs % 10), .int .i64 (1 + r.calls % 6), .int .i64 (1 + r.window % 4), .int .i64 (1 + r.grey % 8), .int .i64 (4 + r.bag % 60), .int .i64 (1 + r.inbox % 4), .int .u64 (0), .int .u64 (0), .int .u64 (0), .int .u64 (0), .int .u64 (0), .int .u64 (0), .int .i64 (0), .int .i64 (0), .int .i64 (0), .int .u64 (0), .int .u64 (0)] 27 := b3'
  clear b3'
  replace b3 := b4
  clear b4
  refine ld_int (b1.cat 11 _ rfl) (pick_spec (by decide) (by decide) ⟨_, rfl, ?_⟩)
  rw [wadd (by decide) (by decide) (by decide)]
  rw [waddu (by decide) (by decide) (by decide)]
  refine stB b3 (by simp only [List.length_cons, List.length_nil]; omega) fun x8 b3' f' => ?_
  replace F := F.loc f' h3
  replace b1 := b1.off1 n1 f'
  replace b2 := b2.off1 n2 f'
  clear f'
  have b4 : Blk x8 g3 [.int .i64 (2 + r.nodes % 3), .int .i64 (1 + r.mutators % 3), .int .i64 (2 + r.slots % 4), .int .i64 (16 * (1 + r.cel % 8)), .int .i64 (2 + r.objects % 14), .int .i64 (2 + r.stubs % 10), .int .i64 (1 + r.calls % 6), .int .i64 (1 + r.window % 4), .int .i64 (1 + r.grey % 8), .int .i64 (4 + r.bag % 60), .int .i64 (1 + r.inbox % 4), .int .u64 (4 + r.unit % 20), .int .u64 (0), .int .u64 (0), .int .u64 (0), .int .u64 (0), .int .u64 (0), .int .i64 (0), .int .i64 (0), .int .i64 (0), .int .u64 (0), .int .u64 (0)] 27 := b3'
  clear b3'
  replace b3 := b4
  clear b4
  refine ld_int (b1.cat 12 _ rfl) (ld_int (b3.cat 11 _ rfl) ⟨by decide, ?_⟩)
  rw [half_eq]
  refine pick_spec (half_pos _).1 (half_pos _).2 ⟨_, rfl, ?_⟩
  rw [wmodu (half_pos _).1 (half_pos _).2]
  refine stB b3 (by simp only [List.length_cons, List.length_nil]; omega) fun x9 b3' f' => ?_
  replace F := F.loc f' h3
  replace b1 := b1.off1 n1 f'
  replace b2 := b2.off1 n2 f'
  clear f'
  have b4 : Blk x9 g3 [.int .i64 (2 + r.nodes % 3), .int .i64 (1 + r.mutators % 3), .int .i64 (2 + r.slots % 4), .int .i64 (16 * (1 + r.cel % 8)), .int .i64 (2 + r.objects % 14), .int .i64 (2 + r.stubs % 10), .int .i64 (1 + r.calls % 6), .int .i64 (1 + r.window % 4), .int .i64 (1 + r.grey % 8), .int .i64 (4 + r.bag % 60), .int .i64 (1 + r.inbox % 4), .int .u64 (4 + r.unit % 20), .int .u64 (r.drift % ((4 + r.unit % 20) / 2)), .int .u64 (0), .int .u64 (0), .int .u64 (0), .int .u64 (0), .int .i64 (0), .int .i64 (0), .int .i64 (0), .int .u64 (0), .int .u64 (0)] 27 := b3'
  clear b3'
  replace b3 := b4
  clear b4
  refine drawn fun x10 f' _ => ?_
  replace F := F.tr f'
  replace b1 := b1.keep' f'
  replace b2 := b2.keep' f'
  replace b3 := b3.keep' f'
  clear f'
  refine ld_int (b3.cat 11 _ rfl) (ld_int (b1.cat 13 _ rfl) (pick_spec (by decide) (by decide) ⟨_, rfl, ⟨b3.cat 11 _ rfl, b3.cat 11 _ rfl⟩, ?_⟩))
  rw [wadd (by decide) (by decide) (by decide)]
  rw [waddu (by decide) (by decide) (by decide)]
  rw [wmul _ _ (by decide) (by decide) (by decide)]
  refine stB b3 (by simp only [List.length_cons, List.length_nil]; omega) fun x11 b3' f' => ?_
  replace F := F.loc f' h3
  replace b1 := b1.off1 n1 f'
  replace b2 := b2.off1 n2 f'
  clear f'
  have b4 : Blk x11 g3 [.int .i64 (2 + r.nodes % 3), .int .i64 (1 + r.mutators % 3), .int .i64 (2 + r.slots % 4), .int .i64 (16 * (1 + r.cel % 8)), .int .i64 (2 + r.objects % 14), .int .i64 (2 + r.stubs % 10), .int .i64 (1 + r.calls % 6), .int .i64 (1 + r.window % 4), .int .i64 (1 + r.grey % 8), .int .i64 (4 + r.bag % 60), .int .i64 (1 + r.inbox % 4), .int .u64 (4 + r.unit % 20), .int .u64 (r.drift % ((4 + r.unit % 20) / 2)), .int .u64 ((4 + r.unit % 20) * (40 + r.lease % 200)), .int .u64 (0), .int .u64 (0), .int .u64 (0), .int .i64 (0), .int .i64 (0), .int .i64 (0), .int .u64 (0), .int .u64 (0)] 27 := b3'
  clear b3'
  replace b3 := b4
  clear b4
  refine ld_int (b1.cat 14 _ rfl) (pick_spec (by decide) (by decide) ⟨_, rfl, ?_⟩)
  rw [wadd (by decide) (by decide) (by decide)]
  rw [waddu (by decide) (by decide) (by decide)]
  refine stB b3 (by simp only [List.length_cons, List.length_nil]; omega) fun x12 b3' f' => ?_
  replace F := F.loc f' h3
  replace b1 := b1.off1 n1 f'
  replace b2 := b2.off1 n2 f'
  clear f'
  have b4 : Blk x12 g3 [.int .i64 (2 + r.nodes % 3), .int .i64 (1 + r.mutators % 3), .int .i64 (2 + r.slots % 4), .int .i64 (16 * (1 + r.cel % 8)), .int .i64 (2 + r.objects % 14), .int .i64 (2 + r.stubs % 10), .int .i64 (1 + r.calls % 6), .int .i64 (1 + r.window % 4), .int .i64 (1 + r.grey % 8), .int .i64 (4 + r.bag % 60), .int .i64 (1 + r.inbox % 4), .int .u64 (4 + r.unit % 20), .int .u64 (r.drift % ((4 + r.unit % 20) / 2)), .int .u64 ((4 + r.unit % 20) * (40 + r.lease % 200)), .int .u64 (1 + r.wait % 30), .int .u64 (0), .int .u64 (0), .int .i64 (0), .int .i64 (0), .int .i64 (0), .int .u64 (0), .int .u64 (0)] 27 := b3'
  clear b3'
  replace b3 := b4
  clear b4
  refine drawn fun x13 f' _ => ?_
  replace F := F.tr f'
  replace b1 := b1.keep' f'
  replace b2 := b2.keep' f'
  replace b3 := b3.keep' f'
  clear f'
  refine ld_int (b3.cat 14 _ rfl) (ld_int (b1.cat 15 _ rfl) (pick_spec (by decide) (by decide) ⟨_, rfl, ⟨b3.cat 14 _ rfl, b3.cat 14 _ rfl⟩, ?_⟩))
  rw [wmodu (by decide) (by decide), wthree]
  refine stB b3 (by simp only [List.length_cons, List.length_nil]; omega) fun x14 b3' f' => ?_
  replace F := F.loc f' h3
  replace b1 := b1.off1 n1 f'
  replace b2 := b2.off1 n2 f'
  clear f'
  have b4 : Blk x14 g3 [.int .i64 (2 + r.nodes % 3), .int .i64 (1 + r.mutators % 3), .int .i64 (2 + r.slots % 4), .int .i64 (16 * (1 + r.cel % 8)), .int .i64 (2 + r.objects % 14), .int .i64 (2 + r.stubs % 10), .int .i64 (1 + r.calls % 6), .int .i64 (1 + r.window % 4), .int .i64 (1 + r.grey % 8), .int .i64 (4 + r.bag % 60), .int .i64 (1 + r.inbox % 4), .int .u64 (4 + r.unit % 20), .int .u64 (r.drift % ((4 + r.unit % 20) / 2)), .int .u64 ((4 + r.unit % 20) * (40 + r.lease % 200)), .int .u64 (1 + r.wait % 30), .int .u64 (1 + r.wait % 30 + r.most % 60), .int .u64 (0), .int .i64 (0), .int .i64 (0), .int .i64 (0), .int .u64 (0), .int .u64 (0)] 27 := b3'
  clear b3'
  replace b3 := b4
  clear b4
  refine drawn fun x15 f' _ => ?_
  replace F := F.tr f'
  replace b1 := b1.keep' f'
  replace b2 := b2.keep' f'
  replace b3 := b3.keep' f'
  clear f'
  refine ld_int (b3.cat 11 _ rfl) (ld_int (b1.cat 16 _ rfl) (pick_spec (by decide) (by decide) ⟨_, rfl, ⟨b3.cat 11 _ rfl, b3.cat 11 _ rfl⟩, ?_⟩))
  rw [wadd (by decide) (by decide) (by decide)]
  rw [waddu (by decide) (by decide) (by decide)]
  rw [wmul _ _ (by decide) (by decide) (by decide)]
  refine stB b3 (by simp only [List.length_cons, List.length_nil]; omega) fun x16 b3' f' => ?_
  replace F := F.loc f' h3
  replace b1 := b1.off1 n1 f'
  replace b2 := b2.off1 n2 f'
  clear f'
  have b4 : Blk x16 g3 [.int .i64 (2 + r.nodes % 3), .int .i64 (1 + r.mutators % 3), .int .i64 (2 + r.slots % 4), .int .i64 (16 * (1 + r.cel % 8)), .int .i64 (2 + r.objects % 14), .int .i64 (2 + r.stubs % 10), .int .i64 (1 + r.calls % 6), .int .i64 (1 + r.window % 4), .int .i64 (1 + r.grey % 8), .int .i64 (4 + r.bag % 60), .int .i64 (1 + r.inbox % 4), .int .u64 (4 + r.unit % 20), .int .u64 (r.drift % ((4 + r.unit % 20) / 2)), .int .u64 ((4 + r.unit % 20) * (40 + r.lease % 200)), .int .u64 (1 + r.wait % 30), .int .u64 (1 + r.wait % 30 + r.most % 60), .int .u64 ((4 + r.unit % 20) * (1 + r.patience % 60)), .int .i64 (0), .int .i64 (0), .int .i64 (0), .int .u64 (0), .int .u64 (0)] 27 := b3'
  clear b3'
  replace b3 := b4
  clear b4
  refine ld_int (b1.cat 17 _ rfl) (pick_spec (by decide) (by decide) ⟨_, rfl, ?_⟩)
  rw [wadd (by decide) (by decide) (by decide)]
  refine stB b3 (by simp only [List.length_cons, List.length_nil]; omega) fun x17 b3' f' => ?_
  replace F := F.loc f' h3
  replace b1 := b1.off1 n1 f'
  replace b2 := b2.off1 n2 f'
  clear f'
  have b4 : Blk x17 g3 [.int .i64 (2 + r.nodes % 3), .int .i64 (1 + r.mutators % 3), .int .i64 (2 + r.slots % 4), .int .i64 (16 * (1 + r.cel % 8)), .int .i64 (2 + r.objects % 14), .int .i64 (2 + r.stubs % 10), .int .i64 (1 + r.calls % 6), .int .i64 (1 + r.window % 4), .int .i64 (1 + r.grey % 8), .int .i64 (4 + r.bag % 60), .int .i64 (1 + r.inbox % 4), .int .u64 (4 + r.unit % 20), .int .u64 (r.drift % ((4 + r.unit % 20) / 2)), .int .u64 ((4 + r.unit % 20) * (40 + r.lease % 200)), .int .u64 (1 + r.wait % 30), .int .u64 (1 + r.wait % 30 + r.most % 60), .int .u64 ((4 + r.unit % 20) * (1 + r.patience % 60)), .int .i64 (1 + r.suspect % 4), .int .i64 (0), .int .i64 (0), .int .u64 (0), .int .u64 (0)] 27 := b3'
  clear b3'
  replace b3 := b4
  clear b4
  refine drawn fun x18 f' _ => ?_
  replace F := F.tr f'
  replace b1 := b1.keep' f'
  replace b2 := b2.keep' f'
  replace b3 := b3.keep' f'
  clear f'
  refine ld_int (b3.cat 17 _ rfl) (ld_int (b1.cat 18 _ rfl) (pick_spec (by decide) (by decide) ⟨_, rfl, ⟨b3.cat 17 _ rfl, b3.cat 17 _ rfl⟩, ?_⟩))
  rw [wfour]
  refine stB b3 (by simp only [List.length_cons, List.length_nil]; omega) fun x19 b3' f' => ?_
  replace F := F.loc f' h3
  replace b1 := b1.off1 n1 f'
  replace b2 := b2.off1 n2 f'
  clear f'
  have b4 : Blk x19 g3 [.int .i64 (2 + r.nodes % 3), .int .i64 (1 + r.mutators % 3), .int .i64 (2 + r.slots % 4), .int .i64 (16 * (1 + r.cel % 8)), .int .i64 (2 + r.objects % 14), .int .i64 (2 + r.stubs % 10), .int .i64 (1 + r.calls % 6), .int .i64 (1 + r.window % 4), .int .i64 (1 + r.grey % 8), .int .i64 (4 + r.bag % 60), .int .i64 (1 + r.inbox % 4), .int .u64 (4 + r.unit % 20), .int .u64 (r.drift % ((4 + r.unit % 20) / 2)), .int .u64 ((4 + r.unit % 20) * (40 + r.lease % 200)), .int .u64 (1 + r.wait % 30), .int .u64 (1 + r.wait % 30 + r.most % 60), .int .u64 ((4 + r.unit % 20) * (1 + r.patience % 60)), .int .i64 (1 + r.suspect % 4), .int .i64 (1 + r.suspect % 4 + 1 + r.trace % 4), .int .i64 (0), .int .u64 (0), .int .u64 (0)] 27 := b3'
  clear b3'
  replace b3 := b4
  clear b4
  refine ld_int (b1.cat 19 _ rfl) (pick_spec (by decide) (by decide) ⟨_, rfl, ?_⟩)
  rw [wadd (by decide) (by decide) (by decide)]
  refine stB b3 (by simp only [List.length_cons, List.length_nil]; omega) fun x20 b3' f' => ?_
  replace F := F.loc f' h3
  replace b1 := b1.off1 n1 f'
  replace b2 := b2.off1 n2 f'
  clear f'
  have b4 : Blk x20 g3 [.int .i64 (2 + r.nodes % 3), .int .i64 (1 + r.mutators % 3), .int .i64 (2 + r.slots % 4), .int .i64 (16 * (1 + r.cel % 8)), .int .i64 (2 + r.objects % 14), .int .i64 (2 + r.stubs % 10), .int .i64 (1 + r.calls % 6), .int .i64 (1 + r.window % 4), .int .i64 (1 + r.grey % 8), .int .i64 (4 + r.bag % 60), .int .i64 (1 + r.inbox % 4), .int .u64 (4 + r.unit % 20), .int .u64 (r.drift % ((4 + r.unit % 20) / 2)), .int .u64 ((4 + r.unit % 20) * (40 + r.lease % 200)), .int .u64 (1 + r.wait % 30), .int .u64 (1 + r.wait % 30 + r.most % 60), .int .u64 ((4 + r.unit % 20) * (1 + r.patience % 60)), .int .i64 (1 + r.suspect % 4), .int .i64 (1 + r.suspect % 4 + 1 + r.trace % 4), .int .i64 (1 + r.work % 12), .int .u64 (0), .int .u64 (0)] 27 := b3'
  clear b3'
  replace b3 := b4
  clear b4
  refine ld_int (b1.cat 20 _ rfl) ⟨by decide, ?_⟩
  refine stB b3 (by simp only [List.length_cons, List.length_nil]; omega) fun x21 b3' f' => ?_
  replace F := F.loc f' h3
  replace b1 := b1.off1 n1 f'
  replace b2 := b2.off1 n2 f'
  clear f'
  have b4 : Blk x21 g3 [.int .i64 (2 + r.nodes % 3), .int .i64 (1 + r.mutators % 3), .int .i64 (2 + r.slots % 4), .int .i64 (16 * (1 + r.cel % 8)), .int .i64 (2 + r.objects % 14), .int .i64 (2 + r.stubs % 10), .int .i64 (1 + r.calls % 6), .int .i64 (1 + r.window % 4), .int .i64 (1 + r.grey % 8), .int .i64 (4 + r.bag % 60), .int .i64 (1 + r.inbox % 4), .int .u64 (4 + r.unit % 20), .int .u64 (r.drift % ((4 + r.unit % 20) / 2)), .int .u64 ((4 + r.unit % 20) * (40 + r.lease % 200)), .int .u64 (1 + r.wait % 30), .int .u64 (1 + r.wait % 30 + r.most % 60), .int .u64 ((4 + r.unit % 20) * (1 + r.patience % 60)), .int .i64 (1 + r.suspect % 4), .int .i64 (1 + r.suspect % 4 + 1 + r.trace % 4), .int .i64 (1 + r.work % 12), .int .u64 (Int.tmod r.start 1000), .int .u64 (0)] 27 := b3'
  clear b3'
  replace b3 := b4
  clear b4
  refine ld_int (b1.cat 21 _ rfl) ⟨by decide, ?_⟩
  refine stB b3 (by simp only [List.length_cons, List.length_nil]; omega) fun x22 b3' f' => ?_
  replace F := F.loc f' h3
  replace b1 := b1.off1 n1 f'
  replace b2 := b2.off1 n2 f'
  clear f'
  have b4 : Blk x22 g3 [.int .i64 (2 + r.nodes % 3), .int .i64 (1 + r.mutators % 3), .int .i64 (2 + r.slots % 4), .int .i64 (16 * (1 + r.cel % 8)), .int .i64 (2 + r.objects % 14), .int .i64 (2 + r.stubs % 10), .int .i64 (1 + r.calls % 6), .int .i64 (1 + r.window % 4), .int .i64 (1 + r.grey % 8), .int .i64 (4 + r.bag % 60), .int .i64 (1 + r.inbox % 4), .int .u64 (4 + r.unit % 20), .int .u64 (r.drift % ((4 + r.unit % 20) / 2)), .int .u64 ((4 + r.unit % 20) * (40 + r.lease % 200)), .int .u64 (1 + r.wait % 30), .int .u64 (1 + r.wait % 30 + r.most % 60), .int .u64 ((4 + r.unit % 20) * (1 + r.patience % 60)), .int .i64 (1 + r.suspect % 4), .int .i64 (1 + r.suspect % 4 + 1 + r.trace % 4), .int .i64 (1 + r.work % 12), .int .u64 (Int.tmod r.start 1000), .int .u64 (Int.tmod r.last 1000)] 27 := b3'
  clear b3'
  replace b3 := b4
  clear b4
  refine ld_Cfg (s := configOf r) b3.cat (stAllB (vs := (configOf r).cells) b2 ho.symm fun wz bz fz => ld_Cfg (s := configOf r) bz.cat (hQ _ (F.loc fz h2)))
theorem config_spec (hQ : ∀ w', Fr [] w w' → Q (configOf r).val w') : CallR Tryz.prog 7 #[r.val] w Q := by
  apply X7.sound
  unfold X7.f
  refine newB fun g1 w2 b1 f2 h1 => newB fun g3 w4 b3 f4 h3 => drawn fun w5 f5 _ => ?_
  have b1 : Blk w5 g1 r.cells 24 := b1.keep' (f4.tr f5)
  have b3 := b3.keep' f5
  have F := (f2.tr f4).tr f5
  have s2 := f2.size
  have l1 := b1.lt
  have l3 := b3.lt
  have m0 := md (n := r.nodes) (m := 3) (by omega)
  have m1 := md (n := r.mutators) (m := 3) (by omega)
  have m2 := md (n := r.slots) (m := 4) (by omega)
  have m3 := md (n := r.cel) (m := 8) (by omega)
  have e0 : IntKind.wrap .i64 (2 + r.nodes % 3) = 2 + r.nodes % 3 := i64w _ (by omega) (by omega)
  have e1 : IntKind.wrap .i64 (1 + r.mutators % 3) = 1 + r.mutators % 3 := i64w _ (by omega) (by omega)
  have e2 : IntKind.wrap .i64 (2 + r.slots % 4) = 2 + r.slots % 4 := i64w _ (by omega) (by omega)
  have e3 : IntKind.wrap .i64 (16 * IntKind.wrap .i64 (1 + r.cel % 8)) = 16 * (1 + r.cel % 8) := by rw [i64w (1 + r.cel % 8) (by omega) (by omega), i64w _ (by omega) (by omega)]
  have fin : ∀ {g22 : Nat} {w23 : World} {old : List Value}, Blk w23 g22 old 27 → old.length = 22 → Fr [] w5 w23 → w5.heap.size ≤ g22 → stAll w23 (at0 g22 0) (cfg4 r) fun w24 => X7.j0 Q (at0 g1 0) (at0 g3 0) (at0 g22 0) w24 := by
    intro g22 w23 old b ho f h
    refine stAllB b ho.symm fun w24 b24 f24 => ?_
    have z := F.size
    exact config_j0 (W := w) ((b1.keep' f).off1 (by omega) f24) b24 ((b3.keep' f).off1 (by omega) f24) rfl (by omega) (by omega) ((F.tr f).loc f24 (by omega)) (by omega) (by omega) hQ
  refine ⟨?_, ?_, ?_, ?_, ?_⟩
  · (repeat (first | refine ld_int (b1.cat _ _ rfl) ?_ | refine pick_spec (by omega) (by omega) ⟨_, rfl, ?_⟩ | refine ⟨⟨b1.cat _ _ rfl, b1.cat _ _ rfl⟩, ?_⟩))
    refine newB fun g22 w23 b22 f23 h23 => ?_
    have b1' := b1.keep' f23
    (repeat (first | refine ⟨⟨b1.cat _ _ rfl, b1'.cat _ _ rfl⟩, ?_⟩ | refine pick_spec (by omega) (by omega) ⟨_, rfl, ?_⟩ | refine ⟨⟨b1'.cat _ _ rfl, b1'.cat _ _ rfl⟩, ?_⟩))
    rw [e0, e1, e2, e3]
    exact fin b22 rfl f23 h23
  · (repeat (first | refine ld_int (b1.cat _ _ rfl) ?_ | refine pick_spec (by omega) (by omega) ⟨_, rfl, ?_⟩ | refine ⟨⟨b1.cat _ _ rfl, b1.cat _ _ rfl⟩, ?_⟩))
    refine newB fun g22 w23 b22 f23 h23 => ?_
    have b1' := b1.keep' f23
    (repeat (first | refine ⟨⟨b1.cat _ _ rfl, b1'.cat _ _ rfl⟩, ?_⟩ | refine pick_spec (by omega) (by omega) ⟨_, rfl, ?_⟩ | refine ⟨⟨b1'.cat _ _ rfl, b1'.cat _ _ rfl⟩, ?_⟩))
    rw [e0, e1, e2, e3]
    exact fin b22 rfl f23 h23
  · (repeat (first | refine ld_int (b1.cat _ _ rfl) ?_ | refine pick_spec (by omega) (by omega) ⟨_, rfl, ?_⟩ | refine ⟨⟨b1.cat _ _ rfl, b1.cat _ _ rfl⟩, ?_⟩))
    refine newB fun g22 w23 b22 f23 h23 => ?_
    have b1' := b1.keep' f23
    (repeat (first | refine ⟨⟨b1.cat _ _ rfl, b1'.cat _ _ rfl⟩, ?_⟩ | refine pick_spec (by omega) (by omega) ⟨_, rfl, ?_⟩ | refine ⟨⟨b1'.cat _ _ rfl, b1'.cat _ _ rfl⟩, ?_⟩))
    rw [e0, e1, e2, e3]
    exact fin b22 rfl f23 h23
  · (repeat (first | refine ld_int (b1.cat _ _ rfl) ?_ | refine pick_spec (by omega) (by omega) ⟨_, rfl, ?_⟩ | refine ⟨⟨b1.cat _ _ rfl, b1.cat _ _ rfl⟩, ?_⟩))
    refine newB fun g22 w23 b22 f23 h23 => ?_
    have b1' := b1.keep' f23
    (repeat (first | refine ⟨⟨b1.cat _ _ rfl, b1'.cat _ _ rfl⟩, ?_⟩ | refine pick_spec (by omega) (by omega) ⟨_, rfl, ?_⟩ | refine ⟨⟨b1'.cat _ _ rfl, b1'.cat _ _ rfl⟩, ?_⟩))
    rw [e0, e1, e2, e3]
    exact fin b22 rfl f23 h23
  · (repeat (first | refine ld_int (b1.cat _ _ rfl) ?_ | refine pick_spec (by omega) (by omega) ⟨_, rfl, ?_⟩ | refine ⟨⟨b1.cat _ _ rfl, b1.cat _ _ rfl⟩, ?_⟩))
    refine newB fun g22 w23 b22 f23 h23 => ?_
    have b1' := b1.keep' f23
    (repeat (first | refine ⟨⟨b1.cat _ _ rfl, b1'.cat _ _ rfl⟩, ?_⟩ | refine pick_spec (by omega) (by omega) ⟨_, rfl, ?_⟩ | refine ⟨⟨b1'.cat _ _ rfl, b1'.cat _ _ rfl⟩, ?_⟩))
    rw [e0, e1, e2, e3]
    exact fin b22 rfl f23 h23
end
def mayA (c : Cfg) : Bool := inB c.nodes 64 && inB c.mutators 4 && inB c.slots 8 && inB c.cel 4096 && (Int.tmod c.cel 16 == 0)
def mayC (c : Cfg) : Bool := inB c.objects 64 && inB c.stubs 64 && inB c.calls 16 && inB c.window 8 && inB c.grey 64 && inB c.bag 256 && inB c.inbox 16
def mayD (c : Cfg) : Bool := decide (c.unit ≥ 1) && decide (c.unit ≤ 1048576) && decide (c.drift < c.unit) && decide (c.lease ≤ 4294967295) && decide (IntKind.wrap .u64 (c.lease * IntKind.wrap .u64 (c.unit - c.drift)) ≥ IntKind.wrap .u64 (8 * IntKind.wrap .u64 (c.unit + c.drift)))
def mayE (c : Cfg) : Bool := decide (c.wait ≥ 1) && decide (c.wait ≤ c.most) && decide (c.most ≤ 4294967295) && decide (c.patience ≥ 1) && decide (c.patience ≤ 4294967295)
def mayF (c : Cfg) : Bool := inB c.suspect 38 && decide (c.trace > c.suspect) && decide (c.trace < 40) && inB c.work 64 && decide (c.start ≤ 4611686018427387904) && decide (c.last ≤ 72057594037927935)
def mayB (c : Cfg) : Bool := mayA c && mayC c && mayD c && mayE c && mayF c
section
variable {w w' W : World} {Q : QT} {g gt : Nat} {ft : List Nat} {c : Cfg}
theorem may_j0 {a b d e : Bool} (hb : Blk w g c.cells 27) (ha : a = mayA c) (hc : b = mayC c) (hd : d = mayD c) (he : e = mayE c) (hQ : Q (.bool (mayB c)) w) : X62.j0 Q (at0 g 0) a b d e w := by
  unfold X62.j0
  have no : mayB c = false → Q (.bool false) w := fun h => by rw [h] at hQ; exact hQ
  unfold mayB at *
  rw [← ha, ← hc, ← hd, ← he] at *
  refine bc_bool (fun h1 => bc_bool (fun h2 => bc_bool (fun h3 => bc_bool (fun h4 => ?_) (fun h => no (by simp [h]))) (fun h => no (by simp [h]))) (fun h => no (by simp [h]))) (fun h => no (by simp [h]))
  unfold mayF at *
  refine ld_int (hb.cat 17 _ rfl) (apin_spec ⟨_, rfl, bc_bool (fun h5 => ?_) (fun h => no (by simp [h]))⟩)
  refine ld_int (hb.cat 18 _ rfl) (ld_int (hb.cat 17 _ rfl) (bc_dec (fun h6 => ?_) (fun h => no (by simp [h]))))
  refine ld_int (hb.cat 18 _ rfl) (bc_dec (fun h7 => ?_) (fun h => no (by simp [h])))
  refine ld_int (hb.cat 19 _ rfl) (apin_spec ⟨_, rfl, bc_bool (fun h8 => ?_) (fun h => no (by simp [h]))⟩)
  refine ld_int (hb.cat 20 _ rfl) (bc_dec (fun h9 => ?_) (fun h => no (by simp [h])))
  refine ld_int (hb.cat 21 _ rfl) ?_
  have h6' : c.trace > c.suspect := h6
  simpa [h1, h2, h3, h4, h5, h6', h7, h8, h9] using hQ
theorem may_j1 {a b d : Bool} (hb : Blk w g c.cells 27) (ha : a = mayA c) (hc : b = mayC c) (hd : d = mayD c) (hQ : Q (.bool (mayB c)) w) : X62.j1 Q (at0 g 0) a b d w := by
  unfold X62.j1
  have no : mayE c = false → X62.j0 Q (at0 g 0) a b d false w := fun h => may_j0 hb ha hc hd h.symm hQ
  unfold mayE at no
  refine ld_int (hb.cat 14 _ rfl) (bc_dec (fun h1 => ?_) (fun h => no (by simp [h])))
  refine ld_int (hb.cat 14 _ rfl) (ld_int (hb.cat 15 _ rfl) (bc_dec (fun h2 => ?_) (fun h => no (by simp [h]))))
  refine ld_int (hb.cat 15 _ rfl) (bc_dec (fun h3 => ?_) (fun h => no (by simp [h])))
  refine ld_int (hb.cat 16 _ rfl) (bc_dec (fun h4 => ?_) (fun h => no (by simp [h])))
  exact ld_int (hb.cat 16 _ rfl) (may_j0 hb ha hc hd (by simp [mayE, h1, h2, h3, h4]) hQ)
theorem may_j2 {a b : Bool} (hb : Blk w g c.cells 27) (ha : a = mayA c) (hc : b = mayC c) (hQ : Q (.bool (mayB c)) w) : X62.j2 Q (at0 g 0) a b w := by
  unfold X62.j2
  have no : mayD c = false → X62.j1 Q (at0 g 0) a b false w := fun h => may_j1 hb ha hc h.symm hQ
  unfold mayD at no
  refine ld_int (hb.cat 11 _ rfl) (bc_dec (fun h1 => ?_) (fun h => no (by simp [h])))
  refine ld_int (hb.cat 11 _ rfl) (bc_dec (fun h2 => ?_) (fun h => no (by simp [h])))
  refine ld_int (hb.cat 12 _ rfl) (ld_int (hb.cat 11 _ rfl) (bc_dec (fun h3 => ?_) (fun h => no (by simp [h]))))
  refine ld_int (hb.cat 13 _ rfl) (bc_dec (fun h4 => ?_) (fun h => no (by simp [h])))
  exact ld_int (hb.cat 13 _ rfl) (ld_int (hb.cat 11 _ rfl) (ld_int (hb.cat 12 _ rfl) (ld_int (hb.cat 11 _ rfl) (ld_int (hb.cat 12 _ rfl) (may_j1 hb ha hc (by simp [mayD, h1, h2, h3, h4]) hQ)))))
theorem may_j3 {a : Bool} (hb : Blk w g c.cells 27) (ha : a = mayA c) (hQ : Q (.bool (mayB c)) w) : X62.j3 Q (at0 g 0) a w := by
  unfold X62.j3
  have no : mayC c = false → X62.j2 Q (at0 g 0) a false w := fun h => may_j2 hb ha h.symm hQ
  unfold mayC at no
  refine ld_int (hb.cat 4 _ rfl) (apin_spec ⟨_, rfl, bc_bool (fun h1 => ?_) (fun h => no (by simp [h]))⟩)
  refine ld_int (hb.cat 5 _ rfl) (apin_spec ⟨_, rfl, bc_bool (fun h2 => ?_) (fun h => no (by simp [h]))⟩)
  refine ld_int (hb.cat 6 _ rfl) (apin_spec ⟨_, rfl, bc_bool (fun h3 => ?_) (fun h => no (by simp [h]))⟩)
  refine ld_int (hb.cat 7 _ rfl) (apin_spec ⟨_, rfl, bc_bool (fun h4 => ?_) (fun h => no (by simp [h]))⟩)
  refine ld_int (hb.cat 8 _ rfl) (apin_spec ⟨_, rfl, bc_bool (fun h5 => ?_) (fun h => no (by simp [h]))⟩)
  refine ld_int (hb.cat 9 _ rfl) (apin_spec ⟨_, rfl, bc_bool (fun h6 => ?_) (fun h => no (by simp [h]))⟩)
  exact ld_int (hb.cat 10 _ rfl) (apin_spec ⟨_, rfl, may_j2 hb ha (by simp [mayC, h1, h2, h3, h4, h5, h6]) hQ⟩)
theorem may_spec (hQ : ∀ w', Fr [] w w' → Q (.bool (mayB c)) w') : CallR Tryz.prog 62 #[c.val] w Q := by
  apply X62.sound
  unfold X62.f
  refine newB fun g w2 hb f2 _ => ?_
  have hb : Blk w2 g c.cells 27 := hb
  have no : mayA c = false → X62.j3 Q (at0 g 0) false w2 := fun h => may_j3 hb h.symm (hQ _ f2)
  unfold mayA at no
  refine ld_int (hb.cat 0 _ rfl) (apin_spec ⟨_, rfl, bc_bool (fun h1 => ?_) (fun h => no (by simp [h]))⟩)
  refine ld_int (hb.cat 1 _ rfl) (apin_spec ⟨_, rfl, bc_bool (fun h2 => ?_) (fun h => no (by simp [h]))⟩)
  refine ld_int (hb.cat 2 _ rfl) (apin_spec ⟨_, rfl, bc_bool (fun h3 => ?_) (fun h => no (by simp [h]))⟩)
  refine ld_int (hb.cat 3 _ rfl) (apin_spec ⟨_, rfl, bc_bool (fun h4 => ?_) (fun h => no (by simp [h]))⟩)
  exact ld_int (hb.cat 3 _ rfl) ⟨by omega, may_j3 hb (by simp [mayA, h1, h2, h3, h4]) (hQ _ f2)⟩
end
structure RawW (r : Raw) : Prop where
  s0 : 0 ≤ r.start
  l0 : 0 ≤ r.last
theorem inB_of {n most : Int} (h1 : 1 ≤ n) (h2 : n ≤ most) : inB n most = true := by unfold inB; rw [if_pos h1, decide_eq_true h2]
theorem drift_half (r : Raw) : 0 ≤ (configOf r).drift ∧ 2 * (configOf r).drift + 2 ≤ (configOf r).unit ∧ 4 ≤ (configOf r).unit ∧ (configOf r).unit ≤ 23 := by
  have m := md (n := r.unit) (m := 20) (by omega)
  have d := md (n := r.drift) (m := (4 + r.unit % 20) / 2) (by omega)
  show 0 ≤ r.drift % ((4 + r.unit % 20) / 2) ∧ 2 * (r.drift % ((4 + r.unit % 20) / 2)) + 2 ≤ 4 + r.unit % 20 ∧ 4 ≤ 4 + r.unit % 20 ∧ 4 + r.unit % 20 ≤ 23
  omega
theorem lease_rng (r : Raw) : 160 ≤ (configOf r).lease ∧ (configOf r).lease ≤ 5497 := by
  have m := md (n := r.unit) (m := 20) (by omega)
  have d := md (n := r.lease) (m := 200) (by omega)
  have h1 := Int.mul_le_mul (a := 4) (b := 40) (c := 4 + r.unit % 20) (d := 40 + r.lease % 200) (by omega) (by omega) (by omega) (by omega)
  have h2 := Int.mul_le_mul (a := 4 + r.unit % 20) (b := 40 + r.lease % 200) (c := 23) (d := 239) (by omega) (by omega) (by omega) (by omega)
  show 160 ≤ (4 + r.unit % 20) * (40 + r.lease % 200) ∧ (4 + r.unit % 20) * (40 + r.lease % 200) ≤ 5497
  omega
theorem may_config {r : Raw} (hr : RawW r) : mayB (configOf r) = true := by
  have dh := drift_half r
  have ls := lease_rng r
  have hA : mayA (configOf r) = true := by
    have a0 := md (n := r.nodes) (m := 3) (by omega)
    have a1 := md (n := r.mutators) (m := 3) (by omega)
    have a2 := md (n := r.slots) (m := 4) (by omega)
    have a3 := md (n := r.cel) (m := 8) (by omega)
    unfold mayA configOf
    simp only
    rw [inB_of (by omega) (by omega), inB_of (by omega) (by omega), inB_of (by omega) (by omega), inB_of (by omega) (by omega), Int.tmod_eq_emod_of_nonneg (by omega), show 16 * (1 + r.cel % 8) % 16 = 0 by omega]
    rfl
  have hC : mayC (configOf r) = true := by
    have a0 := md (n := r.objects) (m := 14) (by omega)
    have a1 := md (n := r.stubs) (m := 10) (by omega)
    have a2 := md (n := r.calls) (m := 6) (by omega)
    have a3 := md (n := r.window) (m := 4) (by omega)
    have a4 := md (n := r.grey) (m := 8) (by omega)
    have a5 := md (n := r.bag) (m := 60) (by omega)
    have a6 := md (n := r.inbox) (m := 4) (by omega)
    unfold mayC configOf
    simp only
    rw [inB_of (by omega) (by omega), inB_of (by omega) (by omega), inB_of (by omega) (by omega), inB_of (by omega) (by omega), inB_of (by omega) (by omega), inB_of (by omega) (by omega), inB_of (by omega) (by omega)]
    rfl
  have hD : mayD (configOf r) = true := by
    have p1 := mul_rng (a := (configOf r).lease) (b := (configOf r).unit - (configOf r).drift) (A := 5497) (B := 23) (by omega) (by omega) (by omega) (by omega)
    have p2 := Int.mul_le_mul_of_nonneg_right (a := 160) (b := (configOf r).lease) (c := (configOf r).unit - (configOf r).drift) (by omega) (by omega)
    unfold mayD
    rw [u64w ((configOf r).unit - (configOf r).drift) (by omega) (by omega), u64w ((configOf r).unit + (configOf r).drift) (by omega) (by omega), u64w ((configOf r).lease * _) (by omega) (by omega), u64w (8 * _) (by omega) (by omega)]
    rw [decide_eq_true (by omega), decide_eq_true (by omega), decide_eq_true (by omega), decide_eq_true (by omega), decide_eq_true (by omega)]
    rfl
  have hE : mayE (configOf r) = true := by
    have a0 := md (n := r.wait) (m := 30) (by omega)
    have a1 := md (n := r.most) (m := 60) (by omega)
    have a2 := md (n := r.unit) (m := 20) (by omega)
    have a3 := md (n := r.patience) (m := 60) (by omega)
    have h1 := Int.mul_le_mul (a := 4) (b := 1) (c := 4 + r.unit % 20) (d := 1 + r.patience % 60) (by omega) (by omega) (by omega) (by omega)
    have h2 := Int.mul_le_mul (a := 4 + r.unit % 20) (b := 1 + r.patience % 60) (c := 23) (d := 60) (by omega) (by omega) (by omega) (by omega)
    unfold mayE configOf
    simp only
    rw [decide_eq_true (by omega), decide_eq_true (by omega), decide_eq_true (by omega), decide_eq_true (by omega), decide_eq_true (by omega)]
    rfl
  have hF : mayF (configOf r) = true := by
    have a0 := md (n := r.suspect) (m := 4) (by omega)
    have a1 := md (n := r.trace) (m := 4) (by omega)
    have a2 := md (n := r.work) (m := 12) (by omega)
    have s1 : Int.tmod r.start 1000 < 1000 := by rw [Int.tmod_eq_emod_of_nonneg hr.s0]; exact Int.emod_lt_of_pos _ (by omega)
    have s2 : Int.tmod r.last 1000 < 1000 := by rw [Int.tmod_eq_emod_of_nonneg hr.l0]; exact Int.emod_lt_of_pos _ (by omega)
    unfold mayF configOf
    simp only
    rw [inB_of (by omega) (by omega), decide_eq_true (by omega), decide_eq_true (by omega), inB_of (by omega) (by omega), decide_eq_true (by omega), decide_eq_true (by omega)]
    rfl
  unfold mayB
  rw [hA, hC, hD, hE, hF]
  rfl
end Go.Proofs.YtnjmkhhaodgpbaaGreatX
namespace Go.Proofs.YtnjmkhhaodgpbaaGreatX
open Go.RowKit
set_option maxRecDepth 100000
def objs (n : Nat) : List (Int × Int) := (List.range n).map fun (k : Nat) => ((k : Int) + 1, 0)
theorem objs_succ (n : Nat) : objs (n + 1) = objs n ++ [((n : Int) + 1, 0)] := by
  unfold objs
  rw [List.range_succ, List.map_append]
  rfl
theorem objs_len (n : Nat) : (objs n).length = n := by simp [objs]
theorem makeO_objs {n : Nat} (h : n < 12) : makeO (n : Int) (objs n) = (((n + 1 : Nat) : Int), objs (n + 1), ((n + 1 : Nat) : Int), 0) := by
  unfold makeO
  rw [objs_len, if_neg (by omega), if_neg (by omega), objs_succ]
  simp
def sc0 (c : Cfg) (node : Int) : Sc := ⟨c, node, 5, objs 5, [], [], 0⟩
def rscells (c : Cfg) (h : Nat) (most : Int) (kp : Option Addr) (kn kc : Nat) (vp : Option Addr) (vn vc : Nat) (bp : Option Addr) (bn bc : Nat) (cur : Int) : List Value := c.cells ++ [.pointer (some (at0 h 0)), .int .i64 most, .slice kp kn kc, .slice vp vn vc, .slice bp bn bc, .int .u64 cur]
section
variable {w w' W : World} {Q : QT} {x : HB} {xr : RHB} {fh fr F : List Nat} {node last s d : Int} {c : Cfg} {os : List (Int × Int)}
theorem snew_spec (h : mayB c = true) (t : PH w x fh node last os) (hn : node ≤ c.nodes) (hQ : ∀ g ft w', PS w' g x ft ⟨c, node, last, os, [], [], 0⟩ → Fr [] w w' → (∀ y ∈ ft, y ∈ fh ∨ w.heap.size ≤ y) → Q (.tuple #[.pointer (some (at0 g 0)), .int .i64 0]) w') :
    CallR Tryz.prog 27 #[c.val, .pointer (some (at0 x.h 0))] w Q := by
  apply X27.sound
  unfold X27.f
  refine newB fun g1 w2 b2 f2 h2 => drawn fun w3 f3 _ => ?_
  have b2 : Blk w2 g1 c.cells 27 := b2
  refine ld_Cfg (s := c) (b2.keep' f3).cat (may_spec (c := c) fun w27 f27 => ⟨_, rfl, ?_⟩)
  rw [h]
  have b27 := b2.keep' (f3.tr f27)
  have F27 := f2.tr (f3.tr f27)
  refine bc_bool (fun e => by cases e) (fun _ => bc_bool (fun e => by cases e) (fun _ => node_spec (t.keep' F27) ⟨_, rfl, ld_int (b27.cat 0 _ rfl) ⟨⟨b27.cat 0 _ rfl, b27.cat 0 _ rfl⟩, bc_neg (by omega) ?_⟩⟩))
  unfold X27.j0
  refine new_SC (fun hh => by omega) (fun _ _ w5 T5 f5 => ⟨_, _, rfl, bc_ne (fun e => absurd rfl e) (fun _ => ?_)⟩)
  refine ld_Cfg (s := c) (b27.keep' f5).cat (newMU fun bm w28 M28 f28 h28 => newB fun g w30 B30 f30 h30 => ?_)
  have z27 := F27.size
  have z5 := f5.size
  have z28 := f28.size
  have l5 := T5.lt _ (List.mem_singleton.2 rfl)
  have lt := t.lt
  have l28 := M28.lt
  have F30 := F27.tr (f5.tr (f28.tr f30))
  refine hQ g _ w30 ⟨fh, _, bm, _, B30, t.keep' F30, T5.keep' (f28.tr f30), M28.keep' f30, ⟨List.Pairwise.nil, by simp, by simp, by simp, by simp⟩, rfl, by omega, by simp; omega, fun hm => by have := lt _ hm; omega, by simp; omega, fun hm => by have := lt _ hm; omega, fun y hy hm => by have := lt _ hm; simp at hy; omega⟩ F30 (fun y hy => ?_)
  rcases List.mem_cons.1 hy with rfl | hy
  · exact .inr (by omega)
  rcases List.mem_cons.1 hy with rfl | hy
  · exact .inr (by omega)
  rcases List.mem_append.1 hy with hy | hy
  · simp at hy
    exact .inr (by omega)
  · exact .inl hy
theorem rsnew_spec (h : mayB c = true) (t : PR w xr fr node last os) (hn : node ≤ c.nodes) (hQ : ∀ g w', Blk w' g (rscells c xr.h 1048576 none 0 0 none 0 0 none 0 0 0) 82 → Fr [] w w' → w.heap.size ≤ g → Q (.pointer (some (at0 g 0))) w') :
    CallR Tryz.prog 28 #[c.val, .pointer (some (at0 xr.h 0))] w Q := by
  apply X28.sound
  unfold X28.f
  refine newB fun g1 w2 b2 f2 h2 => drawn fun w3 f3 _ => ?_
  have b2 : Blk w2 g1 c.cells 27 := b2
  refine ld_Cfg (s := c) (b2.keep' f3).cat (may_spec (c := c) fun w27 f27 => ⟨_, rfl, ?_⟩)
  rw [h]
  have b27 := b2.keep' (f3.tr f27)
  have F27 := f2.tr (f3.tr f27)
  obtain ⟨ts, os, lp, lc, t, e⟩ := t.keep' F27
  refine bc_bool (fun e => by cases e) (fun _ => bc_bool (fun e => by cases e) (fun _ => opt_some rfl (ld_int (t.c0 0 rfl) (ld_int (b27.cat 0 _ rfl) (bc_neg (by omega) ?_)))))
  refine ld_Cfg (s := c) b27.cat (newB fun g w55 B55 f55 h55 => ?_)
  have z27 := F27.size
  have e23 : (((at0 g 0).add 23).add 0) = (at0 g 0).add 23 := by rw [add_add]
  rw [e23]
  refine stB (i := 23) B55 (show 23 < 28 by omega) fun w56 B56 f56 => ?_
  exact hQ g w56 B56 ((F27.tr f55).trans f56 (fun y hy => .inr (by simp at hy; omega))) (by omega)
theorem yard_l0 {g2 : Nat} (hmay : mayB c = true) (hn1 : 1 ≤ node) (hn2 : node ≤ c.nodes) 
    (hQ : ∀ g x ft gr xr fr w', PS w' g x ft (sc0 c node) → PR w' xr fr node 5 (objs 5) → Blk w' gr (rscells c xr.h 1048576 none 0 0 none 0 0 none 0 0 0) 82 → (∀ y ∈ ft, y ∉ fr) → gr ∉ ft → gr ∉ fr → Fr [] W w' → (∀ y ∈ ft, W.heap.size ≤ y) → (∀ y ∈ fr, W.heap.size ≤ y) → W.heap.size ≤ gr → Q (.tuple #[.pointer (some (at0 g 0)), .pointer (some (at0 x.h 0)), .pointer (some (at0 gr 0))]) w') :
    ∀ (f i : Nat) (fh fr : List Nat) (w : World), 5 - i < f → i ≤ 5 → PH w x fh node (i : Int) (objs i) → PR w xr fr node (i : Int) (objs i) → Blk w g2 c.cells 27 → g2 ∉ fh → g2 ∉ fr → (∀ y ∈ fh, y ∉ fr) → Fr [] W w → (∀ y ∈ fh, W.heap.size ≤ y) → (∀ y ∈ fr, W.heap.size ≤ y) → X8.l0 Q f (at0 g2 0) (some (at0 x.h 0)) (some (at0 xr.h 0)) (i : Int) w
  | 0, i, fh, fr, w, hf, _, _, _, _, _, _, _, _, _, _ => absurd hf (Nat.not_lt_zero _)
  | f + 1, i, fh, fr, w, hf, hi, P, R, B, n1, n2, dj, F, nf, nr => by
    rw [X8.l0]
    refine bc_dec (fun hlt => ?_) (fun hge => ?_)
    · have hi5 : i < 5 := by omega
      have ei : IntKind.wrap .i64 ((i : Int) + 1) = ((i + 1 : Nat) : Int) := by rw [i64w ((i : Int) + 1) (by omega) (by omega)]; omega
      have mo := makeO_objs (n := i) (by omega)
      have z := F.size
      refine make_spec P ?_
      rw [mo]
      intro fh2 w2 P2 f2 e2
      refine ⟨_, _, rfl, rmake_spec (R.keep f2 (fun y hy hm => dj y hm hy)) ?_⟩
      rw [mo]
      intro fr6 w6 R6 f6 e6
      refine ⟨_, _, rfl, ?_⟩
      rw [ei]
      have z2 := f2.size
      have lh := P.lt
      have lr := R.lt
      have lb := B.lt
      have dj2 : ∀ y ∈ fh2, y ∉ fr := fun y hy hm => by
        rcases e2 y hy with h | h
        · exact dj y h hm
        · have := lr y hm
          omega
      have lh2 := P2.lt
      refine yard_l0 hmay hn1 hn2 hQ f (i + 1) fh2 fr6 w6 (by omega) (by omega) (P2.keep f6 dj2) R6 ((B.keep f2 n1).keep f6 n2) (fun hm => ?_) (fun hm => ?_) (fun y hy hm => ?_) ?_ (fun y hy => ?_) (fun y hy => ?_)
      · rcases e2 _ hm with h | h
        · exact n1 h
        · omega
      · rcases e6 _ hm with h | h
        · exact n2 h
        · omega
      · rcases e6 _ hm with h | h
        · exact dj2 y hy h
        · have := lh2 y hy
          omega
      · exact (F.trans f2 (fun y hy => .inr (nf y hy))).trans f6 (fun y hy => .inr (nr y hy))
      · rcases e2 y hy with h | h
        · exact nf y h
        · omega
      · rcases e6 y hy with h | h
        · exact nr y h
        · omega
    · have hi5 : i = 5 := by omega
      subst hi5
      have z := F.size
      have lh := P.lt
      have lr := R.lt
      refine ld_Cfg (s := c) B.cat (snew_spec hmay P hn2 fun g ft w32 P32 f32 e32 => ⟨_, _, rfl, bc_ne (fun e => absurd rfl e) (fun _ => bc_bool (fun e => by cases e) (fun _ => ?_))⟩)
      have R32 := R.keep' f32
      refine ld_Cfg (s := c) (B.keep' f32).cat (rsnew_spec hmay R32 hn2 fun gr w58 B58 f58 h58 => ⟨_, rfl, ?_⟩)
      have z32 := f32.size
      have l32 := P32.lt
      refine hQ g x ft gr xr fr w58 (P32.keep' f58) (R32.keep' f58) B58 (fun y hy hm => ?_) (fun hm => by have := l32 _ hm; omega) (fun hm => by have := lr _ hm; omega) (F.tr (f32.tr f58)) (fun y hy => ?_) nr (by omega)
      · rcases e32 y hy with h | h
        · exact dj y h hm
        · have := lr y hm
          omega
      · rcases e32 y hy with h | h
        · exact nf y h
        · omega
theorem yard_spec (hmay : mayB c = true) (hn1 : 1 ≤ node) (hn3 : node ≤ 64) (hn2 : node ≤ c.nodes)
    (hQ : ∀ g x ft gr xr fr w', PS w' g x ft (sc0 c node) → PR w' xr fr node 5 (objs 5) → Blk w' gr (rscells c xr.h 1048576 none 0 0 none 0 0 none 0 0 0) 82 → (∀ y ∈ ft, y ∉ fr) → gr ∉ ft → gr ∉ fr → Fr [] W w' → (∀ y ∈ ft, W.heap.size ≤ y) → (∀ y ∈ fr, W.heap.size ≤ y) → W.heap.size ≤ gr → Q (.tuple #[.pointer (some (at0 g 0)), .pointer (some (at0 x.h 0)), .pointer (some (at0 gr 0))]) w') :
    CallR Tryz.prog 8 #[c.val, .int .i64 node] W Q := by
  apply X8.sound
  unfold X8.f
  refine newB fun g1 w2 b2 f2 h2 => heapNew_spec hn1 hn3 fun x fh w4 P4 f4 e4 => ⟨_, _, rfl, rnew_spec hn1 hn3 fun xr fr w8 R8 f8 e8 => ⟨_, rfl, bc_ne (fun e => absurd rfl e) (fun _ => bc_bool (fun e => by cases e) (fun _ => bc_bool (fun e => by cases e) (fun _ => ?_)))⟩⟩
  have b2 : Blk w2 g1 c.cells 27 := b2
  have z2 := f2.size
  have z4 := f4.size
  have lb := b2.lt
  have lh := P4.lt
  unfold X8.j1
  exact ⟨6, yard_l0 hmay hn1 hn2 hQ 6 0 fh fr w8 (by omega) (by omega) (P4.keep' f8) R8 (b2.keep' (f4.tr f8)) (fun hm => by have := e4 _ hm; omega) (fun hm => by have := e8 _ hm; omega) (fun y hy hm => by have := e8 _ hm; have := lh y hy; omega) (f2.tr (f4.tr f8)) (fun y hy => by have := e4 y hy; omega) (fun y hy => by have := e8 y hy; omega)⟩
end
end Go.Proofs.YtnjmkhhaodgpbaaGreatX
namespace Go.Proofs.YtnjmkhhaodgpbaaGreatX
open Go.RowKit
set_option maxRecDepth 100000
abbrev dmsg (f t s q v d : Int) : Msg := ⟨4, f, t, 0, 0, 0, 0, 0, t, s, [], 0, 0, q, v, 5, d, 0, []⟩
abbrev cmsg (f t s q : Int) : Msg := ⟨6, f, t, 0, 0, 0, 0, 0, t, s, [], 0, 0, q, 0, 0, 0, 0, []⟩
theorem MM_nil {w : World} {m : Msg} (h1 : m.refs = []) (h2 : m.list = []) : MM w m none 0 none 0 := by
  refine ⟨?_, by rw [h1]; simp, fun _ => rfl, by rw [h1]; simp, ?_, by rw [h2]; simp, fun _ => rfl, by rw [h2]; simp⟩
  · rw [h1]; exact fun j u hj => by simp at hj
  · rw [h2]; exact fun j u hj => by simp at hj
theorem right_dmsg {f t s q v d : Int} (hf : 1 ≤ f ∧ f ≤ 64) (ht : 1 ≤ t ∧ t ≤ 64) (hne : f ≠ t) (hs : okSerial s) (hq : okSerial q) (hv : 1 ≤ v ∧ v ≤ 64) (hd : 1 ≤ d ∧ d ≤ 40) : Right (dmsg f t s q v d) := by
  rw [right_iff]
  obtain ⟨s1, s2⟩ := hs
  obtain ⟨q1, q2⟩ := hq
  simp [RightR, numbersR, numberR, serialR, targetR, aimsNone, noID, okID, okSerial, rise_nil, show hasF 4 0 = false by decide, show hasF 4 1 = false by decide, show hasF 4 2 = false by decide, show hasF 4 3 = false by decide, show hasF 4 4 = false by decide, show hasF 4 5 = true by decide, show hasF 4 6 = true by decide, show hasF 4 7 = true by decide, show hasF 4 8 = true by decide, show hasF 4 9 = true by decide, show hasF 4 10 = false by decide]
  omega
theorem right_cmsg {f t s q : Int} (hf : 1 ≤ f ∧ f ≤ 64) (ht : 1 ≤ t ∧ t ≤ 64) (hne : f ≠ t) (hs : okSerial s) (hq : okSerial q) : Right (cmsg f t s q) := by
  rw [right_iff]
  obtain ⟨s1, s2⟩ := hs
  obtain ⟨q1, q2⟩ := hq
  simp [RightR, numbersR, numberR, serialR, targetR, aimsNone, noID, okID, okSerial, rise_nil, show hasF 6 0 = false by decide, show hasF 6 1 = false by decide, show hasF 6 2 = false by decide, show hasF 6 3 = false by decide, show hasF 6 4 = false by decide, show hasF 6 5 = true by decide, show hasF 6 6 = true by decide, show hasF 6 7 = false by decide, show hasF 6 8 = false by decide, show hasF 6 9 = false by decide, show hasF 6 10 = false by decide]
  omega
section
variable {w w' W : World} {Q : QT} {g gt bm : Nat} {x : HB} {ft fh F : List Nat} {S S' : Sc} {s d now k : Int} {r r' : Scn} {m : Msg} {os : List (Int × Int)}
theorem dmsg_spec {f t s q v d : Int} (hQ : ∀ w', Fr [] w w' → Q (msgV (dmsg f t s q v d) none 0 none 0) w') : CallR Tryz.prog 18 #[.int .i64 f, .int .i64 t, .int .u64 s, .int .u64 q, .int .i64 v, .int .i64 d] w Q := by
  apply X18.sound
  unfold X18.f
  refine newB fun g1 w2 b2 f2 h2 => ?_
  refine stAllB (vs := (dmsg f t s q v d).cells none 0 none 0) b2 rfl fun w9 b9 f9 => ld_msgA (m := dmsg f t s q v d) b9 ?_
  exact hQ _ (f2.trans f9 (fun y hy => .inr (by simp at hy; omega)))
theorem in_spec' (t : PH w x fh d now os) (h0 : 0 ≤ s) (h1 : s ≤ 18446744073709551615) (hQ : ∀ w', Fr [] w w' → Q (.int .i64 (inO os s)) w') : CallR Tryz.prog 16 #[.pointer (some (at0 x.h 0)), .int .u64 s] w Q := by
  apply X16.sound
  unfold X16.f
  refine object_spec t h0 h1 fun w2 ser cell rp rn rc vp vn vc f2 => ⟨_, _, _, _, _, _, _, _, _, _, rfl, newB fun g9 w10 b10 f10 h10 => ?_⟩
  refine stAllB (vs := Obj.cells ⟨ser, cell, rp, rn, rc, vp, vn, vc, inO os s⟩) b10 rfl fun w11 b11 f11 => ?_
  have z2 := f2.size
  refine ld_int (b11.cat 4 _ rfl) ?_
  exact hQ _ ((f2.tr f10).trans f11 (fun y hy => .inr (by simp at hy; omega)))
theorem inS_spec (t : PS w g x ft S) (h0 : 0 ≤ s) (h1 : s ≤ 18446744073709551615) (hQ : ∀ w', Fr [] w w' → Q (.int .i64 (inO S.os s)) w') : CallR Tryz.prog 16 #[.pointer (some (at0 x.h 0)), .int .u64 s] w Q := by
  obtain ⟨fh, gt, bm, rt, t⟩ := t
  exact in_spec' t.heap h0 h1 hQ
theorem scn_same (hQ : ∀ w', Fr [] w w' → Q (.bool (decide (r = r'))) w') : CallR Tryz.prog 32 #[r.val, r'.val] w Q := by
  apply X32.sound
  unfold X32.f
  refine newB fun g1 w2 b2 f2 h2 => newB fun g3 w4 b4 f4 h4 => ?_
  have F4 := f2.tr f4
  have b2' := b2.keep' f4
  have hq := hQ w4 F4
  have no : r ≠ r' → Q (.bool false) w4 := fun h => by rw [decide_eq_false h] at hq; exact hq
  obtain ⟨a1, a2, a3, a4, a5, a6⟩ := r
  obtain ⟨c1, c2, c3, c4, c5, c6⟩ := r'
  refine ld_int (b2'.cat 0 _ rfl) (ld_int (b4.cat 0 _ rfl) (bc_eq (fun h1 => ?_) (fun h => no (fun e => h (by injection e)))))
  refine ld_int (b2'.cat 1 _ rfl) (ld_int (b4.cat 1 _ rfl) (bc_eq (fun h2 => ?_) (fun h => no (fun e => h (by injection e)))))
  refine ld_bool (b2'.cat 2 _ rfl) (ld_bool (b4.cat 2 _ rfl) (bc_bool (fun h3 => ?_) (fun h => no (fun e => by injection e with _ _ e3; rw [e3] at h; simp at h))))
  refine ld_int (b2'.cat 3 _ rfl) (ld_int (b4.cat 3 _ rfl) (bc_eq (fun h4 => ?_) (fun h => no (fun e => h (by injection e)))))
  refine ld_int (b2'.cat 4 _ rfl) (ld_int (b4.cat 4 _ rfl) (bc_eq (fun h5 => ?_) (fun h => no (fun e => h (by injection e)))))
  refine ld_int (b2'.cat 5 _ rfl) (ld_int (b4.cat 5 _ rfl) ?_)
  have h3' : a3 = c3 := by simpa using h3
  simp only at h1 h2 h4 h5
  subst h1 h2 h3' h4 h5
  have e : decide ((⟨a1, a2, a3, a4, a5, a6⟩ : Scn) = ⟨a1, a2, a3, a4, a5, c6⟩) = (a6 == c6) := by
    by_cases h : a6 = c6
    · subst h; simp
    · rw [decide_eq_false (fun e => h (by injection e))]
      symm
      simpa using h
  rw [e] at hq
  exact hq
end
end Go.Proofs.YtnjmkhhaodgpbaaGreatX
namespace Go.Proofs.YtnjmkhhaodgpbaaGreatX
open Go.RowKit
set_option maxRecDepth 100000
structure ST (W w : World) (g : Nat) (x : HB) (ft : List Nat) (S : Sc) (L : List Nat) : Prop where
  P : PS w g x ft S
  F : Fr [] W w
  nf : ∀ y ∈ ft, W.heap.size ≤ y
  L : ∀ b ∈ L, W.heap.size ≤ b ∧ b < w.heap.size ∧ b ∉ ft
section
variable {w w' W : World} {Q : QT} {g gt bm : Nat} {x : HB} {ft ft' fh F L : List Nat} {S S' : Sc} {s d now k : Int} {r : Scn} {m : Msg} {b : Nat} {pin : Bool} {cs vs : List Value} {e : TypeId}
theorem ST.next (h : ST W w g x ft S L) (P : PS w' g x ft' S') (f : Fr ft w w') (e : ∀ y ∈ ft', y ∈ ft ∨ w.heap.size ≤ y) : ST W w' g x ft' S' L := by
  have z := h.F.size
  have z2 := f.size
  refine ⟨P, h.F.trans f (fun y hy => .inr (h.nf y hy)), fun y hy => ?_, fun b hb => ?_⟩
  · rcases e y hy with h' | h'
    · exact h.nf y h'
    · omega
  · obtain ⟨h1, h2, h3⟩ := h.L b hb
    refine ⟨h1, by omega, fun hm => ?_⟩
    rcases e b hm with h' | h'
    · exact h3 h'
    · omega
theorem ST.keep (h : ST W w g x ft S L) (f : Fr [] w w') : ST W w' g x ft S L := ⟨h.P.keep' f, h.F.tr f, h.nf, fun b hb => by obtain ⟨h1, h2, h3⟩ := h.L b hb; have := f.size; exact ⟨h1, by omega, h3⟩⟩
theorem ST.add (h : ST W w g x ft S L) (B : Blk w b cs e) (h1 : W.heap.size ≤ b) (h2 : b ∉ ft) : ST W w g x ft S (b :: L) := ⟨h.P, h.F, h.nf, fun c hc => by
  rcases List.mem_cons.1 hc with rfl | hc
  · exact ⟨h1, B.lt, h2⟩
  · exact h.L c hc⟩
theorem ST.new (h : ST W w g x ft S L) {w2 w3 : World} (f : Fr [] w w2) (hg : w.heap.size ≤ b) (B : Blk w3 b vs e) (f3 : Fr [b] w2 w3) : ST W w3 g x ft S (b :: L) ∧ Fr [] w w3 := by
  have F3 : Fr [] w w3 := f.trans f3 (fun y hy => .inr (by simp at hy; omega))
  refine ⟨(h.keep F3).add B (by have := h.F.size; omega) (fun hm => by have := h.P.lt b hm; omega), F3⟩
theorem ST.off (h : ST W w g x ft S L) (hb : b ∈ L) : b ∉ ft := (h.L b hb).2.2
def GoS (W w : World) (g : Nat) (x : HB) (ft : List Nat) (S' : Sc) (L : List Nat) (v : Value) (Q : QT) : Prop := ∀ ft' w', ST W w' g x ft' S' L → Fr ft w w' → Q v w'
theorem dirtyL (h : ST W w g x ft S L) (hl : m.refs = [] ∧ m.list = []) (hm : mineS S m 4) (ho : hasO S.os m.ts = true) {r : Msg} {a b : Bool} (he : askedS S m pin now = (S', r, a, b)) (hQ : GoS W w g x ft S' L (res3 r a b) Q) :
    CallR Tryz.prog 19 #[.pointer (some (at0 g 0)), msgV m none 0 none 0, .bool pin, .int .u64 now] w Q := by
  refine dirty_spec h.P (MM_nil hl.1 hl.2) ?_
  unfold dirtyS
  rw [if_pos hm, if_pos ho, he]
  intro ft' w' P f e
  exact hQ ft' w' (h.next P f e) f
theorem cleanL (h : ST W w g x ft S L) (hl : m.refs = [] ∧ m.list = []) (hm : mineS S m 6) {r : Msg} {b : Bool} (he : cleanR S m = (S', r, b)) (hQ : GoS W w g x ft S' L (res2 r b) Q) :
    CallR Tryz.prog 22 #[.pointer (some (at0 g 0)), msgV m none 0 none 0] w Q := by
  refine clean_spec h.P (MM_nil hl.1 hl.2) ?_
  unfold cleanS
  rw [if_pos hm, he]
  intro ft' w' P f e
  exact hQ ft' w' (h.next P f e) f
theorem inL (h : ST W w g x ft S L) (h0 : 0 ≤ s) (h1 : s ≤ 18446744073709551615) {d : Int} (he : inO S.os s = d) (hQ : ∀ w', ST W w' g x ft S L → Fr [] w w' → Q (.int .i64 d) w') : CallR Tryz.prog 16 #[.pointer (some (at0 x.h 0)), .int .u64 s] w Q := by
  subst he
  exact inS_spec h.P h0 h1 fun w' f => hQ w' (h.keep f) f
theorem dmsgL (h : ST W w g x ft S L) {f t s q v d : Int} (hQ : ∀ w', ST W w' g x ft S L → Fr [] w w' → Q (msgV (dmsg f t s q v d) none 0 none 0) w') : CallR Tryz.prog 18 #[.int .i64 f, .int .i64 t, .int .u64 s, .int .u64 q, .int .i64 v, .int .i64 d] w Q := dmsg_spec fun w' f => hQ w' (h.keep f) f
theorem yardL {c : Cfg} {node : Int} (hmay : mayB c = true) (hn1 : 1 ≤ node) (hn3 : node ≤ 64) (hn2 : node ≤ c.nodes) (hQ : ∀ g x ft gr w', ST W w' g x ft (sc0 c node) [] → Fr [] W w' → Q (.tuple #[.pointer (some (at0 g 0)), .pointer (some (at0 x.h 0)), .pointer (some (at0 gr 0))]) w') :
    CallR Tryz.prog 8 #[c.val, .int .i64 node] W Q :=
  yard_spec hmay hn1 hn3 hn2 fun g x ft gr xr fr w' P R B d1 d2 d3 F n1 n2 n3 => hQ g x ft gr w' ⟨P, F, n1, by simp⟩ F
theorem mine_d {f s q v d : Int} (hn : 1 ≤ S.node ∧ S.node ≤ 64) (hf : 1 ≤ f ∧ f ≤ S.c.nodes) (hc : S.c.nodes ≤ 64) (hne : f ≠ S.node) (hs : okSerial s) (hq : okSerial q) (hv : 1 ≤ v ∧ v ≤ 64) (hd : 1 ≤ d ∧ d ≤ 40) {t : Int} (ht : t = S.node) : mineS S (dmsg f t s q v d) 4 := by
  subst ht
  exact ⟨rfl, right_dmsg ⟨hf.1, by omega⟩ hn hne hs hq hv hd, rfl, hf.2, rfl⟩
theorem mine_c {f s q : Int} (hn : 1 ≤ S.node ∧ S.node ≤ 64) (hf : 1 ≤ f ∧ f ≤ S.c.nodes) (hc : S.c.nodes ≤ 64) (hne : f ≠ S.node) (hs : okSerial s) (hq : okSerial q) {t : Int} (ht : t = S.node) : mineS S (cmsg f t s q) 6 := by
  subst ht
  exact ⟨rfl, right_cmsg ⟨hf.1, by omega⟩ hn hne hs hq, rfl, hf.2, rfl⟩
theorem okS {n : Int} (h1 : 1 ≤ n) (h2 : n ≤ 72057594037927935) : okSerial n := ⟨h1, h2⟩
def rawN (n : Int) : Raw := ⟨n, 0, 0, 0, 0, 0, 0, 0, 0, 0, 0, 0, 0, 0, 0, 0, 0, 0, 0, 0, 0, 0⟩
theorem rawN_ok (n : Int) : RawW (rawN n) := ⟨Int.le_refl 0, Int.le_refl 0⟩
theorem conf_nodes (r : Raw) : 2 ≤ (configOf r).nodes ∧ (configOf r).nodes ≤ 4 := by
  have a0 := md (n := r.nodes) (m := 3) (by omega)
  show 2 ≤ 2 + r.nodes % 3 ∧ 2 + r.nodes % 3 ≤ 4
  omega
theorem known_spec (hQ : ∀ w', Fr [] W w' → Q (.bool true) w') : CallR Tryz.prog 10 #[] W Q := by
  apply X10.sound
  unfold X10.f
  have cn := conf_nodes (rawN 0)
  refine config_spec (r := rawN 0) fun w2 f2 => ⟨_, _, _, _, _, _, _, _, _, _, _, _, _, _, _, _, _, _, _, _, _, _, rfl, ?_⟩
  have hmay := may_config (rawN_ok 0)
  generalize hc : configOf (rawN 0) = c at *
  refine yardL (c := c) hmay (by omega) (by omega) (by omega) fun g x ft gr w26 T26 f26 => ⟨_, _, _, rfl, bc_bool (fun e => by cases e) (fun _ => ?_)⟩
  have hn : ∀ {S : Sc}, S.node = 2 → 1 ≤ S.node ∧ S.node ≤ 64 := fun h => by omega
  refine dmsgL T26 fun w31 T31 f31 => ⟨_, _, _, _, _, _, _, _, _, _, _, _, _, _, _, _, _, _, _, _, _, _, _, rfl, ?_⟩
  refine dirtyL T31 ⟨rfl, rfl⟩ (mine_d ⟨by show (1 : Int) ≤ 2; omega, by show (2 : Int) ≤ 64; omega⟩ ⟨by omega, by show (1 : Int) ≤ c.nodes; omega⟩ (by show c.nodes ≤ 64; omega) (by show (1 : Int) ≠ 2; omega) (okS (by omega) (by omega)) (okS (by omega) (by omega)) ⟨by omega, by omega⟩ ⟨by omega, by omega⟩ rfl) (by rfl)
    (show askedS (sc0 c 2) (dmsg 1 2 5 1 2 3) false 10 = (⟨c, 2, 5, objs 5, [(641, ⟨5, 1, false, 1, 10, 3⟩)], [], 0⟩, toldM (dmsg 1 2 5 1 2 3) 4, false, true) by kernel_rfl) fun ft1 w52 T52 f52 => ⟨_, _, _, _, _, _, _, _, _, _, _, _, _, _, _, _, _, _, _, _, _, _, _, _, _, rfl, newB fun g74 w75 b75 f75 h75 => ?_⟩
  refine stAllB (vs := (toldM (dmsg 1 2 5 1 2 3) 4).cells none 0 none 0) b75 rfl fun w76 b76 f76 => ?_
  obtain ⟨T76, F76⟩ := T52.new f75 h75 b76 f76
  refine dmsgL T76 fun w78 T78 f78 => ⟨_, _, _, _, _, _, _, _, _, _, _, _, _, _, _, _, _, _, _, _, _, _, _, rfl, ?_⟩
  have c78 := b76.keep' f78
  refine dirtyL T78 ⟨rfl, rfl⟩ (mine_d ⟨by show (1 : Int) ≤ 2; omega, by show (2 : Int) ≤ 64; omega⟩ ⟨by omega, by show (1 : Int) ≤ c.nodes; omega⟩ (by show c.nodes ≤ 64; omega) (by show (1 : Int) ≠ 2; omega) (okS (by omega) (by omega)) (okS (by omega) (by omega)) ⟨by omega, by omega⟩ ⟨by omega, by omega⟩ rfl) (by rfl)
    (show askedS ⟨c, 2, 5, objs 5, [(641, ⟨5, 1, false, 1, 10, 3⟩)], [], 0⟩ (dmsg 1 2 5 2 2 3) true 10 = (⟨c, 2, 5, [(1, 0), (2, 0), (3, 0), (4, 0), (5, 3)], [(641, ⟨5, 1, true, 2, 10, 3⟩)], [], 0⟩, toldM (dmsg 1 2 5 2 2 3) 0, true, true) by kernel_rfl) fun ft2 w99 T99 f99 => ⟨_, _, _, _, _, _, _, _, _, _, _, _, _, _, _, _, _, _, _, _, _, _, _, _, _, rfl, newB fun g121 w122 b122 f122 h122 => ?_⟩
  have c99 := c78.keep f99 (T78.off (by simp))
  refine stAllB (vs := (toldM (dmsg 1 2 5 2 2 3) 0).cells none 0 none 0) b122 rfl fun w123 b123 f123 => ?_
  obtain ⟨T123, F123⟩ := T99.new f122 h122 b123 f123
  have c123 := c99.keep' F123
  refine inL T123 (by omega) (by omega) (d := 3) (by rfl) fun w125 T125 f125 => ⟨_, rfl, ?_⟩
  have d125 := b123.keep' f125
  have c125 := c123.keep' f125
  refine cleanL (m := cmsg 1 2 5 3) T125 ⟨rfl, rfl⟩ (mine_c ⟨by show (1 : Int) ≤ 2; omega, by show (2 : Int) ≤ 64; omega⟩ ⟨by omega, by show (1 : Int) ≤ c.nodes; omega⟩ (by show c.nodes ≤ 64; omega) (by show (1 : Int) ≠ 2; omega) (okS (by omega) (by omega)) (okS (by omega) (by omega)) rfl)
    (show cleanR ⟨c, 2, 5, [(1, 0), (2, 0), (3, 0), (4, 0), (5, 3)], [(641, ⟨5, 1, true, 2, 10, 3⟩)], [], 0⟩ (cmsg 1 2 5 3) = (⟨c, 2, 5, objs 5, [(641, ⟨5, 1, false, 3, 10, 3⟩)], [], 0⟩, cleanedM (cmsg 1 2 5 3), true) by kernel_rfl) fun ft3 w128 T128 f128 => ⟨_, _, _, _, _, _, _, _, _, _, _, _, _, _, _, _, _, _, _, _, _, _, _, _, rfl, newB fun g149 w150 b150 f150 h150 => ?_⟩
  have c128 := c125.keep f128 (T125.off (by simp))
  have d128 := d125.keep f128 (T125.off (by simp))
  refine stAllB (vs := (cleanedM (cmsg 1 2 5 3)).cells none 0 none 0) b150 rfl fun w151 b151 f151 => ?_
  obtain ⟨T151, F151⟩ := T128.new f150 h150 b151 f151
  have c151 := c128.keep' F151
  have d151 := d128.keep' F151
  refine ld_int (c151.cat 12 _ rfl) (bc_eqt' rfl (bc_bool (fun _ => bc_bool (fun _ => ?_) (fun e => by cases e)) (fun e => by cases e)))
  refine ld_int (d151.cat 12 _ rfl) (bc_eqt' rfl (ld_int (d151.cat 0 _ rfl) (bc_eqt' rfl (ld_int (d151.cat 15 _ rfl) (bc_eqt' rfl (bc_bool (fun _ => bc_bool (fun _ => bc_eqt' rfl (bc_bool (fun _ => ?_) (fun e => by cases e))) (fun e => by cases e)) (fun e => by cases e)))))))
  refine ld_int (b151.cat 0 _ rfl) (bc_eqt' rfl (inL T151 (by omega) (by omega) (d := 0) (by rfl) fun w158 T158 f158 => ⟨_, rfl, ?_⟩))
  exact hQ w158 (f2.tr T158.F)
end
end Go.Proofs.YtnjmkhhaodgpbaaGreatX
