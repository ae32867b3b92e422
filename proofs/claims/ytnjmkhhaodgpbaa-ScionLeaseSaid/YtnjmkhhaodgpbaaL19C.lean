/- Who holds an owner's objects: Clean; a table made. -/
import Derived.Test.YtnjmkhhaodgpbaaL19Y
namespace Go.Proofs.YtnjmkhhaodgpbaaX
open Go.RowKit
set_option linter.unusedVariables false
set_option linter.unusedSimpArgs false
set_option maxRecDepth 100000
abbrev res2 (m : Msg) (b : Bool) : Value := .tuple #[msgV m none 0 none 0, .bool b]
abbrev withS (r : Scn) (m : Msg) : Scn := ⟨r.serial, r.holder, false, m.seq, r.at_, r.dist⟩
section
variable {w w' W : World} {Q : Value → World → Prop} {g gt bm : Nat} {x : HB} {ft ft' fh fh' rt rt' F : List Nat} {S S' : Sc} {s d now k : Int} {r : Scn} {m : Msg} {rp lp : Option Addr} {rc lc : Nat} {pin : Bool} {b : Nat} {v : Value} {t3 t4 t6 : Nat} {o : Option Scn}
structure CC (W w : World) (g : Nat) (x : HB) (ft : List Nat) (S : Sc) (t3 t4 t6 : Nat) (r : Scn) (m : Msg) (rp : Option Addr) (rc : Nat) (lp : Option Addr) (lc : Nat) : Prop where
  P : PS w g x ft S
  b3 : Blk w t3 (m.cells rp rc lp lc) 40
  b4 : ∃ cs, Blk w t4 cs 40 ∧ cs.length = 19
  b6 : Blk w t6 r.cells 53
  F : Fr ft W w
  out : t3 ∉ ft ∧ t4 ∉ ft ∧ t6 ∉ ft
  n34 : t3 ≠ t4
  new : W.heap.size ≤ t4 ∧ W.heap.size ≤ t6
theorem CC.keep' (h : CC W w g x ft S t3 t4 t6 r m rp rc lp lc) (f : Fr [] w w') : CC W w' g x ft S t3 t4 t6 r m rp rc lp lc := by
  obtain ⟨cs, b4, hl⟩ := h.b4
  exact ⟨h.P.keep' f, h.b3.keep' f, ⟨cs, b4.keep' f, hl⟩, h.b6.keep' f, h.F.tr f.any, h.out, h.n34, h.new⟩
theorem CC.c8 (h : CC W w g x ft S t3 t4 t6 r m rp rc lp lc) : w.cell? (((at0 t3 0).add 8).add 0) = some (.int .i64 m.tn) := by rw [add_add]; exact h.b3.cat 8 _ rfl
theorem CC.c9 (h : CC W w g x ft S t3 t4 t6 r m rp rc lp lc) : w.cell? (((at0 t3 0).add 8).add 1) = some (.int .u64 m.ts) := by rw [add_add]; exact h.b3.cat 9 _ rfl
theorem clean_j0f (h : CC W w g x ft S t3 t4 t6 r m rp rc lp lc) (hQ : AftS W g x ft S (res2 (cleanedM m) true) Q) : X14.j0 Q (some (at0 g 0)) (at0 t3 0) (at0 t4 0) (at0 t6 0) false w := by
  unfold X14.j0
  refine bc_bool (fun e => by cases e) (fun _ => ld_int (h.b3.cat 2 _ rfl) (ld_int (h.b3.cat 1 _ rfl) (ld_int h.c8 (ld_int h.c9 (ld_int (h.b3.cat 13 _ rfl) ?_)))))
  obtain ⟨cs, b8, hl⟩ := h.b4
  refine stAllB (vs := (cleanedM m).cells none 0 none 0) b8 hl.symm fun w22 b22 f22 => ld_msgA (m := cleanedM m) b22 ?_
  exact hQ.done h.P h.F (fun y hy => .inl hy) f22 h.new.1 h.out.2.1
theorem clean_j0t (h : CC W w g x ft S t3 t4 t6 r m rp rc lp lc) (hr : okRow (withS r m)) (hQ : AftS W g x ft (putS S (withS r m)) (res2 (cleanedM m) true) Q) : X14.j0 Q (some (at0 g 0)) (at0 t3 0) (at0 t4 0) (at0 t6 0) true w := by
  unfold X14.j0
  refine bc_bool (fun _ => drawn fun w1 f1 _ => ?_) (fun e => by cases e)
  have h1 := h.keep' f1
  refine ld_int (h1.b3.cat 13 _ rfl) (stB (i := 2) h1.b6 (show 2 < 6 by omega) fun w3 b6 f3 => ?_)
  have n63 : t3 ≠ t6 := h1.b3.ne h1.b6 (by decide)
  have n64 : t4 ≠ t6 := by
    obtain ⟨cs, b4, _⟩ := h1.b4
    exact b4.ne h1.b6 (by decide)
  have b3 := h1.b3.off1 n63 f3
  refine ⟨⟨h1.b3.cat 13 _ rfl, b3.cat 13 _ rfl⟩, stB (i := 3) b6 (show 3 < 6 by omega) fun w4 b6' f4 => ?_⟩
  have b6' : Blk w4 t6 (withS r m).cells 53 := b6'
  have f14 : Fr [t6] w1 w4 := f3.tr f4
  have P4 := h1.P.keep f14 (fun y hy hm => h.out.2.2 (by simp at hm; rwa [← hm]))
  have b3' := h1.b3.off1 n63 f14
  have F4 : Fr ft W w4 := h1.F.trans f14 (fun y hy => .inr (by have := h.new.2; simp at hy; omega))
  obtain ⟨cs, b4, hl⟩ := h1.b4
  have b4' := b4.off1 n64 f14
  refine ld_Scn (s := withS r m) b6'.cat (put_spec P4 hr fun ft2 w12 P12 f12 e12 => ⟨rfl, ?_⟩)
  have c3 := b3'.keep f12 h.out.1
  have c4 := b4'.keep f12 h.out.2.1
  have c8 : w12.cell? (((at0 t3 0).add 8).add 0) = some (.int .i64 m.tn) := by rw [add_add]; exact c3.cat 8 _ rfl
  have c9 : w12.cell? (((at0 t3 0).add 8).add 1) = some (.int .u64 m.ts) := by rw [add_add]; exact c3.cat 9 _ rfl
  have z4 := F4.size
  refine ld_int (c3.cat 2 _ rfl) (ld_int (c3.cat 1 _ rfl) (ld_int c8 (ld_int c9 (ld_int (c3.cat 13 _ rfl) ?_))))
  refine stAllB (vs := (cleanedM m).cells none 0 none 0) c4 hl.symm fun w22 b22 f22 => ld_msgA (m := cleanedM m) b22 ?_
  exact hQ.done P12 (F4.tr f12) (fun y hy => (e12 y hy).imp_right fun h => by omega) f22 h.new.1 (fun hm => by
    rcases e12 _ hm with h' | h'
    · exact h.out.2.1 h'
    · have := b4'.lt
      omega)
theorem clean_j1 (h : CC W w g x ft S t3 t4 t6 (o.getD scnZ) m rp rc lp lc) (hm : mineS S m 6) (ho : get ilt S.rows (keyS m.ts m.frm) = o) (h1 : ∀ r, o = some r → ¬ r.seq > m.seq) (hQ : AftS W g x ft (cleanR S m).1 (res2 (cleanR S m).2.1 (cleanR S m).2.2) Q) :
    X14.j1 Q (some (at0 g 0)) (at0 t3 0) (at0 t4 0) (at0 t6 0) o.isSome w := by
  unfold X14.j1
  refine drawn fun w1 f1 _ => ?_
  have h1' := h.keep' f1
  have R := h.P.ri
  obtain ⟨hts, hfr⟩ := mine6 hm
  obtain ⟨fh, gt, bm, rt, P1⟩ := h1'.P
  unfold cleanR at hQ
  rw [ho] at hQ
  have fin : ∀ {w15 : World}, Fr [] w1 w15 → bcase (!o.isSome) (bcase (hasO S.os m.ts) (ldI .u64 w15 (((at0 t3 0).add 8).add 1) fun x16 => ldI .i64 w15 ((at0 t3 0).add 1) fun x17 => stAll w15 (at0 t6 0) [.int .u64 x16, .int .i64 x17, .bool false, .int .u64 (0 : Int), .int .u64 (0 : Int), .int .i64 (0 : Int)] fun w18 => X14.j0 Q (some (at0 g 0)) (at0 t3 0) (at0 t4 0) (at0 t6 0) true w18) (X14.j0 Q (some (at0 g 0)) (at0 t3 0) (at0 t4 0) (at0 t6 0) o.isSome w15)) (X14.j0 Q (some (at0 g 0)) (at0 t3 0) (at0 t4 0) (at0 t6 0) o.isSome w15) := by
    intro w15 f15
    have h15 := h1'.keep' f15
    cases o with
    | none =>
      simp only [] at hQ
      refine bc_bool (fun _ => bc_bool (fun hh => ?_) (fun hh => ?_)) (fun e => by cases e)
      · rw [if_pos hh] at hQ
        refine ld_int h15.c9 (ld_int (h15.b3.cat 1 _ rfl) (stAllB (vs := Scn.cells ⟨m.ts, m.frm, false, 0, 0, 0⟩) h15.b6 rfl fun w18 b18 f18 => ?_))
        have n63 : t3 ≠ t6 := h15.b3.ne h15.b6 (by decide)
        obtain ⟨cs, b4, hl⟩ := h15.b4
        have n64 : t4 ≠ t6 := b4.ne h15.b6 (by decide)
        have h18 : CC W w18 g x ft S t3 t4 t6 ⟨m.ts, m.frm, false, 0, 0, 0⟩ m rp rc lp lc := ⟨h15.P.keep f18 (fun y hy hm => h.out.2.2 (by simp at hm; rwa [← hm])), h15.b3.off1 n63 f18, ⟨cs, b4.off1 n64 f18, hl⟩, b18, h15.F.trans f18 (fun y hy => .inr (by have := h.new.2; simp at hy; omega)), h.out, h.n34, h.new⟩
        exact clean_j0t h18 ⟨hts, hfr, by simp⟩ hQ
      · rw [if_neg (by rw [hh]; decide)] at hQ
        exact clean_j0f h15 hQ
    | some q =>
      simp only [] at hQ
      rw [if_neg (h1 q rfl)] at hQ
      refine bc_bool (fun e => by cases e) (fun _ => ?_)
      exact clean_j0t h15 (get_key R ho).1 hQ
  have ts0 : 0 ≤ m.ts := by have := hts.1; omega
  have ts1 : m.ts ≤ 18446744073709551615 := by have := hts.2; omega
  refine ⟨?_, ?_⟩
  · refine opt_some rfl (ld_ptr (P1.cat 22 rfl) (ld_int h1'.c9 (object_spec P1.heap ts0 ts1 fun w62 ser cell rp rn rc vp vn vc f62 => ⟨_, _, _, _, _, _, _, _, _, _, rfl, newB fun g69 w70 b70 f70 h70 => ?_⟩)))
    have c62 := h1'.keep' f62
    have c70 := c62.keep' f70
    have P62 := P1.keep' f62
    have P70 := P62.keep' f70
    have z62 := f62.size
    refine ⟨⟨c62.c9, c70.c9⟩, ⟨P62.cat 22 rfl, P70.cat 22 rfl⟩, stAllB (vs := Obj.cells ⟨ser, cell, rp, rn, rc, vp, vn, vc, inO S.os m.ts⟩) b70 rfl fun w71 b71 f71 => ?_⟩
    exact fin ((f62.tr f70).trans f71 (fun y hy => .inr (by simp at hy; omega)))
  · refine opt_some rfl (ld_ptr (P1.cat 22 rfl) (ld_int h1'.c9 (newB fun g69 w70 b70 f70 h70 => ?_)))
    have c70 := h1'.keep' f70
    have P70 := P1.keep' f70
    refine ⟨⟨h1'.c9, c70.c9⟩, ⟨P1.cat 22 rfl, P70.cat 22 rfl⟩, object_spec P70.heap ts0 ts1 fun w62 ser cell rp rn rc vp vn vc f62 => ⟨_, _, _, _, _, _, _, _, _, _, rfl, ?_⟩⟩
    refine stAllB (vs := Obj.cells ⟨ser, cell, rp, rn, rc, vp, vn, vc, inO S.os m.ts⟩) (b70.keep' f62) rfl fun w71 b71 f71 => ?_
    exact fin ((f70.tr f62).trans f71 (fun y hy => .inr (by simp at hy; omega)))
theorem clean_j2 (h : CC W w g x ft S t3 t4 t6 (o.getD scnZ) m rp rc lp lc) (hm : mineS S m 6) (ho : get ilt S.rows (keyS m.ts m.frm) = o) (hQ : AftS W g x ft (cleanR S m).1 (res2 (cleanR S m).2.1 (cleanR S m).2.2) Q) :
    X14.j2 Q (some (at0 g 0)) (at0 t3 0) (at0 t4 0) (at0 t6 0) o.isSome w := by
  unfold X14.j2
  cases o with
  | none => exact bc_bool (fun e => by cases e) (fun _ => clean_j1 h hm ho (fun r e => by cases e) hQ)
  | some q =>
    refine bc_bool (fun _ => ld_int (h.b6.cat 3 _ rfl) (ld_int (h.b3.cat 13 _ rfl) (bc_dec (fun hh => ?_) (fun hh => ?_)))) (fun e => by cases e)
    · unfold cleanR at hQ
      rw [ho] at hQ
      simp only [] at hQ
      rw [if_pos (show q.seq > m.seq from hh)] at hQ
      obtain ⟨cs, b8, hl⟩ := h.b4
      refine stAllB (vs := msgZ.cells none 0 none 0) b8 hl.symm fun w22 b22 f22 => ld_msgA (m := msgZ) b22 ?_
      exact hQ.done h.P h.F (fun y hy => .inl hy) f22 h.new.1 h.out.2.1
    · exact clean_j1 h hm ho (fun r e => by injection e with e; rw [← e]; exact hh) hQ
theorem clean_spec (t : PS w g x ft S) (hM : MM w m rp rc lp lc) (hQ : AftS w g x ft (cleanS S m).1 (res2 (cleanS S m).2.1 (cleanS S m).2.2) Q) :
    CallR Try.prog 14 #[.pointer (some (at0 g 0)), msgV m rp rc lp lc] w Q := by
  apply X14.sound
  unfold X14.f
  have lt := t.lt
  refine newB fun g1 w2 b1 f2 h2 => newB fun g3 w4 b3 f4 h4 => ?_
  have b1 : Blk w2 g1 (m.cells rp rc lp lc) 40 := b1
  have z2 := f2.size
  have z4 := f4.size
  have F4 := f2.tr f4
  have b1' := b1.keep' f4
  refine ld_msgA (m := m) b1' (mine_spec (t.keep' F4) (hM.keep' F4) fun bo w25 hbo f25 => ⟨_, rfl, bc_bool (fun hb => ?_) (fun hb => ?_)⟩)
  · have hn : ¬ mineS S m 6 := fun h => by rw [hbo.2 h] at hb; cases hb
    unfold cleanS at hQ
    rw [if_neg hn] at hQ
    refine stAllB (vs := msgZ.cells none 0 none 0) (b3.keep' f25) rfl fun w22 b22 f22 => ld_msgA (m := msgZ) b22 ?_
    exact hQ.done (t.keep' (F4.tr f25)) (F4.tr f25).any (fun y hy => .inl hy) f22 (by omega) (fun hm => by have := lt _ hm; omega)
  · have hm : mineS S m 6 := hbo.1 (by simpa using hb)
    unfold cleanS at hQ
    rw [if_pos hm] at hQ
    refine drawn fun w47 f47 _ => ?_
    have F47 := (F4.tr f25).tr f47
    have z25 := f25.size
    have z47 := f47.size
    have c1 := b1'.keep' (f25.tr f47)
    have c3 := b3.keep' (f25.tr f47)
    have P47 := t.keep' F47
    obtain ⟨fh, gt, bm, rt, P47⟩ := P47
    have l1 := b1.lt
    have c9 : ∀ {w' : World}, Blk w' g1 (m.cells rp rc lp lc) 40 → w'.cell? (((at0 g1 0).add 8).add 1) = some (.int .u64 m.ts) := fun b => by rw [add_add]; exact b.cat 9 _ rfl
    have fin : ∀ {o : Option Scn} {w'' : World} {t6 : Nat}, Fr [] w47 w'' → w47.heap.size ≤ t6 → get ilt S.rows (keyS m.ts m.frm) = o → Blk w'' t6 (o.getD scnZ).cells 53 → X14.j2 Q (some (at0 g 0)) (at0 g1 0) (at0 g3 0) (at0 t6 0) o.isSome w'' := fun {o w'' t6} f h6 ho b => clean_j2 (W := w) ⟨⟨_, _, _, _, P47.keep' f⟩, c1.keep' f, ⟨_, c3.keep' f, rfl⟩, b, (F47.tr f).any, ⟨fun hm => by have := lt _ hm; omega, fun hm => by have := lt _ hm; omega, fun hm => by have := lt _ hm; omega⟩, by omega, by omega, by omega⟩ hm ho hQ
    refine ⟨?_, ?_, ?_⟩
    · refine opt_some rfl (ld_ptr (P47.cat 23 rfl) (ld_int (c9 c1) (ld_int (c1.cat 1 _ rfl) (key_spec ⟨_, rfl, ⟨P47.cat 23 rfl, P47.cat 23 rfl⟩, get_SC P47.tab (fun hn w20 f20 => ?_) (fun r hr w20 f20 => ?_)⟩))))
      · refine ⟨_, _, _, _, _, _, _, rfl, newB fun g28 w29 b29 f29 h29 => ?_⟩
        have z20 := f20.size
        have d1 := c1.keep' f20
        have d1' := d1.keep' f29
        have P20 := P47.keep' f20
        refine ⟨⟨d1.cat 1 _ rfl, d1'.cat 1 _ rfl⟩, ⟨c9 d1, c9 d1'⟩, ⟨P20.cat 23 rfl, (P20.keep' f29).cat 23 rfl⟩, stAllB (vs := scnZ.cells) b29 rfl fun w30 b30 f30 => ?_⟩
        exact fin (o := none) ((f20.tr f29).trans f30 (fun y hy => .inr (by simp at hy; omega))) (by omega) hn b30
      · refine ⟨_, _, _, _, _, _, _, rfl, newB fun g28 w29 b29 f29 h29 => ?_⟩
        have z20 := f20.size
        have d1 := c1.keep' f20
        have d1' := d1.keep' f29
        have P20 := P47.keep' f20
        refine ⟨⟨d1.cat 1 _ rfl, d1'.cat 1 _ rfl⟩, ⟨c9 d1, c9 d1'⟩, ⟨P20.cat 23 rfl, (P20.keep' f29).cat 23 rfl⟩, stAllB (vs := r.cells) b29 rfl fun w30 b30 f30 => ?_⟩
        exact fin (o := some r) ((f20.tr f29).trans f30 (fun y hy => .inr (by simp at hy; omega))) (by omega) hr b30
    · refine opt_some rfl (ld_ptr (P47.cat 23 rfl) (ld_int (c9 c1) (ld_int (c1.cat 1 _ rfl) (key_spec ⟨_, rfl, ⟨P47.cat 23 rfl, P47.cat 23 rfl⟩, newB fun g28 w29 b29 f29 h29 => ?_⟩))))
      have d1' := c1.keep' f29
      have P29 := P47.keep' f29
      refine ⟨⟨c1.cat 1 _ rfl, d1'.cat 1 _ rfl⟩, ⟨c9 c1, c9 d1'⟩, ⟨P47.cat 23 rfl, P29.cat 23 rfl⟩, get_SC P29.tab (fun hn w20 f20 => ?_) (fun r hr w20 f20 => ?_)⟩
      · refine ⟨_, _, _, _, _, _, _, rfl, stAllB (vs := scnZ.cells) (b29.keep' f20) rfl fun w30 b30 f30 => ?_⟩
        exact fin (o := none) ((f29.tr f20).trans f30 (fun y hy => .inr (by simp at hy; omega))) (by omega) hn b30
      · refine ⟨_, _, _, _, _, _, _, rfl, stAllB (vs := r.cells) (b29.keep' f20) rfl fun w30 b30 f30 => ?_⟩
        exact fin (o := some r) ((f29.tr f20).trans f30 (fun y hy => .inr (by simp at hy; omega))) (by omega) hr b30
    · refine opt_some rfl (ld_ptr (P47.cat 23 rfl) (ld_int (c9 c1) (ld_int (c1.cat 1 _ rfl) (newB fun g28 w29 b29 f29 h29 => ?_))))
      have d1' := c1.keep' f29
      have P29 := P47.keep' f29
      refine ⟨⟨c1.cat 1 _ rfl, d1'.cat 1 _ rfl⟩, ⟨c9 c1, c9 d1'⟩, ⟨P47.cat 23 rfl, P29.cat 23 rfl⟩, key_spec ⟨_, rfl, ⟨P29.cat 23 rfl, P29.cat 23 rfl⟩, get_SC P29.tab (fun hn w20 f20 => ?_) (fun r hr w20 f20 => ?_)⟩⟩
      · refine ⟨_, _, _, _, _, _, _, rfl, stAllB (vs := scnZ.cells) (b29.keep' f20) rfl fun w30 b30 f30 => ?_⟩
        exact fin (o := none) ((f29.tr f20).trans f30 (fun y hy => .inr (by simp at hy; omega))) (by omega) hn b30
      · refine ⟨_, _, _, _, _, _, _, rfl, stAllB (vs := r.cells) (b29.keep' f20) rfl fun w30 b30 f30 => ?_⟩
        exact fin (o := some r) ((f29.tr f20).trans f30 (fun y hy => .inr (by simp at hy; omega))) (by omega) hr b30
end
end Go.Proofs.YtnjmkhhaodgpbaaX
