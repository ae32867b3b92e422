/- Step. -/
import Derived.Test.YtglininpmfgggaaL18New
namespace Go.Proofs.YtglininpmfgggaaX
open Go.RowKit
set_option linter.unusedVariables false
set_option linter.unusedSimpArgs false
set_option maxRecDepth 100000
section
variable {w w' W : World} {Q : Value → World → Prop} {g gt gs gm g1 : Nat} {ft : List Nat} {S : Sn} {now : Int} {s s' : Stb} {m m' : Msg}
/-- a turn under way: the stub s and the message m in blocks of their own -/
structure StC (W w : World) (g gt : Nat) (ft : List Nat) (S : Sn) (s : Stb) (m : Msg) (gs gm g1 : Nat) : Prop where
  t : PTa w g gt ft S
  bs : Blk w gs s.cells 51
  bm : Blk w gm m.cells 47
  b1 : Blk w g1 mZero.cells 47
  ns : gs ∉ g :: ft
  nm : gm ∉ g :: ft
  n1 : g1 ∉ g :: ft
  sm : gs ≠ gm
  s1 : gs ≠ g1
  m1 : gm ≠ g1
  ws : W.heap.size ≤ gs
  wm : W.heap.size ≤ gm
  w1 : W.heap.size ≤ g1
  F : Fr (g :: ft) W w
theorem StC.keep' (h : StC W w g gt ft S s m gs gm g1) (f : Fr [] w w') : StC W w' g gt ft S s m gs gm g1 :=
  ⟨h.t.keep' f, h.bs.keep' f, h.bm.keep' f, h.b1.keep' f, h.ns, h.nm, h.n1, h.sm, h.s1, h.m1, h.ws, h.wm, h.w1, h.F.tr f.any⟩
theorem PTa.off (t : PTa w g gt ft S) {x : Nat} (hx : x ∉ g :: ft) (f : Fr [x] w w') : PTa w' g gt ft S := t.keep f (fun y hy hm => hx (by simp at hm; rwa [← hm]))
theorem Blk.off1 {cs : List Value} {e : TypeId} {x y : Nat} (b : Blk w x cs e) (hne : x ≠ y) (f : Fr [y] w w') : Blk w' x cs e := b.keep f (by simpa using hne)
theorem StC.msg (h : StC W w g gt ft S s m gs gm g1) (m' : Msg) {K : World → Prop} (hK : ∀ w', StC W w' g gt ft S s m' gs gm g1 → K w') : stAll w (at0 gm 0) m'.cells K :=
  stAllB h.bm rfl fun w' b f => hK w' ⟨h.t.off h.nm f, h.bs.off1 h.sm f, b, h.b1.off1 h.m1.symm f, h.ns, h.nm, h.n1, h.sm, h.s1, h.m1, h.ws, h.wm, h.w1, h.F.loc f h.wm⟩
theorem StC.stub (h : StC W w g gt ft S s m gs gm g1) {i : Nat} {v : Value} (s' : Stb) (hi : i < 9) (he : s.cells.set i v = s'.cells) {K : World → Prop} (hK : ∀ w', StC W w' g gt ft S s' m gs gm g1 → K w') : stK w ((at0 gs 0).add i) v K :=
  stB h.bs (by rw [s.len]; exact hi) fun w' b f => hK w' ⟨h.t.off h.ns f, by rw [← he]; exact b, h.bm.off1 h.sm.symm f, h.b1.off1 h.s1.symm f, h.ns, h.nm, h.n1, h.sm, h.s1, h.m1, h.ws, h.wm, h.w1, h.F.loc f h.ws⟩
theorem StC.sent (h : StC W w g gt ft S s m gs gm g1) (hK : ∀ w', StC W w' g gt ft S (sentS S s now) m gs gm g1 → Q (.tuple #[]) w') : CallR Try.prog 43 #[.pointer (some (at0 g 0)), .pointer (some (at0 gs 0)), .int .u64 now] w Q :=
  sent_spec h.t h.bs h.ns fun w' b f => hK w' ⟨h.t.off h.ns f, b, h.bm.off1 h.sm.symm f, h.b1.off1 h.s1.symm f, h.ns, h.nm, h.n1, h.sm, h.s1, h.m1, h.ws, h.wm, h.w1, h.F.loc f h.ws⟩
/-- the stub is put, the message told -/
theorem step_end (h : StC W w g gt ft S s m gs gm g1) (hK : Aft W g gt ft (putS S s) (.tuple #[m.val, .bool (m.kind != 0)]) Q) :
    CallR Try.prog 37 #[.pointer (some (at0 g 0)), s.val] w fun v w73 => v = .tuple #[] ∧ drewK w73 fun w74 => ldI .i64 w74 ((at0 gm 0).add 0) fun x0 => ldI .i64 w74 ((at0 gm 0).add 1) fun x1 => ldI .i64 w74 ((at0 gm 0).add 2) fun x2 => ldI .u64 w74 ((at0 gm 0).add 3) fun x3 => ldI .u64 w74 ((at0 gm 0).add 4) fun x4 => ldI .i64 w74 ((at0 gm 0).add 5) fun x5 => ldI .i64 w74 ((at0 gm 0).add 6) fun x6 => ldI .i64 w74 ((at0 gm 0).add 7) fun x7 => ldI .i64 w74 ((at0 gm 0).add 8) fun x8 => ldI .u64 w74 ((at0 gm 0).add 9) fun x9 => ldSl w74 ((at0 gm 0).add 10) fun x10p x10n x10c => ldI .u64 w74 ((at0 gm 0).add 11) fun x11 => ldI .i64 w74 ((at0 gm 0).add 12) fun x12 => ldI .u64 w74 ((at0 gm 0).add 13) fun x13 => ldI .i64 w74 ((at0 gm 0).add 14) fun x14 => ldI .u64 w74 ((at0 gm 0).add 15) fun x15 => ldI .i64 w74 ((at0 gm 0).add 16) fun x16 => ldI .u64 w74 ((at0 gm 0).add 17) fun x17 => ldSl w74 ((at0 gm 0).add 18) fun x18p x18n x18c => ldI .i64 w74 ((at0 gm 0).add 0) fun x94 => stAll w74 (at0 g1 0) [.int .i64 x0, .int .i64 x1, .int .i64 x2, .int .u64 x3, .int .u64 x4, .int .i64 x5, .int .i64 x6, .int .i64 x7, .int .i64 x8, .int .u64 x9, .slice x10p x10n x10c, .int .u64 x11, .int .i64 x12, .int .u64 x13, .int .i64 x14, .int .u64 x15, .int .i64 x16, .int .u64 x17, .slice x18p x18n x18c] fun w95 => (World.cell? w74 ((at0 gm 0).add 0) = some (.int .i64 x94) ∧ World.cell? w95 ((at0 gm 0).add 0) = some (.int .i64 x94)) ∧ ldI .i64 w95 ((at0 g1 0).add 0) fun y0 => ldI .i64 w95 ((at0 g1 0).add 1) fun y1 => ldI .i64 w95 ((at0 g1 0).add 2) fun y2 => ldI .u64 w95 ((at0 g1 0).add 3) fun y3 => ldI .u64 w95 ((at0 g1 0).add 4) fun y4 => ldI .i64 w95 ((at0 g1 0).add 5) fun y5 => ldI .i64 w95 ((at0 g1 0).add 6) fun y6 => ldI .i64 w95 ((at0 g1 0).add 7) fun y7 => ldI .i64 w95 ((at0 g1 0).add 8) fun y8 => ldI .u64 w95 ((at0 g1 0).add 9) fun y9 => ldSl w95 ((at0 g1 0).add 10) fun y10p y10n y10c => ldI .u64 w95 ((at0 g1 0).add 11) fun y11 => ldI .i64 w95 ((at0 g1 0).add 12) fun y12 => ldI .u64 w95 ((at0 g1 0).add 13) fun y13 => ldI .i64 w95 ((at0 g1 0).add 14) fun y14 => ldI .u64 w95 ((at0 g1 0).add 15) fun y15 => ldI .i64 w95 ((at0 g1 0).add 16) fun y16 => ldI .u64 w95 ((at0 g1 0).add 17) fun y17 => ldSl w95 ((at0 g1 0).add 18) fun y18p y18n y18c => Q (.tuple #[.agg #[.int .i64 y0, .int .i64 y1, .int .i64 y2, .int .u64 y3, .int .u64 y4, .int .i64 y5, .int .i64 y6, .int .i64 y7, .int .i64 y8, .int .u64 y9, .slice y10p y10n y10c, .int .u64 y11, .int .i64 y12, .int .u64 y13, .int .i64 y14, .int .u64 y15, .int .i64 y16, .int .u64 y17, .slice y18p y18n y18c], .bool (x94 != (0 : Int))]) w95 := by
  refine put_spec (s := s) h.t ?_
  intro ft' w73 t73 f73 e73
  have bm := h.bm.keep f73 h.nm
  have b1 := h.b1.keep f73 h.n1
  have hsz := h.F.size
  have lm := h.bm.lt
  have l1 := h.b1.lt
  have n1' : g1 ∉ g :: ft' := fun hm => by
    rcases List.mem_cons.1 hm with h' | h'
    · exact h.n1 (by simp [h'])
    · rcases e73 g1 h' with h' | h'
      · exact h.n1 (by simp [h'])
      · omega
  refine ⟨rfl, drawn fun w74 f74 _ => ?_⟩
  have bm := bm.keep' f74
  have b1 := b1.keep' f74
  refine ld_Msg (s := m) bm.cat (ld_int (bm.cat 0 _ rfl) (stAllB (vs := m.cells) b1 rfl fun w95 b95 f95 => ⟨⟨bm.cat 0 _ rfl, (bm.off1 h.m1 f95).cat 0 _ rfl⟩, ld_Msg (s := m) b95.cat ?_⟩))
  refine hK ft' w95 ((t73.keep' f74).off n1' f95) (((h.F.tr f73).tr f74.any).loc f95 h.w1) (fun x hx => ?_)
  rcases e73 x hx with h' | h'
  · exact .inl h'
  · exact .inr (by omega)
theorem StC.put (h : StC W w g gt ft S s m gs gm g1) {K : Int → Int → Int → Int → Int → Int → Int → Int → Int → Prop} (hk : K s.nd s.sr s.state s.seq s.voucher s.at_ s.sent s.wait s.dist) : ldI .i64 w ((at0 gs 0).add 0) fun x0 => ldI .u64 w ((at0 gs 0).add 1) fun x1 => ldI .i64 w ((at0 gs 0).add 2) fun x2 => ldI .u64 w ((at0 gs 0).add 3) fun x3 => ldI .i64 w ((at0 gs 0).add 4) fun x4 => ldI .u64 w ((at0 gs 0).add 5) fun x5 => ldI .u64 w ((at0 gs 0).add 6) fun x6 => ldI .u64 w ((at0 gs 0).add 7) fun x7 => ldI .i64 w ((at0 gs 0).add 8) fun x8 => K x0 x1 x2 x3 x4 x5 x6 x7 x8 := ld_Stb h.bs.cat hk
abbrev Tk (W : World) (g gt : Nat) (ft : List Nat) (S : Sn) (r : Stb × Msg) (Q : Value → World → Prop) : Prop := Aft W g gt ft (putS S r.1) (.tuple #[r.2.val, .bool (r.2.kind != 0)]) Q
theorem step_j0 {b : Bool} (h : StC W w g gt ft S s mZero gs gm g1) (hb : b = decide (s.state = 3 ∧ pastB s.sent s.wait now = true)) (hK : Tk W g gt ft S (if s.state = 3 ∧ pastB s.sent s.wait now = true then (sentS S s now, cleanM S s) else (s, mZero)) Q) :
    X18.j0 Q (some (at0 g 0)) now (at0 g1 0) (at0 gs 0) (at0 gm 0) b w := by
  unfold X18.j0
  simp only [optP_some]
  refine bc_bool (fun e => ?_) (fun e => ?_)
  · rw [if_pos (by rw [e] at hb; simpa using hb.symm)] at hK
    refine drawn fun w1 f1 _ => ?_
    have h1 := h.keep' f1
    refine ld_int (h1.t.blk.cat 23 _ rfl) (ld_int (h1.bs.cat.sub 0 0 rfl) (ld_int (h1.bs.cat.sub 0 0 rfl) (ld_int (h1.bs.cat.sub 0 1 rfl) (ld_int (h1.bs.cat 3 _ rfl) (h1.msg (cleanM S s) fun w8 h8 => h8.sent fun w10 h10 => ⟨rfl, h10.put (step_end h10 hK)⟩)))))
  · rw [if_neg (by rw [e] at hb; simpa using hb.symm)] at hK
    exact h.put (step_end h hK)
theorem step_j1 {b : Bool} (h : StC W w g gt ft S s mZero gs gm g1) (hb : b = decide (s.state = 2 ∧ pastB s.sent (everyN S.span) now = true))
    (hK : Tk W g gt ft S (if s.state = 2 ∧ pastB s.sent (everyN S.span) now = true then ({ s with sent := now }, dirtyM S s now) else if s.state = 3 ∧ pastB s.sent s.wait now = true then (sentS S s now, cleanM S s) else (s, mZero)) Q) :
    X18.j1 Q (some (at0 g 0)) now (at0 g1 0) (at0 gs 0) (at0 gm 0) b w := by
  unfold X18.j1
  refine bc_bool (fun e => ?_) (fun e => ?_)
  · rw [if_pos (by rw [e] at hb; simpa using hb.symm)] at hK
    refine h.put (dirty_spec (s := s) h.t fun w11 f11 => ⟨_, _, _, _, _, _, _, _, _, _, _, _, _, _, _, _, _, _, _, _, _, _, _, rfl, ?_⟩)
    have h11 := h.keep' f11
    exact h11.msg (dirtyM S s now) fun w31 h31 => h31.stub { s with sent := now } (by omega) rfl fun w32 h32 => h32.put (step_end h32 hK)
  · rw [if_neg (by rw [e] at hb; simpa using hb.symm)] at hK
    refine ld_int (h.bs.cat 2 _ rfl) (bc_eq (fun e3 => ?_) (fun e3 => step_j0 h (by simp [e3]) hK))
    exact ld_int (h.bs.cat 6 _ rfl) (ld_int (h.bs.cat 7 _ rfl) (past_spec ⟨_, rfl, step_j0 h (by simp [e3]) hK⟩))
theorem step_j2 {b : Bool} (h : StC W w g gt ft S s mZero gs gm g1) (hb : b = decide (s.state = 1 ∧ pastB s.sent s.wait now = true)) (hK : Tk W g gt ft S (turnS S s now) Q) :
    X18.j2 Q (some (at0 g 0)) now (at0 g1 0) (at0 gs 0) (at0 gm 0) b w := by
  unfold X18.j2
  unfold turnS at hK
  simp only [optP_some]
  refine bc_bool (fun e => ?_) (fun e => ?_)
  · rw [if_pos (by rw [e] at hb; simpa using hb.symm)] at hK
    refine h.put (dirty_spec (s := s) h.t fun w11 f11 => ⟨_, _, _, _, _, _, _, _, _, _, _, _, _, _, _, _, _, _, _, _, _, _, _, rfl, ?_⟩)
    have h11 := h.keep' f11
    exact h11.msg (dirtyM S s now) fun w31 h31 => h31.sent fun w32 h32 => ⟨rfl, h32.put (step_end h32 hK)⟩
  · rw [if_neg (by rw [e] at hb; simpa using hb.symm)] at hK
    refine h.put (lapsed_spec (s := s) h.t fun w96 f96 => ⟨_, rfl, ?_⟩)
    have h96 := h.keep' f96
    refine bc_bool (fun hl => ?_) (fun hl => drawn fun w151 f151 _ => ?_)
    · rw [if_pos hl] at hK
      exact h96.stub { s with state := 4 } (by omega) rfl fun w98 h98 => h98.put (step_end h98 hK)
    · rw [if_neg (by simp [hl])] at hK
      have h151 := h96.keep' f151
      refine ld_int (h151.bs.cat 2 _ rfl) (bc_eq (fun e2 => ?_) (fun e2 => step_j1 h151 (by simp [e2]) hK))
      exact ld_int (h151.bs.cat 6 _ rfl) (ld_int (h151.t.blk.cat 25 _ rfl) (every_spec ⟨_, rfl, ⟨h151.bs.cat 6 _ rfl, h151.bs.cat 6 _ rfl⟩, past_spec ⟨_, rfl, step_j1 h151 (by simp [e2]) hK⟩⟩))
theorem step_spec (t : PTa w g gt ft S) (hK : Aft w g gt ft (stepS S now).1 (.tuple #[(stepS S now).2.1.val, .bool (stepS S now).2.2]) Q) : CallR Try.prog 18 #[.pointer (some (at0 g 0)), .int .u64 now] w Q := by
  apply X18.sound
  unfold X18.f
  simp only [optP_some]
  have hlt := t.lt
  refine newB fun g1 w2 b1 f2 h1 => drawn fun w3 f3 _ => ?_
  have F3 := f2.tr f3
  have t3 := t.keep' F3
  have b1 := b1.keep' f3
  have s2 := f2.size
  have l1 := b1.lt
  unfold stepS at hK
  refine ld_ptr (t3.blk.cat 0 _ rfl) (ld_int (t3.blk.cat 26 _ rfl) (after_SB t3.tab ⟨_, _, rfl, ?_⟩))
  cases ha : after ilt S.l S.last with
  | none =>
    rw [ha] at hK
    refine bc_bool (fun _ => stAllB (vs := mZero.cells) b1 rfl fun w12 b12 f12 => ld_Msg (s := mZero) b12.cat ?_) (fun h => by cases h)
    exact hK.same t (F3.loc f12 h1)
  | some k =>
    rw [ha] at hK
    refine bc_bool (fun h => by cases h) (fun _ => t3.stlast fun w33 t33 f33 => ?_)
    have F33 : Fr (g :: ft) w w33 := F3.any.inl f33 (by simp)
    have n1 : g1 ∉ g :: ft := fun hm => by have := hlt g1 hm; omega
    have b1 := b1.keep f33 (fun hm => n1 (by simp at hm; simp [hm]))
    refine ld_ptr (t33.blk.cat 0 _ rfl) (getT_spec t33.tab fun w37 f37 => ⟨_, _, _, _, _, _, _, _, _, _, rfl, ?_⟩)
    have t37 := t33.keep' f37
    have b1 := b1.keep' f37
    have F37 := F33.tr f37.any
    refine newB fun gs w49 b49 f49 h49 => stAllB (vs := ((get ilt S.l k).getD sZero).cells) b49 rfl fun w50 b50 f50 => ?_
    have s37 := F37.size
    have s33 := f33.size
    have s7 := f37.size
    have ns : gs ∉ g :: ft := fun hm => by have := hlt gs hm; omega
    have t50 := (t37.keep' f49).off ns f50
    have b1n : g1 ≠ gs := by omega
    have b1 := (b1.keep' f49).off1 b1n f50
    have F50 : Fr (g :: ft) w w50 := (F37.tr f49.any).loc f50 (by omega)
    have z50 : w37.heap.size ≤ w50.heap.size := Nat.le_trans f49.size f50.size
    have ls := b50.lt
    refine newB fun gm w52 bm f52 h52 => ?_
    have nm : gm ∉ g :: ft := fun hm => by have := hlt gm hm; omega
    have C : StC w w52 g gt ft { S with last := k } ((get ilt S.l k).getD sZero) mZero gs gm g1 := ⟨t50.keep' f52, b50.keep' f52, bm, b1.keep' f52, ns, nm, n1, by omega, by omega, by have := b1.lt; omega, by omega, by omega, h1, F50.tr f52.any⟩
    refine ld_int (C.bs.cat 2 _ rfl) (bc_eq (fun e1 => ?_) (fun e1 => step_j2 C (by simp [e1]) hK))
    exact ld_int (C.bs.cat 6 _ rfl) (ld_int (C.bs.cat 7 _ rfl) (past_spec ⟨_, rfl, step_j2 C (by simp [e1]) hK⟩))
end
end Go.Proofs.YtglininpmfgggaaX
