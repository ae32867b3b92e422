/- Who holds an owner's objects: a holder asks, a holder holds no more. -/
import Derived.Test.YtnjmkhhaodgpbaaL19W
namespace Go.Proofs.YtnjmkhhaodgpbaaX
open Go.RowKit
set_option linter.unusedVariables false
set_option linter.unusedSimpArgs false
set_option maxRecDepth 100000
abbrev msgZ : Msg := ⟨0, 0, 0, 0, 0, 0, 0, 0, 0, 0, [], 0, 0, 0, 0, 0, 0, 0, []⟩
abbrev toldM (m : Msg) (e : Int) : Msg := ⟨5, m.to, m.frm, 0, 0, 0, 0, 0, m.tn, m.ts, [], 0, e, m.seq, 0, m.at_, 0, 0, []⟩
abbrev cleanedM (m : Msg) : Msg := ⟨7, m.to, m.frm, 0, 0, 0, 0, 0, m.tn, m.ts, [], 0, 0, m.seq, 0, 0, 0, 0, []⟩
def goodS (S : Sc) (m : Msg) (pin : Bool) : Bool := if m.voucher = S.node then pin else match get ilt S.rows (keyS m.ts m.voucher) with
  | some v => v.present
  | none => false
abbrev nextR (m : Msg) (now : Int) (p : Bool) : Scn := ⟨m.ts, m.frm, p, m.seq, now, m.dist⟩
def grantS (S : Sc) (m : Msg) (pin : Bool) (now : Int) : Sc × Msg × Bool × Bool := if goodS S m pin = true then (putS { S with bur := unbur S m.ts } (nextR m now true), toldM m 0, true, true) else (putS S (nextR m now false), toldM m 4, false, true)
def askedS (S : Sc) (m : Msg) (pin : Bool) (now : Int) : Sc × Msg × Bool × Bool := match get ilt S.rows (keyS m.ts m.frm) with
  | some r => if r.seq > m.seq then (S, msgZ, false, false) else if r.seq = m.seq then (if r.present = true then (putS S (nextR m now true), toldM m 0, false, true) else (S, toldM m 4, false, true)) else grantS S m pin now
  | none => grantS S m pin now
open Classical in
noncomputable def dirtyS (S : Sc) (m : Msg) (pin : Bool) (now : Int) : Sc × Msg × Bool × Bool := if mineS S m 4 then (if hasO S.os m.ts = true then askedS S m pin now else (S, toldM m 4, false, true)) else (S, msgZ, false, false)
def cleanR (S : Sc) (m : Msg) : Sc × Msg × Bool := match get ilt S.rows (keyS m.ts m.frm) with
  | some r => if r.seq > m.seq then (S, msgZ, false) else (putS S ⟨r.serial, r.holder, false, m.seq, r.at_, r.dist⟩, cleanedM m, true)
  | none => if hasO S.os m.ts = true then (putS S ⟨m.ts, m.frm, false, m.seq, 0, 0⟩, cleanedM m, true) else (S, cleanedM m, true)
open Classical in
noncomputable def cleanS (S : Sc) (m : Msg) : Sc × Msg × Bool := if mineS S m 6 then cleanR S m else (S, msgZ, false)
theorem hasF46 : hasF 4 5 = true ∧ hasF 4 9 = true ∧ hasF 6 5 = true := by decide
theorem right_ts {m : Msg} (h : Right m) (hk : m.kind = 4 ∨ m.kind = 6) : okSerial m.ts ∧ (1 ≤ m.frm ∧ m.frm ≤ 64) := by
  obtain ⟨_, h2, _, _, _, h3, _⟩ := (right_iff m).1 h
  have h5 : hasF m.kind 5 = true := by rcases hk with h | h <;> rw [h] <;> decide
  unfold targetR at h3
  rw [h5, if_pos rfl] at h3
  have hn : ¬ aimsNone m := by
    unfold aimsNone
    rintro (h' | h') <;> omega
  have h6 : ¬ noID (m.tn, m.ts) := fun h' => hn (h3.2.1 h')
  rcases h3.1 with h7 | h7
  · exact absurd h7 h6
  · exact ⟨h7.2, h2⟩
theorem right_dist {m : Msg} (h : Right m) (hk : m.kind = 4) : 1 ≤ m.dist ∧ m.dist ≤ 40 := by
  obtain ⟨_, _, _, _, h2, _⟩ := (right_iff m).1 h
  have h3 := h2.2.1.2.2
  have h9 : hasF m.kind 9 = true := by rw [hk]; decide
  rw [h9] at h3
  simpa [numberR] using h3
theorem mine4 {S : Sc} {m : Msg} (h : mineS S m 4) (now : Int) (p : Bool) : okRow (nextR m now p) := by
  obtain ⟨hk, hr, _⟩ := h
  obtain ⟨h1, h2⟩ := right_ts hr (.inl hk)
  obtain ⟨h3, h4⟩ := right_dist hr hk
  exact ⟨h1, h2, ⟨by show 0 ≤ m.dist; omega, h4⟩⟩
theorem mine6 {S : Sc} {m : Msg} (h : mineS S m 6) : okSerial m.ts ∧ (1 ≤ m.frm ∧ m.frm ≤ 64) := right_ts h.2.1 (.inr h.1)
section
variable {w w' W : World} {Q : Value → World → Prop} {g gt bm : Nat} {x : HB} {ft ft' fh fh' rt rt' F : List Nat} {S S' : Sc} {s d now k : Int} {r : Scn} {m : Msg} {rp lp : Option Addr} {rc lc : Nat} {pin : Bool} {b : Nat} {v : Value}
theorem AftS.done (h : AftS W g x ft S v Q) (P : PS w g x ft' S) (f0 : Fr ft W w) (e : ∀ y ∈ ft', y ∈ ft ∨ W.heap.size ≤ y) (f : Fr [b] w w') (hb : W.heap.size ≤ b) (hn : b ∉ ft') : Q v w' :=
  h ft' w' (P.keep f (fun y hy hm => hn (by simp at hm; rwa [← hm]))) (f0.trans f (fun y hy => .inr (by simp at hy; omega))) e
theorem told_spec {e : Int} {t5 : Nat} (b5 : Blk w t5 (m.cells rp rc lp lc) 40) (hQ : ∀ w', Fr [] w w' → Q (msgV (toldM m e) none 0 none 0) w') : CallR Try.prog 31 #[.int .i64 e, .pointer (some (at0 t5 0))] w Q := by
  apply X31.sound
  unfold X31.f
  refine newB fun g1 w2 b2 f2 h2 => ?_
  have c5 := b5.keep' f2
  have c8 : w2.cell? (((at0 t5 0).add 8).add 0) = some (.int .i64 m.tn) := by rw [add_add]; exact c5.cat 8 _ rfl
  have c9 : w2.cell? (((at0 t5 0).add 8).add 1) = some (.int .u64 m.ts) := by rw [add_add]; exact c5.cat 9 _ rfl
  refine ld_int (c5.cat 2 _ rfl) (ld_int (c5.cat 1 _ rfl) (ld_int c8 (ld_int c9 (ld_int (c5.cat 13 _ rfl) (ld_int (c5.cat 15 _ rfl) ?_)))))
  refine stAllB (vs := (toldM m e).cells none 0 none 0) b2 rfl fun w9 b9 f9 => ld_msgA (m := toldM m e) b9 ?_
  exact hQ _ (f2.trans f9 (fun y hy => .inr (by simp at hy; omega)))
/-- a request's own blocks -/
structure DE (w : World) (g t4 t5 t6 t8 t11 : Nat) (m : Msg) (rp : Option Addr) (rc : Nat) (lp : Option Addr) (lc : Nat) (pin : Bool) : Prop where
  b4 : Blk w t4 [.pointer (some (at0 g 0))] 28
  b5 : Blk w t5 (m.cells rp rc lp lc) 40
  b6 : Blk w t6 [.bool pin] 4
  b8 : ∃ cs, Blk w t8 cs 40 ∧ cs.length = 19
  b11 : Blk w t11 [.int .u64 m.ts] 22
  n58 : t5 ≠ t8
variable {t4 t5 t6 t8 t11 : Nat}
theorem DE.keep (D : DE w g t4 t5 t6 t8 t11 m rp rc lp lc pin) (f : Fr F w w') (h : ∀ y ∈ [t4, t5, t6, t8, t11], y ∉ F) : DE w' g t4 t5 t6 t8 t11 m rp rc lp lc pin := by
  obtain ⟨cs, b8, hl⟩ := D.b8
  exact ⟨D.b4.keep f (h _ (by simp)), D.b5.keep f (h _ (by simp)), D.b6.keep f (h _ (by simp)), ⟨cs, b8.keep f (h _ (by simp)), hl⟩, D.b11.keep f (h _ (by simp)), D.n58⟩
theorem DE.keep' (D : DE w g t4 t5 t6 t8 t11 m rp rc lp lc pin) (f : Fr [] w w') : DE w' g t4 t5 t6 t8 t11 m rp rc lp lc pin := D.keep f (by simp)
theorem DE.lt (D : DE w g t4 t5 t6 t8 t11 m rp rc lp lc pin) : ∀ y ∈ [t4, t5, t6, t8, t11], y < w.heap.size := by
  obtain ⟨cs, b8, hl⟩ := D.b8
  intro y hy
  simp at hy
  rcases hy with rfl | rfl | rfl | rfl | rfl
  · exact D.b4.lt
  · exact D.b5.lt
  · exact D.b6.lt
  · exact b8.lt
  · exact D.b11.lt
theorem DE.c9 (D : DE w g t4 t5 t6 t8 t11 m rp rc lp lc pin) : w.cell? (((at0 t5 0).add 8).add 1) = some (.int .u64 m.ts) := by rw [add_add]; exact D.b5.cat 9 _ rfl
theorem good_spec (P : PS w g x ft S) (D : DE w g t4 t5 t6 t8 t11 m rp rc lp lc pin) (hQ : ∀ w', Fr [] w w' → Q (.bool (goodS S m pin)) w') :
    CallR Try.prog 35 #[.pointer (some (at0 t5 0)), .pointer (some (at0 t4 0)), .pointer (some (at0 t6 0)), .pointer (some (at0 t11 0))] w Q := by
  apply X35.sound
  unfold X35.f
  refine drawn fun w1 f1 _ => ?_
  have P1 := P.keep' f1
  have D1 := D.keep' f1
  have R := P.ri
  obtain ⟨fh, gt, bm, rt, P1⟩ := P1
  refine ld_int (D1.b5.cat 14 _ rfl) (ld_ptr (D1.b4.cell rfl) (opt_some rfl (ld_ptr (P1.cat 22 rfl) (node_spec P1.heap ⟨_, rfl, ⟨D1.b5.cat 14 _ rfl, D1.b5.cat 14 _ rfl⟩, ?_⟩))))
  unfold goodS at hQ
  refine bc_eq (fun h => ?_) (fun h => drawn fun w10 f10 _ => ?_)
  · rw [if_pos h] at hQ
    exact ld_bool (D1.b6.cell rfl) (hQ _ f1)
  rw [if_neg h] at hQ
  have F10 := f1.tr f10
  have P10 := P1.keep' f10
  have D10 := D1.keep' f10
  have z : ∀ {w'' : World}, Fr [] w10 w'' → DE w'' g t4 t5 t6 t8 t11 m rp rc lp lc pin ∧ PSa w'' g x ft fh gt bm rt S := fun f => ⟨D10.keep' f, P10.keep' f⟩
  refine ⟨?_, ?_, ?_⟩
  · refine ld_ptr (D10.b4.cell rfl) (opt_some rfl (ld_ptr (P10.cat 23 rfl) (ld_int (D10.b11.cell rfl) (ld_int (D10.b5.cat 14 _ rfl) (key_spec ⟨_, rfl, ⟨P10.cat 23 rfl, P10.cat 23 rfl⟩, ⟨D10.b4.cell rfl, D10.b4.cell rfl⟩, get_SC P10.tab (fun hn w20 f20 => ?_) (fun r hr w20 f20 => ?_)⟩)))))
    · rw [hn] at hQ
      refine ⟨_, _, _, _, _, _, _, rfl, newB fun g28 w29 b29 f29 h29 => ?_⟩
      have D20 := D10.keep' f20
      have P20 := P10.keep' f20
      have D29 := D20.keep' f29
      have P29 := P20.keep' f29
      refine ⟨⟨D20.b5.cat 14 _ rfl, D29.b5.cat 14 _ rfl⟩, ⟨D20.b11.cell rfl, D29.b11.cell rfl⟩, ⟨P20.cat 23 rfl, P29.cat 23 rfl⟩, ⟨D20.b4.cell rfl, D29.b4.cell rfl⟩, stAllB (vs := scnZ.cells) b29 rfl fun w30 b30 f30 => ?_⟩
      exact hQ _ (F10.tr ((f20.tr f29).trans f30 (fun y hy => .inr (by have := f20.size; simp at hy; omega))))
    · rw [hr] at hQ
      refine ⟨_, _, _, _, _, _, _, rfl, newB fun g28 w29 b29 f29 h29 => ?_⟩
      have D20 := D10.keep' f20
      have P20 := P10.keep' f20
      have D29 := D20.keep' f29
      have P29 := P20.keep' f29
      refine ⟨⟨D20.b5.cat 14 _ rfl, D29.b5.cat 14 _ rfl⟩, ⟨D20.b11.cell rfl, D29.b11.cell rfl⟩, ⟨P20.cat 23 rfl, P29.cat 23 rfl⟩, ⟨D20.b4.cell rfl, D29.b4.cell rfl⟩, stAllB (vs := r.cells) b29 rfl fun w30 b30 f30 => ?_⟩
      exact bc_bool (fun _ => ld_bool (b30.cat 2 _ rfl) (hQ _ (F10.tr ((f20.tr f29).trans f30 (fun y hy => .inr (by have := f20.size; simp at hy; omega)))))) (fun e => by cases e)
  · refine ld_ptr (D10.b4.cell rfl) (opt_some rfl (ld_ptr (P10.cat 23 rfl) (ld_int (D10.b11.cell rfl) (ld_int (D10.b5.cat 14 _ rfl) (key_spec ⟨_, rfl, ⟨P10.cat 23 rfl, P10.cat 23 rfl⟩, ⟨D10.b4.cell rfl, D10.b4.cell rfl⟩, newB fun g28 w29 b29 f29 h29 => ?_⟩)))))
    obtain ⟨D29, P29⟩ := z f29
    refine ⟨⟨D10.b5.cat 14 _ rfl, D29.b5.cat 14 _ rfl⟩, ⟨D10.b11.cell rfl, D29.b11.cell rfl⟩, ⟨P10.cat 23 rfl, P29.cat 23 rfl⟩, ⟨D10.b4.cell rfl, D29.b4.cell rfl⟩, get_SC P29.tab (fun hn w20 f20 => ?_) (fun r hr w20 f20 => ?_)⟩
    · rw [hn] at hQ
      refine ⟨_, _, _, _, _, _, _, rfl, stAllB (vs := scnZ.cells) (b29.keep' f20) rfl fun w30 b30 f30 => ?_⟩
      exact hQ _ (F10.tr ((f29.tr f20).trans f30 (fun y hy => .inr (by simp at hy; omega))))
    · rw [hr] at hQ
      refine ⟨_, _, _, _, _, _, _, rfl, stAllB (vs := r.cells) (b29.keep' f20) rfl fun w30 b30 f30 => ?_⟩
      exact bc_bool (fun _ => ld_bool (b30.cat 2 _ rfl) (hQ _ (F10.tr ((f29.tr f20).trans f30 (fun y hy => .inr (by simp at hy; omega)))))) (fun e => by cases e)
  · refine ld_ptr (D10.b4.cell rfl) (opt_some rfl (ld_ptr (P10.cat 23 rfl) (ld_int (D10.b11.cell rfl) (ld_int (D10.b5.cat 14 _ rfl) (newB fun g28 w29 b29 f29 h29 => ?_)))))
    obtain ⟨D29, P29⟩ := z f29
    refine ⟨⟨D10.b5.cat 14 _ rfl, D29.b5.cat 14 _ rfl⟩, ⟨D10.b11.cell rfl, D29.b11.cell rfl⟩, ⟨P10.cat 23 rfl, P29.cat 23 rfl⟩, ⟨D10.b4.cell rfl, D29.b4.cell rfl⟩, key_spec ⟨_, rfl, ⟨P29.cat 23 rfl, P29.cat 23 rfl⟩, ⟨D29.b4.cell rfl, D29.b4.cell rfl⟩, get_SC P29.tab (fun hn w20 f20 => ?_) (fun r hr w20 f20 => ?_)⟩⟩
    · rw [hn] at hQ
      refine ⟨_, _, _, _, _, _, _, rfl, stAllB (vs := scnZ.cells) (b29.keep' f20) rfl fun w30 b30 f30 => ?_⟩
      exact hQ _ (F10.tr ((f29.tr f20).trans f30 (fun y hy => .inr (by simp at hy; omega))))
    · rw [hr] at hQ
      refine ⟨_, _, _, _, _, _, _, rfl, stAllB (vs := r.cells) (b29.keep' f20) rfl fun w30 b30 f30 => ?_⟩
      exact bc_bool (fun _ => ld_bool (b30.cat 2 _ rfl) (hQ _ (F10.tr ((f29.tr f20).trans f30 (fun y hy => .inr (by simp at hy; omega)))))) (fun e => by cases e)
/-- where a request stands: nothing of the table has changed yet -/
structure DD (W w : World) (g : Nat) (x : HB) (ft : List Nat) (S : Sc) (t4 t5 t6 t8 t11 : Nat) (m : Msg) (rp : Option Addr) (rc : Nat) (lp : Option Addr) (lc : Nat) (pin : Bool) : Prop where
  P : PS w g x ft S
  D : DE w g t4 t5 t6 t8 t11 m rp rc lp lc pin
  F : Fr ft W w
  out : ∀ y ∈ [t4, t5, t6, t8, t11], y ∉ ft
  new : W.heap.size ≤ t8
theorem DD.keep' (h : DD W w g x ft S t4 t5 t6 t8 t11 m rp rc lp lc pin) (f : Fr [] w w') : DD W w' g x ft S t4 t5 t6 t8 t11 m rp rc lp lc pin := ⟨h.P.keep' f, h.D.keep' f, h.F.tr f.any, h.out, h.new⟩
theorem dirty_j0 {t18 : Nat} {t91 : Bool} (h : DD W w g x ft S t4 t5 t6 t8 t11 m rp rc lp lc pin) (hm : mineS S m 4) (b18 : Blk w t18 (nextR m now true).cells 53) (n18 : t18 ∉ ft) (h18 : W.heap.size ≤ t18)
    (hQ1 : t91 = true → AftS W g x ft S (.tuple #[msgV (toldM m 4) none 0 none 0, .bool false, .bool true]) Q) (hQ2 : t91 = false → AftS W g x ft (grantS S m pin now).1 (.tuple #[msgV (grantS S m pin now).2.1 none 0 none 0, .bool (grantS S m pin now).2.2.1, .bool (grantS S m pin now).2.2.2]) Q) :
    X11.j0 Q (at0 t4 0) (at0 t8 0) (at0 t11 0) (at0 t5 0) (at0 t5 0) (at0 t4 0) (at0 t6 0) (at0 t11 0) (at0 t18 0) t91 w := by
  unfold X11.j0
  refine bc_bool (fun ht => ?_) (fun ht => ?_)
  · refine told_spec h.D.b5 fun w2 f2 => ⟨_, _, _, _, _, _, _, _, _, _, _, _, _, _, _, _, _, _, _, _, _, _, _, rfl, ?_⟩
    have h2 := h.keep' f2
    obtain ⟨cs, b8, hl⟩ := h2.D.b8
    refine stAllB (vs := (toldM m 4).cells none 0 none 0) b8 hl.symm fun w22 b22 f22 => ld_msgA (m := toldM m 4) b22 ?_
    exact (hQ1 ht).done h2.P h2.F (fun y hy => .inl hy) f22 h.new (h.out _ (by simp))
  · have hQ2 := hQ2 ht
    unfold grantS at hQ2
    refine good_spec h.P h.D fun w43 f43 => ⟨_, rfl, ?_⟩
    have h43 := h.keep' f43
    have c18 := b18.keep' f43
    have n18' : ∀ y ∈ [t4, t5, t6, t8, t11], y ∉ [t18] := by
      obtain ⟨cs, b8, hl⟩ := h43.D.b8
      have D := h43.D
      intro y hy hm
      have hm : y = t18 := by simpa using hm
      subst hm
      simp at hy
      rcases hy with rfl | rfl | rfl | rfl | rfl
      · exact D.b4.ne c18 (by decide) rfl
      · exact D.b5.ne c18 (by decide) rfl
      · exact D.b6.ne c18 (by decide) rfl
      · exact b8.ne c18 (by decide) rfl
      · exact D.b11.ne c18 (by decide) rfl
    cases hg : goodS S m pin with
    | false =>
      rw [if_neg (by rw [hg]; decide)] at hQ2
      refine bc_bool (fun _ => stB (i := 2) c18 (show 2 < 6 by omega) fun w45 b45 f45 => ?_) (fun e => by cases e)
      have b45 : Blk w45 t18 (nextR m now false).cells 53 := b45
      have P45 := h43.P.keep f45 (fun y hy hm => n18 (by simp at hm; rwa [← hm]))
      have D45 := h43.D.keep f45 n18'
      have F45 : Fr ft W w45 := h43.F.trans f45 (fun y hy => .inr (by simp at hy; omega))
      refine ld_ptr (D45.b4.cell rfl) (ld_Scn (s := nextR m now false) b45.cat (put_spec P45 (mine4 hm now false) fun ft2 w54 P54 f54 e54 => ⟨rfl, ?_⟩))
      have z45 := F45.size
      have o54 : ∀ y ∈ [t4, t5, t6, t8, t11], y ∉ ft2 := fun y hy hm => by
        rcases e54 _ hm with h' | h'
        · exact h.out y hy h'
        · have := D45.lt y hy
          omega
      have D54 := D45.keep f54 h.out
      refine told_spec D54.b5 fun w56 f56 => ⟨_, _, _, _, _, _, _, _, _, _, _, _, _, _, _, _, _, _, _, _, _, _, _, rfl, ?_⟩
      obtain ⟨cs, b8, hl⟩ := (D54.keep' f56).b8
      refine stAllB (vs := (toldM m 4).cells none 0 none 0) b8 hl.symm fun w22 b22 f22 => ld_msgA (m := toldM m 4) b22 ?_
      exact hQ2.done (P54.keep' f56) ((F45.tr f54).tr f56.any) (fun y hy => (e54 y hy).imp_right fun h => by omega) f22 h.new (o54 _ (by simp))
    | true =>
      rw [if_pos hg] at hQ2
      refine bc_bool (fun e => by cases e) (fun _ => drawn fun w96 f96 _ => ?_)
      have h96 := h43.keep' f96
      have c96 := c18.keep' f96
      have hr := mine4 hm now true
      have hts := hr.1
      obtain ⟨fh, gt, bm, rt, P96⟩ := h96.P
      refine ld_ptr (h96.D.b4.cell rfl) (opt_some rfl (ld_map (P96.cat 24 rfl) (ld_int (h96.D.b11.cell rfl) (delU (K := 22) (E := 3) (by kernel_rfl) (by kernel_rfl) P96.map (u64wf (s := m.ts) (by have := hts.1; show 0 ≤ m.ts; simp at this; omega) (by have := hts.2; simp at this; omega)) fun w102 M102 f102 => ⟨rfl, ?_⟩))))
      rw [unbur_ent] at M102
      obtain ⟨P102, F102⟩ := P96.bur' M102 f102
      have D102 := h96.D.keep F102 h.out
      have b102 := c96.keep F102 n18
      have FW : Fr ft W w102 := h96.F.tr F102
      refine ld_ptr (D102.b4.cell rfl) (ld_Scn (s := nextR m now true) b102.cat (put_spec ⟨_, _, _, _, P102⟩ hr fun ft2 w54 P54 f54 e54 => ⟨rfl, ?_⟩))
      have z45 := FW.size
      have o54 : ∀ y ∈ [t4, t5, t6, t8, t11], y ∉ ft2 := fun y hy hm => by
        rcases e54 _ hm with h' | h'
        · exact h.out y hy h'
        · have := D102.lt y hy
          omega
      have D54 := D102.keep f54 h.out
      refine told_spec D54.b5 fun w56 f56 => ⟨_, _, _, _, _, _, _, _, _, _, _, _, _, _, _, _, _, _, _, _, _, _, _, rfl, ?_⟩
      obtain ⟨cs, b8, hl⟩ := (D54.keep' f56).b8
      refine stAllB (vs := (toldM m 0).cells none 0 none 0) b8 hl.symm fun w22 b22 f22 => ld_msgA (m := toldM m 0) b22 ?_
      exact hQ2.done (P54.keep' f56) ((FW.tr f54).tr f56.any) (fun y hy => (e54 y hy).imp_right fun h => by omega) f22 h.new (o54 _ (by simp))
end
end Go.Proofs.YtnjmkhhaodgpbaaX
