/- Reply, All, Held, Pinned. -/
import Derived.Test.YtdgoalhnkegbmaaL20Reply
namespace Go.Proofs.YtdgoalhnkegbmaaX
open Go.RowKit
set_option linter.unusedVariables false
set_option linter.unusedSimpArgs false
set_option maxRecDepth 100000
theorem app_step {t e ty : TypeId} {Z B : Nat} (hT : RowT Try.prog t e Z B) {W w : World} {sp x : Option Addr} {sn sc k kc : Nat} {xs ys : List Value} {K : Option Addr → Nat → Nat → World → Prop} (o : Own e Z w sp sn sc xs) (hy : Cells w x ys) (hl : ys.length = k * Z) (h0 : x = none → kc = 0)
    (h1 : ∀ u ∈ ys, u.oneCell' = true) (hn : sn + k ≤ 1000000) (hB : B ≤ 1000) (hs : ∀ k ∈ fbl sp, W.heap.size ≤ k) (f : Fr [] W w)
    (hK : ∀ p c w', Own e Z w' p (sn + k) c (xs ++ ys) → (∀ k ∈ fbl p, W.heap.size ≤ k) → Fr [] W w' → Fr (fbl sp) w w' → K p (sn + k) c w') :
    RunR Try.prog (Builtin.append_ #[t, t] ty #[.slice sp sn sc, .slice x k kc]) w fun v w' => ∃ (p : Option Addr) (n c : Nat), v = .slice p n c ∧ K p n c w' := by
  have hsz := f.size
  refine app_own hT o hy hl h0 h1 (by simp only [maxLen]; omega) (Nat.le_trans (Nat.mul_le_mul hn hB) (by omega)) ?_
  intro p' c' w' o' f' e'
  exact ⟨p', sn + k, c', rfl, hK p' c' w' o' (fun j hj => by rcases e' j hj with h | h; exact hs j h; omega) (f.trans f' (fun j hj => .inr (hs j hj))) f'⟩
theorem cells_one {w : World} {g : Nat} {cs : List Value} {e : TypeId} (h : Blk w g cs e) : Cells w (some (at0 g 0)) cs := fun j u hj => ⟨_, rfl, h.cat j u hj⟩
theorem some_ne {a : Addr} {P : Prop} : some a = none → P := fun h => by cases h
section
variable {w w' W : World} {Q : Value → World → Prop} {g gs gx gz gm gt1 g1 g3 : Nat} {ft al ft' al' F : List Nat} {S S' : Cs} {k to num now fl e : Int} {x z : Cl} {y : Cp} {refs : List (Int × Int)} {rp sp : Option Addr} {rc sc : Nat} {m : Msg}
/-- an answer that is a row of IDs and a bool -/
def AftI (w : World) (g : Nat) (ft al : List Nat) (S' : Cs) (l : List (Int × Int)) (b : Bool) (Q : Value → World → Prop) : Prop := ∀ p c ft' al' w', IdRow w' p c l → (∀ k ∈ fbl p, w.heap.size ≤ k ∧ k ∉ al') → PC w' g ft' al' S' → Fr ft w w' → (∀ x ∈ ft', x ∈ ft ∨ w.heap.size ≤ x) → (∀ x ∈ al', x ∈ al ∨ w.heap.size ≤ x) → Q (.tuple #[.slice p l.length c, .bool b]) w'
theorem AftI.none {b : Bool} (hK : AftI w g ft al S [] b Q) (t : PC w' g ft al S) (F : Fr ft w w') : Q (.tuple #[.slice none 0 0, .bool b]) w' := hK Option.none 0 ft al w' Own.nil (by simp [fbl]) t F (fun x hx => .inl hx) (fun x hx => .inl hx)
theorem reply_spec' {lc : Nat} (t : PC w g ft al S) (hr : IdRow w rp rc m.refs) (hl : m.refs.length ≤ 4096) (nr : ∀ k ∈ fbl rp, k ∉ ft)
    (hK : AftI w g ft al (replyC S m.kind m.to m.frm m.call m.code m.value m.refs).1 (replyC S m.kind m.to m.frm m.call m.code m.value m.refs).2.1 (replyC S m.kind m.to m.frm m.call m.code m.value m.refs).2.2 Q) :
    CallR Try.prog 17 #[.pointer (some (at0 g 0)), msgV m rp rc none lc] w Q := by
  apply X17.sound
  unfold X17.f
  simp only [optP_some]
  refine newB fun gm w2 bm f2 hgm => drawn fun w3 f3 _ => ?_
  have bm : Blk w2 gm (m.cells rp rc none lc) 47 := bm
  have F3 := f2.tr f3
  have t3 := t.keep' F3
  have b3 := bm.keep' f3
  have z2 := f2.size
  have z3 := f3.size
  have lm := bm.lt
  unfold replyC at hK
  have nope : (m.kind ≠ 2 ∨ m.to ≠ S.node ∨ otherB S m.frm = false) → ∀ {w4 : World}, Fr [] w w4 → Q (.tuple #[.slice none 0 0, .bool false]) w4 := fun hn w4 f4 => by
    rw [if_pos hn] at hK
    exact hK.none (t.keep' f4) f4.any
  refine ld_int (b3.cat 0 _ rfl) (bc_ne (fun h => nope (.inl h) F3) (fun h0 => ld_int (b3.cat 2 _ rfl) (ld_int t3.node (bc_ne (fun h => nope (.inr (.inl h)) F3) (fun h2 => ?_)))))
  refine ld_int (b3.cat 1 _ rfl) (other_spec t3 ⟨_, rfl, bc_bool (fun e => nope (.inr (.inr (by simpa using e))) F3) (fun e => ?_)⟩)
  have ho : otherB S m.frm = true := by simpa using e
  rw [if_neg (by
    rintro (h | h | h)
    · exact h h0
    · exact h h2
    · rw [ho] at h; cases h)] at hK
  unfold X17.j0
  simp only [optP_some]
  have nm : gm ∉ al := fun hm => by have := t.lt gm hm; omega
  refine ld_int (b3.cat 1 _ rfl) (ld_int (b3.cat 3 _ rfl) (get_spec t3 (fun hg w4 f4 => ?_) (fun x y w4 hg r f4 => ?_)))
  · rw [hg] at hK
    simp only at hK
    refine ⟨_, _, _, _, _, _, _, _, _, _, _, _, _, _, _, _, _, _, _, _, rfl, newB fun g21 w22 b22 f22 h22 => stAllB (vs := clZ.cells) b22 rfl fun w23 b23 f23 => bc_bool (fun _ => drawn fun w24 f24 _ => ?_) (fun e => by cases e)⟩
    have z4 := f4.size
    have F24 : Fr [] w3 w24 := ((f4.tr f22).loc f23 (by omega)).tr f24
    have bm24 := ((b3.keep' (f4.tr f22)).off1 (by omega) f23).keep' f24
    obtain ⟨lp, lc', gt, rt, lm', t24⟩ := t3.keep' F24
    obtain ⟨q0, q1, a, ha, hc⟩ := t24.latest ho
    refine ld_int (bm24.cat 3 _ rfl) (ld_int t24.pc.first (bc_dec (fun h => ?_) (fun h => ?_)))
    · refine ld_int (bm24.cat 3 _ rfl) (ld_sl (t24.blk.cat 24 _ rfl) (ld_int (bm24.cat 1 _ rfl) ⟨⟨q0, q1⟩, opt_some ha (ld_int hc ?_)⟩))
      have := hK.none t24.pc (F3.tr F24).any
      rw [decide_eq_true h, Bool.true_and] at this
      exact this
    · have := hK.none t24.pc (F3.tr F24).any
      rw [decide_eq_false h, Bool.false_and] at this
      exact this
  · rw [hg] at hK
    simp only at hK
    have t4 := t3.keep' f4
    have z4 := f4.size
    refine ⟨_, _, _, _, _, _, _, _, _, _, _, _, _, _, _, _, _, _, _, _, rfl, HC.made (W := w) t4 r rfl (by omega) (F3.tr f4).any fun gx w23 h f23 hx => bc_bool (fun e => by cases e) (fun _ => ?_)⟩
    have es := r.facts.2.2.1
    have bm23 := b3.keep' (f4.tr f23)
    have z23 := f23.size
    have ngm : gm ≠ gx := by omega
    have nrx : ∀ k ∈ fbl rp, k < w.heap.size := fun k hk => hr.lt k hk
    refine ld_int (h.b.cat 8 _ rfl) (bc_eq (fun h1 => ?_) (fun n1 => bc_eq (fun h4 => ?_) (fun n4 => bc_eq (fun h3 => ?_) (fun n3 => ?_))))
    · rw [if_pos (by rw [← es]; exact h1)] at hK
      refine drawn fun w35 f35 _ => ?_
      have h35 := h.keep' f35
      have bm35 := bm23.keep' f35
      refine ld_int (bm35.cat 12 _ rfl) (ld_int (bm35.cat 11 _ rfl) (h35.st { x with state := 2 } { y with state := 2 } (by omega) rfl (fun w' r => r.state 2) fun w38 h38 f38 => ?_))
      have bm38 := bm35.off1 ngm f38
      refine ⟨⟨bm35.cat 11 _ rfl, bm38.cat 11 _ rfl⟩, ⟨bm35.cat 12 _ rfl, bm38.cat 12 _ rfl⟩, h38.st { x with state := 2, code := m.code } { y with state := 2, code := m.code } (by omega) rfl (fun w' r => r.code m.code) fun w39 h39 f39 => ?_⟩
      have bm39 := bm38.off1 ngm f39
      refine ⟨⟨bm38.cat 11 _ rfl, bm39.cat 11 _ rfl⟩, h39.st { x with state := 2, code := m.code, back := m.value } { y with state := 2, code := m.code, back := m.value } (by omega) rfl (fun w' r => r.back m.value) fun w40 h40 f40 => ?_⟩
      have bm40 := bm39.off1 ngm f40
      refine newB fun g41 w42 b41 f42 h41 => ?_
      have h42 := h40.keep' f42
      have bm42 := bm40.keep' f42
      have z3540 : w35.heap.size ≤ w40.heap.size := Nat.le_trans f38.size (Nat.le_trans f39.size f40.size)
      have z35 := f35.size
      have lx := h.b.lt
      have F342 : Fr [gx] w w42 := ((((F3.tr (f4.tr (f23.tr f35))).any.tr f38).tr f39).tr f40).tr f42.any
      have nrg : ∀ k ∈ fbl rp, k ∉ [gx] := fun k hk hm => by have := nrx k hk; simp at hm; omega
      have hr42 := hr.keep F342 nrg
      have n41 : g41 ∉ al := h40.t.fresh h41
      refine ld_sl (bm42.cat 10 _ rfl) (copyIds hr42 (by omega) b41 fun p c w45 r45 n45 f45 => ?_)
      have h45 := h42.off n41 (by omega) (by omega) f45
      have bm45 := bm42.off1 (by omega) f45
      have z42 := f42.size
      have z45 := f45.size
      have np : ∀ k ∈ fbl p, w.heap.size ≤ k ∧ k ∉ al ∧ k ≠ gx ∧ k ≠ gm := fun k hk => by
        have hk2 : k = g41 ∨ w42.heap.size ≤ k := n45 k hk
        refine ⟨by omega, fun hm => ?_, by omega, by omega⟩
        have := t.lt k hm
        omega
      have lp45 := r45.lt
      refine stB h45.b (by rw [Cl.len]; omega) fun w47 b47 f47 => ?_
      have b47 : Blk w47 gx ({ x with state := 2, code := m.code, back := m.value, resultp := p, resultn := m.refs.length, resultc := c } : Cl).cells 44 := b47
      have t47 := h45.t.off h.nx f47
      have r47 := IdRow.off r45 (fun hm => (np _ hm).2.2.1 rfl) f47
      have bm47 := bm45.off1 ngm f47
      have F47 : Fr ft w w47 := h45.F.loc f47 h.wx
      have z47 := f47.size
      have tg : PC w47 g ft (al ++ fbl p) S := t47.grow (fun x hx => by simp [hx]) (fun x hx => by
        rcases List.mem_append.1 hx with hx | hx
        · exact t47.lt x hx
        · exact r47.lt x hx)
      have rg : CRel w47 ft (al ++ fbl p) { x with state := 2, code := m.code, back := m.value, resultp := p, resultn := m.refs.length, resultc := c } { y with state := 2, code := m.code, back := m.value, result := m.refs } :=
        CRel.res (y := { y with state := 2, code := m.code, back := m.value }) (x := { x with state := 2, code := m.code, back := m.value }) ((h45.r.off h.nx f47).mono (fun k _ hn => hn) (fun k hk _ => by simp [hk])) hl r47 (fun k hk => ⟨fun hm => (np k hk).2.1 (t.sub k hm), by simp [hk]⟩)
      refine ld_Cl (s := { x with state := 2, code := m.code, back := m.value, resultp := p, resultn := m.refs.length, resultc := c }) b47.cat (put_spec tg rg ?_)
      intro ft' al' w64 t64 f64 e64 e65
      have z47w := F47.size
      have ngf : gm ∉ ft := fun hm => nm (t.sub gm hm)
      have bm64 := bm47.keep f64 ngf
      have F64 := F47.tr f64
      refine ⟨rfl, newB fun g65 w66 b65 f66 h65 => ld_sl ((bm64.keep' f66).cat 10 _ rfl) ?_⟩
      have hr66 : IdRow w66 rp rc m.refs := ((hr42.keep f45 (fun k hk hm => by have := nrx k hk; simp at hm; omega)).keep f47 nrg).keep (f64.tr f66.any) nr
      refine copyIds hr66 (by omega) b65 fun p2 c2 w69 r69 n69 f69 => ?_
      have z64 := f64.size
      have t69 := (t64.keep' f66).off (t64.fresh h65) f69
      have np2 : ∀ k ∈ fbl p2, w64.heap.size ≤ k := fun k hk => by
        have hk2 : k = g65 ∨ w66.heap.size ≤ k := n69 k hk
        have := f66.size
        omega
      refine hK p2 c2 ft' al' w69 r69 (fun k hk => ⟨by have := np2 k hk; omega, fun hm => by have := np2 k hk; have := t64.lt k hm; omega⟩) t69 ((F64.tr f66.any).loc f69 (by omega)) (fun k hk => (e64 k hk).imp id (fun h => by omega)) (fun k hk => ?_)
      rcases e65 k hk with h' | h'
      · rcases List.mem_append.1 h' with h' | h'
        · exact .inl h'
        · exact .inr (np k h').1
      · exact .inr (by omega)
    · rw [if_neg (by rw [← es]; exact n1), if_pos (by rw [← es]; exact h4)] at hK
      refine drawn fun w71 f71 _ => ?_
      have h71 := h.keep' f71
      obtain ⟨e1, e2, _⟩ := r.facts
      obtain ⟨lp, lc', gt, rt, lm', t'⟩ := id h71.t
      refine ld_ptr (t'.blk.cat 25 _ rfl) (ld_int (h71.b.cat 0 _ rfl) (ld_int (h71.b.cat 1 _ rfl) (key_spec fun w77 f77 => ⟨_, rfl, ⟨t'.blk.cat 25 _ rfl, (t'.blk.keep' f77).cat 25 _ rfl⟩, ?_⟩)))
      rw [show keyOf x.to x.num = keyOf y.to y.num by rw [e1, e2]]
      refine drop_spec (t'.keep' f77) fun b => ?_
      intro ft' al' w80 t80 f80 e80 e81
      have h77 := h71.keep' f77
      have z77 := h77.F.size
      exact ⟨_, rfl, hK Option.none 0 ft' al' w80 Own.nil (by simp [fbl]) t80 (h77.F.tr f80) (fun k hk => (e80 k hk).imp id (fun h => by omega)) (fun k hk => (e81 k hk).imp id (fun h => by omega))⟩
    · rw [if_neg (by rw [← es]; exact n1), if_neg (by rw [← es]; exact n4), if_pos (by rw [← es]; exact h3)] at hK
      exact hK.none h.t h.F
    · rw [if_neg (by rw [← es]; exact n1), if_neg (by rw [← es]; exact n4), if_neg (by rw [← es]; exact n3)] at hK
      exact hK.none h.t h.F
/-- calls in a row, their lists new: entry by entry -/
structure Ar (W w : World) (xs : List Cl) (L : List (Int × Cp)) : Prop where
  len : xs.length = L.length
  el : ∀ (i : Nat) (x : Cl), xs[i]? = some x → ∃ f : Int × Cp, L[i]? = some f ∧ CallA W w x f.2 ∧ f.2.refs.length ≤ 4096 ∧ f.2.result.length ≤ 4096
theorem CallA.keep (h : CallA W w x y) (f : Fr F w w') (hF : ∀ k ∈ F, k < W.heap.size) : CallA W w' x y := by
  obtain ⟨rp, rc, sp, sc, e1, r1, r2, n1, n2⟩ := h
  exact ⟨rp, rc, sp, sc, e1, r1.keep f (fun k hk hm => by have := n1 k hk; have := hF k hm; omega), r2.keep f (fun k hk hm => by have := n2 k hk; have := hF k hm; omega), n1, n2⟩
theorem CallA.new (h : CallA W w x y) (f : Fr F w w') (hF : ∀ k ∈ F, w.heap.size ≤ k) : CallA W w' x y := by
  obtain ⟨rp, rc, sp, sc, e1, r1, r2, n1, n2⟩ := h
  exact ⟨rp, rc, sp, sc, e1, r1.keep f (fun k hk hm => by have := r1.lt k hk; have := hF k hm; omega), r2.keep f (fun k hk hm => by have := r2.lt k hk; have := hF k hm; omega), n1, n2⟩
theorem Cl.oneR (xs : List Cl) : ∀ u ∈ xs.flatMap Cl.cells, u.oneCell' = true := by
  intro u hu
  obtain ⟨x, _, hx⟩ := List.mem_flatMap.1 hu
  exact x.one u hx
theorem own_ne {e1 e2 : TypeId} {z1 z2 n1 c1 n2 c2 : Nat} {p1 p2 : Option Addr} {xs1 xs2 : List Value} (h1 : Own e1 z1 w p1 n1 c1 xs1) (h2 : Own e2 z2 w p2 n2 c2 xs2) (he : e1 ≠ e2) : ∀ k ∈ fbl p1, k ∉ fbl p2 := by
  intro k k1 k2
  cases p1 with
  | none => simp [fbl] at k1
  | some a1 =>
    cases p2 with
    | none => simp [fbl] at k2
    | some a2 =>
      obtain ⟨g1, cur1, rfl, b1, _⟩ := Own.blk h1
      obtain ⟨g2, cur2, rfl, b2, _⟩ := Own.blk h2
      simp [fbl, at0] at k1 k2
      subst k1; subst k2
      unfold Blk at b1 b2
      rw [b1] at b2
      simp at b2
      exact he b2.2
theorem CallA.off {p : Option Addr} {n c : Nat} {xs : List Value} (h : CallA W w x y) (o : Own 44 15 w p n c xs) (f : Fr (fbl p) w w') : CallA W w' x y := by
  obtain ⟨rp, rc, sp, sc, e1, r1, r2, n1, n2⟩ := h
  exact ⟨rp, rc, sp, sc, e1, r1.keep f (own_ne r1 o (by decide)), r2.keep f (own_ne r2 o (by decide)), n1, n2⟩
theorem PC.lens (t : PC w g ft al S) {f : Int × Cp} (h : f ∈ S.l) : f.2.refs.length ≤ 4096 ∧ f.2.result.length ≤ 4096 := by
  obtain ⟨lp, lc, gt, rt, lm, t⟩ := t
  obtain ⟨i, hi⟩ := List.getElem?_of_mem h
  have hl := (List.getElem?_eq_some_iff.1 hi).1
  have hl2 : i < lm.length := by rw [t.rel.len]; exact hl
  obtain ⟨f', h1, _, h3⟩ := t.rel.el i _ (List.getElem?_eq_getElem hl2)
  rw [hi] at h1
  injection h1 with h1
  subst h1
  exact ⟨h3.lr, h3.ls⟩
theorem all_l0 (t0 : PC W g ft al S) {kp : Option Addr} {kc : Nat} (hk : Cells W kp ((keys S.l).map (Value.int .u64)))
    (hQ : ∀ p c xs w', Own 44 15 w' p S.l.length c (xs.flatMap Cl.cells) → Ar W w' xs S.l → Fr [] W w' → (∀ x ∈ fbl p, W.heap.size ≤ x) → Q (.slice p S.l.length c) w') :
    ∀ (f i : Nat) (w : World) (p : Option Addr) (c : Nat) (xs : List Cl), S.l.length - i < f → i ≤ S.l.length → Fr [] W w → Own 44 15 w p i c (xs.flatMap Cl.cells) → Ar W w xs (S.l.take i) → (∀ x ∈ fbl p, W.heap.size ≤ x) → X22.l0 Q f (some (at0 g 0)) p i c kp S.l.length kc (S.l.length : Int) (i : Int) w
  | 0, i, w, p, c, xs, hf, _, _, _, _, _ => by omega
  | f + 1, i, w, p, c, xs, hf, hi, F, o, ar, hp => by
    rw [X22.l0]
    simp only [optP_some]
    have hsz := t0.size
    refine bc_dec (fun h1 => ⟨⟨by omega, by omega⟩, ?_⟩) (fun h1 => ?_)
    · have hlt : i < S.l.length := by omega
      have he := List.getElem?_eq_getElem hlt
      have htake : S.l.take (i + 1) = S.l.take i ++ [S.l[i]] := List.take_succ_eq_append_getElem hlt
      have hmem : S.l[i] ∈ S.l := List.getElem_mem hlt
      generalize S.l[i] = e at he htake hmem
      have hge : get ilt S.l e.1 = some e.2 := (get_iff ilt_lin t0.sorted).2 hmem
      obtain ⟨a, ha, hx⟩ := (hk.keep' F) i (.int .u64 e.1) (by rw [List.getElem?_map, keysG_get, he]; rfl)
      obtain ⟨lp, lc, gt, rt, lm, t'⟩ := t0.keep' F
      refine opt_some ha (ld_int (by rw [Int.toNat_natCast, Nat.mul_one]; exact hx) (ld_ptr (t'.blk.cat 25 _ rfl) (rowsGet t'.tab t'.rel (fun hn => by rw [hge] at hn; cases hn) (fun x y hy r w6 f6 => ?_))))
      rw [hge] at hy
      injection hy with hy
      subst hy
      refine ⟨_, _, _, _, _, _, _, _, _, _, _, _, _, _, _, _, _, _, _, _, rfl, newB fun gx w24 b24 f24 h24 => stAllB (vs := x.cells) b24 rfl fun w25 b25 f25 => ?_⟩
      have z0 := F.size
      have z6 := f6.size
      have F25 : Fr [] w w25 := (f6.tr f24).loc f25 (by omega)
      have hgx : gx ∉ al := fun hm => by have := t0.lt gx hm; omega
      have r25 := ((r.keep' f6).keep' f24).off hgx f25
      obtain ⟨rp, rc, sp, sc, hxe, q1, q2, _, _⟩ := r25.ex
      subst hxe
      refine ld_Cl (s := e.2.cl rp rc sp sc) b25.cat (twin_spec q1 q2 r.lr r.ls fun rp' rc' sp' sc' w42 m1 m2 f42 n1 n2 => ⟨_, _, _, _, _, _, _, _, _, _, _, _, _, _, _, _, _, _, _, rfl, newB fun g58 w59 b59 f59 h59 => ?_⟩)
      have b59 : Blk w59 g58 (e.2.cl rp' rc' sp' sc').cells 44 := b59
      have F59 : Fr [] w w59 := F25.tr (f42.tr f59)
      have z25 := F25.size
      have o59 := o.keep' F59
      refine app_step rowT59 (W := W) o59 (cells_one b59) (Cl.len _) some_ne (Cl.one _) (by omega) (by omega) hp (F.tr F59) ?_
      intro p' c' w61 o61 n61 f61 g61
      have ei : IntKind.wrap .i64 ((i : Int) + 1) = ((i + 1 : Nat) : Int) := by rw [i64w ((i : Int) + 1) (by omega) (by omega)]; omega
      rw [ei]
      have cn : CallA W w61 (e.2.cl rp' rc' sp' sc') e.2 := CallA.off ⟨rp', rc', sp', sc', rfl, m1.keep' f59, m2.keep' f59, fun k hk => by have := n1 k hk; omega, fun k hk => by have := n2 k hk; omega⟩ o59 g61
      have hxl : xs.length = i := by rw [ar.len, List.length_take]; omega
      refine all_l0 t0 hk hQ f (i + 1) w61 p' c' (xs ++ [e.2.cl rp' rc' sp' sc']) (by omega) (by omega) f61 (by rw [List.flatMap_append]; simpa using o61) ⟨by rw [htake]; simp [hxl]; omega, fun j z hz => ?_⟩ n61
      rw [htake]
      have htl : (S.l.take i).length = i := by rw [List.length_take]; omega
      by_cases hj : j < i
      · rw [List.getElem?_append_left (by omega)] at hz
        rw [List.getElem?_append_left (by omega)]
        obtain ⟨f0, q1, q2, q3⟩ := ar.el j z hz
        exact ⟨f0, q1, CallA.off (q2.keep F59 (by simp)) o59 g61, q3⟩
      · rw [List.getElem?_append_right (by omega), hxl] at hz
        rw [List.getElem?_append_right (by omega), htl]
        have hj0 : j - i = 0 := by
          have := (List.getElem?_eq_some_iff.1 hz).1
          simp at this
          exact this
        rw [hj0] at hz ⊢
        simp only [List.getElem?_cons_zero, Option.some.injEq] at hz
        subst hz
        exact ⟨e, rfl, cn, r.lr, r.ls⟩
    · have : i = S.l.length := by omega
      subst this
      rw [List.take_length] at ar
      exact hQ p c xs w o ar F hp
theorem all_spec (t : PC w g ft al S) (hQ : ∀ p c xs w', Own 44 15 w' p S.l.length c (xs.flatMap Cl.cells) → Ar w w' xs S.l → Fr [] w w' → (∀ x ∈ fbl p, w.heap.size ≤ x) → Q (.slice p S.l.length c) w') : CallR Try.prog 22 #[.pointer (some (at0 g 0))] w Q := by
  apply X22.sound
  unfold X22.f
  simp only [optP_some]
  obtain ⟨lp, lc, gt, rt, lm, t'⟩ := id t
  have hkl := t'.rel.keys
  have hll := t'.rel.len
  refine ld_ptr (t'.blk.cat 25 _ rfl) (keys_CB t'.tab fun p c w4 o4 f4 n4 => ⟨_, _, _, rfl, S.l.length + 1, ?_⟩)
  rw [hkl] at o4
  rw [hll]
  have z4 := f4.size
  refine all_l0 (t.keep' f4) o4.cells (fun p' c' xs w' o' a' f' n' => hQ p' c' xs w' o' ⟨a'.len, fun i x hx => ?_⟩ (f4.tr f') (fun x hx => by have := n' x hx; omega)) _ 0 w4 none 0 [] (by omega) (by omega) (Fr.refl _) Own.nil ⟨by simp, by simp⟩ (by simp [fbl])
  obtain ⟨f0, q1, q2, q3⟩ := a'.el i x hx
  obtain ⟨rp, rc, sp, sc, e1, r1, r2, n1, n2⟩ := q2
  exact ⟨f0, q1, ⟨rp, rc, sp, sc, e1, r1, r2, fun k hk => by have := n1 k hk; omega, fun k hk => by have := n2 k hk; omega⟩, q3⟩
end
end Go.Proofs.YtdgoalhnkegbmaaX
