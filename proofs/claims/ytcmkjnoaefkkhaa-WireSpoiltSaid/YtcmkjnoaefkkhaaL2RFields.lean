/- A message is read field by field: the document's way, in its order. -/
import Derived.Test.YtcmkjnoaefkkhaaL2RRead
namespace Go.Proofs.YtcmkjnoaefkkhaaX
open Go.RowKit
set_option linter.unusedVariables false
set_option linter.unusedSimpArgs false
set_option maxRecDepth 100000
section
variable {W w : World} {g B R F : Nat} {p : Option Addr} {n c : Nat} {bs : List Int} {k : Int} {foot : List Nat} {Q : Value → World → Prop}
/-- the state, as one -/
abbrev DcX (W w : World) (g B R : Nat) (p : Option Addr) (n c : Nat) (bs : List Int) (x : Msg × St) (foot : List Nat) : Prop := Dc 68 W w g B R p n c bs x.2 x.1 foot
theorem blk_keep' {w' : World} {cs : List Value} {e : TypeId} (hF : Blk w F cs e) (hk : ∀ k, k < w.heap.size → k ≠ g → w'.heap[k]? = w.heap[k]?) (hg : F ≠ g) : Blk w' F cs e := by
  have hl := hF.lt
  unfold Blk at hF ⊢
  rw [hk F hl hg]; exact hF
theorem ns_readR (f : Nat) : ∀ (N : Nat) (w : World) (s : St) (m : Msg) (foot : List Nat), N < f → m.list.length + N ≤ 1000 → Dc 68 W w g B R p n c bs s m foot →
    (∀ foot' w', Dc 68 W w' g B R p n c bs (rdNsR bs N m.list s).2 { m with list := (rdNsR bs N m.list s).1 } foot' → Q (.tuple #[]) w') → X48.l1 Q f (some (at0 g 0)) (some (at0 B 0)) (N : Int) w := by
  induction f with
  | zero => intro k w s m foot hf; omega
  | succ f ih =>
    intro k w s m foot hf hl h hK
    rw [X48.l1]
    simp only [optP_some, add_at, Nat.zero_add]
    cases k with
    | zero => exact bc_neg (by omega) (hK foot w h)
    | succ k =>
      refine bc_pos (by omega) (ld_int h.rd.c2 (bc_eq (fun h0 => ?_) (fun h0 => ?_)))
      · unfold X48.j3 drewK newK
        simp only [optP_some, add_at, Nat.zero_add]
        have h1 := h.keep' (Fr.drew (w := w))
        obtain ⟨rp, rc, lp, lc, o⟩ := h1.ob
        have c1 := o.blk.cell (i := 18) rfl
        refine ld_sl c1 (h1.rnum fun w5 h5 f5 => ⟨_, rfl, ?_⟩)
        have c5 := h1.cell_keep (fr_block f5 (by simp)) c1
        have f9 : Fr [] w5 (w5.alloc (.cells #[.int .u64 (readNum bs s.1 s.2 72057594037927935).1] 22)) := Fr.alloc _ _
        have h9 := h5.keep' f9
        have bx := Blk.made w5 #[.int .u64 (readNum bs s.1 s.2 72057594037927935).1] 22
        have c9 := f9.cell' c5
        obtain ⟨rp2, rc2, lp2, lc2, o2⟩ := h9.ob
        have e2 := o2.blk.cell (i := 18) rfl
        rw [c9] at e2
        injection e2 with e2
        injection e2 with e3 _ e4
        subst e3; subst e4
        refine ⟨⟨c1, c5⟩, ⟨c5, c9⟩, ?_⟩
        refine push_num (x := (readNum bs s.1 s.2 72057594037927935).1) h9 o2 (fun j u hj => ⟨_, rfl, ?_⟩) (by simp) (by omega) ?_
        · show World.cell? _ ((at0 w5.heap.size 0).add j) = some u
          rw [add_at, Nat.zero_add]; exact bx.cell hj
        intro foot' w14 h14 _ _
        rw [show IntKind.wrap .u64 (((k + 1 : Nat) : Int) - 1) = (k : Int) by rw [u64w _ (by omega) (by omega)]; omega]
        refine ih k w14 _ _ foot' (by omega) (by simp; omega) h14 ?_
        rw [rdNsR, if_pos h0] at hK
        exact hK
      · rw [rdNsR, if_neg h0] at hK
        exact hK foot w h
theorem num64 {s : St} {m : Msg} (h : Dc 68 W w g B R p n c bs s m foot) {s2 : St} {most : Int} : ∃ N : Nat, (readNum bs s2.1 s2.2 most).1 = (N : Int) := Int.eq_ofNat_of_zero_le (readNum_range (bs := bs) (a := s2.1) (bad := s2.2) (most := most) h.wf).1
theorem rf_j4 {x : Msg × St} (h : DcX W w g B R p n c bs x foot) (hF : Blk w F (fcells k g) 96) (hFf : F ∉ foot) (hFg : F ≠ g) (hz : Zf [13] x.1) (hl : x.1.list.length ≤ 100)
    (hK : ∀ foot' w', DcX W w' g B R p n c bs (rst bs k 14 (rst bs k 13 x)) foot' → Q (.tuple #[]) w') : X48.j4 Q (some (at0 g 0)) (some (at0 B 0)) (at0 F 0) 18446744073709551615 w := by
  obtain ⟨m, s⟩ := x
  unfold X48.j4
  simp only [optP_some, add_at, Nat.zero_add]
  have z := hz.head
  refine step_num (cv := .int .u64) (fun v => { m with stamp := v }) (i := 13) (by omega) rfl (by unfold fz at z; simp only at z; rw [← z]) (fun v _ _ _ _ _ => rfl) (fun _ => rfl) (fun _ => rfl) (by omega) h hF hFf hFg ?_
  intro w7 h7 F7
  have hl7 : (rst bs k 13 (m, s)).1.list = m.list := by unfold rst; split <;> rfl
  rw [← hl7] at hl
  generalize rst bs k 13 (m, s) = y at *
  obtain ⟨m2, s2⟩ := y
  refine ld_int (F7.cell rfl) (ld_ptr (F7.cell rfl) (fnum_spec 14 (by omega) h7 fun w11 h11 k11 => ⟨_, rfl, ?_⟩))
  unfold rst at hK
  by_cases hh : hasF k 14 = true
  · rw [if_pos hh] at hK h11 ⊢
    obtain ⟨N, hN⟩ := num64 (s2 := s2) (most := 64) h7
    have h3 := num_most (bs := bs) (a := s2.1) (bad := s2.2) (most := 64) (by omega)
    simp only [readFR] at hK
    simp only [hN, Int.toNat_natCast] at hK ⊢
    exact ⟨N + 1, ns_readR (N + 1) N w11 _ m2 foot (by omega) (by simp only at hl; omega) h11 hK⟩
  · rw [if_neg hh] at hK h11 ⊢
    refine ⟨1, ?_⟩
    rw [X48.l1]
    exact bc_neg (by omega) (hK foot w11 h11)
theorem rf_j5 {x : Msg × St} (h : DcX W w g B R p n c bs x foot) (hF : Blk w F (fcells k g) 96) (hFf : F ∉ foot) (hFg : F ≠ g) (hz : Zf [6, 7, 8, 9, 13] x.1) (hz10 : k = 5 → fz 10 x.1) (hk : x.1.kind = k) (hl : x.1.list.length ≤ 100)
    (hK : ∀ foot' w', DcX W w' g B R p n c bs (rst bs k 14 (rst bs k 13 (if k = 5 then rst bs k 10 (rst bs k 9 (rst bs k 8 (rst bs k 7 (rst bs k 6 x)))) else rst bs k 9 (rst bs k 8 (rst bs k 7 (rst bs k 6 x)))))) foot' → Q (.tuple #[]) w') :
    X48.j5 Q (some (at0 g 0)) (some (at0 B 0)) k (codesN k) (at0 F 0) 18446744073709551615 w := by
  unfold X48.j5
  simp only [optP_some, add_at, Nat.zero_add]
  have lst : ∀ (i : Nat) (hi : i < 14) (y : Msg × St), (rst bs k i y).1.list = y.1.list := by
    intro i hi y
    have hc : i = 0 ∨ i = 1 ∨ i = 2 ∨ i = 3 ∨ i = 4 ∨ i = 5 ∨ i = 6 ∨ i = 7 ∨ i = 8 ∨ i = 9 ∨ i = 10 ∨ i = 11 ∨ i = 12 ∨ i = 13 := by omega
    unfold rst
    split
    · rcases hc with rfl | rfl | rfl | rfl | rfl | rfl | rfl | rfl | rfl | rfl | rfl | rfl | rfl | rfl <;> rfl
    · rfl
  refine step_num (m := x.1) (s := x.2) (cv := .int .u64) (fun v => { x.1 with seq := v }) (i := 6) (by omega) rfl (by have z := hz.head; unfold fz at z; simp only at z; rw [← z]) (fun v _ _ _ _ _ => rfl) (fun _ => rfl) (fun _ => rfl) (by omega) h hF hFf hFg ?_
  intro w1 d1 F1
  have z1 := hz.step (bs := bs) (k := k) (s := x.2) (i := 6) (by omega) (by decide)
  have q1 : k = 5 → fz 10 (rst bs k 6 x).1 := fun e => by have := hz10 e; exact (Zf.step (L := [10]) (bs := bs) (k := k) (i := 6) (m := x.1) (s := x.2) (by omega) (fun j hj => by simp at hj; rcases hj with rfl | rfl; exact ⟨by omega, hz.head⟩; exact ⟨by omega, this⟩) (by decide)).head
  rw [← lst 6 (by omega) x] at hl
  rw [← rst_kind (bs := bs) (k := k) (i := 6) (x := x)] at hk
  change Zf [7, 8, 9, 13] (rst bs k 6 x).1 at z1
  change DcX W w1 g B R p n c bs (rst bs k 6 x) foot at d1
  generalize rst bs k 6 x = x1 at *
  refine step_one (m := x1.1) (s := x1.2) (fun v => { x1.1 with voucher := v }) (i := 7) (by omega) rfl (by have z := z1.head; unfold fz at z; simp only at z; rw [← z]) (fun v _ _ _ _ => rfl) (fun _ => rfl) (fun _ => rfl) (by omega) d1 F1 hFf hFg ?_
  intro w2 d2 F2
  have z2 := z1.step (bs := bs) (k := k) (s := x1.2) (i := 7) (by omega) (by decide)
  have q2 : k = 5 → fz 10 (rst bs k 7 x1).1 := fun e => by have := q1 e; exact (Zf.step (L := [10]) (bs := bs) (k := k) (i := 7) (m := x1.1) (s := x1.2) (by omega) (fun j hj => by simp at hj; rcases hj with rfl | rfl; exact ⟨by omega, z1.head⟩; exact ⟨by omega, this⟩) (by decide)).head
  rw [← lst 7 (by omega) x1] at hl
  rw [← rst_kind (bs := bs) (k := k) (i := 7) (x := x1)] at hk
  change Zf [8, 9, 13] (rst bs k 7 x1).1 at z2
  change DcX W w2 g B R p n c bs (rst bs k 7 x1) foot at d2
  generalize rst bs k 7 x1 = x2 at *
  refine step_num (m := x2.1) (s := x2.2) (cv := .int .u64) (fun v => { x2.1 with at_ := v }) (i := 8) (by omega) rfl (by have z := z2.head; unfold fz at z; simp only at z; rw [← z]) (fun v _ _ _ _ _ => rfl) (fun _ => rfl) (fun _ => rfl) (by omega) d2 F2 hFf hFg ?_
  intro w3 d3 F3
  have z3 := z2.step (bs := bs) (k := k) (s := x2.2) (i := 8) (by omega) (by decide)
  have q3 : k = 5 → fz 10 (rst bs k 8 x2).1 := fun e => by have := q2 e; exact (Zf.step (L := [10]) (bs := bs) (k := k) (i := 8) (m := x2.1) (s := x2.2) (by omega) (fun j hj => by simp at hj; rcases hj with rfl | rfl; exact ⟨by omega, z2.head⟩; exact ⟨by omega, this⟩) (by decide)).head
  rw [← lst 8 (by omega) x2] at hl
  rw [← rst_kind (bs := bs) (k := k) (i := 8) (x := x2)] at hk
  change Zf [9, 13] (rst bs k 8 x2).1 at z3
  change DcX W w3 g B R p n c bs (rst bs k 8 x2) foot at d3
  generalize rst bs k 8 x2 = x3 at *
  refine step_one (m := x3.1) (s := x3.2) (fun v => { x3.1 with dist := v }) (i := 9) (by omega) rfl (by have z := z3.head; unfold fz at z; simp only at z; rw [← z]) (fun v _ _ _ _ => rfl) (fun _ => rfl) (fun _ => rfl) (by omega) d3 F3 hFf hFg ?_
  intro w4 d4 F4
  have z4 := z3.step (bs := bs) (k := k) (s := x3.2) (i := 9) (by omega) (by decide)
  have q4 : k = 5 → fz 10 (rst bs k 9 x3).1 := fun e => by have := q3 e; exact (Zf.step (L := [10]) (bs := bs) (k := k) (i := 9) (m := x3.1) (s := x3.2) (by omega) (fun j hj => by simp at hj; rcases hj with rfl | rfl; exact ⟨by omega, z3.head⟩; exact ⟨by omega, this⟩) (by decide)).head
  rw [← lst 9 (by omega) x3] at hl
  rw [← rst_kind (bs := bs) (k := k) (i := 9) (x := x3)] at hk
  change Zf [13] (rst bs k 9 x3).1 at z4
  change DcX W w4 g B R p n c bs (rst bs k 9 x3) foot at d4
  generalize rst bs k 9 x3 = x4 at *
  refine bc_eq (fun h5 => ?_) (fun h5 => ?_)
  · rw [if_pos h5] at hK
    refine step_one (m := x4.1) (s := x4.2) (most := codesN k) (fun v => { x4.1 with code := v }) (i := 10) (by omega) (by rw [← hk]; rfl) (by have z := q4 h5; unfold fz at z; simp only at z; rw [← z]) (fun v _ _ _ _ => rfl) (fun _ => rfl) (fun _ => rfl) (by omega) d4 F4 hFf hFg ?_
    intro w5 d5 F5
    have z5 := Zf.step (L := [13]) (bs := bs) (k := k) (i := 10) (m := x4.1) (s := x4.2) (by omega) (fun j hj => by simp at hj; rcases hj with rfl | rfl; exact ⟨by omega, q4 h5⟩; exact ⟨by omega, z4.head⟩) (by decide)
    exact rf_j4 (x := rst bs k 10 x4) d5 F5 hFf hFg z5 (by rw [lst 10 (by omega)]; exact hl) hK
  · rw [if_neg h5] at hK
    exact rf_j4 (x := x4) d4 F4 hFf hFg z4 hl hK
/-- what is read from the refs on, of a state behind them -/
def restR (bs : List Int) (k : Int) (x : Msg × St) : Msg × St := rst bs k 14 (rst bs k 13 (if k = 5 then rst bs k 10 (rst bs k 9 (rst bs k 8 (rst bs k 7 (rst bs k 6 x)))) else rst bs k 9 (rst bs k 8 (rst bs k 7 (rst bs k 6 x)))))
theorem ids_readR (f : Nat) : ∀ (N : Nat) (w : World) (s : St) (m : Msg) (foot : List Nat), N < f → m.refs.length + N ≤ 1000 → Dc 68 W w g B R p n c bs s m foot → Blk w F (fcells k g) 96 → F ∉ foot → F ≠ g →
    (∀ foot' w', Dc 68 W w' g B R p n c bs (rdIDsR bs N m.refs s).2 { m with refs := (rdIDsR bs N m.refs s).1 } foot' → Blk w' F (fcells k g) 96 → F ∉ foot' → X48.j5 Q (some (at0 g 0)) (some (at0 B 0)) k (codesN k) (at0 F 0) 18446744073709551615 w') → X48.l0 Q f (some (at0 g 0)) (some (at0 B 0)) k (codesN k) (at0 F 0) 18446744073709551615 (N : Int) w := by
  induction f with
  | zero => intro k w s m foot hf; omega
  | succ f ih =>
    intro N w s m foot hf hl h hF hFf hFg hK
    rw [X48.l0]
    simp only [optP_some, add_at, Nat.zero_add]
    cases N with
    | zero => exact bc_neg (by omega) (hK foot w h hF hFf)
    | succ N =>
      refine bc_pos (by omega) (ld_int h.rd.c2 (bc_eq (fun h0 => ?_) (fun h0 => ?_)))
      · unfold X48.j2 drewK newK
        simp only [optP_some, add_at, Nat.zero_add]
        have h1 := h.keep' (Fr.drew (w := w))
        have F1 := hF.keep' (Fr.drew (w := w))
        obtain ⟨rp, rc, lp, lc, o⟩ := h1.ob
        have c1 := o.blk.cell (i := 10) rfl
        refine ld_sl c1 (rreadID_spec h1 fun w5 h5 k5 s5 => ⟨_, _, rfl, ?_⟩)
        have c5 := h1.cell_keep k5 c1
        have F5 := blk_keep' F1 k5 hFg
        have f9 : Fr [] w5 (w5.alloc (.cells #[.int .i64 (rdID bs s).1.1, .int .u64 (rdID bs s).1.2] 24)) := Fr.alloc _ _
        have h9 := h5.keep' f9
        have F9 := F5.keep' f9
        have bx := Blk.made w5 #[.int .i64 (rdID bs s).1.1, .int .u64 (rdID bs s).1.2] 24
        have c9 := f9.cell' c5
        obtain ⟨rp2, rc2, lp2, lc2, o2⟩ := h9.ob
        have e2 := o2.blk.cell (i := 10) rfl
        rw [c9] at e2
        injection e2 with e2
        injection e2 with e3 _ e4
        subst e3; subst e4
        refine ⟨⟨c1, c5⟩, ⟨c5, c9⟩, ?_⟩
        refine push_ref (x := (rdID bs s).1) h9 o2 (fun j u hj => ⟨_, rfl, ?_⟩) (by simp) (by omega) ?_
        · show World.cell? _ ((at0 w5.heap.size 0).add j) = some u
          rw [add_at, Nat.zero_add]; exact bx.cell hj
        intro foot' w14 h14 f14 e14
        obtain ⟨_, a2⟩ := away F9.lt hFf f14 e14
        rw [show IntKind.wrap .u64 (((N + 1 : Nat) : Int) - 1) = (N : Int) by rw [u64w _ (by omega) (by omega)]; omega]
        refine ih N w14 _ _ foot' (by omega) (by simp; omega) h14 (F9.keep f14 hFf) a2 hFg ?_
        rw [rdIDsR, if_pos h0] at hK
        exact hK
      · rw [rdIDsR, if_neg h0] at hK
        exact hK foot w h hF hFf
theorem lst (i : Nat) (hi : i < 14) (y : Msg × St) : (rst bs k i y).1.list = y.1.list := by
  have hc : i = 0 ∨ i = 1 ∨ i = 2 ∨ i = 3 ∨ i = 4 ∨ i = 5 ∨ i = 6 ∨ i = 7 ∨ i = 8 ∨ i = 9 ∨ i = 10 ∨ i = 11 ∨ i = 12 ∨ i = 13 := by omega
  unfold rst
  split
  · rcases hc with rfl | rfl | rfl | rfl | rfl | rfl | rfl | rfl | rfl | rfl | rfl | rfl | rfl | rfl <;> rfl
  · rfl
theorem rls (i : Nat) (hi : i < 12) (y : Msg × St) : (rst bs k i y).1.refs = y.1.refs := by
  have hc : i = 0 ∨ i = 1 ∨ i = 2 ∨ i = 3 ∨ i = 4 ∨ i = 5 ∨ i = 6 ∨ i = 7 ∨ i = 8 ∨ i = 9 ∨ i = 10 ∨ i = 11 := by omega
  unfold rst
  split
  · rcases hc with rfl | rfl | rfl | rfl | rfl | rfl | rfl | rfl | rfl | rfl | rfl | rfl <;> rfl
  · rfl
/-- one field further: what of the zero ones stays so -/
theorem Zf.of {L : List Nat} {i : Nat} {x : Msg × St} (hi : i < 15) (h : Zf (i :: L) x.1) (hn : i ∉ L) : Zf L (rst bs k i x).1 := Zf.step (m := x.1) (s := x.2) hi h hn
theorem rf_j6 {x : Msg × St} (h : DcX W w g B R p n c bs x foot) (hF : Blk w F (fcells k g) 96) (hFf : F ∉ foot) (hFg : F ≠ g) (hz : Zf [11, 12, 6, 7, 8, 9, 13] x.1) (hz10 : k = 5 → fz 10 x.1) (hk : x.1.kind = k) (hl : x.1.list.length ≤ 100) (hr : x.1.refs.length ≤ 100)
    (hK : ∀ foot' w', DcX W w' g B R p n c bs (restR bs k (rst bs k 12 (rst bs k 11 x))) foot' → Q (.tuple #[]) w') :
    X48.j6 Q (some (at0 g 0)) (some (at0 B 0)) k (codesN k) (at0 F 0) 18446744073709551615 w := by
  unfold X48.j6
  simp only [optP_some, add_at, Nat.zero_add]
  refine step_num (m := x.1) (s := x.2) (cv := .int .u64) (fun v => { x.1 with value := v }) (i := 11) (by omega) rfl (by have z := hz.head; unfold fz at z; simp only at z; rw [← z]) (fun v _ _ _ _ _ => rfl) (fun _ => rfl) (fun _ => rfl) (by omega) h hF hFf hFg ?_
  intro w1 d1 F1
  have z1 := hz.of (bs := bs) (k := k) (x := x) (i := 11) (by omega) (by decide)
  have q1 : k = 5 → fz 10 (rst bs k 11 x).1 := fun e => by have := hz10 e; exact (Zf.of (L := [10]) (bs := bs) (k := k) (i := 11) (x := x) (by omega) (fun j hj => by simp at hj; rcases hj with rfl | rfl; exact ⟨by omega, hz.head⟩; exact ⟨by omega, this⟩) (by decide)).head
  rw [← lst (bs := bs) (k := k) 11 (by omega) x] at hl
  rw [← rls (bs := bs) (k := k) 11 (by omega) x] at hr
  rw [← rst_kind (bs := bs) (k := k) (i := 11) (x := x)] at hk
  change DcX W w1 g B R p n c bs (rst bs k 11 x) foot at d1
  generalize rst bs k 11 x = x1 at *
  have z2 := z1.of (bs := bs) (k := k) (x := x1) (i := 12) (by omega) (by decide)
  have q2 : k = 5 → fz 10 (rst bs k 12 x1).1 := fun e => by have := q1 e; exact (Zf.of (L := [10]) (bs := bs) (k := k) (i := 12) (x := x1) (by omega) (fun j hj => by simp at hj; rcases hj with rfl | rfl; exact ⟨by omega, z1.head⟩; exact ⟨by omega, this⟩) (by decide)).head
  have hl2 : (rst bs k 12 x1).1.list.length ≤ 100 := by rw [lst 12 (by omega)]; exact hl
  have hk2 : (rst bs k 12 x1).1.kind = k := by rw [rst_kind]; exact hk
  refine ld_int (F1.cell rfl) (ld_ptr (F1.cell rfl) (fnum_spec (m := x1.1) (s := x1.2) 12 (by omega) d1 fun w11 h11 k11 => ⟨_, rfl, ?_⟩))
  have F11 := blk_keep' F1 k11 hFg
  by_cases hh : hasF k 12 = true
  · rw [if_pos hh] at h11 ⊢
    obtain ⟨N, hN⟩ := num64 (s2 := x1.2) (most := 2) d1
    have h3 := num_most (bs := bs) (a := x1.2.1) (bad := x1.2.2) (most := 2) (by omega)
    rw [hN]
    have e12 : rst bs k 12 x1 = ({ x1.1 with refs := (rdIDsR bs N x1.1.refs (readNum bs x1.2.1 x1.2.2 2).2).1 }, (rdIDsR bs N x1.1.refs (readNum bs x1.2.1 x1.2.2 2).2).2) := by
      unfold rst
      rw [if_pos hh]
      simp only [readFR]
      rw [hN, Int.toNat_natCast]
    refine ⟨N + 1, ids_readR (N + 1) N w11 _ x1.1 foot (by omega) (by omega) h11 F11 hFf hFg ?_⟩
    intro foot' w' h' F' a'
    rw [e12] at z2 q2 hl2 hk2 hK
    exact rf_j5 (x := ({ x1.1 with refs := (rdIDsR bs N x1.1.refs (readNum bs x1.2.1 x1.2.2 2).2).1 }, (rdIDsR bs N x1.1.refs (readNum bs x1.2.1 x1.2.2 2).2).2)) h' F' a' hFg z2 q2 hk2 hl2 hK
  · rw [if_neg hh] at h11 ⊢
    refine ⟨1, ?_⟩
    rw [X48.l0]
    refine bc_neg (by omega) ?_
    have e12 : rst bs k 12 x1 = x1 := by unfold rst; rw [if_neg hh]
    rw [e12] at z2 q2 hl2 hk2 hK
    exact rf_j5 (x := x1) h11 F11 hFf hFg z2 q2 hk2 hl2 hK
theorem rf_j7 {x : Msg × St} (h : DcX W w g B R p n c bs x foot) (hF : Blk w F (fcells k g) 96) (hFf : F ∉ foot) (hFg : F ≠ g) (hz : Zf [5, 11, 12, 6, 7, 8, 9, 13] x.1) (hz10 : k = 5 → fz 10 x.1) (hk : x.1.kind = k) (hl : x.1.list.length ≤ 100) (hr : x.1.refs.length ≤ 100)
    (hK : ∀ foot' w', DcX W w' g B R p n c bs (restR bs k (rst bs k 12 (rst bs k 11 (rst bs k 5 x)))) foot' → Q (.tuple #[]) w') :
    X48.j7 Q (some (at0 g 0)) (some (at0 B 0)) k (codesN k) (at0 F 0) 18446744073709551615 w := by
  unfold X48.j7
  simp only [optP_some, add_at, Nat.zero_add]
  have z1 := hz.of (bs := bs) (k := k) (x := x) (i := 5) (by omega) (by decide)
  have q1 : k = 5 → fz 10 (rst bs k 5 x).1 := fun e => by have := hz10 e; exact (Zf.of (L := [10]) (bs := bs) (k := k) (i := 5) (x := x) (by omega) (fun j hj => by simp at hj; rcases hj with rfl | rfl; exact ⟨by omega, hz.head⟩; exact ⟨by omega, this⟩) (by decide)).head
  have hl2 : (rst bs k 5 x).1.list.length ≤ 100 := by rw [lst 5 (by omega)]; exact hl
  have hr2 : (rst bs k 5 x).1.refs.length ≤ 100 := by rw [rls 5 (by omega)]; exact hr
  have hk2 : (rst bs k 5 x).1.kind = k := by rw [rst_kind]; exact hk
  refine has_spec 5 (by omega) fun w2 f2 => ⟨_, rfl, bc_bool (fun hh => ?_) (fun hh => ?_)⟩
  · have d2 := h.keep' f2
    have F2 := hF.keep' f2
    refine rreadID_spec (m := x.1) (s := x.2) d2 fun w5 h5 k5 _ => ⟨_, _, rfl, ?_⟩
    have F5 := blk_keep' F2 k5 hFg
    obtain ⟨rp, rc, lp, lc, o⟩ := h5.ob
    refine stAll_blk o.blk (by simp) ?_
    intro w9 b9 f9
    have hB : F ≠ B := fun e => hFf (by rw [o.ft, e]; simp)
    have e5 : rst bs k 5 x = ({ x.1 with tn := (rdID bs x.2).1.1, ts := (rdID bs x.2).1.2 }, (rdID bs x.2).2) := by unfold rst; rw [if_pos hh]; rfl
    rw [e5] at z1 q1 hl2 hr2 hk2 hK
    refine rf_j6 (x := ({ x.1 with tn := (rdID bs x.2).1.1, ts := (rdID bs x.2).1.2 }, (rdID bs x.2).2)) (h5.upd (m' := { x.1 with tn := (rdID bs x.2).1.1, ts := (rdID bs x.2).1.2 }) (rp := rp) (rc := rc) (lp := lp) (lc := lc) ⟨b9, o.refs.keep f9 (fun y hy hm => o.br (by simp at hm; rwa [← hm])), o.list.keep f9 (fun y hy hm => o.bl (by simp at hm; rwa [← hm])), o.br, o.bl, o.rl, o.ft⟩ (f9.mono fun y hy => by rw [o.ft]; simp at hy; simp [hy]) (fun y hy => .inl hy)) (F5.keep f9 (by simp; exact hB)) hFf hFg z1 q1 hk2 hl2 hr2 hK
  · have e5 : rst bs k 5 x = x := by unfold rst; rw [if_neg (by simp [hh])]
    rw [e5] at z1 q1 hl2 hr2 hk2 hK
    exact rf_j6 (x := x) (h.keep' f2) (hF.keep' f2) hFf hFg z1 q1 hk2 hl2 hr2 hK
end
end Go.Proofs.YtcmkjnoaefkkhaaX
