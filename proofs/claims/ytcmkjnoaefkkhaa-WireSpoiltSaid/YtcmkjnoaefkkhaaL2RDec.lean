/- Bytes are read as a message, or refused: the document's Decode. -/
import Derived.Test.YtcmkjnoaefkkhaaL2RFields
namespace Go.Proofs.YtcmkjnoaefkkhaaX
open Go.RowKit
set_option linter.unusedVariables false
set_option linter.unusedSimpArgs false
set_option maxRecDepth 100000
section
variable {W w : World} {g B R : Nat} {p : Option Addr} {n c : Nat} {bs : List Int} {k : Int} {foot : List Nat} {Q : Value → World → Prop}
theorem rf_j8 {x : Msg × St} (h : DcX W w g B R p n c bs x foot) (hz : Zf [0, 1, 2, 3, 4, 10, 5, 11, 12, 6, 7, 8, 9, 13] x.1) (hk : x.1.kind = k) (hl : x.1.list.length ≤ 100) (hr : x.1.refs.length ≤ 100)
    (hK : ∀ foot' w', DcX W w' g B R p n c bs (rrun bs k x) foot' → Q (.tuple #[]) w') :
    X48.j8 Q (some (at0 g 0)) (some (at0 B 0)) k (codesN k) (opsN k) w := by
  unfold X48.j8 newK
  obtain ⟨hf, f⟩ := made (w := w) (cs := #[.int .i64 0, .pointer none]) (e := 96)
  rw [show (⟨w.heap.size, 0, none⟩ : Addr) = at0 w.heap.size 0 from rfl]
  have h2 := h.keep' f
  have hFf : w.heap.size ∉ foot := fun hm => by have := h.fl _ hm; omega
  have hFg : w.heap.size ≠ g := by have := h.rd.blk.lt; omega
  have hpl := h.pg
  have hgl := h.rd.blk.lt
  have hRl := h.res.lt
  have sW := h.fr.size
  generalize hFF : w.heap.size = F at *
  generalize w.alloc _ = w2 at *
  refine stAll_blk (o := 0) hf (by simp) ?_
  intro w3 F3 f3
  have h3 : DcX W w3 g B R p n c bs x foot := by
    obtain ⟨rp, rc, lp, lc, o⟩ := h2.ob
    exact ⟨h2.rd.keep f3 (by simp; omega) (fun hne k hk hm => by have := hpl hne k hk; simp at hm; omega), ⟨rp, rc, lp, lc, o.keep f3 (fun y hy hm => by simp at hm; subst hm; exact hFf hy)⟩, h2.res.keep f3 (by simp; omega), h2.gf, h2.pf, h2.pg, h2.rf, h2.rg, h2.gW, h2.fW, fr_local h2.fr f3 (fun y hy => by simp at hy; omega)⟩
  clear h2 h f hf f3
  simp only [optP_some, add_at, Nat.zero_add]
  unfold rrun at hK
  refine step_num (m := x.1) (s := x.2) (cv := .int .u64) (fun v => { x.1 with call := v }) (i := 0) (by omega) rfl (by have z := hz.head; unfold fz at z; simp only at z; rw [← z]) (fun v _ _ _ _ _ => rfl) (fun _ => rfl) (fun _ => rfl) (by omega) h3 F3 hFf hFg ?_
  intro w4 d4 F4
  have z1 := hz.of (bs := bs) (k := k) (x := x) (i := 0) (by omega) (by decide)
  rw [← lst (bs := bs) (k := k) 0 (by omega) x] at hl
  rw [← rls (bs := bs) (k := k) 0 (by omega) x] at hr
  rw [← rst_kind (bs := bs) (k := k) (i := 0) (x := x)] at hk
  change DcX W w4 g B R p n c bs (rst bs k 0 x) foot at d4
  generalize rst bs k 0 x = x1 at *
  refine step_num (m := x1.1) (s := x1.2) (cv := .int .u64) (fun v => { x1.1 with floor := v }) (i := 1) (by omega) rfl (by have z := z1.head; unfold fz at z; simp only at z; rw [← z]) (fun v _ _ _ _ _ => rfl) (fun _ => rfl) (fun _ => rfl) (by omega) d4 F4 hFf hFg ?_
  intro w5 d5 F5
  have z2 := z1.of (bs := bs) (k := k) (x := x1) (i := 1) (by omega) (by decide)
  rw [← lst (bs := bs) (k := k) 1 (by omega) x1] at hl
  rw [← rls (bs := bs) (k := k) 1 (by omega) x1] at hr
  rw [← rst_kind (bs := bs) (k := k) (i := 1) (x := x1)] at hk
  change DcX W w5 g B R p n c bs (rst bs k 1 x1) foot at d5
  generalize rst bs k 1 x1 = x2 at *
  have hi1 := num_most (bs := bs) (a := x2.2.1) (bad := x2.2.2) (most := 4095) (by omega)
  have hi2 := (readNum_range (bs := bs) (a := x2.2.1) (bad := x2.2.2) (most := 4095) d5.wf).1
  refine step_num (m := x2.1) (s := x2.2) (cv := fun v => .int .i64 (IntKind.wrap .i64 v)) (fun v => { x2.1 with item := v }) (i := 2) (by omega) rfl (by have z := z2.head; unfold fz at z; simp only at z; rw [← z]) (fun v hv _ _ _ _ => by
    have : IntKind.wrap .i64 v = v := by
      rcases hv with rfl | rfl
      · exact i64w _ (by omega) (by omega)
      · exact i64w _ (by omega) (by omega)
    simp only [this]; rfl) (fun _ => rfl) (fun _ => rfl) (by omega) d5 F5 hFf hFg ?_
  intro w6 d6 F6
  have z3 := z2.of (bs := bs) (k := k) (x := x2) (i := 2) (by omega) (by decide)
  rw [← lst (bs := bs) (k := k) 2 (by omega) x2] at hl
  rw [← rls (bs := bs) (k := k) 2 (by omega) x2] at hr
  rw [← rst_kind (bs := bs) (k := k) (i := 2) (x := x2)] at hk
  change DcX W w6 g B R p n c bs (rst bs k 2 x2) foot at d6
  clear hi1 hi2
  generalize rst bs k 2 x2 = x3 at *
  refine step_one (m := x3.1) (s := x3.2) (most := opsN k) (fun v => { x3.1 with op := v }) (i := 3) (by omega) (by rw [← hk]; rfl) (by have z := z3.head; unfold fz at z; simp only at z; rw [← z]) (fun v _ _ _ _ => rfl) (fun _ => rfl) (fun _ => rfl) (by omega) d6 F6 hFf hFg ?_
  intro w7 d7 F7
  have z4 := z3.of (bs := bs) (k := k) (x := x3) (i := 3) (by omega) (by decide)
  rw [← lst (bs := bs) (k := k) 3 (by omega) x3] at hl
  rw [← rls (bs := bs) (k := k) 3 (by omega) x3] at hr
  rw [← rst_kind (bs := bs) (k := k) (i := 3) (x := x3)] at hk
  change DcX W w7 g B R p n c bs (rst bs k 3 x3) foot at d7
  generalize rst bs k 3 x3 = x4 at *
  refine step_one (m := x4.1) (s := x4.2) (fun v => { x4.1 with field := v }) (i := 4) (by omega) rfl (by have z := z4.head; unfold fz at z; simp only at z; rw [← z]) (fun v _ _ _ _ => rfl) (fun _ => rfl) (fun _ => rfl) (by omega) d7 F7 hFf hFg ?_
  intro w8 d8 F8
  have z5 := z4.of (bs := bs) (k := k) (x := x4) (i := 4) (by omega) (by decide)
  rw [← lst (bs := bs) (k := k) 4 (by omega) x4] at hl
  rw [← rls (bs := bs) (k := k) 4 (by omega) x4] at hr
  rw [← rst_kind (bs := bs) (k := k) (i := 4) (x := x4)] at hk
  change DcX W w8 g B R p n c bs (rst bs k 4 x4) foot at d8
  generalize rst bs k 4 x4 = x5 at *
  refine bc_ne (fun h5 => ?_) (fun h5 => ?_)
  · simp only [if_neg h5] at hK
    refine step_one (m := x5.1) (s := x5.2) (most := codesN k) (fun v => { x5.1 with code := v }) (i := 10) (by omega) (by rw [← hk]; rfl) (by have z := z5.head; unfold fz at z; simp only at z; rw [← z]) (fun v _ _ _ _ => rfl) (fun _ => rfl) (fun _ => rfl) (by omega) d8 F8 hFf hFg ?_
    intro w9 d9 F9
    have z6 := z5.of (bs := bs) (k := k) (x := x5) (i := 10) (by omega) (by decide)
    rw [← lst (bs := bs) (k := k) 10 (by omega) x5] at hl
    rw [← rls (bs := bs) (k := k) 10 (by omega) x5] at hr
    rw [← rst_kind (bs := bs) (k := k) (i := 10) (x := x5)] at hk
    refine rf_j7 (x := rst bs k 10 x5) d9 F9 hFf hFg z6 (fun e => absurd e h5) hk hl hr ?_
    intro foot' w' hd
    refine hK foot' w' ?_
    unfold restR at hd
    simp only [if_neg h5] at hd
    exact hd
  · simp only [if_pos h5] at hK
    refine rf_j7 (x := x5) d8 F8 hFf hFg z5.tail (fun _ => z5.head) hk hl hr ?_
    intro foot' w' hd
    refine hK foot' w' ?_
    unfold restR at hd
    simp only [if_pos h5] at hd
    exact hd
theorem rfields_spec {x : Msg × St} (h : DcX W w g B R p n c bs x foot) (hz : Zf [0, 1, 2, 3, 4, 10, 5, 11, 12, 6, 7, 8, 9, 13] x.1) (hl : x.1.list.length ≤ 100) (hr : x.1.refs.length ≤ 100)
    (hK : ∀ foot' w', DcX W w' g B R p n c bs (rrun bs x.1.kind x) foot' → Q (.tuple #[]) w') : CallR Try.prog 48 #[.pointer (some (at0 g 0)), .pointer (some (at0 B 0))] w Q := by
  refine X48.sound _ _ _ _ ?_
  unfold X48.f
  simp only [optP_some, add_at, Nat.zero_add]
  have go := rf_j8 h hz rfl hl hr hK
  obtain ⟨rp, rc, lp, lc, o⟩ := h.ob
  refine ld_int (o.blk.cell rfl) ?_
  unfold X48.j9
  refine bc_eq (fun h8 => ?_) (fun h8 => ?_)
  · have e1 : opsN x.1.kind = 3 := by unfold opsN; rw [if_pos h8]
    have e2 : codesN x.1.kind = 10 := by unfold codesN; rw [if_neg (by omega)]
    rw [e1, e2] at go
    exact bc_eqf (by omega) go
  · have e1 : opsN x.1.kind = 6 := by unfold opsN; rw [if_neg h8]
    rw [e1] at go
    refine bc_eq (fun h9 => ?_) (fun h9 => ?_)
    · have e2 : codesN x.1.kind = 2 := by unfold codesN; rw [if_pos h9]
      rw [e2] at go; exact go
    · have e2 : codesN x.1.kind = 10 := by unfold codesN; rw [if_neg h9]
      rw [e2] at go; exact go
theorem rf_end {x : Msg × St} (hR : W.heap.size ≤ R) (h : DcX W w g B R p n c bs x foot) (hr : x.1.refs.length ≤ 1000) (hl : x.1.list.length ≤ 1000) (hK : DecK W (ansOf bs x) Q) : X21.j0 Q (at0 R 0) (at0 g 0) (at0 B 0) w := by
  unfold X21.j0
  simp only [add_at, Nat.zero_add, Nat.add_zero]
  unfold ansOf at hK
  refine rend_spec h.rd fun w4 f4 => ⟨_, rfl, ?_⟩
  have h4 := h.keep' f4
  obtain ⟨rp, rc, lp, lc, o4⟩ := h4.ob
  refine bc_ne (fun e0 => ?_) (fun e0 => ?_)
  · rw [if_pos (by simpa using e0)] at hK
    exact tell (m := mZero) (rp := none) (rc := 0) (lp := none) (lc := 0) h4.res rfl (tellZero hR h4.res h4.fr fun w' d => hK none 0 none 0 w' d)
  · rw [if_neg (by simpa using e0)] at hK
    refine ld_msg o4.blk (rRight_spec (m := x.1) (rp := rp) (rc := rc) (lp := lp) (lc := lc) (o4.mm hr hl) fun b w26 hb26 f26 => ⟨_, rfl, ?_⟩)
    have h26 := h4.keep' f26
    have o26 := o4.keep' f26
    refine bc_bool (fun e => ?_) (fun e => ?_)
    · rw [if_neg (not_true hb26 e)] at hK
      exact tell (m := mZero) (rp := none) (rc := 0) (lp := none) (lc := 0) h26.res rfl (tellZero hR h26.res h26.fr fun w' d => hK none 0 none 0 w' d)
    · have hr' := of_not hb26 e
      rw [if_pos hr'] at hK
      refine ld_msg o26.blk (tell (m := x.1) (rp := rp) (rc := rc) (lp := lp) (lc := lc) h26.res rfl fun w' b' f' => hK rp rc lp lc w' ?_)
      have hft := o26.ft
      have hRf := h26.rf
      have hfW := h26.fW
      exact ⟨o26.refs.keep f' (fun y hy hm => hRf (by simp at hm; rw [← hm, hft]; simp [hy])), o26.list.keep f' (fun y hy hm => hRf (by simp at hm; rw [← hm, hft]; simp [hy])), fun y hy => hfW y (by rw [hft]; simp [hy]), fun y hy => hfW y (by rw [hft]; simp [hy]), o26.rl, hr, hl, h26.fr.trans f' (fun y hy => .inr (by simp at hy; omega))⟩
theorem rst_refs {i : Nat} (hi : i < 15) (h : i ≠ 12) (y : Msg × St) : (rst bs k i y).1.refs = y.1.refs := by
  have hc : i = 0 ∨ i = 1 ∨ i = 2 ∨ i = 3 ∨ i = 4 ∨ i = 5 ∨ i = 6 ∨ i = 7 ∨ i = 8 ∨ i = 9 ∨ i = 10 ∨ i = 11 ∨ i = 13 ∨ i = 14 := by omega
  unfold rst
  split
  · rcases hc with rfl | rfl | rfl | rfl | rfl | rfl | rfl | rfl | rfl | rfl | rfl | rfl | rfl | rfl <;> rfl
  · rfl
theorem rst_list {i : Nat} (hi : i < 15) (h : i ≠ 14) (y : Msg × St) : (rst bs k i y).1.list = y.1.list := lst i (by omega) y
theorem rdIDsR_len : ∀ (N : Nat) (l : List (Int × Int)) (s : St), (rdIDsR bs N l s).1.length ≤ l.length + N
  | 0, l, s => Nat.le_refl _
  | N + 1, l, s => by
    rw [rdIDsR]
    split
    · have := rdIDsR_len N (l ++ [(rdID bs s).1]) (rdID bs s).2
      simp at this; omega
    · simp only; omega
theorem rdNsR_len : ∀ (N : Nat) (l : List Int) (s : St), (rdNsR bs N l s).1.length ≤ l.length + N
  | 0, l, s => Nat.le_refl _
  | N + 1, l, s => by
    rw [rdNsR]
    split
    · have := rdNsR_len N (l ++ [(readNum bs s.1 s.2 72057594037927935).1]) (readNum bs s.1 s.2 72057594037927935).2
      simp at this; omega
    · simp only; omega
theorem rst12_len (y : Msg × St) : (rst bs k 12 y).1.refs.length ≤ y.1.refs.length + 2 := by
  unfold rst
  split
  · simp only [readFR]
    have h1 := rdIDsR_len (bs := bs) (readNum bs y.2.1 y.2.2 2).1.toNat y.1.refs (readNum bs y.2.1 y.2.2 2).2
    have h2 := num_most (bs := bs) (a := y.2.1) (bad := y.2.2) (most := 2) (by omega)
    omega
  · omega
theorem rst14_len (y : Msg × St) : (rst bs k 14 y).1.list.length ≤ y.1.list.length + 64 := by
  unfold rst
  split
  · simp only [readFR]
    have h1 := rdNsR_len (bs := bs) (readNum bs y.2.1 y.2.2 64).1.toNat y.1.list (readNum bs y.2.1 y.2.2 64).2
    have h2 := num_most (bs := bs) (a := y.2.1) (bad := y.2.2) (most := 64) (by omega)
    omega
  · omega
theorem rrun_len (x : Msg × St) : (rrun bs k x).1.refs.length ≤ x.1.refs.length + 2 ∧ (rrun bs k x).1.list.length ≤ x.1.list.length + 64 := by
  unfold rrun
  constructor
  · by_cases h : k = 5
    · simp only [if_pos h]
      rw [rst_refs (by omega) (by omega), rst_refs (by omega) (by omega), rst_refs (by omega) (by omega), rst_refs (by omega) (by omega), rst_refs (by omega) (by omega), rst_refs (by omega) (by omega), rst_refs (by omega) (by omega)]
      refine Nat.le_trans (rst12_len _) ?_
      rw [rst_refs (by omega) (by omega), rst_refs (by omega) (by omega), rst_refs (by omega) (by omega), rst_refs (by omega) (by omega), rst_refs (by omega) (by omega), rst_refs (by omega) (by omega), rst_refs (by omega) (by omega)]
      exact Nat.le_refl _
    · simp only [if_neg h]
      rw [rst_refs (by omega) (by omega), rst_refs (by omega) (by omega), rst_refs (by omega) (by omega), rst_refs (by omega) (by omega), rst_refs (by omega) (by omega), rst_refs (by omega) (by omega)]
      refine Nat.le_trans (rst12_len _) ?_
      rw [rst_refs (by omega) (by omega), rst_refs (by omega) (by omega), rst_refs (by omega) (by omega), rst_refs (by omega) (by omega), rst_refs (by omega) (by omega), rst_refs (by omega) (by omega), rst_refs (by omega) (by omega), rst_refs (by omega) (by omega)]
      exact Nat.le_refl _
  · refine Nat.le_trans (rst14_len _) ?_
    by_cases h : k = 5
    · simp only [if_pos h]
      rw [rst_list (by omega) (by omega), rst_list (by omega) (by omega), rst_list (by omega) (by omega), rst_list (by omega) (by omega), rst_list (by omega) (by omega), rst_list (by omega) (by omega), rst_list (by omega) (by omega), rst_list (by omega) (by omega), rst_list (by omega) (by omega), rst_list (by omega) (by omega), rst_list (by omega) (by omega), rst_list (by omega) (by omega), rst_list (by omega) (by omega), rst_list (by omega) (by omega)]
      exact Nat.le_refl _
    · simp only [if_neg h]
      rw [rst_list (by omega) (by omega), rst_list (by omega) (by omega), rst_list (by omega) (by omega), rst_list (by omega) (by omega), rst_list (by omega) (by omega), rst_list (by omega) (by omega), rst_list (by omega) (by omega), rst_list (by omega) (by omega), rst_list (by omega) (by omega), rst_list (by omega) (by omega), rst_list (by omega) (by omega), rst_list (by omega) (by omega), rst_list (by omega) (by omega), rst_list (by omega) (by omega)]
      exact Nat.le_refl _
theorem readByte_le {a : Nat} {bad most : Int} (hm : 0 ≤ most) : (readByte bs a bad most).1 ≤ most := by
  unfold readByte
  split
  · exact hm
  · split
    · exact hm
    · split
      · exact hm
      · rename_i h; simp only; omega
theorem RDecode_spec {x : Option Addr} (hb : ByS w x n c bs) (hn : n ≤ 140737488354000) (hK : DecK w (decOf bs) Q) : CallR Try.prog 21 #[.slice x n c] w Q := by
  refine X21.sound _ _ _ _ _ ?_
  unfold X21.f newK
  have hlen := hb.len
  obtain ⟨hz, f⟩ := made (w := w) (cs := #[.int .i64 (0 : Int), .int .i64 (0 : Int), .int .i64 (0 : Int), .int .u64 (0 : Int), .int .u64 (0 : Int), .int .i64 (0 : Int), .int .i64 (0 : Int), .int .i64 (0 : Int), .int .i64 (0 : Int), .int .u64 (0 : Int), .slice none 0 0, .int .u64 (0 : Int), .int .i64 (0 : Int), .int .u64 (0 : Int), .int .i64 (0 : Int), .int .u64 (0 : Int), .int .i64 (0 : Int), .int .u64 (0 : Int), .slice none 0 0]) (e := 28)
  rw [show (⟨w.heap.size, 0, none⟩ : Addr) = at0 w.heap.size 0 from rfl]
  have hz' : Blk (w.alloc (.cells #[.int .i64 (0 : Int), .int .i64 (0 : Int), .int .i64 (0 : Int), .int .u64 (0 : Int), .int .u64 (0 : Int), .int .i64 (0 : Int), .int .i64 (0 : Int), .int .i64 (0 : Int), .int .i64 (0 : Int), .int .u64 (0 : Int), .slice none 0 0, .int .u64 (0 : Int), .int .i64 (0 : Int), .int .u64 (0 : Int), .int .i64 (0 : Int), .int .u64 (0 : Int), .int .i64 (0 : Int), .int .u64 (0 : Int), .slice none 0 0] 28)) w.heap.size (mZero.cells none 0 none 0) 28 := hz
  clear hz
  have hRl := hz'.lt
  generalize hRR : w.heap.size = R at *
  generalize w.alloc _ = w2 at *
  simp only [add_at, Nat.zero_add, Nat.add_zero]
  unfold decOf at hK
  generalize hN : (1024 : Int) = N
  refine bc_dec (fun h1 => ?_) (fun h1 => ?_)
  · subst hN
    rw [if_pos (by omega)] at hK
    exact tell (m := mZero) (rp := none) (rc := 0) (lp := none) (lc := 0) hz' rfl (tellZero (by omega) hz' f fun w' d => hK none 0 none 0 w' d)
  · subst hN
    rw [if_neg (by omega)] at hK
    refine runseal_spec (hb.keep' f) (by omega) ?_
    intro q j d w24 b24 f24
    refine ⟨_, _, _, _, rfl, ?_⟩
    have z24 := hz'.keep' f24
    have g24 := f.tr f24
    refine bc_ne (fun hne => ?_) (fun he => ?_)
    · rw [if_pos (by simpa using hne)] at hK
      exact tell (m := mZero) (rp := none) (rc := 0) (lp := none) (lc := 0) z24 rfl (tellZero (by omega) z24 g24 fun w' d => hK none 0 none 0 w' d)
    · rw [if_neg (by simpa using he)] at hK
      have hkn := b24.len
      have hul : (unsealOf bs).1.length ≤ bs.length := by
        unfold unsealOf
        split
        · simp
        · split <;> simp
      have hbl := b24.lt
      have fr48 : Fr [] w24 (w24.alloc (.cells #[.slice q j d, .int .i64 (0 : Int), .int .i64 (0 : Int)] 68)) := Fr.alloc _ _
      have hrb := Blk.made w24 #[.slice q j d, .int .i64 (0 : Int), .int .i64 (0 : Int)] 68
      rw [show (⟨w24.heap.size, 0, none⟩ : Addr) = at0 w24.heap.size 0 from rfl]
      have r48 : Rd 68 (w24.alloc (.cells #[.slice q j d, .int .i64 (0 : Int), .int .i64 (0 : Int)] 68)) w24.heap.size q j d (unsealOf bs).1 0 0 := ⟨hrb, b24.keep' fr48, fun hne y hy he => by have := hbl hne y hy; omega, Nat.zero_le _, by omega⟩
      have z48 := z24.keep' fr48
      have g48 := g24.tr fr48
      have zl := z24.lt
      have s24 := g24.size
      have rl := hrb.lt
      generalize w24.heap.size = g at *
      generalize w24.alloc _ = w48 at *
      obtain ⟨hbm, f51⟩ := made (w := w48) (cs := #[.int .i64 (0 : Int), .int .i64 (0 : Int), .int .i64 (0 : Int), .int .u64 (0 : Int), .int .u64 (0 : Int), .int .i64 (0 : Int), .int .i64 (0 : Int), .int .i64 (0 : Int), .int .i64 (0 : Int), .int .u64 (0 : Int), .slice none 0 0, .int .u64 (0 : Int), .int .i64 (0 : Int), .int .u64 (0 : Int), .int .i64 (0 : Int), .int .u64 (0 : Int), .int .i64 (0 : Int), .int .u64 (0 : Int), .slice none 0 0]) (e := 28)
      rw [show (⟨w48.heap.size, 0, none⟩ : Addr) = at0 w48.heap.size 0 from rfl]
      have hd0 : Dc 68 w (w48.alloc (.cells #[.int .i64 (0 : Int), .int .i64 (0 : Int), .int .i64 (0 : Int), .int .u64 (0 : Int), .int .u64 (0 : Int), .int .i64 (0 : Int), .int .i64 (0 : Int), .int .i64 (0 : Int), .int .i64 (0 : Int), .int .u64 (0 : Int), .slice none 0 0, .int .u64 (0 : Int), .int .i64 (0 : Int), .int .u64 (0 : Int), .int .i64 (0 : Int), .int .u64 (0 : Int), .int .i64 (0 : Int), .int .u64 (0 : Int), .slice none 0 0] 28)) g w48.heap.size R q j d (unsealOf bs).1 (0, 0) mZero [w48.heap.size] := by
        refine ⟨r48.keep' f51, ⟨none, 0, none, 0, hbm, Own.nil, Own.nil, by simp [fbl], by simp [fbl], by simp [fbl], rfl⟩, z48.keep' f51, by simp; omega, fun hne y hy => ?_, fun hne y hy => hbl hne y hy, by simp; omega, by omega, by omega, fun y hy => by simp at hy; omega, g48.tr f51⟩
        have := hbl hne y hy; simp; omega
      generalize w48.heap.size = B at *
      generalize w48.alloc _ = w51 at *
      refine hd0.rbyte fun w53 h53 _ => ⟨_, rfl, ?_⟩
      rw [rbyte_i64 hd0]
      obtain ⟨a1, a2⟩ := Dc.store (m := mZero) (m' := { mZero with kind := (readByte (unsealOf bs).1 0 0 11).1 }) (j := 0) (v := .int .i64 (readByte (unsealOf bs).1 0 0 11).1) (fun _ _ _ _ => rfl) rfl rfl (by omega) h53
      refine ⟨a1, ?_⟩
      obtain ⟨rp, rc, lp, lc, o⟩ := a2.ob
      refine ld_int (o.blk.cell rfl) ?_
      have hk0 := readByte_range (bs := (unsealOf bs).1) (a := 0) (bad := 0) (most := 11) hd0.wf
      have hk1 := readByte_le (bs := (unsealOf bs).1) (a := 0) (bad := 0) (most := 11) (by omega)
      have hans : fieldsN (headOf (unsealOf bs).1).1.kind ≠ 0 → ansOf (unsealOf bs).1 (rrun (unsealOf bs).1 (headOf (unsealOf bs).1).1.kind (headOf (unsealOf bs).1)) = decB (unsealOf bs).1 := ans_eq _
      unfold decB at hK hans
      have hh : headOf (unsealOf bs).1 = if fieldsN (readByte (unsealOf bs).1 0 0 11).1 ≠ 0 then ({ mZero with kind := (readByte (unsealOf bs).1 0 0 11).1, frm := (readByte (unsealOf bs).1 (readByte (unsealOf bs).1 0 0 11).2.1 (readByte (unsealOf bs).1 0 0 11).2.2 64).1, to := (readByte (unsealOf bs).1 (readByte (unsealOf bs).1 (readByte (unsealOf bs).1 0 0 11).2.1 (readByte (unsealOf bs).1 0 0 11).2.2 64).2.1 (readByte (unsealOf bs).1 (readByte (unsealOf bs).1 0 0 11).2.1 (readByte (unsealOf bs).1 0 0 11).2.2 64).2.2 64).1 }, (readByte (unsealOf bs).1 (readByte (unsealOf bs).1 (readByte (unsealOf bs).1 0 0 11).2.1 (readByte (unsealOf bs).1 0 0 11).2.2 64).2.1 (readByte (unsealOf bs).1 (readByte (unsealOf bs).1 0 0 11).2.1 (readByte (unsealOf bs).1 0 0 11).2.2 64).2.2 64).2) else ({ mZero with kind := (readByte (unsealOf bs).1 0 0 11).1 }, (readByte (unsealOf bs).1 0 0 11).2) := rfl
      generalize hk : readByte (unsealOf bs).1 0 0 11 = kb at *
      refine bc_dec (fun hf => ?_) (fun hf => ?_)
      · have hf : kb.1 > 0 := hf
        have hf' : fieldsN kb.1 ≠ 0 := fieldsN_zero.2 ⟨by omega, by omega⟩
        rw [if_pos hf'] at hh
        refine a2.rbyte fun w61 h61 _ => ⟨_, rfl, ?_⟩
        rw [rbyte_i64 hd0]
        obtain ⟨c1, c2⟩ := Dc.store (m := { mZero with kind := kb.1 }) (m' := { mZero with kind := kb.1, frm := (readByte (unsealOf bs).1 kb.2.1 kb.2.2 64).1 }) (j := 1) (v := .int .i64 (readByte (unsealOf bs).1 kb.2.1 kb.2.2 64).1) (fun _ _ _ _ => rfl) rfl rfl (by omega) h61
        refine ⟨c1, c2.rbyte fun w65 h65 _ => ⟨_, rfl, ?_⟩⟩
        rw [rbyte_i64 hd0]
        generalize hfb : readByte (unsealOf bs).1 kb.2.1 kb.2.2 64 = fb at *
        obtain ⟨d1, d3⟩ := Dc.store (m := { mZero with kind := kb.1, frm := fb.1 }) (m' := { mZero with kind := kb.1, frm := fb.1, to := (readByte (unsealOf bs).1 fb.2.1 fb.2.2 64).1 }) (j := 2) (v := .int .i64 (readByte (unsealOf bs).1 fb.2.1 fb.2.2 64).1) (fun _ _ _ _ => rfl) rfl rfl (by omega) h65
        rw [hh] at hK hans
        have hans := hans hf'
        rw [← hans] at hK
        refine ⟨d1, rfields_spec (x := ({ mZero with kind := kb.1, frm := fb.1, to := (readByte (unsealOf bs).1 fb.2.1 fb.2.2 64).1 }, (readByte (unsealOf bs).1 fb.2.1 fb.2.2 64).2)) d3 ?_ (by simp) (by simp) ?_⟩
        · intro i hi
          simp only [List.mem_cons, List.not_mem_nil, or_false] at hi
          rcases hi with rfl | rfl | rfl | rfl | rfl | rfl | rfl | rfl | rfl | rfl | rfl | rfl | rfl | rfl <;> exact ⟨by omega, by simp [fz]⟩
        · intro foot' w' hd
          have hlens := rrun_len (bs := (unsealOf bs).1) (k := kb.1) ({ mZero with kind := kb.1, frm := fb.1, to := (readByte (unsealOf bs).1 fb.2.1 fb.2.2 64).1 }, (readByte (unsealOf bs).1 fb.2.1 fb.2.2 64).2)
          simp only [List.length_nil, Nat.zero_add] at hlens
          exact ⟨rfl, rf_end (by omega) hd (by have := hlens.1; simp only; omega) (by have := hlens.2; simp only; omega) hK⟩
      · have hf : ¬ kb.1 > 0 := hf
        have h0 : kb.1 = 0 := by omega
        have hf' : fieldsN kb.1 = 0 := fieldsN_out (by omega)
        rw [if_neg (by simp [hf'])] at hh
        rw [hh, prun_none hf'] at hK
        exact rf_end (x := ({ mZero with kind := kb.1 }, kb.2)) (by omega) a2 (by simp) (by simp) hK
end
end Go.Proofs.YtcmkjnoaefkkhaaX
