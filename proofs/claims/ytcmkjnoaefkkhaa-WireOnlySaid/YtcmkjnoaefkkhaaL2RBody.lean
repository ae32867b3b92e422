/- A message is laid and sealed: the document's Encode. -/
import Derived.Test.YtcmkjnoaefkkhaaL2REnc
namespace Go.Proofs.YtcmkjnoaefkkhaaX
open Go.RowKit
set_option linter.unusedVariables false
set_option linter.unusedSimpArgs false
set_option maxRecDepth 100000
def r2 (m : Msg) : List Int := hasB m 13 ++ hasB m 14
def r3 (m : Msg) : List Int := hasB m 6 ++ (hasB m 7 ++ (hasB m 8 ++ (hasB m 9 ++ ((if m.kind = 5 then hasB m 10 else []) ++ r2 m))))
def r4 (m : Msg) : List Int := hasB m 11 ++ (hasB m 12 ++ r3 m)
def r5 (m : Msg) : List Int := hasB m 5 ++ r4 m
def rAll (m : Msg) : List Int := hasB m 0 ++ (hasB m 1 ++ (hasB m 2 ++ (hasB m 3 ++ (hasB m 4 ++ ((if m.kind = 2 ∨ m.kind = 9 then hasB m 10 else []) ++ r5 m)))))
theorem hasB_off {m : Msg} {i : Nat} (h : hasF m.kind i = false) : hasB m i = [] := by unfold hasB; rw [if_neg (by simp [h])]
theorem has_off_fin : ∀ k : Fin 11, ∀ i : Fin 15, hasF ((k.val + 1 : Nat) : Int) i.val = ((fieldsN ((k.val + 1 : Nat) : Int)).testBit i.val) := by decide +kernel
/-- in whatever order the document lays: each kind's fields are laid in the program's -/
theorem rAll_eq {m : Msg} (hk : 1 ≤ m.kind ∧ m.kind ≤ 11) : [m.kind, m.frm, m.to] ++ rAll m = encB m := by
  have e : fieldsFrom m 0 = hasB m 0 ++ (hasB m 1 ++ (hasB m 2 ++ (hasB m 3 ++ (hasB m 4 ++ (hasB m 5 ++ (hasB m 6 ++ (hasB m 7 ++ (hasB m 8 ++ (hasB m 9 ++ (hasB m 10 ++ (hasB m 11 ++ (hasB m 12 ++ (hasB m 13 ++ (hasB m 14 ++ [])))))))))))))) := by
    rw [fieldsFrom_step (by omega), fieldsFrom_step (by omega), fieldsFrom_step (by omega), fieldsFrom_step (by omega), fieldsFrom_step (by omega), fieldsFrom_step (by omega), fieldsFrom_step (by omega), fieldsFrom_step (by omega), fieldsFrom_step (by omega), fieldsFrom_step (by omega), fieldsFrom_step (by omega), fieldsFrom_step (by omega), fieldsFrom_step (by omega), fieldsFrom_step (by omega), fieldsFrom_step (by omega), fieldsFrom_end]
  unfold encB
  rw [e]
  congr 1
  unfold rAll r5 r4 r3 r2
  have hc : m.kind = 1 ∨ m.kind = 2 ∨ m.kind = 3 ∨ m.kind = 4 ∨ m.kind = 5 ∨ m.kind = 6 ∨ m.kind = 7 ∨ m.kind = 8 ∨ m.kind = 9 ∨ m.kind = 10 ∨ m.kind = 11 := by omega
  have off : ∀ i, hasF m.kind i = false → hasB m i = [] := fun i h => hasB_off h
  rcases hc with h | h | h | h | h | h | h | h | h | h | h <;> rw [h] at off <;> rw [h]
  · rw [off 2 (by decide +kernel), off 6 (by decide +kernel), off 7 (by decide +kernel), off 8 (by decide +kernel), off 9 (by decide +kernel), off 10 (by decide +kernel), off 13 (by decide +kernel), off 14 (by decide +kernel)]; simp
  · rw [off 1 (by decide +kernel), off 2 (by decide +kernel), off 3 (by decide +kernel), off 4 (by decide +kernel), off 5 (by decide +kernel), off 6 (by decide +kernel), off 7 (by decide +kernel), off 8 (by decide +kernel), off 9 (by decide +kernel), off 13 (by decide +kernel), off 14 (by decide +kernel)]; simp
  · rw [off 1 (by decide +kernel), off 2 (by decide +kernel), off 3 (by decide +kernel), off 4 (by decide +kernel), off 5 (by decide +kernel), off 6 (by decide +kernel), off 7 (by decide +kernel), off 8 (by decide +kernel), off 9 (by decide +kernel), off 10 (by decide +kernel), off 11 (by decide +kernel), off 12 (by decide +kernel), off 13 (by decide +kernel), off 14 (by decide +kernel)]; simp
  · rw [off 0 (by decide +kernel), off 1 (by decide +kernel), off 2 (by decide +kernel), off 3 (by decide +kernel), off 4 (by decide +kernel), off 10 (by decide +kernel), off 11 (by decide +kernel), off 12 (by decide +kernel), off 13 (by decide +kernel), off 14 (by decide +kernel)]; simp
  · rw [off 0 (by decide +kernel), off 1 (by decide +kernel), off 2 (by decide +kernel), off 3 (by decide +kernel), off 4 (by decide +kernel), off 7 (by decide +kernel), off 9 (by decide +kernel), off 11 (by decide +kernel), off 12 (by decide +kernel), off 13 (by decide +kernel), off 14 (by decide +kernel)]; simp
  · rw [off 0 (by decide +kernel), off 1 (by decide +kernel), off 2 (by decide +kernel), off 3 (by decide +kernel), off 4 (by decide +kernel), off 7 (by decide +kernel), off 8 (by decide +kernel), off 9 (by decide +kernel), off 10 (by decide +kernel), off 11 (by decide +kernel), off 12 (by decide +kernel), off 13 (by decide +kernel), off 14 (by decide +kernel)]; simp
  · rw [off 0 (by decide +kernel), off 1 (by decide +kernel), off 2 (by decide +kernel), off 3 (by decide +kernel), off 4 (by decide +kernel), off 7 (by decide +kernel), off 8 (by decide +kernel), off 9 (by decide +kernel), off 10 (by decide +kernel), off 11 (by decide +kernel), off 12 (by decide +kernel), off 13 (by decide +kernel), off 14 (by decide +kernel)]; simp
  · rw [off 1 (by decide +kernel), off 4 (by decide +kernel), off 6 (by decide +kernel), off 7 (by decide +kernel), off 8 (by decide +kernel), off 9 (by decide +kernel), off 10 (by decide +kernel), off 11 (by decide +kernel), off 12 (by decide +kernel), off 13 (by decide +kernel), off 14 (by decide +kernel)]; simp
  · rw [off 1 (by decide +kernel), off 3 (by decide +kernel), off 4 (by decide +kernel), off 5 (by decide +kernel), off 6 (by decide +kernel), off 7 (by decide +kernel), off 8 (by decide +kernel), off 9 (by decide +kernel), off 11 (by decide +kernel), off 12 (by decide +kernel)]; simp
  · rw [off 1 (by decide +kernel), off 3 (by decide +kernel), off 4 (by decide +kernel), off 6 (by decide +kernel), off 7 (by decide +kernel), off 8 (by decide +kernel), off 9 (by decide +kernel), off 10 (by decide +kernel), off 11 (by decide +kernel), off 12 (by decide +kernel), off 14 (by decide +kernel)]; simp
  · rw [off 1 (by decide +kernel), off 3 (by decide +kernel), off 4 (by decide +kernel), off 5 (by decide +kernel), off 6 (by decide +kernel), off 7 (by decide +kernel), off 8 (by decide +kernel), off 9 (by decide +kernel), off 10 (by decide +kernel), off 11 (by decide +kernel), off 12 (by decide +kernel), off 13 (by decide +kernel), off 14 (by decide +kernel)]; simp
section
variable {W w : World} {g B : Nat} {foot : List Nat} {bs : List Int} {Q : Value → World → Prop} {m : Msg} {rp lp : Option Addr} {rc lc : Nat}
/-- what the body answers -/
def BodyK (W : World) (bs : List Int) (Q : Value → World → Prop) : Prop := ∀ p c w', Own 5 1 w' p bs.length c (u8s bs) → (∀ b ∈ bs, 0 ≤ b ∧ b ≤ 255) → Fr [] W w' → (∀ x ∈ fbl p, W.heap.size ≤ x) → Q (.slice p bs.length c) w'
theorem fit (hr : Right m) {i : Nat} (hi : i < 15) (h : hasF m.kind i = true) : fits m i := by
  have := hr.2.2.2.2 i hi
  unfold okF at this
  rwa [if_pos h] at this
theorem body_end (h : Lw W w g m.kind foot bs) (hK : BodyK W bs Q) : ldSl w (at0 g 1) fun x p c => Q (.slice x p c) w := by
  obtain ⟨⟨p, c, s⟩, hW, hf⟩ := h
  refine ld_sl s.c1 (hK p c w s.own s.wf hf (fun x hx => hW x (by rw [s.ft]; simp [hx])))
theorem body_l1 (hr : Right m) (h14 : hasF m.kind 14 = true) (hm : MM W m rp rc lp lc) (f : Nat) : ∀ (i : Nat) (w : World) (foot : List Nat) (bs : List Int), m.list.length - i < f → i ≤ m.list.length → Lw W w g m.kind foot bs → Blk w B (m.cells rp rc lp lc) 28 → B ∉ foot → bs.length + 10 * (m.list.length - i) ≤ 140737488355328 →
    BodyK W (bs ++ (m.list.drop i).flatMap fun n => numB n.toNat) Q → X38.l1 Q f (at0 B 0) (at0 g 0) (i : Int) w := by
  have hfit := fit hr (i := 14) (by omega) h14
  induction f with
  | zero => intro i w foot bs hf; omega
  | succ f ih =>
    intro i w foot bs hf hi h hb hn hl hK
    have hl64 := hfit.2
    rw [X38.l1]
    simp only [add_at, Nat.zero_add, Nat.add_zero]
    refine ld_sl (hb.cell rfl) (bc_dec (fun h1 => ?_) (fun h1 => ?_))
    · unfold drewK
      have f0 : Fr [] w w.drew := Fr.drew
      have hlt : i < m.list.length := by omega
      have hg := List.getElem?_eq_getElem hlt
      have hdr : m.list.drop i = m.list[i] :: m.list.drop (i + 1) := List.drop_eq_getElem_cons hlt
      generalize m.list[i] = x at hg hdr
      have hx := (hfit.1 i x hg).1
      unfold okSerial at hx
      have h0 := h.keep' f0
      obtain ⟨⟨p, c, s⟩, hW, hf'⟩ := h0
      have hc := hm.list.keep' hf'
      obtain ⟨q, hq, c0⟩ := cell_u64 hc hg
      have b0 := hb.keep' f0
      refine ld_sl s.c1 (ld_sl (b0.cell rfl) ⟨⟨by omega, by omega⟩, opt_some hq (ld_int (by rw [Int.toNat_natCast]; exact c0) ?_)⟩)
      obtain ⟨N, rfl⟩ := Int.eq_ofNat_of_zero_le (show 0 ≤ x by omega)
      refine rnum_spec (by omega) ?_
      intro q' d w3 o3 f3 e3
      have s3 := s.keep' f3
      have h10 := numB_len10 (n := N) (by omega)
      refine ⟨_, _, _, rfl, ⟨s.c1, s3.c1⟩, lw_app hW (hf'.tr f3) s3 (ByS.of_own o3 (numB_wf N)) (by omega) ?_⟩
      intro ft w5 l5 f5 e5
      rw [show IntKind.wrap .i64 ((i : Int) + 1) = ((i + 1 : Nat) : Int) by rw [i64w _ (by omega) (by omega)]; omega]
      have b3 := b0.keep' f3
      obtain ⟨_, a2⟩ := away b3.lt hn f5 e5
      refine ih (i + 1) w5 ft _ (by omega) (by omega) l5 (b3.keep f5 hn) a2 (by rw [List.length_append]; omega) ?_
      rw [hdr] at hK
      have e : bs ++ numB N ++ (m.list.drop (i + 1)).flatMap (fun n => numB n.toNat) = bs ++ ((N : Int) :: m.list.drop (i + 1)).flatMap (fun n => numB n.toNat) := by simp
      rw [e]; exact hK
    · have : m.list.drop i = [] := List.drop_eq_nil_of_le (by omega)
      rw [this] at hK
      exact body_end h (by simpa using hK)
theorem body_j2 (hr : Right m) (hwf : Wf m) (hm : MM W m rp rc lp lc) (h : Lw W w g m.kind foot bs) (hb : Blk w B (m.cells rp rc lp lc) 28) (hn : B ∉ foot) (hl : bs.length ≤ 100000) (hK : BodyK W (bs ++ r2 m) Q) : X38.j2 Q (at0 B 0) (at0 g 0) w := by
  unfold X38.j2
  simp only [add_at, Nat.zero_add, Nat.add_zero]
  refine ld_int (hb.cell rfl) (rl_num 13 (by omega) (fun _ => hwf.stamp) h (by omega) ?_)
  intro ft1 w1 l1 f1 e1
  have b1 := hb.keep f1 hn
  obtain ⟨_, n1⟩ := away hb.lt hn f1 e1
  refine ⟨rfl, ld_int (b1.cell rfl) (has_spec 14 (by omega) fun w2 f2 => ⟨_, rfl, ?_⟩)⟩
  have l2 := l1.keep' f2
  have b2 := b1.keep' f2
  have e13 : hN m.kind 13 (numB m.stamp.toNat) = hasB m 13 := rfl
  rw [e13] at l2
  unfold r2 at hK
  have hl13 := hasB_len (m := m) (i := 13) (by omega) hr hwf
  refine bc_bool (fun hh => ?_) (fun hh => ?_)
  · have e14 : hasB m 14 = numB m.list.length ++ m.list.flatMap fun n => numB n.toNat := by unfold hasB; rw [if_pos hh]; rfl
    rw [e14] at hK
    unfold drewK
    have f0 : Fr [] w2 w2.drew := Fr.drew
    have l3 := l2.keep' f0
    have b3 := b2.keep' f0
    obtain ⟨⟨p, c, s⟩, hW, hf'⟩ := l3
    have hfit := fit hr (i := 14) (by omega) hh
    have h64 := hfit.2
    refine ld_sl s.c1 (ld_sl (b3.cell rfl) ?_)
    rw [u64w _ (by omega) (by omega)]
    refine rnum_spec (by omega) ?_
    intro q' d w4 o4 f4 e4
    have s4 := s.keep' f4
    have h10 := numB_len10 (n := m.list.length) (by omega)
    refine ⟨_, _, _, rfl, ⟨s.c1, s4.c1⟩, lw_app hW (hf'.tr f4) s4 (ByS.of_own o4 (numB_wf _)) (by simp only [List.length_append]; omega) ?_⟩
    intro ft5 w5 l5 f5 e5
    have b4 := b3.keep' f4
    obtain ⟨_, a2⟩ := away b4.lt n1 f5 e5
    refine ⟨m.list.length + 1, body_l1 hr hh hm _ 0 w5 ft5 _ (by omega) (by omega) l5 (b4.keep f5 n1) a2 (by simp only [List.length_append]; omega) ?_⟩
    rw [List.drop_zero]
    have e : bs ++ hasB m 13 ++ numB m.list.length ++ m.list.flatMap (fun n => numB n.toNat) = bs ++ (hasB m 13 ++ (numB m.list.length ++ m.list.flatMap fun n => numB n.toNat)) := by simp
    rw [e]; exact hK
  · rw [hasB_off hh, List.append_nil] at hK
    exact body_end l2 hK
theorem body_j3 (hr : Right m) (hwf : Wf m) (hm : MM W m rp rc lp lc) (h : Lw W w g m.kind foot bs) (hb : Blk w B (m.cells rp rc lp lc) 28) (hn : B ∉ foot) (hl : bs.length ≤ 90000) (hK : BodyK W (bs ++ r3 m) Q) : X38.j3 Q (at0 B 0) (at0 g 0) w := by
  unfold X38.j3
  simp only [add_at, Nat.zero_add, Nat.add_zero]
  have k6 := hasB_len (m := m) (i := 6) (by omega) hr hwf
  have k7 := hasB_len (m := m) (i := 7) (by omega) hr hwf
  have k8 := hasB_len (m := m) (i := 8) (by omega) hr hwf
  have k9 := hasB_len (m := m) (i := 9) (by omega) hr hwf
  have k10 := hasB_len (m := m) (i := 10) (by omega) hr hwf
  refine ld_int (hb.cell rfl) (rl_num 6 (by omega) (fun hh => by have := fit hr (i := 6) (by omega) hh; simp only [fits, okSerial] at this; omega) h (by omega) ?_)
  intro ft1 w1 l1 f1 e1
  have b1 := hb.keep f1 hn
  obtain ⟨_, n1⟩ := away hb.lt hn f1 e1
  have q1 : bs ++ hN m.kind 6 (numB m.seq.toNat) = bs ++ hasB m 6 := rfl
  rw [q1] at l1
  refine ⟨rfl, ld_int (b1.cell rfl) (rl_one 7 (by omega) (fun hh => by have := fit hr (i := 7) (by omega) hh; simp only [fits] at this; omega) l1 (by simp only [List.length_append]; omega) ?_)⟩
  intro ft2 w2 l2 f2 e2
  have b2 := b1.keep f2 n1
  obtain ⟨_, n2⟩ := away b1.lt n1 f2 e2
  have q2 : bs ++ hasB m 6 ++ hN m.kind 7 [m.voucher] = bs ++ hasB m 6 ++ hasB m 7 := rfl
  rw [q2] at l2
  refine ⟨rfl, ld_int (b2.cell rfl) (rl_num 8 (by omega) (fun _ => hwf.at_) l2 (by simp only [List.length_append]; omega) ?_)⟩
  intro ft3 w3 l3 f3 e3
  have b3 := b2.keep f3 n2
  obtain ⟨_, n3⟩ := away b2.lt n2 f3 e3
  have q3 : bs ++ hasB m 6 ++ hasB m 7 ++ hN m.kind 8 (numB m.at_.toNat) = bs ++ hasB m 6 ++ hasB m 7 ++ hasB m 8 := rfl
  rw [q3] at l3
  refine ⟨rfl, ld_int (b3.cell rfl) (rl_one 9 (by omega) (fun hh => by have := fit hr (i := 9) (by omega) hh; simp only [fits] at this; omega) l3 (by simp only [List.length_append]; omega) ?_)⟩
  intro ft4 w4 l4 f4 e4
  have b4 := b3.keep f4 n3
  obtain ⟨_, n4⟩ := away b3.lt n3 f4 e4
  have q4 : bs ++ hasB m 6 ++ hasB m 7 ++ hasB m 8 ++ hN m.kind 9 [m.dist] = bs ++ hasB m 6 ++ hasB m 7 ++ hasB m 8 ++ hasB m 9 := rfl
  rw [q4] at l4
  unfold r3 at hK
  refine ⟨rfl, ld_int (b4.cell rfl) (bc_eq (fun h5 => ?_) (fun h5 => ?_))⟩
  · rw [if_pos h5] at hK
    refine ld_int (b4.cell rfl) (rl_one 10 (by omega) (fun hh => by have := fit hr (i := 10) (by omega) hh; simp only [fits, codesN] at this; split at this <;> omega) l4 (by simp only [List.length_append]; omega) ?_)
    intro ft5 w5 l5 f5 e5
    have b5 := b4.keep f5 n4
    obtain ⟨_, n5⟩ := away b4.lt n4 f5 e5
    have q5 : bs ++ hasB m 6 ++ hasB m 7 ++ hasB m 8 ++ hasB m 9 ++ hN m.kind 10 [m.code] = bs ++ hasB m 6 ++ hasB m 7 ++ hasB m 8 ++ hasB m 9 ++ hasB m 10 := rfl
    rw [q5] at l5
    refine ⟨rfl, body_j2 hr hwf hm l5 b5 n5 (by simp only [List.length_append]; omega) ?_⟩
    simpa using hK
  · rw [if_neg h5] at hK
    refine body_j2 hr hwf hm l4 b4 n4 (by simp only [List.length_append]; omega) ?_
    simpa using hK
theorem body_l0 (hr : Right m) (hwf : Wf m) (h12 : hasF m.kind 12 = true) (hm : MM W m rp rc lp lc) (f : Nat) : ∀ (i : Nat) (w : World) (foot : List Nat) (bs : List Int), m.refs.length - i < f → i ≤ m.refs.length → Lw W w g m.kind foot bs → Blk w B (m.cells rp rc lp lc) 28 → B ∉ foot → bs.length + 11 * (m.refs.length - i) ≤ 85000 →
    BodyK W (bs ++ ((m.refs.drop i).flatMap idB ++ r3 m)) Q → X38.l0 Q f (at0 B 0) (at0 g 0) (i : Int) w := by
  have hfit := fit hr (i := 12) (by omega) h12
  induction f with
  | zero => intro i w foot bs hf; omega
  | succ f ih =>
    intro i w foot bs hf hi h hb hn hl hK
    have hl2 := hfit.2
    rw [X38.l0]
    simp only [add_at, Nat.zero_add, Nat.add_zero]
    refine ld_sl (hb.cell rfl) (bc_dec (fun h1 => ?_) (fun h1 => ?_))
    · have hlt : i < m.refs.length := by omega
      have hg := List.getElem?_eq_getElem hlt
      have hdr : m.refs.drop i = m.refs[i] :: m.refs.drop (i + 1) := List.drop_eq_getElem_cons hlt
      have hmem : m.refs[i] ∈ m.refs := List.getElem_mem hlt
      generalize m.refs[i] = x at hg hdr hmem
      have hc := hm.refs.keep' h.fr
      obtain ⟨q, hq, c0⟩ := hc _ _ (flat_get idc_len m.refs hg (j := 0) rfl)
      obtain ⟨q', hq', c1⟩ := hc _ _ (flat_get idc_len m.refs hg (j := 1) rfl)
      rw [hq] at hq'; injection hq' with hq'; subst hq'
      refine ld_sl (hb.cell rfl) ⟨⟨by omega, by omega⟩, opt_some hq ?_⟩
      rw [Int.toNat_natCast]
      simp only [add_add]
      have hx11 := idB_len (hfit.1 x hmem)
      refine ld_int c0 (ld_int c1 (rl_id (hfit.1 x hmem) h (by omega) ?_))
      intro ft w5 l5 f5 e5
      rw [show IntKind.wrap .i64 ((i : Int) + 1) = ((i + 1 : Nat) : Int) by rw [i64w _ (by omega) (by omega)]; omega]
      obtain ⟨_, a2⟩ := away hb.lt hn f5 e5
      refine ⟨rfl, ih (i + 1) w5 ft _ (by omega) (by omega) l5 (hb.keep f5 hn) a2 (by rw [List.length_append]; have : (idB (x.fst, x.snd)).length ≤ 11 := hx11; omega) ?_⟩
      rw [hdr] at hK
      have e : bs ++ idB (x.fst, x.snd) ++ ((m.refs.drop (i + 1)).flatMap idB ++ r3 m) = bs ++ ((x :: m.refs.drop (i + 1)).flatMap idB ++ r3 m) := by simp
      rw [e]; exact hK
    · have : m.refs.drop i = [] := List.drop_eq_nil_of_le (by omega)
      rw [this] at hK
      exact body_j3 hr hwf hm h hb hn (by omega) (by simpa using hK)
theorem body_j4 (hr : Right m) (hwf : Wf m) (hm : MM W m rp rc lp lc) (h : Lw W w g m.kind foot bs) (hb : Blk w B (m.cells rp rc lp lc) 28) (hn : B ∉ foot) (hl : bs.length ≤ 80000) (hK : BodyK W (bs ++ r4 m) Q) : X38.j4 Q (at0 B 0) (at0 g 0) w := by
  unfold X38.j4
  simp only [add_at, Nat.zero_add, Nat.add_zero]
  have k11 := hasB_len (m := m) (i := 11) (by omega) hr hwf
  refine ld_int (hb.cell rfl) (rl_num 11 (by omega) (fun _ => hwf.value) h (by omega) ?_)
  intro ft1 w1 l1 f1 e1
  have b1 := hb.keep f1 hn
  obtain ⟨_, n1⟩ := away hb.lt hn f1 e1
  have q1 : bs ++ hN m.kind 11 (numB m.value.toNat) = bs ++ hasB m 11 := rfl
  rw [q1] at l1
  refine ⟨rfl, ld_int (b1.cell rfl) (has_spec 12 (by omega) fun w2 f2 => ⟨_, rfl, ?_⟩)⟩
  have l2 := l1.keep' f2
  have b2 := b1.keep' f2
  unfold r4 at hK
  refine bc_bool (fun hh => ?_) (fun hh => ?_)
  · have e12 : hasB m 12 = numB m.refs.length ++ m.refs.flatMap idB := by unfold hasB; rw [if_pos hh]; rfl
    rw [e12] at hK
    unfold drewK
    have f0 : Fr [] w2 w2.drew := Fr.drew
    have l3 := l2.keep' f0
    have b3 := b2.keep' f0
    obtain ⟨⟨p, c, s⟩, hW, hf'⟩ := l3
    have hfit := fit hr (i := 12) (by omega) hh
    have h2 := hfit.2
    refine ld_sl s.c1 (ld_sl (b3.cell rfl) ?_)
    rw [u64w _ (by omega) (by omega)]
    refine rnum_spec (by omega) ?_
    intro q' d w4 o4 f4 e4
    have s4 := s.keep' f4
    have h10 := numB_len10 (n := m.refs.length) (by omega)
    refine ⟨_, _, _, rfl, ⟨s.c1, s4.c1⟩, lw_app hW (hf'.tr f4) s4 (ByS.of_own o4 (numB_wf _)) (by simp only [List.length_append]; omega) ?_⟩
    intro ft5 w5 l5 f5 e5
    have b4 := b3.keep' f4
    obtain ⟨_, a2⟩ := away b4.lt n1 f5 e5
    refine ⟨m.refs.length + 1, body_l0 hr hwf hh hm _ 0 w5 ft5 _ (by omega) (by omega) l5 (b4.keep f5 n1) a2 (by simp only [List.length_append]; omega) ?_⟩
    rw [List.drop_zero]
    simpa using hK
  · rw [hasB_off hh] at hK
    exact body_j3 hr hwf hm l2 b2 n1 (by simp only [List.length_append]; omega) (by simpa using hK)
theorem body_j5 (hr : Right m) (hwf : Wf m) (hm : MM W m rp rc lp lc) (h : Lw W w g m.kind foot bs) (hb : Blk w B (m.cells rp rc lp lc) 28) (hn : B ∉ foot) (hl : bs.length ≤ 70000) (hK : BodyK W (bs ++ r5 m) Q) : X38.j5 Q (at0 B 0) (at0 g 0) w := by
  unfold X38.j5
  simp only [add_at, Nat.zero_add, Nat.add_zero]
  have k5 := hasB_len (m := m) (i := 5) (by omega) hr hwf
  refine ld_int (hb.cell rfl) (has_spec 5 (by omega) fun w2 f2 => ⟨_, rfl, ?_⟩)
  have l2 := h.keep' f2
  have b2 := hb.keep' f2
  unfold r5 at hK
  refine bc_bool (fun hh => ?_) (fun hh => ?_)
  · have e5 : hasB m 5 = idB (m.tn, m.ts) := by unfold hasB; rw [if_pos hh]; rfl
    rw [e5] at hK k5
    refine ld_int (b2.cell rfl) (ld_int (b2.cell rfl) (rl_id (fit hr (i := 5) (by omega) hh).1 l2 (by omega) ?_))
    intro ft5 w5 l5 f5 e5
    obtain ⟨_, a2⟩ := away b2.lt hn f5 e5
    exact ⟨rfl, body_j4 hr hwf hm l5 (b2.keep f5 hn) a2 (by simp only [List.length_append]; omega) (by simpa using hK)⟩
  · rw [hasB_off hh] at hK
    exact body_j4 hr hwf hm l2 b2 hn (by omega) (by simpa using hK)
end
end Go.Proofs.YtcmkjnoaefkkhaaX
