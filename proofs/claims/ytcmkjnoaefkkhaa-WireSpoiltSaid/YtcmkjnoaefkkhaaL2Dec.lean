/- Bytes are read as a message, or refused: the program's Decode. -/
import Derived.Test.YtcmkjnoaefkkhaaL2Read2
namespace Go.Proofs.YtcmkjnoaefkkhaaX
open Go.RowKit
set_option linter.unusedVariables false
set_option linter.unusedSimpArgs false
set_option maxRecDepth 100000
theorem rdIDs_len {bs : List Int} : ∀ (k : Nat) (l : List (Int × Int)) (s : St), (rdIDs bs k l s).1.length = l.length + k
  | 0, l, s => rfl
  | k + 1, l, s => by rw [rdIDs, rdIDs_len k]; simp; omega
theorem rdNs_len {bs : List Int} : ∀ (k : Nat) (l : List Int) (s : St), (rdNs bs k l s).1.length = l.length + k
  | 0, l, s => rfl
  | k + 1, l, s => by rw [rdNs, rdNs_len k]; simp; omega
theorem readF_len {bs : List Int} (hw : ∀ b ∈ bs, 0 ≤ b ∧ b ≤ 255) {i : Nat} (hi : i < 15) (x : Msg × St) : (readF bs i x).1.refs.length ≤ x.1.refs.length + (if i = 12 then 2 else 0) ∧ (readF bs i x).1.list.length ≤ x.1.list.length + (if i = 14 then 64 else 0) := by
  have nr : ∀ most : Int, 0 ≤ (readNum bs x.2.1 x.2.2 most).1 := fun most => (readNum_range (bs := bs) (a := x.2.1) (bad := x.2.2) (most := most) hw).1
  match i, hi with
  | 0, _ => simp [readF]
  | 1, _ => simp [readF]
  | 2, _ => simp [readF]
  | 3, _ => simp [readF]
  | 4, _ => simp [readF]
  | 5, _ => simp [readF]
  | 6, _ => simp [readF]
  | 7, _ => simp [readF]
  | 8, _ => simp [readF]
  | 9, _ => simp [readF]
  | 10, _ => simp [readF]
  | 11, _ => simp [readF]
  | 12, _ =>
    have := num_most (bs := bs) (a := x.2.1) (bad := x.2.2) (most := 2) (by omega)
    have := nr 2
    simp only [readF, rdIDs_len]
    simp
    omega
  | 13, _ => simp [readF]
  | 14, _ =>
    have := num_most (bs := bs) (a := x.2.1) (bad := x.2.2) (most := 64) (by omega)
    have := nr 64
    simp only [readF, rdNs_len]
    simp
    omega
/-- what is answered: in new memory -/
structure DecM (w w' : World) (m : Msg) (rp : Option Addr) (rc : Nat) (lp : Option Addr) (lc : Nat) : Prop where
  refs : Own 24 2 w' rp m.refs.length rc (m.refs.flatMap idc)
  list : Own 22 1 w' lp m.list.length lc (m.list.map (Value.int .u64))
  nr : ∀ x ∈ fbl rp, w.heap.size ≤ x
  nl : ∀ x ∈ fbl lp, w.heap.size ≤ x
  rl : ∀ x ∈ fbl rp, x ∉ fbl lp
  r2 : m.refs.length ≤ 1000
  l2 : m.list.length ≤ 1000
  fr : Fr [] w w'
theorem DecM.zero {w w' : World} (f : Fr [] w w') : DecM w w' mZero none 0 none 0 := ⟨Own.nil, Own.nil, by simp [fbl], by simp [fbl], by simp [fbl], by simp, by simp, f⟩
theorem DecM.mm {w w' : World} {m : Msg} {rp lp : Option Addr} {rc lc : Nat} (h : DecM w w' m rp rc lp lc) : MM w' m rp rc lp lc :=
  ⟨h.refs.cells, h.refs.le, fun hx => by subst hx; exact h.refs.none_c.2.1, by have := h.r2; omega, h.list.cells, h.list.le, fun hx => by subst hx; exact h.list.none_c.2.1, by have := h.l2; omega⟩
/-- the answer, as it is told -/
def DecK (w : World) (r : Msg × Int) (Q : Value → World → Prop) : Prop := ∀ rp rc lp lc w', DecM w w' r.1 rp rc lp lc → Q (.tuple #[msgV r.1 rp rc lp lc, .int .i64 r.2]) w'
section
variable {W w w' : World} {g B R : Nat} {p : Option Addr} {n c : Nat} {bs : List Int} {s : St} {m : Msg} {foot : List Nat} {Q : Value → World → Prop}
theorem newReader_spec (hb : ByS w p n c bs) (hn : n ≤ 140737488355328) (hQ : ∀ g q d w', Rd 90 w' g q n d bs 0 0 → w.heap.size ≤ g → (∀ k ∈ fbl q, w.heap.size ≤ k ∧ k < g) → Fr [] w w' → Q (.pointer (some (at0 g 0))) w') : CallR Try.prog 42 #[.slice p n c] w Q := by
  refine X42.sound _ _ _ _ _ ?_
  unfold X42.f newK
  refine app_new hb hn ?_
  intro q d w1 o f e
  refine ⟨_, _, _, rfl, ?_⟩
  have fa : Fr [] w1 _ := Fr.alloc w1 (.cells #[.slice q n d, .int .i64 0, .int .i64 0] 90)
  have hsz := f.size
  refine hQ w1.heap.size q d _ ⟨Blk.made w1 _ _, (ByS.of_own o hb.wf).keep' fa, fun _ k hk he => ?_, Nat.zero_le _, hn⟩ hsz (fun k hk => ⟨e k hk, o.lt k hk⟩) (f.tr fa)
  have := o.lt k hk
  omega
/-- a message is put into the answer's block, and told -/
theorem tell {e : Int} {cs : List Value} {rp lp : Option Addr} {rc lc : Nat} (hb : Blk w R cs 28) (hl : cs.length = 19) (h : ∀ w', Blk w' R (m.cells rp rc lp lc) 28 → Fr [R] w w' → Q (.tuple #[msgV m rp rc lp lc, .int .i64 e]) w') :
    stAll w (at0 R 0) (m.cells rp rc lp lc) fun w => ldI .i64 w (at0 R 0) fun x1 => ldI .i64 w (at0 R 1) fun x2 => ldI .i64 w (at0 R 2) fun x3 => ldI .u64 w (at0 R 3) fun x4 => ldI .u64 w (at0 R 4) fun x5 => ldI .i64 w (at0 R 5) fun x6 => ldI .i64 w (at0 R 6) fun x7 => ldI .i64 w (at0 R 7) fun x8 => ldI .i64 w (at0 R 8) fun x9 => ldI .u64 w (at0 R 9) fun x10 => ldSl w (at0 R 10) fun x11p x11n x11c => ldI .u64 w (at0 R 11) fun x12 => ldI .i64 w (at0 R 12) fun x13 => ldI .u64 w (at0 R 13) fun x14 => ldI .i64 w (at0 R 14) fun x15 => ldI .u64 w (at0 R 15) fun x16 => ldI .i64 w (at0 R 16) fun x17 => ldI .u64 w (at0 R 17) fun x18 => ldSl w (at0 R 18) fun x19p x19n x19c => Q (.tuple #[.agg #[.int .i64 x1, .int .i64 x2, .int .i64 x3, .int .u64 x4, .int .u64 x5, .int .i64 x6, .int .i64 x7, .int .i64 x8, .int .i64 x9, .int .u64 x10, .slice x11p x11n x11c, .int .u64 x12, .int .i64 x13, .int .u64 x14, .int .i64 x15, .int .u64 x16, .int .i64 x17, .int .u64 x18, .slice x19p x19n x19c], .int .i64 e]) w := by
  refine stAll_blk (o := 0) hb (by simp [hl]) ?_
  intro w' b' f'
  have e1 : List.drop (0 + (m.cells rp rc lp lc).length) cs = [] := List.drop_eq_nil_of_le (by simp [hl])
  rw [e1] at b'
  have b2 : Blk w' R (m.cells rp rc lp lc) 28 := by simpa using b'
  exact ld_msg b2 (h w' b2 f')
theorem tellZero {e : Int} (hR : W.heap.size ≤ R) (hb : Blk w R (mZero.cells none 0 none 0) 28) (f : Fr [] W w) (h : ∀ w', DecM W w' mZero none 0 none 0 → Q (.tuple #[msgV mZero none 0 none 0, .int .i64 e]) w') :
    ∀ w', Blk w' R (mZero.cells none 0 none 0) 28 → Fr [R] w w' → Q (.tuple #[msgV mZero none 0 none 0, .int .i64 e]) w' := fun w' b' f' =>
  h w' (DecM.zero (f.trans f' (fun x hx => .inr (by simp at hx; omega))))
theorem dec_l0 (hR : W.heap.size ≤ R) (k : Int) (hK : DecK W (ansOf bs (prun bs k 15 (m, s))) Q) (f : Nat) : ∀ (i : Nat) (w : World) (m' : Msg) (s' : St) (foot : List Nat), 15 - i < f → i ≤ 15 → Dc 90 W w g B R p n c bs s' m' foot → m'.refs.length ≤ 2 * (i / 13) → m'.list.length ≤ 64 * (i / 15) → prun bs k (15 - i) (m', s') = prun bs k 15 (m, s) →
    X20.l0 Q f (at0 R 0) (some (at0 g 0)) (at0 B 0) ((fieldsN k : Nat) : Int) ((2 ^ i : Nat) : Int) w := by
  induction f with
  | zero => intro i w m' s' foot hf; omega
  | succ f ih =>
    intro i w m' s' foot hf hi h hrl hll he
    rw [X20.l0]
    simp only [add_at, Nat.zero_add, Nat.add_zero]
    generalize hN : (32768 : Int) = N
    refine bc_dec (fun h1 => ?_) (fun h1 => ?_)
    · have hlt : i < 15 := by
        by_cases e : i = 15
        · subst e; subst hN; exact absurd h1 (by decide)
        · omega
      have hbit := hasBit (k := k) hlt
      rw [shl1 hlt]
      obtain ⟨j, hj⟩ : ∃ j, 15 - i = j + 1 := ⟨14 - i, by omega⟩
      have hj2 : 14 - j = i := by omega
      rw [hj, prun, hj2] at he
      refine bc_ne (fun hne => ?_) (fun hze => ?_)
      · have hh := hbit.1 hne
        have ep : pst bs k i (m', s') = readF bs i (m', s') := by unfold pst; rw [if_pos hh]
        rw [ep] at he
        refine read_spec hlt h (by omega) (by omega) ?_
        intro foot' w' h'
        have hlen := readF_len h.wf hlt (m', s')
        refine ⟨rfl, by decide, ih (i + 1) w' _ _ foot' (by omega) (by omega) h' ?_ ?_ ?_⟩
        · have := hlen.1; simp only at this
          split at this <;> omega
        · have := hlen.2; simp only at this
          split at this <;> omega
        · rw [show 15 - (i + 1) = j by omega]; exact he
      · have hh : hasF k i = false := by
          cases e : hasF k i with
          | false => rfl
          | true => exact absurd hze (hbit.2 e)
        have ep : pst bs k i (m', s') = (m', s') := by unfold pst; rw [if_neg (by simp [hh])]
        rw [ep] at he
        exact ⟨by decide, ih (i + 1) w m' s' foot (by omega) (by omega) h (by omega) (by omega) (by rw [show 15 - (i + 1) = j by omega]; exact he)⟩
    · have : i = 15 := by
        by_cases e : i = 15
        · exact e
        · have : (2 : Nat) ^ i ≤ 2 ^ 14 := Nat.pow_le_pow_right (by omega) (by omega)
          subst hN
          omega
      subst this
      change (m', s') = prun bs k 15 (m, s) at he
      rw [← he] at hK
      unfold ansOf at hK
      refine cend_spec h.rd fun w4 f4 => ⟨_, rfl, ?_⟩
      have h4 := h.keep' f4
      obtain ⟨rp, rc, lp, lc, o4⟩ := h4.ob
      refine bc_eq (fun e0 => ?_) (fun e0 => ?_)
      · rw [if_neg (by simpa using e0)] at hK
        refine ld_msg o4.blk (Right_spec (m := m') (rp := rp) (rc := rc) (lp := lp) (lc := lc) (o4.mm (by omega) (by omega)) fun b w26 hb26 f26 => ⟨_, rfl, ?_⟩)
        have h26 := h4.keep' f26
        have o26 := o4.keep' f26
        refine bc_bool (fun e => ?_) (fun e => ?_)
        · rw [if_neg (not_true hb26 e)] at hK
          refine bc_ne (fun _ => ?_) (fun h => absurd h (by decide))
          exact tell (m := mZero) (rp := none) (rc := 0) (lp := none) (lc := 0) h26.res rfl (tellZero hR h26.res h26.fr fun w' d => hK none 0 none 0 w' d)
        · have hr := of_not hb26 e
          rw [if_pos hr] at hK
          refine bc_ne (fun h => absurd e0 h) (fun _ => ?_)
          refine ld_msg o26.blk (tell (m := m') (rp := rp) (rc := rc) (lp := lp) (lc := lc) h26.res rfl fun w' b' f' => hK rp rc lp lc w' ?_)
          have hft := o26.ft
          have hRf := h26.rf
          have hfW := h26.fW
          refine ⟨o26.refs.keep f' (fun x hx hm => hRf (by simp at hm; rw [← hm, hft]; simp [hx])), o26.list.keep f' (fun x hx hm => hRf (by simp at hm; rw [← hm, hft]; simp [hx])), fun x hx => hfW x (by rw [hft]; simp [hx]), fun x hx => hfW x (by rw [hft]; simp [hx]), o26.rl, by simp only; omega, by simp only; omega, h26.fr.trans f' (fun x hx => .inr (by simp at hx; omega))⟩
      · rw [if_pos (by simpa using e0)] at hK
        refine bc_ne (fun _ => ?_) (fun h => absurd h e0)
        exact tell (m := mZero) (rp := none) (rc := 0) (lp := none) (lc := 0) h4.res rfl (tellZero hR h4.res h4.fr fun w' d => hK none 0 none 0 w' d)
theorem Decode_spec {x : Option Addr} (hb : ByS w x n c bs) (hn : n ≤ 140737488354000) (hK : DecK w (decOf bs) Q) : CallR Try.prog 20 #[.slice x n c] w Q := by
  refine X20.sound _ _ _ _ _ ?_
  unfold X20.f newK
  have hlen := hb.len
  obtain ⟨hz, f⟩ := made (w := w) (cs := #[.int .i64 (0 : Int), .int .i64 (0 : Int), .int .i64 (0 : Int), .int .u64 (0 : Int), .int .u64 (0 : Int), .int .i64 (0 : Int), .int .i64 (0 : Int), .int .i64 (0 : Int), .int .i64 (0 : Int), .int .u64 (0 : Int), .slice none 0 0, .int .u64 (0 : Int), .int .i64 (0 : Int), .int .u64 (0 : Int), .int .i64 (0 : Int), .int .u64 (0 : Int), .int .i64 (0 : Int), .int .u64 (0 : Int), .slice none 0 0]) (e := 28)
  rw [show (⟨w.heap.size, 0, none⟩ : Addr) = at0 w.heap.size 0 from rfl]
  have hz' : Blk (w.alloc (.cells #[.int .i64 (0 : Int), .int .i64 (0 : Int), .int .i64 (0 : Int), .int .u64 (0 : Int), .int .u64 (0 : Int), .int .i64 (0 : Int), .int .i64 (0 : Int), .int .i64 (0 : Int), .int .i64 (0 : Int), .int .u64 (0 : Int), .slice none 0 0, .int .u64 (0 : Int), .int .i64 (0 : Int), .int .u64 (0 : Int), .int .i64 (0 : Int), .int .u64 (0 : Int), .int .i64 (0 : Int), .int .u64 (0 : Int), .slice none 0 0] 28)) w.heap.size (mZero.cells none 0 none 0) 28 := hz
  clear hz
  have hR : w.heap.size ≤ w.heap.size := Nat.le_refl _
  have hRl := hz'.lt
  generalize hRR : w.heap.size = R at *
  generalize w.alloc _ = w2 at *
  simp only [add_at, Nat.zero_add, Nat.add_zero]
  unfold decOf at hK
  generalize hN : (1024 : Int) = N
  refine bc_dec (fun h1 => ?_) (fun h1 => ?_)
  · subst hN
    rw [if_pos (by omega)] at hK
    exact tell (m := mZero) (rp := none) (rc := 0) (lp := none) (lc := 0) hz' rfl (tellZero (by omega) hz' f fun w' d => hK none 0 none 0 w' d)
  · subst hN
    rw [if_neg (by omega)] at hK
    refine unseal_spec (hb.keep' f) (by omega) ?_
    intro q k d w24 b24 f24
    refine ⟨_, _, _, _, rfl, ?_⟩
    have z24 := hz'.keep' f24
    have g24 := f.tr f24
    refine bc_ne (fun hne => ?_) (fun he => ?_)
    · rw [if_pos (by simpa using hne)] at hK
      exact tell (m := mZero) (rp := none) (rc := 0) (lp := none) (lc := 0) z24 rfl (tellZero (by omega) z24 g24 fun w' d => hK none 0 none 0 w' d)
    · rw [if_neg (by simpa using he)] at hK
      have hkn := b24.len
      have hul : (unsealOf bs).1.length ≤ bs.length := by
        unfold unsealOf
        split
        · simp
        · split <;> simp
      refine newReader_spec b24 (by omega) ?_
      intro g q2 d2 w48 r48 hg hq f48
      refine ⟨_, rfl, ?_⟩
      have z48 := z24.keep' f48
      have g48 := g24.tr f48
      obtain ⟨hbm, f51⟩ := made (w := w48) (cs := #[.int .i64 (0 : Int), .int .i64 (0 : Int), .int .i64 (0 : Int), .int .u64 (0 : Int), .int .u64 (0 : Int), .int .i64 (0 : Int), .int .i64 (0 : Int), .int .i64 (0 : Int), .int .i64 (0 : Int), .int .u64 (0 : Int), .slice none 0 0, .int .u64 (0 : Int), .int .i64 (0 : Int), .int .u64 (0 : Int), .int .i64 (0 : Int), .int .u64 (0 : Int), .int .i64 (0 : Int), .int .u64 (0 : Int), .slice none 0 0]) (e := 28)
      rw [show (⟨w48.heap.size, 0, none⟩ : Addr) = at0 w48.heap.size 0 from rfl]
      have rl := r48.blk.lt
      have zl := z24.lt
      have s24 := g24.size
      have s48 := f48.size
      have hd0 : Dc 90 w (w48.alloc (.cells #[.int .i64 (0 : Int), .int .i64 (0 : Int), .int .i64 (0 : Int), .int .u64 (0 : Int), .int .u64 (0 : Int), .int .i64 (0 : Int), .int .i64 (0 : Int), .int .i64 (0 : Int), .int .i64 (0 : Int), .int .u64 (0 : Int), .slice none 0 0, .int .u64 (0 : Int), .int .i64 (0 : Int), .int .u64 (0 : Int), .int .i64 (0 : Int), .int .u64 (0 : Int), .int .i64 (0 : Int), .int .u64 (0 : Int), .slice none 0 0] 28)) g w48.heap.size R q2 k d2 (unsealOf bs).1 (0, 0) mZero [w48.heap.size] := by
        refine ⟨r48.keep' f51, ⟨none, 0, none, 0, hbm, Own.nil, Own.nil, by simp [fbl], by simp [fbl], by simp [fbl], rfl⟩, z48.keep' f51, by simp; omega, fun _ x hx => ?_, fun _ x hx => (hq x hx).2, by simp; omega, by omega, by omega, fun x hx => by simp at hx; omega, g48.tr f51⟩
        have := (hq x hx).2; simp; omega
      generalize w48.heap.size = B at *
      generalize w48.alloc _ = w51 at *
      unfold decB headOf at hK
      refine hd0.byte fun w53 h53 _ => ⟨_, rfl, ?_⟩
      rw [byte_i64 hd0]
      obtain ⟨a1, a2⟩ := Dc.store (m := mZero) (m' := { mZero with kind := (readByte (unsealOf bs).1 0 0 11).1 }) (j := 0) (v := .int .i64 (readByte (unsealOf bs).1 0 0 11).1) (fun _ _ _ _ => rfl) rfl rfl (by omega) h53
      refine ⟨a1, ?_⟩
      obtain ⟨rp, rc, lp, lc, o⟩ := a2.ob
      refine ld_int (o.blk.cell rfl) (fields_spec ⟨_, rfl, ?_⟩)
      generalize hk : readByte (unsealOf bs).1 0 0 11 = kb at *
      refine bc_ne (fun hf => ?_) (fun hf => ?_)
      · have hf' : fieldsN kb.1 ≠ 0 := fun h => hf (by simp [h])
        simp only [if_pos hf'] at hK
        refine a2.byte fun w61 h61 _ => ⟨_, rfl, ?_⟩
        rw [byte_i64 hd0]
        obtain ⟨c1, c2⟩ := Dc.store (m := { mZero with kind := kb.1 }) (m' := { mZero with kind := kb.1, frm := (readByte (unsealOf bs).1 kb.2.1 kb.2.2 64).1 }) (j := 1) (v := .int .i64 (readByte (unsealOf bs).1 kb.2.1 kb.2.2 64).1) (fun _ _ _ _ => rfl) rfl rfl (by omega) h61
        refine ⟨c1, c2.byte fun w65 h65 _ => ⟨_, rfl, ?_⟩⟩
        rw [byte_i64 hd0]
        generalize hfb : readByte (unsealOf bs).1 kb.2.1 kb.2.2 64 = fb at *
        obtain ⟨d1, d3⟩ := Dc.store (m := { mZero with kind := kb.1, frm := fb.1 }) (m' := { mZero with kind := kb.1, frm := fb.1, to := (readByte (unsealOf bs).1 fb.2.1 fb.2.2 64).1 }) (j := 2) (v := .int .i64 (readByte (unsealOf bs).1 fb.2.1 fb.2.2 64).1) (fun _ _ _ _ => rfl) rfl rfl (by omega) h65
        exact ⟨d1, 16, dec_l0 (by omega) kb.1 hK 16 0 _ _ _ _ (by omega) (by omega) d3 (by simp) (by simp) rfl⟩
      · have hf' : fieldsN kb.1 = 0 := by simpa using hf
        simp only [hf', ne_eq, not_true_eq_false, if_false] at hK
        rw [hf']
        have := dec_l0 (m := { mZero with kind := kb.1 }) (s := kb.2) (g := g) (B := B) (R := R) (W := w) (p := q2) (n := k) (c := d2) (bs := (unsealOf bs).1) (by omega) kb.1 hK 16 0 _ _ _ _ (by omega) (by omega) a2 (by simp) (by simp) rfl
        rw [hf'] at this
        exact ⟨16, this⟩
end
end Go.Proofs.YtcmkjnoaefkkhaaX
