/- A message is laid field by field, and sealed: the program's Encode. -/
import Derived.Test.YtcmkjnoaefkkhaaL2Lay
namespace Go.Proofs.YtcmkjnoaefkkhaaX
open Go.RowKit
set_option linter.unusedVariables false
set_option linter.unusedSimpArgs false
set_option maxRecDepth 100000
section
variable {W w : World} {g : Nat} {foot : List Nat} {bs : List Int} {Q : Value → World → Prop} {m : Msg} {rp lp : Option Addr} {rc lc : Nat}
theorem lay_spec {i : Nat} (hi : i < 15) (hm : MM W m rp rc lp lc) (hfit : fits m i) (hwf : Wf m) (h : WrF W w g foot bs) (hl : bs.length + 1000 ≤ 140737488355328) (hK : Laid W w g foot (bs ++ fieldB m i) (Q (.tuple #[]))) :
    CallR Try.prog 36 #[.pointer (some (at0 g 0)), msgV m rp rc lp lc, .int .i64 ((2 ^ i : Nat) : Int)] w Q := by
  apply X36.sound
  unfold X36.f newK
  obtain ⟨hb, f⟩ := made (w := w) (cs := (m.cells rp rc lp lc).toArray) (e := 28)
  rw [show (⟨w.heap.size, 0, none⟩ : Addr) = at0 w.heap.size 0 from rfl]
  simp only [add_at, Nat.zero_add, Nat.add_zero]
  have h2 := h.keep' f
  have hK2 := hK.alloc f
  have hn : w.heap.size ∉ foot := fun hm => by have := h.lt _ hm; omega
  generalize w.heap.size = B at *
  generalize w.alloc _ = w2 at *
  have fin : ∀ {foot' w'}, WrF W w' g foot' (bs ++ fieldB m i) → Fr foot w2 w' → (∀ x ∈ foot', x ∈ foot ∨ w2.heap.size ≤ x) → Q (.tuple #[]) w' := fun a b c => hK2 _ _ a b c
  have hc : i = 0 ∨ i = 1 ∨ i = 2 ∨ i = 3 ∨ i = 4 ∨ i = 5 ∨ i = 6 ∨ i = 7 ∨ i = 8 ∨ i = 9 ∨ i = 10 ∨ i = 11 ∨ i = 12 ∨ i = 13 ∨ i = 14 := by omega
  rcases hc with rfl | rfl | rfl | rfl | rfl | rfl | rfl | rfl | rfl | rfl | rfl | rfl | rfl | rfl | rfl
  all_goals repeat refine bc_eqf (by decide) ?_
  all_goals refine bc_eqt rfl ?_
  · simp only [fits, okSerial] at hfit
    exact ld_int (hb.cell rfl) (wnumF h2 (by omega) (by omega) (by omega) fun _ _ a b c => ⟨rfl, fin a b c⟩)
  · exact ld_int (hb.cell rfl) (wnumF h2 hwf.floor.1 hwf.floor.2 (by omega) fun _ _ a b c => ⟨rfl, fin a b c⟩)
  · simp only [fits] at hfit
    refine ld_int (hb.cell rfl) ?_
    rw [u64w m.item (by omega) (by omega)]
    exact wnumF h2 (by omega) (by omega) (by omega) fun _ _ a b c => ⟨rfl, fin a b c⟩
  · have : m.op ≤ 6 := by simp only [fits, opsN] at hfit; split at hfit <;> omega
    simp only [fits] at hfit
    refine ld_int (hb.cell rfl) ?_
    rw [u8w m.op (by omega) (by omega)]
    exact wbyteF h2 (by omega) (by omega) fun _ _ a b c => ⟨rfl, fin a b c⟩
  · simp only [fits] at hfit
    refine ld_int (hb.cell rfl) ?_
    rw [u8w m.field (by omega) (by omega)]
    exact wbyteF h2 (by omega) (by omega) fun _ _ a b c => ⟨rfl, fin a b c⟩
  · exact ld_int (hb.cell rfl) (ld_int (hb.cell rfl) (layID_spec h2 hfit.1 (by omega) fun _ _ a b c => ⟨rfl, fin a b c⟩))
  · simp only [fits, okSerial] at hfit
    exact ld_int (hb.cell rfl) (wnumF h2 (by omega) (by omega) (by omega) fun _ _ a b c => ⟨rfl, fin a b c⟩)
  · simp only [fits] at hfit
    refine ld_int (hb.cell rfl) ?_
    rw [u8w m.voucher (by omega) (by omega)]
    exact wbyteF h2 (by omega) (by omega) fun _ _ a b c => ⟨rfl, fin a b c⟩
  · exact ld_int (hb.cell rfl) (wnumF h2 hwf.at_.1 hwf.at_.2 (by omega) fun _ _ a b c => ⟨rfl, fin a b c⟩)
  · simp only [fits] at hfit
    refine ld_int (hb.cell rfl) ?_
    rw [u8w m.dist (by omega) (by omega)]
    exact wbyteF h2 (by omega) (by omega) fun _ _ a b c => ⟨rfl, fin a b c⟩
  · have : m.code ≤ 10 := by simp only [fits, codesN] at hfit; split at hfit <;> omega
    simp only [fits] at hfit
    refine ld_int (hb.cell rfl) ?_
    rw [u8w m.code (by omega) (by omega)]
    exact wbyteF h2 (by omega) (by omega) fun _ _ a b c => ⟨rfl, fin a b c⟩
  · exact ld_int (hb.cell rfl) (wnumF h2 hwf.value.1 hwf.value.2 (by omega) fun _ _ a b c => ⟨rfl, fin a b c⟩)
  · have h12 := hfit
    refine ld_sl (hb.cell rfl) ?_
    have hlen := h12.2
    rw [u64w _ (by omega) (by omega)]
    refine wnumF h2 (by omega) (by omega) (by omega) ?_
    intro foot3 w3 k1 k2 k3
    refine ⟨rfl, ld_sl ((hb.keep k2 hn).cell rfl) ⟨m.refs.length + 1, ?_⟩⟩
    rw [Int.toNat_natCast] at k1
    have h10 := numB_len10 (n := m.refs.length) (by omega)
    refine lay_l0 rfl (by omega) h12.1 hm.refs (m.refs.length + 1) 0 w3 foot3 _ (by omega) (by omega) k1 (by simp only [List.length_append]; omega) ?_
    have := hK2.trans k2 k3
    simp only [fieldB] at this
    rw [List.drop_zero, List.append_assoc]
    exact this
  · exact ld_int (hb.cell rfl) (wnumF h2 hwf.stamp.1 hwf.stamp.2 (by omega) fun _ _ a b c => ⟨rfl, fin a b c⟩)
  · have h14 := hfit
    refine ld_sl (hb.cell rfl) ?_
    have hlen := h14.2
    rw [u64w _ (by omega) (by omega)]
    refine wnumF h2 (by omega) (by omega) (by omega) ?_
    intro foot3 w3 k1 k2 k3
    refine ⟨rfl, ld_sl ((hb.keep k2 hn).cell rfl) ⟨m.list.length + 1, ?_⟩⟩
    rw [Int.toNat_natCast] at k1
    have h10 := numB_len10 (n := m.list.length) (by omega)
    refine lay_l1 rfl (by omega) (fun x hx => by obtain ⟨j, hj⟩ := List.mem_iff_getElem?.1 hx; exact (h14.1 j x hj).1) hm.list (m.list.length + 1) 0 w3 foot3 _ (by omega) (by omega) k1 (by simp only [List.length_append]; omega) ?_
    have := hK2.trans k2 k3
    simp only [fieldB] at this
    rw [List.drop_zero, List.append_assoc]
    exact this
/-- what Encode answers -/
def EncR (m : Msg) (Q : Value → World → Prop) (w : World) : Prop :=
  (¬ Right m → ∀ w', Fr [] w w' → Q (.tuple #[.slice none 0 0, .int .i64 1]) w') ∧
  (Right m → ∀ p c w', Own 5 1 w' p (sealOf (encB m)).length c (u8s (sealOf (encB m))) → Fr [] w w' → (∀ k ∈ fbl p, w.heap.size ≤ k) → Q (.tuple #[.slice p (sealOf (encB m)).length c, .int .i64 0]) w')
theorem hasB_len {i : Nat} (hi : i < 15) (hr : Right m) (hwf : Wf m) : (hasB m i).length ≤ 650 := by
  unfold hasB
  split
  · rename_i h
    have := hr.2.2.2.2 i hi
    unfold okF at this
    rw [if_pos h] at this
    exact fieldB_len hi this hwf
  · simp
theorem enc_l0 {B : Nat} (hm : MM W m rp rc lp lc) (hr : Right m) (hwf : Wf m)
    (hK : ∀ p c w', Own 5 1 w' p (sealOf (encB m)).length c (u8s (sealOf (encB m))) → Fr [] W w' → (∀ k ∈ fbl p, W.heap.size ≤ k) → Q (.tuple #[.slice p (sealOf (encB m)).length c, .int .i64 0]) w') (f : Nat) :
    ∀ (i : Nat) (w : World) (foot : List Nat) (bs : List Int), 15 - i < f → i ≤ 15 → WrF W w g foot bs → Blk w B (m.cells rp rc lp lc) 28 → B ∉ foot → bs.length ≤ 3 + 650 * i → bs ++ fieldsFrom m i = encB m →
    X17.l0 Q f (at0 B 0) (some (at0 g 0)) ((fieldsN m.kind : Nat) : Int) ((2 ^ i : Nat) : Int) w := by
  induction f with
  | zero => intro i w foot bs hf; omega
  | succ f ih =>
    intro i w foot bs hf hi h hb hn hl he
    rw [X17.l0]
    simp only [add_at, Nat.zero_add, Nat.add_zero]
    generalize hN : (32768 : Int) = N
    have hBl := hb.lt
    refine bc_dec (fun h1 => ?_) (fun h1 => ?_)
    · have hlt : i < 15 := by
        by_cases e : i = 15
        · subst e; subst hN; exact absurd h1 (by decide)
        · omega
      have hbit := hasBit (k := m.kind) hlt
      rw [shl1 hlt]
      rw [fieldsFrom_step hlt] at he
      have hlB := hasB_len hlt hr hwf
      refine bc_ne (fun hne => ?_) (fun hze => ?_)
      · have hh := hbit.1 hne
        have hfit := hr.2.2.2.2 i hlt
        unfold okF at hfit
        rw [if_pos hh] at hfit
        have ehB : hasB m i = fieldB m i := by unfold hasB; rw [if_pos hh]
        rw [ehB] at he hlB
        refine ld_msg hb (lay_spec (m := m) (rp := rp) (rc := rc) (lp := lp) (lc := lc) hlt hm hfit hwf h (by omega) ?_)
        intro foot2 w2 k1 k2 k3
        refine ⟨rfl, by decide, ?_⟩
        obtain ⟨a1, a2⟩ := away hBl hn k2 k3
        exact ih (i + 1) w2 foot2 _ (by omega) (by omega) k1 (hb.keep k2 hn) a2 (by rw [List.length_append]; omega) (by rw [List.append_assoc]; exact he)
      · have hh : hasF m.kind i = false := by
          cases e : hasF m.kind i with
          | false => rfl
          | true => exact absurd hze (hbit.2 e)
        have ehB : hasB m i = [] := by unfold hasB; rw [if_neg (by simp [hh])]
        rw [ehB, List.nil_append] at he
        exact ⟨by decide, ih (i + 1) w foot bs (by omega) (by omega) h hb hn (by omega) he⟩
    · have : i = 15 := by
        by_cases e : i = 15
        · exact e
        · have : (2 : Nat) ^ i ≤ 2 ^ 14 := Nat.pow_le_pow_right (by omega) (by omega)
          subst hN
          omega
      subst this
      rw [fieldsFrom_end, List.append_nil] at he
      subst he
      have s := h.fr.size
      refine wbytesF h (by omega) ?_
      intro q c w2 o2 f2 e2
      refine ⟨_, _, _, rfl, ?_⟩
      refine seal_spec (ByS.of_own o2 h.wf) (by omega) ?_
      intro p c' w3 o3 f3 e3
      have hlen : (encB m).length + 4 = (sealOf (encB m)).length := by simp [sealOf, sumBytes]
      rw [hlen] at o3 ⊢
      have s2 := f2.size
      exact ⟨_, _, _, rfl, hK p c' w3 o3 ((h.fr.tr f2).tr f3) (fun k hk => by have := e3 k hk; omega)⟩
theorem Encode_spec (hm : MM w m rp rc lp lc) (hwf : Wf m) (hQ : EncR m Q w) : CallR Try.prog 17 #[msgV m rp rc lp lc] w Q := by
  apply X17.sound
  unfold X17.f newK
  obtain ⟨hb, f⟩ := made (w := w) (cs := (m.cells rp rc lp lc).toArray) (e := 28)
  rw [show (⟨w.heap.size, 0, none⟩ : Addr) = at0 w.heap.size 0 from rfl]
  simp only [add_at, Nat.zero_add, Nat.add_zero]
  have h2 := hm.keep' f
  have hB := hb.lt
  generalize hBB : w.heap.size = B at *
  generalize w.alloc _ = w2 at *
  refine ld_msg hb (Right_spec (m := m) (rp := rp) (rc := rc) (lp := lp) (lc := lc) h2 fun b w3 hb3 f3 => ⟨_, rfl, bc_bool (fun e => ?_) (fun e => ?_)⟩)
  · exact hQ.1 (not_true hb3 e) _ (f.tr f3)
  · have hr := of_not hb3 e
    have g3 := f.tr f3
    refine newWriterF g3 ?_
    intro w4 g h4 hg f4
    have b4 := hb.keep' (f3.tr f4)
    have s3 := f3.size
    have n4 : B ∉ [g] := by simp; omega
    have kf : 1 ≤ m.kind ∧ m.kind ≤ 11 := fieldsN_zero.1 hr.1
    have h1 := hr.2.1
    have h2' := hr.2.2.1
    refine ⟨_, rfl, ld_int (b4.cell rfl) ?_⟩
    rw [u8w m.kind (by omega) (by omega)]
    refine wbyteF h4 (by omega) (by simp) ?_
    intro ft5 w5 k5 f5 e5
    have b5 := b4.keep f5 n4
    obtain ⟨_, n5⟩ := away b4.lt n4 f5 e5
    refine ⟨rfl, ld_int (b5.cell rfl) ?_⟩
    rw [u8w m.frm (by omega) (by omega)]
    refine wbyteF k5 (by omega) (by simp) ?_
    intro ft6 w6 k6 f6 e6
    have b6 := b5.keep f6 n5
    obtain ⟨_, n6⟩ := away b5.lt n5 f6 e6
    refine ⟨rfl, ld_int (b6.cell rfl) ?_⟩
    rw [u8w m.to (by omega) (by omega)]
    refine wbyteF k6 (by omega) (by simp) ?_
    intro ft7 w7 k7 f7 e7
    have b7 := b6.keep f7 n6
    obtain ⟨_, n7⟩ := away b6.lt n6 f7 e7
    refine ⟨rfl, ld_int (b7.cell rfl) (fields_spec ⟨_, rfl, 16, ?_⟩)⟩
    refine enc_l0 hm hr hwf (fun p c w' o f e => hQ.2 hr p c w' o f (fun k hk => by have := e k hk; omega)) 16 0 w7 ft7 _ (by omega) (by omega) k7 b7 n7 (by simp) (by simp [encB])
end
end Go.Proofs.YtcmkjnoaefkkhaaX
