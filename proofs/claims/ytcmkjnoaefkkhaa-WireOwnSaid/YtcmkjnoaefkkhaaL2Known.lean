/- Chapter 2's example, as the statements call it; WireRight. -/
import Derived.Test.YtcmkjnoaefkkhaaXT3
import Derived.Test.YtcmkjnoaefkkhaaL2Args
namespace Go.Proofs.YtcmkjnoaefkkhaaX
open Go.RowKit
set_option linter.unusedVariables false
set_option linter.unusedSimpArgs false
set_option maxRecDepth 100000
def mAck (frm : Int) : Msg := ⟨3, frm, 2 + (frm - 1) * 0, 5, 0, 0, 0, 0, 0, 0, [], 0, 0, 0, 0, 0, 0, 0, []⟩
abbrev ack12 : Msg := ⟨3, 1, 2, 5, 0, 0, 0, 0, 0, 0, [], 0, 0, 0, 0, 0, 0, 0, []⟩
abbrev ack11 : Msg := ⟨3, 1, 1, 5, 0, 0, 0, 0, 0, 0, [], 0, 0, 0, 0, 0, 0, 0, []⟩
theorem mm_nil {w : World} {m : Msg} (hr : m.refs = []) (hl : m.list = []) : MM w m none 0 none 0 := by
  refine ⟨?_, by rw [hr]; exact Nat.le_refl _, fun _ => rfl, by rw [hr]; simp, ?_, by rw [hl]; exact Nat.le_refl _, fun _ => rfl, by rw [hl]; simp⟩
  · rw [hr]; intro j u hj; simp at hj
  · rw [hl]; intro j u hj; simp at hj
theorem right_ack : Right ack12 := by
  refine ⟨by decide, by decide, by decide, by decide, all15.2 ?_⟩
  simp only [okF, show hasF 3 0 = true by decide +kernel, show hasF 3 1 = false by decide +kernel, show hasF 3 2 = false by decide +kernel, show hasF 3 3 = false by decide +kernel, show hasF 3 4 = false by decide +kernel, show hasF 3 5 = false by decide +kernel, show hasF 3 6 = false by decide +kernel, show hasF 3 7 = false by decide +kernel, show hasF 3 8 = false by decide +kernel, show hasF 3 9 = false by decide +kernel, show hasF 3 10 = false by decide +kernel, show hasF 3 11 = false by decide +kernel, show hasF 3 12 = false by decide +kernel, show hasF 3 13 = false by decide +kernel, show hasF 3 14 = false by decide +kernel]
  simp [fits, bare, okSerial, noID]
theorem enc_ack : encB ack12 = [3, 1, 2, 5] := by decide +kernel
theorem wf_ack : Wf ack12 := ⟨by decide, by decide, by decide, by decide⟩
theorem wrong_ack : ¬ Right ack11 := fun h => h.2.2.2.1 rfl
section
variable {W w : World} {Q : Value → World → Prop}
theorem known_spec (hQ : ∀ w', Fr [] w w' → Q (.bool true) w') : CallR Try.prog 13 #[] w Q := by
  refine X13.sound _ _ ?_
  unfold X13.f
  refine Encode_spec (m := ack12) (rp := none) (rc := 0) (lp := none) (lc := 0) (mm_nil rfl rfl) wf_ack ⟨fun h => absurd right_ack h, fun _ p c w1 o f e => ?_⟩
  have hl : (sealOf (encB ack12)).length = 8 := by rw [enc_ack]; rfl
  have hb : ByS w1 p 8 c (sealOf (encB ack12)) := by rw [hl] at o; exact ByS.of_own o (sealOf_wf (by rw [enc_ack]; decide))
  rw [hl]
  refine ⟨_, _, _, _, rfl, bc_eqt rfl (bc_eqt rfl ⟨⟨by decide, by decide, by have := hb.le; omega⟩, ?_⟩)⟩
  rw [toNat0, cutAt_zero, Nat.sub_zero]
  have h4 := hb.take 4 (by omega)
  refine ⟨_, h4.at_, ?_⟩
  rw [enc_ack]
  have e4 : strEq (strOfNums ((sealOf [3, 1, 2, 5]).take 4)) (⟨#[3, 1, 2, 5]⟩ : ByteArray) = true := by decide +kernel
  rw [e4, bcase_true]
  refine Right_spec (m := ack11) (rp := none) (rc := 0) (lp := none) (lc := 0) (mm_nil rfl rfl) fun b w2 hb2 f2 => ⟨_, rfl, ?_⟩
  have : b = false := by
    cases b with
    | false => rfl
    | true => exact absurd (hb2.1 rfl) wrong_ack
  subst this
  exact hQ _ (f.tr f2)
theorem iff_eq {b c : Bool} {P : Prop} (h : b = true ↔ P) (k : c = true ↔ P) : (b == c) = true := by
  have : b = true ↔ c = true := h.trans k.symm
  cases b <;> cases c <;> simp_all
theorem all_cells {w : World} {g : Nat} {cs : List Value} {e : TypeId} (hb : Blk w g cs e) : ∀ (j : Nat) (u : Value), cs[j]? = some u → w.cell? (at0 g j) = some u := fun j u hj => hb.cell hj
theorem wireRight_row {H : Type} {cs : Array Value} {d : DataW H} (h : Lies Try.prog W 6 28 cs.toList d) (hs : SizedD Try.prog 28 d) : CallR Try.prog 3 #[.agg cs] W fun v w' => v = .bool true ∧ Fr [] W w' := by
  obtain ⟨m, rp, rc, lp, lc, hcs, hm, hwf⟩ := msg_of_lies h hs
  obtain rfl : cs = (m.cells rp rc lp lc).toArray := by apply Array.ext'; exact hcs
  apply X3.sound
  unfold X3.f newK drewK
  obtain ⟨hb, f⟩ := made (w := W) (cs := (m.cells rp rc lp lc).toArray) (e := 28)
  rw [show (⟨W.heap.size, 0, none⟩ : Addr) = at0 W.heap.size 0 from rfl]
  simp only [add_at, Nat.zero_add, Nat.add_zero]
  generalize hB : W.heap.size = B at *
  generalize W.alloc _ = w2 at *
  have f3 : Fr [] W w2.drew := f.tr Fr.drew
  have b3 := hb.keep' (Fr.drew (w := w2))
  refine known_spec fun w5 f5 => ⟨_, rfl, bc_bool (fun _ => ?_) (fun h => by cases h)⟩
  have b5 := b3.keep' f5
  have g5 := f3.tr f5
  refine ld_msg b5 (copyOf_spec (m := m) (rp := rp) (rc := rc) (lp := lp) (lc := lc) (hm.keep' g5) ?_)
  intro rp' rc' lp' lc' w27 m27 f27 _ _
  have g27 := g5.tr f27
  refine ⟨_, _, _, _, _, _, _, _, _, _, _, _, _, _, _, _, _, _, _, _, _, _, _, rfl, ?_⟩
  refine Right_spec (m := m) (rp := rp') (rc := rc') (lp := lp') (lc := lc') m27 fun b w48 hb48 f48 => ⟨_, rfl, ?_⟩
  have b27 := b5.keep' f27
  have b48 := b27.keep' f48
  refine ld_msg b48 ⟨⟨all_cells b27, all_cells b48⟩, ⟨all_cells b5, all_cells b27⟩, ?_⟩
  refine rRight_spec (m := m) (rp := rp) (rc := rc) (lp := lp) (lc := lc) (hm.keep' (g27.tr f48)) fun c w70 hc f70 => ⟨_, rfl, ?_⟩
  exact ⟨by rw [iff_eq hb48 hc], (g27.tr f48).tr f70⟩
end
end Go.Proofs.YtcmkjnoaefkkhaaX
