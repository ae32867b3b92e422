/- WireOnly: what is decoded may be, and is encoded as the same bytes; WireSpoilt. -/
import Derived.Test.YtcmkjnoaefkkhaaPInv
import Derived.Test.YtcmkjnoaefkkhaaL2Back
namespace Go.Proofs.YtcmkjnoaefkkhaaX
open Go.RowKit
set_option linter.unusedVariables false
set_option linter.unusedSimpArgs false
set_option maxRecDepth 100000
section
variable {W w w0 : World} {Q : Value → World → Prop} {n c : Nat} {bs : List Int} {m : Msg}
theorem only_j0 {x : Option Addr} (hb : ByS w x n c bs) (hn : n ≤ 140737488354000) (hW : Fr [] W w) : X10.j0 (fun v w' => v = .bool true ∧ Fr [] W w') x n c w := by
  unfold X10.j0
  refine Decode_spec hb hn ?_
  intro rp rc lp lc w2 d2
  refine ⟨_, _, _, _, _, _, _, _, _, _, _, _, _, _, _, _, _, _, _, _, _, _, _, _, rfl, put_new (m := (decOf bs).1) (rp := rp) (rc := rc) (lp := lp) (lc := lc) fun g w25 b25 f25 _ => ?_⟩
  have d25 := d2.after f25
  have h25 := hb.keep' d25.fr
  have g25 := hW.tr d25.fr
  simp only [add_at, Nat.zero_add, Nat.add_zero]
  refine bc_ne (fun he => ?_) (fun he => ?_)
  · have hz := decOf_err he
    have hm := d25.mm
    rw [hz] at b25 hm
    refine ld_msg b25 (same_spec (m := mZero) (rp := rp) (rc := rc) (lp := lp) (lc := lc) (rp' := none) (rc' := 0) (lp' := none) (lc' := 0) hm (mm_nil rfl rfl) fun w46 f46 => ⟨_, rfl, rfl, g25.tr f46⟩)
  · obtain ⟨hr, hwf, hinv⟩ := decOf_inv hb.wf he
    generalize (decOf bs).1 = m at *
    refine ld_msg b25 (Encode_spec (m := m) (rp := rp) (rc := rc) (lp := lp) (lc := lc) d25.mm hwf ⟨fun h => absurd hr h, fun _ p c' w68 o68 f68 n68 => ?_⟩)
    refine ⟨_, _, _, _, rfl, ld_msg (b25.keep' f68) (Right_spec (m := m) (rp := rp) (rc := rc) (lp := lp) (lc := lc) (d25.mm.keep' f68) fun b w91 hb91 f91 => ⟨_, rfl, ?_⟩)⟩
    have hb1 := is_rgt hb91 hr
    subst hb1
    have o91 := ByS.of_own (o68.keep' f91) (sealOf_wf (encB_wf hr))
    refine ⟨_, o91.at_, bs, (h25.keep' (f68.tr f91)).at_, ?_, g25.tr (f68.tr f91)⟩
    rw [hinv]
    simp [strEq]
theorem wireOnly_row {x : Option Addr} {zs : List Int} (h : IsRow .u8 W x n c zs) (hn : n * 1 ≤ 140737488351232) (b : Bool) : CallR Try.prog 10 #[.slice x n c, .bool b] W fun v w' => v = .bool true ∧ Fr [] W w' := by
  have hb := ByS.of_row h
  refine X10.sound _ _ _ _ _ _ ?_
  unfold X10.f
  refine known_spec fun w2 f2 => ⟨_, rfl, bc_bool (fun e => by cases e) (fun _ => bc_bool (fun _ => ?_) (fun _ => ?_))⟩
  · refine seal_spec (hb.keep' f2) (by omega) ?_
    intro p c' w5 o5 f5 e5
    exact ⟨_, _, _, rfl, only_j0 (ByS.of_own o5 (sealOf_wf hb.wf)) (by omega) (f2.tr f5)⟩
  · exact only_j0 (hb.keep' f2) (by omega) f2
end
end Go.Proofs.YtcmkjnoaefkkhaaX
