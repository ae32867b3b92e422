/- WireBack, WireTurned, WireKnown, WireOwn: what is encoded is decoded to itself, in new memory. -/
import Derived.Test.YtcmkjnoaefkkhaaPBack
import Derived.Test.YtcmkjnoaefkkhaaL2Decodes
namespace Go.Proofs.YtcmkjnoaefkkhaaX
open Go.RowKit
set_option linter.unusedVariables false
set_option linter.unusedSimpArgs false
set_option maxRecDepth 100000
section
variable {W w w0 : World} {Q : Value → World → Prop} {n c : Nat} {bs : List Int} {m : Msg}
theorem nwk {cs : Array Value} {e : TypeId} {K : Addr → World → Prop} (h : K (at0 w.heap.size 0) (w.alloc (.cells cs e))) : newK w cs e K := h
theorem sealed_short (hr : Right m) (hw : Wf m) : (sealOf (encB m)).length ≤ 1004 := by rw [sealOf_len]; have := encB_fits hr hw; omega
theorem not_rgt {b : Bool} {P : Prop} (h : b = true ↔ P) (hn : ¬ P) : b = false := by
  cases b with
  | false => rfl
  | true => exact absurd (h.1 rfl) hn
theorem is_rgt {b : Bool} {P : Prop} (h : b = true ↔ P) (hp : P) : b = true := h.2 hp
theorem wireBack_row {H : Type} {cs : Array Value} {d : DataW H} (h : Lies Try.prog W 6 28 cs.toList d) (hs : SizedD Try.prog 28 d) : CallR Try.prog 9 #[.agg cs] W fun v w' => v = .bool true ∧ Fr [] W w' := by
  obtain ⟨m, rp, rc, lp, lc, hcs, hm, hwf⟩ := msg_of_lies h hs
  obtain rfl : cs = (m.cells rp rc lp lc).toArray := by apply Array.ext'; exact hcs
  apply X9.sound
  unfold X9.f
  refine nwk ?_
  obtain ⟨hb, f⟩ := made (w := W) (cs := (m.cells rp rc lp lc).toArray) (e := 28)
  simp only [add_at, Nat.zero_add, Nat.add_zero]
  generalize hB : W.heap.size = B at *
  generalize W.alloc _ = w2 at *
  refine known_spec fun w4 f4 => ⟨_, rfl, bc_bool (fun h => by cases h) (fun _ => ?_)⟩
  have b4 := hb.keep' f4
  have g4 := f.tr f4
  refine ld_msg b4 (copyOf_spec (m := m) (rp := rp) (rc := rc) (lp := lp) (lc := lc) (hm.keep' g4) ?_)
  intro rp' rc' lp' lc' w26 m26 f26 _ _
  have b26 := b4.keep' f26
  have g26 := g4.tr f26
  refine ⟨_, _, _, _, _, _, _, _, _, _, _, _, _, _, _, _, _, _, _, _, _, _, _, rfl, ?_⟩
  refine Encode_spec (m := m) (rp := rp') (rc := rc') (lp := lp') (lc := lc') m26 hwf ⟨fun hn w47 f47 => ?_, fun hr p c w47 o47 f47 n47 => ?_⟩
  · refine ⟨_, _, _, _, rfl, bc_ne (fun _ => bc_eqt rfl ?_) (fun h => by cases h)⟩
    refine ld_msg (b26.keep' f47) (Right_spec (m := m) (rp := rp) (rc := rc) (lp := lp) (lc := lc) (hm.keep' (g26.tr f47)) fun b w70 hb70 f70 => ⟨_, rfl, ?_⟩)
    have hb0 := not_rgt hb70 hn
    subst hb0
    exact ⟨rfl, (g26.tr f47).tr f70⟩
  · have h47 := ByS.of_own o47 (sealOf_wf (encB_wf hr))
    have hlen := sealed_short hr hwf
    refine ⟨_, _, _, _, rfl, bc_ne (fun h => absurd rfl h) (fun _ => ?_)⟩
    refine Decode_spec h47 (by omega) ?_
    rw [decOf_enc hr hwf]
    intro rp2 rc2 lp2 lc2 w73 d73
    refine ⟨_, _, _, _, _, _, _, _, _, _, _, _, _, _, _, _, _, _, _, _, _, _, _, _, rfl, put_new (m := m) (rp := rp2) (rc := rc2) (lp := lp2) (lc := lc2) fun g w96 b96 f96 _ => ?_⟩
    have d96 := d73.after f96
    have g96 : Fr [] W w96 := (g26.tr f47).tr d96.fr
    have b96' := b26.keep' (f47.tr d96.fr)
    simp only [add_at, Nat.zero_add, Nat.add_zero]
    refine ld_msg b96' (Right_spec (m := m) (rp := rp) (rc := rc) (lp := lp) (lc := lc) (hm.keep' g96) fun b w117 hb117 f117 => ⟨_, rfl, bc_bool (fun _ => bc_eqt rfl ?_) (fun e => ?_)⟩)
    · refine ld_msg (b96.keep' f117) (ld_msg (b96'.keep' f117) (same_spec (m := m) (rp := rp2) (rc := rc2) (lp := lp2) (lc := lc2) (rp' := rp) (rc' := rc) (lp' := lp) (lc' := lc) (d96.after f117).mm (hm.keep' (g96.tr f117)) fun w158 f158 => ⟨_, rfl, bc_bool (fun _ => ?_) (fun h => by cases h)⟩))
      refine ⟨?_, (g96.tr f117).tr f158⟩
      congr 1
      rw [decide_eq_true_eq]
      exact_mod_cast (by omega : (sealOf (encB m)).length ≤ 1024)
    · have := is_rgt hb117 hr
      rw [this] at e; cases e
theorem wireTurned_row {H : Type} {cs : Array Value} {d : DataW H} (h : Lies Try.prog W 6 28 cs.toList d) (hs : SizedD Try.prog 28 d) (a : Int) (_ : (Lit.int .i64 a).wf = true) (b : Int) (_ : (Lit.int .i64 b).wf = true) :
    CallR Try.prog 11 #[.agg cs, .int .i64 a, .int .i64 b] W fun v w' => v = .bool true ∧ Fr [] W w' := by
  obtain ⟨m, rp, rc, lp, lc, hcs, hm, hwf⟩ := msg_of_lies h hs
  obtain rfl : cs = (m.cells rp rc lp lc).toArray := by apply Array.ext'; exact hcs
  apply X11.sound
  unfold X11.f
  refine nwk ?_
  obtain ⟨hb, f⟩ := made (w := W) (cs := (m.cells rp rc lp lc).toArray) (e := 28)
  simp only [add_at, Nat.zero_add, Nat.add_zero]
  generalize hB : W.heap.size = B at *
  have hBl := hb.lt
  generalize W.alloc _ = w2 at *
  refine ld_msg hb (copyOf_spec (m := m) (rp := rp) (rc := rc) (lp := lp) (lc := lc) (hm.keep' f) ?_)
  intro rp' rc' lp' lc' w26 m26 f26 _ _
  have g26 := f.tr f26
  refine ⟨_, _, _, _, _, _, _, _, _, _, _, _, _, _, _, _, _, _, _, _, _, _, _, rfl, ?_⟩
  refine Encode_spec (m := m) (rp := rp') (rc := rc') (lp := lp') (lc := lc') m26 hwf ⟨fun hn w47 f47 => ?_, fun hr p c w47 o47 f47 n47 => ?_⟩
  · refine ⟨_, _, _, _, rfl, known_spec fun w48 f48 => ⟨_, rfl, bc_bool (fun h => by cases h) (fun _ => bc_ne (fun _ => ⟨rfl, (g26.tr f47).tr f48⟩) (fun h => by cases h))⟩⟩
  · have hlen := sealed_short hr hwf
    have hwfs := sealOf_wf (encB_wf hr)
    have hl4 := sealOf_len (encB m)
    have g47 := g26.tr f47
    refine ⟨_, _, _, _, rfl, known_spec fun w48 f48 => ⟨_, rfl, bc_bool (fun h => by cases h) (fun _ => bc_ne (fun h => absurd rfl h) (fun _ => bc_eqf (by omega) ?_))⟩⟩
    have g48 := g47.tr f48
    unfold X11.j0
    refine nwk ?_
    refine app_new (ByS.of_own (o47.keep' f48) hwfs) (by omega) ?_
    intro p1 c1 w4 o4 f4 e4
    have r1 := Int.emod_nonneg a (show (((sealOf (encB m)).length : Nat) : Int) ≠ 0 by omega)
    have r2 := Int.emod_lt_of_pos a (show (0 : Int) < (((sealOf (encB m)).length : Nat) : Int) by omega)
    refine ⟨_, _, _, rfl, pick_spec (by omega) (by omega) ⟨_, rfl, ?_⟩⟩
    generalize a % (((sealOf (encB m)).length : Nat) : Int) = k at r1 r2
    obtain ⟨i, rfl⟩ : ∃ i : Nat, k = (i : Int) := ⟨k.toNat, by omega⟩
    unfold drewK
    have o5 := o4.keep' (Fr.drew (w := w4))
    have h5 := ByS.of_own o5 hwfs
    have hlt : i < (sealOf (encB m)).length := by omega
    obtain ⟨q, hq, hc⟩ := h5.get (List.getElem?_eq_getElem hlt)
    subst hq
    have hxw := hwfs _ (List.getElem_mem hlt)
    have hget : (sealOf (encB m))[i]? = some (sealOf (encB m))[i] := List.getElem?_eq_getElem hlt
    generalize hx : (sealOf (encB m))[i] = y at hc hxw hget
    rw [Int.toNat_natCast, Nat.mul_one] at *
    refine ⟨⟨r1, r2⟩, opt_some rfl (ld_int hc (pick_spec (by omega) (by omega) ⟨_, rfl, ⟨hc, hc⟩, ⟨r1, r2⟩, opt_some rfl ?_⟩))⟩
    have s1 := Int.emod_nonneg b (by omega : (255 : Int) ≠ 0)
    have s2 := Int.emod_lt_of_pos b (by omega : (0 : Int) < 255)
    generalize b % 255 = d at s1 s2
    rw [i64w (1 + d) (by omega) (by omega), u8w (1 + d) (by omega) (by omega)]
    have hxi : i < (u8s (sealOf (encB m))).length := by simpa using hlt
    refine ⟨o5.storeOk hxi, ?_⟩
    have o6 := o5.set hxi (.int .u8 (iXor .u8 y (1 + d)))
    have e6 : (u8s (sealOf (encB m))).set i (.int .u8 (iXor .u8 y (1 + d))) = u8s ((sealOf (encB m)).set i (iXor .u8 y (1 + d))) := by simp [u8s, List.map_set]
    rw [e6] at o6
    have hy := xor8_range y (1 + d)
    have b6 := ByS.of_own o6 (fun b hm => by
      rcases List.mem_or_eq_of_mem_set hm with h | h
      · exact hwfs b h
      · rw [h]; exact hy)
    refine Decode_spec b6 (by omega) ?_
    have hdec : decOf ((sealOf (encB m)).set i (iXor .u8 y (1 + d))) = (mZero, 23) := by
      unfold decOf
      rw [List.length_set, if_neg (by omega), unseal_turned (encB_wf hr) hy hget (xor8_ne hxw ⟨by omega, by omega⟩).symm]
      rfl
    rw [hdec]
    intro rp2 rc2 lp2 lc2 w73 d73
    refine ⟨_, _, _, _, _, _, _, _, _, _, _, _, _, _, _, _, _, _, _, _, _, _, _, _, rfl, put_new (m := mZero) (rp := rp2) (rc := rc2) (lp := lp2) (lc := lc2) fun g w96 b96 f96 _ => ?_⟩
    refine ⟨rfl, ?_⟩
    have hqb : ∀ k ∈ fbl (some q), W.heap.size ≤ k := fun k hk => by have := e4 k hk; have := g48.size; omega
    have f6 : Fr [q.block] w4.drew (w4.drew.setCell (q.add i) (.int .u8 (iXor .u8 y (1 + d)))) := Fr.setCell (by simp [add_block]) _
    exact ((g48.tr (f4.tr Fr.drew)).trans f6 (fun z hz => .inr (hqb z (by simpa [fbl] using hz)))).tr (d73.fr.tr f96)
theorem decOf_nil : decOf [] = (mZero, 20) := by
  unfold decOf
  rw [if_neg (by simp), show unsealOf [] = ([], 20) by decide +kernel]
  rfl
abbrev ack0 : Msg := ⟨3, 1, 2, 0, 0, 0, 0, 0, 0, 0, [], 0, 0, 0, 0, 0, 0, 0, []⟩
theorem wrong_ack0 : ¬ Right ack0 := fun h => by
  have := h.2.2.2.2 0 (by omega)
  unfold okF at this
  rw [if_pos (show hasF ack0.kind 0 = true by decide +kernel)] at this
  simp [fits, okSerial] at this
theorem wf_ack0 : Wf ack0 := ⟨by decide, by decide, by decide, by decide⟩
theorem wireKnown_row : CallR Try.prog 5 #[] W fun v w' => v = .bool true ∧ Fr [] W w' := by
  refine X5.sound _ _ ?_
  unfold X5.f
  refine put_new (m := ack12) (rp := none) (rc := 0) (lp := none) (lc := 0) fun g w3 b3 f3 _ => ?_
  simp only [add_at, Nat.zero_add, Nat.add_zero]
  have hlen := sealed_short right_ack wf_ack
  refine ld_msg b3 (Encode_spec (m := ack12) (rp := none) (rc := 0) (lp := none) (lc := 0) (mm_nil rfl rfl) wf_ack ⟨fun h => absurd right_ack h, fun _ p c w24 o24 f24 _ => ?_⟩)
  have h24 := ByS.of_own o24 (sealOf_wf (encB_wf right_ack))
  refine ⟨_, _, _, _, rfl, Decode_spec h24 (by omega) ?_⟩
  rw [decOf_enc right_ack wf_ack]
  intro rp2 rc2 lp2 lc2 w28 d28
  refine ⟨_, _, _, _, _, _, _, _, _, _, _, _, _, _, _, _, _, _, _, _, _, _, _, _, rfl, put_new (m := ack12) (rp := rp2) (rc := rc2) (lp := lp2) (lc := lc2) fun g2 w51 b51 f51 _ => ?_⟩
  refine Decode_spec ByS.nil' (by omega) ?_
  rw [decOf_nil]
  intro rp3 rc3 lp3 lc3 w53 d53
  refine ⟨_, _, _, _, _, _, _, _, _, _, _, _, _, _, _, _, _, _, _, _, _, _, _, _, rfl, put_new (m := mZero) (rp := rp3) (rc := rc3) (lp := lp3) (lc := lc3) fun g3 w76 b76 f76 _ => ?_⟩
  refine Encode_spec (m := ack0) (rp := none) (rc := 0) (lp := none) (lc := 0) (mm_nil rfl rfl) wf_ack0 ⟨fun _ w78 f78 => ?_, fun h => absurd h wrong_ack0⟩
  refine ⟨_, _, _, _, rfl, known_spec fun w82 f82 => ⟨_, rfl, bc_bool (fun _ => bc_eqt rfl ?_) (fun h => by cases h)⟩⟩
  have f5182 : Fr [] w51 w82 := (d53.fr.tr f76).tr (f78.tr f82)
  have f2882 : Fr [] w28 w82 := f51.tr f5182
  have f382 : Fr [] w3 w82 := (f24.tr d28.fr).tr f2882
  simp only [add_at, Nat.zero_add, Nat.add_zero]
  refine ld_msg (b51.keep' f5182) (ld_msg (b3.keep' f382) (same_spec (m := ack12) (rp := rp2) (rc := rc2) (lp := lp2) (lc := lc2) (rp' := none) (rc' := 0) (lp' := none) (lc' := 0) (d28.after f2882).mm (mm_nil rfl rfl) fun w123 f123 => ⟨_, rfl, bc_bool (fun _ => bc_eqt rfl (bc_eqt rfl ?_)) (fun h => by cases h)⟩))
  refine ld_msg (b3.keep' (f382.tr f123)) (Right_spec (m := ack12) (rp := none) (rc := 0) (lp := none) (lc := 0) (mm_nil rfl rfl) fun b w145 hb145 f145 => ⟨_, rfl, ?_⟩)
  have := is_rgt hb145 right_ack
  subst this
  exact ⟨rfl, f3.tr (f382.tr (f123.tr f145))⟩
end
end Go.Proofs.YtcmkjnoaefkkhaaX
