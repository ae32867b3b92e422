/- A sum tells one byte that is another one. -/
import Derived.Test.YtgeinpljchpdgaaL1Sums
namespace Go.Proofs.YtgeinpljchpdgaaX
open Go.RowKit
set_option linter.unusedVariables false

theorem ofInt32 {a : Int} (h0 : 0 ≤ a) (h1 : a ≤ 4294967295) : ((BitVec.ofInt 32 a).toNat : Int) = a := by
  rw [BitVec.toNat_ofInt]
  omega
theorem xor32_cancel {a b c : Int} (ha : 0 ≤ a ∧ a ≤ 4294967295) (hb : 0 ≤ b ∧ b ≤ 4294967295) (h : iXor .u32 a c = iXor .u32 b c) : a = b := by
  rw [xor32, xor32] at h
  have h1 : (BitVec.ofInt 32 a ^^^ BitVec.ofInt 32 c) = (BitVec.ofInt 32 b ^^^ BitVec.ofInt 32 c) := BitVec.eq_of_toNat_eq (by omega)
  have h2 : BitVec.ofInt 32 a = BitVec.ofInt 32 b := by
    have := congrArg (· ^^^ BitVec.ofInt 32 c) h1
    simpa [BitVec.xor_assoc, BitVec.xor_self, BitVec.xor_zero] using this
  rw [← ofInt32 ha.1 ha.2, ← ofInt32 hb.1 hb.2, h2]
theorem and32_one {h : Int} (h0 : 0 ≤ h) (h1 : h ≤ 4294967295) : iAnd .u32 h 1 = h % 2 := by
  rw [and32, BitVec.toNat_and]
  have : (BitVec.ofInt 32 1).toNat = 1 := rfl
  rw [this, Nat.and_one_is_mod]
  have := ofInt32 h0 h1
  omega
theorem xor32_high {a : Int} (h0 : 0 ≤ a) (h1 : a < 2147483648) : 2147483648 ≤ iXor .u32 a 3988292384 := by
  rw [xor32]
  have hm : (BitVec.ofInt 32 a ^^^ BitVec.ofInt 32 3988292384).msb = true := by
    rw [BitVec.msb_xor]
    have e1 : (BitVec.ofInt 32 a).msb = false := by
      rw [BitVec.msb_eq_decide, decide_eq_false_iff_not]
      have := ofInt32 h0 (by omega)
      omega
    have e2 : (BitVec.ofInt 32 3988292384).msb = true := by decide
    rw [e1, e2]; rfl
  rw [BitVec.msb_eq_decide, decide_eq_true_eq] at hm
  omega
theorem crcBit_inj {a b : Int} (ha : 0 ≤ a ∧ a ≤ 4294967295) (hb : 0 ≤ b ∧ b ≤ 4294967295) (h : crcBit a = crcBit b) : a = b := by
  unfold crcBit at h
  rw [and32_one ha.1 ha.2, and32_one hb.1 hb.2] at h
  have h1 := xor32_high (a := a / 2) (by omega) (by omega)
  have h2 := xor32_high (a := b / 2) (by omega) (by omega)
  split at h <;> split at h
  · have := xor32_cancel ⟨by omega, by omega⟩ ⟨by omega, by omega⟩ h
    omega
  · omega
  · omega
  · omega
theorem crcBits_inj : ∀ (n : Nat) {a b : Int}, (0 ≤ a ∧ a ≤ 4294967295) → (0 ≤ b ∧ b ≤ 4294967295) → crcBits n a = crcBits n b → a = b
  | 0, a, b, _, _, h => h
  | n + 1, a, b, ha, hb, h => crcBit_inj ha hb (crcBits_inj n (crcBit_range ha.1 ha.2) (crcBit_range hb.1 hb.2) h)
theorem crcRound_range (h x : Int) : 0 ≤ crcRound h x ∧ crcRound h x ≤ 4294967295 := crcBits_range 8 (xor32_range _ _).1 (xor32_range _ _).2
theorem crcFold_inj : ∀ (bs : List Int) {a b : Int}, (0 ≤ a ∧ a ≤ 4294967295) → (0 ≤ b ∧ b ≤ 4294967295) → crcFold a bs = crcFold b bs → a = b
  | [], a, b, _, _, h => h
  | x :: bs, a, b, ha, hb, h => xor32_cancel ha hb (crcBits_inj 8 (xor32_range _ _) (xor32_range _ _) (crcFold_inj bs (crcRound_range a x) (crcRound_range b x) h))
theorem crcFold_range : ∀ (bs : List Int) {a : Int}, (0 ≤ a ∧ a ≤ 4294967295) → 0 ≤ crcFold a bs ∧ crcFold a bs ≤ 4294967295
  | [], a, h => h
  | x :: bs, a, h => crcFold_range bs (crcRound_range a x)
theorem crcFold_set : ∀ (bs : List Int) (i : Nat) (x y h : Int), (∀ b ∈ bs, 0 ≤ b ∧ b ≤ 255) → (0 ≤ h ∧ h ≤ 4294967295) → (0 ≤ y ∧ y ≤ 255) → bs[i]? = some x → x ≠ y → crcFold h (bs.set i y) ≠ crcFold h bs
  | [], i, x, y, h, _, _, _, hi, _ => by simp at hi
  | b :: bs, 0, x, y, h, hw, hh, hy, hi, hne => by
    simp at hi
    subst hi
    intro he
    have h1 := crcFold_inj bs (crcRound_range h y) (crcRound_range h b) he
    have h2 := crcBits_inj 8 (xor32_range _ _) (xor32_range _ _) h1
    rw [xor32_comm h y, xor32_comm h b] at h2
    have hb := hw b (by simp)
    exact hne (xor32_cancel ⟨by omega, by omega⟩ ⟨by omega, by omega⟩ h2).symm
  | b :: bs, i + 1, x, y, h, hw, hh, hy, hi, hne => crcFold_set bs i x y (crcRound h b) (fun z hz => hw z (by simp [hz])) (crcRound_range h b) hy (by simpa using hi) hne
theorem crc_set {bs : List Int} {i : Nat} {x y : Int} (hw : ∀ b ∈ bs, 0 ≤ b ∧ b ≤ 255) (hy : 0 ≤ y ∧ y ≤ 255) (hi : bs[i]? = some x) (hne : x ≠ y) : crc (bs.set i y) ≠ crc bs := by
  intro h
  unfold crc at h
  have hr : (0 : Int) ≤ 4294967295 ∧ (4294967295 : Int) ≤ 4294967295 := ⟨by omega, by omega⟩
  exact crcFold_set bs i x y _ hw hr hy hi hne (xor32_cancel (crcFold_range _ hr) (crcFold_range _ hr) h)
theorem shr_k (s : Int) (k : Nat) (hk : k ≤ 32) : iShr .u32 s (k : Int) = s / 2 ^ k := by
  unfold iShr
  have : min ((k : Int)).toNat IntKind.u32.bits = k := by simp [IntKind.bits]; omega
  rw [this, Int.fdiv_eq_ediv_of_nonneg _ (Int.le_of_lt (Int.pow_pos (by decide)))]
theorem sumBytes_eq {s : Int} (h0 : 0 ≤ s) (h1 : s ≤ 4294967295) : sumBytes s = [s % 256, s / 256 % 256, s / 65536 % 256, s / 16777216 % 256] := by
  have e1 : iShr .u32 s 8 = s / 256 := shr_k s 8 (by omega)
  have e2 : iShr .u32 s 16 = s / 65536 := shr_k s 16 (by omega)
  have e3 : iShr .u32 s 24 = s / 16777216 := shr_k s 24 (by omega)
  unfold sumBytes
  rw [e1, e2, e3]
  simp only [IntKind.wrap_u8]
theorem sumBytes_inj {s t : Int} (hs : 0 ≤ s ∧ s ≤ 4294967295) (ht : 0 ≤ t ∧ t ≤ 4294967295) (h : sumBytes s = sumBytes t) : s = t := by
  rw [sumBytes_eq hs.1 hs.2, sumBytes_eq ht.1 ht.2] at h
  injection h with a h
  injection h with b h
  injection h with c h
  injection h with d h
  omega
/-- What was sealed and has one byte turned is not unsealed. -/
theorem unseal_turned {bs : List Int} {i : Nat} {x y : Int} (hw : ∀ b ∈ bs, 0 ≤ b ∧ b ≤ 255) (hy : 0 ≤ y ∧ y ≤ 255) (hi : (sealOf bs)[i]? = some x) (hne : x ≠ y) : unsealOf ((sealOf bs).set i y) = ([], 23) := by
  have hl : (sealOf bs).length = bs.length + 4 := by simp [sealOf, sumBytes]
  have hl2 : ((sealOf bs).set i y).length = bs.length + 4 := by simpa using hl
  have h4 : ((sealOf bs).set i y).length - 4 = bs.length := by omega
  refine unseal_bad (by omega) ?_
  rw [h4]
  by_cases hlt : i < bs.length
  · have e : (sealOf bs).set i y = bs.set i y ++ sumBytes (crc bs) := by unfold sealOf; rw [List.set_append_left _ _ hlt]
    have e1 : (bs.set i y ++ sumBytes (crc bs)).drop bs.length = sumBytes (crc bs) := by
      have : bs.length = (bs.set i y).length := by simp
      rw [this, List.drop_left]
    have e2 : (bs.set i y ++ sumBytes (crc bs)).take bs.length = bs.set i y := by
      have : bs.length = (bs.set i y).length := by simp
      rw [this, List.take_left]
    rw [e, e1, e2]
    intro h
    have hx : bs[i]? = some x := by
      unfold sealOf at hi
      rwa [List.getElem?_append_left hlt] at hi
    exact crc_set hw hy hx hne (sumBytes_inj (crc_range _) (crc_range _) h).symm
  · have e : (sealOf bs).set i y = bs ++ (sumBytes (crc bs)).set (i - bs.length) y := by unfold sealOf; rw [List.set_append_right _ _ (by omega)]
    rw [e, List.drop_left, List.take_left]
    intro h
    unfold sealOf at hi
    rw [List.getElem?_append_right (by omega)] at hi
    have h2 : ((sumBytes (crc bs)).set (i - bs.length) y)[i - bs.length]? = some y := by
      rw [List.getElem?_set_self (List.getElem?_eq_some_iff.1 hi).1]
    rw [h, hi] at h2
    injection h2 with h2
    exact hne h2
theorem xor8_ne {x d : Int} (hx : 0 ≤ x ∧ x ≤ 255) (hd : 1 ≤ d ∧ d ≤ 255) : iXor .u8 x d ≠ x := by
  intro h
  unfold iXor at h
  change IntKind.wrap .u8 ((BitVec.ofInt 8 x ^^^ BitVec.ofInt 8 d).toNat : Int) = x at h
  rw [u8w _ (by omega) (by have := (BitVec.ofInt 8 x ^^^ BitVec.ofInt 8 d).isLt; omega)] at h
  have e8 : ((BitVec.ofInt 8 x).toNat : Int) = x := by rw [BitVec.toNat_ofInt]; omega
  have h1 : (BitVec.ofInt 8 x ^^^ BitVec.ofInt 8 d) = BitVec.ofInt 8 x := BitVec.eq_of_toNat_eq (by omega)
  have h2 : BitVec.ofInt 8 d = 0#8 := by
    have := congrArg (BitVec.ofInt 8 x ^^^ ·) h1
    simpa [← BitVec.xor_assoc, BitVec.xor_self] using this
  have h3 : ((BitVec.ofInt 8 d).toNat : Int) = d := by rw [BitVec.toNat_ofInt]; omega
  rw [h2] at h3
  simp at h3
  omega
theorem xor8_range (x d : Int) : 0 ≤ iXor .u8 x d ∧ iXor .u8 x d ≤ 255 := by
  unfold iXor
  exact wrap8_range _
theorem codecTurned {w : World} {x : Option Addr} {n c : Nat} {bs : List Int} {a b : Int} (hb : ByS w x n c bs) (hn : n ≤ 140737488351232) :
    CallR Try.prog 5 #[.slice x n c, .int .i64 a, .int .i64 b] w fun v w' => v = .bool true ∧ Fr [] w w' := by
  refine X5.sound _ _ _ _ _ _ _ ?_
  unfold X5.f
  refine seal_spec hb (by omega) ?_
  intro p c1 w1 o1 f1 e1
  refine ⟨_, _, _, rfl, known_spec ?_⟩
  intro w2 f2
  refine ⟨_, rfl, bc_bool (fun h => absurd h (by decide)) (fun _ => ?_)⟩
  have e4 : IntKind.wrap .i64 ((n : Int) + 4) = ((n + 4 : Nat) : Int) := by rw [i64w _ (by omega) (by omega)]; omega
  rw [e4]
  refine bc_ne (fun h => absurd rfl h) (fun _ => ?_)
  unfold X5.j0
  refine pick_spec (by omega) (by omega) ⟨_, rfl, ?_⟩
  have r1 := Int.emod_nonneg a (show ((n + 4 : Nat) : Int) ≠ 0 by omega)
  have r2 := Int.emod_lt_of_pos a (show (0 : Int) < ((n + 4 : Nat) : Int) by omega)
  generalize a % ((n + 4 : Nat) : Int) = k at r1 r2
  obtain ⟨i, rfl⟩ : ∃ i : Nat, k = (i : Int) := ⟨k.toNat, by omega⟩
  unfold drewK
  have o2 : Own 5 1 w2.drew p (n + 4) c1 (u8s (sealOf bs)) := o1.keep' (f2.tr Fr.drew)
  have hs := ByS.of_own o2 (sealOf_wf hb.wf)
  have hlt : i < (sealOf bs).length := by rw [hs.len]; omega
  obtain ⟨q, hq, hc⟩ := hs.get (List.getElem?_eq_getElem hlt)
  subst hq
  have hxw := hs.wf _ (List.getElem_mem hlt)
  generalize hx : (sealOf bs)[i] = y at hc hxw
  rw [Int.toNat_natCast, Nat.mul_one] at *
  refine ⟨⟨r1, r2⟩, opt_some rfl (ld_int hc (pick_spec (by omega) (by omega) ⟨_, rfl, ⟨hc, hc⟩, ⟨r1, r2⟩, opt_some rfl ?_⟩))⟩
  have s1 := Int.emod_nonneg b (by omega : (255 : Int) ≠ 0)
  have s2 := Int.emod_lt_of_pos b (by omega : (0 : Int) < 255)
  generalize b % 255 = d at s1 s2
  rw [i64w (1 + d) (by omega) (by omega), u8w (1 + d) (by omega) (by omega)]
  have hxi : i < (u8s (sealOf bs)).length := by simpa using hlt
  refine ⟨o2.storeOk hxi, ?_⟩
  have o3 := o2.set hxi (.int .u8 (iXor .u8 y (1 + d)))
  have e5 : (u8s (sealOf bs)).set i (.int .u8 (iXor .u8 y (1 + d))) = u8s ((sealOf bs).set i (iXor .u8 y (1 + d))) := by simp [u8s, List.map_set]
  rw [e5] at o3
  have hy := xor8_range y (1 + d)
  have b3 := ByS.of_own o3 (fun b hm => by
    rcases List.mem_or_eq_of_mem_set hm with h | h
    · exact sealOf_wf hb.wf b h
    · rw [h]; exact hy)
  refine unseal_spec b3 (by omega) ?_
  intro p' m c' w' h1 h2
  have hget : (sealOf bs)[i]? = some y := by rw [List.getElem?_eq_getElem hlt, hx]
  rw [unseal_turned hb.wf hy hget (xor8_ne hxw ⟨by omega, by omega⟩).symm] at h1 ⊢
  refine ⟨_, _, _, _, rfl, bc_eq (fun _ => ?_) (fun h => absurd rfl h)⟩
  have hm := h1.len
  simp at hm
  subst hm
  refine ⟨rfl, ?_⟩
  have hqb : ∀ k ∈ fbl (some q), w.heap.size ≤ k := fun k hk => e1 k hk
  have f3 : Fr [q.block] w2.drew (w2.drew.setCell (q.add i) (.int .u8 (iXor .u8 y (1 + d)))) := Fr.setCell (by simp [add_block]) _
  exact ((f1.tr (f2.tr Fr.drew)).trans f3 (fun z hz => .inr (hqb z (by simpa [fbl] using hz)))).tr h2
theorem codecTurned_row {w : World} {x : Option Addr} {n c : Nat} {zs : List Int} (h : IsRow .u8 w x n c zs) (hn : n * 1 ≤ 140737488351232) (a : Int) (_ : (Lit.int .i64 a).wf = true) (b : Int) (_ : (Lit.int .i64 b).wf = true) :
    CallR Try.prog 5 #[.slice x n c, .int .i64 a, .int .i64 b] w fun v w' => v = .bool true ∧ Fr [] w w' := codecTurned (ByS.of_row h) (by omega)
end Go.Proofs.YtgeinpljchpdgaaX
