/- What was laid is read again, and what is read was laid: numbers and bytes, in plain Lean (out of law1's texts). -/
import Derived.Test.YtcmkjnoaefkkhaaCRead2
import Derived.Test.YtcmkjnoaefkkhaaCWriter
namespace Go.Proofs.YtcmkjnoaefkkhaaX
open Go.RowKit
set_option linter.unusedVariables false
set_option linter.unusedSimpArgs false
theorem numR_numB : ∀ (n i acc : Nat) (rest : List Int), n * 128 ^ i < 18446744073709551616 → (i > 0 → n > 0) → numR i acc (numB n ++ rest) = (acc + n * 128 ^ i, 0, i + (numB n).length) := by
  intro n
  induction n using Nat.strongRecOn with
  | _ n ih =>
    intro i acc rest hn hi
    have h9 : i = 9 → n ≤ 1 := by
      intro h
      subst h
      simp only [show (128 : Nat) ^ 9 = 9223372036854775808 from rfl] at hn
      omega
    by_cases h : n < 128
    · rw [numB_small h, List.singleton_append, numR_end (by omega) (by omega) (by omega)]
      have : ((n : Int) % 128).toNat = n := by omega
      rw [this]
      simp
    · rw [numB_big h, List.cons_append, numR_more (by omega) (by omega)]
      have e : (((n % 128 + 128 : Nat) : Int) % 128).toNat = n % 128 := by omega
      have e2 : n / 128 * 128 ^ (i + 1) = (n / 128 * 128) * 128 ^ i := by rw [Nat.pow_succ, Nat.mul_assoc, Nat.mul_comm 128 (128 ^ i)]
      have e3 : n % 128 * 128 ^ i + (n / 128 * 128) * 128 ^ i = n * 128 ^ i := by rw [← Nat.add_mul]; congr 1; omega
      rw [e, ih (n / 128) (by omega) (i + 1) _ rest (by omega) (by omega)]
      simp only [List.length_cons, Prod.mk.injEq, true_and]
      omega
theorem readNum_enc {bs rest : List Int} {a n : Nat} {most : Int} (hn : n ≤ 18446744073709551615) (hd : bs.drop a = numB n ++ rest) (hm : (n : Int) ≤ most) : readNum bs a 0 most = ((n : Int), a + (numB n).length, 0) := by
  have h := numR_numB n 0 0 rest (by omega) (by omega)
  simp only [Nat.pow_zero, Nat.mul_one, Nat.zero_add] at h
  rw [← hd] at h
  rw [readNum_ok (by rw [h]) (by rw [h]; simp; omega), h]
theorem readByte_enc {bs rest : List Int} {a : Nat} {b most : Int} (hd : bs.drop a = b :: rest) (hm : b ≤ most) : readByte bs a 0 most = (b, a + 1, 0) := by
  have hi : bs[a]? = some b := by rw [← List.head?_drop, hd]; rfl
  exact readByte_ok hi (by omega)
theorem numR_inv : ∀ (l : List Int) (i acc : Nat), acc < 128 ^ i → (∀ b ∈ l, 0 ≤ b ∧ b ≤ 255) → (numR i acc l).2.1 = 0 → ∃ n, (numR i acc l).1 = acc + n * 128 ^ i ∧ l.take ((numR i acc l).2.2 - i) = numB n ∧ (i > 0 → n > 0) ∧ i < (numR i acc l).2.2
  | [], i, acc, _, _, h => by simp [numR] at h
  | x :: l, i, acc, ha, hw, h => by
    have hx := hw x (by simp)
    by_cases h9 : i = 9 ∧ x > 1
    · rw [numR_nine h9] at h; simp at h
    by_cases h128 : x ≥ 128
    · rw [numR_more h9 h128] at h ⊢
      obtain ⟨n, e1, e2, e3, e4⟩ := numR_inv l (i + 1) _ (digit_next ha) (fun b hb => hw b (by simp [hb])) h
      have hn := e3 (by omega)
      refine ⟨(x % 128).toNat + n * 128, ?_, ?_, fun _ => by omega, by omega⟩
      · rw [e1, Nat.pow_succ, Nat.add_mul, Nat.mul_assoc n 128, Nat.mul_comm 128 (128 ^ i)]; omega
      · generalize (numR (i + 1) (acc + (x % 128).toNat * 128 ^ i) l).2.2 = cnt at e2 e4
        obtain ⟨k, hk⟩ : ∃ k, cnt - i = k + 1 := ⟨cnt - i - 1, by omega⟩
        rw [hk, List.take_succ_cons, show k = cnt - (i + 1) by omega, e2, numB_big (n := (x % 128).toNat + n * 128) (by omega)]
        have h1 : (((((x % 128).toNat + n * 128) % 128 + 128 : Nat)) : Int) = x := by omega
        have h2 : ((x % 128).toNat + n * 128) / 128 = n := by omega
        rw [h1, h2]
    · by_cases h0 : x = 0 ∧ i > 0
      · rw [numR_zero h9 h128 h0] at h; simp at h
      · rw [numR_end h9 h128 h0]
        refine ⟨(x % 128).toNat, rfl, ?_, fun hi => by omega, Nat.lt_succ_self i⟩
        have : i + 1 - i = 1 := by omega
        simp only [this, List.take_succ_cons, List.take_zero]
        rw [numB_small (by omega)]
        congr 1
        omega
theorem readNum_inv {bs : List Int} {a : Nat} {most : Int} (hw : ∀ b ∈ bs, 0 ≤ b ∧ b ≤ 255) (h : (readNum bs a 0 most).2.2 = 0) : ∃ n : Nat, n ≤ 18446744073709551615 ∧ (readNum bs a 0 most).1 = (n : Int) ∧ bs.take (readNum bs a 0 most).2.1 = bs.take a ++ numB n := by
  have hwd : ∀ b ∈ bs.drop a, 0 ≤ b ∧ b ≤ 255 := fun b hb => hw b (List.mem_of_mem_drop hb)
  by_cases he : (numR 0 0 (bs.drop a)).2.1 = 0
  · by_cases hm : ((numR 0 0 (bs.drop a)).1 : Int) > most
    · rw [readNum_long he hm] at h; simp at h
    · rw [readNum_ok he hm] at h ⊢
      obtain ⟨n, e1, e2, _, _⟩ := numR_inv (bs.drop a) 0 0 (by simp) hwd he
      have hlt := numR_lt (bs.drop a) 0 0 (by omega) (by simp) hwd
      simp only [Nat.pow_zero, Nat.mul_one, Nat.zero_add, Nat.sub_zero] at e1 e2
      refine ⟨n, by omega, by rw [e1], ?_⟩
      simp only []
      rw [List.take_add, e2]
  · rw [readNum_err he] at h; exact absurd h he
theorem readByte_inv {bs : List Int} {a : Nat} {most : Int} (h : (readByte bs a 0 most).2.2 = 0) : bs.take (readByte bs a 0 most).2.1 = bs.take a ++ [(readByte bs a 0 most).1] ∧ (readByte bs a 0 most).1 ∈ bs := by
  cases hi : bs[a]? with
  | none => rw [readByte_short hi] at h; simp at h
  | some x =>
    by_cases hm : x > most
    · rw [readByte_long hi hm] at h; simp at h
    · rw [readByte_ok hi hm]
      refine ⟨?_, List.mem_of_getElem? hi⟩
      simp only []
      rw [List.take_add_one, hi]
      rfl
theorem readByte_range {bs : List Int} {a : Nat} {bad most : Int} (hw : ∀ b ∈ bs, 0 ≤ b ∧ b ≤ 255) : 0 ≤ (readByte bs a bad most).1 ∧ (readByte bs a bad most).1 ≤ 255 := by
  unfold readByte
  split
  · simp
  · split
    · simp
    · rename_i x hx
      have := hw x (List.mem_of_getElem? hx)
      split
      · simp
      · exact this
theorem ofInt32 {a : Int} (h0 : 0 ≤ a) (h1 : a ≤ 4294967295) : ((BitVec.ofInt 32 a).toNat : Int) = a := by
  rw [BitVec.toNat_ofInt]
  omega
theorem xor32_cancel {a b c : Int} (ha : 0 ≤ a ∧ a ≤ 4294967295) (hb : 0 ≤ b ∧ b ≤ 4294967295) (h : iXor .u32 a c = iXor .u32 b c) : a = b := by
  rw [xor32, xor32] at h
  have h1 : (BitVec.ofInt 32 a ^^^ BitVec.ofInt 32 c) = (BitVec.ofInt 32 b ^^^ BitVec.ofInt 32 c) := BitVec.eq_of_toNat_eq (by omega)
  have h2 : BitVec.ofInt 32 a = BitVec.ofInt 32 b := by
    have := congrArg (· ^^^ BitVec.ofInt 32 c) h1
    simpa [BitVec.xor_assoc, BitVec.xor_self, BitVec.xor_zero] using this
  rw [← ofInt32 ha.1 ha.2, ← ofInt32 hb.1 hb.2, h2]
theorem and32_one {h : Int} (h0 : 0 ≤ h) (h1 : h ≤ 4294967295) : iAnd .u32 h 1 = h % 2 := by
  rw [and32, BitVec.toNat_and]
  have : (BitVec.ofInt 32 1).toNat = 1 := rfl
  rw [this, Nat.and_one_is_mod]
  have := ofInt32 h0 h1
  omega
theorem xor32_high {a : Int} (h0 : 0 ≤ a) (h1 : a < 2147483648) : 2147483648 ≤ iXor .u32 a 3988292384 := by
  rw [xor32]
  have hm : (BitVec.ofInt 32 a ^^^ BitVec.ofInt 32 3988292384).msb = true := by
    rw [BitVec.msb_xor]
    have e1 : (BitVec.ofInt 32 a).msb = false := by
      rw [BitVec.msb_eq_decide, decide_eq_false_iff_not]
      have := ofInt32 h0 (by omega)
      omega
    have e2 : (BitVec.ofInt 32 3988292384).msb = true := by decide
    rw [e1, e2]; rfl
  rw [BitVec.msb_eq_decide, decide_eq_true_eq] at hm
  omega
theorem crcBit_inj {a b : Int} (ha : 0 ≤ a ∧ a ≤ 4294967295) (hb : 0 ≤ b ∧ b ≤ 4294967295) (h : crcBit a = crcBit b) : a = b := by
  unfold crcBit at h
  rw [and32_one ha.1 ha.2, and32_one hb.1 hb.2] at h
  have h1 := xor32_high (a := a / 2) (by omega) (by omega)
  have h2 := xor32_high (a := b / 2) (by omega) (by omega)
  split at h <;> split at h
  · have := xor32_cancel ⟨by omega, by omega⟩ ⟨by omega, by omega⟩ h
    omega
  · omega
  · omega
  · omega
theorem crcBits_inj : ∀ (n : Nat) {a b : Int}, (0 ≤ a ∧ a ≤ 4294967295) → (0 ≤ b ∧ b ≤ 4294967295) → crcBits n a = crcBits n b → a = b
  | 0, a, b, _, _, h => h
  | n + 1, a, b, ha, hb, h => crcBit_inj ha hb (crcBits_inj n (crcBit_range ha.1 ha.2) (crcBit_range hb.1 hb.2) h)
theorem crcRound_range (h x : Int) : 0 ≤ crcRound h x ∧ crcRound h x ≤ 4294967295 := crcBits_range 8 (xor32_range _ _).1 (xor32_range _ _).2
theorem crcFold_inj : ∀ (bs : List Int) {a b : Int}, (0 ≤ a ∧ a ≤ 4294967295) → (0 ≤ b ∧ b ≤ 4294967295) → crcFold a bs = crcFold b bs → a = b
  | [], a, b, _, _, h => h
  | x :: bs, a, b, ha, hb, h => xor32_cancel ha hb (crcBits_inj 8 (xor32_range _ _) (xor32_range _ _) (crcFold_inj bs (crcRound_range a x) (crcRound_range b x) h))
theorem crcFold_range : ∀ (bs : List Int) {a : Int}, (0 ≤ a ∧ a ≤ 4294967295) → 0 ≤ crcFold a bs ∧ crcFold a bs ≤ 4294967295
  | [], a, h => h
  | x :: bs, a, h => crcFold_range bs (crcRound_range a x)
theorem crcFold_set : ∀ (bs : List Int) (i : Nat) (x y h : Int), (∀ b ∈ bs, 0 ≤ b ∧ b ≤ 255) → (0 ≤ h ∧ h ≤ 4294967295) → (0 ≤ y ∧ y ≤ 255) → bs[i]? = some x → x ≠ y → crcFold h (bs.set i y) ≠ crcFold h bs
  | [], i, x, y, h, _, _, _, hi, _ => by simp at hi
  | b :: bs, 0, x, y, h, hw, hh, hy, hi, hne => by
    simp at hi
    subst hi
    intro he
    have h1 := crcFold_inj bs (crcRound_range h y) (crcRound_range h b) he
    have h2 := crcBits_inj 8 (xor32_range _ _) (xor32_range _ _) h1
    rw [xor32_comm h y, xor32_comm h b] at h2
    have hb := hw b (by simp)
    exact hne (xor32_cancel ⟨by omega, by omega⟩ ⟨by omega, by omega⟩ h2).symm
  | b :: bs, i + 1, x, y, h, hw, hh, hy, hi, hne => crcFold_set bs i x y (crcRound h b) (fun z hz => hw z (by simp [hz])) (crcRound_range h b) hy (by simpa using hi) hne
theorem crc_set {bs : List Int} {i : Nat} {x y : Int} (hw : ∀ b ∈ bs, 0 ≤ b ∧ b ≤ 255) (hy : 0 ≤ y ∧ y ≤ 255) (hi : bs[i]? = some x) (hne : x ≠ y) : crc (bs.set i y) ≠ crc bs := by
  intro h
  unfold crc at h
  have hr : (0 : Int) ≤ 4294967295 ∧ (4294967295 : Int) ≤ 4294967295 := ⟨by omega, by omega⟩
  exact crcFold_set bs i x y _ hw hr hy hi hne (xor32_cancel (crcFold_range _ hr) (crcFold_range _ hr) h)
theorem shr_k (s : Int) (k : Nat) (hk : k ≤ 32) : iShr .u32 s (k : Int) = s / 2 ^ k := by
  unfold iShr
  have : min ((k : Int)).toNat IntKind.u32.bits = k := by simp [IntKind.bits]; omega
  rw [this, Int.fdiv_eq_ediv_of_nonneg _ (Int.le_of_lt (Int.pow_pos (by decide)))]
theorem sumBytes_eq {s : Int} (h0 : 0 ≤ s) (h1 : s ≤ 4294967295) : sumBytes s = [s % 256, s / 256 % 256, s / 65536 % 256, s / 16777216 % 256] := by
  have e1 : iShr .u32 s 8 = s / 256 := shr_k s 8 (by omega)
  have e2 : iShr .u32 s 16 = s / 65536 := shr_k s 16 (by omega)
  have e3 : iShr .u32 s 24 = s / 16777216 := shr_k s 24 (by omega)
  unfold sumBytes
  rw [e1, e2, e3]
  simp only [IntKind.wrap_u8]
theorem sumBytes_inj {s t : Int} (hs : 0 ≤ s ∧ s ≤ 4294967295) (ht : 0 ≤ t ∧ t ≤ 4294967295) (h : sumBytes s = sumBytes t) : s = t := by
  rw [sumBytes_eq hs.1 hs.2, sumBytes_eq ht.1 ht.2] at h
  injection h with a h
  injection h with b h
  injection h with c h
  injection h with d h
  omega
theorem unseal_turned {bs : List Int} {i : Nat} {x y : Int} (hw : ∀ b ∈ bs, 0 ≤ b ∧ b ≤ 255) (hy : 0 ≤ y ∧ y ≤ 255) (hi : (sealOf bs)[i]? = some x) (hne : x ≠ y) : unsealOf ((sealOf bs).set i y) = ([], 23) := by
  have hl : (sealOf bs).length = bs.length + 4 := by simp [sealOf, sumBytes]
  have hl2 : ((sealOf bs).set i y).length = bs.length + 4 := by simpa using hl
  have h4 : ((sealOf bs).set i y).length - 4 = bs.length := by omega
  refine unseal_bad (by omega) ?_
  rw [h4]
  by_cases hlt : i < bs.length
  · have e : (sealOf bs).set i y = bs.set i y ++ sumBytes (crc bs) := by unfold sealOf; rw [List.set_append_left _ _ hlt]
    have e1 : (bs.set i y ++ sumBytes (crc bs)).drop bs.length = sumBytes (crc bs) := by
      have : bs.length = (bs.set i y).length := by simp
      rw [this, List.drop_left]
    have e2 : (bs.set i y ++ sumBytes (crc bs)).take bs.length = bs.set i y := by
      have : bs.length = (bs.set i y).length := by simp
      rw [this, List.take_left]
    rw [e, e1, e2]
    intro h
    have hx : bs[i]? = some x := by
      unfold sealOf at hi
      rwa [List.getElem?_append_left hlt] at hi
    exact crc_set hw hy hx hne (sumBytes_inj (crc_range _) (crc_range _) h).symm
  · have e : (sealOf bs).set i y = bs ++ (sumBytes (crc bs)).set (i - bs.length) y := by unfold sealOf; rw [List.set_append_right _ _ (by omega)]
    rw [e, List.drop_left, List.take_left]
    intro h
    unfold sealOf at hi
    rw [List.getElem?_append_right (by omega)] at hi
    have h2 : ((sumBytes (crc bs)).set (i - bs.length) y)[i - bs.length]? = some y := by
      rw [List.getElem?_set_self (List.getElem?_eq_some_iff.1 hi).1]
    rw [h, hi] at h2
    injection h2 with h2
    exact hne h2
theorem xor8_ne {x d : Int} (hx : 0 ≤ x ∧ x ≤ 255) (hd : 1 ≤ d ∧ d ≤ 255) : iXor .u8 x d ≠ x := by
  intro h
  unfold iXor at h
  change IntKind.wrap .u8 ((BitVec.ofInt 8 x ^^^ BitVec.ofInt 8 d).toNat : Int) = x at h
  rw [u8w _ (by omega) (by have := (BitVec.ofInt 8 x ^^^ BitVec.ofInt 8 d).isLt; omega)] at h
  have e8 : ((BitVec.ofInt 8 x).toNat : Int) = x := by rw [BitVec.toNat_ofInt]; omega
  have h1 : (BitVec.ofInt 8 x ^^^ BitVec.ofInt 8 d) = BitVec.ofInt 8 x := BitVec.eq_of_toNat_eq (by omega)
  have h2 : BitVec.ofInt 8 d = 0#8 := by
    have := congrArg (BitVec.ofInt 8 x ^^^ ·) h1
    simpa [← BitVec.xor_assoc, BitVec.xor_self] using this
  have h3 : ((BitVec.ofInt 8 d).toNat : Int) = d := by rw [BitVec.toNat_ofInt]; omega
  rw [h2] at h3
  simp at h3
  omega
theorem xor8_range (x d : Int) : 0 ≤ iXor .u8 x d ∧ iXor .u8 x d ≤ 255 := by
  unfold iXor
  exact wrap8_range _
end Go.Proofs.YtcmkjnoaefkkhaaX
