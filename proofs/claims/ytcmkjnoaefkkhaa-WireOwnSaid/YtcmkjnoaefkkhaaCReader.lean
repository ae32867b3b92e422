/- The readers, codec's and the document's: each call's answer, and where it stands then. -/
import Derived.Test.YtcmkjnoaefkkhaaCUnseal
namespace Go.Proofs.YtcmkjnoaefkkhaaX
open Go.RowKit
set_option linter.unusedVariables false

/-! ### What is read -/
def readByte (bs : List Int) (a : Nat) (bad most : Int) : Int × Nat × Int :=
  if bad ≠ 0 then (0, a, bad) else match bs[a]? with
    | none => (0, a, 20)
    | some x => if x > most then (0, a, 22) else (x, a + 1, 0)
def numR : Nat → Nat → List Int → Nat × Int × Nat
  | _, _, [] => (0, 20, 0)
  | i, acc, x :: l => if i = 9 ∧ x > 1 then (0, 21, 0) else if x ≥ 128 then numR (i + 1) (acc + (x % 128).toNat * 128 ^ i) l else if x = 0 ∧ i > 0 then (0, 21, 0) else (acc + (x % 128).toNat * 128 ^ i, 0, i + 1)
def readNum (bs : List Int) (a : Nat) (bad most : Int) : Int × Nat × Int :=
  if bad ≠ 0 then (0, a, bad) else if (numR 0 0 (bs.drop a)).2.1 ≠ 0 then (0, a, (numR 0 0 (bs.drop a)).2.1)
    else if ((numR 0 0 (bs.drop a)).1 : Int) > most then (0, a, 22) else ((numR 0 0 (bs.drop a)).1, a + (numR 0 0 (bs.drop a)).2.2, 0)
def readText (bs : List Int) (a : Nat) (bad most : Int) : List Int × Nat × Int :=
  if (readNum bs a bad (max 0 most)).2.2 ≠ 0 then ([], (readNum bs a bad (max 0 most)).2.1, (readNum bs a bad (max 0 most)).2.2)
    else if ((bs.length - (readNum bs a bad (max 0 most)).2.1 : Nat) : Int) < (readNum bs a bad (max 0 most)).1 then ([], a, 20)
    else ((bs.drop (readNum bs a bad (max 0 most)).2.1).take (readNum bs a bad (max 0 most)).1.toNat, (readNum bs a bad (max 0 most)).2.1 + (readNum bs a bad (max 0 most)).1.toNat, 0)
def readEnd (bs : List Int) (a : Nat) (bad : Int) : Int := if bad = 0 ∧ a < bs.length then 21 else bad

theorem pow7 (i : Nat) : (2 : Nat) ^ (7 * i) = 128 ^ i := by rw [Nat.pow_mul]
theorem pow_bound {i : Nat} (h : i ≤ 8) : (128 : Nat) ^ i ≤ 72057594037927936 := Nat.pow_le_pow_right (by omega) h
/-- The numbers that stand for a place: what numR yields lies within the bytes, and within 64 bits. -/
theorem digit_bound {i acc : Nat} {x : Int} (hi : i ≤ 9) (ha : acc < 128 ^ i) (h9 : i = 9 → x ≤ 1) (hx : 0 ≤ x) : acc + (x % 128).toNat * 128 ^ i < 18446744073709551616 := by
  have hm : (x % 128).toNat ≤ 127 := by omega
  by_cases h : i ≤ 8
  · have h1 := pow_bound h
    have h2 : (x % 128).toNat * 128 ^ i ≤ 127 * 72057594037927936 := Nat.mul_le_mul hm h1
    omega
  · obtain rfl : i = 9 := by omega
    have h1 : (x % 128).toNat ≤ 1 := by have := h9 rfl; omega
    have h2 : (x % 128).toNat * 128 ^ 9 ≤ 1 * 128 ^ 9 := Nat.mul_le_mul_right _ h1
    simp only [show (128 : Nat) ^ 9 = 9223372036854775808 from rfl] at *
    omega
theorem digit_next {i acc : Nat} {x : Int} (ha : acc < 128 ^ i) : acc + (x % 128).toNat * 128 ^ i < 128 ^ (i + 1) := by
  have hm : (x % 128).toNat ≤ 127 := by omega
  have h2 : (x % 128).toNat * 128 ^ i ≤ 127 * 128 ^ i := Nat.mul_le_mul_right _ hm
  rw [Nat.pow_succ]
  omega
theorem numR_le : ∀ (l : List Int) (i acc : Nat), (numR i acc l).2.2 ≤ i + l.length
  | [], i, acc => by simp [numR]
  | x :: l, i, acc => by
    simp only [numR]
    split
    · simp
    · split
      · have := numR_le l (i + 1) (acc + (x % 128).toNat * 128 ^ i)
        simp only [List.length_cons]
        omega
      · split
        · simp
        · simp only [List.length_cons]; omega
theorem numR_lt : ∀ (l : List Int) (i acc : Nat), i ≤ 9 → acc < 128 ^ i → (∀ b ∈ l, 0 ≤ b ∧ b ≤ 255) → (numR i acc l).1 < 18446744073709551616
  | [], i, acc, _, _, _ => by simp [numR]
  | x :: l, i, acc, hi, ha, hw => by
    have hx := hw x (by simp)
    simp only [numR]
    split
    · simp
    · rename_i h9
      split
      · exact numR_lt l _ _ (by omega) (digit_next ha) (fun b hb => hw b (by simp [hb]))
      · split
        · simp
        · exact digit_bound hi ha (fun h => by omega) hx.1
theorem and127_fin : ∀ x : Fin 256, iAnd .u8 (x.val : Int) 127 = ((x.val % 128 : Nat) : Int) := by decide +kernel
theorem and127 {x : Int} (h : 0 ≤ x ∧ x ≤ 255) : iAnd .u8 x 127 = (((x % 128).toNat : Nat) : Int) := by
  have := and127_fin ⟨x.toNat, by omega⟩
  simp only [] at this
  rw [show (x.toNat : Int) = x by omega] at this
  rw [this]
  omega
theorem shift_i {i : Nat} (hi : i ≤ 9) : IntKind.wrap .u64 (IntKind.wrap .i64 (7 * (i : Int))) = ((7 * i : Nat) : Int) := by
  rw [i64w _ (by omega) (by omega), u64w _ (by omega) (by omega)]
  omega
theorem shl_digit {i y : Nat} (hi : i ≤ 9) (hy : y * 128 ^ i < 18446744073709551616) : iShl .u64 (y : Int) ((7 * i : Nat) : Int) = ((y * 128 ^ i : Nat) : Int) := by
  unfold iShl
  have e : min (((7 * i : Nat) : Int)).toNat IntKind.u64.bits = 7 * i := by simp [IntKind.bits]; omega
  rw [e]
  have e2 : (y : Int) * 2 ^ (7 * i) = ((y * 128 ^ i : Nat) : Int) := by rw [← pow7]; simp
  rw [e2]
  exact u64w _ (by omega) (by omega)
theorem or_digit {i acc y : Nat} (ha : acc < 128 ^ i) (hs : acc + y * 128 ^ i < 18446744073709551616) : iOr .u64 (acc : Int) ((y * 128 ^ i : Nat) : Int) = ((acc + y * 128 ^ i : Nat) : Int) := by
  have e1 : (BitVec.ofInt 64 (acc : Int)).toNat = acc := by rw [BitVec.toNat_ofInt]; omega
  have e2 : (BitVec.ofInt 64 ((y * 128 ^ i : Nat) : Int)).toNat = y * 128 ^ i := by rw [BitVec.toNat_ofInt]; omega
  unfold iOr
  change IntKind.wrap .u64 ((BitVec.ofInt 64 (acc : Int) ||| BitVec.ofInt 64 ((y * 128 ^ i : Nat) : Int)).toNat : Int) = _
  rw [BitVec.toNat_or, e1, e2]
  have e3 : acc ||| y * 128 ^ i = acc + y * 128 ^ i := by
    rw [← pow7] at ha ⊢
    have := Nat.two_pow_add_eq_or_of_lt ha y
    rw [Nat.or_comm, Nat.mul_comm, ← this]
    omega
  rw [e3]
  exact u64w _ (by omega) (by omega)
theorem digit_or {i acc : Nat} {x : Int} (hi : i ≤ 9) (ha : acc < 128 ^ i) (hx : 0 ≤ x ∧ x ≤ 255) (h9 : i = 9 → x ≤ 1) :
    iOr .u64 (acc : Int) (iShl .u64 (IntKind.wrap .u64 (iAnd .u8 x 127)) (IntKind.wrap .u64 (IntKind.wrap .i64 (7 * (i : Int))))) = ((acc + (x % 128).toNat * 128 ^ i : Nat) : Int) := by
  have hb := digit_bound hi ha h9 hx.1
  rw [and127 hx, u64w _ (by omega) (by omega), shift_i hi, shl_digit hi (by omega), or_digit ha hb]
theorem digit_add {i acc : Nat} {x : Int} (hi : i ≤ 9) (ha : acc < 128 ^ i) (hx : 0 ≤ x ∧ x ≤ 255) (h9 : i = 9 → x ≤ 1) :
    IntKind.wrap .u64 ((acc : Int) + (iShl .u64 (IntKind.wrap .u64 (Int.tmod x 128)) (IntKind.wrap .u64 (IntKind.wrap .i64 (7 * (i : Int)))))) = ((acc + (x % 128).toNat * 128 ^ i : Nat) : Int) := by
  have hb := digit_bound hi ha h9 hx.1
  have e : Int.tmod x 128 = (((x % 128).toNat : Nat) : Int) := by rw [IntWalk.rem_in _ _ hx.1]; omega
  rw [e, u64w (((x % 128).toNat : Nat) : Int) (by omega) (by omega), shift_i hi, shl_digit hi (by omega), u64w _ (by omega) (by omega)]
  omega

/-! ### A reader -/
structure Rd (e : TypeId) (w : World) (g : Nat) (p : Option Addr) (n c : Nat) (bs : List Int) (a : Nat) (bad : Int) : Prop where
  blk : Blk w g [.slice p n c, .int .i64 (a : Int), .int .i64 bad] e
  bytes : ByS w p n c bs
  apart : bs ≠ [] → ∀ k ∈ fbl p, k ≠ g
  le : a ≤ n
  small : n ≤ 140737488355328
section
variable {e : TypeId} {w w' : World} {g : Nat} {p : Option Addr} {n c : Nat} {bs : List Int} {a : Nat} {bad : Int} {S : List Nat}
theorem Rd.keep (h : Rd e w g p n c bs a bad) (hf : Fr S w w') (hg : g ∉ S) (hn : bs ≠ [] → ∀ k ∈ fbl p, k ∉ S) : Rd e w' g p n c bs a bad :=
  ⟨h.blk.keep hf hg, h.bytes.keepD hf hn, h.apart, h.le, h.small⟩
theorem Rd.keep' (h : Rd e w g p n c bs a bad) (hf : Fr [] w w') : Rd e w' g p n c bs a bad := h.keep hf (by simp) (fun _ => by simp)
theorem Rd.drew (h : Rd e w g p n c bs a bad) : Rd e w.drew g p n c bs a bad := h.keep' Fr.drew
theorem Rd.c0 (h : Rd e w g p n c bs a bad) : w.cell? (at0 g 0) = some (.slice p n c) := h.blk.cell rfl
theorem Rd.c1 (h : Rd e w g p n c bs a bad) : w.cell? (at0 g 1) = some (.int .i64 (a : Int)) := h.blk.cell rfl
theorem Rd.c2 (h : Rd e w g p n c bs a bad) : w.cell? (at0 g 2) = some (.int .i64 bad) := h.blk.cell rfl
theorem Rd.set (h : Rd e w g p n c bs a bad) {i : Nat} {v : Value} {a' : Nat} {bad' : Int} (hs : [Value.slice p n c, .int .i64 (a : Int), .int .i64 bad].set i v = [.slice p n c, .int .i64 (a' : Int), .int .i64 bad']) (hi : i < 3) (ha : a' ≤ n) :
    StoreOk w (at0 g i) ∧ Rd e (w.setCell (at0 g i) v) g p n c bs a' bad' ∧ Fr [g] w (w.setCell (at0 g i) v) := by
  have f : Fr [g] w (w.setCell (at0 g i) v) := Fr.setCell (by simp [at0]) v
  refine ⟨h.blk.storeOk (by simpa using hi), ⟨?_, h.bytes.keepD f (fun hb k hk hm => h.apart hb k hk (by simpa using hm)), h.apart, ha, h.small⟩, f⟩
  have := h.blk.set i v
  rw [hs] at this
  exact this
theorem Rd.setAt (h : Rd e w g p n c bs a bad) {a' : Nat} (ha : a' ≤ n) : StoreOk w (at0 g 1) ∧ Rd e (w.setCell (at0 g 1) (.int .i64 (a' : Int))) g p n c bs a' bad ∧ Fr [g] w (w.setCell (at0 g 1) (.int .i64 (a' : Int))) := h.set rfl (by omega) ha
theorem Rd.setBad (h : Rd e w g p n c bs a bad) (bad' : Int) : StoreOk w (at0 g 2) ∧ Rd e (w.setCell (at0 g 2) (.int .i64 bad')) g p n c bs a bad' ∧ Fr [g] w (w.setCell (at0 g 2) (.int .i64 bad')) := h.set rfl (by omega) h.le
theorem Rd.len (h : Rd e w g p n c bs a bad) : bs.length = n := h.bytes.len

variable {Q : Value → World → Prop}
theorem fault_spec {x : Int} (h : Rd 90 w g p n c bs a 0) (hQ : ∀ w', Rd 90 w' g p n c bs a x → Fr [g] w w' → Q (.tuple #[]) w') : CallR Try.prog 68 #[.pointer (some (at0 g 0)), .int .i64 x] w Q := by
  refine X68.sound _ _ _ _ ?_
  unfold X68.f
  simp only [optP_some, add_at, Nat.zero_add]
  refine ld_int h.c2 (bc_eq (fun _ => ?_) (fun hn => absurd rfl hn))
  obtain ⟨s1, s2, s3⟩ := h.setBad x
  exact ⟨s1, hQ _ s2 s3⟩
theorem wrong_spec {x : Int} (h : Rd 68 w g p n c bs a bad) (hQ : ∀ w', Rd 68 w' g p n c bs a x → Fr [g] w w' → Q (.int .u64 0) w') : CallR Try.prog 71 #[.pointer (some (at0 g 0)), .int .i64 (a : Int), .int .i64 x] w Q := by
  refine X71.sound _ _ _ _ _ ?_
  unfold X71.f
  simp only [optP_some, add_at, Nat.zero_add]
  obtain ⟨s1, s2, s3⟩ := h.setBad x
  obtain ⟨t1, t2, t3⟩ := s2.setAt h.le
  exact ⟨s1, t1, hQ _ t2 (s3.tr t3)⟩
theorem readByte_bad {most : Int} (h : bad ≠ 0) : readByte bs a bad most = (0, a, bad) := by unfold readByte; rw [if_pos h]
theorem readByte_short {most : Int} (h : bs[a]? = none) : readByte bs a 0 most = (0, a, 20) := by unfold readByte; rw [if_neg (by simp), h]
theorem readByte_long {most x : Int} (h : bs[a]? = some x) (hm : x > most) : readByte bs a 0 most = (0, a, 22) := by unfold readByte; rw [if_neg (by simp), h]; simp only []; rw [if_pos hm]
theorem readByte_ok {most x : Int} (h : bs[a]? = some x) (hm : ¬ x > most) : readByte bs a 0 most = (x, a + 1, 0) := by unfold readByte; rw [if_neg (by simp), h]; simp only []; rw [if_neg hm]
theorem cbyte_spec {most : Int} (h : Rd 90 w g p n c bs a bad) (hQ : ∀ w', Rd 90 w' g p n c bs (readByte bs a bad most).2.1 (readByte bs a bad most).2.2 → Fr [g] w w' → Q (.int .u8 (readByte bs a bad most).1) w') :
    CallR Try.prog 43 #[.pointer (some (at0 g 0)), .int .u8 most] w Q := by
  refine X43.sound _ _ _ _ ?_
  unfold X43.f
  simp only [optP_some, add_at, Nat.zero_add, drewK]
  have hlen := h.len
  have hsm := h.small
  refine ld_int h.c2 (bc_ne (fun hb => ?_) (fun hb => ?_))
  · rw [readByte_bad hb] at hQ
    exact hQ w h (Fr.refl w)
  · subst hb
    have h1 := h.drew
    have h2 := h1.drew
    refine ld_int h1.c1 (ld_sl h1.c0 (bc_dec (fun hge => ?_) (fun hlt => ?_)))
    · rw [readByte_short (List.getElem?_eq_none (by omega))] at hQ
      refine fault_spec h1 ?_
      intro w' k1 k2
      exact ⟨rfl, hQ w' k1 (Fr.drew.tr k2)⟩
    · have hi : bs[a]? = some (bs[a]'(by omega)) := List.getElem?_eq_getElem _
      generalize bs[a]'(by omega) = x at hi
      obtain ⟨q, hq, hc⟩ := h2.bytes.get hi
      refine ld_sl h2.c0 (ld_int h2.c1 ⟨⟨by omega, by omega⟩, opt_some hq (ld_int (by simpa using hc) (bc_dec (fun hm => ?_) (fun hm => ?_)))⟩)
      · rw [readByte_long hi hm] at hQ
        refine fault_spec h2 ?_
        intro w' k1 k2
        exact ⟨rfl, hQ w' k1 (Fr.drew.tr (Fr.drew.tr k2))⟩
      · rw [readByte_ok hi hm] at hQ
        have e1 : IntKind.wrap .i64 ((a : Int) + 1) = ((a + 1 : Nat) : Int) := by rw [i64w _ (by omega) (by omega)]; omega
        have e2 : IntKind.wrap .i64 (((a + 1 : Nat) : Int) - 1) = (a : Int) := by rw [i64w _ (by omega) (by omega)]; omega
        obtain ⟨s1, s2, s3⟩ := h2.setAt (a' := a + 1) (by omega)
        refine ld_int h2.c1 ?_
        rw [e1]
        refine ⟨s1, ld_sl s2.drew.c0 (ld_int s2.drew.c1 ?_)⟩
        rw [e2]
        obtain ⟨q2, hq2, hc2⟩ := s2.drew.bytes.get hi
        refine ⟨⟨by omega, by omega⟩, opt_some hq2 (ld_int (by simpa using hc2) ?_)⟩
        exact hQ _ s2.drew (Fr.drew.tr (Fr.drew.tr (s3.tr Fr.drew)))
theorem rbyte_spec {most : Int} (h : Rd 68 w g p n c bs a bad) (hQ : ∀ w', Rd 68 w' g p n c bs (readByte bs a bad most).2.1 (readByte bs a bad most).2.2 → Fr [g] w w' → Q (.int .u8 (readByte bs a bad most).1) w') :
    CallR Try.prog 47 #[.pointer (some (at0 g 0)), .int .u8 most] w Q := by
  refine X47.sound _ _ _ _ ?_
  unfold X47.f
  simp only [optP_some, add_at, Nat.zero_add, drewK]
  have hlen := h.len
  have hsm := h.small
  refine ld_int h.c2 (bc_ne (fun hb => ?_) (fun hb => ?_))
  · rw [readByte_bad hb] at hQ
    exact hQ w h (Fr.refl w)
  · subst hb
    have h1 := h.drew
    have h2 := h1.drew
    refine ld_int h1.c1 (ld_sl h1.c0 (bc_dec (fun hge => ?_) (fun hlt => ?_)))
    · rw [readByte_short (List.getElem?_eq_none (by omega))] at hQ
      refine ld_int h1.c1 (wrong_spec h1 ?_)
      intro w' k1 k2
      exact ⟨_, rfl, hQ w' k1 (Fr.drew.tr k2)⟩
    · have hi : bs[a]? = some (bs[a]'(by omega)) := List.getElem?_eq_getElem _
      generalize bs[a]'(by omega) = x at hi
      obtain ⟨q, hq, hc⟩ := h2.bytes.get hi
      refine ld_sl h2.c0 (ld_int h2.c1 ⟨⟨by omega, by omega⟩, opt_some hq (ld_int (by simpa using hc) (bc_dec (fun hm => ?_) (fun hm => ?_)))⟩)
      · rw [readByte_long hi hm] at hQ
        refine ld_int h2.c1 (wrong_spec h2 ?_)
        intro w' k1 k2
        exact ⟨_, rfl, hQ w' k1 (Fr.drew.tr (Fr.drew.tr k2))⟩
      · rw [readByte_ok hi hm] at hQ
        have e1 : IntKind.wrap .i64 ((a : Int) + 1) = ((a + 1 : Nat) : Int) := by rw [i64w _ (by omega) (by omega)]; omega
        have e2 : IntKind.wrap .i64 (((a + 1 : Nat) : Int) - 1) = (a : Int) := by rw [i64w _ (by omega) (by omega)]; omega
        obtain ⟨s1, s2, s3⟩ := h2.setAt (a' := a + 1) (by omega)
        refine ld_int h2.c1 ?_
        rw [e1]
        refine ⟨s1, ld_sl s2.drew.c0 (ld_int s2.drew.c1 ?_)⟩
        rw [e2]
        obtain ⟨q2, hq2, hc2⟩ := s2.drew.bytes.get hi
        refine ⟨⟨by omega, by omega⟩, opt_some hq2 (ld_int (by simpa using hc2) ?_)⟩
        exact hQ _ s2.drew (Fr.drew.tr (Fr.drew.tr (s3.tr Fr.drew)))
theorem cend_spec (h : Rd 90 w g p n c bs a bad) (hQ : ∀ w', Fr [] w w' → Q (.int .i64 (readEnd bs a bad)) w') : CallR Try.prog 45 #[.pointer (some (at0 g 0))] w Q := by
  refine X45.sound _ _ _ ?_
  unfold X45.f
  simp only [optP_some, add_at, Nat.zero_add, drewK]
  have hlen := h.len
  have h1 := h.drew
  unfold readEnd at hQ
  refine ld_int h1.c2 (bc_eq (fun hb => ?_) (fun hb => ?_))
  · subst hb
    refine ld_int h1.c1 (ld_sl h1.c0 (bc_dec (fun hlt => ?_) (fun hge => ?_)))
    · rw [if_pos ⟨rfl, by omega⟩] at hQ
      exact hQ _ Fr.drew
    · rw [if_neg (by omega)] at hQ
      exact ld_int h1.c2 (hQ _ Fr.drew)
  · rw [if_neg (fun hh => hb hh.1)] at hQ
    exact ld_int h1.c2 (hQ _ Fr.drew)
theorem rend_spec (h : Rd 68 w g p n c bs a bad) (hQ : ∀ w', Fr [] w w' → Q (.int .i64 (readEnd bs a bad)) w') : CallR Try.prog 49 #[.pointer (some (at0 g 0))] w Q := by
  refine X49.sound _ _ _ ?_
  unfold X49.f
  simp only [optP_some, add_at, Nat.zero_add, drewK]
  have hlen := h.len
  have h1 := h.drew
  unfold readEnd at hQ
  refine ld_int h1.c2 (bc_eq (fun hb => ?_) (fun hb => ?_))
  · subst hb
    refine ld_int h1.c1 (ld_sl h1.c0 (bc_dec (fun hlt => ?_) (fun hge => ?_)))
    · rw [if_pos ⟨rfl, by omega⟩] at hQ
      exact hQ _ Fr.drew
    · rw [if_neg (by omega)] at hQ
      exact ld_int h1.c2 (hQ _ Fr.drew)
  · rw [if_neg (fun hh => hb hh.1)] at hQ
    exact ld_int h1.c2 (hQ _ Fr.drew)
end
end Go.Proofs.YtcmkjnoaefkkhaaX
