/- The readers' numbers and texts. -/
import Derived.Test.YtcmkjnoaefkkhaaCReader
namespace Go.Proofs.YtcmkjnoaefkkhaaX
open Go.RowKit
set_option linter.unusedVariables false

/-- what number answers -/
def numOut (a : Nat) (r : Nat × Int × Nat) : Value := .tuple #[.int .u64 (r.1 : Int), .int .i64 r.2.1, .int .i64 (if r.2.1 = 0 then ((a + r.2.2 : Nat) : Int) else 0)]
theorem numR_nil (i acc : Nat) : numR i acc [] = (0, 20, 0) := rfl
theorem numR_nine {i acc : Nat} {x : Int} {l : List Int} (h : i = 9 ∧ x > 1) : numR i acc (x :: l) = (0, 21, 0) := by rw [numR, if_pos h]
theorem numR_more {i acc : Nat} {x : Int} {l : List Int} (h : ¬ (i = 9 ∧ x > 1)) (h2 : x ≥ 128) : numR i acc (x :: l) = numR (i + 1) (acc + (x % 128).toNat * 128 ^ i) l := by rw [numR, if_neg h, if_pos h2]
theorem numR_zero {i acc : Nat} {x : Int} {l : List Int} (h : ¬ (i = 9 ∧ x > 1)) (h2 : ¬ x ≥ 128) (h3 : x = 0 ∧ i > 0) : numR i acc (x :: l) = (0, 21, 0) := by rw [numR, if_neg h, if_neg h2, if_pos h3]
theorem numR_end {i acc : Nat} {x : Int} {l : List Int} (h : ¬ (i = 9 ∧ x > 1)) (h2 : ¬ x ≥ 128) (h3 : ¬ (x = 0 ∧ i > 0)) : numR i acc (x :: l) = (acc + (x % 128).toNat * 128 ^ i, 0, i + 1) := by rw [numR, if_neg h, if_neg h2, if_neg h3]
section
variable {w : World} {x : Option Addr} {n c : Nat} {bs : List Int} {a : Nat} {Q : Value → World → Prop}
theorem number_l0 (hb : ByS w x n c bs) (hn : n ≤ 140737488355328) : ∀ (l : List Int) (i acc : Nat), i ≤ 9 → acc < 128 ^ i → bs.drop (a + i) = l → a + i ≤ n → Q (numOut a (numR i acc l)) w → X76.l0 Q (l.length + 1) x n c (a : Int) (acc : Int) (i : Int) w
  | [], i, acc, hi, ha, hd, hle, hQ => by
    have hlen := hb.len
    have hl : bs.length ≤ a + i := by
      have := congrArg List.length hd
      simp at this
      omega
    have e1 : IntKind.wrap .i64 ((a : Int) + (i : Int)) = ((a + i : Nat) : Int) := by rw [i64w _ (by omega) (by omega)]; omega
    rw [List.length_nil, X76.l0, e1]
    exact bc_pos (by omega) hQ
  | b :: l, i, acc, hi, ha, hd, hle, hQ => by
    have hlen := hb.len
    have hib : bs[a + i]? = some b := by rw [← List.head?_drop, hd]; rfl
    have hlt : a + i < n := by have := (List.getElem?_eq_some_iff.1 hib).1; omega
    obtain ⟨p, hp, hc⟩ := hb.get hib
    have hwf := hb.wf b (List.mem_of_getElem? hib)
    have e1 : IntKind.wrap .i64 ((a : Int) + (i : Int)) = ((a + i : Nat) : Int) := by rw [i64w _ (by omega) (by omega)]; omega
    have e2 : IntKind.wrap .i64 (((a + i : Nat) : Int) + 1) = ((a + (i + 1) : Nat) : Int) := by rw [i64w _ (by omega) (by omega)]; omega
    have e3 : IntKind.wrap .i64 ((i : Int) + 1) = ((i + 1 : Nat) : Int) := by rw [i64w _ (by omega) (by omega)]; omega
    have body : ¬ (i = 9 ∧ b > 1) → X76.j1 Q (X76.l0 Q (l.length + 1)) x n c (a : Int) (acc : Int) (i : Int) b w := by
      intro h9
      unfold X76.j1
      rw [digit_or hi ha hwf (fun h => by omega), e1, e2, e3]
      refine ⟨by rw [shift_i hi]; omega, bc_dec (fun hge => ?_) (fun hlt2 => ?_)⟩
      · rw [numR_more h9 hge] at hQ
        exact number_l0 hb hn l (i + 1) _ (by omega) (digit_next ha) (by rw [← Nat.add_assoc, ← List.drop_drop, hd]; rfl) (by omega) hQ
      · refine bc_eq (fun h0 => ?_) (fun h0 => ?_)
        · refine bc_dec (fun hpos => ?_) (fun hpos => ?_)
          · rw [numR_zero h9 hlt2 ⟨h0, by omega⟩] at hQ
            exact hQ
          · rw [numR_end h9 hlt2 (by omega)] at hQ
            exact hQ
        · rw [numR_end h9 hlt2 (by omega)] at hQ
          exact hQ
    rw [List.length_cons, X76.l0, e1]
    refine bc_neg (by omega) ⟨⟨by omega, by omega⟩, opt_some hp (ld_int (by rw [Int.toNat_natCast]; exact hc) (bc_eq (fun h9 => bc_dec (fun h1 => ?_) (fun h1 => ?_)) (fun h9 => ?_)))⟩
    · rw [numR_nine ⟨by omega, h1⟩] at hQ
      exact hQ
    · exact body (by omega)
    · exact body (by omega)
theorem number_spec (hb : ByS w x n c bs) (hn : n ≤ 140737488355328) (ha : a ≤ n) (hQ : Q (numOut a (numR 0 0 (bs.drop a))) w) : CallR Try.prog 76 #[.slice x n c, .int .i64 (a : Int)] w Q := by
  refine X76.sound _ _ _ _ _ _ ⟨(bs.drop a).length + 1, ?_⟩
  exact number_l0 hb hn (bs.drop a) 0 0 (by omega) (by simp) rfl ha hQ
end
theorem readNum_bad {bs : List Int} {a : Nat} {bad most : Int} (h : bad ≠ 0) : readNum bs a bad most = (0, a, bad) := by unfold readNum; rw [if_pos h]
theorem readNum_err {bs : List Int} {a : Nat} {most : Int} (h : (numR 0 0 (bs.drop a)).2.1 ≠ 0) : readNum bs a 0 most = (0, a, (numR 0 0 (bs.drop a)).2.1) := by unfold readNum; rw [if_neg (by simp), if_pos h]
theorem readNum_long {bs : List Int} {a : Nat} {most : Int} (h : (numR 0 0 (bs.drop a)).2.1 = 0) (hm : ((numR 0 0 (bs.drop a)).1 : Int) > most) : readNum bs a 0 most = (0, a, 22) := by unfold readNum; rw [if_neg (by simp), if_neg (by simp [h]), if_pos hm]
theorem readNum_ok {bs : List Int} {a : Nat} {most : Int} (h : (numR 0 0 (bs.drop a)).2.1 = 0) (hm : ¬ ((numR 0 0 (bs.drop a)).1 : Int) > most) : readNum bs a 0 most = (((numR 0 0 (bs.drop a)).1 : Int), a + (numR 0 0 (bs.drop a)).2.2, 0) := by
  unfold readNum; rw [if_neg (by simp), if_neg (by simp [h]), if_neg hm]
theorem num_le {bs : List Int} {a n : Nat} (hl : bs.length = n) (ha : a ≤ n) : a + (numR 0 0 (bs.drop a)).2.2 ≤ n := by
  have := numR_le (bs.drop a) 0 0
  simp at this
  omega
theorem readNum_le {bs : List Int} {a n : Nat} {bad most : Int} (hl : bs.length = n) (ha : a ≤ n) : (readNum bs a bad most).2.1 ≤ n := by
  have := num_le hl ha
  unfold readNum
  split
  · exact ha
  · split
    · exact ha
    · split
      · exact ha
      · exact this
theorem readNum_range {bs : List Int} {a : Nat} {bad most : Int} (hw : ∀ b ∈ bs, 0 ≤ b ∧ b ≤ 255) : 0 ≤ (readNum bs a bad most).1 ∧ (readNum bs a bad most).1 < 18446744073709551616 := by
  have := numR_lt (bs.drop a) 0 0 (by omega) (by simp) (fun b hb => hw b (List.mem_of_mem_drop hb))
  unfold readNum
  split
  · simp
  · split
    · simp
    · split
      · simp
      · simp only []; omega
section
variable {w : World} {g : Nat} {p : Option Addr} {n c : Nat} {bs : List Int} {a : Nat} {bad : Int} {Q : Value → World → Prop}
theorem cnum_spec {most : Int} (h : Rd 90 w g p n c bs a bad) (hQ : ∀ w', Rd 90 w' g p n c bs (readNum bs a bad most).2.1 (readNum bs a bad most).2.2 → Fr [g] w w' → Q (.int .u64 (readNum bs a bad most).1) w') :
    CallR Try.prog 69 #[.pointer (some (at0 g 0)), .int .u64 most] w Q := by
  refine X69.sound _ _ _ _ ?_
  unfold X69.f
  simp only [optP_some, add_at, Nat.zero_add, drewK]
  have hlen := h.len
  have hsm := h.small
  refine ld_int h.c2 (bc_ne (fun hb => ?_) (fun hb => ?_))
  · rw [readNum_bad hb] at hQ
    exact hQ w h (Fr.refl w)
  · subst hb
    have h1 := h.drew
    refine ld_sl h1.c0 (ld_int h1.c1 (number_spec h1.bytes hsm h.le ⟨_, _, _, rfl, ?_⟩))
    have hle := num_le hlen h.le
    refine bc_eq (fun he => ?_) (fun he => ?_)
    · refine bc_dec (fun hm => ?_) (fun hm => ?_)
      · rw [readNum_long he hm] at hQ
        refine bc_ne (fun _ => ?_) (fun hh => absurd hh (by decide))
        refine fault_spec h1 ?_
        intro w' k1 k2
        exact ⟨rfl, hQ w' k1 (Fr.drew.tr k2)⟩
      · rw [readNum_ok he hm] at hQ
        refine bc_ne (fun hh => absurd he hh) (fun _ => ?_)
        rw [if_pos he]
        obtain ⟨s1, s2, s3⟩ := h1.setAt hle
        exact ⟨s1, hQ _ s2 (Fr.drew.tr s3)⟩
    · rw [readNum_err he] at hQ
      refine bc_ne (fun _ => ?_) (fun hh => absurd hh he)
      refine fault_spec h1 ?_
      intro w' k1 k2
      exact ⟨rfl, hQ w' k1 (Fr.drew.tr k2)⟩
theorem rnum_l35 {most : Int} (h : Rd 68 w g p n c bs a 0) : ∀ (l : List Int) (i acc : Nat), i ≤ 9 → acc < 128 ^ i → bs.drop (a + i) = l → a + i ≤ n → numR i acc l = numR 0 0 (bs.drop a) →
    (∀ w', Rd 68 w' g p n c bs (readNum bs a 0 most).2.1 (readNum bs a 0 most).2.2 → Fr [g] w w' → Q (.int .u64 (readNum bs a 0 most).1) w') → X75.l0 Q (l.length + 1) (some (at0 g 0)) most (a : Int) (acc : Int) (i : Int) w
  | [], i, acc, hi, ha, hd, hle, hr, hQ => by
    have hlen := h.len
    have hsm := h.small
    have hl : bs.length ≤ a + i := by
      have := congrArg List.length hd
      simp at this
      omega
    have e1 : IntKind.wrap .i64 ((a : Int) + (i : Int)) = ((a + i : Nat) : Int) := by rw [i64w _ (by omega) (by omega)]; omega
    rw [List.length_nil, X75.l0, e1]
    simp only [optP_some, add_at, Nat.zero_add]
    refine ld_sl h.c0 (bc_pos (by omega) (wrong_spec h ?_))
    intro w' k1 k2
    rw [numR_nil] at hr
    rw [readNum_err (by rw [← hr]; decide), ← hr] at hQ
    exact ⟨_, rfl, hQ w' k1 k2⟩
  | b :: l, i, acc, hi, ha, hd, hle, hr, hQ => by
    have hlen := h.len
    have hsm := h.small
    have hib : bs[a + i]? = some b := by rw [← List.head?_drop, hd]; rfl
    have hlt : a + i < n := by have := (List.getElem?_eq_some_iff.1 hib).1; omega
    obtain ⟨q, hq, hc⟩ := h.bytes.get hib
    have hwf := h.bytes.wf b (List.mem_of_getElem? hib)
    have e1 : IntKind.wrap .i64 ((a : Int) + (i : Int)) = ((a + i : Nat) : Int) := by rw [i64w _ (by omega) (by omega)]; omega
    have e2 : IntKind.wrap .i64 (((a + i : Nat) : Int) + 1) = ((a + (i + 1) : Nat) : Int) := by rw [i64w _ (by omega) (by omega)]; omega
    have e3 : IntKind.wrap .i64 ((i : Int) + 1) = ((i + 1 : Nat) : Int) := by rw [i64w _ (by omega) (by omega)]; omega
    have fin : ¬ (i = 9 ∧ b > 1) → ¬ b ≥ 128 → ¬ (b = 0 ∧ i > 0) → X75.j1 Q (X75.l0 Q (l.length + 1)) (some (at0 g 0)) most (a : Int) ((acc + (b % 128).toNat * 128 ^ i : Nat) : Int) (i : Int) w := by
      intro h9 h128 h0
      rw [numR_end h9 h128 h0] at hr
      unfold X75.j1
      simp only [optP_some, add_at, Nat.zero_add]
      refine bc_dec (fun hm => ?_) (fun hm => ?_)
      · rw [readNum_long (by rw [← hr]) (by rw [← hr]; exact hm)] at hQ
        refine wrong_spec h ?_
        intro w' k1 k2
        exact ⟨_, rfl, hQ w' k1 k2⟩
      · rw [readNum_ok (by rw [← hr]) (by rw [← hr]; exact hm), ← hr] at hQ
        rw [e1, e2]
        obtain ⟨s1, s2, s3⟩ := h.setAt (a' := a + (i + 1)) (by omega)
        exact ⟨s1, hQ _ s2 s3⟩
    have err : (numR 0 0 (bs.drop a)) = (0, 21, 0) → CallR Try.prog 71 #[.pointer (some (at0 g 0)), .int .i64 (a : Int), .int .i64 (21 : Int)] w fun v1 w2 => ∃ (y3 : Int), v1 = .int .u64 y3 ∧ Q (.int .u64 y3) w2 := by
      intro he
      rw [readNum_err (by rw [he]; decide), he] at hQ
      refine wrong_spec h ?_
      intro w' k1 k2
      exact ⟨_, rfl, hQ w' k1 k2⟩
    have body : ¬ (i = 9 ∧ b > 1) → X75.j2 Q (X75.l0 Q (l.length + 1)) (some (at0 g 0)) most (a : Int) (acc : Int) (i : Int) b w := by
      intro h9
      unfold X75.j2
      rw [digit_add hi ha hwf (fun h => by omega), e3]
      refine ⟨by decide, by rw [shift_i hi]; omega, bc_dec (fun hge => ?_) (fun hlt2 => ?_)⟩
      · rw [numR_more h9 hge] at hr
        exact rnum_l35 h l (i + 1) _ (by omega) (digit_next ha) (by rw [← Nat.add_assoc, ← List.drop_drop, hd]; rfl) (by omega) hr hQ
      · refine bc_eq (fun h0 => ?_) (fun h0 => ?_)
        · refine bc_dec (fun hpos => ?_) (fun hpos => ?_)
          · rw [numR_zero h9 hlt2 ⟨h0, by omega⟩] at hr
            exact err hr.symm
          · exact fin h9 hlt2 (by omega)
        · exact fin h9 hlt2 (by omega)
    rw [List.length_cons, X75.l0, e1]
    simp only [optP_some, add_at, Nat.zero_add]
    refine ld_sl h.c0 (bc_neg (by omega) (ld_sl h.c0 ⟨⟨by omega, by omega⟩, opt_some hq (ld_int (by rw [Int.toNat_natCast]; exact hc) (bc_eq (fun h9 => bc_dec (fun h1 => ?_) (fun h1 => ?_)) (fun h9 => ?_)))⟩))
    · rw [numR_nine ⟨by omega, h1⟩] at hr
      exact err hr.symm
    · exact body (by omega)
    · exact body (by omega)
theorem rnum35_spec {most : Int} (h : Rd 68 w g p n c bs a bad) (hQ : ∀ w', Rd 68 w' g p n c bs (readNum bs a bad most).2.1 (readNum bs a bad most).2.2 → Fr [g] w w' → Q (.int .u64 (readNum bs a bad most).1) w') :
    CallR Try.prog 75 #[.pointer (some (at0 g 0)), .int .u64 most] w Q := by
  refine X75.sound _ _ _ _ ?_
  unfold X75.f
  simp only [optP_some, add_at, Nat.zero_add]
  refine ld_int h.c2 (bc_ne (fun hb => ?_) (fun hb => ?_))
  · rw [readNum_bad hb] at hQ
    exact hQ w h (Fr.refl w)
  · subst hb
    exact ld_int h.c1 ⟨_, rnum_l35 h (bs.drop a) 0 0 (by omega) (by simp) rfl h.le rfl hQ⟩
end
end Go.Proofs.YtcmkjnoaefkkhaaX
