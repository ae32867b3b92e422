/- The readers' texts; a new reader. -/
import Derived.Test.YtgeinpljchpdgaaL1Read2
namespace Go.Proofs.YtgeinpljchpdgaaX
open Go.RowKit
set_option linter.unusedVariables false

theorem ByS.cut {w : World} {x : Option Addr} {n c : Nat} {bs : List Int} (hb : ByS w x n c bs) {l h : Nat} (hl : l ≤ h) (hh : h ≤ n) : ByS w (cutAt 1 c l x) (h - l) (c - l) ((bs.drop l).take (h - l)) := by
  have hlen := hb.len
  have hle := hb.le
  refine ⟨⟨by simp; omega, fun j v hj => ?_⟩, by omega, fun hx => ?_, fun b hm => hb.wf b (List.mem_of_mem_drop (List.mem_of_mem_take hm))⟩
  · rw [List.getElem?_take] at hj
    split at hj
    · rename_i hlt
      rw [List.getElem?_drop] at hj
      obtain ⟨p, hp, hc⟩ := hb.at_.2 _ v hj
      subst hp
      refine ⟨p.add (l * 1), ?_, ?_⟩
      · unfold cutAt
        rw [if_neg (by omega)]
        rfl
      · rw [add_add, Nat.mul_one]
        exact hc
    · cases hj
  · have : x = none := by
      unfold cutAt at hx
      split at hx
      · exact hx
      · cases x with
        | none => rfl
        | some a => cases hx
    have := hb.nil this
    omega
theorem most_eq {m : Int} (h : -9223372036854775808 ≤ m ∧ m ≤ 9223372036854775807) : IntKind.wrap .u64 (max2 m 0) = max 0 m ∧ IntKind.wrap .u64 (max2 0 m) = max 0 m := by
  have e1 : max2 m 0 = max 0 m := by unfold max2; split <;> omega
  have e2 : max2 0 m = max 0 m := by unfold max2; split <;> omega
  rw [e1, e2, u64w _ (by omega) (by omega)]
  exact ⟨rfl, rfl⟩
theorem readText_bad {bs : List Int} {a : Nat} {bad most : Int} (h : (readNum bs a bad (max 0 most)).2.2 ≠ 0) : readText bs a bad most = ([], (readNum bs a bad (max 0 most)).2.1, (readNum bs a bad (max 0 most)).2.2) := by unfold readText; rw [if_pos h]
theorem readText_short {bs : List Int} {a : Nat} {bad most : Int} (h : (readNum bs a bad (max 0 most)).2.2 = 0) (hs : ((bs.length - (readNum bs a bad (max 0 most)).2.1 : Nat) : Int) < (readNum bs a bad (max 0 most)).1) : readText bs a bad most = ([], a, 20) := by
  unfold readText; rw [if_neg (by simp [h]), if_pos hs]
theorem readText_ok {bs : List Int} {a : Nat} {bad most : Int} (h : (readNum bs a bad (max 0 most)).2.2 = 0) (hs : ¬ ((bs.length - (readNum bs a bad (max 0 most)).2.1 : Nat) : Int) < (readNum bs a bad (max 0 most)).1) :
    readText bs a bad most = ((bs.drop (readNum bs a bad (max 0 most)).2.1).take (readNum bs a bad (max 0 most)).1.toNat, (readNum bs a bad (max 0 most)).2.1 + (readNum bs a bad (max 0 most)).1.toNat, 0) := by
  unfold readText; rw [if_neg (by simp [h]), if_neg hs]
section
variable {w : World} {g : Nat} {p : Option Addr} {n c : Nat} {bs : List Int} {a : Nat} {bad : Int} {Q : Value → World → Prop}
theorem ctext_spec {most : Int} (h : Rd 67 w g p n c bs a bad) (hm : -9223372036854775808 ≤ most ∧ most ≤ 9223372036854775807)
    (hQ : ∀ q m d w', Rd 67 w' g p n c bs (readText bs a bad most).2.1 (readText bs a bad most).2.2 → Own 5 1 w' q m d (u8s (readText bs a bad most).1) → (∀ k ∈ fbl q, w.heap.size ≤ k) → Fr [g] w w' → Q (.slice q m d) w') :
    CallR Try.prog 32 #[.pointer (some (at0 g 0)), .int .i64 most] w Q := by
  refine X32.sound _ _ _ _ ?_
  unfold X32.f
  simp only [optP_some, add_at, Nat.zero_add, drewK, newK]
  have hlen := h.len
  have hsm := h.small
  refine ld_int h.c1 ?_
  rw [(most_eq hm).1]
  refine cnum_spec h ?_
  intro w1 r1 f1
  have hle := readNum_le (bad := bad) (most := max 0 most) hlen h.le
  have hrg := readNum_range (a := a) (bad := bad) (most := max 0 most) h.bytes.wf
  refine ⟨_, rfl, ld_int r1.c2 (bc_ne (fun hb => ?_) (fun hb => ?_))⟩
  · rw [readText_bad hb] at hQ
    exact hQ none 0 0 w1 r1 Own.nil (by simp [fbl]) f1
  · have hs' := @readText_short bs a bad most hb
    have hok' := @readText_ok bs a bad most hb
    rw [hb] at r1
    generalize (readNum bs a bad (max 0 most)).1 = N at *
    generalize (readNum bs a bad (max 0 most)).2.1 = b at *
    have e1 : IntKind.wrap .u64 (IntKind.wrap .i64 ((n : Int) - (b : Int))) = ((bs.length - b : Nat) : Int) := by
      rw [i64w _ (by omega) (by omega), u64w _ (by omega) (by omega)]; omega
    have r2 := r1.drew
    refine ld_sl r2.c0 (ld_int r2.c1 ?_)
    rw [e1]
    refine bc_dec (fun hs => ?_) (fun hs => ?_)
    · rw [hs' hs] at hQ
      obtain ⟨s1, s2, s3⟩ := r2.setAt h.le
      refine ⟨s1, fault_spec s2 ?_⟩
      intro w' k1 k2
      exact ⟨rfl, hQ none 0 0 w' k1 Own.nil (by simp [fbl]) (f1.tr (Fr.drew.tr (s3.tr k2)))⟩
    · rw [hok' hs] at hQ
      obtain ⟨N, rfl⟩ : ∃ k : Nat, N = (k : Int) := ⟨N.toNat, by omega⟩
      simp only [Int.toNat_natCast] at hQ
      have e2 : IntKind.wrap .i64 ((N : Nat) : Int) = ((N : Nat) : Int) := i64w _ (by omega) (by omega)
      have e3 : IntKind.wrap .i64 ((b : Int) + (N : Int)) = ((b + N : Nat) : Int) := by rw [i64w _ (by omega) (by omega)]; omega
      have e4 : IntKind.wrap .i64 (((b + N : Nat) : Int) - (N : Int)) = (b : Int) := by rw [i64w _ (by omega) (by omega)]; omega
      refine ld_int r2.c1 ?_
      rw [e2, e3]
      obtain ⟨s1, s2, s3⟩ := r2.setAt (a' := b + N) (by omega)
      refine ⟨s1, ?_⟩
      have s4 := s2.drew
      have fa : Fr [] ((w1.drew.setCell (at0 g 1) (.int .i64 ((b + N : Nat) : Int))).drew) _ := Fr.alloc _ (.cells #[] 5)
      have s5 := s4.keep' fa
      refine ld_sl s5.c0 ⟨⟨s4.c0, s5.c0⟩, ld_int s5.c1 ⟨⟨s4.c1, s5.c1⟩, ld_int s5.c1 ⟨⟨s4.c1, s5.c1⟩, ?_⟩⟩⟩
      rw [e4]
      have hcap := h.bytes.le
      refine ⟨⟨by omega, by omega, by omega⟩, ?_⟩
      simp only [Int.toNat_natCast]
      refine app_new (s4.bytes.cut (l := b) (h := b + N) (by omega) (by omega)) (by omega) ?_
      intro q d w' o f e
      rw [show b + N - b = N by omega] at *
      have fall : Fr [g] w w' := f1.tr (Fr.drew.tr (s3.tr (Fr.drew.tr f.any)))
      refine ⟨_, _, _, rfl, hQ q N d w' (s4.keep' f) o (fun k hk => ?_) fall⟩
      have := e k hk
      have := (f1.tr (Fr.drew.tr (s3.tr Fr.drew))).size
      omega
theorem rtext36_spec {most : Int} (h : Rd 65 w g p n c bs a bad) (hm : -9223372036854775808 ≤ most ∧ most ≤ 9223372036854775807)
    (hQ : ∀ q m d w', Rd 65 w' g p n c bs (readText bs a bad most).2.1 (readText bs a bad most).2.2 → ByS w' q m d (readText bs a bad most).1 → Fr [g] w w' → Q (.slice q m d) w') :
    CallR Try.prog 36 #[.pointer (some (at0 g 0)), .int .i64 most] w Q := by
  refine X36.sound _ _ _ _ ?_
  unfold X36.f
  simp only [optP_some, add_at, Nat.zero_add, drewK, newK]
  have hlen := h.len
  have hsm := h.small
  refine ld_int h.c2 (bc_ne (fun hb0 => ?_) (fun hb0 => ?_))
  · have e := readNum_bad (bs := bs) (a := a) (most := max 0 most) hb0
    rw [readText_bad (by rw [e]; exact hb0), e] at hQ
    exact hQ none 0 0 w h ByS.nil' (Fr.refl w)
  subst hb0
  refine ld_int h.c1 ?_
  rw [(most_eq hm).2]
  refine rnum35_spec h ?_
  intro w1 r1 f1
  have hle := readNum_le (bad := 0) (most := max 0 most) hlen h.le
  have hrg := readNum_range (a := a) (bad := 0) (most := max 0 most) h.bytes.wf
  refine ⟨_, rfl, ld_int r1.c2 (bc_ne (fun hb => ?_) (fun hb => ?_))⟩
  · rw [readText_bad hb] at hQ
    exact hQ none 0 0 w1 r1 ByS.nil' f1
  · have hs' := @readText_short bs a 0 most hb
    have hok' := @readText_ok bs a 0 most hb
    rw [hb] at r1
    generalize (readNum bs a 0 (max 0 most)).1 = N at *
    generalize (readNum bs a 0 (max 0 most)).2.1 = b at *
    have e1 : IntKind.wrap .u64 (IntKind.wrap .i64 ((n : Int) - (b : Int))) = ((bs.length - b : Nat) : Int) := by
      rw [i64w _ (by omega) (by omega), u64w _ (by omega) (by omega)]; omega
    have r2 := r1.drew
    refine ld_sl r2.c0 (ld_int r2.c1 ?_)
    rw [e1]
    refine bc_dec (fun hs => ?_) (fun hs => ?_)
    · rw [hs' hs] at hQ
      have s1 := r2.setBad 20
      have wr : ∀ {Q : Value → World → Prop}, (∀ w', Rd 65 w' g p n c bs a 20 → Fr [g] w1.drew w' → Q (.int .u64 0) w') → CallR Try.prog 40 #[.pointer (some (at0 g 0)), .int .i64 (a : Int), .int .i64 20] w1.drew Q := by
        intro Q hq
        refine X40.sound _ _ _ _ _ ?_
        unfold X40.f
        simp only [optP_some, add_at, Nat.zero_add]
        obtain ⟨s1, s2, s3⟩ := r2.setBad 20
        obtain ⟨t1, t2, t3⟩ := s2.setAt h.le
        exact ⟨s1, t1, hq _ t2 (s3.tr t3)⟩
      refine wr ?_
      intro w' k1 k2
      exact ⟨_, rfl, hQ none 0 0 w' k1 ByS.nil' (f1.tr (Fr.drew.tr k2))⟩
    · rw [hok' hs] at hQ
      obtain ⟨N, rfl⟩ : ∃ k : Nat, N = (k : Int) := ⟨N.toNat, by omega⟩
      simp only [Int.toNat_natCast] at hQ
      have e2 : IntKind.wrap .i64 ((N : Nat) : Int) = ((N : Nat) : Int) := i64w _ (by omega) (by omega)
      have e3 : IntKind.wrap .i64 ((b : Int) + (N : Int)) = ((b + N : Nat) : Int) := by rw [i64w _ (by omega) (by omega)]; omega
      have s4 := r2.drew
      have fa : Fr [] w1.drew.drew _ := Fr.alloc _ (.cells #[] 5)
      have s5 := s4.keep' fa
      refine ld_sl s5.c0 ⟨⟨s4.c0, s5.c0⟩, ld_int s5.c1 ⟨⟨s4.c1, s5.c1⟩, ld_int s5.c1 ⟨⟨s4.c1, s5.c1⟩, ?_⟩⟩⟩
      rw [e2, e3]
      have hcap := h.bytes.le
      refine ⟨⟨by omega, by omega, by omega⟩, ?_⟩
      simp only [Int.toNat_natCast]
      refine app_new (s4.bytes.cut (l := b) (h := b + N) (by omega) (by omega)) (by omega) ?_
      intro q d w' o f e
      rw [show b + N - b = N by omega] at *
      have s6 := s4.keep' f
      refine ⟨_, _, _, rfl, ld_int s6.c1 ?_⟩
      rw [e3]
      obtain ⟨t1, t2, t3⟩ := s6.setAt (a' := b + N) (by omega)
      refine ⟨t1, hQ q N d _ t2 ?_ (f1.tr (Fr.drew.tr (Fr.drew.tr (f.any.tr t3))))⟩
      refine (ByS.of_own o (fun b hm => h.bytes.wf b (List.mem_of_mem_drop (List.mem_of_mem_take hm)))).keep t3 (fun k hk hm => ?_)
      have h1 := e k hk
      have h2 := s4.blk.lt
      simp at hm
      omega
theorem newReader_spec (hb : ByS w p n c bs) (hn : n ≤ 140737488355328) (hQ : ∀ g q d w', Rd 67 w' g q n d bs 0 0 → w.heap.size ≤ g → (∀ k ∈ fbl q, w.heap.size ≤ k ∧ k < g) → Fr [] w w' → Q (.pointer (some (at0 g 0))) w') : CallR Try.prog 29 #[.slice p n c] w Q := by
  refine X29.sound _ _ _ _ _ ?_
  unfold X29.f newK
  refine app_new hb hn ?_
  intro q d w1 o f e
  refine ⟨_, _, _, rfl, ?_⟩
  have fa : Fr [] w1 _ := Fr.alloc w1 (.cells #[.slice q n d, .int .i64 0, .int .i64 0] 67)
  have hsz := f.size
  refine hQ w1.heap.size q d _ ⟨Blk.made w1 _ _, (ByS.of_own o hb.wf).keep' fa, fun _ k hk he => ?_, Nat.zero_le _, hn⟩ hsz (fun k hk => ⟨e k hk, o.lt k hk⟩) (f.tr fa)
  have := o.lt k hk
  omega
end
end Go.Proofs.YtgeinpljchpdgaaX
