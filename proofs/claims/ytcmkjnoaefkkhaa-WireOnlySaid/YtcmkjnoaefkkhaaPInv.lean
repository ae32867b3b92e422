/- What is decoded is encoded as the same bytes: in plain Lean. -/
import Derived.Test.YtcmkjnoaefkkhaaPBack
namespace Go.Proofs.YtcmkjnoaefkkhaaX
set_option linter.unusedVariables false
set_option linter.unusedSimpArgs false
set_option linter.unusedSectionVars false
set_option maxRecDepth 100000
def upto (m : Msg) (i : Nat) : List Int := (List.range i).flatMap (hasB m)
theorem upto_succ (m : Msg) (i : Nat) : upto m (i + 1) = upto m i ++ hasB m i := by unfold upto; rw [List.range_succ, List.flatMap_append]; simp
theorem encB_upto (m : Msg) : encB m = [m.kind, m.frm, m.to] ++ upto m 15 := by unfold encB fieldsFrom upto; rw [List.range_eq_range']
theorem upto_cong {m m' : Msg} : ∀ (i : Nat), (∀ j, j < i → hasB m j = hasB m' j) → upto m i = upto m' i
  | 0, _ => rfl
  | i + 1, h => by rw [upto_succ, upto_succ, upto_cong i (fun j hj => h j (by omega)), h i (by omega)]
/-- another field is as it was -/
theorem readF_other {bs : List Int} {i j : Nat} (hi : i < 15) (hj : j < 15) (hne : j ≠ i) (x : Msg × St) : fieldB (readF bs i x).1 j = fieldB x.1 j := by
  match i, hi, j, hj with
  | 0, _, 0, _ => exact absurd rfl hne
  | 0, _, 1, _ => rfl
  | 0, _, 2, _ => rfl
  | 0, _, 3, _ => rfl
  | 0, _, 4, _ => rfl
  | 0, _, 5, _ => rfl
  | 0, _, 6, _ => rfl
  | 0, _, 7, _ => rfl
  | 0, _, 8, _ => rfl
  | 0, _, 9, _ => rfl
  | 0, _, 10, _ => rfl
  | 0, _, 11, _ => rfl
  | 0, _, 12, _ => rfl
  | 0, _, 13, _ => rfl
  | 0, _, 14, _ => rfl
  | 1, _, 0, _ => rfl
  | 1, _, 1, _ => exact absurd rfl hne
  | 1, _, 2, _ => rfl
  | 1, _, 3, _ => rfl
  | 1, _, 4, _ => rfl
  | 1, _, 5, _ => rfl
  | 1, _, 6, _ => rfl
  | 1, _, 7, _ => rfl
  | 1, _, 8, _ => rfl
  | 1, _, 9, _ => rfl
  | 1, _, 10, _ => rfl
  | 1, _, 11, _ => rfl
  | 1, _, 12, _ => rfl
  | 1, _, 13, _ => rfl
  | 1, _, 14, _ => rfl
  | 2, _, 0, _ => rfl
  | 2, _, 1, _ => rfl
  | 2, _, 2, _ => exact absurd rfl hne
  | 2, _, 3, _ => rfl
  | 2, _, 4, _ => rfl
  | 2, _, 5, _ => rfl
  | 2, _, 6, _ => rfl
  | 2, _, 7, _ => rfl
  | 2, _, 8, _ => rfl
  | 2, _, 9, _ => rfl
  | 2, _, 10, _ => rfl
  | 2, _, 11, _ => rfl
  | 2, _, 12, _ => rfl
  | 2, _, 13, _ => rfl
  | 2, _, 14, _ => rfl
  | 3, _, 0, _ => rfl
  | 3, _, 1, _ => rfl
  | 3, _, 2, _ => rfl
  | 3, _, 3, _ => exact absurd rfl hne
  | 3, _, 4, _ => rfl
  | 3, _, 5, _ => rfl
  | 3, _, 6, _ => rfl
  | 3, _, 7, _ => rfl
  | 3, _, 8, _ => rfl
  | 3, _, 9, _ => rfl
  | 3, _, 10, _ => rfl
  | 3, _, 11, _ => rfl
  | 3, _, 12, _ => rfl
  | 3, _, 13, _ => rfl
  | 3, _, 14, _ => rfl
  | 4, _, 0, _ => rfl
  | 4, _, 1, _ => rfl
  | 4, _, 2, _ => rfl
  | 4, _, 3, _ => rfl
  | 4, _, 4, _ => exact absurd rfl hne
  | 4, _, 5, _ => rfl
  | 4, _, 6, _ => rfl
  | 4, _, 7, _ => rfl
  | 4, _, 8, _ => rfl
  | 4, _, 9, _ => rfl
  | 4, _, 10, _ => rfl
  | 4, _, 11, _ => rfl
  | 4, _, 12, _ => rfl
  | 4, _, 13, _ => rfl
  | 4, _, 14, _ => rfl
  | 5, _, 0, _ => rfl
  | 5, _, 1, _ => rfl
  | 5, _, 2, _ => rfl
  | 5, _, 3, _ => rfl
  | 5, _, 4, _ => rfl
  | 5, _, 5, _ => exact absurd rfl hne
  | 5, _, 6, _ => rfl
  | 5, _, 7, _ => rfl
  | 5, _, 8, _ => rfl
  | 5, _, 9, _ => rfl
  | 5, _, 10, _ => rfl
  | 5, _, 11, _ => rfl
  | 5, _, 12, _ => rfl
  | 5, _, 13, _ => rfl
  | 5, _, 14, _ => rfl
  | 6, _, 0, _ => rfl
  | 6, _, 1, _ => rfl
  | 6, _, 2, _ => rfl
  | 6, _, 3, _ => rfl
  | 6, _, 4, _ => rfl
  | 6, _, 5, _ => rfl
  | 6, _, 6, _ => exact absurd rfl hne
  | 6, _, 7, _ => rfl
  | 6, _, 8, _ => rfl
  | 6, _, 9, _ => rfl
  | 6, _, 10, _ => rfl
  | 6, _, 11, _ => rfl
  | 6, _, 12, _ => rfl
  | 6, _, 13, _ => rfl
  | 6, _, 14, _ => rfl
  | 7, _, 0, _ => rfl
  | 7, _, 1, _ => rfl
  | 7, _, 2, _ => rfl
  | 7, _, 3, _ => rfl
  | 7, _, 4, _ => rfl
  | 7, _, 5, _ => rfl
  | 7, _, 6, _ => rfl
  | 7, _, 7, _ => exact absurd rfl hne
  | 7, _, 8, _ => rfl
  | 7, _, 9, _ => rfl
  | 7, _, 10, _ => rfl
  | 7, _, 11, _ => rfl
  | 7, _, 12, _ => rfl
  | 7, _, 13, _ => rfl
  | 7, _, 14, _ => rfl
  | 8, _, 0, _ => rfl
  | 8, _, 1, _ => rfl
  | 8, _, 2, _ => rfl
  | 8, _, 3, _ => rfl
  | 8, _, 4, _ => rfl
  | 8, _, 5, _ => rfl
  | 8, _, 6, _ => rfl
  | 8, _, 7, _ => rfl
  | 8, _, 8, _ => exact absurd rfl hne
  | 8, _, 9, _ => rfl
  | 8, _, 10, _ => rfl
  | 8, _, 11, _ => rfl
  | 8, _, 12, _ => rfl
  | 8, _, 13, _ => rfl
  | 8, _, 14, _ => rfl
  | 9, _, 0, _ => rfl
  | 9, _, 1, _ => rfl
  | 9, _, 2, _ => rfl
  | 9, _, 3, _ => rfl
  | 9, _, 4, _ => rfl
  | 9, _, 5, _ => rfl
  | 9, _, 6, _ => rfl
  | 9, _, 7, _ => rfl
  | 9, _, 8, _ => rfl
  | 9, _, 9, _ => exact absurd rfl hne
  | 9, _, 10, _ => rfl
  | 9, _, 11, _ => rfl
  | 9, _, 12, _ => rfl
  | 9, _, 13, _ => rfl
  | 9, _, 14, _ => rfl
  | 10, _, 0, _ => rfl
  | 10, _, 1, _ => rfl
  | 10, _, 2, _ => rfl
  | 10, _, 3, _ => rfl
  | 10, _, 4, _ => rfl
  | 10, _, 5, _ => rfl
  | 10, _, 6, _ => rfl
  | 10, _, 7, _ => rfl
  | 10, _, 8, _ => rfl
  | 10, _, 9, _ => rfl
  | 10, _, 10, _ => exact absurd rfl hne
  | 10, _, 11, _ => rfl
  | 10, _, 12, _ => rfl
  | 10, _, 13, _ => rfl
  | 10, _, 14, _ => rfl
  | 11, _, 0, _ => rfl
  | 11, _, 1, _ => rfl
  | 11, _, 2, _ => rfl
  | 11, _, 3, _ => rfl
  | 11, _, 4, _ => rfl
  | 11, _, 5, _ => rfl
  | 11, _, 6, _ => rfl
  | 11, _, 7, _ => rfl
  | 11, _, 8, _ => rfl
  | 11, _, 9, _ => rfl
  | 11, _, 10, _ => rfl
  | 11, _, 11, _ => exact absurd rfl hne
  | 11, _, 12, _ => rfl
  | 11, _, 13, _ => rfl
  | 11, _, 14, _ => rfl
  | 12, _, 0, _ => rfl
  | 12, _, 1, _ => rfl
  | 12, _, 2, _ => rfl
  | 12, _, 3, _ => rfl
  | 12, _, 4, _ => rfl
  | 12, _, 5, _ => rfl
  | 12, _, 6, _ => rfl
  | 12, _, 7, _ => rfl
  | 12, _, 8, _ => rfl
  | 12, _, 9, _ => rfl
  | 12, _, 10, _ => rfl
  | 12, _, 11, _ => rfl
  | 12, _, 12, _ => exact absurd rfl hne
  | 12, _, 13, _ => rfl
  | 12, _, 14, _ => rfl
  | 13, _, 0, _ => rfl
  | 13, _, 1, _ => rfl
  | 13, _, 2, _ => rfl
  | 13, _, 3, _ => rfl
  | 13, _, 4, _ => rfl
  | 13, _, 5, _ => rfl
  | 13, _, 6, _ => rfl
  | 13, _, 7, _ => rfl
  | 13, _, 8, _ => rfl
  | 13, _, 9, _ => rfl
  | 13, _, 10, _ => rfl
  | 13, _, 11, _ => rfl
  | 13, _, 12, _ => rfl
  | 13, _, 13, _ => exact absurd rfl hne
  | 13, _, 14, _ => rfl
  | 14, _, 0, _ => rfl
  | 14, _, 1, _ => rfl
  | 14, _, 2, _ => rfl
  | 14, _, 3, _ => rfl
  | 14, _, 4, _ => rfl
  | 14, _, 5, _ => rfl
  | 14, _, 6, _ => rfl
  | 14, _, 7, _ => rfl
  | 14, _, 8, _ => rfl
  | 14, _, 9, _ => rfl
  | 14, _, 10, _ => rfl
  | 14, _, 11, _ => rfl
  | 14, _, 12, _ => rfl
  | 14, _, 13, _ => rfl
  | 14, _, 14, _ => exact absurd rfl hne
theorem head_other {bs : List Int} {i : Nat} (x : Msg × St) : (readF bs i x).1.frm = x.1.frm ∧ (readF bs i x).1.to = x.1.to := by unfold readF; split <;> exact ⟨rfl, rfl⟩
theorem refs_other {bs : List Int} {i : Nat} (hi : i < 15) (x : Msg × St) : (i ≠ 12 → (readF bs i x).1.refs = x.1.refs) ∧ (i ≠ 14 → (readF bs i x).1.list = x.1.list) := by
  match i, hi with
  | 0, _ => exact ⟨fun _ => rfl, fun _ => rfl⟩
  | 1, _ => exact ⟨fun _ => rfl, fun _ => rfl⟩
  | 2, _ => exact ⟨fun _ => rfl, fun _ => rfl⟩
  | 3, _ => exact ⟨fun _ => rfl, fun _ => rfl⟩
  | 4, _ => exact ⟨fun _ => rfl, fun _ => rfl⟩
  | 5, _ => exact ⟨fun _ => rfl, fun _ => rfl⟩
  | 6, _ => exact ⟨fun _ => rfl, fun _ => rfl⟩
  | 7, _ => exact ⟨fun _ => rfl, fun _ => rfl⟩
  | 8, _ => exact ⟨fun _ => rfl, fun _ => rfl⟩
  | 9, _ => exact ⟨fun _ => rfl, fun _ => rfl⟩
  | 10, _ => exact ⟨fun _ => rfl, fun _ => rfl⟩
  | 11, _ => exact ⟨fun _ => rfl, fun _ => rfl⟩
  | 12, _ => exact ⟨fun h => absurd rfl h, fun _ => rfl⟩
  | 13, _ => exact ⟨fun _ => rfl, fun _ => rfl⟩
  | 14, _ => exact ⟨fun _ => rfl, fun h => absurd rfl h⟩
theorem wf_zero {k a b : Int} : Wf { mZero with kind := k, frm := a, to := b } := ⟨(⟨by decide, by decide⟩ : (0 : Int) ≤ 0 ∧ (0 : Int) ≤ 18446744073709551615), (⟨by decide, by decide⟩ : (0 : Int) ≤ 0 ∧ (0 : Int) ≤ 18446744073709551615), (⟨by decide, by decide⟩ : (0 : Int) ≤ 0 ∧ (0 : Int) ≤ 18446744073709551615), (⟨by decide, by decide⟩ : (0 : Int) ≤ 0 ∧ (0 : Int) ≤ 18446744073709551615)⟩
section
variable {bs : List Int} (hw : ∀ b ∈ bs, 0 ≤ b ∧ b ≤ 255)
include hw
theorem num_inv {s : St} {most : Int} (h : (readNum bs s.1 s.2 most).2.2 = 0) : s.2 = 0 ∧ bs.take (readNum bs s.1 s.2 most).2.1 = bs.take s.1 ++ numB (readNum bs s.1 s.2 most).1.toNat := by
  by_cases h0 : s.2 = 0
  · refine ⟨h0, ?_⟩
    rw [h0] at h ⊢
    obtain ⟨n, _, e1, e2⟩ := readNum_inv hw h
    rw [e2, e1, Int.toNat_natCast]
  · rw [bad_num h0] at h; exact absurd h h0
theorem byte_inv {s : St} {most : Int} (h : (readByte bs s.1 s.2 most).2.2 = 0) : s.2 = 0 ∧ bs.take (readByte bs s.1 s.2 most).2.1 = bs.take s.1 ++ [(readByte bs s.1 s.2 most).1] := by
  by_cases h0 : s.2 = 0
  · refine ⟨h0, ?_⟩
    rw [h0] at h ⊢
    exact (readByte_inv h).1
  · rw [bad_byte h0] at h; exact absurd h h0
theorem id_inv {s : St} (h : (rdID bs s).2.2 = 0) : s.2 = 0 ∧ bs.take (rdID bs s).2.1 = bs.take s.1 ++ idB (rdID bs s).1 := by
  unfold rdID at h ⊢
  obtain ⟨h1, e1⟩ := num_inv hw (s := (readByte bs s.1 s.2 64).2) h
  obtain ⟨h2, e2⟩ := byte_inv hw h1
  refine ⟨h2, ?_⟩
  simp only at e1 ⊢
  rw [e1, e2]
  simp [idB]
theorem ids_inv : ∀ (k : Nat) (l : List (Int × Int)) (s : St), (rdIDs bs k l s).2.2 = 0 → s.2 = 0 ∧ ∃ l', (rdIDs bs k l s).1 = l ++ l' ∧ l'.length = k ∧ bs.take (rdIDs bs k l s).2.1 = bs.take s.1 ++ l'.flatMap idB
  | 0, l, s, h => ⟨h, [], by simp [rdIDs], rfl, by simp [rdIDs]⟩
  | k + 1, l, s, h => by
    rw [rdIDs] at h ⊢
    obtain ⟨h1, l', e1, e2, e3⟩ := ids_inv k _ _ h
    obtain ⟨h2, e4⟩ := id_inv hw h1
    refine ⟨h2, (rdID bs s).1 :: l', by rw [e1]; simp, by simp [e2], ?_⟩
    rw [e3, e4]
    simp
theorem ns_inv : ∀ (k : Nat) (l : List Int) (s : St), (rdNs bs k l s).2.2 = 0 → s.2 = 0 ∧ ∃ l', (rdNs bs k l s).1 = l ++ l' ∧ l'.length = k ∧ bs.take (rdNs bs k l s).2.1 = bs.take s.1 ++ l'.flatMap fun n => numB n.toNat
  | 0, l, s, h => ⟨h, [], by simp [rdNs], rfl, by simp [rdNs]⟩
  | k + 1, l, s, h => by
    rw [rdNs] at h ⊢
    obtain ⟨h1, l', e1, e2, e3⟩ := ns_inv k _ _ h
    obtain ⟨h2, e4⟩ := num_inv hw h1
    refine ⟨h2, (readNum bs s.1 s.2 72057594037927935).1 :: l', by rw [e1]; simp, by simp [e2], ?_⟩
    rw [e3, e4]
    simp
theorem field_inv {i : Nat} (hi : i < 15) (x : Msg × St) (hr : i = 12 → x.1.refs = []) (hl : i = 14 → x.1.list = []) (h : (readF bs i x).2.2 = 0) : x.2.2 = 0 ∧ bs.take (readF bs i x).2.1 = bs.take x.2.1 ++ fieldB (readF bs i x).1 i := by
  match i, hi with
  | 0, _ => exact num_inv hw h
  | 1, _ => exact num_inv hw h
  | 2, _ => exact num_inv hw h
  | 3, _ => exact byte_inv hw h
  | 4, _ => exact byte_inv hw h
  | 5, _ => exact id_inv hw h
  | 6, _ => exact num_inv hw h
  | 7, _ => exact byte_inv hw h
  | 8, _ => exact num_inv hw h
  | 9, _ => exact byte_inv hw h
  | 10, _ => exact byte_inv hw h
  | 11, _ => exact num_inv hw h
  | 12, _ =>
    have hr0 := hr rfl
    obtain ⟨h1, l', e1, e2, e3⟩ := ids_inv hw _ _ _ h
    obtain ⟨h2, e4⟩ := num_inv hw h1
    refine ⟨h2, ?_⟩
    have e5 : (readF bs 12 x).1.refs = l' := by
      show (rdIDs bs (readNum bs x.2.1 x.2.2 2).1.toNat x.1.refs (readNum bs x.2.1 x.2.2 2).2).1 = l'
      rw [e1, hr0]; rfl
    show bs.take (rdIDs bs (readNum bs x.2.1 x.2.2 2).1.toNat x.1.refs (readNum bs x.2.1 x.2.2 2).2).2.1 = _
    rw [e3, e4]
    show _ = _ ++ (numB (readF bs 12 x).1.refs.length ++ (readF bs 12 x).1.refs.flatMap idB)
    rw [e5, e2, List.append_assoc]
  | 13, _ => exact num_inv hw h
  | 14, _ =>
    have hr0 := hl rfl
    obtain ⟨h1, l', e1, e2, e3⟩ := ns_inv hw _ _ _ h
    obtain ⟨h2, e4⟩ := num_inv hw h1
    refine ⟨h2, ?_⟩
    have e5 : (readF bs 14 x).1.list = l' := by
      show (rdNs bs (readNum bs x.2.1 x.2.2 64).1.toNat x.1.list (readNum bs x.2.1 x.2.2 64).2).1 = l'
      rw [e1, hr0]; rfl
    show bs.take (rdNs bs (readNum bs x.2.1 x.2.2 64).1.toNat x.1.list (readNum bs x.2.1 x.2.2 64).2).2.1 = _
    rw [e3, e4]
    show _ = _ ++ (numB (readF bs 14 x).1.list.length ++ (readF bs 14 x).1.list.flatMap fun n => numB n.toNat)
    rw [e5, e2, List.append_assoc]
/-- what holds, as far as was read -/
structure Bk (bs : List Int) (k : Int) (x : Msg × St) (i : Nat) : Prop where
  kind : x.1.kind = k
  wf : Wf x.1
  refs : i ≤ 12 → x.1.refs = []
  list : i ≤ 14 → x.1.list = []
  ok : x.2.2 = 0 → bs.take x.2.1 = [x.1.kind, x.1.frm, x.1.to] ++ upto x.1 i
theorem wf_F {i : Nat} (hi : i < 15) {x : Msg × St} (h : Wf x.1) : Wf (readF bs i x).1 := by
  have r : ∀ (a : Nat) (bad most : Int), 0 ≤ (readNum bs a bad most).1 ∧ (readNum bs a bad most).1 ≤ 18446744073709551615 := fun a bad most => by have := readNum_range (a := a) (bad := bad) (most := most) hw; omega
  obtain ⟨h1, h2, h3, h4⟩ := h
  match i, hi with
  | 0, _ => exact ⟨h1, h2, h3, h4⟩
  | 1, _ => exact ⟨r _ _ _, h2, h3, h4⟩
  | 2, _ => exact ⟨h1, h2, h3, h4⟩
  | 3, _ => exact ⟨h1, h2, h3, h4⟩
  | 4, _ => exact ⟨h1, h2, h3, h4⟩
  | 5, _ => exact ⟨h1, h2, h3, h4⟩
  | 6, _ => exact ⟨h1, h2, h3, h4⟩
  | 7, _ => exact ⟨h1, h2, h3, h4⟩
  | 8, _ => exact ⟨h1, h2, r _ _ _, h4⟩
  | 9, _ => exact ⟨h1, h2, h3, h4⟩
  | 10, _ => exact ⟨h1, h2, h3, h4⟩
  | 11, _ => exact ⟨h1, r _ _ _, h3, h4⟩
  | 12, _ => exact ⟨h1, h2, h3, h4⟩
  | 13, _ => exact ⟨h1, h2, h3, r _ _ _⟩
  | 14, _ => exact ⟨h1, h2, h3, h4⟩
theorem bk_step {k : Int} {x : Msg × St} {i : Nat} (hi : i < 15) (h : Bk bs k x i) : Bk bs k (pst bs k i x) (i + 1) := by
  unfold pst
  by_cases hh : hasF k i = true
  · rw [if_pos hh]
    obtain ⟨o1, o2⟩ := head_other (bs := bs) (i := i) x
    have ro := refs_other (bs := bs) hi x
    refine ⟨by rw [readF_kind]; exact h.kind, wf_F hw hi h.wf, fun hl => ?_, fun hl => ?_, fun h0 => ?_⟩
    · rw [ro.1 (by omega)]; exact h.refs (by omega)
    · rw [ro.2 (by omega)]; exact h.list (by omega)
    · obtain ⟨e1, e2⟩ := field_inv hw hi x (fun e => h.refs (by omega)) (fun e => h.list (by omega)) h0
      rw [e2, h.ok e1, upto_succ, readF_kind, o1, o2]
      have e3 : upto (readF bs i x).1 i = upto x.1 i := upto_cong i (fun j hj => by
        unfold hasB
        rw [readF_kind, readF_other hi (by omega) (by omega)])
      have e4 : hasB (readF bs i x).1 i = fieldB (readF bs i x).1 i := by unfold hasB; rw [readF_kind, h.kind, if_pos hh]
      rw [e3, e4, List.append_assoc]
  · rw [if_neg hh]
    refine ⟨h.kind, h.wf, fun hl => h.refs (by omega), fun hl => h.list (by omega), fun h0 => ?_⟩
    have e4 : hasB x.1 i = [] := by unfold hasB; rw [h.kind, if_neg hh]
    rw [h.ok h0, upto_succ, e4, List.append_nil]
theorem bk_run {k : Int} : ∀ (n : Nat) (x : Msg × St), n ≤ 15 → Bk bs k x (15 - n) → Bk bs k (prun bs k n x) 15
  | 0, x, _, h => h
  | n + 1, x, hn, h => by
    rw [prun]
    have e : 14 - n = 15 - (n + 1) := by omega
    have e2 : 15 - (n + 1) + 1 = 15 - n := by omega
    rw [e]
    have := bk_step hw (i := 15 - (n + 1)) (by omega) h
    rw [e2] at this
    exact bk_run n _ (by omega) this
theorem decB_inv {m : Msg} (h : decB bs = (m, 0)) : Right m ∧ Wf m ∧ encB m = bs := by
  unfold decB ansOf at h
  have hb : fieldsN (headOf bs).1.kind ≠ 0 → Bk bs (headOf bs).1.kind (headOf bs) 0 := by
    intro hk
    unfold headOf at hk ⊢
    simp only at hk ⊢
    by_cases hf : fieldsN (readByte bs 0 0 11).1 ≠ 0
    · rw [if_pos hf]
      refine ⟨rfl, wf_zero, fun _ => rfl, fun _ => rfl, fun h0 => ?_⟩
      obtain ⟨h1, e1⟩ := byte_inv hw (s := (readByte bs (readByte bs 0 0 11).2.1 (readByte bs 0 0 11).2.2 64).2) h0
      obtain ⟨h2, e2⟩ := byte_inv hw (s := (readByte bs 0 0 11).2) h1
      obtain ⟨h3, e3⟩ := byte_inv hw (s := (0, 0)) h2
      simp only at e1 e2 e3 ⊢
      rw [e1, e2, e3]
      rfl
    · rw [if_neg hf] at hk
      exact absurd hk hf
  by_cases hk : fieldsN (headOf bs).1.kind ≠ 0
  · have hB := bk_run hw 15 (headOf bs) (by omega) (hb hk)
    generalize prun bs (headOf bs).1.kind 15 (headOf bs) = x at h hB
    by_cases he : readEnd bs x.2.1 x.2.2 = 0
    · rw [if_neg (by simp [he])] at h
      by_cases hr : Right x.1
      · rw [if_pos hr] at h
        have hm : x.1 = m := congrArg Prod.fst h
        subst hm
        refine ⟨hr, hB.wf, ?_⟩
        have h0 : x.2.2 = 0 ∧ bs.length ≤ x.2.1 := by
          unfold readEnd at he
          split at he
          · cases he
          · rename_i hn; exact ⟨he, by omega⟩
        have := hB.ok h0.1
        rw [List.take_of_length_le h0.2] at this
        rw [encB_upto, this]
      · rw [if_neg hr] at h
        have := congrArg Prod.snd h
        simp at this
    · rw [if_pos he] at h
      have := congrArg Prod.snd h
      simp at this
      exact absurd this he
  · have hk0 : fieldsN (headOf bs).1.kind = 0 := by omega
    rw [prun_none hk0] at h
    by_cases he : readEnd bs (headOf bs).2.1 (headOf bs).2.2 = 0
    · rw [if_neg (by simp [he]), if_neg (fun hr => hr.1 hk0)] at h
      have := congrArg Prod.snd h
      simp at this
    · rw [if_pos he] at h
      have := congrArg Prod.snd h
      simp at this
      exact absurd this he
end
theorem unseal_inv {bs ys : List Int} (h : unsealOf bs = (ys, 0)) : bs = sealOf ys := by
  by_cases h4 : bs.length < 4
  · rw [unseal_small h4] at h; exact absurd (congrArg Prod.snd h) (by simp)
  · by_cases he : bs.drop (bs.length - 4) = sumBytes (crc (bs.take (bs.length - 4)))
    · rw [unseal_ok h4 he] at h
      have e : bs.take (bs.length - 4) = ys := congrArg Prod.fst h
      unfold sealOf
      rw [← e, ← he, List.take_append_drop]
    · rw [unseal_bad h4 he] at h; exact absurd (congrArg Prod.snd h) (by simp)
theorem decOf_inv {bs : List Int} (hw : ∀ b ∈ bs, 0 ≤ b ∧ b ≤ 255) (h : (decOf bs).2 = 0) : Right (decOf bs).1 ∧ Wf (decOf bs).1 ∧ sealOf (encB (decOf bs).1) = bs := by
  unfold decOf at h ⊢
  by_cases h1 : bs.length > 1024
  · rw [if_pos h1] at h; simp at h
  · rw [if_neg h1] at h ⊢
    by_cases h2 : (unsealOf bs).2 ≠ 0
    · rw [if_pos h2] at h; exact absurd h h2
    · rw [if_neg h2] at h ⊢
      have e2 : (unsealOf bs).2 = 0 := by simpa using h2
      have e3 : bs = sealOf (unsealOf bs).1 := unseal_inv (by rw [← e2])
      have hw' : ∀ b ∈ (unsealOf bs).1, 0 ≤ b ∧ b ≤ 255 := fun b hb => hw b (by rw [e3]; unfold sealOf; simp [hb])
      obtain ⟨r1, r2, r3⟩ := decB_inv hw' (m := (decB (unsealOf bs).1).1) (by rw [← h])
      exact ⟨r1, r2, by rw [r3]; exact e3.symm⟩
theorem ansOf_err {bs : List Int} {x : Msg × St} (h : (ansOf bs x).2 ≠ 0) : (ansOf bs x).1 = mZero := by
  unfold ansOf at h ⊢
  split
  · rfl
  · rename_i h1
    rw [if_neg h1] at h
    split
    · rename_i h2
      rw [if_pos h2] at h
      exact absurd rfl h
    · rfl
theorem decOf_err {bs : List Int} (h : (decOf bs).2 ≠ 0) : (decOf bs).1 = mZero := by
  unfold decOf at h ⊢
  split
  · rfl
  · rename_i h1
    rw [if_neg h1] at h
    split
    · rfl
    · rename_i h2
      rw [if_neg h2] at h
      exact ansOf_err h
end Go.Proofs.YtcmkjnoaefkkhaaX
