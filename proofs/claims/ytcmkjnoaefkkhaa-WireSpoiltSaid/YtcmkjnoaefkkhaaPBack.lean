/- What is encoded is decoded to itself, and what is decoded is encoded as the same bytes: in plain Lean. -/
import Derived.Test.YtcmkjnoaefkkhaaPDec
import Derived.Test.YtcmkjnoaefkkhaaL2RDec
namespace Go.Proofs.YtcmkjnoaefkkhaaX
set_option linter.unusedVariables false
set_option linter.unusedSimpArgs false
set_option maxRecDepth 100000
/-- a message of which the fields from i on are not read yet -/
def pm (m : Msg) (i : Nat) : Msg :=
  { kind := m.kind, frm := m.frm, to := m.to, call := if 0 < i then m.call else 0, floor := if 1 < i then m.floor else 0, item := if 2 < i then m.item else 0, op := if 3 < i then m.op else 0,
    field := if 4 < i then m.field else 0, tn := if 5 < i then m.tn else 0, ts := if 5 < i then m.ts else 0, seq := if 6 < i then m.seq else 0, voucher := if 7 < i then m.voucher else 0, at_ := if 8 < i then m.at_ else 0,
    dist := if 9 < i then m.dist else 0, code := if 10 < i then m.code else 0, value := if 11 < i then m.value else 0, refs := if 12 < i then m.refs else [], stamp := if 13 < i then m.stamp else 0, list := if 14 < i then m.list else [] }
theorem drop_more {bs l rest : List Int} {a : Nat} (h : bs.drop a = l ++ rest) : bs.drop (a + l.length) = rest := by
  rw [← List.drop_drop, h, List.drop_left]
theorem rn_step {bs rest : List Int} {a : Nat} {v most : Int} (h0 : 0 ≤ v) (h1 : v ≤ 18446744073709551615) (hd : bs.drop a = numB v.toNat ++ rest) (hm : v ≤ most) : ∃ a', readNum bs a 0 most = (v, a', 0) ∧ bs.drop a' = rest := by
  refine ⟨_, ?_, drop_more hd⟩
  have := readNum_enc (n := v.toNat) (most := most) (by omega) hd (by omega)
  rw [this]
  rw [show ((v.toNat : Nat) : Int) = v by omega]
theorem rb_step {bs rest : List Int} {a : Nat} {v most : Int} (hd : bs.drop a = v :: rest) (hm : v ≤ most) : ∃ a', readByte bs a 0 most = (v, a', 0) ∧ bs.drop a' = rest :=
  ⟨a + 1, readByte_enc hd hm, drop_more (l := [v]) hd⟩
theorem id_step {bs rest : List Int} {a : Nat} {x : Int × Int} (ho : okID x) (hd : bs.drop a = idB x ++ rest) : ∃ a', rdID bs (a, 0) = (x, (a', 0)) ∧ bs.drop a' = rest := by
  have hx : 0 ≤ x.1 ∧ x.1 ≤ 64 := by unfold okID okSerial at ho; omega
  have hy : 0 ≤ x.2 ∧ x.2 ≤ 72057594037927935 := by unfold okID okSerial at ho; omega
  unfold idB at hd
  obtain ⟨a1, e1, d1⟩ := rb_step (v := x.1) (most := 64) hd hx.2
  obtain ⟨a2, e2, d2⟩ := rn_step (v := x.2) (most := 72057594037927935) hy.1 (by omega) d1 hy.2
  exact ⟨a2, by unfold rdID; simp only [e1, e2], d2⟩
theorem ids_step {bs rest : List Int} : ∀ (l acc : List (Int × Int)) (a : Nat), (∀ x ∈ l, okID x) → bs.drop a = l.flatMap idB ++ rest → ∃ a', rdIDs bs l.length acc (a, 0) = (acc ++ l, (a', 0)) ∧ bs.drop a' = rest
  | [], acc, a, _, hd => ⟨a, by simp [rdIDs], by simpa using hd⟩
  | x :: l, acc, a, ho, hd => by
    rw [List.flatMap_cons, List.append_assoc] at hd
    obtain ⟨a1, e1, d1⟩ := id_step (ho x (by simp)) hd
    obtain ⟨a2, e2, d2⟩ := ids_step l (acc ++ [x]) a1 (fun y hy => ho y (by simp [hy])) d1
    refine ⟨a2, ?_, d2⟩
    rw [List.length_cons, rdIDs, e1]
    simp only
    rw [e2]
    simp
theorem ns_step {bs rest : List Int} : ∀ (l acc : List Int) (a : Nat), (∀ x ∈ l, okSerial x) → bs.drop a = (l.flatMap fun n => numB n.toNat) ++ rest → ∃ a', rdNs bs l.length acc (a, 0) = (acc ++ l, (a', 0)) ∧ bs.drop a' = rest
  | [], acc, a, _, hd => ⟨a, by simp [rdNs], by simpa using hd⟩
  | x :: l, acc, a, ho, hd => by
    rw [List.flatMap_cons, List.append_assoc] at hd
    have hx := ho x (by simp)
    unfold okSerial at hx
    obtain ⟨a1, e1, d1⟩ := rn_step (v := x) (most := 72057594037927935) (by omega) (by omega) hd hx.2
    obtain ⟨a2, e2, d2⟩ := ns_step l (acc ++ [x]) a1 (fun y hy => ho y (by simp [hy])) d1
    refine ⟨a2, ?_, d2⟩
    rw [List.length_cons, rdNs]
    simp only [e1]
    rw [e2]
    simp
theorem field_step {bs rest : List Int} {m : Msg} {i a : Nat} (hi : i < 15) (hf : fits m i) (hw : Wf m) (hd : bs.drop a = fieldB m i ++ rest) : ∃ a', readF bs i (pm m i, (a, 0)) = (pm m (i + 1), (a', 0)) ∧ bs.drop a' = rest := by
  match i, hi, hf, hd with
  | 0, _, h, hd => simp only [fits, okSerial] at h; obtain ⟨a', e, d⟩ := rn_step (v := m.call) (most := 72057594037927935) (by omega) (by omega) hd (by omega); exact ⟨a', by simp only [readF, e]; rfl, d⟩
  | 1, _, h, hd => obtain ⟨a', e, d⟩ := rn_step (v := m.floor) (most := 18446744073709551615) hw.floor.1 hw.floor.2 hd hw.floor.2; exact ⟨a', by simp only [readF, e]; rfl, d⟩
  | 2, _, h, hd => simp only [fits] at h; obtain ⟨a', e, d⟩ := rn_step (v := m.item) (most := 4095) (by omega) (by omega) hd (by omega); exact ⟨a', by simp only [readF, e]; rfl, d⟩
  | 3, _, h, hd => obtain ⟨a', e, d⟩ := rb_step (v := m.op) (most := opsN m.kind) hd h.2; exact ⟨a', by simp only [readF, show (pm m 3).kind = m.kind from rfl, e]; rfl, d⟩
  | 4, _, h, hd => obtain ⟨a', e, d⟩ := rb_step (v := m.field) (most := 63) hd h.2; exact ⟨a', by simp only [readF, e]; rfl, d⟩
  | 5, _, h, hd => obtain ⟨a', e, d⟩ := id_step h.1 hd; exact ⟨a', by simp only [readF, e]; rfl, d⟩
  | 6, _, h, hd => simp only [fits, okSerial] at h; obtain ⟨a', e, d⟩ := rn_step (v := m.seq) (most := 72057594037927935) (by omega) (by omega) hd (by omega); exact ⟨a', by simp only [readF, e]; rfl, d⟩
  | 7, _, h, hd => obtain ⟨a', e, d⟩ := rb_step (v := m.voucher) (most := 64) hd h.2; exact ⟨a', by simp only [readF, e]; rfl, d⟩
  | 8, _, h, hd => obtain ⟨a', e, d⟩ := rn_step (v := m.at_) (most := 18446744073709551615) hw.at_.1 hw.at_.2 hd hw.at_.2; exact ⟨a', by simp only [readF, e]; rfl, d⟩
  | 9, _, h, hd => obtain ⟨a', e, d⟩ := rb_step (v := m.dist) (most := 40) hd h.2; exact ⟨a', by simp only [readF, e]; rfl, d⟩
  | 10, _, h, hd => obtain ⟨a', e, d⟩ := rb_step (v := m.code) (most := codesN m.kind) hd h.2; exact ⟨a', by simp only [readF, show (pm m 10).kind = m.kind from rfl, e]; rfl, d⟩
  | 11, _, h, hd => obtain ⟨a', e, d⟩ := rn_step (v := m.value) (most := 18446744073709551615) hw.value.1 hw.value.2 hd hw.value.2; exact ⟨a', by simp only [readF, e]; rfl, d⟩
  | 12, _, h, hd =>
    have h2 := h.2
    have hd' : bs.drop a = numB m.refs.length ++ (m.refs.flatMap idB ++ rest) := by rw [hd]; simp [fieldB]
    obtain ⟨a1, e1, d1⟩ := rn_step (v := (m.refs.length : Int)) (most := 2) (by omega) (by omega) (by simpa using hd') (by omega)
    obtain ⟨a2, e2, d2⟩ := ids_step m.refs [] a1 h.1 d1
    refine ⟨a2, ?_, d2⟩
    simp only [readF, e1, Int.toNat_natCast, show (pm m 12).refs = [] from rfl, e2]
    rfl
  | 13, _, h, hd => obtain ⟨a', e, d⟩ := rn_step (v := m.stamp) (most := 18446744073709551615) hw.stamp.1 hw.stamp.2 hd hw.stamp.2; exact ⟨a', by simp only [readF, e]; rfl, d⟩
  | 14, _, h, hd =>
    have h2 := h.2
    have hd' : bs.drop a = numB m.list.length ++ ((m.list.flatMap fun n => numB n.toNat) ++ rest) := by rw [hd]; simp [fieldB]
    obtain ⟨a1, e1, d1⟩ := rn_step (v := (m.list.length : Int)) (most := 64) (by omega) (by omega) (by simpa using hd') (by omega)
    obtain ⟨a2, e2, d2⟩ := ns_step m.list [] a1 (fun x hx => by obtain ⟨j, hj⟩ := List.mem_iff_getElem?.1 hx; exact (h.1 j x hj).1) d1
    refine ⟨a2, ?_, d2⟩
    simp only [readF, e1, Int.toNat_natCast, show (pm m 14).list = [] from rfl, e2]
    rfl
theorem bare_step {m : Msg} {i : Nat} (hi : i < 15) (h : bare m i) : pm m i = pm m (i + 1) := by
  match i, hi, h with
  | 0, _, h => simp only [bare] at h; simp [pm, h]
  | 1, _, h => simp only [bare] at h; simp [pm, h]
  | 2, _, h => simp only [bare] at h; simp [pm, h]
  | 3, _, h => simp only [bare] at h; simp [pm, h]
  | 4, _, h => simp only [bare] at h; simp [pm, h]
  | 5, _, h => simp only [bare, noID] at h; simp [pm, h.1, h.2]
  | 6, _, h => simp only [bare] at h; simp [pm, h]
  | 7, _, h => simp only [bare] at h; simp [pm, h]
  | 8, _, h => simp only [bare] at h; simp [pm, h]
  | 9, _, h => simp only [bare] at h; simp [pm, h]
  | 10, _, h => simp only [bare] at h; simp [pm, h]
  | 11, _, h => simp only [bare] at h; simp [pm, h]
  | 12, _, h => simp only [bare] at h; simp [pm, List.eq_nil_of_length_eq_zero h]
  | 13, _, h => simp only [bare] at h; simp [pm, h]
  | 14, _, h => simp only [bare] at h; simp [pm, List.eq_nil_of_length_eq_zero h]
theorem run_step {bs : List Int} {m : Msg} (hr : Right m) (hw : Wf m) : ∀ (n a : Nat), n ≤ 15 → bs.drop a = fieldsFrom m (15 - n) → ∃ a', prun bs m.kind n (pm m (15 - n), (a, 0)) = (m, (a', 0)) ∧ bs.drop a' = []
  | 0, a, _, hd => ⟨a, by simp [prun, pm], by rw [hd]; rfl⟩
  | n + 1, a, hn, hd => by
    have hi : 15 - (n + 1) < 15 := by omega
    have hi2 : 14 - n = 15 - (n + 1) := by omega
    have hi3 : 15 - (n + 1) + 1 = 15 - n := by omega
    rw [fieldsFrom_step hi, hi3] at hd
    rw [prun, hi2]
    have hok := hr.2.2.2.2 _ hi
    unfold okF at hok
    unfold hasB at hd
    unfold pst
    by_cases h : hasF m.kind (15 - (n + 1)) = true
    · rw [if_pos h] at hd hok ⊢
      obtain ⟨a', e, d⟩ := field_step hi hok hw hd
      rw [e, hi3]
      exact run_step hr hw n a' (by omega) d
    · rw [if_neg h] at hd hok ⊢
      rw [bare_step hi hok, hi3]
      exact run_step hr hw n a (by omega) (by simpa using hd)
theorem unseal_seal (bs : List Int) : unsealOf (sealOf bs) = (bs, 0) := by
  have hl : (sealOf bs).length = bs.length + 4 := by simp [sealOf, sumBytes]
  have h4 : (sealOf bs).length - 4 = bs.length := by omega
  have ht : (sealOf bs).take bs.length = bs := by unfold sealOf; rw [List.take_append_of_le_length (Nat.le_refl _), List.take_length]
  have hd : (sealOf bs).drop bs.length = sumBytes (crc bs) := by unfold sealOf; rw [List.drop_append_of_le_length (Nat.le_refl _), List.drop_length, List.nil_append]
  rw [unseal_ok (by omega) (by rw [h4, ht, hd]), h4, ht]
theorem decB_enc {m : Msg} (hr : Right m) (hw : Wf m) : decB (encB m) = (m, 0) := by
  have kf : 1 ≤ m.kind ∧ m.kind ≤ 11 := fieldsN_zero.1 hr.1
  have h1 := hr.2.1
  have h2 := hr.2.2.1
  have e0 : (encB m).drop 0 = m.kind :: (m.frm :: m.to :: fieldsFrom m 0) := rfl
  have r0 : readByte (encB m) 0 0 11 = (m.kind, 1, 0) := readByte_enc e0 kf.2
  have r1 : readByte (encB m) 1 0 64 = (m.frm, 2, 0) := readByte_enc (rest := m.to :: fieldsFrom m 0) rfl h1.2
  have r2 : readByte (encB m) 2 0 64 = (m.to, 3, 0) := readByte_enc (rest := fieldsFrom m 0) rfl h2.2
  have hh : headOf (encB m) = (pm m 0, (3, 0)) := by
    unfold headOf
    simp only [r0, if_pos hr.1, r1, r2]
    rfl
  obtain ⟨a', e, d⟩ := run_step hr hw (bs := encB m) 15 3 (by omega) rfl
  unfold decB
  rw [hh]
  rw [show (pm m 0, ((3 : Nat), (0 : Int))).1.kind = m.kind from rfl, e]
  unfold ansOf readEnd
  have hle : (encB m).length ≤ a' := by
    have := congrArg List.length d
    simp at this
    omega
  rw [if_neg (by simp; omega), if_pos hr]
/-- it is within a datagram -/
theorem hasB_11 {m : Msg} {i : Nat} (hi : i < 15) (hr : Right m) (hw : Wf m) (h12 : i ≠ 12) (h14 : i ≠ 14) : (hasB m i).length ≤ 11 := by
  unfold hasB
  split
  · rename_i h
    have hf := fit hr hi h
    have n10 : ∀ {n : Int}, n ≤ 18446744073709551615 → (numB n.toNat).length ≤ 10 := fun h => numB_len10 (by omega)
    match i, hi, hf with
    | 0, _, h => have := n10 (n := m.call) (by simp only [fits, okSerial] at h; omega); simp only [fieldB]; omega
    | 1, _, h => have := n10 hw.floor.2; simp only [fieldB]; omega
    | 2, _, h => have := n10 (n := m.item) (by simp only [fits] at h; omega); simp only [fieldB]; omega
    | 3, _, h => simp [fieldB]
    | 4, _, h => simp [fieldB]
    | 5, _, h => have := idB_len h.1; simp only [fieldB]; omega
    | 6, _, h => have := n10 (n := m.seq) (by simp only [fits, okSerial] at h; omega); simp only [fieldB]; omega
    | 7, _, h => simp [fieldB]
    | 8, _, h => have := n10 hw.at_.2; simp only [fieldB]; omega
    | 9, _, h => simp [fieldB]
    | 10, _, h => simp [fieldB]
    | 11, _, h => have := n10 hw.value.2; simp only [fieldB]; omega
    | 12, _, h => exact absurd rfl h12
    | 13, _, h => have := n10 hw.stamp.2; simp only [fieldB]; omega
    | 14, _, h => exact absurd rfl h14
  · simp
theorem hasB_12 {m : Msg} (hr : Right m) : (hasB m 12).length ≤ 32 := by
  unfold hasB
  split
  · rename_i h
    have hf := fit hr (i := 12) (by omega) h
    have h1 : (numB m.refs.length).length ≤ 10 := numB_len10 (by have := hf.2; omega)
    have h2 := flat_le m.refs (f := idB) (k := 11) (fun x hx => idB_len (hf.1 x hx))
    have := hf.2
    simp only [fieldB, List.length_append]; omega
  · simp
theorem fieldsFrom_len {m : Msg} {i : Nat} (hi : i < 15) : (fieldsFrom m i).length = (hasB m i).length + (fieldsFrom m (i + 1)).length := by
  rw [fieldsFrom_step hi, List.length_append]
theorem encB_fits {m : Msg} (hr : Right m) (hw : Wf m) : (encB m).length ≤ 1000 := by
  have k : ∀ i, i < 15 → i ≠ 12 → i ≠ 14 → (fieldsFrom m i).length ≤ 11 + (fieldsFrom m (i + 1)).length := fun i hi h1 h2 => by
    have := hasB_11 hi hr hw h1 h2
    rw [fieldsFrom_len hi]; omega
  have k0 := k 0 (by omega) (by omega) (by omega)
  have k1 := k 1 (by omega) (by omega) (by omega)
  have k2 := k 2 (by omega) (by omega) (by omega)
  have k3 := k 3 (by omega) (by omega) (by omega)
  have k4 := k 4 (by omega) (by omega) (by omega)
  have k5 := k 5 (by omega) (by omega) (by omega)
  have k6 := k 6 (by omega) (by omega) (by omega)
  have k7 := k 7 (by omega) (by omega) (by omega)
  have k8 := k 8 (by omega) (by omega) (by omega)
  have k9 := k 9 (by omega) (by omega) (by omega)
  have k10 := k 10 (by omega) (by omega) (by omega)
  have k11 := k 11 (by omega) (by omega) (by omega)
  have k12 := hasB_12 hr
  have f12 := fieldsFrom_len (m := m) (i := 12) (by omega)
  have k13 := k 13 (by omega) (by omega) (by omega)
  have k14 := hasB_len (m := m) (i := 14) (by omega) hr hw
  have f14 := fieldsFrom_len (m := m) (i := 14) (by omega)
  have e15 : (fieldsFrom m (14 + 1)).length = 0 := rfl
  have hl : (encB m).length = 3 + (fieldsFrom m 0).length := by unfold encB; rw [List.length_append]; rfl
  rw [hl]
  clear hl k
  revert k0 k1 k2 k3 k4 k5 k6 k7 k8 k9 k10 k11 k12 f12 k13 k14 f14 e15
  generalize (fieldsFrom m 0).length = x0
  simp only [Nat.reduceAdd]
  generalize (fieldsFrom m 1).length = x1
  generalize (fieldsFrom m 2).length = x2
  generalize (fieldsFrom m 3).length = x3
  generalize (fieldsFrom m 4).length = x4
  generalize (fieldsFrom m 5).length = x5
  generalize (fieldsFrom m 6).length = x6
  generalize (fieldsFrom m 7).length = x7
  generalize (fieldsFrom m 8).length = x8
  generalize (fieldsFrom m 9).length = x9
  generalize (fieldsFrom m 10).length = x10
  generalize (fieldsFrom m 11).length = x11
  generalize (fieldsFrom m 12).length = x12
  generalize (fieldsFrom m 13).length = x13
  generalize (fieldsFrom m 14).length = x14
  generalize (fieldsFrom m 15).length = x15
  generalize (hasB m 12).length = y12
  generalize (hasB m 14).length = y14
  intros
  omega
theorem sealOf_len (bs : List Int) : (sealOf bs).length = bs.length + 4 := by simp [sealOf, sumBytes]
theorem decOf_enc {m : Msg} (hr : Right m) (hw : Wf m) : decOf (sealOf (encB m)) = (m, 0) := by
  have := encB_fits hr hw
  unfold decOf
  rw [sealOf_len, if_neg (by omega), unseal_seal]
  simp only [ne_eq, not_true_eq_false, if_false]
  exact decB_enc hr hw
end Go.Proofs.YtcmkjnoaefkkhaaX
