/- What bytes are read as: by the program's fields, and by the document's. -/
import Derived.Test.YtcmkjnoaefkkhaaCPlain
import Derived.Test.YtcmkjnoaefkkhaaPEnc
namespace Go.Proofs.YtcmkjnoaefkkhaaX
set_option linter.unusedVariables false
set_option linter.unusedSimpArgs false
abbrev St := Nat × Int
def rdID (bs : List Int) (s : St) : (Int × Int) × St :=
  (((readByte bs s.1 s.2 64).1, (readNum bs (readByte bs s.1 s.2 64).2.1 (readByte bs s.1 s.2 64).2.2 72057594037927935).1), (readNum bs (readByte bs s.1 s.2 64).2.1 (readByte bs s.1 s.2 64).2.2 72057594037927935).2)
def rdIDs (bs : List Int) : Nat → List (Int × Int) → St → List (Int × Int) × St
  | 0, l, s => (l, s)
  | k + 1, l, s => rdIDs bs k (l ++ [(rdID bs s).1]) (rdID bs s).2
def rdNs (bs : List Int) : Nat → List Int → St → List Int × St
  | 0, l, s => (l, s)
  | k + 1, l, s => rdNs bs k (l ++ [(readNum bs s.1 s.2 72057594037927935).1]) (readNum bs s.1 s.2 72057594037927935).2
def rdIDsR (bs : List Int) : Nat → List (Int × Int) → St → List (Int × Int) × St
  | 0, l, s => (l, s)
  | k + 1, l, s => if s.2 = 0 then rdIDsR bs k (l ++ [(rdID bs s).1]) (rdID bs s).2 else (l, s)
def rdNsR (bs : List Int) : Nat → List Int → St → List Int × St
  | 0, l, s => (l, s)
  | k + 1, l, s => if s.2 = 0 then rdNsR bs k (l ++ [(readNum bs s.1 s.2 72057594037927935).1]) (readNum bs s.1 s.2 72057594037927935).2 else (l, s)
/-- one field is read: the program's way -/
def readF (bs : List Int) (i : Nat) (x : Msg × St) : Msg × St := match i with
  | 0 => ({ x.1 with call := (readNum bs x.2.1 x.2.2 72057594037927935).1 }, (readNum bs x.2.1 x.2.2 72057594037927935).2)
  | 1 => ({ x.1 with floor := (readNum bs x.2.1 x.2.2 18446744073709551615).1 }, (readNum bs x.2.1 x.2.2 18446744073709551615).2)
  | 2 => ({ x.1 with item := (readNum bs x.2.1 x.2.2 4095).1 }, (readNum bs x.2.1 x.2.2 4095).2)
  | 3 => ({ x.1 with op := (readByte bs x.2.1 x.2.2 (opsN x.1.kind)).1 }, (readByte bs x.2.1 x.2.2 (opsN x.1.kind)).2)
  | 4 => ({ x.1 with field := (readByte bs x.2.1 x.2.2 63).1 }, (readByte bs x.2.1 x.2.2 63).2)
  | 5 => ({ x.1 with tn := (rdID bs x.2).1.1, ts := (rdID bs x.2).1.2 }, (rdID bs x.2).2)
  | 6 => ({ x.1 with seq := (readNum bs x.2.1 x.2.2 72057594037927935).1 }, (readNum bs x.2.1 x.2.2 72057594037927935).2)
  | 7 => ({ x.1 with voucher := (readByte bs x.2.1 x.2.2 64).1 }, (readByte bs x.2.1 x.2.2 64).2)
  | 8 => ({ x.1 with at_ := (readNum bs x.2.1 x.2.2 18446744073709551615).1 }, (readNum bs x.2.1 x.2.2 18446744073709551615).2)
  | 9 => ({ x.1 with dist := (readByte bs x.2.1 x.2.2 40).1 }, (readByte bs x.2.1 x.2.2 40).2)
  | 10 => ({ x.1 with code := (readByte bs x.2.1 x.2.2 (codesN x.1.kind)).1 }, (readByte bs x.2.1 x.2.2 (codesN x.1.kind)).2)
  | 11 => ({ x.1 with value := (readNum bs x.2.1 x.2.2 18446744073709551615).1 }, (readNum bs x.2.1 x.2.2 18446744073709551615).2)
  | 12 => ({ x.1 with refs := (rdIDs bs (readNum bs x.2.1 x.2.2 2).1.toNat x.1.refs (readNum bs x.2.1 x.2.2 2).2).1 }, (rdIDs bs (readNum bs x.2.1 x.2.2 2).1.toNat x.1.refs (readNum bs x.2.1 x.2.2 2).2).2)
  | 13 => ({ x.1 with stamp := (readNum bs x.2.1 x.2.2 18446744073709551615).1 }, (readNum bs x.2.1 x.2.2 18446744073709551615).2)
  | _ => ({ x.1 with list := (rdNs bs (readNum bs x.2.1 x.2.2 64).1.toNat x.1.list (readNum bs x.2.1 x.2.2 64).2).1 }, (rdNs bs (readNum bs x.2.1 x.2.2 64).1.toNat x.1.list (readNum bs x.2.1 x.2.2 64).2).2)
/-- the document's way -/
def readFR (bs : List Int) (i : Nat) (x : Msg × St) : Msg × St := match i with
  | 12 => ({ x.1 with refs := (rdIDsR bs (readNum bs x.2.1 x.2.2 2).1.toNat x.1.refs (readNum bs x.2.1 x.2.2 2).2).1 }, (rdIDsR bs (readNum bs x.2.1 x.2.2 2).1.toNat x.1.refs (readNum bs x.2.1 x.2.2 2).2).2)
  | 14 => ({ x.1 with list := (rdNsR bs (readNum bs x.2.1 x.2.2 64).1.toNat x.1.list (readNum bs x.2.1 x.2.2 64).2).1 }, (rdNsR bs (readNum bs x.2.1 x.2.2 64).1.toNat x.1.list (readNum bs x.2.1 x.2.2 64).2).2)
  | i => readF bs i x
def pst (bs : List Int) (k : Int) (i : Nat) (x : Msg × St) : Msg × St := if hasF k i then readF bs i x else x
def rst (bs : List Int) (k : Int) (i : Nat) (x : Msg × St) : Msg × St := if hasF k i then readFR bs i x else x
/-- the program's fields from one on -/
def prun (bs : List Int) (k : Int) : Nat → Msg × St → Msg × St
  | 0, x => x
  | n + 1, x => prun bs k n (pst bs k (14 - n) x)
def rrun (bs : List Int) (k : Int) (x : Msg × St) : Msg × St :=
  let a := rst bs k 4 (rst bs k 3 (rst bs k 2 (rst bs k 1 (rst bs k 0 x))))
  let b := if k = 5 then a else rst bs k 10 a
  let c := rst bs k 9 (rst bs k 8 (rst bs k 7 (rst bs k 6 (rst bs k 12 (rst bs k 11 (rst bs k 5 b))))))
  let d := if k = 5 then rst bs k 10 c else c
  rst bs k 14 (rst bs k 13 d)
/-- two ways that agree, but for what is read behind something wrong -/
structure Rel (x y : Msg × St) : Prop where
  st : x.2 = y.2
  kind : x.1.kind = y.1.kind
  eq : x.2.2 = 0 → x.1 = y.1
theorem bad_byte {bs : List Int} {s : St} {most : Int} (h : s.2 ≠ 0) : readByte bs s.1 s.2 most = (0, s) := readByte_bad h
theorem bad_num {bs : List Int} {s : St} {most : Int} (h : s.2 ≠ 0) : readNum bs s.1 s.2 most = (0, s) := readNum_bad h
theorem bad_id {bs : List Int} {s : St} (h : s.2 ≠ 0) : (rdID bs s).2 = s := by
  unfold rdID
  rw [bad_byte h]
  simp only
  rw [bad_num h]
theorem bad_ids {bs : List Int} : ∀ (k : Nat) (l : List (Int × Int)) (s : St), s.2 ≠ 0 → (rdIDs bs k l s).2 = s
  | 0, l, s, h => rfl
  | k + 1, l, s, h => by
    rw [rdIDs, bad_id h]
    exact bad_ids k _ s h
theorem bad_ns {bs : List Int} : ∀ (k : Nat) (l : List Int) (s : St), s.2 ≠ 0 → (rdNs bs k l s).2 = s
  | 0, l, s, h => rfl
  | k + 1, l, s, h => by
    rw [rdNs, bad_num h]
    exact bad_ns k _ s h
theorem bad_idsR {bs : List Int} (k : Nat) (l : List (Int × Int)) (s : St) (h : s.2 ≠ 0) : rdIDsR bs k l s = (l, s) := by
  cases k with
  | zero => rfl
  | succ k => rw [rdIDsR, if_neg h]
theorem bad_nsR {bs : List Int} (k : Nat) (l : List Int) (s : St) (h : s.2 ≠ 0) : rdNsR bs k l s = (l, s) := by
  cases k with
  | zero => rfl
  | succ k => rw [rdNsR, if_neg h]
theorem bad_F {bs : List Int} {i : Nat} (hi : i < 15) {x : Msg × St} (h : x.2.2 ≠ 0) : (readF bs i x).2 = x.2 ∧ (readF bs i x).1.kind = x.1.kind := by
  have n : ∀ most, readNum bs x.2.1 x.2.2 most = (0, x.2) := fun most => bad_num h
  have b : ∀ most, readByte bs x.2.1 x.2.2 most = (0, x.2) := fun most => bad_byte h
  match i, hi with
  | 0, _ => simp [readF, n]
  | 1, _ => simp [readF, n]
  | 2, _ => simp [readF, n]
  | 3, _ => simp [readF, b]
  | 4, _ => simp [readF, b]
  | 5, _ => simp [readF, bad_id h]
  | 6, _ => simp [readF, n]
  | 7, _ => simp [readF, b]
  | 8, _ => simp [readF, n]
  | 9, _ => simp [readF, b]
  | 10, _ => simp [readF, b]
  | 11, _ => simp [readF, n]
  | 12, _ => simp [readF, n, bad_ids _ _ _ h]
  | 13, _ => simp [readF, n]
  | 14, _ => simp [readF, n, bad_ns _ _ _ h]
theorem bad_FR {bs : List Int} {i : Nat} (hi : i < 15) {x : Msg × St} (h : x.2.2 ≠ 0) : (readFR bs i x).2 = x.2 ∧ (readFR bs i x).1.kind = x.1.kind := by
  have n : ∀ most, readNum bs x.2.1 x.2.2 most = (0, x.2) := fun most => bad_num h
  unfold readFR
  split
  · simp [n, bad_idsR _ _ _ h]
  · simp [n, bad_nsR _ _ _ h]
  · exact bad_F hi h
theorem rel_ids {bs : List Int} : ∀ (k : Nat) (l : List (Int × Int)) (s : St), (rdIDs bs k l s).2 = (rdIDsR bs k l s).2 ∧ ((rdIDs bs k l s).2.2 = 0 → (rdIDs bs k l s).1 = (rdIDsR bs k l s).1)
  | 0, l, s => ⟨rfl, fun _ => rfl⟩
  | k + 1, l, s => by
    rw [rdIDs, rdIDsR]
    by_cases h : s.2 = 0
    · rw [if_pos h]; exact rel_ids k _ _
    · rw [if_neg h]
      have := bad_ids (bs := bs) (k + 1) l s h
      rw [rdIDs] at this
      exact ⟨this, fun h0 => by rw [this] at h0; exact absurd h0 h⟩
theorem rel_ns {bs : List Int} : ∀ (k : Nat) (l : List Int) (s : St), (rdNs bs k l s).2 = (rdNsR bs k l s).2 ∧ ((rdNs bs k l s).2.2 = 0 → (rdNs bs k l s).1 = (rdNsR bs k l s).1)
  | 0, l, s => ⟨rfl, fun _ => rfl⟩
  | k + 1, l, s => by
    rw [rdNs, rdNsR]
    by_cases h : s.2 = 0
    · rw [if_pos h]; exact rel_ns k _ _
    · rw [if_neg h]
      have := bad_ns (bs := bs) (k + 1) l s h
      rw [rdNs] at this
      exact ⟨this, fun h0 => by rw [this] at h0; exact absurd h0 h⟩
theorem readF_kind {bs : List Int} {i : Nat} {x : Msg × St} : (readF bs i x).1.kind = x.1.kind := by unfold readF; split <;> rfl
theorem rel_step {bs : List Int} {i : Nat} (hi : i < 15) {x y : Msg × St} (h : Rel x y) : Rel (readF bs i x) (readFR bs i y) := by
  by_cases h0 : x.2.2 = 0
  · have e := h.eq h0
    have exy : x = y := Prod.ext e h.st
    subst exy
    unfold readFR
    split
    · obtain ⟨a, b⟩ := rel_ids (bs := bs) (readNum bs x.2.1 x.2.2 2).1.toNat x.1.refs (readNum bs x.2.1 x.2.2 2).2
      refine ⟨a, rfl, fun hz => ?_⟩
      have hb := b hz
      simp only [readF, hb]
    · obtain ⟨a, b⟩ := rel_ns (bs := bs) (readNum bs x.2.1 x.2.2 64).1.toNat x.1.list (readNum bs x.2.1 x.2.2 64).2
      refine ⟨a, rfl, fun hz => ?_⟩
      have hb := b hz
      simp only [readF, hb]
    · exact ⟨rfl, rfl, fun _ => rfl⟩
  · have h1 : y.2.2 ≠ 0 := by rw [← h.st]; exact h0
    obtain ⟨a1, a2⟩ := bad_F (bs := bs) hi h0
    obtain ⟨b1, b2⟩ := bad_FR (bs := bs) hi h1
    exact ⟨by rw [a1, b1]; exact h.st, by rw [a2, b2]; exact h.kind, fun hz => by rw [a1] at hz; exact absurd hz h0⟩
theorem rel_st {bs : List Int} {k : Int} {i : Nat} (hi : i < 15) {x y : Msg × St} (h : Rel x y) : Rel (pst bs k i x) (rst bs k i y) := by
  unfold pst rst
  split
  · exact rel_step hi h
  · exact h
theorem rst_off {bs : List Int} {k : Int} {i : Nat} (h : hasF k i = false) (x : Msg × St) : rst bs k i x = x := by unfold rst; rw [if_neg (by simp [h])]
/-- the document's order is the program's, of each kind -/
theorem rrun_eq {bs : List Int} {k : Int} (hk : 1 ≤ k ∧ k ≤ 11) (x : Msg × St) : rrun bs k x = rst bs k 14 (rst bs k 13 (rst bs k 12 (rst bs k 11 (rst bs k 10 (rst bs k 9 (rst bs k 8 (rst bs k 7 (rst bs k 6 (rst bs k 5 (rst bs k 4 (rst bs k 3 (rst bs k 2 (rst bs k 1 (rst bs k 0 x)))))))))))))) := by
  unfold rrun
  have off : ∀ i, hasF k i = false → ∀ x, rst bs k i x = x := fun i h => rst_off h
  have hc : k = 1 ∨ k = 2 ∨ k = 3 ∨ k = 4 ∨ k = 5 ∨ k = 6 ∨ k = 7 ∨ k = 8 ∨ k = 9 ∨ k = 10 ∨ k = 11 := by omega
  rcases hc with h | h | h | h | h | h | h | h | h | h | h <;> subst h
  · simp [off 2 (by decide +kernel), off 6 (by decide +kernel), off 7 (by decide +kernel), off 8 (by decide +kernel), off 9 (by decide +kernel), off 10 (by decide +kernel), off 13 (by decide +kernel), off 14 (by decide +kernel)]
  · simp [off 1 (by decide +kernel), off 2 (by decide +kernel), off 3 (by decide +kernel), off 4 (by decide +kernel), off 5 (by decide +kernel), off 6 (by decide +kernel), off 7 (by decide +kernel), off 8 (by decide +kernel), off 9 (by decide +kernel), off 13 (by decide +kernel), off 14 (by decide +kernel)]
  · simp [off 1 (by decide +kernel), off 2 (by decide +kernel), off 3 (by decide +kernel), off 4 (by decide +kernel), off 5 (by decide +kernel), off 6 (by decide +kernel), off 7 (by decide +kernel), off 8 (by decide +kernel), off 9 (by decide +kernel), off 10 (by decide +kernel), off 11 (by decide +kernel), off 12 (by decide +kernel), off 13 (by decide +kernel), off 14 (by decide +kernel)]
  · simp [off 0 (by decide +kernel), off 1 (by decide +kernel), off 2 (by decide +kernel), off 3 (by decide +kernel), off 4 (by decide +kernel), off 10 (by decide +kernel), off 11 (by decide +kernel), off 12 (by decide +kernel), off 13 (by decide +kernel), off 14 (by decide +kernel)]
  · simp [off 0 (by decide +kernel), off 1 (by decide +kernel), off 2 (by decide +kernel), off 3 (by decide +kernel), off 4 (by decide +kernel), off 7 (by decide +kernel), off 9 (by decide +kernel), off 11 (by decide +kernel), off 12 (by decide +kernel), off 13 (by decide +kernel), off 14 (by decide +kernel)]
  · simp [off 0 (by decide +kernel), off 1 (by decide +kernel), off 2 (by decide +kernel), off 3 (by decide +kernel), off 4 (by decide +kernel), off 7 (by decide +kernel), off 8 (by decide +kernel), off 9 (by decide +kernel), off 10 (by decide +kernel), off 11 (by decide +kernel), off 12 (by decide +kernel), off 13 (by decide +kernel), off 14 (by decide +kernel)]
  · simp [off 0 (by decide +kernel), off 1 (by decide +kernel), off 2 (by decide +kernel), off 3 (by decide +kernel), off 4 (by decide +kernel), off 7 (by decide +kernel), off 8 (by decide +kernel), off 9 (by decide +kernel), off 10 (by decide +kernel), off 11 (by decide +kernel), off 12 (by decide +kernel), off 13 (by decide +kernel), off 14 (by decide +kernel)]
  · simp [off 1 (by decide +kernel), off 4 (by decide +kernel), off 6 (by decide +kernel), off 7 (by decide +kernel), off 8 (by decide +kernel), off 9 (by decide +kernel), off 10 (by decide +kernel), off 11 (by decide +kernel), off 12 (by decide +kernel), off 13 (by decide +kernel), off 14 (by decide +kernel)]
  · simp [off 1 (by decide +kernel), off 3 (by decide +kernel), off 4 (by decide +kernel), off 5 (by decide +kernel), off 6 (by decide +kernel), off 7 (by decide +kernel), off 8 (by decide +kernel), off 9 (by decide +kernel), off 11 (by decide +kernel), off 12 (by decide +kernel)]
  · simp [off 1 (by decide +kernel), off 3 (by decide +kernel), off 4 (by decide +kernel), off 6 (by decide +kernel), off 7 (by decide +kernel), off 8 (by decide +kernel), off 9 (by decide +kernel), off 10 (by decide +kernel), off 11 (by decide +kernel), off 12 (by decide +kernel), off 14 (by decide +kernel)]
  · simp [off 1 (by decide +kernel), off 3 (by decide +kernel), off 4 (by decide +kernel), off 5 (by decide +kernel), off 6 (by decide +kernel), off 7 (by decide +kernel), off 8 (by decide +kernel), off 9 (by decide +kernel), off 10 (by decide +kernel), off 11 (by decide +kernel), off 12 (by decide +kernel), off 13 (by decide +kernel), off 14 (by decide +kernel)]
theorem rel_run {bs : List Int} {k : Int} (hk : 1 ≤ k ∧ k ≤ 11) (x : Msg × St) : Rel (prun bs k 15 x) (rrun bs k x) := by
  rw [rrun_eq hk]
  have r0 : Rel x x := ⟨rfl, rfl, fun _ => rfl⟩
  exact rel_st (by omega) (rel_st (by omega) (rel_st (by omega) (rel_st (by omega) (rel_st (by omega) (rel_st (by omega) (rel_st (by omega) (rel_st (by omega) (rel_st (by omega) (rel_st (by omega) (rel_st (by omega) (rel_st (by omega) (rel_st (by omega) (rel_st (by omega) (rel_st (by omega) r0))))))))))))))
abbrev mZero : Msg := ⟨0, 0, 0, 0, 0, 0, 0, 0, 0, 0, [], 0, 0, 0, 0, 0, 0, 0, []⟩
/-- the kind, the nodes, ahead of the fields -/
def headOf (bs : List Int) : Msg × St :=
  let k := readByte bs 0 0 11
  let m1 : Msg := { mZero with kind := k.1 }
  if fieldsN k.1 ≠ 0 then
    let f := readByte bs k.2.1 k.2.2 64
    let t := readByte bs f.2.1 f.2.2 64
    ({ m1 with frm := f.1, to := t.1 }, t.2)
  else (m1, k.2)
open Classical in
/-- what is answered, of what was read -/
noncomputable def ansOf (bs : List Int) (x : Msg × St) : Msg × Int :=
  if readEnd bs x.2.1 x.2.2 ≠ 0 then (mZero, readEnd bs x.2.1 x.2.2) else if Right x.1 then (x.1, 0) else (mZero, 21)
noncomputable def decB (bs : List Int) : Msg × Int := ansOf bs (prun bs (headOf bs).1.kind 15 (headOf bs))
noncomputable def decOf (bs : List Int) : Msg × Int :=
  if bs.length > 1024 then (mZero, 22) else if (unsealOf bs).2 ≠ 0 then (mZero, (unsealOf bs).2) else decB (unsealOf bs).1
theorem readEnd_bad {bs : List Int} {a : Nat} {bad : Int} (h : bad ≠ 0) : readEnd bs a bad = bad := by unfold readEnd; rw [if_neg (fun hh => h hh.1)]
theorem ans_rel {bs : List Int} {x y : Msg × St} (h : Rel x y) : ansOf bs x = ansOf bs y := by
  unfold ansOf
  rw [← h.st]
  by_cases h0 : x.2.2 = 0
  · rw [h.eq h0]
  · rw [readEnd_bad h0, if_pos h0, if_pos h0]
/-- the document's answer is the program's -/
theorem ans_eq (bs : List Int) (hk : fieldsN (headOf bs).1.kind ≠ 0) : ansOf bs (rrun bs (headOf bs).1.kind (headOf bs)) = decB bs := (ans_rel (rel_run (fieldsN_zero.1 hk) _)).symm
theorem prun_none {bs : List Int} {k : Int} (h : fieldsN k = 0) : ∀ (n : Nat) (x : Msg × St), prun bs k n x = x
  | 0, x => rfl
  | n + 1, x => by
    have e : pst bs k (14 - n) x = x := by unfold pst hasF; rw [h]; simp
    rw [prun, e]
    exact prun_none h n x
end Go.Proofs.YtcmkjnoaefkkhaaX
