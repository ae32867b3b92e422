/- A message's bytes, in plain Lean. -/
import Derived.Test.YtcmkjnoaefkkhaaPMsg
import Derived.Test.YtcmkjnoaefkkhaaCWriter
namespace Go.Proofs.YtcmkjnoaefkkhaaX
set_option linter.unusedVariables false
set_option linter.unusedSimpArgs false
def idB (x : Int × Int) : List Int := x.1 :: numB x.2.toNat
def fieldB (m : Msg) : Nat → List Int
  | 0 => numB m.call.toNat
  | 1 => numB m.floor.toNat
  | 2 => numB m.item.toNat
  | 3 => [m.op]
  | 4 => [m.field]
  | 5 => idB (m.tn, m.ts)
  | 6 => numB m.seq.toNat
  | 7 => [m.voucher]
  | 8 => numB m.at_.toNat
  | 9 => [m.dist]
  | 10 => [m.code]
  | 11 => numB m.value.toNat
  | 12 => numB m.refs.length ++ m.refs.flatMap idB
  | 13 => numB m.stamp.toNat
  | _ => numB m.list.length ++ m.list.flatMap fun n => numB n.toNat
def hasB (m : Msg) (i : Nat) : List Int := if hasF m.kind i then fieldB m i else []
/-- the fields from one on -/
def fieldsFrom (m : Msg) (i : Nat) : List Int := (List.range' i (15 - i)).flatMap (hasB m)
def encB (m : Msg) : List Int := [m.kind, m.frm, m.to] ++ fieldsFrom m 0
theorem fieldsFrom_step {m : Msg} {i : Nat} (h : i < 15) : fieldsFrom m i = hasB m i ++ fieldsFrom m (i + 1) := by
  unfold fieldsFrom
  obtain ⟨k, hk⟩ : ∃ k, 15 - i = k + 1 := ⟨14 - i, by omega⟩
  rw [hk, List.range'_succ, List.flatMap_cons, show 15 - (i + 1) = k by omega]
theorem fieldsFrom_end {m : Msg} : fieldsFrom m 15 = [] := rfl
/-- numbers of 64 bits -/
structure Wf (m : Msg) : Prop where
  floor : 0 ≤ m.floor ∧ m.floor ≤ 18446744073709551615
  value : 0 ≤ m.value ∧ m.value ≤ 18446744073709551615
  at_ : 0 ≤ m.at_ ∧ m.at_ ≤ 18446744073709551615
  stamp : 0 ≤ m.stamp ∧ m.stamp ≤ 18446744073709551615
theorem idB_len {x : Int × Int} (h : okID x) : (idB x).length ≤ 11 := by
  have : x.2.toNat ≤ 18446744073709551615 := by unfold okID okSerial at h; omega
  have := numB_len10 this
  simp [idB]; omega
theorem flat_le {α : Type} {f : α → List Int} {k : Nat} : ∀ (l : List α), (∀ x ∈ l, (f x).length ≤ k) → (l.flatMap f).length ≤ l.length * k
  | [], _ => by simp
  | x :: l, h => by
    have := h x (by simp)
    have := flat_le l (fun y hy => h y (by simp [hy]))
    rw [List.flatMap_cons, List.length_append, List.length_cons, Nat.succ_mul]
    omega
theorem fieldB_len {m : Msg} {i : Nat} (hi : i < 15) (hf : fits m i) (hw : Wf m) : (fieldB m i).length ≤ 650 := by
  have n10 : ∀ {n : Int}, n ≤ 18446744073709551615 → (numB n.toNat).length ≤ 10 := fun h => numB_len10 (by omega)
  match i, hi, hf with
  | 0, _, h => have := n10 (n := m.call) (by simp only [fits, okSerial] at h; omega); simp only [fieldB]; omega
  | 1, _, h => have := n10 hw.floor.2; simp only [fieldB]; omega
  | 2, _, h => have := n10 (n := m.item) (by simp only [fits] at h; omega); simp only [fieldB]; omega
  | 3, _, h => simp [fieldB]
  | 4, _, h => simp [fieldB]
  | 5, _, h => have := idB_len h.1; simp only [fieldB]; omega
  | 6, _, h => have := n10 (n := m.seq) (by simp only [fits, okSerial] at h; omega); simp only [fieldB]; omega
  | 7, _, h => simp [fieldB]
  | 8, _, h => have := n10 hw.at_.2; simp only [fieldB]; omega
  | 9, _, h => simp [fieldB]
  | 10, _, h => simp [fieldB]
  | 11, _, h => have := n10 hw.value.2; simp only [fieldB]; omega
  | 12, _, h =>
    have h1 : (numB m.refs.length).length ≤ 10 := numB_len10 (by have := h.2; omega)
    have h2 := flat_le m.refs (f := idB) (k := 11) (fun x hx => idB_len (h.1 x hx))
    have := h.2
    simp only [fieldB, List.length_append]; omega
  | 13, _, h => have := n10 hw.stamp.2; simp only [fieldB]; omega
  | 14, _, h =>
    have h1 : (numB m.list.length).length ≤ 10 := numB_len10 (by have := h.2; omega)
    have h2 := flat_le m.list (f := fun n => numB n.toNat) (k := 10) (fun x hx => by
      obtain ⟨j, hj⟩ := List.mem_iff_getElem?.1 hx
      have := (h.1 j x hj).1
      unfold okSerial at this
      exact n10 (by omega))
    have := h.2
    simp only [fieldB, List.length_append]; omega
end Go.Proofs.YtcmkjnoaefkkhaaX
