/- Messages, in plain Lean: which may be, by the program's fields and by the document's. -/
import Derived.Test.YtnjmkhhaodgpbaaXMem
namespace Go.Proofs.YtnjmkhhaodgpbaaX
set_option linter.unusedVariables false
set_option linter.unusedSimpArgs false
structure Msg where
  kind : Int
  frm : Int
  to : Int
  call : Int
  floor : Int
  op : Int
  field : Int
  item : Int
  tn : Int
  ts : Int
  refs : List (Int × Int)
  value : Int
  code : Int
  seq : Int
  voucher : Int
  at_ : Int
  dist : Int
  stamp : Int
  list : List Int
/-- a field of a kind: bit i of the program's number -/
def fieldsN (k : Int) : Nat :=
  if k = 1 then 1 + 2 + 8 + 16 + 32 + 2048 + 4096 else if k = 2 then 1 + 1024 + 2048 + 4096 else if k = 3 then 1 else if k = 4 then 32 + 64 + 128 + 256 + 512
  else if k = 5 then 32 + 64 + 256 + 1024 else if k = 6 then 32 + 64 else if k = 7 then 32 + 64 else if k = 8 then 1 + 4 + 8 + 32 else if k = 9 then 1 + 4 + 1024 + 8192 + 16384
  else if k = 10 then 1 + 4 + 32 + 8192 else if k = 11 then 1 + 4 else 0
def hasF (k : Int) (i : Nat) : Bool := (fieldsN k).testBit i
def okSerial (n : Int) : Prop := 1 ≤ n ∧ n ≤ 72057594037927935
def okID (x : Int × Int) : Prop := (x.1 = 0 ∧ x.2 = 0) ∨ ((1 ≤ x.1 ∧ x.1 ≤ 64) ∧ okSerial x.2)
def noID (x : Int × Int) : Prop := x.1 = 0 ∧ x.2 = 0
/-- numbers that rise -/
def rise (l : List Int) : Prop := ∀ (i : Nat) (n : Int), l[i]? = some n → okSerial n ∧ ∀ (j : Nat) (p : Int), i = j + 1 → l[j]? = some p → p < n
def opsN (k : Int) : Int := if k = 8 then 3 else 6
def codesN (k : Int) : Int := if k = 9 then 2 else 10
/-- what has no target -/
def aimsNone (m : Msg) : Prop := (m.kind = 1 ∧ (m.op = 1 ∨ m.op = 6)) ∨ (m.kind = 8 ∧ m.op = 3)
def fits (m : Msg) : Nat → Prop
  | 0 => okSerial m.call
  | 1 => 1 ≤ m.floor ∧ m.floor ≤ m.call
  | 2 => 0 ≤ m.item ∧ m.item ≤ 4095
  | 3 => 1 ≤ m.op ∧ m.op ≤ opsN m.kind
  | 4 => 0 ≤ m.field ∧ m.field ≤ 63
  | 5 => okID (m.tn, m.ts) ∧ (noID (m.tn, m.ts) ↔ aimsNone m)
  | 6 => okSerial m.seq
  | 7 => 1 ≤ m.voucher ∧ m.voucher ≤ 64
  | 9 => 1 ≤ m.dist ∧ m.dist ≤ 40
  | 10 => 0 ≤ m.code ∧ m.code ≤ codesN m.kind
  | 12 => (∀ x ∈ m.refs, okID x) ∧ m.refs.length ≤ 2
  | 14 => rise m.list ∧ m.list.length ≤ 64
  | _ => True
def bare (m : Msg) : Nat → Prop
  | 0 => m.call = 0
  | 1 => m.floor = 0
  | 2 => m.item = 0
  | 3 => m.op = 0
  | 4 => m.field = 0
  | 5 => noID (m.tn, m.ts)
  | 6 => m.seq = 0
  | 7 => m.voucher = 0
  | 8 => m.at_ = 0
  | 9 => m.dist = 0
  | 10 => m.code = 0
  | 11 => m.value = 0
  | 12 => m.refs.length = 0
  | 13 => m.stamp = 0
  | _ => m.list.length = 0
def okF (m : Msg) (i : Nat) : Prop := if hasF m.kind i then fits m i else bare m i
def Right (m : Msg) : Prop := fieldsN m.kind ≠ 0 ∧ (1 ≤ m.frm ∧ m.frm ≤ 64) ∧ (1 ≤ m.to ∧ m.to ≤ 64) ∧ m.frm ≠ m.to ∧ ∀ i, i < 15 → okF m i
/-! ### The document's -/
def numberR (h : Bool) (n lo hi : Int) : Prop := if h then lo ≤ n ∧ n ≤ hi else n = 0
def serialR (h : Bool) (n : Int) : Prop := if h then okSerial n else n = 0
def numbersR (m : Msg) : Prop :=
  (serialR (hasF m.kind 0) m.call ∧ numberR (hasF m.kind 3) m.op 1 (opsN m.kind) ∧ numberR (hasF m.kind 4) m.field 0 63 ∧ numberR (hasF m.kind 2) m.item 0 4095 ∧ numberR (hasF m.kind 10) m.code 0 (codesN m.kind)) ∧
  (serialR (hasF m.kind 6) m.seq ∧ numberR (hasF m.kind 7) m.voucher 1 64 ∧ numberR (hasF m.kind 9) m.dist 1 40) ∧
  (if hasF m.kind 1 then 1 ≤ m.floor ∧ m.floor ≤ m.call else m.floor = 0) ∧
  ((hasF m.kind 11 = true ∨ m.value = 0) ∧ (hasF m.kind 8 = true ∨ m.at_ = 0) ∧ (hasF m.kind 13 = true ∨ m.stamp = 0))
def targetR (m : Msg) : Prop := if hasF m.kind 5 then okID (m.tn, m.ts) ∧ (noID (m.tn, m.ts) ↔ aimsNone m) else noID (m.tn, m.ts)
def RightR (m : Msg) : Prop := (1 ≤ m.kind ∧ m.kind ≤ 11) ∧ (1 ≤ m.frm ∧ m.frm ≤ 64) ∧ (1 ≤ m.to ∧ m.to ≤ 64) ∧ m.frm ≠ m.to ∧ numbersR m ∧ targetR m ∧
  (0 < m.refs.length → hasF m.kind 12 = true) ∧ m.refs.length ≤ 2 ∧ (0 < m.list.length → hasF m.kind 14 = true) ∧ m.list.length ≤ 64 ∧ (∀ x ∈ m.refs, okID x) ∧ rise m.list
theorem all15 {p : Nat → Prop} : (∀ i, i < 15 → p i) ↔ p 0 ∧ p 1 ∧ p 2 ∧ p 3 ∧ p 4 ∧ p 5 ∧ p 6 ∧ p 7 ∧ p 8 ∧ p 9 ∧ p 10 ∧ p 11 ∧ p 12 ∧ p 13 ∧ p 14 := by
  constructor
  · intro h
    exact ⟨h 0 (by omega), h 1 (by omega), h 2 (by omega), h 3 (by omega), h 4 (by omega), h 5 (by omega), h 6 (by omega), h 7 (by omega), h 8 (by omega), h 9 (by omega), h 10 (by omega), h 11 (by omega), h 12 (by omega), h 13 (by omega), h 14 (by omega)⟩
  · rintro ⟨h0, h1, h2, h3, h4, h5, h6, h7, h8, h9, h10, h11, h12, h13, h14⟩ i hi
    match i, hi with
    | 0, _ => exact h0
    | 1, _ => exact h1
    | 2, _ => exact h2
    | 3, _ => exact h3
    | 4, _ => exact h4
    | 5, _ => exact h5
    | 6, _ => exact h6
    | 7, _ => exact h7
    | 8, _ => exact h8
    | 9, _ => exact h9
    | 10, _ => exact h10
    | 11, _ => exact h11
    | 12, _ => exact h12
    | 13, _ => exact h13
    | 14, _ => exact h14
theorem fieldsN_zero {k : Int} : fieldsN k ≠ 0 ↔ 1 ≤ k ∧ k ≤ 11 := by
  unfold fieldsN
  constructor
  · intro h
    by_cases h1 : k = 1 ∨ k = 2 ∨ k = 3 ∨ k = 4 ∨ k = 5 ∨ k = 6 ∨ k = 7 ∨ k = 8 ∨ k = 9 ∨ k = 10 ∨ k = 11
    · omega
    · simp only [not_or] at h1
      obtain ⟨h1, h2, h3, h4, h5, h6, h7, h8, h9, h10, h11⟩ := h1
      simp [h1, h2, h3, h4, h5, h6, h7, h8, h9, h10, h11] at h
  · intro h
    have : k = 1 ∨ k = 2 ∨ k = 3 ∨ k = 4 ∨ k = 5 ∨ k = 6 ∨ k = 7 ∨ k = 8 ∨ k = 9 ∨ k = 10 ∨ k = 11 := by omega
    rcases this with rfl | rfl | rfl | rfl | rfl | rfl | rfl | rfl | rfl | rfl | rfl <;> simp
theorem rise_nil : rise [] := fun i n h => by simp at h
theorem right_iff (m : Msg) : Right m ↔ RightR m := by
  unfold Right RightR numbersR targetR
  rw [all15, fieldsN_zero]
  simp only [okF, fits, bare, numberR, serialR]
  have hr : m.refs.length = 0 → ∀ x ∈ m.refs, okID x := fun h x hx => by rw [List.eq_nil_of_length_eq_zero h] at hx; cases hx
  have hl : m.list.length = 0 → rise m.list := fun h => by rw [List.eq_nil_of_length_eq_zero h]; exact rise_nil
  generalize hasF m.kind 0 = b0
  generalize hasF m.kind 1 = b1
  generalize hasF m.kind 2 = b2
  generalize hasF m.kind 3 = b3
  generalize hasF m.kind 4 = b4
  generalize hasF m.kind 5 = b5
  generalize hasF m.kind 6 = b6
  generalize hasF m.kind 7 = b7
  generalize hasF m.kind 8 = b8
  generalize hasF m.kind 9 = b9
  generalize hasF m.kind 10 = b10
  generalize hasF m.kind 11 = b11
  generalize hasF m.kind 12 = b12
  generalize hasF m.kind 13 = b13
  generalize hasF m.kind 14 = b14
  constructor
  · rintro ⟨a1, a2, a3, a4, h0, h1, h2, h3, h4, h5, h6, h7, h8, h9, h10, h11, h12, h13, h14⟩
    refine ⟨a1, a2, a3, a4, ⟨⟨h0, h3, h4, h2, h10⟩, ⟨h6, h7, h9⟩, h1, ?_, ?_, ?_⟩, h5, ?_, ?_, ?_, ?_, ?_, ?_⟩
    · cases b11 <;> simp_all
    · cases b8 <;> simp_all
    · cases b13 <;> simp_all
    · cases b12 <;> simp_all
    · cases b12 <;> simp_all
    · cases b14 <;> simp_all
    · cases b14 <;> simp_all
    · cases b12 <;> simp_all
    · cases b14
      · exact hl (by simpa using h14)
      · simp at h14; exact h14.1
  · rintro ⟨a1, a2, a3, a4, ⟨⟨h0, h3, h4, h2, h10⟩, ⟨h6, h7, h9⟩, h1, h11, h8, h13⟩, h5, c1, c2, c3, c4, c5, c6⟩
    refine ⟨a1, a2, a3, a4, h0, h1, h2, h3, h4, h5, h6, h7, ?_, h9, h10, ?_, ?_, ?_, ?_⟩
    · cases b8 <;> simp_all
    · cases b11 <;> simp_all
    · cases b12
      · simp at c1 ⊢; exact c1
      · simp; exact ⟨fun a b h => c5 (a, b) h, c2⟩
    · cases b13 <;> simp_all
    · cases b14
      · simp at c3 ⊢; exact c3
      · simp; exact ⟨c6, c4⟩
end Go.Proofs.YtnjmkhhaodgpbaaX
