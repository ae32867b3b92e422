/- An owner's heap and rows, in plain Lean: the places. -/
import Derived.Test.YtnjmkhhaodgpbaaTMoreSC
import Derived.Test.YtnjmkhhaodgpbaaQFits
import Derived.Test.YtnjmkhhaodgpbaaXMapU
import Derived.Test.YtnjmkhhaodgpbaaXT2
namespace Go.Proofs.YtnjmkhhaodgpbaaX
open Go.RowKit
set_option linter.unusedVariables false
set_option linter.unusedSimpArgs false
set_option maxRecDepth 100000
/-- the first place that is free in a block; how many are taken -/
def lz (t : Nat) : Nat := ((List.range 8).find? fun k => !t.testBit k).getD 8
def pop (t : Nat) : Nat := ((List.range 8).filter fun k => t.testBit k).length
def clsB (t : Nat) : Int := if t = 0 then 0 else 2
def fitB (t : Nat) : Bool := decide (t ≠ 0) && decide (t ≠ 255)
theorem lz_dec : ∀ t : Fin 255, lz t.val < 8 ∧ t.val.testBit (lz t.val) = false ∧ (∀ j : Fin 8, j.val < lz t.val → t.val.testBit j.val = true) := by decide +kernel
theorem bit_dec : ∀ t : Fin 256, ∀ k : Fin 8, ((iAnd .u16 (iShr .u16 (t.val : Int) (k.val : Int)) 1) == 1) = t.val.testBit k.val := by decide +kernel
theorem set_dec : ∀ t : Fin 256, ∀ k : Fin 8, t.val.testBit k.val = false → iOr .u16 (t.val : Int) (iShl .u16 1 (k.val : Int)) = ((t.val + 2 ^ k.val : Nat) : Int) ∧ t.val + 2 ^ k.val ≤ 255 ∧ t.val + 2 ^ k.val ≠ 0 ∧ pop (t.val + 2 ^ k.val) = pop t.val + 1 := by decide +kernel
theorem clr_dec : ∀ t : Fin 256, ∀ k : Fin 8, t.val.testBit k.val = true → iAndNot .u16 (t.val : Int) (iShl .u16 1 (k.val : Int)) = ((t.val - 2 ^ k.val : Nat) : Int) ∧ pop t.val = pop (t.val - 2 ^ k.val) + 1 := by decide +kernel
theorem setbit_dec : ∀ t : Fin 256, ∀ k j : Fin 8, t.val.testBit k.val = false → (t.val + 2 ^ k.val).testBit j.val = (decide (j = k) || t.val.testBit j.val) := by decide +kernel
theorem clrbit_dec : ∀ t : Fin 256, ∀ k j : Fin 8, t.val.testBit k.val = true → (t.val - 2 ^ k.val).testBit j.val = (!decide (j = k) && t.val.testBit j.val) := by decide +kernel
theorem pop_full : pop 255 = 8 := by decide +kernel
theorem pop_zero : pop 0 = 0 := by decide +kernel
theorem pop_le (t : Nat) : pop t ≤ 8 := by
  unfold pop
  exact Nat.le_trans (List.length_filter_le _ _) (by simp)
theorem lz_lt {t : Nat} (h : t < 255) : lz t < 8 ∧ t.testBit (lz t) = false ∧ ∀ j, j < lz t → t.testBit j = true := by
  have := lz_dec ⟨t, h⟩
  have h1 : lz t < 8 := this.1
  exact ⟨h1, this.2.1, fun j hj => this.2.2 ⟨j, by omega⟩ hj⟩
theorem bit_eq {t k : Nat} (h : t ≤ 255) (hk : k < 8) : ((iAnd .u16 (iShr .u16 (t : Int) (k : Int)) 1) == 1) = t.testBit k := bit_dec ⟨t, by omega⟩ ⟨k, hk⟩
theorem set_eq {t k : Nat} (h : t ≤ 255) (hk : k < 8) (hb : t.testBit k = false) : iOr .u16 (t : Int) (iShl .u16 1 (k : Int)) = ((t + 2 ^ k : Nat) : Int) ∧ t + 2 ^ k ≤ 255 ∧ t + 2 ^ k ≠ 0 ∧ pop (t + 2 ^ k) = pop t + 1 := set_dec ⟨t, by omega⟩ ⟨k, hk⟩ hb
theorem clr_eq {t k : Nat} (h : t ≤ 255) (hk : k < 8) (hb : t.testBit k = true) : iAndNot .u16 (t : Int) (iShl .u16 1 (k : Int)) = ((t - 2 ^ k : Nat) : Int) ∧ pop t = pop (t - 2 ^ k) + 1 := clr_dec ⟨t, by omega⟩ ⟨k, hk⟩ hb
theorem setbit_eq {t k j : Nat} (h : t ≤ 255) (hk : k < 8) (hj : j < 8) (hb : t.testBit k = false) : (t + 2 ^ k).testBit j = (decide (j = k) || t.testBit j) := by
  have := setbit_dec ⟨t, by omega⟩ ⟨k, hk⟩ ⟨j, hj⟩ hb
  simpa [Fin.ext_iff] using this
theorem clrbit_eq {t k j : Nat} (h : t ≤ 255) (hk : k < 8) (hj : j < 8) (hb : t.testBit k = true) : (t - 2 ^ k).testBit j = (!decide (j = k) && t.testBit j) := by
  have := clrbit_dec ⟨t, by omega⟩ ⟨k, hk⟩ ⟨j, hj⟩ hb
  simpa [Fin.ext_iff] using this
/-- the block that is taken from -/
def allocB (ts : List Nat) : Option Nat := (ts.findIdx? fitB).or (ts.findIdx? fun t => decide (t = 0))
def bitAt (ts : List Nat) (b k : Nat) : Bool := (ts.getD b 0).testBit k
def setAt (ts : List Nat) (b k : Nat) : List Nat := ts.set b (ts.getD b 0 + 2 ^ k)
def clrAt (ts : List Nat) (b k : Nat) : List Nat := ts.set b (ts.getD b 0 - 2 ^ k)
/-- places of a heap of 16 blocks -/
structure TsI (ts : List Nat) : Prop where
  len : ts.length = 16
  le : ∀ t ∈ ts, t ≤ 255
section
variable {ts : List Nat} {b k j c : Nat}
theorem TsI.at_ (h : TsI ts) (b : Nat) : ts.getD b 0 ≤ 255 := by
  rw [List.getD_eq_getElem?_getD]
  cases hb : ts[b]? with
  | none => simp
  | some t => exact h.le t (List.mem_of_getElem? hb)
theorem getD_set {l : List Nat} {i j v : Nat} (hi : i < l.length) : (l.set i v).getD j 0 = if i = j then v else l.getD j 0 := by
  rw [List.getD_eq_getElem?_getD, List.getD_eq_getElem?_getD, List.getElem?_set]
  by_cases h : i = j
  · subst h
    rw [if_pos rfl, if_pos hi, if_pos rfl]
    rfl
  · rw [if_neg h, if_neg h]
theorem sum_set : ∀ {l : List Nat} {i v : Nat}, i < l.length → ((l.set i v).map pop).sum + pop (l.getD i 0) = (l.map pop).sum + pop v
  | [], i, v, h => by simp at h
  | a :: l, 0, v, h => by simp; omega
  | a :: l, i + 1, v, h => by
    have := sum_set (l := l) (i := i) (v := v) (by simpa using h)
    simp only [List.set_cons_succ, List.map_cons, List.sum_cons, List.getD_cons_succ]
    omega
theorem TsI.set (h : TsI ts) (hb : b < 16) (hk : k < 8) (hf : bitAt ts b k = false) : TsI (setAt ts b k) ∧ ((setAt ts b k).map pop).sum = (ts.map pop).sum + 1 ∧ (∀ c j, j < 8 → bitAt (setAt ts b k) c j = (decide (c = b ∧ j = k) || bitAt ts c j)) := by
  have hl := h.len
  have ht := h.at_ b
  obtain ⟨e1, e2, e3, e4⟩ := set_eq ht hk hf
  have hs := sum_set (l := ts) (i := b) (v := ts.getD b 0 + 2 ^ k) (by omega)
  refine ⟨⟨by unfold setAt; rw [List.length_set]; exact hl, fun t hm => ?_⟩, by unfold setAt; omega, fun c j hj => ?_⟩
  · rcases List.mem_or_eq_of_mem_set hm with h' | h'
    · exact h.le t h'
    · omega
  · unfold bitAt setAt
    rw [getD_set (by omega)]
    by_cases hc : b = c
    · subst hc
      rw [if_pos rfl, setbit_eq ht hk hj hf]
      simp
    · rw [if_neg hc]
      simp [show ¬ c = b from fun e => hc e.symm]
theorem TsI.clr (h : TsI ts) (hb : b < 16) (hk : k < 8) (hf : bitAt ts b k = true) : TsI (clrAt ts b k) ∧ ((clrAt ts b k).map pop).sum + 1 = (ts.map pop).sum ∧ (∀ c j, j < 8 → bitAt (clrAt ts b k) c j = (!decide (c = b ∧ j = k) && bitAt ts c j)) := by
  have hl := h.len
  have ht := h.at_ b
  obtain ⟨e1, e4⟩ := clr_eq ht hk hf
  have hs := sum_set (l := ts) (i := b) (v := ts.getD b 0 - 2 ^ k) (by omega)
  refine ⟨⟨by unfold clrAt; rw [List.length_set]; exact hl, fun t hm => ?_⟩, by unfold clrAt; omega, fun c j hj => ?_⟩
  · rcases List.mem_or_eq_of_mem_set hm with h' | h'
    · exact h.le t h'
    · rw [h']
      exact Nat.le_trans (Nat.sub_le _ _) ht
  · unfold bitAt clrAt
    rw [getD_set (by omega)]
    by_cases hc : b = c
    · subst hc
      rw [if_pos rfl, clrbit_eq ht hk hj hf]
      simp
    · rw [if_neg hc]
      simp [show ¬ c = b from fun e => hc e.symm]
theorem sum_full : ∀ {l : List Nat}, (∀ t ∈ l, t = 255) → (l.map pop).sum = l.length * 8
  | [], _ => rfl
  | a :: l, h => by
    have := sum_full (l := l) fun t ht => h t (by simp [ht])
    have ha := h a (by simp)
    subst ha
    simp only [List.map_cons, List.sum_cons, List.length_cons, pop_full]
    omega
/-- while few places are taken, there is one more -/
theorem alloc_ok (h : TsI ts) (hp : (ts.map pop).sum < 128) : ∃ b, allocB ts = some b ∧ b < 16 ∧ ts.getD b 0 < 255 := by
  have hl := h.len
  unfold allocB
  cases h1 : ts.findIdx? fitB with
  | some b =>
    obtain ⟨hlt, hf, _⟩ := List.findIdx?_eq_some_iff_getElem.1 h1
    refine ⟨b, rfl, by omega, ?_⟩
    unfold fitB at hf
    simp at hf
    have := h.le _ (List.getElem_mem hlt)
    rw [List.getD_eq_getElem?_getD, List.getElem?_eq_getElem hlt]
    simp only [Option.getD_some]
    omega
  | none =>
    cases h2 : ts.findIdx? (fun t => decide (t = 0)) with
    | some b =>
      obtain ⟨hlt, hf, _⟩ := List.findIdx?_eq_some_iff_getElem.1 h2
      refine ⟨b, rfl, by omega, ?_⟩
      simp at hf
      rw [List.getD_eq_getElem?_getD, List.getElem?_eq_getElem hlt]
      simp only [Option.getD_some]
      omega
    | none =>
      exfalso
      rw [List.findIdx?_eq_none_iff] at h1 h2
      have : ∀ t ∈ ts, t = 255 := fun t ht => by
        have a1 := h1 t ht
        have a2 := h2 t ht
        unfold fitB at a1
        simp at a1 a2
        exact a1 a2
      have := sum_full this
      omega
end
end Go.Proofs.YtnjmkhhaodgpbaaX
