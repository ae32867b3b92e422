/- Small number lemmas, and how a choice in a text is gone through. -/
import Derived.Test.YtnjmkhhaodgpbaaXFn
import Derived.IntWalk
namespace Go.Proofs.YtnjmkhhaodgpbaaX
open Go.RowKit
theorem u8b {a : Int} (h : (Lit.int .u8 a).wf = true) : 0 ≤ a ∧ a ≤ 255 := by
  simp [Lit.wf, IntKind.min, IntKind.max, IntKind.signed, IntKind.bits] at h; omega
theorem u16b {a : Int} (h : (Lit.int .u16 a).wf = true) : 0 ≤ a ∧ a ≤ 65535 := by
  simp [Lit.wf, IntKind.min, IntKind.max, IntKind.signed, IntKind.bits] at h; omega
theorem u32b {a : Int} (h : (Lit.int .u32 a).wf = true) : 0 ≤ a ∧ a ≤ 4294967295 := by
  simp [Lit.wf, IntKind.min, IntKind.max, IntKind.signed, IntKind.bits] at h; omega
theorem u64b {a : Int} (h : (Lit.int .u64 a).wf = true) : 0 ≤ a ∧ a ≤ 18446744073709551615 := by
  simp [Lit.wf, IntKind.min, IntKind.max, IntKind.signed, IntKind.bits] at h; omega
theorem i64b {a : Int} (h : (Lit.int .i64 a).wf = true) : -9223372036854775808 ≤ a ∧ a ≤ 9223372036854775807 := by
  simp [Lit.wf, IntKind.min, IntKind.max, IntKind.signed, IntKind.bits] at h; omega
theorem u8w (n : Int) (h : 0 ≤ n) (h' : n ≤ 255) : IntKind.u8.wrap n = n := IntWalk.u8_in n ⟨h, h'⟩
theorem u16w (n : Int) (h : 0 ≤ n) (h' : n ≤ 65535) : IntKind.u16.wrap n = n := IntWalk.u16_in n ⟨h, h'⟩
theorem u32w (n : Int) (h : 0 ≤ n) (h' : n ≤ 4294967295) : IntKind.u32.wrap n = n := IntWalk.u32_in n ⟨h, h'⟩
theorem u64w (n : Int) (h : 0 ≤ n) (h' : n ≤ 18446744073709551615) : IntKind.u64.wrap n = n := IntWalk.u64_in n ⟨h, h'⟩
theorem i64w (n : Int) (h : -9223372036854775808 ≤ n) (h' : n ≤ 9223372036854775807) : IntKind.i64.wrap n = n := IntWalk.i64_in n ⟨h, h'⟩
/-- the remainder by a positive number, as Pick works it out -/
theorem tmod_pick (n m : Int) (hm : 0 < m) : (if Int.tmod n m < 0 then Int.tmod n m + m else Int.tmod n m) = n % m := by
  have h1 := Int.tmod_eq_emod (a := n) (b := m)
  have h2 := Int.emod_nonneg n (by omega : m ≠ 0)
  have h3 := Int.emod_lt_of_pos n hm
  rw [h1]
  split <;> split <;> omega
theorem mulb {a b c d : Int} (h1 : a ≤ c) (h2 : b ≤ d) (h3 : 0 ≤ b) (h4 : 0 ≤ c) : a * b ≤ c * d := Int.mul_le_mul h1 h2 h3 h4
theorem mul0 {a b : Int} (h1 : 0 ≤ a) (h2 : 0 ≤ b) : 0 ≤ a * b := Int.mul_nonneg h1 h2
theorem bc_dec {p : Prop} [Decidable p] {A B : Prop} (h1 : p → A) (h2 : ¬ p → B) : bcase (decide p) A B := by
  by_cases h : p
  · rw [decide_eq_true h]; exact h1 h
  · rw [decide_eq_false h]; exact h2 h
theorem bc_pos {p : Prop} [Decidable p] {A B : Prop} (h : p) (a : A) : bcase (decide p) A B := by rw [decide_eq_true h]; exact a
theorem bc_neg {p : Prop} [Decidable p] {A B : Prop} (h : ¬ p) (b : B) : bcase (decide p) A B := by rw [decide_eq_false h]; exact b
theorem bc_bool {t : Bool} {A B : Prop} (h1 : t = true → A) (h2 : t = false → B) : bcase t A B := by cases t; exact h2 rfl; exact h1 rfl
theorem bc_eq {a b : Int} {A B : Prop} (h1 : a = b → A) (h2 : a ≠ b → B) : bcase (a == b) A B := bc_bool (fun h => h1 (by simpa using h)) (fun h => h2 (by simpa using h))
theorem bc_ne {a b : Int} {A B : Prop} (h1 : a ≠ b → A) (h2 : a = b → B) : bcase (a != b) A B := bc_bool (fun h => h1 (by simpa using h)) (fun h => h2 (by simpa using h))
theorem ld_int {k : IntKind} {w : World} {p : Addr} {x : Int} {K : Int → Prop} (h : w.cell? p = some (.int k x)) (hk : K x) : ldI k w p K := ⟨x, h, hk⟩
theorem opt_some {a : Option Addr} {p : Addr} {K : Addr → Prop} (h : a = some p) (hk : K p) : optP a K := by subst h; exact hk
/-- The numbers of a slice. -/
def IsRow (k : IntKind) (w : World) (a : Option Addr) (len cap : Nat) (zs : List Int) : Prop :=
  (a = none ∧ len = 0 ∧ cap = 0 ∧ zs = []) ∨
  ∃ x, a = some x ∧ len ≤ cap ∧ cap ≤ maxLen ∧ zs.length = cap ∧ (∀ i, i < zs.length → w.cell? (x.add i) = some (.int k (zs.getD i 0))) ∧ ∀ n ∈ zs, (Lit.int k n).wf = true
theorem IsRow.at_ {k : IntKind} {w : World} {a : Option Addr} {len cap : Nat} {zs : List Int} (h : IsRow k w a len cap zs) {i : Nat} (hi : i < len) : ∃ x, a = some x ∧ w.cell? (x.add i) = some (.int k (zs.getD i 0)) ∧ (Lit.int k (zs.getD i 0)).wf = true := by
  rcases h with ⟨_, h, _, _⟩ | ⟨x, hx, hl, _, hz, hc, hw⟩
  · omega
  · have hlt : i < zs.length := by omega
    refine ⟨x, hx, hc i hlt, ?_⟩
    have : zs.getD i 0 = zs[i] := by simp [List.getD_eq_getElem?_getD, hlt]
    rw [this]
    exact hw _ (List.getElem_mem hlt)
end Go.Proofs.YtnjmkhhaodgpbaaX
