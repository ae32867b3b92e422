/- Rows cut, joined, told cell by cell: generic. -/
import Derived.Test.YtnjmkhhaodgpbaaXStruct
namespace Go.Proofs.YtnjmkhhaodgpbaaX
open Go.RowKit
set_option linter.unusedVariables false
set_option linter.unusedSimpArgs false
theorem cells_cut {Z c i n : Nat} {w : World} {p : Option Addr} {xs : List Value} (h : Cells w p xs) (hl : xs.length = n * Z) (hi : i ≤ n) (hc : n ≤ c) (h0 : p = none → c = 0) : Cells w (cutAt Z c i p) (xs.drop (i * Z)) ∧ (cutAt Z c i p = none → c - i = 0) := by
  unfold cutAt
  split
  · rename_i he
    have : i = n := by omega
    subst this
    rw [List.drop_eq_nil_of_le (by omega)]
    exact ⟨fun j u hj => by simp at hj, fun _ => by omega⟩
  · cases p with
    | none =>
      refine ⟨fun j u hj => ?_, fun _ => by have := h0 rfl; omega⟩
      rw [List.getElem?_drop] at hj
      obtain ⟨q, hq, _⟩ := h _ _ hj
      cases hq
    | some a =>
      refine ⟨fun j u hj => ?_, fun h => by cases h⟩
      rw [List.getElem?_drop] at hj
      obtain ⟨q, hq, hq2⟩ := h _ _ hj
      injection hq with hq
      subst hq
      exact ⟨_, rfl, by rw [add_add]; exact hq2⟩
theorem cells_take {w : World} {p : Option Addr} {xs : List Value} (h : Cells w p xs) (k : Nat) : Cells w p (xs.take k) := fun j u hj => by
  rw [List.getElem?_take] at hj
  split at hj
  · exact h j u hj
  · cases hj
theorem app_step {P : Program} {t e ty : TypeId} {Z B : Nat} (hT : RowT P t e Z B) {W w : World} {sp x : Option Addr} {sn sc k kc : Nat} {xs ys : List Value} {K : Option Addr → Nat → Nat → World → Prop} (o : Own e Z w sp sn sc xs) (hy : Cells w x ys) (hl : ys.length = k * Z) (h0 : x = none → kc = 0)
    (h1 : ∀ u ∈ ys, u.oneCell' = true) (hn : sn + k ≤ 1000000) (hB : B ≤ 1000) (hs : ∀ k ∈ fbl sp, W.heap.size ≤ k) (f : Fr [] W w)
    (hK : ∀ p c w', Own e Z w' p (sn + k) c (xs ++ ys) → (∀ k ∈ fbl p, W.heap.size ≤ k) → Fr [] W w' → Fr (fbl sp) w w' → K p (sn + k) c w') :
    RunR P (Builtin.append_ #[t, t] ty #[.slice sp sn sc, .slice x k kc]) w fun v w' => ∃ (p : Option Addr) (n c : Nat), v = .slice p n c ∧ K p n c w' := by
  have hsz := f.size
  refine app_own hT o hy hl h0 h1 (by simp only [maxLen]; omega) (Nat.le_trans (Nat.mul_le_mul hn hB) (by omega)) ?_
  intro p' c' w' o' f' e'
  exact ⟨p', sn + k, c', rfl, hK p' c' w' o' (fun j hj => by rcases e' j hj with h | h; exact hs j h; omega) (f.trans f' (fun j hj => .inr (hs j hj))) f'⟩
theorem set_same {α : Type} {l : List α} {i : Nat} {v : α} (h : l[i]? = some v) : l.set i v = l := by
  obtain ⟨h1, h2⟩ := List.getElem?_eq_some_iff.1 h
  rw [← h2, List.set_getElem_self]
theorem stO {w : World} {g o i : Nat} {cs : List Value} {e : TypeId} {v : Value} {K : World → Prop} (h : Blk w g cs e) (hi : o + i < cs.length) (hK : ∀ w', Blk w' g (cs.set (o + i) v) e → Fr [g] w w' → K w') : stK w ((at0 g o).add i) v K := by
  rw [add_at]
  exact ⟨h.storeOk hi, hK _ (h.set _ v) (Fr.setCell (by simp [at0]) v)⟩
theorem cells_one {w : World} {g : Nat} {cs : List Value} {e : TypeId} (h : Blk w g cs e) : Cells w (some (at0 g 0)) cs := fun j u hj => ⟨_, rfl, h.cat j u hj⟩
theorem some_ne {a : Addr} {P : Prop} : some a = none → P := fun h => by cases h
theorem one_take {xs : List Value} (h : ∀ u ∈ xs, u.oneCell' = true) (n : Nat) : ∀ u ∈ xs.take n, u.oneCell' = true := fun u hu => h u (List.mem_of_mem_take hu)
theorem one_drop {xs : List Value} (h : ∀ u ∈ xs, u.oneCell' = true) (n : Nat) : ∀ u ∈ xs.drop n, u.oneCell' = true := fun u hu => h u (List.mem_of_mem_drop hu)
end Go.Proofs.YtnjmkhhaodgpbaaX
