/- Structs by value: as they lie, are made, are stored. -/
import Derived.Test.YtnjmkhhaodgpbaaXAll
import Derived.Test.YtnjmkhhaodgpbaaXSlices
import Derived.Test.YtnjmkhhaodgpbaaPTab
namespace Go.Proofs.YtnjmkhhaodgpbaaX
open Go.RowKit
set_option linter.unusedVariables false
set_option linter.unusedSimpArgs false
/-- cells lie from an address on -/
def At (w : World) (p : Addr) (cs : List Value) : Prop := ∀ j u, cs[j]? = some u → w.cell? (p.add j) = some u
section
variable {w w' a b c : World} {g o i : Nat} {cs vs : List Value} {e : TypeId} {S T : List Nat}
theorem Blk.cat (h : Blk w g cs e) : At w (at0 g 0) cs := fun j u hj => by rw [add_at, Nat.zero_add]; exact h.cell hj
theorem Blk.off (h : Blk w g cs e) (o : Nat) (hv : (cs.drop o).take vs.length = vs) : At w (at0 g o) vs := fun j u hj => by
  rw [add_at]
  refine h.cell ?_
  rw [← hv, List.getElem?_take] at hj
  split at hj
  · rwa [List.getElem?_drop] at hj
  · cases hj
theorem At.keep {p : Addr} (h : At w p cs) (f : Fr S w w') (hn : p.block ∉ S) : At w' p cs := fun j u hj => f.cell (h j u hj) (by rw [add_block]; exact hn)
theorem At.keep' {p : Addr} (h : At w p cs) (f : Fr [] w w') : At w' p cs := h.keep f (by simp)
theorem Fr.loc (h : Fr S a b) (k : Fr [g] b c) (hg : a.heap.size ≤ g) : Fr S a c := h.trans k (fun x hx => .inr (by simp at hx; omega))
theorem Fr.inl (h : Fr S a b) (k : Fr [g] b c) (hg : g ∈ S) : Fr S a c := h.trans k (fun x hx => .inl (by simp at hx; subst hx; exact hg))
theorem Fr.sub (h : Fr S a b) (k : Fr T b c) (hT : ∀ x ∈ T, x ∈ S) : Fr S a c := h.trans k (fun x hx => .inl (hT x hx))
theorem Fr.news (h : Fr S a b) (k : Fr T b c) (hT : ∀ x ∈ T, a.heap.size ≤ x) : Fr S a c := h.trans k (fun x hx => .inr (hT x hx))
/-- a new block -/
theorem newB {cs : Array Value} {K : Addr → World → Prop} (h : ∀ g w', Blk w' g cs.toList e → Fr [] w w' → w.heap.size ≤ g → K (at0 g 0) w') : newK w cs e K :=
  h w.heap.size _ (Blk.made w cs e) (Fr.alloc _ _) (Nat.le_refl _)
theorem stB {v : Value} {K : World → Prop} (h : Blk w g cs e) (hi : i < cs.length) (hK : ∀ w', Blk w' g (cs.set i v) e → Fr [g] w w' → K w') : stK w ((at0 g 0).add i) v K := by
  rw [add_at, Nat.zero_add]
  exact ⟨h.storeOk hi, hK _ (h.set i v) (Fr.setCell (by simp [at0]) v)⟩
theorem stAllB {K : World → Prop} (h : Blk w g cs e) (hl : vs.length = cs.length) (hK : ∀ w', Blk w' g vs e → Fr [g] w w' → K w') : stAll w (at0 g 0) vs K :=
  stAll_blk (o := 0) h (by omega) fun w' b f => hK w' (by rw [hl] at b; simpa using b) f
theorem drawn {K : World → Prop} (h : ∀ w', Fr [] w w' → w'.heap.size = w.heap.size → K w') : drewK w K := h _ Fr.drew rfl
end

section
variable {β : Type} {f : β → List Value} {Z : Nat} (hf : ∀ v, (f v).length = Z)
include hf
theorem flat_set (l : List β) {i : Nat} (hi : i < l.length) (v : β) : (l.set i v).flatMap f = (l.flatMap f).take (i * Z) ++ f v ++ (l.flatMap f).drop ((i + 1) * Z) := by
  rw [flat_take hf, flat_drop hf, List.set_eq_take_append_cons_drop, if_pos hi]
  simp
theorem own_at {e : TypeId} {w : World} {p : Option Addr} {n c : Nat} {l : List β} (h : Own e Z w p n c (l.flatMap f)) (hn : l.length = n) {i : Nat} {v : β} (hi : l[i]? = some v) : ∃ a, p = some a ∧ At w (a.add (i * Z)) (f v) := by
  have hl := (List.getElem?_eq_some_iff.1 hi).1
  cases p with
  | none => have := h.none_c.1; omega
  | some a =>
    refine ⟨a, rfl, fun j u hj => ?_⟩
    obtain ⟨q, hq, hc⟩ := h.cells _ _ (flat_get hf l hi hj)
    injection hq with hq
    subst hq
    rw [add_add]
    exact hc
omit hf in
theorem put_mid {cur fv : List Value} {a N z : Nat} (h1 : fv.length = z) (h2 : a + z ≤ N) (h3 : N ≤ cur.length) :
    (cur.take a ++ fv ++ cur.drop (a + z)).take N = (cur.take N).take a ++ fv ++ (cur.take N).drop (a + z) := by
  have hA : (cur.take a ++ fv).length = a + z := by rw [List.length_append, List.length_take]; omega
  rw [List.take_append, List.take_of_length_le (by omega), hA, List.take_take, Nat.min_eq_left (by omega), List.drop_take]
theorem own_put {e : TypeId} {w : World} {p : Option Addr} {n c : Nat} {l : List β} {K : World → Prop} (h : Own e Z w p n c (l.flatMap f)) {i : Nat} (hi : i < l.length) (hn : l.length = n) (v : β)
    (hK : ∀ w', Own e Z w' p n c ((l.set i v).flatMap f) → Fr (fbl p) w w' → K w') : optP p fun a => stAll w (a.add (i * Z)) (f v) K := by
  cases p with
  | none => have := h.none_c.1; omega
  | some a =>
    have hm := own_max h
    have hle := h.le
    obtain ⟨g, cur, rfl, hb, hcl, htk⟩ := Own.blk h
    refine opt_some rfl ?_
    rw [add_at, Nat.zero_add]
    have hiz : i * Z + Z ≤ n * Z := by rw [← Nat.succ_mul]; exact Nat.mul_le_mul_right _ (by omega)
    have hnz : n * Z ≤ c * Z := Nat.mul_le_mul_right _ hle
    have hfv := hf v
    refine stAll_blk hb (by omega) fun w' b fr => hK w' (own_blk b ?_ hle hm ?_) (fr.mono fun x hx => by simpa [fbl, at0] using hx)
    · simp only [List.length_append, List.length_take, List.length_drop]; omega
    · rw [flat_set hf l hi, hfv]
      have e1 : (i + 1) * Z = i * Z + Z := Nat.succ_mul i Z
      rw [e1, ← htk]
      exact put_mid hfv (by omega) (by omega)
end
end Go.Proofs.YtnjmkhhaodgpbaaX
