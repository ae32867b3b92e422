/- A struct that is stored cell by cell into a block. -/
import Derived.Test.YtnjmkhhaodgpbaaXMem
namespace Go.Proofs.YtnjmkhhaodgpbaaX
open Go.RowKit
set_option linter.unusedVariables false
theorem putAll_blk {e : TypeId} {g : Nat} : ∀ (vs old pre post : List Value) (w : World), Blk w g (pre ++ old ++ post) e → old.length = vs.length → Blk (putAll w (at0 g 0) pre.length vs) g (pre ++ vs ++ post) e ∧ Fr [g] w (putAll w (at0 g 0) pre.length vs)
  | [], old, pre, post, w, h, hl => by
    have : old = [] := List.eq_nil_of_length_eq_zero (by simpa using hl)
    subst this
    exact ⟨h, Fr.refl w⟩
  | v :: vs, [], pre, post, w, h, hl => by simp at hl
  | v :: vs, u :: old, pre, post, w, h, hl => by
    simp only [putAll, add_at, Nat.zero_add]
    have h1 := h.set pre.length v
    rw [List.append_assoc, List.set_append_right _ _ (Nat.le_refl _), Nat.sub_self, List.cons_append, List.set_cons_zero] at h1
    have e1 : pre ++ v :: (old ++ post) = (pre ++ [v]) ++ old ++ post := by simp
    rw [e1] at h1
    obtain ⟨k1, k2⟩ := putAll_blk vs old (pre ++ [v]) post _ h1 (by simpa using hl)
    rw [List.length_append] at k1 k2
    refine ⟨by simpa using k1, ?_⟩
    exact (Fr.setCell (by simp [at0]) v).tr k2
theorem putAll_off {w : World} {g o : Nat} : ∀ (vs : List Value) (i : Nat) (w : World), putAll w (at0 g o) i vs = putAll w (at0 g 0) (o + i) vs
  | [], i, w => rfl
  | v :: vs, i, w => by
    simp only [putAll, add_at, Nat.zero_add]
    rw [putAll_off (w := w) vs (i + 1), Nat.add_assoc]
/-- cells of a block, from o on, are stored anew -/
theorem stAll_blk {e : TypeId} {g o : Nat} {cs vs : List Value} {w : World} {K : World → Prop} (h : Blk w g cs e) (hl : o + vs.length ≤ cs.length)
    (hK : ∀ w', Blk w' g (cs.take o ++ vs ++ cs.drop (o + vs.length)) e → Fr [g] w w' → K w') : stAll w (at0 g o) vs K := by
  have e1 : cs = cs.take o ++ (cs.drop o).take vs.length ++ cs.drop (o + vs.length) := by
    rw [List.append_assoc, ← List.drop_drop, List.take_append_drop, List.take_append_drop]
  have ho : (cs.take o).length = o := by simp; omega
  refine ⟨fun i hi => ?_, ?_⟩
  · rw [add_at]; exact h.storeOk (by omega)
  · rw [putAll_off (w := w)]
    have h2 := h
    rw [e1] at h2
    obtain ⟨k1, k2⟩ := putAll_blk vs ((cs.drop o).take vs.length) (cs.take o) (cs.drop (o + vs.length)) w h2 (by simp; omega)
    rw [ho] at k1 k2
    exact hK _ k1 k2
end Go.Proofs.YtnjmkhhaodgpbaaX
