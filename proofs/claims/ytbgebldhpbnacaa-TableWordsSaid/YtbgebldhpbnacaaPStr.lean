/- The order of texts is strict and total. -/
import Derived.Test.YtbgebldhpbnacaaPTab
namespace Go.Proofs.YtbgebldhpbnacaaX
set_option linter.unusedVariables false
set_option linter.unusedSimpArgs false
theorem toList_data (a : ByteArray) : a.toList = a.data.toList := by
  have key : ∀ (n i : Nat) (r : List UInt8), a.size - i = n → ByteArray.toList.loop a i r = r.reverse ++ a.data.toList.drop i := by
    intro n
    induction n with
    | zero =>
      intro i r h
      unfold ByteArray.toList.loop
      rw [if_neg (by omega), List.drop_eq_nil_of_le (by rw [Array.length_toList]; show a.size ≤ i; omega), List.append_nil]
    | succ n ih =>
      intro i r h
      unfold ByteArray.toList.loop
      have hlt : i < a.data.size := by show i < a.size; omega
      rw [if_pos (by omega), ih (i + 1) _ (by omega), ← List.getElem_cons_drop (as := a.data.toList) (i := i) (by simpa using hlt)]
      simp [ByteArray.get!, getElem!_pos a.data i hlt]
  have := key a.size 0 [] (by omega)
  simpa [ByteArray.toList] using this
theorem toList_inj {a b : ByteArray} (h : a.toList = b.toList) : a = b := by
  rw [toList_data, toList_data] at h
  cases a; cases b
  congr 1
  exact Array.ext' h
theorem strEq_iff {a b : ByteArray} : strEq a b = decide (a = b) := by
  unfold strEq
  by_cases h : a = b
  · subst h; simp
  · have : a.toList ≠ b.toList := fun e => h (toList_inj e)
    simp [h, this]
theorem less_irr : ∀ x : List UInt8, Op.bytesLess x x = false
  | [] => rfl
  | a :: x => by simp [Op.bytesLess, less_irr x]
theorem less_tr : ∀ x y z : List UInt8, Op.bytesLess x y = true → Op.bytesLess y z = true → Op.bytesLess x z = true
  | _, [], _, h, _ => by cases ‹List UInt8› <;> simp [Op.bytesLess] at h
  | _, _ :: _, [], _, h => by simp [Op.bytesLess] at h
  | [], _ :: _, _ :: _, _, _ => rfl
  | a :: x, b :: y, c :: z, h, k => by
    simp only [Op.bytesLess, Bool.or_eq_true, decide_eq_true_eq, Bool.and_eq_true, beq_iff_eq] at *
    rcases h with h | ⟨rfl, h⟩ <;> rcases k with k | ⟨rfl, k⟩
    · left; exact UInt8.lt_trans h k
    · left; exact h
    · left; exact k
    · right; exact ⟨rfl, less_tr x y z h k⟩
theorem less_tot : ∀ x y : List UInt8, Op.bytesLess x y = false → Op.bytesLess y x = false → x = y
  | [], [], _, _ => rfl
  | [], _ :: _, h, _ => by simp [Op.bytesLess] at h
  | _ :: _, [], _, h => by simp [Op.bytesLess] at h
  | a :: x, b :: y, h, k => by
    simp only [Op.bytesLess, Bool.or_eq_false_iff, decide_eq_false_iff_not, Bool.and_eq_false_iff, beq_eq_false_iff_ne] at *
    have hab : a = b := UInt8.le_antisymm (UInt8.not_lt.1 k.1) (UInt8.not_lt.1 h.1)
    subst hab
    have := less_tot x y (h.2.resolve_left (by simp)) (k.2.resolve_left (by simp))
    rw [this]
theorem strLt_lin : Lin strLt := ⟨fun a => less_irr _, fun a b c => less_tr _ _ _, fun a b h k => toList_inj (less_tot _ _ h k)⟩
theorem bc_streq {a b : ByteArray} {A B : Prop} (h1 : a = b → A) (h2 : a ≠ b → B) : bcase (strEq a b) A B := by
  rw [strEq_iff]
  exact bc_dec h1 h2
end Go.Proofs.YtbgebldhpbnacaaX
