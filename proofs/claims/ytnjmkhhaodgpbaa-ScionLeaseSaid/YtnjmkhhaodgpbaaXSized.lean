/- How much an argument may be: of each slice in it, at any depth of structs. -/
import Derived.Test.YtnjmkhhaodgpbaaXLies
namespace Go.Proofs.YtnjmkhhaodgpbaaX
set_option linter.unusedVariables false
section
variable {H : Type} {P : Program} {ts : List TypeId} {ds : List (DataW H)} {t e : TypeId} {d : DataW H}
/-- an argument's weights are what a machine holds -/
def SizedD (P : Program) (t : TypeId) (d : DataW H) : Prop := (d.weights P t).all (· ≤ reachBytes) = true
theorem sized_at : ∀ {ts : List TypeId} {ds : List (DataW H)} {j : Nat}, (DataW.weightsEach P ts ds).all (· ≤ reachBytes) = true → ts[j]? = some t → ds[j]? = some d → SizedD P t d
  | [], _, j, h, ht, _ => by simp at ht
  | _ :: _, [], j, h, _, hd => by simp at hd
  | t' :: ts, d' :: ds, j, h, ht, hd => by
    rw [DataW.weightsEach, List.all_append, Bool.and_eq_true] at h
    cases j with
    | zero => simp at ht hd; subst ht; subst hd; exact h.1
    | succ j => exact sized_at h.2 (by simpa using ht) (by simpa using hd)
theorem sized_field {fs : Array Field} {parts : List (DataW H)} {i : Nat} {f : Field} {y : DataW H} (hu : P.underlying t = some (.struct fs)) (h : SizedD P t (.agg parts)) (hf : fs[i]? = some f) (hy : parts[i]? = some y) : SizedD P f.type y := by
  unfold SizedD at h
  simp only [DataW.weights, hu] at h
  exact sized_at (j := i) h (by simp [hf]) hy
theorem sized_len {elems spare : List (DataW H)} (hu : P.underlying t = some (.slice e)) (h : SizedD P t (.slice elems spare)) : (elems.length + spare.length) * P.bytesOf e ≤ 140737488351232 := by
  unfold SizedD at h
  simp only [DataW.weights, hu, List.all_cons, Bool.and_eq_true, decide_eq_true_eq] at h
  exact h.1
theorem sized_all {y : DataW H} : ∀ {elems : List (DataW H)}, (DataW.weightsAll P e elems).all (· ≤ reachBytes) = true → y ∈ elems → SizedD P e y
  | [], _, hm => by cases hm
  | a :: l, h, hm => by
    rw [DataW.weightsAll, List.all_append, Bool.and_eq_true] at h
    rcases List.mem_cons.1 hm with rfl | hm
    · exact h.1
    · exact sized_all h.2 hm
theorem sized_elem {elems spare : List (DataW H)} {y : DataW H} (hu : P.underlying t = some (.slice e)) (h : SizedD P t (.slice elems spare)) (hm : y ∈ elems) : SizedD P e y := by
  unfold SizedD at h
  simp only [DataW.weights, hu, List.all_cons, List.all_append, Bool.and_eq_true] at h
  exact sized_all h.2.1 hm
end
end Go.Proofs.YtnjmkhhaodgpbaaX
