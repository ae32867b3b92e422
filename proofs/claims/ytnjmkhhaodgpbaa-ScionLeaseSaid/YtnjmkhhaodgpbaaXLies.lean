/- What an argument's reading says of the memory, however deep: numbers, bools, strings, slices, structs. -/
import Derived.Test.YtnjmkhhaodgpbaaXRow
import Derived.Deep.Slices
namespace Go.Proofs.YtnjmkhhaodgpbaaX
open Go.ChangeShapes Go.WideShapes Go.RowKit
set_option linter.unusedVariables false
/-- n levels of what these cells of type t hold, and the reading d of them. -/
def Lies {H : Type} (P : Program) (w : World) : Nat → TypeId → List Value → DataW H → Prop
  | 0, _, _, _ => True
  | n + 1, t, cs, d => match P.underlying t with
    | some (.int k) => ∃ x, cs = [.int k x] ∧ d = .lit (.int k x) ∧ (Lit.int k x).wf = true
    | some .bool => ∃ b, cs = [.bool b] ∧ d = .lit (.bool b)
    | some .string => ∃ s : ByteArray, cs = [.string s] ∧ d = .lit (.string s.data.toList) ∧ s.size ≤ maxLen
    | some (.slice e) => (cs = [.slice none 0 0] ∧ d = .nil) ∨ ∃ (a : Addr) (len cap : Nat) (elems rest : List (DataW H)), cs = [.slice (some a) len cap] ∧ d = .slice elems rest ∧ len ≤ cap ∧ cap ≤ maxLen ∧ elems.length = len ∧
        ∀ i y, elems[i]? = some y → ∃ cs' : List Value, cs'.length = P.cellsOf e ∧ (∀ j u, cs'[j]? = some u → w.cell? (a.add (i * P.cellsOf e + j)) = some u) ∧ Lies P w n e cs' y
    | some (.struct fs) => cs.length = P.cellsOf t ∧ ∃ ds : List (DataW H), d = .agg ds ∧ ds.length = fs.size ∧ ∀ (i : Nat) (f : Field) (y : DataW H), fs[i]? = some f → ds[i]? = some y → Lies P w n f.type ((cs.drop f.offset).take (P.cellsOf f.type)) y
    | _ => True
theorem lies_of_trod {H : Type} {enc : TypeId × Value → H} {P : Program} {w : World} {base : Nat} {spare : Nat → Bool} {held : Bool} : ∀ (n m : Nat) (t : TypeId) (cs : List Value) (x : DataW H × List MemPlace),
    DataW.trod enc P w base spare held m t cs = some x → Lies P w n t cs x.1
  | 0, _, _, _, _, _ => trivial
  | n + 1, m, t, cs, x, h => by
    unfold Lies
    split
    · rename_i k hu
      obtain ⟨y, rfl, hx, hw⟩ := DataW.trod_int hu h
      exact ⟨y, rfl, by rw [hx], hw⟩
    · rename_i hu
      obtain ⟨b, rfl, hx⟩ := DataW.trod_bool hu h
      exact ⟨b, rfl, by rw [hx]⟩
    · rename_i hu
      obtain ⟨s, rfl, hx, hs⟩ := DataW.trod_string hu h
      exact ⟨s, rfl, by rw [hx], hs⟩
    · rename_i e hu
      rcases DataW.trod_slice hu h with ⟨h1, h2⟩ | ⟨a, len, cap, elems, rest, n', _, rfl, hx, _, hl, hm, hlen, hel, _, _⟩
      · exact .inl ⟨h1, by rw [h2]⟩
      · refine .inr ⟨a, len, cap, _, _, rfl, by rw [hx], hl, hm, by simpa using hlen, fun i y hy => ?_⟩
        rw [List.getElem?_map] at hy
        have hlt : i < len := by
          cases he : elems[i]? with
          | none => rw [he] at hy; cases hy
          | some z => have := (List.getElem?_eq_some_iff.1 he).1; omega
        have hi := hel i hlt
        cases he : elems[i]? with
        | none => rw [he] at hy; cases hy
        | some z =>
          rw [he] at hy hi
          simp at hy
          subst hy
          obtain ⟨cs', h1, h2⟩ := Option.bind_eq_some_iff.1 hi
          obtain ⟨_, hcl, hcell⟩ := World.cells?_some h1
          refine ⟨cs', hcl, fun j u hj => ?_, lies_of_trod n n' e cs' z h2⟩
          have hjl : j < P.cellsOf e := by rw [← hcl]; exact (List.getElem?_eq_some_iff.1 hj).1
          have := hcell j hjl
          rw [add_add] at this
          rw [this, hj]
    · rename_i fs hu
      obtain ⟨xs, n', _, hx, hcl, hxl, hf⟩ := DataW.trod_struct hu h
      refine ⟨hcl, xs.map (·.1), by rw [hx], by simpa using hxl, fun i f y hfi hy => ?_⟩
      rw [List.getElem?_map] at hy
      have hi := hf i f hfi
      cases he : xs[i]? with
      | none => rw [he] at hy; cases hy
      | some z =>
        rw [he] at hy hi
        simp at hy
        subst hy
        exact lies_of_trod n n' _ _ z hi
    · trivial
/-- One thing for each element. -/
theorem list_of {α β : Type} {R : Nat → α → β → Prop} : ∀ (l : List α) (k : Nat), (∀ i y, l[i]? = some y → ∃ z, R (k + i) y z) → ∃ zs : List β, zs.length = l.length ∧ ∀ i y z, l[i]? = some y → zs[i]? = some z → R (k + i) y z
  | [], k, _ => ⟨[], rfl, by simp⟩
  | a :: l, k, h => by
    obtain ⟨z, hz⟩ := h 0 a rfl
    obtain ⟨zs, hl, hr⟩ := list_of l (k + 1) (fun i y hy => by
      have := h (i + 1) y (by simpa using hy)
      rwa [show k + (i + 1) = k + 1 + i by omega] at this)
    refine ⟨z :: zs, by simp [hl], fun i y z' hy hz' => ?_⟩
    cases i with
    | zero => simp at hy hz'; subst hy; subst hz'; exact hz
    | succ i =>
      have := hr i y z' (by simpa using hy) (by simpa using hz')
      rwa [show k + 1 + i = k + (i + 1) by omega] at this
section
variable {H : Type} {P : Program} {w : World} {n : Nat} {t : TypeId} {cs : List Value} {d : DataW H}
theorem lies_int {k : IntKind} (hu : P.underlying t = some (.int k)) (h : Lies P w (n + 1) t cs d) : ∃ x, cs = [.int k x] ∧ d = .lit (.int k x) ∧ (Lit.int k x).wf = true := by
  unfold Lies at h; rw [hu] at h; exact h
theorem lies_bool (hu : P.underlying t = some .bool) (h : Lies P w (n + 1) t cs d) : ∃ b, cs = [.bool b] ∧ d = .lit (.bool b) := by
  unfold Lies at h; rw [hu] at h; exact h
theorem lies_string (hu : P.underlying t = some .string) (h : Lies P w (n + 1) t cs d) : ∃ s : ByteArray, cs = [.string s] ∧ d = .lit (.string s.data.toList) ∧ s.size ≤ maxLen := by
  unfold Lies at h; rw [hu] at h; exact h
theorem lies_slice {e : TypeId} (hu : P.underlying t = some (.slice e)) (h : Lies P w (n + 1) t cs d) : (cs = [.slice none 0 0] ∧ d = .nil) ∨ ∃ (a : Addr) (len cap : Nat) (elems rest : List (DataW H)), cs = [.slice (some a) len cap] ∧ d = .slice elems rest ∧ len ≤ cap ∧ cap ≤ maxLen ∧ elems.length = len ∧
        ∀ i y, elems[i]? = some y → ∃ cs' : List Value, cs'.length = P.cellsOf e ∧ (∀ j u, cs'[j]? = some u → w.cell? (a.add (i * P.cellsOf e + j)) = some u) ∧ Lies P w n e cs' y := by
  unfold Lies at h; rw [hu] at h; exact h
theorem lies_struct {fs : Array Field} (hu : P.underlying t = some (.struct fs)) (h : Lies P w (n + 1) t cs d) : cs.length = P.cellsOf t ∧ ∃ ds : List (DataW H), d = .agg ds ∧ ds.length = fs.size ∧
    ∀ (i : Nat) (f : Field) (y : DataW H), fs[i]? = some f → ds[i]? = some y → Lies P w n f.type ((cs.drop f.offset).take (P.cellsOf f.type)) y := by
  unfold Lies at h; rw [hu] at h; exact h
/-- A slice of bytes. -/
theorem lies_bytes {e : TypeId} (hu : P.underlying t = some (.slice e)) (he : P.underlying e = some (.int .u8)) (hc : P.cellsOf e = 1) (h : Lies P w (n + 2) t cs d) : ∃ a len cap bs, cs = [.slice a len cap] ∧ ByS w a len cap bs ∧
    (d = .nil ∧ bs = [] ∨ ∃ elems rest, d = .slice elems rest ∧ elems.length = bs.length) := by
  rcases lies_slice hu h with ⟨h1, h2⟩ | ⟨a, len, cap, elems, rest, h1, h2, hl, hm, hlen, hel⟩
  · exact ⟨none, 0, 0, [], h1, ByS.nil', .inl ⟨h2, rfl⟩⟩
  · obtain ⟨bs, hbl, hb⟩ := list_of (R := fun i (y : DataW H) (b : Int) => w.cell? (a.add i) = some (.int .u8 b) ∧ (Lit.int .u8 b).wf = true) elems 0 (fun i y hy => by
      obtain ⟨cs', hcl, hcell, hly⟩ := hel i y hy
      obtain ⟨x, rfl, _, hw⟩ := lies_int he hly
      have := hcell 0 _ rfl
      rw [hc, Nat.mul_one, Nat.add_zero] at this
      exact ⟨x, by simpa using this, hw⟩)
    have get : ∀ i b, bs[i]? = some b → w.cell? (a.add i) = some (.int .u8 b) ∧ (Lit.int .u8 b).wf = true := fun i b hi => by
      have hlt : i < elems.length := by have := (List.getElem?_eq_some_iff.1 hi).1; omega
      have := hb i _ b (List.getElem?_eq_getElem hlt) hi
      rwa [Nat.zero_add] at this
    refine ⟨some a, len, cap, bs, h1, ⟨⟨by omega, fun j v hj => ⟨a, rfl, (get j v hj).1⟩⟩, hl, (fun h => by cases h), fun b hm => ?_⟩, .inr ⟨elems, rest, h2, by omega⟩⟩
    obtain ⟨i, hi⟩ := List.getElem?_of_mem hm
    exact u8b (get i b hi).2
end

end Go.Proofs.YtnjmkhhaodgpbaaX
