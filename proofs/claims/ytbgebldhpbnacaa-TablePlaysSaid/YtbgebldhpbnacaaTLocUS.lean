/- More calls of a table. -/
import Derived.Test.YtbgebldhpbnacaaTMoreUS
namespace Go.Proofs.YtbgebldhpbnacaaX
open Go.RowKit
set_option linter.unusedVariables false
set_option linter.unusedSimpArgs false
/-- A table that lives among what is new since W. -/
structure L_US (W w : World) (a : Addr) (most : Int) (l : List (Int × ByteArray)) : Prop where
  tab : ∃ foot, T_US w a foot most l ∧ ∀ x ∈ foot, W.heap.size ≤ x
  fr : Fr [] W w
section
variable {W w w' : World} {a : Addr} {most : Int} {l : List (Int × ByteArray)} {Q : Value → World → Prop}
theorem L_US.keep (h : L_US W w a most l) (f : Fr [] w w') : L_US W w' a most l := by
  obtain ⟨⟨foot, h1, h2⟩, hf⟩ := h
  exact ⟨⟨foot, h1.keep' f, h2⟩, hf.tr f⟩
theorem L_US.t (h : L_US W w a most l) : ∃ foot, T_US w a foot most l := by obtain ⟨⟨foot, h1, _⟩, _⟩ := h; exact ⟨foot, h1⟩
theorem L_US.srt (h : L_US W w a most l) : Srt ilt (keys l) := by obtain ⟨f, h⟩ := h.t; exact h.sorted
theorem L_US.size (h : L_US W w a most l) : (l.length : Int) ≤ most ∧ most ≤ 4096 := by obtain ⟨f, h⟩ := h.t; exact h.size
theorem newL_US {m : Int} (hf : Fr [] W w) (hbad : (m < 1 ∨ 4096 < m) → Q (.tuple #[.pointer none, .int .i64 1]) w)
    (hK : 1 ≤ m → m ≤ 4096 → ∀ g w', L_US W w' (at0 g 0) m [] → Q (.tuple #[.pointer (some (at0 g 0)), .int .i64 0]) w') :
    CallR Try.prog 36 #[.int .i64 m] w Q := by
  have := hf.size
  exact new_US hbad fun h1 h2 w' t f => hK h1 h2 _ w' ⟨⟨_, t, fun x hx => by simp at hx; omega⟩, hf.tr f⟩
theorem putL_US {k : Int} {v : ByteArray} (h : L_US W w a most l)
    (hno : has ilt l k = false → most ≤ l.length → ∀ w', L_US W w' a most l → Q (.bool false) w')
    (hK : (has ilt l k = true ∨ (l.length : Int) < most) → ∀ w', L_US W w' a most (put ilt l k v) → Q (.bool true) w') :
    CallR Try.prog 37 #[.pointer (some a), (Value.int .u64) k, Value.string v] w Q := by
  have h0 := h
  obtain ⟨⟨foot, h1, h2⟩, hf⟩ := h
  have := hf.size
  refine put_US h1 (fun a b w' f => hno a b w' (h0.keep f)) (fun a foot' w' t f e => hK a w' ⟨⟨foot', t, fun x hx => ?_⟩, hf.trans f (fun x hx => .inr (h2 x hx))⟩)
  rcases e x hx with h | h
  · exact h2 x h
  · omega
end
end Go.Proofs.YtbgebldhpbnacaaX
