/- More calls of a table. -/
import Derived.Test.YtbgebldhpbnacaaTMoreUI
namespace Go.Proofs.YtbgebldhpbnacaaX
open Go.RowKit
set_option linter.unusedVariables false
set_option linter.unusedSimpArgs false
/-- A table that lives among what is new since W. -/
structure L_UI (W w : World) (a : Addr) (most : Int) (l : List (Int × Int)) : Prop where
  tab : ∃ foot, T_UI w a foot most l ∧ ∀ x ∈ foot, W.heap.size ≤ x
  fr : Fr [] W w
section
variable {W w w' : World} {a : Addr} {most : Int} {l : List (Int × Int)} {Q : Value → World → Prop}
theorem L_UI.keep (h : L_UI W w a most l) (f : Fr [] w w') : L_UI W w' a most l := by
  obtain ⟨⟨foot, h1, h2⟩, hf⟩ := h
  exact ⟨⟨foot, h1.keep' f, h2⟩, hf.tr f⟩
theorem L_UI.t (h : L_UI W w a most l) : ∃ foot, T_UI w a foot most l := by obtain ⟨⟨foot, h1, _⟩, _⟩ := h; exact ⟨foot, h1⟩
theorem L_UI.srt (h : L_UI W w a most l) : Srt ilt (keys l) := by obtain ⟨f, h⟩ := h.t; exact h.sorted
theorem L_UI.size (h : L_UI W w a most l) : (l.length : Int) ≤ most ∧ most ≤ 4096 := by obtain ⟨f, h⟩ := h.t; exact h.size
theorem newL_UI {m : Int} (hf : Fr [] W w) (hbad : (m < 1 ∨ 4096 < m) → Q (.tuple #[.pointer none, .int .i64 1]) w)
    (hK : 1 ≤ m → m ≤ 4096 → ∀ g w', L_UI W w' (at0 g 0) m [] → Q (.tuple #[.pointer (some (at0 g 0)), .int .i64 0]) w') :
    CallR Try.prog 15 #[.int .i64 m] w Q := by
  have := hf.size
  exact new_UI hbad fun h1 h2 w' t f => hK h1 h2 _ w' ⟨⟨_, t, fun x hx => by simp at hx; omega⟩, hf.tr f⟩
theorem putL_UI {k : Int} {v : Int} (h : L_UI W w a most l)
    (hno : has ilt l k = false → most ≤ l.length → ∀ w', L_UI W w' a most l → Q (.bool false) w')
    (hK : (has ilt l k = true ∨ (l.length : Int) < most) → ∀ w', L_UI W w' a most (put ilt l k v) → Q (.bool true) w') :
    CallR Try.prog 16 #[.pointer (some a), (Value.int .u64) k, (Value.int .i64) v] w Q := by
  have h0 := h
  obtain ⟨⟨foot, h1, h2⟩, hf⟩ := h
  have := hf.size
  refine put_UI h1 (fun a b w' f => hno a b w' (h0.keep f)) (fun a foot' w' t f e => hK a w' ⟨⟨foot', t, fun x hx => ?_⟩, hf.trans f (fun x hx => .inr (h2 x hx))⟩)
  rcases e x hx with h | h
  · exact h2 x h
  · omega
end
theorem dropL_UI {W w : World} {a : Addr} {most : Int} {l : List (Int × Int)} {Q : Value → World → Prop} {k : Int} (h : L_UI W w a most l) (hK : ∀ w', L_UI W w' a most (drp ilt l k) → Q (.bool (has ilt l k)) w') :
    CallR Try.prog 21 #[.pointer (some a), (Value.int .u64) k] w Q := by
  obtain ⟨⟨foot, h1, h2⟩, hf⟩ := h
  exact drop_UI h1 fun w' t f => hK w' ⟨⟨foot, t, h2⟩, hf.trans f (fun x hx => .inr (h2 x hx))⟩
end Go.Proofs.YtbgebldhpbnacaaX
