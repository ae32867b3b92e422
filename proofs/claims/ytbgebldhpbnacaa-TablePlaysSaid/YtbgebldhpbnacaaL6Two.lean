/- TableTwo: tables know nothing of one another. -/
import Derived.Test.YtbgebldhpbnacaaL6Full
import Derived.Test.YtbgebldhpbnacaaXLies
namespace Go.Proofs.YtbgebldhpbnacaaX
open Go.RowKit
set_option linter.unusedVariables false
set_option linter.unusedSimpArgs false
set_option maxRecDepth 100000
/-- the steps that a row hands in -/
def StepsAt (w : World) (p : Option Addr) (n : Nat) : Prop := ∀ i, i < n → ∃ q x1 x2 x3 x4, p = some q ∧ w.cell? (q.add (i * 4)) = some (.int .i64 x1) ∧ w.cell? (q.add (i * 4 + 1)) = some (.int .u64 x2) ∧ w.cell? (q.add (i * 4 + 2)) = some (.int .i64 x3) ∧ w.cell? (q.add (i * 4 + 3)) = some (.bool x4) ∧
  (Lit.int .i64 x1).wf = true ∧ (Lit.int .u64 x2).wf = true ∧ (Lit.int .i64 x3).wf = true
theorem steps_of_lies {H : Type} {w : World} {n : Nat} {a : Option Addr} {len cap : Nat} {d : DataW H} (h : Lies Try.prog w (n + 3) 48 [.slice a len cap] d) : StepsAt w a len := by
  rcases lies_slice (P := Try.prog) (e := 50) Try.underlying48 h with ⟨h1, h2⟩ | ⟨a', len', cap', elems, rest, h1, h2, hl, hm, hlen, hel⟩
  · injection h1 with h1; injection h1 with e1 e2 e3; subst e2
    exact fun i hi => by omega
  · injection h1 with h1; injection h1 with e1 e2 e3; subst e1; subst e2
    intro i hi
    obtain ⟨cs', hcl, hcell, hly⟩ := hel i _ (List.getElem?_eq_getElem (by omega))
    have hsz : Try.prog.cellsOf 50 = 4 := by kernel_rfl
    rw [hsz] at hcl hcell
    obtain ⟨_, ds, hds, hdl, hf⟩ := lies_struct Try.underlying50 hly
    match cs', hcl with
    | [c0, c1, c2, c3], _ =>
    match ds, hdl with
    | [d0, d1, d2, d3], _ =>
    have g0 := hf 0 { name := "What", type := 3, offset := 0, embedded := false, tag := "", pkgPath := "", byteOffset := 0 } d0 rfl rfl
    have g1 := hf 1 { name := "K", type := 36, offset := 1, embedded := false, tag := "", pkgPath := "", byteOffset := 8 } d1 rfl rfl
    have g2 := hf 2 { name := "V", type := 3, offset := 2, embedded := false, tag := "", pkgPath := "", byteOffset := 16 } d2 rfl rfl
    have g3 := hf 3 { name := "Near", type := 4, offset := 3, embedded := false, tag := "", pkgPath := "", byteOffset := 24 } d3 rfl rfl
    have s3 : Try.prog.cellsOf 3 = 1 := by kernel_rfl
    have s36 : Try.prog.cellsOf 36 = 1 := by kernel_rfl
    have s4 : Try.prog.cellsOf 4 = 1 := by kernel_rfl
    simp only [s3, s36, s4, List.drop_zero, List.drop_succ_cons, List.take_succ_cons, List.take_zero] at g0 g1 g2 g3
    obtain ⟨x0, e0, _, w0⟩ := lies_int Try.underlying3 g0
    obtain ⟨x1, e1, _, w1⟩ := lies_int Try.underlying36 g1
    obtain ⟨x2, e2, _, w2⟩ := lies_int Try.underlying3 g2
    obtain ⟨x3, e3, _⟩ := lies_bool Try.underlying4 g3
    simp only [List.cons.injEq, and_true] at e0 e1 e2 e3
    subst e0; subst e1; subst e2; subst e3
    exact ⟨a', x0, x1, x2, x3, rfl, hcell 0 _ rfl, hcell 1 _ rfl, hcell 2 _ rfl, hcell 3 _ rfl, w0, w1, w2⟩
/-- Two tables among what is new since W, apart from one another. -/
structure Two (W w : World) (a b : Addr) (l r : KV) : Prop where
  tab : ∃ fa fb, T_UI w a fa 100 l ∧ T_UI w b fb 100 r ∧ (∀ x ∈ fa, W.heap.size ≤ x) ∧ (∀ x ∈ fb, W.heap.size ≤ x) ∧ ∀ x ∈ fa, x ∉ fb
  fr : Fr [] W w
section
variable {W w : World} {a b : Addr} {l r : KV} {Q : Value → World → Prop}
theorem Two.keep {w' : World} (h : Two W w a b l r) (f : Fr [] w w') : Two W w' a b l r := by
  obtain ⟨⟨fa, fb, h1, h2, h3⟩, hf⟩ := h
  exact ⟨⟨fa, fb, h1.keep' f, h2.keep' f, h3⟩, hf.tr f⟩
theorem Two.drop {k : Int} (h : Two W w a b l r) (hK : ∀ w' l' x, Two W w' a b l' r → Q (.bool x) w') : CallR Try.prog 21 #[.pointer (some a), .int .u64 k] w Q := by
  obtain ⟨⟨fa, fb, h1, h2, h3, h4, h5⟩, hf⟩ := h
  exact drop_UI h1 fun w' t f => hK w' _ _ ⟨⟨fa, fb, t, h2.keep f (fun x hx hm => h5 x hm hx), h3, h4, h5⟩, hf.trans f (fun x hx => .inr (h3 x hx))⟩
theorem Two.put {k v : Int} (h : Two W w a b l r) (hK : ∀ w' l' x, Two W w' a b l' r → Q (.bool x) w') : CallR Try.prog 16 #[.pointer (some a), .int .u64 k, .int .i64 v] w Q := by
  have h0 := h
  obtain ⟨⟨fa, fb, h1, h2, h3, h4, h5⟩, hf⟩ := h
  have := hf.size
  have hb := h2.lt
  refine put_UI h1 (fun _ _ w' f => hK w' _ _ (h0.keep f)) (fun _ fa' w' t f e => hK w' _ _ ⟨⟨fa', fb, t, h2.keep f (fun x hx hm => h5 x hm hx), fun x hx => ?_, h4, fun x hx hm => ?_⟩, hf.trans f (fun x hx => .inr (h3 x hx))⟩)
  · rcases e x hx with h | h
    · exact h3 x h
    · omega
  · rcases e x hx with h | h
    · exact h5 x h hm
    · have := hb x hm; omega
theorem two_j2 (h : Two W w a b l [(5, 6)]) : X6.j2 (Ok W) (some b) w := by
  unfold X6.j2
  obtain ⟨⟨fa, fb, h1, h2, _⟩, hf⟩ := h
  refine get_UI h2 (fun hn => absurd hn (by decide)) (fun v hv => ?_)
  have : v = 6 := by
    have e : get ilt [((5 : Int), (6 : Int))] 5 = some 6 := rfl
    rw [e] at hv
    injection hv with hv
    exact hv.symm
  subst this
  refine ⟨_, _, rfl, ?_⟩
  exact len_UI h2 ⟨_, rfl, rfl, hf⟩
theorem two_l0 {p : Option Addr} {n c : Nat} (hc : StepsAt W p n) (hn : n ≤ 140737488355328) :
    ∀ (f t : Nat) (w : World) (l : KV), n - t < f → Two W w a b l [(5, 6)] → t ≤ n → X6.l0 (Ok W) f p n c (some a) (some b) (t : Int) w
  | 0, t, w, l, hf, _, _ => by omega
  | f + 1, t, w, l, hf, h, ht => by
    rw [X6.l0]
    refine bc_dec (fun h1 => bc_dec (fun h2 => ?_) (fun _ => two_j2 h)) (fun _ => two_j2 h)
    obtain ⟨q, x1, x2, x3, x4, hp, c1, c2, c3, c4, _⟩ := hc t (by omega)
    have et : IntKind.wrap .i64 ((t : Int) + 1) = ((t + 1 : Nat) : Int) := by rw [i64w _ (by omega) (by omega)]; omega
    unfold X6.j1
    have g1 := h.fr.cell' c1
    have g2 := h.fr.cell' c2
    have g3 := h.fr.cell' c3
    rw [et]
    simp only [Int.toNat_natCast, add_add, Nat.add_zero]
    refine ⟨⟨by omega, by omega⟩, opt_some hp (ld_int g1 (pick_spec (by omega) (by omega) ⟨_, rfl, bc_eq (fun _ => ?_) (fun _ => ?_)⟩))⟩
    · refine ⟨⟨by omega, by omega⟩, opt_some hp (ld_int g2 ⟨by decide, h.drop fun w' l' x k => ⟨_, rfl, ?_⟩⟩)⟩
      exact two_l0 hc hn f (t + 1) w' l' (by omega) k (by omega)
    · have hd' := h.keep (Fr.drew (w := w))
      have g2' := (Fr.drew (S := []) (w := w)).cell' g2
      have g3' := (Fr.drew (S := []) (w := w)).cell' g3
      refine ⟨⟨by omega, by omega⟩, opt_some hp (ld_int g2' ⟨by decide, ⟨by omega, by omega⟩, opt_some hp (ld_int g3' (hd'.put fun w' l' x k => ⟨_, rfl, ?_⟩))⟩)⟩
      exact two_l0 hc hn f (t + 1) w' l' (by omega) k (by omega)
theorem tableTwo_row {H : Type} {p : Option Addr} {n c : Nat} {d : DataW H} (hd : Lies Try.prog W 6 48 [.slice p n c] d) (y : n * 32 ≤ 140737488351232) :
    CallR Try.prog 6 #[.slice p n c] W fun v w' => v = .bool true ∧ Fr [] W w' := by
  refine X6.sound _ _ _ _ _ ?_
  unfold X6.f
  refine new_UI (fun h => by omega) ?_
  intro _ _ w1 t1 f1
  refine ⟨_, _, rfl, new_UI (fun h => by omega) ?_⟩
  intro _ _ w2 t2 f2
  refine ⟨_, _, rfl, known_spec fun w3 f3 => ⟨_, rfl, ?_⟩⟩
  show X6.j3 _ _ _ _ _ _ w3
  unfold X6.j3
  have s1 := f1.size
  have t1lt := t1.lt
  have hr1 := (t1.keep' f2).keep' f3
  have hr2 := t2.keep' f3
  have f03 : Fr [] W w3 := (f1.tr f2).tr f3
  refine put_UI hr2 (fun _ h => by simp at h) (fun _ foot' w4 t4 f4 e4 => ⟨_, rfl, n + 1, ?_⟩)
  have hx : ∀ x ∈ [w1.heap.size], W.heap.size ≤ x := fun x hx => by simp at hx; omega
  have s3 := f03.size
  refine two_l0 (steps_of_lies hd) (by omega) (n + 1) 0 w4 [] (by omega) ⟨⟨_, foot', hr1.keep f4 (fun x hx hm => ?_), t4, fun x hx => ?_, fun x hx => ?_, fun x hx hm => ?_⟩, f03.trans f4 (fun x hm => .inr (hx x hm))⟩ (by omega)
  · have := t1lt x hx; simp at hm; omega
  · simp at hx; omega
  · rcases e4 x hx with h | h
    · simp at h; omega
    · omega
  · have h1 := t1lt x hx
    rcases e4 x hm with h | h
    · simp at h; omega
    · have := (f2.tr f3).size; omega
end
end Go.Proofs.YtbgebldhpbnacaaX
