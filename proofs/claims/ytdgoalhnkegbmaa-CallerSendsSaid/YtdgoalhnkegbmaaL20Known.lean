/- Chapter 20's example, as the statements call it; CallerEnds. -/
import Derived.Test.YtdgoalhnkegbmaaL20New
import Derived.Test.YtdgoalhnkegbmaaMLies
import Derived.Test.YtdgoalhnkegbmaaXT3
namespace Go.Proofs.YtdgoalhnkegbmaaX
open Go.RowKit
set_option linter.unusedVariables false
set_option linter.unusedSimpArgs false
set_option maxRecDepth 100000
/-- the table among what is new since W -/
structure PL (W w : World) (g : Nat) (ft al : List Nat) (S : Cs) : Prop where
  t : PC w g ft al S
  new : ∀ x ∈ al, W.heap.size ≤ x
  F : Fr [] W w
section
variable {w w' W : World} {Q : Value → World → Prop} {g gs gx : Nat} {ft al ft' al' : List Nat} {S S' : Cs} {c : Cfg} {node last : Int}
theorem PL.keep' (h : PL W w g ft al S) (f : Fr [] w w') : PL W w' g ft al S := ⟨h.t.keep' f, h.new, h.F.tr f⟩
theorem PL.next (h : PL W w g ft al S) (t' : PC w' g ft' al' S') (f : Fr ft w w') (e : ∀ x ∈ al', x ∈ al ∨ w.heap.size ≤ x) : PL W w' g ft' al' S' := by
  have := h.F.size
  refine ⟨t', fun x hx => ?_, h.F.trans f (fun x hx => .inr (h.new x (h.t.sub x hx)))⟩
  rcases e x hx with h' | h'
  · exact h.new x h'
  · omega
theorem PL.off (h : PL W w g ft al S) {x : Nat} (hx : x ∉ al) (hw : W.heap.size ≤ x) (f : Fr [x] w w') : PL W w' g ft al S := ⟨h.t.off hx f, h.new, h.F.loc f hw⟩
theorem newL (hr : newOk c node last) (h0 : 0 ≤ c.drift) (hK : ∀ g ft al w', PL w w' g ft al (newC c node last) → Q (.tuple #[.pointer (some (at0 g 0)), .int .i64 0]) w') : CallR Try.prog 10 #[c.val, .int .i64 node, .int .u64 last] w Q :=
  new_spec h0 (fun h => absurd hr h) fun _ g ft al w' t f n => hK g ft al w' ⟨t, n, f⟩
abbrev rK : Raw := ⟨0, 0, 0, 0, 0, 0, 3, 1, 0, 0, 0, 0, 0, 0, 0, 0, 0, 0, 0, 0, 0, 0⟩
theorem bc_eqt' {a b : Int} {A B : Prop} (h : a = b) (x : A) : bcase (a == b) A B := bc_eq (fun _ => x) (fun hn => absurd h hn)
def k0 : Cs := newC (configOf rK) 1 0
def k1 : Cs := (beginS k0 true 2 4 0 2 5 0 [] 10).1
def k2 : Cs := (beginS k1 true 2 4 0 2 5 0 [] 10).1
def k3 : Cs := (beginS k2 true 2 4 0 2 5 0 [] 10).1
def k4 : Cs := (stepC k3 10).1
def k5 : Cs := (replyC k4 2 1 2 1 0 7 []).1
def k6 : Cs := (settleC k5 2 1 0).1
theorem kn1 : (beginS k0 true 2 4 0 2 5 0 [] 10).2.1 = 1 := by decide +kernel
theorem kn2 : (beginS k1 true 2 4 0 2 5 0 [] 10).2.1 = 2 := by decide +kernel
theorem kn3 : (beginS k2 true 2 4 0 2 5 0 [] 10).2.2 = 6 := by decide +kernel
theorem kn4 : (stepC k3 10).2.2 = true := by decide +kernel
theorem kn4m : (stepM k3 10).kind = 1 ∧ (stepM k3 10).call = 1 ∧ (stepM k3 10).floor = 1 := by decide +kernel
theorem kn5 : (replyC k4 2 1 2 1 0 7 []).2.1.length = 0 ∧ (replyC k4 2 1 2 1 0 7 []).2.2 = false := by decide +kernel
theorem kn6 : (settleC k5 2 1 0).2 = true := by decide +kernel
theorem kn7 : (awaitC k6 2 1 11).2.1.back = 7 ∧ (awaitC k6 2 1 11).2.2.2 = 0 := by decide +kernel
theorem kR {S : Cs} (h : S.node = 1) : true = true ↔ Right (askM S (newY 2 4 0 2 5 0 [] 10) 1) := by
  refine ⟨fun _ => right_ask (by omega) (by show 1 ≤ (2 : Int) ∧ (2 : Int) ≤ 64; omega) (by show S.node ≠ 2; omega) (by show okSerial 1; unfold okSerial; omega) (by show (1 : Int) ≤ 1 ∧ (1 : Int) ≤ 1; omega) (by show 1 ≤ (4 : Int) ∧ (4 : Int) ≤ 6; omega) (by show 0 ≤ (0 : Int) ∧ (0 : Int) ≤ 63; omega) ?_ ?_ ⟨fun x hx => (by cases hx), by show 0 ≤ 2; omega⟩, fun _ => rfl⟩
  · show okID (2, 5)
    unfold okID okSerial
    exact .inr ⟨by decide, by decide⟩
  · show noID (2, 5) ↔ _
    unfold noID
    constructor
    · intro h; exact absurd h.1 (by decide)
    · rintro (h | h)
      · exact absurd h (by show ¬ (4 : Int) = 1; decide)
      · exact absurd h (by show ¬ (4 : Int) = 6; decide)
theorem n1 : k1.node = 1 := by decide +kernel
theorem n2 : k2.node = 1 := by decide +kernel
theorem k_ok : newOk (configOf rK) 1 0 := ⟨may_config ⟨by decide, by decide⟩, by decide, by decide, by decide⟩
theorem known_j0 (h : PL W w g ft al k0) (bx : Blk w gx (idcs 2 5) 26) (hx : gx ∉ al) (hxW : W.heap.size ≤ gx) (hQ : ∀ w', Fr [] W w' → Q (.bool true) w') : X11.j0 Q (some (at0 g 0)) (at0 gx 0) w := by
  have out : ∀ {w : World} {al al' : List Nat} {x : Nat}, x ∉ al → x < w.heap.size → (∀ x ∈ al', x ∈ al ∨ w.heap.size ≤ x) → x ∉ al' := fun h1 h2 e hm => by
    rcases e _ hm with h' | h'
    · exact h1 h'
    · omega
  unfold X11.j0
  refine ld_int (bx.cat 0 _ rfl) (ld_int (bx.cat 1 _ rfl) (begin_spec (S := k0) (refs := []) (rp := none) (rc := 0) h.t Own.nil (by simp) (kR rfl) ?_))
  intro ft1 al1 w4 t4 f4 e4 a4
  have h4 : PL W w4 g ft1 al1 k1 := h.next t4 f4 a4
  have bx4 := bx.keep f4 (fun hm => hx (h.t.sub _ hm))
  have hx4 := out hx bx.lt a4
  refine ⟨_, _, rfl, ld_int (bx4.cat 0 _ rfl) (ld_int (bx4.cat 1 _ rfl) (begin_spec (S := k1) (refs := []) (rp := none) (rc := 0) h4.t Own.nil (by simp) (kR n1) ?_))⟩
  intro ft2 al2 w10 t10 f10 e10 a10
  have h10 : PL W w10 g ft2 al2 k2 := h4.next t10 f10 a10
  have bx10 := bx4.keep f10 (fun hm => hx4 (h4.t.sub _ hm))
  have hx10 := out hx4 bx4.lt a10
  refine ⟨_, _, rfl, ld_int (bx10.cat 0 _ rfl) (ld_int (bx10.cat 1 _ rfl) (begin_spec (S := k2) (refs := []) (rp := none) (rc := 0) h10.t Own.nil (by simp) (kR n2) ?_))⟩
  intro ft3 al3 w16 t16 f16 e16 a16
  have h16 : PL W w16 g ft3 al3 k3 := h10.next t16 f16 a16
  refine ⟨_, _, rfl, step_spec (S := k3) h16.t ?_⟩
  intro x mp mc ft4 al4 w20 m20 n20 t20 f20 e20 a20
  have h20 : PL W w20 g ft4 al4 k4 := h16.next t20 f20 a20
  rw [kn4]
  refine ⟨_, _, _, _, _, _, _, _, _, _, _, _, _, _, _, _, _, _, _, _, _, _, _, _, _, _, _, _, _, _, _, _, _, _, _, _, _, _, _, _, _, _, _, rfl, newB fun g56 w57 b56 f57 h57 => newB fun g58 w59 b58 f59 h59 => stAllB (vs := x.cells) (b56.keep' f59) rfl fun w60 b60 f60 => ?_⟩
  have l56 := b56.lt
  refine stAllB (vs := (stepM k3 10).cells mp mc none 0) (b58.off1 (by omega) f60) rfl fun w61 b61 f61 => ?_
  have z20 := h20.F.size
  have z57 := f57.size
  have nn56 : g56 ∉ al4 := h20.t.fresh h57
  have nn58 : g58 ∉ al4 := fun hm => by have := h20.t.lt g58 hm; omega
  have h61 : PL W w61 g ft4 al4 k4 := (((h20.keep' f57).keep' f59).off nn56 (by omega) f60).off nn58 (by omega) f61
  refine reply_spec' (S := k4) (m := ⟨2, 2, 1, 1, 0, 0, 0, 0, 0, 0, [], 7, 0, 0, 0, 0, 0, 0, []⟩) (rp := none) (rc := 0) (lc := 0) h61.t Own.nil (by simp) (by simp [fbl]) ?_
  intro tp tc ft5 al5 w63 r63 n63 t63 f63 e63 a63
  have h63 : PL W w63 g ft5 al5 k5 := h61.next t63 f63 a63
  have l58 := b61.lt
  have b63 := b61.keep f63 (fun hm => nn58 (h61.t.sub _ hm))
  have nn58' := out nn58 l58 a63
  refine ⟨_, _, _, _, rfl, settle_spec (S := k5) h63.t ?_⟩
  intro ft6 al6 w67 t67 f67 e67 a67
  have h67 : PL W w67 g ft6 al6 k6 := h63.next t67 f67 a67
  have l58' := b63.lt
  have b67 := b63.keep f67 (fun hm => nn58' (h63.t.sub _ hm))
  have nn58'' := out nn58' l58' a67
  rw [kn6]
  refine ⟨_, rfl, await_spec (S := k6) h67.t ?_⟩
  intro y ft7 al7 w70 c70 t70 f70 e70 a70
  have l58'' := b67.lt
  have b70 := b67.keep f70 (fun hm => nn58'' (h67.t.sub _ hm))
  have h70 := h67.next t70 f70 a70
  refine ⟨_, _, _, _, _, _, _, _, _, _, _, _, _, _, _, _, _, _, _, _, _, rfl, newB fun g88 w89 b88 f89 h89 => stAllB (vs := y.cells) b88 rfl fun w90 b90 f90 => ?_⟩
  have l70 := b70.lt
  have b58 := (b70.keep' f89).off1 (by omega) f90
  obtain ⟨rp, rc, sp, sc, hy, _⟩ := c70
  have z70 := h70.F.size
  have F90 : Fr [] W w90 := (h70.F.tr f89).loc f90 (by omega)
  have eb : y.back = 7 := by rw [hy]; exact kn7.1
  refine bc_eqt' kn1 (bc_eqt' kn2 (bc_eqt' kn3 (bc_bool (fun _ => ?_) (fun e => by cases e))))
  refine ld_int (b58.cat 0 _ rfl) (bc_eqt' kn4m.1 (ld_int (b58.cat 3 _ rfl) (bc_eqt' kn4m.2.1 (ld_int (b58.cat 4 _ rfl) (bc_eqt' kn4m.2.2 (bc_eqt' (by show (((replyC k4 2 1 2 1 0 7 []).2.1.length : Nat) : Int) = 0; rw [kn5.1]; rfl) ?_))))))
  refine bc_bool (fun _ => ?_) (fun e => ?_)
  · refine bc_bool (fun _ => ld_int (b90.cat 11 _ rfl) (bc_eqt' eb ?_)) (fun e => by cases e)
    have := hQ w90 F90
    rw [kn7.2]
    exact this
  · have e2 : (replyC k4 2 1 2 1 0 7 []).2.2 = true := by
      have h : (!(replyC k4 2 1 2 1 0 7 []).2.2) = false := e
      simpa using h
    rw [kn5.2] at e2; cases e2
theorem known_spec (hQ : ∀ w', Fr [] w w' → Q (.bool true) w') : CallR Try.prog 11 #[] w Q := by
  refine X11.sound _ _ ?_
  unfold X11.f
  refine config_spec (r := rK) fun w2 f2 => ⟨_, _, _, _, _, _, _, _, _, _, _, _, _, _, _, _, _, _, _, _, _, _, rfl, newB fun g25 w26 b25 f26 h26 => stAllB (vs := (configOf rK).cells) b25 rfl fun w27 b27 f27 => ?_⟩
  have z2 := f2.size
  have F27 : Fr [] w w27 := (f2.tr f26).loc f27 (by omega)
  refine ld_Cfg (s := configOf rK) b27.cat (newL k_ok (drift_half rK).1 fun g ft al w51 p => ⟨_, _, rfl, newB fun gx w55 bx f55 hx => stAllB (vs := idcs 2 5) bx rfl fun w56 b56 f56 => bc_ne (fun h => absurd rfl h) (fun _ => bc_bool (fun h => by cases h) (fun _ => ?_))⟩)
  have z := p.F.size
  have nx := p.t.fresh hx
  exact known_j0 (W := w27) ((p.keep' f55).off nx (by omega) f56) b56 nx (by omega) (fun w' f' => hQ w' (F27.tr f'))
end
end Go.Proofs.YtdgoalhnkegbmaaX
