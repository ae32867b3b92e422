/- Structs of scalars that a row hands in: printed by mklies.py. -/
import Derived.Test.YtnjmkhhaodgpbaaMStruct
import Derived.Test.YtnjmkhhaodgpbaaXLies
import Derived.Test.YtnjmkhhaodgpbaaXSized
namespace Go.Proofs.YtnjmkhhaodgpbaaX
open Go.RowKit
set_option linter.unusedVariables false
set_option linter.unusedSimpArgs false
set_option maxRecDepth 100000
theorem lies_slice_any {H : Type} {P : Program} {w : World} {n : Nat} {t e : TypeId} {cs : List Value} {d : DataW H} (hu : P.underlying t = some (.slice e)) (h : Lies P w (n + 1) t cs d) : ∃ (a : Option Addr) (len cap : Nat), cs = [.slice a len cap] := by
  rcases lies_slice hu h with ⟨h1, _⟩ | ⟨a, len, cap, _, _, h1, _⟩
  · exact ⟨none, 0, 0, h1⟩
  · exact ⟨some a, len, cap, h1⟩
theorem Cfg_of_lies {H : Type} {w : World} {n : Nat} {cs : List Value} {d : DataW H} (h : Lies Try.prog w (n + 2) 26 cs d) : ∃ x : Cfg, cs = x.cells ∧ (Lit.int .u64 x.unit).wf = true ∧ (Lit.int .u64 x.drift).wf = true ∧ (Lit.int .u64 x.lease).wf = true ∧ (Lit.int .u64 x.wait).wf = true ∧ (Lit.int .u64 x.most).wf = true ∧ (Lit.int .u64 x.patience).wf = true ∧ (Lit.int .u64 x.start).wf = true ∧ (Lit.int .u64 x.last).wf = true := by
  obtain ⟨hl, ds, hds, hdl, hf⟩ := lies_struct Try.underlying26 h
  rw [show Try.prog.cellsOf 26 = 22 by kernel_rfl] at hl
  match cs, hl with
  | [c0, c1, c2, c3, c4, c5, c6, c7, c8, c9, c10, c11, c12, c13, c14, c15, c16, c17, c18, c19, c20, c21], _ =>
  match ds, hdl with
  | [d0, d1, d2, d3, d4, d5, d6, d7, d8, d9, d10, d11, d12, d13, d14, d15, d16, d17, d18, d19, d20, d21], _ =>
  have g0 := hf 0 { name := "Nodes", type := 3, offset := 0, embedded := false, tag := "", pkgPath := "", byteOffset := 0 } d0 rfl rfl
  have g1 := hf 1 { name := "Mutators", type := 3, offset := 1, embedded := false, tag := "", pkgPath := "", byteOffset := 8 } d1 rfl rfl
  have g2 := hf 2 { name := "Slots", type := 3, offset := 2, embedded := false, tag := "", pkgPath := "", byteOffset := 16 } d2 rfl rfl
  have g3 := hf 3 { name := "Cells", type := 3, offset := 3, embedded := false, tag := "", pkgPath := "", byteOffset := 24 } d3 rfl rfl
  have g4 := hf 4 { name := "Objects", type := 3, offset := 4, embedded := false, tag := "", pkgPath := "", byteOffset := 32 } d4 rfl rfl
  have g5 := hf 5 { name := "Stubs", type := 3, offset := 5, embedded := false, tag := "", pkgPath := "", byteOffset := 40 } d5 rfl rfl
  have g6 := hf 6 { name := "Calls", type := 3, offset := 6, embedded := false, tag := "", pkgPath := "", byteOffset := 48 } d6 rfl rfl
  have g7 := hf 7 { name := "Window", type := 3, offset := 7, embedded := false, tag := "", pkgPath := "", byteOffset := 56 } d7 rfl rfl
  have g8 := hf 8 { name := "Grey", type := 3, offset := 8, embedded := false, tag := "", pkgPath := "", byteOffset := 64 } d8 rfl rfl
  have g9 := hf 9 { name := "Bag", type := 3, offset := 9, embedded := false, tag := "", pkgPath := "", byteOffset := 72 } d9 rfl rfl
  have g10 := hf 10 { name := "Inbox", type := 3, offset := 10, embedded := false, tag := "", pkgPath := "", byteOffset := 80 } d10 rfl rfl
  have g11 := hf 11 { name := "Unit", type := 22, offset := 11, embedded := false, tag := "", pkgPath := "", byteOffset := 88 } d11 rfl rfl
  have g12 := hf 12 { name := "Drift", type := 22, offset := 12, embedded := false, tag := "", pkgPath := "", byteOffset := 96 } d12 rfl rfl
  have g13 := hf 13 { name := "Lease", type := 22, offset := 13, embedded := false, tag := "", pkgPath := "", byteOffset := 104 } d13 rfl rfl
  have g14 := hf 14 { name := "Wait", type := 22, offset := 14, embedded := false, tag := "", pkgPath := "", byteOffset := 112 } d14 rfl rfl
  have g15 := hf 15 { name := "Most", type := 22, offset := 15, embedded := false, tag := "", pkgPath := "", byteOffset := 120 } d15 rfl rfl
  have g16 := hf 16 { name := "Patience", type := 22, offset := 16, embedded := false, tag := "", pkgPath := "", byteOffset := 128 } d16 rfl rfl
  have g17 := hf 17 { name := "Suspect", type := 3, offset := 17, embedded := false, tag := "", pkgPath := "", byteOffset := 136 } d17 rfl rfl
  have g18 := hf 18 { name := "Trace", type := 3, offset := 18, embedded := false, tag := "", pkgPath := "", byteOffset := 144 } d18 rfl rfl
  have g19 := hf 19 { name := "Work", type := 3, offset := 19, embedded := false, tag := "", pkgPath := "", byteOffset := 152 } d19 rfl rfl
  have g20 := hf 20 { name := "Start", type := 22, offset := 20, embedded := false, tag := "", pkgPath := "", byteOffset := 160 } d20 rfl rfl
  have g21 := hf 21 { name := "Last", type := 22, offset := 21, embedded := false, tag := "", pkgPath := "", byteOffset := 168 } d21 rfl rfl
  simp only [show Try.prog.cellsOf 3 = 1 by kernel_rfl, show Try.prog.cellsOf 22 = 1 by kernel_rfl, List.drop_zero, List.drop_succ_cons, List.take_succ_cons, List.take_zero] at g0 g1 g2 g3 g4 g5 g6 g7 g8 g9 g10 g11 g12 g13 g14 g15 g16 g17 g18 g19 g20 g21
  obtain ⟨x0, e0, _, w0⟩ := lies_int Try.underlying3 g0
  obtain ⟨x1, e1, _, w1⟩ := lies_int Try.underlying3 g1
  obtain ⟨x2, e2, _, w2⟩ := lies_int Try.underlying3 g2
  obtain ⟨x3, e3, _, w3⟩ := lies_int Try.underlying3 g3
  obtain ⟨x4, e4, _, w4⟩ := lies_int Try.underlying3 g4
  obtain ⟨x5, e5, _, w5⟩ := lies_int Try.underlying3 g5
  obtain ⟨x6, e6, _, w6⟩ := lies_int Try.underlying3 g6
  obtain ⟨x7, e7, _, w7⟩ := lies_int Try.underlying3 g7
  obtain ⟨x8, e8, _, w8⟩ := lies_int Try.underlying3 g8
  obtain ⟨x9, e9, _, w9⟩ := lies_int Try.underlying3 g9
  obtain ⟨x10, e10, _, w10⟩ := lies_int Try.underlying3 g10
  obtain ⟨x11, e11, _, w11⟩ := lies_int Try.underlying22 g11
  obtain ⟨x12, e12, _, w12⟩ := lies_int Try.underlying22 g12
  obtain ⟨x13, e13, _, w13⟩ := lies_int Try.underlying22 g13
  obtain ⟨x14, e14, _, w14⟩ := lies_int Try.underlying22 g14
  obtain ⟨x15, e15, _, w15⟩ := lies_int Try.underlying22 g15
  obtain ⟨x16, e16, _, w16⟩ := lies_int Try.underlying22 g16
  obtain ⟨x17, e17, _, w17⟩ := lies_int Try.underlying3 g17
  obtain ⟨x18, e18, _, w18⟩ := lies_int Try.underlying3 g18
  obtain ⟨x19, e19, _, w19⟩ := lies_int Try.underlying3 g19
  obtain ⟨x20, e20, _, w20⟩ := lies_int Try.underlying22 g20
  obtain ⟨x21, e21, _, w21⟩ := lies_int Try.underlying22 g21
  simp only [List.cons.injEq, and_true] at e0 e1 e2 e3 e4 e5 e6 e7 e8 e9 e10 e11 e12 e13 e14 e15 e16 e17 e18 e19 e20 e21
  subst e0 e1 e2 e3 e4 e5 e6 e7 e8 e9 e10 e11 e12 e13 e14 e15 e16 e17 e18 e19 e20 e21
  exact ⟨⟨x0, x1, x2, x3, x4, x5, x6, x7, x8, x9, x10, x11, x12, x13, x14, x15, x16, x17, x18, x19, x20, x21⟩, rfl, w11, w12, w13, w14, w15, w16, w20, w21⟩
theorem Raw_of_lies {H : Type} {w : World} {n : Nat} {cs : List Value} {d : DataW H} (h : Lies Try.prog w (n + 2) 24 cs d) : ∃ x : Raw, cs = x.cells ∧ (Lit.int .u64 x.start).wf = true ∧ (Lit.int .u64 x.last).wf = true := by
  obtain ⟨hl, ds, hds, hdl, hf⟩ := lies_struct Try.underlying24 h
  rw [show Try.prog.cellsOf 24 = 22 by kernel_rfl] at hl
  match cs, hl with
  | [c0, c1, c2, c3, c4, c5, c6, c7, c8, c9, c10, c11, c12, c13, c14, c15, c16, c17, c18, c19, c20, c21], _ =>
  match ds, hdl with
  | [d0, d1, d2, d3, d4, d5, d6, d7, d8, d9, d10, d11, d12, d13, d14, d15, d16, d17, d18, d19, d20, d21], _ =>
  have g0 := hf 0 { name := "Nodes", type := 3, offset := 0, embedded := false, tag := "", pkgPath := "", byteOffset := 0 } d0 rfl rfl
  have g1 := hf 1 { name := "Mutators", type := 3, offset := 1, embedded := false, tag := "", pkgPath := "", byteOffset := 8 } d1 rfl rfl
  have g2 := hf 2 { name := "Slots", type := 3, offset := 2, embedded := false, tag := "", pkgPath := "", byteOffset := 16 } d2 rfl rfl
  have g3 := hf 3 { name := "Cells", type := 3, offset := 3, embedded := false, tag := "", pkgPath := "", byteOffset := 24 } d3 rfl rfl
  have g4 := hf 4 { name := "Objects", type := 3, offset := 4, embedded := false, tag := "", pkgPath := "", byteOffset := 32 } d4 rfl rfl
  have g5 := hf 5 { name := "Stubs", type := 3, offset := 5, embedded := false, tag := "", pkgPath := "", byteOffset := 40 } d5 rfl rfl
  have g6 := hf 6 { name := "Calls", type := 3, offset := 6, embedded := false, tag := "", pkgPath := "", byteOffset := 48 } d6 rfl rfl
  have g7 := hf 7 { name := "Window", type := 3, offset := 7, embedded := false, tag := "", pkgPath := "", byteOffset := 56 } d7 rfl rfl
  have g8 := hf 8 { name := "Grey", type := 3, offset := 8, embedded := false, tag := "", pkgPath := "", byteOffset := 64 } d8 rfl rfl
  have g9 := hf 9 { name := "Bag", type := 3, offset := 9, embedded := false, tag := "", pkgPath := "", byteOffset := 72 } d9 rfl rfl
  have g10 := hf 10 { name := "Inbox", type := 3, offset := 10, embedded := false, tag := "", pkgPath := "", byteOffset := 80 } d10 rfl rfl
  have g11 := hf 11 { name := "Unit", type := 3, offset := 11, embedded := false, tag := "", pkgPath := "", byteOffset := 88 } d11 rfl rfl
  have g12 := hf 12 { name := "Drift", type := 3, offset := 12, embedded := false, tag := "", pkgPath := "", byteOffset := 96 } d12 rfl rfl
  have g13 := hf 13 { name := "Lease", type := 3, offset := 13, embedded := false, tag := "", pkgPath := "", byteOffset := 104 } d13 rfl rfl
  have g14 := hf 14 { name := "Wait", type := 3, offset := 14, embedded := false, tag := "", pkgPath := "", byteOffset := 112 } d14 rfl rfl
  have g15 := hf 15 { name := "Most", type := 3, offset := 15, embedded := false, tag := "", pkgPath := "", byteOffset := 120 } d15 rfl rfl
  have g16 := hf 16 { name := "Patience", type := 3, offset := 16, embedded := false, tag := "", pkgPath := "", byteOffset := 128 } d16 rfl rfl
  have g17 := hf 17 { name := "Suspect", type := 3, offset := 17, embedded := false, tag := "", pkgPath := "", byteOffset := 136 } d17 rfl rfl
  have g18 := hf 18 { name := "Trace", type := 3, offset := 18, embedded := false, tag := "", pkgPath := "", byteOffset := 144 } d18 rfl rfl
  have g19 := hf 19 { name := "Work", type := 3, offset := 19, embedded := false, tag := "", pkgPath := "", byteOffset := 152 } d19 rfl rfl
  have g20 := hf 20 { name := "Start", type := 22, offset := 20, embedded := false, tag := "", pkgPath := "", byteOffset := 160 } d20 rfl rfl
  have g21 := hf 21 { name := "Last", type := 22, offset := 21, embedded := false, tag := "", pkgPath := "", byteOffset := 168 } d21 rfl rfl
  simp only [show Try.prog.cellsOf 3 = 1 by kernel_rfl, show Try.prog.cellsOf 22 = 1 by kernel_rfl, List.drop_zero, List.drop_succ_cons, List.take_succ_cons, List.take_zero] at g0 g1 g2 g3 g4 g5 g6 g7 g8 g9 g10 g11 g12 g13 g14 g15 g16 g17 g18 g19 g20 g21
  obtain ⟨x0, e0, _, w0⟩ := lies_int Try.underlying3 g0
  obtain ⟨x1, e1, _, w1⟩ := lies_int Try.underlying3 g1
  obtain ⟨x2, e2, _, w2⟩ := lies_int Try.underlying3 g2
  obtain ⟨x3, e3, _, w3⟩ := lies_int Try.underlying3 g3
  obtain ⟨x4, e4, _, w4⟩ := lies_int Try.underlying3 g4
  obtain ⟨x5, e5, _, w5⟩ := lies_int Try.underlying3 g5
  obtain ⟨x6, e6, _, w6⟩ := lies_int Try.underlying3 g6
  obtain ⟨x7, e7, _, w7⟩ := lies_int Try.underlying3 g7
  obtain ⟨x8, e8, _, w8⟩ := lies_int Try.underlying3 g8
  obtain ⟨x9, e9, _, w9⟩ := lies_int Try.underlying3 g9
  obtain ⟨x10, e10, _, w10⟩ := lies_int Try.underlying3 g10
  obtain ⟨x11, e11, _, w11⟩ := lies_int Try.underlying3 g11
  obtain ⟨x12, e12, _, w12⟩ := lies_int Try.underlying3 g12
  obtain ⟨x13, e13, _, w13⟩ := lies_int Try.underlying3 g13
  obtain ⟨x14, e14, _, w14⟩ := lies_int Try.underlying3 g14
  obtain ⟨x15, e15, _, w15⟩ := lies_int Try.underlying3 g15
  obtain ⟨x16, e16, _, w16⟩ := lies_int Try.underlying3 g16
  obtain ⟨x17, e17, _, w17⟩ := lies_int Try.underlying3 g17
  obtain ⟨x18, e18, _, w18⟩ := lies_int Try.underlying3 g18
  obtain ⟨x19, e19, _, w19⟩ := lies_int Try.underlying3 g19
  obtain ⟨x20, e20, _, w20⟩ := lies_int Try.underlying22 g20
  obtain ⟨x21, e21, _, w21⟩ := lies_int Try.underlying22 g21
  simp only [List.cons.injEq, and_true] at e0 e1 e2 e3 e4 e5 e6 e7 e8 e9 e10 e11 e12 e13 e14 e15 e16 e17 e18 e19 e20 e21
  subst e0 e1 e2 e3 e4 e5 e6 e7 e8 e9 e10 e11 e12 e13 e14 e15 e16 e17 e18 e19 e20 e21
  exact ⟨⟨x0, x1, x2, x3, x4, x5, x6, x7, x8, x9, x10, x11, x12, x13, x14, x15, x16, x17, x18, x19, x20, x21⟩, rfl, w20, w21⟩
theorem Idn_of_lies {H : Type} {w : World} {n : Nat} {cs : List Value} {d : DataW H} (h : Lies Try.prog w (n + 2) 36 cs d) : ∃ x : Idn, cs = x.cells ∧ (Lit.int .u64 x.sr).wf = true := by
  obtain ⟨hl, ds, hds, hdl, hf⟩ := lies_struct Try.underlying36 h
  rw [show Try.prog.cellsOf 36 = 2 by kernel_rfl] at hl
  match cs, hl with
  | [c0, c1], _ =>
  match ds, hdl with
  | [d0, d1], _ =>
  have g0 := hf 0 { name := "Node", type := 3, offset := 0, embedded := false, tag := "", pkgPath := "", byteOffset := 0 } d0 rfl rfl
  have g1 := hf 1 { name := "Serial", type := 22, offset := 1, embedded := false, tag := "", pkgPath := "", byteOffset := 8 } d1 rfl rfl
  simp only [show Try.prog.cellsOf 3 = 1 by kernel_rfl, show Try.prog.cellsOf 22 = 1 by kernel_rfl, List.drop_zero, List.drop_succ_cons, List.take_succ_cons, List.take_zero] at g0 g1
  obtain ⟨x0, e0, _, w0⟩ := lies_int Try.underlying3 g0
  obtain ⟨x1, e1, _, w1⟩ := lies_int Try.underlying22 g1
  simp only [List.cons.injEq, and_true] at e0 e1
  subst e0 e1
  exact ⟨⟨x0, x1⟩, rfl, w1⟩
end Go.Proofs.YtnjmkhhaodgpbaaX
