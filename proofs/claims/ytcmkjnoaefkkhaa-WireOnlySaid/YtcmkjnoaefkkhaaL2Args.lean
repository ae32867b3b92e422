/- A message that a row hands in. -/
import Derived.Test.YtcmkjnoaefkkhaaXSized
import Derived.Test.YtcmkjnoaefkkhaaL2Enc
namespace Go.Proofs.YtcmkjnoaefkkhaaX
open Go.RowKit
set_option linter.unusedVariables false
set_option linter.unusedSimpArgs false
set_option maxRecDepth 100000
theorem id_of_lies {H : Type} {w : World} {n : Nat} {cs : List Value} {d : DataW H} (h : Lies Try.prog w (n + 2) 24 cs d) : ∃ x : Int × Int, cs = idc x ∧ (Lit.int .u64 x.2).wf = true := by
  obtain ⟨hl, ds, hds, hdl, hf⟩ := lies_struct Try.underlying24 h
  rw [show Try.prog.cellsOf 24 = 2 by kernel_rfl] at hl
  match cs, hl with
  | [c0, c1], _ =>
  match ds, hdl with
  | [d0, d1], _ =>
  have g0 := hf 0 { name := "Node", type := 3, offset := 0, embedded := false, tag := "", pkgPath := "", byteOffset := 0 } d0 rfl rfl
  have g1 := hf 1 { name := "Serial", type := 22, offset := 1, embedded := false, tag := "", pkgPath := "", byteOffset := 8 } d1 rfl rfl
  simp only [show Try.prog.cellsOf 3 = 1 by kernel_rfl, show Try.prog.cellsOf 22 = 1 by kernel_rfl, List.drop_zero, List.drop_succ_cons, List.take_succ_cons, List.take_zero] at g0 g1
  obtain ⟨x0, e0, _, _⟩ := lies_int Try.underlying3 g0
  obtain ⟨x1, e1, _, w1⟩ := lies_int Try.underlying22 g1
  simp only [List.cons.injEq, and_true] at e0 e1
  subst e0; subst e1
  exact ⟨(x0, x1), rfl, w1⟩
theorem cells_ids {w : World} {a : Addr} {l : List (Int × Int)} (h : ∀ i x, l[i]? = some x → w.cell? (a.add (i * 2)) = some (.int .i64 x.1) ∧ w.cell? (a.add (i * 2 + 1)) = some (.int .u64 x.2)) : Cells w (some a) (l.flatMap idc) := by
  intro j u hj
  refine ⟨a, rfl, ?_⟩
  have hlen : (l.flatMap idc).length = l.length * 2 := flat_length idc_len l
  have hjl := (List.getElem?_eq_some_iff.1 hj).1
  have hi : j / 2 < l.length := by omega
  have hg := List.getElem?_eq_getElem hi
  obtain ⟨h1, h2⟩ := h _ _ hg
  by_cases e : j % 2 = 0
  · have := flat_get idc_len l hg (j := 0) rfl
    rw [show j / 2 * 2 + 0 = j by omega, hj] at this
    injection this with this
    subst this
    rw [show j / 2 * 2 = j by omega] at h1
    exact h1
  · have := flat_get idc_len l hg (j := 1) rfl
    rw [show j / 2 * 2 + 1 = j by omega, hj] at this
    injection this with this
    subst this
    rw [show j / 2 * 2 + 1 = j by omega] at h2
    exact h2
theorem refs_of_lies {H : Type} {w : World} {n : Nat} {cs : List Value} {d : DataW H} (h : Lies Try.prog w (n + 3) 25 cs d) (hs : SizedD Try.prog 25 d) :
    ∃ (p : Option Addr) (c : Nat) (l : List (Int × Int)), cs = [.slice p l.length c] ∧ Cells w p (l.flatMap idc) ∧ l.length ≤ c ∧ (p = none → c = 0) ∧ l.length * 16 ≤ 140737488351232 := by
  rcases lies_slice (P := Try.prog) (e := 24) Try.underlying25 h with ⟨h1, h2⟩ | ⟨a, len, cap, elems, rest, h1, h2, hl, hm, hlen, hel⟩
  · exact ⟨none, 0, [], h1, fun j u hj => by simp at hj, Nat.le_refl _, fun _ => rfl, by simp⟩
  · subst h2
    have hz := sized_len Try.underlying25 hs
    rw [show Try.prog.bytesOf 24 = 16 by kernel_rfl] at hz
    obtain ⟨l, hbl, hb⟩ := list_of (R := fun i (y : DataW H) (x : Int × Int) => w.cell? (a.add (i * 2)) = some (.int .i64 x.1) ∧ w.cell? (a.add (i * 2 + 1)) = some (.int .u64 x.2)) elems 0 (fun i y hy => by
      obtain ⟨cs', hcl, hcell, hly⟩ := hel i y hy
      obtain ⟨x, rfl, _⟩ := id_of_lies hly
      rw [show Try.prog.cellsOf 24 = 2 by kernel_rfl] at hcell
      exact ⟨x, by simpa using hcell 0 _ rfl, by simpa using hcell 1 _ rfl⟩)
    refine ⟨some a, cap, l, by rw [h1]; congr 2; omega, cells_ids fun i x hi => ?_, by omega, (fun h => by cases h), by omega⟩
    have hlt : i < elems.length := by have := (List.getElem?_eq_some_iff.1 hi).1; omega
    have := hb i _ x (List.getElem?_eq_getElem hlt) hi
    rwa [Nat.zero_add] at this
theorem list_of_lies {H : Type} {w : World} {n : Nat} {cs : List Value} {d : DataW H} (h : Lies Try.prog w (n + 2) 26 cs d) (hs : SizedD Try.prog 26 d) :
    ∃ (p : Option Addr) (c : Nat) (l : List Int), cs = [.slice p l.length c] ∧ Cells w p (l.map (Value.int .u64)) ∧ l.length ≤ c ∧ (p = none → c = 0) ∧ l.length * 8 ≤ 140737488351232 := by
  rcases lies_slice (P := Try.prog) (e := 22) Try.underlying26 h with ⟨h1, h2⟩ | ⟨a, len, cap, elems, rest, h1, h2, hl, hm, hlen, hel⟩
  · exact ⟨none, 0, [], h1, fun j u hj => by simp at hj, Nat.le_refl _, fun _ => rfl, by simp⟩
  · subst h2
    have hz := sized_len Try.underlying26 hs
    rw [show Try.prog.bytesOf 22 = 8 by kernel_rfl] at hz
    obtain ⟨l, hbl, hb⟩ := list_of (R := fun i (y : DataW H) (x : Int) => w.cell? (a.add i) = some (.int .u64 x)) elems 0 (fun i y hy => by
      obtain ⟨cs', hcl, hcell, hly⟩ := hel i y hy
      obtain ⟨x, rfl, _, _⟩ := lies_int Try.underlying22 hly
      rw [show Try.prog.cellsOf 22 = 1 by kernel_rfl] at hcell
      exact ⟨x, by simpa using hcell 0 _ rfl⟩)
    refine ⟨some a, cap, l, by rw [h1]; congr 2; omega, fun j u hj => ⟨a, rfl, ?_⟩, by omega, (fun h => by cases h), by omega⟩
    rw [List.getElem?_map] at hj
    cases hx : l[j]? with
    | none => rw [hx] at hj; cases hj
    | some x =>
      rw [hx] at hj
      simp at hj
      subst hj
      have hlt : j < elems.length := by have := (List.getElem?_eq_some_iff.1 hx).1; omega
      have := hb j _ x (List.getElem?_eq_getElem hlt) hx
      rwa [Nat.zero_add] at this
theorem msg_of_lies {H : Type} {w : World} {n : Nat} {cs : List Value} {d : DataW H} (h : Lies Try.prog w (n + 4) 28 cs d) (hs : SizedD Try.prog 28 d) :
    ∃ m rp rc lp lc, cs = Msg.cells m rp rc lp lc ∧ MM w m rp rc lp lc ∧ Wf m := by
  obtain ⟨hl, ds, hds, hdl, hf⟩ := lies_struct Try.underlying28 h
  rw [show Try.prog.cellsOf 28 = 19 by kernel_rfl] at hl
  subst hds
  match cs, hl with
  | [c0, c1, c2, c3, c4, c5, c6, c7, c8, c9, c10, c11, c12, c13, c14, c15, c16, c17, c18], _ =>
  match ds, hdl with
  | [d0, d1, d2, d3, d4, d5, d6, d7, d8, d9, d10, d11, d12, d13, d14, d15, d16, d17], _ =>
  have g0 := hf 0 { name := "Kind", type := 3, offset := 0, embedded := false, tag := "", pkgPath := "", byteOffset := 0 } d0 rfl rfl
  have g1 := hf 1 { name := "From", type := 3, offset := 1, embedded := false, tag := "", pkgPath := "", byteOffset := 8 } d1 rfl rfl
  have g2 := hf 2 { name := "To", type := 3, offset := 2, embedded := false, tag := "", pkgPath := "", byteOffset := 16 } d2 rfl rfl
  have g3 := hf 3 { name := "Call", type := 22, offset := 3, embedded := false, tag := "", pkgPath := "", byteOffset := 24 } d3 rfl rfl
  have g4 := hf 4 { name := "Floor", type := 22, offset := 4, embedded := false, tag := "", pkgPath := "", byteOffset := 32 } d4 rfl rfl
  have g5 := hf 5 { name := "Op", type := 3, offset := 5, embedded := false, tag := "", pkgPath := "", byteOffset := 40 } d5 rfl rfl
  have g6 := hf 6 { name := "Field", type := 3, offset := 6, embedded := false, tag := "", pkgPath := "", byteOffset := 48 } d6 rfl rfl
  have g7 := hf 7 { name := "Item", type := 3, offset := 7, embedded := false, tag := "", pkgPath := "", byteOffset := 56 } d7 rfl rfl
  have g8 := hf 8 { name := "Target", type := 24, offset := 8, embedded := false, tag := "", pkgPath := "", byteOffset := 64 } d8 rfl rfl
  have g9 := hf 9 { name := "Refs", type := 25, offset := 10, embedded := false, tag := "", pkgPath := "", byteOffset := 80 } d9 rfl rfl
  have g10 := hf 10 { name := "Value", type := 22, offset := 11, embedded := false, tag := "", pkgPath := "", byteOffset := 104 } d10 rfl rfl
  have g11 := hf 11 { name := "Code", type := 3, offset := 12, embedded := false, tag := "", pkgPath := "", byteOffset := 112 } d11 rfl rfl
  have g12 := hf 12 { name := "Seq", type := 22, offset := 13, embedded := false, tag := "", pkgPath := "", byteOffset := 120 } d12 rfl rfl
  have g13 := hf 13 { name := "Voucher", type := 3, offset := 14, embedded := false, tag := "", pkgPath := "", byteOffset := 128 } d13 rfl rfl
  have g14 := hf 14 { name := "At", type := 22, offset := 15, embedded := false, tag := "", pkgPath := "", byteOffset := 136 } d14 rfl rfl
  have g15 := hf 15 { name := "Dist", type := 3, offset := 16, embedded := false, tag := "", pkgPath := "", byteOffset := 144 } d15 rfl rfl
  have g16 := hf 16 { name := "Stamp", type := 22, offset := 17, embedded := false, tag := "", pkgPath := "", byteOffset := 152 } d16 rfl rfl
  have g17 := hf 17 { name := "List", type := 26, offset := 18, embedded := false, tag := "", pkgPath := "", byteOffset := 160 } d17 rfl rfl
  have s9 : SizedD Try.prog 25 d9 := sized_field (i := 9) Try.underlying28 hs (f := { name := "Refs", type := 25, offset := 10, embedded := false, tag := "", pkgPath := "", byteOffset := 80 }) rfl rfl
  have s17 : SizedD Try.prog 26 d17 := sized_field (i := 17) Try.underlying28 hs (f := { name := "List", type := 26, offset := 18, embedded := false, tag := "", pkgPath := "", byteOffset := 160 }) rfl rfl
  simp only [show Try.prog.cellsOf 3 = 1 by kernel_rfl, show Try.prog.cellsOf 22 = 1 by kernel_rfl, show Try.prog.cellsOf 24 = 2 by kernel_rfl, show Try.prog.cellsOf 25 = 1 by kernel_rfl, show Try.prog.cellsOf 26 = 1 by kernel_rfl, List.drop_zero, List.drop_succ_cons, List.take_succ_cons, List.take_zero] at g0 g1 g2 g3 g4 g5 g6 g7 g8 g9 g10 g11 g12 g13 g14 g15 g16 g17
  obtain ⟨x0, e0, _, w0⟩ := lies_int Try.underlying3 g0
  obtain ⟨x1, e1, _, w1⟩ := lies_int Try.underlying3 g1
  obtain ⟨x2, e2, _, w2⟩ := lies_int Try.underlying3 g2
  obtain ⟨x3, e3, _, w3⟩ := lies_int Try.underlying22 g3
  obtain ⟨x4, e4, _, w4⟩ := lies_int Try.underlying22 g4
  obtain ⟨x5, e5, _, w5⟩ := lies_int Try.underlying3 g5
  obtain ⟨x6, e6, _, w6⟩ := lies_int Try.underlying3 g6
  obtain ⟨x7, e7, _, w7⟩ := lies_int Try.underlying3 g7
  obtain ⟨x8, e8, w8⟩ := id_of_lies g8
  obtain ⟨rp, rc, x9, e9, r1, r2, r3, r4⟩ := refs_of_lies g9 s9
  obtain ⟨x10, e10, _, w10⟩ := lies_int Try.underlying22 g10
  obtain ⟨x11, e11, _, w11⟩ := lies_int Try.underlying3 g11
  obtain ⟨x12, e12, _, w12⟩ := lies_int Try.underlying22 g12
  obtain ⟨x13, e13, _, w13⟩ := lies_int Try.underlying3 g13
  obtain ⟨x14, e14, _, w14⟩ := lies_int Try.underlying22 g14
  obtain ⟨x15, e15, _, w15⟩ := lies_int Try.underlying3 g15
  obtain ⟨x16, e16, _, w16⟩ := lies_int Try.underlying22 g16
  obtain ⟨lp, lc, x17, e17, l1, l2, l3, l4⟩ := list_of_lies g17 s17
  simp only [idc, List.cons.injEq, and_true] at e0 e1 e2 e3 e4 e5 e6 e7 e8 e9 e10 e11 e12 e13 e14 e15 e16 e17
  obtain ⟨e8, e8'⟩ := e8
  subst e0 e1 e2 e3 e4 e5 e6 e7 e8 e9 e10 e11 e12 e13 e14 e15 e16 e17 e8'
  refine ⟨⟨x0, x1, x2, x3, x4, x5, x6, x7, x8.1, x8.2, x9, x10, x11, x12, x13, x14, x15, x16, x17⟩, rp, rc, lp, lc, rfl, ⟨r1, r2, r3, by show x9.length * 16 ≤ _; omega, l1, l2, l3, by show x17.length * 8 ≤ _; omega⟩, ⟨u64b w4, u64b w10, u64b w14, u64b w16⟩⟩
end Go.Proofs.YtcmkjnoaefkkhaaX
