/- The lays that a row hands in, and how much they are. -/
import Derived.Test.YtgeinpljchpdgaaRows
import Derived.Test.YtgeinpljchpdgaaL1Laid
namespace Go.Proofs.YtgeinpljchpdgaaX
open Go.RowKit Go.Proofs.Ytgeinpljchpdgaa
set_option linter.unusedVariables false
theorem bulk_pos {H : Type} (d : DataW H) : 1 ≤ Rows.uptoBulk d := by
  cases d with
  | lit v => cases v <;> simp [Rows.uptoBulk]
  | _ => simp [Rows.uptoBulk]
theorem bulkAll_len {H : Type} : ∀ (ds : List (DataW H)), ds.length ≤ Rows.uptoBulkAll ds
  | [] => by simp [Rows.uptoBulkAll]
  | d :: ds => by
    have := bulk_pos d
    have := bulkAll_len ds
    simp only [List.length_cons, Rows.uptoBulkAll]
    omega
theorem bulkL_le {H : Type} : ∀ (elems : List (DataW H)) (ls : List LayD), ls.length = elems.length → (∀ (i : Nat) (y : DataW H) (l : LayD), elems[i]? = some y → ls[i]? = some l → l.t.length + 1 ≤ Rows.uptoBulk y) → bulkL ls ≤ Rows.uptoBulkAll elems
  | [], [], _, _ => by simp [bulkL]
  | y :: elems, l :: ls, hl, h => by
    have h0 := h 0 y l rfl rfl
    have := bulkL_le elems ls (by simpa using hl) (fun i y l hy hl => h (i + 1) y l (by simpa using hy) (by simpa using hl))
    simp only [bulkL, Rows.uptoBulkAll]
    omega
  | [], _ :: _, hl, _ => by simp at hl
  | _ :: _, [], hl, _ => by simp at hl
theorem lays_of_lies {H : Type} {w : World} {n : Nat} {cs : List Value} {d : DataW H} (h : Lies Try.prog w (n + 4) 22 cs d) : ∃ x len cap ls, cs = [.slice x len cap] ∧ LaysAt w x len ls ∧ bulkL ls ≤ Rows.uptoBulk d := by
  rcases lies_slice (P := Try.prog) (e := 30) Try.underlying22 h with ⟨h1, h2⟩ | ⟨a, len, cap, elems, rest, h1, h2, hl, hm, hlen, hel⟩
  · exact ⟨none, 0, 0, [], h1, ⟨rfl, by simp⟩, by simp [bulkL]⟩
  · obtain ⟨ls, hbl, hb⟩ := list_of (R := fun i (y : DataW H) (l : LayD) => LayAt w (a.add (i * 4)) l ∧ l.t.length + 1 ≤ Rows.uptoBulk y) elems 0 (fun i y hy => by
      obtain ⟨cs', hcl, hcell, hly⟩ := hel i y hy
      have hsz : Try.prog.cellsOf 30 = 4 := by kernel_rfl
      rw [hsz] at hcl hcell
      obtain ⟨_, ds, hds, hdl, hf⟩ := lies_struct Try.underlying30 hly
      match cs', hcl with
      | [c0, c1, c2, c3], _ =>
      match ds, hdl with
      | [d0, d1, d2, d3], _ =>
      have g0 := hf 0 { name := "What", type := 3, offset := 0, embedded := false, tag := "", pkgPath := "", byteOffset := 0 } d0 rfl rfl
      have g1 := hf 1 { name := "B", type := 5, offset := 1, embedded := false, tag := "", pkgPath := "", byteOffset := 8 } d1 rfl rfl
      have g2 := hf 2 { name := "N", type := 28, offset := 2, embedded := false, tag := "", pkgPath := "", byteOffset := 16 } d2 rfl rfl
      have g3 := hf 3 { name := "T", type := 23, offset := 3, embedded := false, tag := "", pkgPath := "", byteOffset := 24 } d3 rfl rfl
      have s3 : Try.prog.cellsOf 3 = 1 := by kernel_rfl
      have s5 : Try.prog.cellsOf 5 = 1 := by kernel_rfl
      have s28 : Try.prog.cellsOf 28 = 1 := by kernel_rfl
      have s23 : Try.prog.cellsOf 23 = 1 := by kernel_rfl
      simp only [s3, s5, s28, s23, List.drop_zero, List.drop_succ_cons, List.take_succ_cons, List.take_zero] at g0 g1 g2 g3
      obtain ⟨x0, e0, _, w0⟩ := lies_int Try.underlying3 g0
      obtain ⟨x1, e1, _, w1⟩ := lies_int Try.underlying5 g1
      obtain ⟨x2, e2, _, w2⟩ := lies_int Try.underlying28 g2
      obtain ⟨tx, tm, tc, bs, e3, hbs, hd3⟩ := lies_bytes Try.underlying23 Try.underlying5 s5 g3
      simp only [List.cons.injEq, and_true] at e0 e1 e2 e3
      subst e0; subst e1; subst e2; subst e3
      have r2 := u64b w2
      have hx2 : ((x2.toNat : Nat) : Int) = x2 := by omega
      refine ⟨⟨x0, x1, x2.toNat, tx, tm, tc, bs⟩, ⟨?_, ?_, ?_, ?_, u8b w1, by show x2.toNat ≤ _; omega, hbs⟩, ?_⟩
      · rw [Nat.zero_add, add_add]; exact hcell 0 _ rfl
      · rw [Nat.zero_add, add_add]; exact hcell 1 _ rfl
      · rw [Nat.zero_add, add_add]; show _ = some (Value.int .u64 ((x2.toNat : Nat) : Int)); rw [hx2]; exact hcell 2 _ rfl
      · rw [Nat.zero_add, add_add]; exact hcell 3 _ rfl
      · show bs.length + 1 ≤ _
        rw [hds]
        simp only [Rows.uptoBulk, Rows.uptoBulkAll]
        rcases hd3 with ⟨hd3, hbe⟩ | ⟨es, rs, hd3, hbe⟩
        · rw [hbe]; simp
        · rw [hd3]
          have := bulkAll_len es
          simp only [Rows.uptoBulk]
          omega)
    have get : ∀ i l, ls[i]? = some l → ∃ y, elems[i]? = some y ∧ LayAt w (a.add (i * 4)) l ∧ l.t.length + 1 ≤ Rows.uptoBulk y := fun i l hi => by
      have hlt : i < elems.length := by have := (List.getElem?_eq_some_iff.1 hi).1; omega
      have := hb i _ l (List.getElem?_eq_getElem hlt) hi
      rw [Nat.zero_add] at this
      exact ⟨_, List.getElem?_eq_getElem hlt, this⟩
    refine ⟨some a, len, cap, ls, h1, ⟨by omega, fun i l hi => ?_⟩, ?_⟩
    · obtain ⟨_, _, h, _⟩ := get i l hi
      exact ⟨a, rfl, h⟩
    · rw [h2]
      have := bulkL_le elems ls hbl (fun i y l hy hl => by
        obtain ⟨y', hy', _, h⟩ := get i l hl
        rw [hy] at hy'
        injection hy' with hy'
        rw [hy']; exact h)
      simp only [Rows.uptoBulk]
      omega
theorem codecBack_row {H : Type} {w : World} {y : Option Addr} {m d : Nat} {dd : DataW H} (h2 : Lies Try.prog w 6 22 [.slice y m d] dd) (hm : m * 48 ≤ 140737488351232) (hB : Rows.uptoBulkAll ([dd] ++ []) ≤ 1048576) :
    CallR Try.prog 8 #[.slice y m d] w fun v w' => v = .bool true ∧ Fr [] w w' := by
  obtain ⟨y', m', d', ls, e, hk, hb⟩ := lays_of_lies h2
  simp only [List.cons.injEq, Value.slice.injEq, and_true] at e
  obtain ⟨rfl, rfl, rfl⟩ := e
  simp only [List.append_nil, Rows.uptoBulkAll] at hB
  exact codecBack hk (by omega) (by omega)
end Go.Proofs.YtgeinpljchpdgaaX
