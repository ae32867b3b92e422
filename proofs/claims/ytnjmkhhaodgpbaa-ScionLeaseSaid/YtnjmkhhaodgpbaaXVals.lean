/- What the operations on values come to. -/
import Derived.Test.YtnjmkhhaodgpbaaXOps
import Derived.Laws.StructEq
import Derived.Laws.BytesString
namespace Go.Proofs.YtnjmkhhaodgpbaaX
open Go.RowKit
set_option linter.unusedVariables false
set_option linter.unusedSimpArgs false
section
variable {P : Program} {w : World}

/-! ### Two structs -/
def mkV (P : Program) (t : TypeId) (xs : List Value) : Value := match P.underlying t with
  | some (.struct _) => .agg ⟨xs⟩
  | _ => xs.headD undef
theorem sizeT_cells {t n : Nat} (h : sizeT P t = some n) : P.cellsOf t = n := by
  obtain ⟨i, hi, rfl⟩ := sizeT_info h
  simp [Program.cellsOf, hi]
theorem run_part_mk {t off n d : Nat} {xs ys : List Value} {b : Bool} (hn : sizeT P t = some n) (hl : off + n ≤ xs.length) (he : eqT P d t ((xs.drop off).take n) ys = some b ∨ eqT P d t ys ((xs.drop off).take n) = some b) :
    (part t ⟨xs⟩ off).run P w = .ok (mkV P t ((xs.drop off).take n)) w := by
  have scal : ∀ dsc, P.underlying t = some dsc → (isAggT P t = some false) → (∀ fs, dsc ≠ .struct fs) → (∃ v, (xs.drop off).take n = [v]) → (part t ⟨xs⟩ off).run P w = .ok (mkV P t ((xs.drop off).take n)) w := by
    intro dsc hu ha hns ⟨v, hv⟩
    have hlen := congrArg List.length hv
    simp at hlen
    have hlt : off < xs.length := by omega
    have h1 : n = 1 := by omega
    subst h1
    simp only [part, Sem.run_bind, run_isAgg ha, Result.andThen_ok, Bool.false_eq_true, if_false, List.getElem?_toArray, List.getElem?_eq_getElem hlt, Sem.run_pure, mkV, hu]
    have hd : (xs.drop off).take 1 = [xs[off]] := by rw [List.drop_eq_getElem_cons hlt]; rfl
    rw [hd]
    cases dsc <;> first | rfl | exact absurd rfl (hns _)
  cases d with
  | zero => rcases he with he | he <;> simp [eqT] at he
  | succ d =>
    cases hu : P.underlying t with
    | none => rcases he with he | he <;> simp [eqT, hu] at he
    | some dsc =>
      have one : (∀ fs, dsc ≠ .struct fs) → ∃ v, (xs.drop off).take n = [v] := by
        intro hns
        rcases he with he | he <;> simp only [eqT, hu] at he <;> split at he <;>
          first
            | (exfalso; rename_i hq; simp only [Option.some.injEq] at hq; exact hns _ hq)
            | (split at he <;> first | exact ⟨_, by assumption⟩ | cases he)
            | cases he
      by_cases hs : ∃ fs, dsc = .struct fs
      · obtain ⟨fs, rfl⟩ := hs
        have ha : isAggT P t = some true := by simp [isAggT, hu]
        simp only [part, Sem.run_bind, run_isAgg ha, Result.andThen_ok, if_true, run_sizeOf hn, Sem.run_pure, mkV, hu]
        congr 2
        apply Array.ext'
        simp [List.extract_eq_take_drop]
      · have hns : ∀ fs, dsc ≠ .struct fs := fun fs e => hs ⟨fs, e⟩
        by_cases hag : isAggT P t = some false
        · exact scal dsc hu hag hns (one hns)
        · exfalso
          apply hag
          rcases he with he | he <;> simp only [eqT, hu] at he <;> split at he <;> first | (rename_i hq; simp only [Option.some.injEq] at hq; subst hq; simp [isAggT, hu]; done) | (rename_i hq; simp only [Option.some.injEq] at hq; exact absurd hq (hns _)) | cases he
theorem eqFields_T (d D : Nat) (ih : ∀ t xs ys b, eqT P d t xs ys = some b → (Op.equalIn D t (mkV P t xs) (mkV P t ys)).run P w = .ok b w) :
    ∀ (fs : List Field) (off : Nat) (xs ys : List Value) (b : Bool), eqFs P (eqT P d) fs off (xs.drop off) (ys.drop off) = some b → off ≤ xs.length → off ≤ ys.length → (Op.eqFields D ⟨xs⟩ ⟨ys⟩ fs).run P w = .ok b w
  | [], off, xs, ys, b, h, _, _ => by
    have hb : b = true := by
      unfold eqFs at h
      split at h
      · simpa using h.symm
      · cases h
      · contradiction
    subst hb
    simp [Op.eqFields]
  | f :: fs, off, xs, ys, b, h, h0, h1 => by
    simp only [eqFs] at h
    cases hc : (f.name != "_" && f.offset == off && sizeT P f.type == some (P.cellsOf f.type) && Nat.ble (P.cellsOf f.type) (xs.drop off).length && Nat.ble (P.cellsOf f.type) (ys.drop off).length) with
    | false => rw [hc] at h; cases h
    | true =>
      rw [hc] at h
      simp only [cond_true] at h
      simp only [Bool.and_eq_true, bne_iff_ne, ne_eq, beq_iff_eq] at hc
      obtain ⟨⟨⟨⟨hnm, hoff⟩, hn⟩, hx⟩, hy⟩ := hc
      have hx := Nat.le_of_ble_eq_true hx
      have hy := Nat.le_of_ble_eq_true hy
      split at h
      · rename_i b1 b2 e1 e2
        simp only [Option.some.injEq] at h
        subst h
        generalize P.cellsOf f.type = n at hn e1 e2 hx hy
        have lens : off + n ≤ xs.length ∧ off + n ≤ ys.length := by simp at hx hy; omega
        rw [List.drop_drop, List.drop_drop] at e2
        have r1 := ih f.type _ _ b1 e1
        have r2 := eqFields_T d D ih fs (off + n) xs ys b2 e2 lens.1 lens.2
        simp only [Op.eqFields, if_pos hnm, hoff, Sem.run_bind, run_part_mk hn lens.1 (.inl e1), run_part_mk hn lens.2 (.inr e1), Result.andThen_ok, r1]
        cases b1 <;> simp [r2]
      · cases h
theorem equalIn_T : ∀ (d t : Nat) (xs ys : List Value) (b : Bool), eqT P d t xs ys = some b → ∀ D, d ≤ D → (Op.equalIn D t (mkV P t xs) (mkV P t ys)).run P w = .ok b w
  | 0, t, xs, ys, b, h, _, _ => by simp [eqT] at h
  | d + 1, t, xs, ys, b, h, D, hD => by
    obtain ⟨D, rfl⟩ : ∃ m, D = m + 1 := ⟨D - 1, by omega⟩
    simp only [eqT] at h
    split at h
    · rename_i k hu
      split at h
      · split at h
        · rename_i hk
          subst hk
          simp only [Option.some.injEq] at h
          subst h
          simp [mkV, hu, Op.equalIn, run_underlying hu]
        · cases h
      · cases h
    · rename_i hu
      split at h
      · simp only [Option.some.injEq] at h
        subst h
        simp [mkV, hu, Op.equalIn, run_underlying hu]
      · cases h
    · rename_i hu
      split at h
      · simp only [Option.some.injEq] at h
        subst h
        simp [mkV, hu, Op.equalIn, run_underlying hu, strEq, beq_toListBytes]
      · cases h
    · rename_i fs hu
      cases hst : P.stoodInHeld t with
      | true => rw [hst] at h; cases h
      | false =>
        rw [hst] at h
        have hfo : P.fieldsOf t = fs := by simp [Program.fieldsOf, hu]
        simp only [mkV, hu]
        rw [run_equalIn_struct w D t ⟨xs⟩ ⟨ys⟩ (by rw [hfo]; exact hu) hst, hfo]
        exact eqFields_T d D (fun t' xs' ys' b' e => equalIn_T d t' xs' ys' b' e D (by omega)) fs.toList 0 xs ys b (by simpa using h) (by omega) (by omega)
    · cases h

theorem eqT_struct {d t : Nat} {xs ys : List Value} {b : Bool} (h : eqT P d t xs ys = some b) {fs : Array Field} (hu : P.underlying t = some (.struct fs)) : mkV P t xs = .agg ⟨xs⟩ ∧ mkV P t ys = .agg ⟨ys⟩ := by
  simp [mkV, hu]
theorem run_eqGuard_other (op : BinOp) (t : TypeId) (x y : Operand) (a b : Value) (h1 : ∀ cs, a ≠ .agg cs) (h2 : a ≠ .nilIface) : (eqGuard op t x y a b).run P w = .ok () w := by
  unfold eqGuard
  cases op <;> simp <;> (split <;> first | rfl | (exfalso; first | exact h2 rfl | exact h1 _ rfl) | simp)
theorem run_shift (op : BinOp) (k k' : IntKind) (a b : Int) (t : TypeId) (h : op = .shl ∨ op = .shr) : (binOp op t (.int k a) (.int k' b)).run P w = (Op.shift op k a k' b).run P w := by
  rcases h with rfl | rfl <;> rfl
theorem equal_succ (t : TypeId) (x y : Value) : Op.equal t x y = Op.equalIn (9999 + 1) t x y := rfl
theorem equalIn_ptr (d : Nat) {t e : TypeId} (hd : P.underlying t = some (.pointer e)) (a : Option Addr) : (Op.equalIn (d + 1) t (.pointer a) (.pointer none)).run P w = .ok a.isNone w := by
  cases a <;> simp [Op.equalIn, run_underlying hd]
theorem equalIn_slice (d : Nat) {t e : TypeId} (hd : P.underlying t = some (.slice e)) (a : Option Addr) (n c n' c' : Nat) : (Op.equalIn (d + 1) t (.slice a n c) (.slice none n' c')).run P w = .ok a.isNone w := by
  cases a <;> simp [Op.equalIn, run_underlying hd]
theorem binW_run {op : BinOp} {t : TypeId} {x y : Value} {K : Value → Prop} (h : binW P op t x y K) :
    ∃ v, K v ∧ ∀ (w : World) (xo yo : Operand), (do eqGuard op t xo yo x y; binOp op t x y : Sem Value).run P w = .ok v w := by
  have nog : ∀ {v : Value}, (∀ cs, x ≠ .agg cs) → x ≠ .nilIface → (∀ w : World, (binOp op t x y).run P w = .ok v w) → ∀ (w : World) (xo yo : Operand), (do eqGuard op t xo yo x y; binOp op t x y : Sem Value).run P w = .ok v w := by
    intro v h1 h2 h3 w xo yo
    simp only [Sem.run_bind, run_eqGuard_other op t xo yo x y h1 h2, Result.andThen_ok, h3]
  unfold binW at h
  split at h
  · refine ⟨_, h.2, nog (by simp) (by simp) (fun w => ?_)⟩
    rw [run_shift _ _ _ _ _ _ (.inl rfl)]
    simp only [Op.shift, iShl]
    rw [if_neg (by omega)]
    rfl
  · refine ⟨_, h.2, nog (by simp) (by simp) (fun w => ?_)⟩
    rw [run_shift _ _ _ _ _ _ (.inr rfl)]
    simp only [Op.shift, iShr]
    rw [if_neg (by omega)]
    rfl
  · rename_i op k a k' b hn1 hn2
    split at h
    · rename_i hk
      subst hk
      split at h
      · exact ⟨_, h, nog (by simp) (by simp) (fun w => by simp [binOp, Op.intArith])⟩
      · exact ⟨_, h, nog (by simp) (by simp) (fun w => by simp [binOp, Op.intArith])⟩
      · exact ⟨_, h, nog (by simp) (by simp) (fun w => by simp [binOp, Op.intArith])⟩
      · exact ⟨_, h.2, nog (by simp) (by simp) (fun w => by simp [binOp, Op.intDiv, h.1])⟩
      · exact ⟨_, h.2, nog (by simp) (by simp) (fun w => by simp [binOp, Op.intDiv, h.1])⟩
      · exact ⟨_, h, nog (by simp) (by simp) (fun w => by simp [binOp, Op.intBits, iAnd])⟩
      · exact ⟨_, h, nog (by simp) (by simp) (fun w => by simp [binOp, Op.intBits, iOr])⟩
      · exact ⟨_, h, nog (by simp) (by simp) (fun w => by simp [binOp, Op.intBits, iXor])⟩
      · exact ⟨_, h, nog (by simp) (by simp) (fun w => by simp [binOp, Op.intBits, iAndNot])⟩
      · exact ⟨_, h, nog (by simp) (by simp) (fun w => by simp [binOp, Op.intCmp])⟩
      · exact ⟨_, h, nog (by simp) (by simp) (fun w => by simp [binOp, Op.intCmp])⟩
      · exact ⟨_, h, nog (by simp) (by simp) (fun w => by simp [binOp, Op.intCmp])⟩
      · exact ⟨_, h, nog (by simp) (by simp) (fun w => by simp [binOp, Op.intCmp])⟩
      · exact ⟨_, h, nog (by simp) (by simp) (fun w => by simp [binOp, Op.intCmp])⟩
      · exact ⟨_, h, nog (by simp) (by simp) (fun w => by simp [binOp, Op.intCmp])⟩
      · exact h.elim
    · exact h.elim
  · exact ⟨_, h, nog (by simp) (by simp) (fun w => by simp [binOp, Op.stringOp, strEq])⟩
  · exact ⟨_, h, nog (by simp) (by simp) (fun w => by simp [binOp, Op.stringOp, strEq])⟩
  · exact ⟨_, h, nog (by simp) (by simp) (fun w => by simp [binOp, Op.stringOp, strLt])⟩
  · exact ⟨_, h, nog (by simp) (by simp) (fun w => by simp [binOp, Op.stringOp, strLt, strEq])⟩
  · exact ⟨_, h, nog (by simp) (by simp) (fun w => by simp [binOp, Op.stringOp, strLt, strEq])⟩
  · exact ⟨_, h, nog (by simp) (by simp) (fun w => by simp [binOp, Op.stringOp, strLt])⟩
  · obtain ⟨d, hd, h⟩ := om_elim h
    split at h
    · refine ⟨_, h, nog (by simp) (by simp) (fun w => ?_)⟩
      simp only [binOp, Sem.run_bind, run_equalIn_bool w 9999 t _ _ hd, equal_succ, Result.andThen_ok, Sem.run_pure]
    · exact h.elim
  · obtain ⟨d, hd, h⟩ := om_elim h
    split at h
    · refine ⟨_, h, nog (by simp) (by simp) (fun w => ?_)⟩
      simp only [binOp, Sem.run_bind, run_equalIn_bool w 9999 t _ _ hd, equal_succ, Result.andThen_ok, Sem.run_pure]
    · exact h.elim
  · obtain ⟨d, hd, h⟩ := om_elim h
    split at h
    · refine ⟨_, h, nog (by simp) (by simp) (fun w => ?_)⟩
      simp only [binOp, Sem.run_bind, equalIn_ptr 9999 hd, equal_succ, Result.andThen_ok, Sem.run_pure]
    · exact h.elim
  · obtain ⟨d, hd, h⟩ := om_elim h
    split at h
    · refine ⟨_, h, nog (by simp) (by simp) (fun w => ?_)⟩
      simp only [binOp, Sem.run_bind, equalIn_ptr 9999 hd, equal_succ, Result.andThen_ok, Sem.run_pure]
    · exact h.elim
  · obtain ⟨d, hd, h⟩ := om_elim h
    split at h
    · refine ⟨_, h, nog (by simp) (by simp) (fun w => ?_)⟩
      simp only [binOp, Sem.run_bind, equalIn_slice 9999 hd, equal_succ, Result.andThen_ok, Sem.run_pure]
    · exact h.elim
  · obtain ⟨d, hd, h⟩ := om_elim h
    split at h
    · refine ⟨_, h, nog (by simp) (by simp) (fun w => ?_)⟩
      simp only [binOp, Sem.run_bind, equalIn_slice 9999 hd, equal_succ, Result.andThen_ok, Sem.run_pure]
    · exact h.elim
  · rename_i xs ys
    cases hg : P.eqGuardType P.depth t with
    | true => rw [hg] at h; exact h.elim
    | false =>
      rw [hg] at h
      obtain ⟨⟨fs, hu⟩, h⟩ := h
      obtain ⟨b, hb, h⟩ := om_elim h
      refine ⟨_, h, ?_⟩
      have hagg : mkV P t xs.toList = .agg xs ∧ mkV P t ys.toList = .agg ys := eqT_struct hb hu
      intro w xo yo
      have he := equalIn_T (w := w) 8 t xs.toList ys.toList b hb 10000 (by omega)
      rw [hagg.1, hagg.2] at he
      simp only [Sem.run_bind, run_eqGuard_agg w .eql t xo yo xs ys hg, Result.andThen_ok, run_eql_struct, he]
  · rename_i xs ys
    cases hg : P.eqGuardType P.depth t with
    | true => rw [hg] at h; exact h.elim
    | false =>
      rw [hg] at h
      obtain ⟨⟨fs, hu⟩, h⟩ := h
      obtain ⟨b, hb, h⟩ := om_elim h
      refine ⟨_, h, ?_⟩
      have hagg : mkV P t xs.toList = .agg xs ∧ mkV P t ys.toList = .agg ys := eqT_struct hb hu
      intro w xo yo
      have he := equalIn_T (w := w) 8 t xs.toList ys.toList b hb 10000 (by omega)
      rw [hagg.1, hagg.2] at he
      simp only [Sem.run_bind, run_eqGuard_agg w .neq t xo yo xs ys hg, Result.andThen_ok, run_neq_struct, he]
  · exact h.elim
theorem unW_run {op : UnOp} {x : Value} {K : Value → Prop} (h : unW op x K) : ∃ v, K v ∧ ∀ w : World, (Op.unary op x).run P w = .ok v w := by
  unfold unW at h
  split at h
  · exact ⟨_, h, fun w => by simp [Op.unary, Op.intArith]⟩
  · exact ⟨_, h, fun w => by simp [Op.unary, Op.intBits, iNot, iXor]⟩
  · exact ⟨_, h, fun w => by simp [Op.unary]⟩
  · exact h.elim
theorem markStringish_run (a : Addr) : (markStringish a).run P w = .ok () (markStr w a) := by
  unfold markStringish markStr
  simp only [Sem.run_bind, run_shape, Result.andThen_ok]
  cases w.shape? a.block with
  | none => rfl
  | some x => obtain ⟨t, n⟩ := x; rfl
theorem bytes_run {src dst e : TypeId} (hs : P.underlying src = some (.slice e)) (hd : P.underlying dst = some .string) (he : P.underlying e = some (.int .u8)) {a : Option Addr} {n c : Nat} {xs : List Int} (hB : BytesAt w a n xs) :
    (convert src dst (.slice a n c)).run P w = .ok (.string (strOfNums xs)) w := by
  obtain ⟨hl, hc⟩ := hB
  rcases a with _ | ⟨b, off, spot⟩
  · have hx : xs = [] := by
      cases xs with
      | nil => rfl
      | cons x xs => obtain ⟨p, hp, _⟩ := hc 0 x rfl; cases hp
    subst hx
    exact run_convert_bytes_nil w src e hs he n c dst hd
  · have hz : xs = [] ∨ spot = none := by
      cases xs with
      | nil => exact .inl rfl
      | cons x xs =>
        obtain ⟨p, hp, hq⟩ := hc 0 x rfl
        injection hp with hp
        subst hp
        cases spot with
        | none => exact .inr rfl
        | some s =>
          exfalso
          simp only [Addr.add, if_true, World.cell?] at hq
          split at hq <;> simp at hq
    rcases hz with rfl | rfl
    · simp at hl
      subst hl
      simp [convert, run_underlying hs, run_underlying hd, run_underlying he, Conv.bytesToString, loadCells, loadCellsFrom]
      rfl
    · refine run_convert_bytes_arg w src e hs he b off n c xs hl (fun i hi => ?_) dst hd
      have hi' : i < xs.length := by omega
      obtain ⟨p, hp, hq⟩ := hc i _ (List.getElem?_eq_getElem hi')
      injection hp with hp
      subst hp
      have ha : (⟨b, off, none⟩ : Addr).add i = ⟨b, off + i, none⟩ := by unfold Addr.add; split <;> simp_all
      rw [ha] at hq
      rw [hq]
      simp [List.getD_eq_getElem?_getD, List.getElem?_eq_getElem hi']
theorem convW_run {src dst : TypeId} {x : Value} {K : Value → World → Prop} (h : convW P src dst x w K) : ∃ v w', K v w' ∧ (convert src dst x).run P w = .ok v w' := by
  obtain ⟨s, hs, h⟩ := om_elim h
  obtain ⟨d, hd, h⟩ := om_elim h
  split at h
  · exact ⟨_, _, h, by simp [convert, run_underlying hs, run_underlying hd, Conv.intToInt]⟩
  · exact ⟨_, _, h, by simp [convert, run_underlying hs, run_underlying hd]⟩
  · rename_i e0 e a n c
    cases hb : (src == dst) with
    | false => rw [hb] at h; exact h.elim
    | true =>
      rw [hb] at h
      obtain ⟨ed, he, h⟩ := om_elim h
      split at h
      · refine ⟨_, _, h, ?_⟩
        simp [convert, run_underlying hs, run_underlying hd, run_underlying he, hb, markStringish_run]
      · exact h.elim
  · obtain ⟨ed, he, h⟩ := om_elim h
    split at h
    · obtain ⟨xs, ⟨hl, hc⟩, h⟩ := h
      refine ⟨_, _, h, ?_⟩
      exact bytes_run hs hd he ⟨hl, hc⟩
    · exact h.elim
  · exact h.elim
end
end Go.Proofs.YtnjmkhhaodgpbaaX
