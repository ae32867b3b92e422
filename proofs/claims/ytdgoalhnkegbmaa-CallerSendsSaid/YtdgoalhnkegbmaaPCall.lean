/- Calls, in plain Lean: the table with its lists as contents. -/
import Derived.Test.YtdgoalhnkegbmaaTMoreCB
import Derived.Test.YtdgoalhnkegbmaaQFits
namespace Go.Proofs.YtdgoalhnkegbmaaX
open Go.RowKit
set_option linter.unusedVariables false
set_option linter.unusedSimpArgs false
/-- a call, its lists as such -/
structure Cp where
  to : Int
  num : Int
  op : Int
  field : Int
  tn : Int
  ts : Int
  refs : List (Int × Int)
  value : Int
  state : Int
  code : Int
  result : List (Int × Int)
  back : Int
  sent : Int
  wait : Int
  born : Int
def Cp.cl (y : Cp) (rp : Option Addr) (rc : Nat) (sp : Option Addr) (sc : Nat) : Cl :=
  ⟨y.to, y.num, y.op, y.field, y.tn, y.ts, rp, y.refs.length, rc, y.value, y.state, y.code, sp, y.result.length, sc, y.back, y.sent, y.wait, y.born⟩
/-- IDs in a row of their own -/
abbrev IdRow (w : World) (p : Option Addr) (c : Nat) (l : List (Int × Int)) : Prop := Own 26 2 w p l.length c (l.flatMap idc)
structure CRel (w : World) (foot al : List Nat) (x : Cl) (y : Cp) : Prop where
  lr : y.refs.length ≤ 4096
  ls : y.result.length ≤ 4096
  ex : ∃ rp rc sp sc, x = y.cl rp rc sp sc ∧ IdRow w rp rc y.refs ∧ IdRow w sp sc y.result ∧ (∀ k ∈ fbl rp, k ∉ foot ∧ k ∈ al) ∧ (∀ k ∈ fbl sp, k ∉ foot ∧ k ∈ al)
structure Rl (w : World) (foot al : List Nat) (lm : List (Int × Cl)) (L : List (Int × Cp)) : Prop where
  len : lm.length = L.length
  el : ∀ (i : Nat) (e : Int × Cl), lm[i]? = some e → ∃ f : Int × Cp, L[i]? = some f ∧ e.1 = f.1 ∧ CRel w foot al e.2 f.2
theorem CRel.keep {w w' : World} {foot al F : List Nat} {x : Cl} {y : Cp} (h : CRel w foot al x y) (f : Fr F w w') (hd : ∀ k ∈ al, k ∉ foot → k ∉ F) : CRel w' foot al x y := by
  obtain ⟨rp, rc, sp, sc, h1, h2, h3, h4, h5⟩ := h.ex
  exact ⟨h.lr, h.ls, rp, rc, sp, sc, h1, h2.keep f (fun k hk => hd k (h4 k hk).2 (h4 k hk).1), h3.keep f (fun k hk => hd k (h5 k hk).2 (h5 k hk).1), h4, h5⟩
theorem CRel.lt {w : World} {foot al : List Nat} {x : Cl} {y : Cp} (h : CRel w foot al x y) : True := trivial
/-- other feet, more blocks -/
theorem CRel.mono {w : World} {foot al foot' al' : List Nat} {x : Cl} {y : Cp} (h : CRel w foot al x y) (h1 : ∀ k ∈ al, k ∉ foot → k ∉ foot') (h2 : ∀ k ∈ al, k ∉ foot → k ∈ al') : CRel w foot' al' x y := by
  obtain ⟨rp, rc, sp, sc, e1, e2, e3, h4, h5⟩ := h.ex
  exact ⟨h.lr, h.ls, rp, rc, sp, sc, e1, e2, e3, fun k hk => ⟨h1 k (h4 k hk).2 (h4 k hk).1, h2 k (h4 k hk).2 (h4 k hk).1⟩, fun k hk => ⟨h1 k (h5 k hk).2 (h5 k hk).1, h2 k (h5 k hk).2 (h5 k hk).1⟩⟩
section
variable {w w' : World} {foot al foot' al' F : List Nat} {lm : List (Int × Cl)} {L : List (Int × Cp)} {k : Int} {x : Cl} {y : Cp}
theorem Rl.keep (h : Rl w foot al lm L) (f : Fr F w w') (hd : ∀ k ∈ al, k ∉ foot → k ∉ F) : Rl w' foot al lm L := ⟨h.len, fun i e he => by
  obtain ⟨g, h1, h2, h3⟩ := h.el i e he
  exact ⟨g, h1, h2, h3.keep f hd⟩⟩
theorem Rl.mono (h : Rl w foot al lm L) (h1 : ∀ k ∈ al, k ∉ foot → k ∉ foot') (h2 : ∀ k ∈ al, k ∉ foot → k ∈ al') : Rl w foot' al' lm L := ⟨h.len, fun i e he => by
  obtain ⟨g, e1, e2, e3⟩ := h.el i e he
  exact ⟨g, e1, e2, e3.mono h1 h2⟩⟩
theorem keysG_get {β : Type} {l : List (Int × β)} (i : Nat) : (keys l)[i]? = (l[i]?).map (·.1) := by unfold keys; rw [List.getElem?_map]
theorem Rl.keys (h : Rl w foot al lm L) : keys lm = keys L := by
  apply List.ext_getElem?
  intro i
  rw [keysG_get, keysG_get]
  cases he : lm[i]? with
  | none =>
    have : L.length ≤ i := by rw [← h.len]; exact List.getElem?_eq_none_iff.1 he
    rw [List.getElem?_eq_none this]
    rfl
  | some e =>
    obtain ⟨f, h1, h2, _⟩ := h.el i e he
    rw [h1]
    simp [h2]
theorem at_keys {β γ : Type} {l : List (Int × β)} {m : List (Int × γ)} (h : Go.Proofs.YtdgoalhnkegbmaaX.keys l = Go.Proofs.YtdgoalhnkegbmaaX.keys m) (k : Int) : at_ ilt l k = at_ ilt m k := by unfold at_; rw [h]
theorem has_keys {β γ : Type} {l : List (Int × β)} {m : List (Int × γ)} (h : Go.Proofs.YtdgoalhnkegbmaaX.keys l = Go.Proofs.YtdgoalhnkegbmaaX.keys m) (k : Int) : has ilt l k = has ilt m k := by unfold has; rw [h, at_keys h]
theorem next_keys {β γ : Type} {l : List (Int × β)} {m : List (Int × γ)} (h : Go.Proofs.YtdgoalhnkegbmaaX.keys l = Go.Proofs.YtdgoalhnkegbmaaX.keys m) (k : Int) : next ilt l k = next ilt m k := by unfold next; rw [h, has_keys h, at_keys h]
theorem after_keys {β γ : Type} {l : List (Int × β)} {m : List (Int × γ)} (h : Go.Proofs.YtdgoalhnkegbmaaX.keys l = Go.Proofs.YtdgoalhnkegbmaaX.keys m) (k : Int) : after ilt l k = after ilt m k := by unfold after; rw [h, next_keys h]
theorem Rl.get (h : Rl w foot al lm L) (k : Int) : (Go.Proofs.YtdgoalhnkegbmaaX.get ilt lm k = none ∧ Go.Proofs.YtdgoalhnkegbmaaX.get ilt L k = none) ∨ ∃ x y, Go.Proofs.YtdgoalhnkegbmaaX.get ilt lm k = some x ∧ Go.Proofs.YtdgoalhnkegbmaaX.get ilt L k = some y ∧ CRel w foot al x y := by
  have hk := has_keys h.keys k
  have ha := at_keys h.keys k
  unfold Go.Proofs.YtdgoalhnkegbmaaX.get
  rw [hk, ha]
  by_cases hh : has ilt L k = true
  · rw [if_pos hh, if_pos hh]
    have hlt : at_ ilt L k < L.length := at_lt hh
    have hlt2 : at_ ilt L k < lm.length := by rw [h.len]; exact hlt
    have he := List.getElem?_eq_getElem hlt2
    generalize lm[at_ ilt L k] = e at he
    obtain ⟨f, h1, _, h3⟩ := h.el _ e he
    exact .inr ⟨e.2, f.2, by rw [he]; rfl, by rw [h1]; rfl, h3⟩
  · rw [if_neg hh, if_neg hh]
    exact .inl ⟨rfl, rfl⟩
theorem Rl.put (h : Rl w foot al lm L) (k : Int) (r : CRel w foot al x y) : Rl w foot al (Go.Proofs.YtdgoalhnkegbmaaX.put ilt lm k x) (Go.Proofs.YtdgoalhnkegbmaaX.put ilt L k y) := by
  have hk := has_keys h.keys k
  have ha := at_keys h.keys k
  have hl := h.len
  refine ⟨by rw [put_length, put_length, hk, h.len], fun i e he => ?_⟩
  unfold Go.Proofs.YtdgoalhnkegbmaaX.put at he ⊢
  rw [hk, ha] at he
  by_cases hh : has ilt L k = true
  · rw [if_pos hh] at he ⊢
    rw [List.getElem?_set] at he ⊢
    by_cases hi : at_ ilt L k = i
    · rw [if_pos hi] at he ⊢
      split at he
      · rename_i hlt
        injection he with he; subst he
        exact ⟨(k, y), by rw [if_pos (by omega)], rfl, r⟩
      · cases he
    · rw [if_neg hi] at he ⊢
      exact h.el i e he
  · rw [if_neg hh] at he ⊢
    have hal : at_ ilt L k ≤ L.length := at_le L k
    have htl : (lm.take (at_ ilt L k)).length = at_ ilt L k := by rw [List.length_take]; omega
    have htL : (L.take (at_ ilt L k)).length = at_ ilt L k := by rw [List.length_take]; omega
    by_cases h1 : i < at_ ilt L k
    · rw [List.getElem?_append_left (by omega), List.getElem?_take_of_lt h1] at he
      rw [List.getElem?_append_left (by omega), List.getElem?_take_of_lt h1]
      exact h.el i e he
    · rw [List.getElem?_append_right (by omega), htl] at he
      rw [List.getElem?_append_right (by omega), htL]
      by_cases h2 : i - at_ ilt L k = 0
      · rw [h2] at he ⊢
        simp only [List.getElem?_cons_zero, Option.some.injEq] at he ⊢
        subst he
        exact ⟨(k, y), rfl, rfl, r⟩
      · obtain ⟨j, hj⟩ : ∃ j, i - at_ ilt L k = j + 1 := ⟨i - at_ ilt L k - 1, by omega⟩
        rw [hj, List.getElem?_cons_succ, List.getElem?_drop] at he
        rw [hj, List.getElem?_cons_succ, List.getElem?_drop]
        exact h.el _ e he
theorem Rl.drp (h : Rl w foot al lm L) (k : Int) : Rl w foot al (Go.Proofs.YtdgoalhnkegbmaaX.drp ilt lm k) (Go.Proofs.YtdgoalhnkegbmaaX.drp ilt L k) := by
  have hk := has_keys h.keys k
  have ha := at_keys h.keys k
  have hl := h.len
  refine ⟨by rw [drp_length, drp_length, hk, h.len], fun i e he => ?_⟩
  unfold Go.Proofs.YtdgoalhnkegbmaaX.drp at he ⊢
  rw [hk, ha] at he
  by_cases hh : has ilt L k = true
  · rw [if_pos hh] at he ⊢
    have hal : at_ ilt L k ≤ L.length := at_le L k
    have htl : (lm.take (at_ ilt L k)).length = at_ ilt L k := by rw [List.length_take]; omega
    have htL : (L.take (at_ ilt L k)).length = at_ ilt L k := by rw [List.length_take]; omega
    by_cases h1 : i < at_ ilt L k
    · rw [List.getElem?_append_left (by omega), List.getElem?_take_of_lt h1] at he
      rw [List.getElem?_append_left (by omega), List.getElem?_take_of_lt h1]
      exact h.el i e he
    · rw [List.getElem?_append_right (by omega), htl, List.getElem?_drop] at he
      rw [List.getElem?_append_right (by omega), htL, List.getElem?_drop]
      exact h.el _ e he
  · rw [if_neg hh] at he ⊢
    exact h.el i e he
end
end Go.Proofs.YtdgoalhnkegbmaaX
