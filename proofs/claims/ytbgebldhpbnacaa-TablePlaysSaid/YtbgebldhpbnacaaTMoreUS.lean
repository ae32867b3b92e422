/- More calls of a table. -/
import Derived.Test.YtbgebldhpbnacaaTTabUS
namespace Go.Proofs.YtbgebldhpbnacaaX
open Go.RowKit
set_option linter.unusedVariables false
set_option linter.unusedSimpArgs false
section
variable {w w' : World} {a : Addr} {foot S : List Nat} {most : Int} {l : List (Int × ByteArray)} {Q : Value → World → Prop}
/-- the key in a place, or none -/
def ktup_US (o : Option Int) : Value := .tuple #[(Value.int .u64) (o.getD 0), .bool o.isSome]
theorem from_US {i : Nat} (h : T_US w a foot most l) (hi : i ≤ 9223372036854775807) (hK : Q (ktup_US (keys l)[i]?) w) : CallR Try.prog 51 #[.pointer (some a), .int .i64 (i : Int)] w Q := by
  obtain ⟨g, pk, pv, ck, cv, t⟩ := h
  obtain ⟨rfl, hb, hk, hvs, hft, hgk, hgv, hkv, hs, hle, htop⟩ := t
  refine X51.sound _ _ _ _ ?_
  unfold X51.f
  simp only [optP_some, add_at, Nat.zero_add, Nat.add_zero]
  refine bc_neg (by omega) (ld_sl (hb.cell rfl) (bc_dec (fun hge => ?_) (fun hlt => ?_)))
  · rw [List.getElem?_eq_none (by simp; omega)] at hK
    exact hK
  · have hlt' : i < (keys l).length := by simp; omega
    have hi' := List.getElem?_eq_getElem hlt'
    rw [hi'] at hK
    generalize (keys l)[i] = x at hi' hK
    refine ld_sl (hb.cell rfl) ⟨⟨by omega, by omega⟩, ?_⟩
    obtain ⟨p, hp, hc⟩ := cell_43 hk.cells hi'
    exact opt_some hp (ld_int (by rw [Int.toNat_natCast]; exact hc) hK)
theorem next_US {k : Int} (h : T_US w a foot most l) (hK : Q (ktup_US (next ilt l k)) w) : CallR Try.prog 39 #[.pointer (some a), (Value.int .u64) k] w Q := by
  have h0 := h
  obtain ⟨g, pk, pv, ck, cv, t⟩ := h
  obtain ⟨rfl, hb, hk, hvs, hft, hgk, hgv, hkv, hs, hle, htop⟩ := t
  refine X39.sound _ _ _ _ ?_
  unfold X39.f
  simp only [optP_some, add_at, Nat.zero_add, Nat.add_zero]
  refine ld_sl (hb.cell rfl) (bs_43 hk.cells (by simp) hs (by omega) ⟨_, _, rfl, ?_⟩)
  have hat : rank ilt (keys l) k = at_ ilt l k := rfl
  have hhas : decide ((keys l)[at_ ilt l k]? = some k) = has ilt l k := rfl
  have hal := at_le (lt := ilt) l k
  rw [hat, hhas]
  unfold next at hK
  refine bc_bool (fun hh => ?_) (fun hh => ?_)
  · rw [show IntKind.wrap .i64 ((at_ ilt l k : Int) + 1) = ((at_ ilt l k + 1 : Nat) : Int) by rw [i64w _ (by omega) (by omega)]; omega]
    rw [if_pos hh] at hK
    exact from_US h0 (by omega) ⟨_, _, rfl, hK⟩
  · rw [if_neg (by simp [hh])] at hK
    exact from_US h0 (by omega) ⟨_, _, rfl, hK⟩
end
end Go.Proofs.YtbgebldhpbnacaaX
