/- slices.BinarySearch in a sorted row: function 40. -/
import Derived.Test.YtbgebldhpbnacaaXT1
import Derived.Test.YtbgebldhpbnacaaPStr
namespace Go.Proofs.YtbgebldhpbnacaaX
open Go.RowKit
set_option linter.unusedVariables false
set_option linter.unusedSimpArgs false
section
variable {w : World} {Q : Value → World → Prop}
theorem nan_40 {a : ByteArray} (h : Q (.bool false) w) : CallR Try.prog 62 #[Value.string a] w Q := by
  refine X62.sound _ _ _ ?_
  unfold X62.f
  simpa [strEq] using h
theorem less_40 {a b : ByteArray} (h : Q (.bool (strLt a b)) w) : CallR Try.prog 52 #[Value.string a, Value.string b] w Q := by
  refine X52.sound _ _ _ _ ?_
  exact nan_40 ⟨_, rfl, h⟩
theorem isnan_40 {a : ByteArray} (h : Q (.bool false) w) : CallR Try.prog 53 #[Value.string a] w Q := by
  refine X53.sound _ _ _ ?_
  unfold X53.f
  simpa [strEq] using h
theorem cell_40 {p : Option Addr} {ks : List ByteArray} (h : Cells w p (ks.map Value.string)) {i : Nat} {x : ByteArray} (hi : ks[i]? = some x) : ∃ a, p = some a ∧ w.cell? (a.add (i * 1)) = some (Value.string x) := by
  rw [Nat.mul_one]
  exact h i _ (by simp [hi])
theorem bs_l0_40 {p : Option Addr} {n c : Nat} {ks : List ByteArray} {k : ByteArray} (hc : Cells w p (ks.map Value.string)) (hl : ks.length = n) (hs : Srt strLt ks) (hn : n ≤ 140737488355328) :
    ∀ (m : Nat) (i j : Nat), j - i < m → i ≤ rank strLt ks k → rank strLt ks k ≤ j → j ≤ n → Q (.tuple #[.int .i64 (rank strLt ks k : Int), .bool (decide (ks[rank strLt ks k]? = some k))]) w → X40.l0 Q m p n c k (n : Int) (i : Int) (j : Int) w
  | 0, i, j, hm, _, _, _, _ => by omega
  | m + 1, i, j, hm, h1, h2, h3, hQ => by
    rw [X40.l0]
    refine bc_dec (fun hlt => ?_) (fun hge => ?_)
    · have e1 : IntKind.wrap .i64 (iShr .u64 (IntKind.wrap .u64 (IntKind.wrap .i64 ((i : Int) + (j : Int)))) 1) = (((i + j) / 2 : Nat) : Int) := by
        have : iShr .u64 (((i + j : Nat) : Int)) 1 = (((i + j) / 2 : Nat) : Int) := by
          unfold iShr
          rw [Int.fdiv_eq_ediv_of_nonneg _ (by decide)]
          rfl
        rw [i64w ((i : Int) + (j : Int)) (by omega) (by omega), u64w ((i : Int) + (j : Int)) (by omega) (by omega), show (i : Int) + (j : Int) = ((i + j : Nat) : Int) by omega, this, i64w _ (by omega) (by omega)]
      rw [e1]
      have hh : (i + j) / 2 < ks.length := by omega
      have hi : ks[(i + j) / 2]? = some (ks[(i + j) / 2]) := List.getElem?_eq_getElem hh
      generalize ks[(i + j) / 2] = x at hi
      obtain ⟨a, ha, hx⟩ := cell_40 hc hi
      refine ⟨by decide, ⟨by omega, by omega⟩, opt_some ha (ld_str (by rw [Int.toNat_natCast]; exact hx) (less_40 ⟨_, rfl, ?_⟩))⟩
      refine bc_bool (fun hxk => ?_) (fun hxk => ?_)
      · rw [show IntKind.wrap .i64 ((((i + j) / 2 : Nat) : Int) + 1) = (((i + j) / 2 + 1 : Nat) : Int) by rw [i64w _ (by omega) (by omega)]; omega]
        refine bs_l0_40 hc hl hs hn m _ j (by omega) ?_ h2 h3 hQ
        by_cases hr : rank strLt ks k ≤ (i + j) / 2
        · have := rank_ge strLt_lin hs hr hi; rw [this] at hxk; cases hxk
        · omega
      · refine bs_l0_40 hc hl hs hn m i _ (by omega) h1 ?_ (by omega) hQ
        by_cases hr : (i + j) / 2 < rank strLt ks k
        · have := rank_lt hr hi; rw [this] at hxk; cases hxk
        · omega
    · have hir : i = rank strLt ks k := by omega
      rw [hir]
      refine bc_dec (fun hlt => ?_) (fun hge2 => ?_)
      · have hh : rank strLt ks k < ks.length := by omega
        have hi : ks[rank strLt ks k]? = some (ks[rank strLt ks k]) := List.getElem?_eq_getElem hh
        rw [hi] at hQ
        generalize ks[rank strLt ks k] = x at hi hQ
        obtain ⟨a, ha, hx⟩ := cell_40 hc hi
        refine ⟨⟨by omega, by omega⟩, opt_some ha (ld_str (by rw [Int.toNat_natCast]; exact hx) (bc_streq (fun he => ?_) (fun hne => ?_)))⟩
        · subst he
          simpa using hQ
        · refine ⟨⟨by omega, by omega⟩, opt_some ha (ld_str (by rw [Int.toNat_natCast]; exact hx) (isnan_40 ⟨_, rfl, ?_⟩))⟩
          have : decide (some x = some k) = false := by simp [hne]
          rw [this] at hQ
          exact hQ
      · have hi : ks[rank strLt ks k]? = none := List.getElem?_eq_none (by omega)
        rw [hi] at hQ
        simpa using hQ
theorem bs_40 {p : Option Addr} {n c : Nat} {ks : List ByteArray} {k : ByteArray} (hc : Cells w p (ks.map Value.string)) (hl : ks.length = n) (hs : Srt strLt ks) (hn : n ≤ 140737488355328)
    (hQ : Q (.tuple #[.int .i64 (rank strLt ks k : Int), .bool (decide (ks[rank strLt ks k]? = some k))]) w) : CallR Try.prog 40 #[.slice p n c, Value.string k] w Q := by
  refine X40.sound _ _ _ _ _ _ ⟨n + 1, ?_⟩
  have := rank_le (lt := strLt) ks k
  exact bs_l0_40 hc hl hs hn (n + 1) 0 n (by omega) (by omega) (by omega) (Nat.le_refl _) hQ
end
end Go.Proofs.YtbgebldhpbnacaaX
