/- slices.BinarySearch in a sorted row: function 54. -/
import Derived.Test.YtnjmkhhaodgpbaaXT1
import Derived.Test.YtnjmkhhaodgpbaaPTab
namespace Go.Proofs.YtnjmkhhaodgpbaaX
open Go.RowKit
set_option linter.unusedVariables false
set_option linter.unusedSimpArgs false
section
variable {w : World} {Q : Value → World → Prop}
theorem nan_54 {a : Int} (h : Q (.bool false) w) : CallR Try.prog 83 #[(Value.int .u64) a] w Q := by
  refine X83.sound _ _ _ ?_
  unfold X83.f
  simpa [strEq] using h
theorem less_54 {a b : Int} (h : Q (.bool (ilt a b)) w) : CallR Try.prog 71 #[(Value.int .u64) a, (Value.int .u64) b] w Q := by
  refine X71.sound _ _ _ _ ?_
  exact nan_54 ⟨_, rfl, h⟩
theorem isnan_54 {a : Int} (h : Q (.bool false) w) : CallR Try.prog 72 #[(Value.int .u64) a] w Q := by
  refine X72.sound _ _ _ ?_
  unfold X72.f
  simpa [strEq] using h
theorem cell_54 {p : Option Addr} {ks : List Int} (h : Cells w p (ks.map (Value.int .u64))) {i : Nat} {x : Int} (hi : ks[i]? = some x) : ∃ a, p = some a ∧ w.cell? (a.add (i * 1)) = some ((Value.int .u64) x) := by
  rw [Nat.mul_one]
  exact h i _ (by simp [hi])
theorem bs_l0_54 {p : Option Addr} {n c : Nat} {ks : List Int} {k : Int} (hc : Cells w p (ks.map (Value.int .u64))) (hl : ks.length = n) (hs : Srt ilt ks) (hn : n ≤ 140737488355328) :
    ∀ (m : Nat) (i j : Nat), j - i < m → i ≤ rank ilt ks k → rank ilt ks k ≤ j → j ≤ n → Q (.tuple #[.int .i64 (rank ilt ks k : Int), .bool (decide (ks[rank ilt ks k]? = some k))]) w → X54.l0 Q m p n c k (n : Int) (i : Int) (j : Int) w
  | 0, i, j, hm, _, _, _, _ => by omega
  | m + 1, i, j, hm, h1, h2, h3, hQ => by
    rw [X54.l0]
    refine bc_dec (fun hlt => ?_) (fun hge => ?_)
    · have e1 : IntKind.wrap .i64 (iShr .u64 (IntKind.wrap .u64 (IntKind.wrap .i64 ((i : Int) + (j : Int)))) 1) = (((i + j) / 2 : Nat) : Int) := by
        have : iShr .u64 (((i + j : Nat) : Int)) 1 = (((i + j) / 2 : Nat) : Int) := by
          unfold iShr
          rw [Int.fdiv_eq_ediv_of_nonneg _ (by decide)]
          rfl
        rw [i64w ((i : Int) + (j : Int)) (by omega) (by omega), u64w ((i : Int) + (j : Int)) (by omega) (by omega), show (i : Int) + (j : Int) = ((i + j : Nat) : Int) by omega, this, i64w _ (by omega) (by omega)]
      rw [e1]
      have hh : (i + j) / 2 < ks.length := by omega
      have hi : ks[(i + j) / 2]? = some (ks[(i + j) / 2]) := List.getElem?_eq_getElem hh
      generalize ks[(i + j) / 2] = x at hi
      obtain ⟨a, ha, hx⟩ := cell_54 hc hi
      refine ⟨by decide, ⟨by omega, by omega⟩, opt_some ha (ld_int (by rw [Int.toNat_natCast]; exact hx) (less_54 ⟨_, rfl, ?_⟩))⟩
      refine bc_bool (fun hxk => ?_) (fun hxk => ?_)
      · rw [show IntKind.wrap .i64 ((((i + j) / 2 : Nat) : Int) + 1) = (((i + j) / 2 + 1 : Nat) : Int) by rw [i64w _ (by omega) (by omega)]; omega]
        refine bs_l0_54 hc hl hs hn m _ j (by omega) ?_ h2 h3 hQ
        by_cases hr : rank ilt ks k ≤ (i + j) / 2
        · have := rank_ge ilt_lin hs hr hi; rw [this] at hxk; cases hxk
        · omega
      · refine bs_l0_54 hc hl hs hn m i _ (by omega) h1 ?_ (by omega) hQ
        by_cases hr : (i + j) / 2 < rank ilt ks k
        · have := rank_lt hr hi; rw [this] at hxk; cases hxk
        · omega
    · have hir : i = rank ilt ks k := by omega
      rw [hir]
      refine bc_dec (fun hlt => ?_) (fun hge2 => ?_)
      · have hh : rank ilt ks k < ks.length := by omega
        have hi : ks[rank ilt ks k]? = some (ks[rank ilt ks k]) := List.getElem?_eq_getElem hh
        rw [hi] at hQ
        generalize ks[rank ilt ks k] = x at hi hQ
        obtain ⟨a, ha, hx⟩ := cell_54 hc hi
        refine ⟨⟨by omega, by omega⟩, opt_some ha (ld_int (by rw [Int.toNat_natCast]; exact hx) (bc_eq (fun he => ?_) (fun hne => ?_)))⟩
        · subst he
          simpa using hQ
        · refine ⟨⟨by omega, by omega⟩, opt_some ha (ld_int (by rw [Int.toNat_natCast]; exact hx) (isnan_54 ⟨_, rfl, ?_⟩))⟩
          have : decide (some x = some k) = false := by simp [hne]
          rw [this] at hQ
          exact hQ
      · have hi : ks[rank ilt ks k]? = none := List.getElem?_eq_none (by omega)
        rw [hi] at hQ
        simpa using hQ
theorem bs_54 {p : Option Addr} {n c : Nat} {ks : List Int} {k : Int} (hc : Cells w p (ks.map (Value.int .u64))) (hl : ks.length = n) (hs : Srt ilt ks) (hn : n ≤ 140737488355328)
    (hQ : Q (.tuple #[.int .i64 (rank ilt ks k : Int), .bool (decide (ks[rank ilt ks k]? = some k))]) w) : CallR Try.prog 54 #[.slice p n c, (Value.int .u64) k] w Q := by
  refine X54.sound _ _ _ _ _ _ ⟨n + 1, ?_⟩
  have := rank_le (lt := ilt) ks k
  exact bs_l0_54 hc hl hs hn (n + 1) 0 n (by omega) (by omega) (by omega) (Nat.le_refl _) hQ
end
end Go.Proofs.YtnjmkhhaodgpbaaX
