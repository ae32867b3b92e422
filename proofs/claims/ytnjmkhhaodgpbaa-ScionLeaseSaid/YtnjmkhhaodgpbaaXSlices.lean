/- Slices: copies within a block, what overlaps, a row that grows by zeros, a row that is cleared. -/
import Derived.Test.YtnjmkhhaodgpbaaXMem
import Derived.Laws.CopyRow
import Derived.Laws.Externs
import Derived.Lib.Overlaps
import Derived.Lib.AppendZerosOnto
namespace Go.Proofs.YtnjmkhhaodgpbaaX
open Go.RowKit
set_option linter.unusedVariables false
set_option linter.unusedSimpArgs false
section
variable {P : Program} {w : World} {g o m mc dl dc sz bytes : Nat} {cur cs : List Value} {e el dT sT ty : TypeId} {K : Value → World → Prop}
/-- A copy into a block. -/
theorem copy_blk {a : Addr} (hT : RowT P dT el sz bytes) (hb : Blk w g cur e) (hc : Cells w (some a) cs) (hn : cs.length = Nat.min m dl * sz) (hfit : o + cs.length ≤ cur.length) (h1 : ∀ v ∈ cs, v.oneCell' = true)
    (hK : ∀ w', Blk w' g (cur.take o ++ cs ++ cur.drop (o + cs.length)) e → Fr [g] w w' → K (.int .i64 ((Nat.min m dl : Nat) : Int)) w') : RunR P (Builtin.copy_ #[dT, sT] ty #[.slice (some (at0 g o)) dl dc, .slice (some a) m mc]) w K := by
  obtain ⟨i, z, hi, hz, hsz, hby, hzs⟩ := hT.info
  have hu := hT.under
  have hsrc : ∀ j v, cs[j]? = some v → w.cell? (a.add j) = some v := fun j v hj => by
    obtain ⟨q, hq, hv⟩ := hc j v hj
    injection hq with hq
    subst hq
    exact hv
  have hf := run_firstCells_some (P := P) w i.size (Nat.min m dl) a m mc cs (by rw [hsz]; exact hn) hsrc
  have hst := run_storeCells_at P g o e cs 0 cur.toArray w hb (by simpa using hfit) h1
  have hr : (Builtin.copy_ #[dT, sT] ty #[.slice (some (at0 g o)) dl dc, .slice (some a) m mc]).run P w = .ok (goInt (Nat.min m dl)) (w.setRow g (cur.take o ++ cs ++ cur.drop (o + cs.length)).toArray) := by
    simp only [Nat.add_zero] at hst
    have hst' : (storeCells (at0 g o) cs).run P w = _ := hst
    simp [Builtin.copy_, run_underlying hu, Builtin.lenOf, sizeOf, typeInfo, hi, hf, hst']
  refine ⟨_, _, hr, hK _ ?_ ⟨rfl, rfl, rfl, by simp, fun k _ hk => setRow_other w g k _ (fun e => hk (by simp [e]))⟩⟩
  have := setRow_heap w g cur.toArray (cur.take o ++ cs ++ cur.drop (o + cs.length)).toArray e (0, 0) hb
  exact this
/-- The zeros of a type, n times. -/
def zs (z : Value) (n : Nat) : List Value := (Builtin.zeroCells z.cells n).toList
theorem zs_length (z : Value) (n : Nat) : (zs z n).length = n * z.cells.size := by unfold zs; rw [Array.length_toList, size_zeroCells]
/-- A row of a block is cleared. -/
theorem clear_blk {n : Nat} {z : Value} (hT : RowT P dT el sz bytes) (hz : (P.info? el).bind (·.zero) = some z) (hz1 : ∀ v ∈ zs z n, v.oneCell' = true) (hb : Blk w g cur e) (h0 : 0 < n) (hfit : o + n * sz ≤ cur.length)
    (hK : ∀ w', Blk w' g (cur.take o ++ zs z n ++ cur.drop (o + n * sz)) e → Fr [g] w w' → K (.tuple #[]) w') : RunR P (Builtin.clear_ #[dT] ty #[.slice (some (at0 g o)) n dc]) w K := by
  obtain ⟨i, z', hi, hz', hsz, hby, hzs⟩ := hT.info
  have hu := hT.under
  have : z' = z := by rw [hi] at hz; simp [hz'] at hz; exact hz
  subst this
  have hlen : (zs z' n).length = n * sz := by rw [zs_length, hzs]
  have hst := run_storeCells_at P g o e (zs z' n) 0 cur.toArray w hb (by simpa [hlen] using hfit) hz1
  simp only [Nat.add_zero, hlen] at hst
  have hst' : (storeCells (at0 g o) (Builtin.zeroCells z'.cells n).toList).run P w = _ := hst
  obtain ⟨k, rfl⟩ : ∃ k, n = k + 1 := ⟨n - 1, by omega⟩
  have hr : (Builtin.clear_ #[dT] ty #[.slice (some (at0 g o)) (k + 1) dc]).run P w = .ok (.tuple #[]) (w.setRow g (cur.take o ++ zs z' (k + 1) ++ cur.drop (o + (k + 1) * sz)).toArray) := by
    simp [Builtin.clear_, run_underlying hu, zeroValue, typeInfo, hi, hz', hst']
  refine ⟨_, _, hr, hK _ ?_ ⟨rfl, rfl, rfl, by simp, fun j _ hj => setRow_other w g j _ (fun e => hj (by simp [e]))⟩⟩
  exact setRow_heap w g cur.toArray (cur.take o ++ zs z' (k + 1) ++ cur.drop (o + (k + 1) * sz)).toArray e (0, 0) hb
theorem cut_at {s c l g : Nat} (h : c ≠ l) : cutAt s c l (some (at0 g 0)) = some (at0 g (l * s)) := by
  unfold cutAt
  rw [if_neg h]
  simp [add_at]
theorem toNat0 : Int.toNat ((0 : Nat) : Int) = 0 := rfl
theorem cutAt_zero' (s c : Nat) (a : Option Addr) : cutAt s c 0 a = a := by
  unfold cutAt
  split
  · rfl
  · cases a <;> simp [Addr.add]
theorem own_blk {n c : Nat} {xs : List Value} (hb : Blk w g cur e) (hl : cur.length = c * sz) (hn : n ≤ c) (hm : c ≤ maxLen) (ht : cur.take (n * sz) = xs) : Own e sz w (some (at0 g 0)) n c xs :=
  ⟨by rw [← ht, List.length_take, hl]; exact Nat.min_eq_left (Nat.mul_le_mul_right _ hn), .inr ⟨g, c, cur.toArray, rfl, Nat.zero_le _, hb, hn, hm, by simpa using hl, by simpa using ht⟩⟩
theorem own_max {p : Addr} {n c : Nat} {xs : List Value} (ho : Own e sz w (some p) n c xs) : c ≤ maxLen := by
  rcases ho.2 with ⟨hv, _⟩ | ⟨g, cap, cur, hv, _, hg, _, hm, hs, ht⟩
  · injection hv with h1; cases h1
  · injection hv with h1 h2 h3; omega
/-- A slice with three indices, at a slice. -/
theorem slice3 {a : Option Addr} {n c l h m : Nat} (hT : RowT P dT el sz bytes) (h1 : l ≤ h) (h2 : h ≤ m) (h3 : m ≤ c)
    (hK : ∀ p, K (.slice p (h - l) (m - l)) w) : RunR P (Instr.sliceAt dT (.slice a n c) (some (.int .i64 (l : Int))) (some (.int .i64 (h : Int))) (some (.int .i64 (m : Int)))) w K := by
  obtain ⟨i, z, hi, _, hs, _⟩ := hT.info
  have x1 : ∀ (x y : Nat) (code : BoundsCode), x ≤ y → ∀ w : World, (Instr.sliceBound (.int .i64 (x : Int)) y code).run P w = .ok x w := fun x y code h w => by
    have : (0 : Int) ≤ (x : Int) ∧ (x : Int) ≤ (y : Int) := ⟨by omega, by omega⟩
    simp [Instr.sliceBound, asIntOf, this]
  refine ⟨_, w, ?_, hK (if m = l then a else a.map (·.add (l * sz)))⟩
  simp [Instr.sliceAt, Instr.slice, Instr.sliceBounds, run_underlying hT.under, x1 _ _ _ h1, x1 _ _ _ h2, x1 _ _ _ h3, sizeOf, typeInfo, hi, hs]
/-- Two blocks do not overlap. -/
theorem overlaps_apart {a b : Nat} {ca cb : List Value} {o1 o2 la ka lb kb : Nat} {t tR : TypeId} (hT : RowT P t e sz bytes) (ha : Blk w a ca e) (hb : Blk w b cb e) (hne : a ≠ b) (hcb : 0 < cb.length) :
    (Extern.SlicesOverlaps.overlaps #[t, t] #[tR] #[.slice (some (at0 a o1)) la ka, .slice (some (at0 b o2)) lb kb]).run P w = .ok (.bool false) w := by
  have hsa : w.shape? a = some (e, ca.length) := by unfold Blk at ha; simp [World.shape?, ha]
  have hsb : w.shape? b = some (e, cb.length) := by unfold Blk at hb; simp [World.shape?, hb]
  have hfz : ∀ o, w.frozen? (at0 a o) = false := fun o => by unfold Blk at ha; simp [World.frozen?, at0, ha]
  obtain ⟨i, z, hi, _, hs, _⟩ := hT.info
  exact Lib.run_overlaps_apart (P := P) w t tR e hT.under sz (fun w => by simp [Go.sizeOf, typeInfo, hi, hs]) (at0 a o1) (at0 b o2) la ka lb kb hne e e ca.length cb.length hsa hsb (by omega) (hfz o1) (hfz ca.length)
/-- A row that grows by a few zeros: what stands behind, of the new block. -/
theorem grow_blk {a : Addr} {n c k : Nat} {xs : List Value} {z : Value} (hT : RowT P dT el sz bytes) (hz : (P.info? el).bind (·.zero) = some z) (htn : P.underlying sT = some (.int .i64)) (hx : xs.length = n * sz) (hc : ∀ j u, xs[j]? = some u → w.cell? (a.add j) = some u)
    (h0 : 0 < k) (hg : c < n + k) (hm : n + k ≤ 1048576) (hby : bytes ≤ 4096)
    (hK : ∀ C w', n + k ≤ C → C ≤ maxLen → Blk w' w.heap.size (xs ++ zs z k ++ zs z (C - (n + k))) el → Fr [] w w' → K (.slice (some (at0 w.heap.size 0)) (n + k) C) w') :
    RunR P (Builtin.append_ #[dT, sT] dT #[.slice (some a) n c, .int .i64 (k : Int)]) w K := by
  obtain ⟨i, z', hi, hz', hsz, hbi, hzs⟩ := hT.info
  have : z' = z := by rw [hi] at hz; simp [hz'] at hz; exact hz
  subst this
  have hpos := hT.pos
  have hb1 : (n + k) * i.bytes ≤ 1048576 * 4096 := Nat.mul_le_mul (by omega) (by omega)
  have hb2 : k * i.bytes ≤ 1048576 * 4096 := Nat.mul_le_mul (by omega) (by omega)
  have hr := Lib.run_append_grow_zeros (P := P) (ty := dT) w dT sT el i z' .i64 .i64 hT.under htn hi hz' (some a) n c xs (by rw [hsz]; exact run_firstCells_some (P := P) w.drew sz n a n c xs hx (fun j u hj => hc j u hj)) k h0 (by omega) hg (by omega) (by omega) (growslice_fits hg (by omega))
  have hge := grownCap_ge w (n + k) c el
  have hcm : grownCap w (n + k) c el ≤ maxLen := grownCap_le_maxLen w _ c el (by simp only [maxLen]; omega)
  refine ⟨_, _, hr, hK _ _ hge hcm ?_ (Fr.drew.tr (Fr.alloc _ _))⟩
  have := Blk.made w.drew (xs.toArray ++ Builtin.zeroCells z'.cells k ++ Builtin.zeroCells z'.cells (grownCap w (n + k) c el - (n + k))) el
  simpa [zs] using this
end
end Go.Proofs.YtnjmkhhaodgpbaaX
