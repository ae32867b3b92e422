/- Who holds an owner's objects, in plain Lean: keys, rows of an object, its distance, the calls. -/
import Derived.Test.YtnjmkhhaodgpbaaL19HeapC
namespace Go.Proofs.YtnjmkhhaodgpbaaX
open Go.RowKit
set_option linter.unusedVariables false
set_option linter.unusedSimpArgs false
set_option maxRecDepth 100000
def keyS (s h : Int) : Int := iOr .u64 (iShl .u64 s 7) (IntKind.wrap .u64 h)
theorem shl7 (s : Int) : iShl .u64 s 7 = IntKind.wrap .u64 (s * 128) := by
  unfold iShl
  have e : min (7 : Int).toNat IntKind.u64.bits = 7 := by decide
  rw [e]
  rfl
theorem or7 {a h : Nat} (ha : a * 128 + 127 < 18446744073709551616) (hh : h < 128) : iOr .u64 ((a * 128 : Nat) : Int) (h : Int) = ((a * 128 + h : Nat) : Int) := by
  have e1 : (BitVec.ofInt 64 ((a * 128 : Nat) : Int)).toNat = a * 128 := by rw [BitVec.toNat_ofInt]; omega
  have e2 : (BitVec.ofInt 64 (h : Int)).toNat = h := by rw [BitVec.toNat_ofInt]; omega
  unfold iOr
  change IntKind.wrap .u64 ((BitVec.ofInt 64 ((a * 128 : Nat) : Int) ||| BitVec.ofInt 64 (h : Int)).toNat : Int) = _
  rw [BitVec.toNat_or, e1, e2]
  have e3 : a * 128 ||| h = a * 128 + h := by
    have hs : h < 2 ^ 7 := by omega
    have := Nat.two_pow_add_eq_or_of_lt hs a
    rw [show (2 : Nat) ^ 7 = 128 by decide, Nat.mul_comm] at this
    exact this.symm
  rw [e3, u64w _ (by omega) (by omega)]
theorem keyS_eq {s h : Int} (h0 : 0 ≤ s) (h1 : s < 144115188075855872) (h2 : 0 ≤ h) (h3 : h < 128) : keyS s h = s * 128 + h := by
  obtain ⟨a, rfl⟩ : ∃ a : Nat, s = (a : Int) := ⟨s.toNat, by omega⟩
  obtain ⟨b, rfl⟩ : ∃ b : Nat, h = (b : Int) := ⟨h.toNat, by omega⟩
  unfold keyS
  rw [shl7, u64w _ (by omega) (by omega), u64w _ (by omega) (by omega)]
  have := or7 (a := a) (h := b) (by omega) (by omega)
  rw [show ((a : Int) * 128) = ((a * 128 : Nat) : Int) by omega, this]
  omega
theorem shr7 {n : Int} : iShr .u64 n 7 = n / 128 := by
  unfold iShr
  have e : min (7 : Int).toNat IntKind.u64.bits = 7 := by decide
  rw [e, Int.fdiv_eq_ediv_of_nonneg _ (by decide)]
  rfl
structure RI (rows : List (Int × Scn)) : Prop where
  srt : Srt ilt (keys rows)
  key : ∀ e ∈ rows, e.1 = e.2.serial * 128 + e.2.holder
  ser : ∀ e ∈ rows, 1 ≤ e.2.serial ∧ e.2.serial ≤ 72057594037927935
  hol : ∀ e ∈ rows, 1 ≤ e.2.holder ∧ e.2.holder ≤ 64
  dis : ∀ e ∈ rows, 0 ≤ e.2.dist ∧ e.2.dist ≤ 40
def ofR (rows : List (Int × Scn)) (s : Int) : List Scn := (rows.filter fun e => decide (e.2.serial = s)).map (·.2)
def runFrom (rows : List (Int × Scn)) (s : Int) : List Scn := (rows.takeWhile fun e => decide (e.1 / 128 = s)).map (·.2)
theorem filter_run : ∀ {l : List (Int × Scn)} {s : Int}, (keys l).Pairwise (fun a b => a < b) → (∀ e ∈ l, s * 128 ≤ e.1) → l.filter (fun e => decide (e.1 / 128 = s)) = l.takeWhile fun e => decide (e.1 / 128 = s)
  | [], _, _, _ => rfl
  | e :: l, s, hp, hs => by
    have hp' := hp
    unfold keys at hp
    rw [List.map_cons, List.pairwise_cons] at hp
    obtain ⟨h1, h2⟩ := hp
    by_cases h : e.1 / 128 = s
    · rw [List.filter_cons_of_pos (by simp [h]), List.takeWhile_cons_of_pos (by simp [h]), filter_run h2 (fun x hx => hs x (by simp [hx]))]
    · rw [List.filter_cons_of_neg (by simpa using h), List.takeWhile_cons_of_neg (by simpa using h)]
      apply List.filter_eq_nil_iff.2
      intro x hx
      have a1 := h1 x.1 (List.mem_map.2 ⟨x, hx, rfl⟩)
      have a2 := hs e (by simp)
      simp
      omega
theorem filter_drop : ∀ {l : List (Int × Scn)} {s : Int}, (keys l).Pairwise (fun a b => a < b) → l.filter (fun e => decide (e.1 / 128 = s)) = (l.dropWhile fun e => decide (e.1 < s * 128)).takeWhile fun e => decide (e.1 / 128 = s)
  | [], _, _ => rfl
  | e :: l, s, hp => by
    have hp' := hp
    unfold keys at hp
    rw [List.map_cons, List.pairwise_cons] at hp
    obtain ⟨h1, h2⟩ := hp
    by_cases h : e.1 < s * 128
    · rw [List.filter_cons_of_neg (by simp; omega), List.dropWhile_cons_of_pos (by simp [h])]
      exact filter_drop h2
    · rw [List.dropWhile_cons_of_neg (by simpa using h)]
      refine filter_run hp' fun x hx => ?_
      rcases List.mem_cons.1 hx with rfl | hx
      · omega
      · have a1 := h1 x.1 (List.mem_map.2 ⟨x, hx, rfl⟩)
        omega
theorem srt_lt {l : List Int} (h : Srt ilt l) : l.Pairwise (fun a b => a < b) := h.imp fun {a b} h => by simpa [ilt] using h
theorem ofR_eq {rows : List (Int × Scn)} {s : Int} (R : RI rows) : ofR rows s = runFrom (rows.dropWhile fun e => decide (e.1 < s * 128)) s := by
  unfold ofR runFrom
  rw [← filter_drop (srt_lt R.srt)]
  congr 1
  apply List.filter_congr
  intro e he
  have a1 := R.key e he
  have a2 := R.hol e he
  by_cases h : e.2.serial = s
  · rw [decide_eq_true h, decide_eq_true (by omega)]
  · rw [decide_eq_false h, decide_eq_false (by omega)]
theorem at_pos {l : List (Int × Scn)} {i : Nat} {k : Int} (hs : Srt ilt (keys l)) (hi : (keys l)[i]? = some k) : at_ ilt l k = i := by
  unfold at_
  rcases Nat.lt_trichotomy (rank ilt (keys l) k) i with h | h | h
  · have hl := (List.getElem?_eq_some_iff.1 hi).1
    have hr := List.getElem?_eq_getElem (show rank ilt (keys l) k < (keys l).length by omega)
    have h1 := rank_ge ilt_lin hs (Nat.le_refl _) hr
    have h2 := List.pairwise_iff_getElem.1 hs _ _ (by omega) hl h
    rw [(List.getElem?_eq_some_iff.1 hi).2] at h2
    rw [h1] at h2
    cases h2
  · exact h
  · have := rank_lt h hi
    simp [ilt] at this
theorem next_pos {l : List (Int × Scn)} {i : Nat} {k : Int} (hs : Srt ilt (keys l)) (hi : (keys l)[i]? = some k) : next ilt l k = (keys l)[i + 1]? := by
  unfold next has
  rw [at_pos hs hi, decide_eq_true hi, if_pos rfl]
theorem drop_rank {l : List (Int × Scn)} {k : Int} : l.drop (at_ ilt l k) = l.dropWhile fun e => decide (e.1 < k) := by
  induction l with
  | nil => rfl
  | cons e l ih =>
    unfold at_ rank keys at *
    rw [List.map_cons]
    by_cases h : e.1 < k
    · rw [List.takeWhile_cons_of_pos (by simp [ilt, h]), List.dropWhile_cons_of_pos (by simp [h]), List.length_cons, List.drop_succ_cons]
      exact ih
    · rw [List.takeWhile_cons_of_neg (by simp [ilt]; omega), List.dropWhile_cons_of_neg (by simpa using h)]
      rfl
/-- what the first look for an object's rows finds -/
theorem next_first {l : List (Int × Scn)} {s : Int} (R : RI l) (h0 : 0 ≤ s) (h1 : s < 144115188075855872) : next ilt l (keyS s 0) = (keys l)[at_ ilt l (s * 128)]? ∧ ofR l s = runFrom (l.drop (at_ ilt l (s * 128))) s := by
  rw [keyS_eq h0 h1 (by omega) (by omega), show s * 128 + 0 = s * 128 by omega]
  refine ⟨?_, by rw [drop_rank]; exact ofR_eq R⟩
  unfold next
  have : has ilt l (s * 128) = false := by
    cases h : has ilt l (s * 128) with
    | false => rfl
    | true =>
      have hm := (has_iff ilt_lin R.srt).1 h
      obtain ⟨e, he, hk⟩ := List.mem_map.1 hm
      have a1 := R.key e he
      have a2 := R.hol e he
      have a3 : e.1 = s * 128 := hk
      omega
  rw [this]
  rfl
theorem ofR_none {l : List (Int × Scn)} {s : Int} (R : RI l) (h : 144115188075855872 ≤ s) : ofR l s = [] := by
  unfold ofR
  rw [List.filter_eq_nil_iff.2]
  · rfl
  · intro e he
    have := R.ser e he
    simp
    omega
def stepIn (bur : List Int) (s in_ : Int) (r : Scn) : Int := if r.present = true ∧ s ∉ bur ∧ (in_ = 0 ∨ r.dist < in_) then r.dist else in_
def inOf (rows : List (Int × Scn)) (bur : List Int) (s : Int) : Int := (ofR rows s).foldl (stepIn bur s) 0
structure Sc where
  c : Cfg
  node : Int
  last : Int
  os : List (Int × Int)
  rows : List (Int × Scn)
  bur : List Int
  cur : Int
def keepS (S : Sc) (s : Int) : Sc := { S with os := setO S.os s (inOf S.rows S.bur s) }
def putRow (rows : List (Int × Scn)) (r : Scn) : List (Int × Scn) := if has ilt rows (keyS r.serial r.holder) = true ∨ rows.length < 4096 then put ilt rows (keyS r.serial r.holder) r else rows
def putS (S : Sc) (r : Scn) : Sc := keepS { S with rows := putRow S.rows r } r.serial
def mineS (S : Sc) (m : Msg) (k : Int) : Prop := m.kind = k ∧ Right m ∧ m.to = S.node ∧ m.frm ≤ S.c.nodes ∧ m.tn = S.node
def okRow (r : Scn) : Prop := (1 ≤ r.serial ∧ r.serial ≤ 72057594037927935) ∧ (1 ≤ r.holder ∧ r.holder ≤ 64) ∧ (0 ≤ r.dist ∧ r.dist ≤ 40)
theorem RI.putR {rows : List (Int × Scn)} {r : Scn} (R : RI rows) (h : okRow r) : RI (putRow rows r) := by
  unfold putRow
  split
  · obtain ⟨h1, h2, h3⟩ := h
    have hm : ∀ e ∈ put ilt rows (keyS r.serial r.holder) r, e = (keyS r.serial r.holder, r) ∨ e ∈ rows := fun e he => ((mem_put ilt_lin R.srt).1 he).imp_right (·.2)
    refine ⟨put_srt ilt_lin R.srt, ?_, ?_, ?_, ?_⟩ <;> intro e he <;> rcases hm e he with rfl | he
    · exact keyS_eq (by omega) (by omega) (by omega) (by omega)
    · exact R.key e he
    · exact h1
    · exact R.ser e he
    · exact h2
    · exact R.hol e he
    · exact h3
    · exact R.dis e he
  · exact R
theorem RI.drpR {rows : List (Int × Scn)} {k : Int} (R : RI rows) : RI (drp ilt rows k) := by
  have hm : ∀ e ∈ drp ilt rows k, e ∈ rows := fun e he => ((mem_drp ilt_lin R.srt).1 he).2
  exact ⟨drp_srt ilt_lin R.srt, fun e he => R.key e (hm e he), fun e he => R.ser e (hm e he), fun e he => R.hol e (hm e he), fun e he => R.dis e (hm e he)⟩
theorem ofR_mem {rows : List (Int × Scn)} {s : Int} {r : Scn} (h : r ∈ ofR rows s) : ∃ e ∈ rows, e.2 = r := by
  obtain ⟨e, he, rfl⟩ := List.mem_map.1 h
  exact ⟨e, (List.mem_filter.1 he).1, rfl⟩
theorem fold_in {bur : List Int} {s : Int} : ∀ {l : List Scn} {i : Int}, (∀ r ∈ l, 0 ≤ r.dist ∧ r.dist ≤ 40) → 0 ≤ i → i ≤ 40 → 0 ≤ l.foldl (stepIn bur s) i ∧ l.foldl (stepIn bur s) i ≤ 40
  | [], i, _, h1, h2 => ⟨h1, h2⟩
  | r :: l, i, h, h1, h2 => by
    have hr := h r (by simp)
    have : 0 ≤ stepIn bur s i r ∧ stepIn bur s i r ≤ 40 := by
      unfold stepIn
      split
      · exact hr
      · exact ⟨h1, h2⟩
    rw [List.foldl_cons]
    exact fold_in (fun x hx => h x (by simp [hx])) this.1 this.2
theorem inOf_rng {rows : List (Int × Scn)} {bur : List Int} {s : Int} (R : RI rows) : 0 ≤ inOf rows bur s ∧ inOf rows bur s ≤ 40 := fold_in (fun r hr => by
  obtain ⟨e, he, rfl⟩ := ofR_mem hr
  exact R.dis e he) (by omega) (by omega)
end Go.Proofs.YtnjmkhhaodgpbaaX
