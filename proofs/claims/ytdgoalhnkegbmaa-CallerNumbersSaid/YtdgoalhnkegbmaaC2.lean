/- What the claim needs of the calculus and of the walks, part 2: XNum XMem PTab TSearch64 XSlices TIns90 TIns91 XAll XStruct XT2 MStruct TTabCB TDel65. -/
import Derived.IntWalk
import Derived.Laws.AppendOwn
import Derived.Laws.OwnMore
import Derived.Below
import Derived.Laws.CopyRow
import Derived.Laws.Externs
import Derived.Lib.Overlaps
import Derived.Lib.AppendZerosOnto
import Derived.Test.YtdgoalhnkegbmaaC1
namespace Go.Proofs.YtdgoalhnkegbmaaX
open Go.RowKit
theorem u64b {a : Int} (h : (Lit.int .u64 a).wf = true) : 0 ≤ a ∧ a ≤ 18446744073709551615 := by
  simp [Lit.wf, IntKind.min, IntKind.max, IntKind.signed, IntKind.bits] at h; omega
theorem u64w (n : Int) (h : 0 ≤ n) (h' : n ≤ 18446744073709551615) : IntKind.u64.wrap n = n := IntWalk.u64_in n ⟨h, h'⟩
theorem i64w (n : Int) (h : -9223372036854775808 ≤ n) (h' : n ≤ 9223372036854775807) : IntKind.i64.wrap n = n := IntWalk.i64_in n ⟨h, h'⟩
/-- the remainder by a positive number, as Pick works it out -/
theorem tmod_pick (n m : Int) (hm : 0 < m) : (if Int.tmod n m < 0 then Int.tmod n m + m else Int.tmod n m) = n % m := by
  have h1 := Int.tmod_eq_emod (a := n) (b := m)
  have h2 := Int.emod_nonneg n (by omega : m ≠ 0)
  have h3 := Int.emod_lt_of_pos n hm
  rw [h1]
  split <;> split <;> omega
theorem bc_dec {p : Prop} [Decidable p] {A B : Prop} (h1 : p → A) (h2 : ¬ p → B) : bcase (decide p) A B := by
  by_cases h : p
  · rw [decide_eq_true h]; exact h1 h
  · rw [decide_eq_false h]; exact h2 h
theorem bc_neg {p : Prop} [Decidable p] {A B : Prop} (h : ¬ p) (b : B) : bcase (decide p) A B := by rw [decide_eq_false h]; exact b
theorem bc_bool {t : Bool} {A B : Prop} (h1 : t = true → A) (h2 : t = false → B) : bcase t A B := by cases t; exact h2 rfl; exact h1 rfl
theorem bc_eq {a b : Int} {A B : Prop} (h1 : a = b → A) (h2 : a ≠ b → B) : bcase (a == b) A B := bc_bool (fun h => h1 (by simpa using h)) (fun h => h2 (by simpa using h))
theorem bc_ne {a b : Int} {A B : Prop} (h1 : a ≠ b → A) (h2 : a = b → B) : bcase (a != b) A B := bc_bool (fun h => h1 (by simpa using h)) (fun h => h2 (by simpa using h))
theorem ld_int {k : IntKind} {w : World} {p : Addr} {x : Int} {K : Int → Prop} (h : w.cell? p = some (.int k x)) (hk : K x) : ldI k w p K := ⟨x, h, hk⟩
theorem opt_some {a : Option Addr} {p : Addr} {K : Addr → Prop} (h : a = some p) (hk : K p) : optP a K := by subst h; exact hk
end Go.Proofs.YtdgoalhnkegbmaaX
namespace Go.Proofs.YtdgoalhnkegbmaaX
open Go.RowKit
set_option linter.unusedVariables false
set_option linter.unusedSimpArgs false
/-- Outside of the blocks S all that was there is as it was. -/
structure Fr (S : List Nat) (w w' : World) : Prop where
  os : w'.os = w.os
  tape : w'.tape = w.tape
  output : w'.output = w.output
  size : w.heap.size ≤ w'.heap.size
  block : ∀ k, k < w.heap.size → k ∉ S → w'.heap[k]? = w.heap[k]?
def fbl (p : Option Addr) : List Nat := match p with
  | some a => [a.block]
  | none => []
section
variable {S T : List Nat} {a b c w w' : World}
theorem Fr.refl (w : World) : Fr S w w := ⟨rfl, rfl, rfl, Nat.le_refl _, fun _ _ _ => rfl⟩
theorem Fr.trans (h : Fr S a b) (k : Fr T b c) (hT : ∀ x ∈ T, x ∈ S ∨ a.heap.size ≤ x) : Fr S a c :=
  ⟨k.os.trans h.os, k.tape.trans h.tape, k.output.trans h.output, Nat.le_trans h.size k.size, fun i hi hn =>
    (k.block i (Nat.lt_of_lt_of_le hi h.size) (fun hm => (hT i hm).elim hn (fun hl => absurd hi (by omega)))).trans (h.block i hi hn)⟩
theorem Fr.tr (h : Fr S a b) (k : Fr S b c) : Fr S a c := h.trans k fun x hx => .inl hx
theorem Fr.mono (h : Fr S a b) (hs : ∀ x ∈ S, x ∈ T) : Fr T a b := ⟨h.os, h.tape, h.output, h.size, fun k hk hn => h.block k hk (fun hm => hn (hs k hm))⟩
theorem Fr.any (h : Fr [] a b) : Fr T a b := h.mono fun x hx => by cases hx
theorem Fr.drew : Fr S w w.drew := ⟨rfl, rfl, rfl, Nat.le_refl _, fun _ _ _ => rfl⟩
theorem Fr.alloc (w : World) (o : Obj) : Fr S w (w.alloc o) := ⟨rfl, rfl, rfl, by simp, fun k hk _ => heap_alloc_old w o k hk⟩
theorem Fr.setCell {p : Addr} (hp : p.block ∈ S) (v : Value) : Fr S w (w.setCell p v) :=
  ⟨rfl, rfl, rfl, by simp, fun k hk hn => Below.heap_setCell _ _ _ _ (fun e => hn (e ▸ hp))⟩
theorem Fr.grown {row : Option Nat} (h : w.grownBy w' row) (hr : ∀ k, row = some k → k ∈ S) : Fr S w w' :=
  ⟨h.os, h.tape, h.output, h.size, fun k hk hn => h.block k hk (fun e => hn (hr k e.symm))⟩
theorem Fr.cell {p : Addr} {v : Value} (h : Fr S w w') (hc : w.cell? p = some v) (hn : p.block ∉ S) : w'.cell? p = some v :=
  (World.cell?_of_block (h.block p.block (World.block_lt_of_cell? w p hc) hn)).trans hc
theorem Fr.cell' {p : Addr} {v : Value} (h : Fr [] w w') (hc : w.cell? p = some v) : w'.cell? p = some v := h.cell hc (by simp)
theorem Fr.below {B : Nat} (h : Fr S w w') (hB : B ≤ w.heap.size) (hS : ∀ x ∈ S, B ≤ x) : Below B w w' :=
  ⟨h.os, h.tape, h.output, h.size, fun k hk => h.block k (by omega) (fun hm => absurd (hS k hm) (by omega))⟩
end
/-! ### What stands in memory, one behind the other -/
def Cells (w : World) (x : Option Addr) (us : List Value) : Prop := ∀ j u, us[j]? = some u → ∃ p, x = some p ∧ w.cell? (p.add j) = some u
section
variable {S T : List Nat} {w w' : World}
theorem Cells.keep {x : Option Addr} {us : List Value} (h : Fr S w w') (hc : Cells w x us) (hn : ∀ k ∈ fbl x, k ∉ S) : Cells w' x us := by
  intro j u hj
  obtain ⟨p, hp, hv⟩ := hc j u hj
  subst hp
  have hb : (p.add j).block = p.block := by unfold Addr.add; split <;> rfl
  exact ⟨p, rfl, h.cell hv (by rw [hb]; exact hn _ (by simp [fbl]))⟩
theorem Cells.keep' {x : Option Addr} {us : List Value} (h : Fr [] w w') (hc : Cells w x us) : Cells w' x us := hc.keep h (by simp)
theorem add_block (p : Addr) (j : Nat) : (p.add j).block = p.block := by unfold Addr.add; split <;> rfl
theorem add_add (p : Addr) (i j : Nat) : (p.add i).add j = p.add (i + j) := by
  unfold Addr.add
  by_cases h1 : i = 0
  · subst h1; simp
  · by_cases h2 : j = 0
    · subst h2; simp [h1]
    · rw [if_neg h1, if_neg h2, if_neg (by omega)]
      simp [Nat.add_assoc]
end
/-! ### One block -/
def at0 (g i : Nat) : Addr := ⟨g, i, none⟩
theorem add_at (g i j : Nat) : (at0 g i).add j = at0 g (i + j) := by unfold Addr.add at0; split <;> simp_all
/-- Block g is made of these cells, and nothing of it is frozen. -/
def Blk (w : World) (g : Nat) (cs : List Value) (e : TypeId) : Prop := w.heap[g]? = some (.cells cs.toArray e (0, 0))
section
variable {S : List Nat} {w w' : World} {g i : Nat} {cs : List Value} {e : TypeId} {v : Value}
theorem Blk.lt (h : Blk w g cs e) : g < w.heap.size := (Array.getElem?_eq_some_iff.1 h).1
theorem Blk.cell (h : Blk w g cs e) (hi : cs[i]? = some v) : w.cell? (at0 g i) = some v := by
  unfold Blk at h
  simp [World.cell?, at0, h, hi]
theorem Blk.storeOk (h : Blk w g cs e) (hi : i < cs.length) : StoreOk w (at0 g i) := by
  refine ⟨by rw [h.cell (List.getElem?_eq_getElem hi)]; rfl, ?_⟩
  unfold Blk at h
  simp [World.frozen?, at0, h]
theorem Blk.set (h : Blk w g cs e) (i : Nat) (v : Value) : Blk (w.setCell (at0 g i) v) g (cs.set i v) e := by
  have hlt := h.lt
  unfold Blk at h ⊢
  simp [World.setCell, at0, Array.getElem?_modify, h]
theorem Blk.keep (h : Blk w g cs e) (hf : Fr S w w') (hn : g ∉ S) : Blk w' g cs e := (hf.block g h.lt hn).trans h
theorem Blk.keep' (h : Blk w g cs e) (hf : Fr [] w w') : Blk w' g cs e := h.keep hf (by simp)
theorem Blk.made (w : World) (cs : Array Value) (e : TypeId) : Blk (w.alloc (.cells cs e)) w.heap.size cs.toList e := by
  unfold Blk
  exact heap_alloc_new w _
end
theorem ld_sl {w : World} {p : Addr} {a : Option Addr} {n c : Nat} {K : Option Addr → Nat → Nat → Prop} (h : w.cell? p = some (.slice a n c)) (hk : K a n c) : ldSl w p K := ⟨a, n, c, h, hk⟩
theorem ld_bool {w : World} {p : Addr} {x : Bool} {K : Bool → Prop} (h : w.cell? p = some (.bool x)) (hk : K x) : ldB w p K := ⟨x, h, hk⟩
theorem ld_ptr {w : World} {p : Addr} {x : Option Addr} {K : Option Addr → Prop} (h : w.cell? p = some (.pointer x)) (hk : K x) : ldP w p K := ⟨x, h, hk⟩
/-! ### Owned rows -/
abbrev Own (e : TypeId) (sz : Nat) (w : World) (p : Option Addr) (n c : Nat) (xs : List Value) : Prop := w.ownsRow 0 e sz (.slice p n c) n xs
structure RowT (P : Program) (t e : TypeId) (sz bytes : Nat) : Prop where
  under : P.underlying t = some (.slice e)
  info : ∃ i z, P.info? e = some i ∧ i.zero = some z ∧ i.size = sz ∧ i.bytes = bytes ∧ z.cells.size = sz
  pos : 0 < sz
section
variable {P : Program} {t e : TypeId} {sz bytes : Nat} {w w' : World} {x : Option Addr} {n c m mc : Nat} {xs us : List Value} {S : List Nat}
theorem Own.keep {p : Option Addr} (h : Fr S w w') (ho : Own e sz w p n c xs) (hn : ∀ k ∈ fbl p, k ∉ S) : Own e sz w' p n c xs := by
  refine ⟨ho.1, ?_⟩
  rcases ho.2 with hv | ⟨g, cap, cur, hv, hb, hg, rest⟩
  · exact .inl hv
  · refine .inr ⟨g, cap, cur, hv, hb, ?_, rest⟩
    injection hv with h1 h2 h3
    rw [h.block g (Array.getElem?_eq_some_iff.1 hg).1 (hn _ (by rw [h1]; simp [fbl]))]
    exact hg
theorem Own.keep' {p : Option Addr} (h : Fr [] w w') (ho : Own e sz w p n c xs) : Own e sz w' p n c xs := ho.keep h (by simp)
theorem Own.lt {p : Option Addr} (ho : Own e sz w p n c xs) : ∀ k ∈ fbl p, k < w.heap.size := by
  intro k hk
  cases p with
  | none => cases hk
  | some a => exact (World.ownsRow.lt ho k (by simp [fbl] at hk; simp [Value.ownBlock, hk])).2
theorem Own.len {p : Option Addr} (ho : Own e sz w p n c xs) : xs.length = n * sz := ho.1
theorem Own.le {p : Option Addr} (ho : Own e sz w p n c xs) : n ≤ c := by
  rcases ho.2 with ⟨hv, hn⟩ | ⟨g, cap, cur, hv, _, _, hn, _⟩
  · injection hv with h1 h2 h3; omega
  · injection hv with h1 h2 h3; omega
theorem Own.nil : Own e sz w none 0 0 [] := World.ownsRow_nil w 0 e sz
theorem Own.none_c (ho : Own e sz w none n c xs) : n = 0 ∧ c = 0 ∧ xs = [] := by
  rcases ho.2 with ⟨hv, hn⟩ | ⟨g, cap, cur, hv, _⟩
  · injection hv with h1 h2 h3
    exact ⟨h2, h3, List.eq_nil_of_length_eq_zero (by rw [ho.1, h2]; simp)⟩
  · injection hv with h1 h2 h3; cases h1
theorem Own.cells {p : Option Addr} (ho : Own e sz w p n c xs) : Cells w p xs := by
  intro j u hj
  cases p with
  | none => obtain ⟨_, _, rfl⟩ := ho.none_c; simp at hj
  | some a =>
    rcases ho.2 with ⟨hv, hn⟩ | ⟨g, cap, cur, hv, hb, hg, rest⟩
    · injection hv with h1; cases h1
    · injection hv with h1 h2 h3
      injection h1 with h1
      subst h1
      exact ⟨_, rfl, World.ownsRow.cells ho (g := g) rfl j u hj⟩
/-- A row that was just made. -/
theorem Own.made (cs : Array Value) (k : Nat) (hm : k ≤ maxLen) (hs : cs.size = k * sz) : Own e sz (w.alloc (.cells cs e)) (some ⟨w.heap.size, 0, none⟩) k k cs.toList :=
  World.ownsRow_lit w cs k (Nat.zero_le _) hm hs
/-- A cell of an owned row. -/
theorem Own.blk {p : Addr} (ho : Own e sz w (some p) n c xs) : ∃ g cur, p = at0 g 0 ∧ Blk w g cur e ∧ cur.length = c * sz ∧ cur.take (n * sz) = xs := by
  rcases ho.2 with ⟨hv, _⟩ | ⟨g, cap, cur, hv, _, hg, _, _, hs, ht⟩
  · injection hv with h1; cases h1
  · injection hv with h1 h2 h3
    injection h1 with h1
    subst h1; subst h3
    exact ⟨g, cur.toList, rfl, hg, by simpa using hs, ht⟩
theorem Own.storeOk {p : Addr} (ho : Own e sz w (some p) n c xs) {i : Nat} (hi : i < xs.length) : StoreOk w (p.add i) := by
  obtain ⟨g, cur, rfl, hb, hl, ht⟩ := Own.blk ho
  rw [add_at, Nat.zero_add]
  refine hb.storeOk ?_
  have : i < (cur.take (n * sz)).length := by rw [ht]; exact hi
  simp at this
  omega
theorem Own.set {p : Addr} (ho : Own e sz w (some p) n c xs) {i : Nat} (hi : i < xs.length) (v : Value) : Own e sz (w.setCell (p.add i) v) (some p) n c (xs.set i v) := by
  have hle := Own.le ho
  have hlen := Own.len ho
  rcases ho.2 with ⟨hv, _⟩ | ⟨g, cap, cur, hv, _, hg, _, hm, hs, ht⟩
  · injection hv with h1; cases h1
  · injection hv with h1 h2 h3
    injection h1 with h1
    subst h1; subst h3
    refine ⟨by simpa using hlen, .inr ⟨g, c, cur.setIfInBounds i v, rfl, Nat.zero_le _, ?_, hle, hm, by simpa using hs, ?_⟩⟩
    · have hb : Blk w g cur.toList e := hg
      have := hb.set i v
      unfold Blk at this
      change (w.setCell ((at0 g 0).add i) v).heap[g]? = _
      rw [add_at, Nat.zero_add, this]
      have e1 : (cur.toList.set i v).toArray = cur.setIfInBounds i v := by apply Array.ext'; simp
      rw [e1]
    · simp only [Array.toList_setIfInBounds]
      rw [List.take_set, ht]
/-- What an append to an owned row comes to. -/
theorem app_own {p : Option Addr} (hT : RowT P t e sz bytes) {ty : TypeId} {K : Value → World → Prop} (ho : Own e sz w p n c xs) (hs : Cells w x us) (hl : us.length = m * sz) (h0 : x = none → mc = 0) (h1 : ∀ u ∈ us, u.oneCell' = true)
    (h63 : n + m ≤ maxLen) (hby : (n + m) * bytes ≤ 140737488355328)
    (hK : ∀ p' c' w', Own e sz w' p' (n + m) c' (xs ++ us) → Fr (fbl p) w w' → (∀ k ∈ fbl p', k ∈ fbl p ∨ w.heap.size ≤ k) → K (.slice p' (n + m) c') w') :
    RunR P (Builtin.append_ #[t, t] ty #[.slice p n c, .slice x m mc]) w K := by
  obtain ⟨i, z, hi, hz, hsz, hbyt, hzs⟩ := hT.info
  have ht := hT.under
  have hpos := hT.pos
  subst hsz
  subst hbyt
  have hsmall : n + m ≤ 9223372036854775807 := by simp only [maxLen] at h63; omega
  have hlen : (xs ++ us).length = (n + m) * i.size := by rw [List.length_append, ho.1, hl, Nat.add_mul]
  have grown : ∀ (old : Nat), old < n + m →
      Own e i.size (w.drew.alloc (.cells (xs.toArray ++ us.toArray ++ Builtin.zeroCells z.cells (grownCap w (n + m) old e - (n + m))) e)) (some ⟨w.heap.size, 0, none⟩) (n + m) (grownCap w (n + m) old e) (xs ++ us) := by
    intro old hold
    have hge := grownCap_ge w (n + m) old e
    have hcm : grownCap w (n + m) old e ≤ maxLen := grownCap_le_maxLen w (n + m) old e h63
    refine ⟨hlen, .inr ⟨w.heap.size, _, _, rfl, Nat.zero_le _, heap_alloc_new w.drew _, hge, hcm, ?_, ?_⟩⟩
    · simp only [Array.size_append, List.size_toArray, size_zeroCells, hzs, ho.1, hl, ← Nat.add_mul]
      congr 1
      omega
    · simp only [Array.toList_append, List.append_assoc]
      rw [← List.append_assoc, ← hlen]
      exact List.take_left
  cases x with
  | none =>
    have hus : us = [] := by
      cases us with
      | nil => rfl
      | cons u us => obtain ⟨q, hq, _⟩ := hs 0 u rfl; cases hq
    subst hus
    have hm : m = 0 := by
      rcases Nat.mul_eq_zero.1 (show m * i.size = 0 by simpa using hl.symm) with h | h
      · exact h
      · omega
    subst hm
    have := h0 rfl
    subst this
    have hr := run_append_owned_none (P := P) w 0 t ty e i i.size ht hi _ _ _ ho
    exact ⟨_, _, hr, hK p c w (by simpa using ho) (Fr.refl w) (fun k hk => .inl hk)⟩
  | some a =>
    have hnews : ∀ j u, us[j]? = some u → w.cell? (a.add j) = some u := fun j u hj => by
      obtain ⟨q, hq, hv⟩ := hs j u hj
      injection hq with hq
      subst hq
      exact hv
    rcases ho.2 with ⟨hv, hn⟩ | ⟨g, cap, cur, hv, hbg, hg, hnc, hcm, hcs, htake⟩
    · injection hv with e1 e2 e3
      subst e1
      subst e2
      subst e3
      have hx : xs = [] := List.eq_nil_of_length_eq_zero (by rw [ho.1]; simp)
      subst hx
      by_cases hm : m = 0
      · subst hm
        have hn : us = [] := List.eq_nil_of_length_eq_zero (by simpa using hl)
        subst hn
        refine ⟨.slice none 0 0, w, ?_, hK none 0 w (World.ownsRow_nil w 0 e i.size) (Fr.refl w) (fun k hk => .inl hk)⟩
        simp [Builtin.append_, run_underlying ht, sizeOf, typeInfo, hi, Builtin.lenOf, Builtin.firstCells, loadCells, loadCellsFrom]
      · have hr := run_append_nil (P := P) w t ty e i z ht hi hz a m mc us hl hnews (by omega) (by omega) (by have hb := hby; simp only [Nat.zero_add] at hb; omega)
        have hgr := grown 0 (by omega)
        simp only [Nat.zero_add, List.nil_append, Array.empty_append] at hgr hr hK
        exact ⟨_, _, hr, by
          have := hK (some ⟨w.heap.size, 0, none⟩) _ _ hgr ⟨rfl, rfl, rfl, by simp, fun k hk _ => heap_alloc_old w.drew _ k hk⟩ (fun k hk => .inr (by simp [fbl] at hk; omega))
          simpa using this⟩
    · injection hv with e1 e2 e3
      subst e1
      subst e3
      by_cases hroom : n + m ≤ c
      · have hfit : n * i.size + us.length ≤ cur.size := by rw [hl, hcs, ← Nat.add_mul]; exact Nat.mul_le_mul_right _ hroom
        have hr := run_append_room (P := P) w t ty e i ht hi g n c cur hg a m mc us hl hnews h1 hroom hfit
        refine ⟨_, _, hr, hK _ _ _ ⟨hlen, .inr ⟨g, c, _, rfl, hbg, setRow_heap w g cur _ e _ hg, hroom, hcm, ?_, ?_⟩⟩ ⟨rfl, rfl, rfl, by simp, fun k _ hk => setRow_other w g k _ (fun e => hk (by simp [fbl, e]))⟩ (fun k hk => .inl hk)⟩
        · simp only [List.size_toArray, List.length_append, List.length_take, List.length_drop, Array.length_toList]
          omega
        · rw [htake, ← hlen]
          exact List.take_left
      · have holds : ∀ j u, xs[j]? = some u → w.cell? ((⟨g, 0, none⟩ : Addr).add j) = some u := World.ownsRow.cells ho (g := g) rfl
        have hr := run_append_grow (P := P) w t ty e i z ht hi hz ⟨g, 0, none⟩ n c xs ho.1 holds a m mc us hl hnews (by omega) (by omega) (growslice_fits (by omega) hby)
        exact ⟨_, _, hr, hK _ _ _ (grown c (by omega)) ⟨rfl, rfl, rfl, by simp, fun k hk _ => heap_alloc_old w.drew _ k hk⟩ (fun k hk => .inr (by simp [fbl] at hk; omega))⟩
end
end Go.Proofs.YtdgoalhnkegbmaaX
namespace Go.Proofs.YtdgoalhnkegbmaaX
set_option linter.unusedVariables false
set_option linter.unusedSimpArgs false
set_option linter.unusedSectionVars false
/-- an order that is strict and total -/
structure Lin {α : Type} (lt : α → α → Bool) : Prop where
  irr : ∀ a, lt a a = false
  tr : ∀ a b c, lt a b = true → lt b c = true → lt a c = true
  tot : ∀ a b, lt a b = false → lt b a = false → a = b
def ilt (a b : Int) : Bool := decide (a < b)
theorem ilt_lin : Lin ilt := ⟨fun a => by simp [ilt], fun a b c h k => by simp [ilt] at *; omega, fun a b h k => by simp [ilt] at *; omega⟩
section
variable {α β γ : Type} {lt : α → α → Bool}
def rank (lt : α → α → Bool) (ks : List α) (k : α) : Nat := (ks.takeWhile fun x => lt x k).length
def Srt (lt : α → α → Bool) (ks : List α) : Prop := ks.Pairwise fun a b => lt a b = true
theorem rank_le (ks : List α) (k : α) : rank lt ks k ≤ ks.length := (List.takeWhile_sublist _).length_le
theorem takeWhile_rank (ks : List α) (k : α) : ks.takeWhile (fun x => lt x k) = ks.take (rank lt ks k) := by
  have h := List.takeWhile_append_dropWhile (p := fun x => lt x k) (l := ks)
  have : ks.take (rank lt ks k) = (ks.takeWhile (fun x => lt x k) ++ ks.dropWhile (fun x => lt x k)).take (rank lt ks k) := by rw [h]
  rw [this]
  unfold rank
  rw [List.take_left]
theorem dropWhile_rank (ks : List α) (k : α) : ks.dropWhile (fun x => lt x k) = ks.drop (rank lt ks k) := by
  have h := List.takeWhile_append_dropWhile (p := fun x => lt x k) (l := ks)
  have : ks.drop (rank lt ks k) = (ks.takeWhile (fun x => lt x k) ++ ks.dropWhile (fun x => lt x k)).drop (rank lt ks k) := by rw [h]
  rw [this]
  unfold rank
  rw [List.drop_left]
theorem rank_lt' {ks : List α} {k a : α} (h : a ∈ ks.take (rank lt ks k)) : lt a k = true := by
  rw [← takeWhile_rank] at h
  have : ∀ (l : List α), a ∈ l.takeWhile (fun x => lt x k) → lt a k = true := by
    intro l
    induction l with
    | nil => intro h; cases h
    | cons x l ih =>
      intro h
      rw [List.takeWhile_cons] at h
      split at h
      · rename_i hx
        rcases List.mem_cons.1 h with rfl | h
        · exact hx
        · exact ih h
      · cases h
  exact this ks h
theorem rank_ge' (hL : Lin lt) {ks : List α} {k a : α} (hs : Srt lt ks) (h : a ∈ ks.drop (rank lt ks k)) : lt a k = false := by
  rw [← dropWhile_rank] at h
  have : ∀ (l : List α), Srt lt l → a ∈ l.dropWhile (fun x => lt x k) → lt a k = false := by
    intro l
    induction l with
    | nil => intro _ h; cases h
    | cons x l ih =>
      intro hs h
      rw [List.dropWhile_cons] at h
      have hs' := List.pairwise_cons.1 hs
      split at h
      · exact ih hs'.2 h
      · rename_i hx
        rcases List.mem_cons.1 h with rfl | h
        · simpa using hx
        · cases he : lt a k with
          | false => rfl
          | true => exact absurd (hL.tr _ _ _ (hs'.1 a h) he) hx
  exact this ks hs h
theorem rank_lt {ks : List α} {k a : α} {i : Nat} (h : i < rank lt ks k) (hi : ks[i]? = some a) : lt a k = true :=
  rank_lt' (List.mem_iff_getElem?.2 ⟨i, by rw [List.getElem?_take, if_pos h]; exact hi⟩)
theorem rank_ge (hL : Lin lt) {ks : List α} {k a : α} {i : Nat} (hs : Srt lt ks) (h : rank lt ks k ≤ i) (hi : ks[i]? = some a) : lt a k = false :=
  rank_ge' hL hs (List.mem_iff_getElem?.2 ⟨i - rank lt ks k, by rw [List.getElem?_drop, show rank lt ks k + (i - rank lt ks k) = i by omega]; exact hi⟩)
/-! ### Keys with values -/
abbrev keys (l : List (α × β)) : List α := l.map (·.1)
variable [DecidableEq α]
def at_ (lt : α → α → Bool) (l : List (α × β)) (k : α) : Nat := rank lt (keys l) k
def has (lt : α → α → Bool) (l : List (α × β)) (k : α) : Bool := decide ((keys l)[at_ lt l k]? = some k)
def get (lt : α → α → Bool) (l : List (α × β)) (k : α) : Option β := if has lt l k then (l[at_ lt l k]?).map (·.2) else none
def put (lt : α → α → Bool) (l : List (α × β)) (k : α) (v : β) : List (α × β) := if has lt l k then l.set (at_ lt l k) (k, v) else l.take (at_ lt l k) ++ (k, v) :: l.drop (at_ lt l k)
def drp (lt : α → α → Bool) (l : List (α × β)) (k : α) : List (α × β) := if has lt l k then l.take (at_ lt l k) ++ l.drop (at_ lt l k + 1) else l
def next (lt : α → α → Bool) (l : List (α × β)) (k : α) : Option α := (keys l)[if has lt l k then at_ lt l k + 1 else at_ lt l k]?
def after (lt : α → α → Bool) (l : List (α × β)) (k : α) : Option α := (next lt l k).or (keys l)[0]?
theorem at_le (l : List (α × β)) (k : α) : at_ lt l k ≤ l.length := by
  have := rank_le (lt := lt) (keys l) k
  simpa [at_] using this
theorem at_lt {l : List (α × β)} {k : α} (h : has lt l k = true) : at_ lt l k < l.length := by
  simp only [has, decide_eq_true_eq] at h
  have := (List.getElem?_eq_some_iff.1 h).1
  simpa using this
/-- how a table lies around a key: it is there -/
theorem split_has (hL : Lin lt) {l : List (α × β)} {k : α} (hs : Srt lt (keys l)) (h : has lt l k = true) :
    ∃ A B u, l = A ++ (k, u) :: B ∧ at_ lt l k = A.length ∧ (∀ e ∈ A, lt e.1 k = true) ∧ (∀ e ∈ B, lt k e.1 = true) := by
  have hlt := at_lt h
  simp only [has, decide_eq_true_eq] at h
  refine ⟨l.take (at_ lt l k), l.drop (at_ lt l k + 1), (l[at_ lt l k]).2, ?_, ?_, ?_, ?_⟩
  · have h2 := List.getElem?_eq_getElem hlt
    have h1 : (l[at_ lt l k]).1 = k := by
      rw [List.getElem?_map, h2] at h
      simpa using h
    have : (k, (l[at_ lt l k]).2) = l[at_ lt l k] := Prod.ext h1.symm rfl
    rw [this, List.getElem_cons_drop, List.take_append_drop]
  · simp; omega
  · intro e he
    refine rank_lt' (ks := keys l) ?_
    rw [← List.map_take]
    exact List.mem_map_of_mem he
  · intro e he
    have hp := List.pairwise_iff_getElem.1 hs
    obtain ⟨j, hj⟩ := List.mem_iff_getElem?.1 he
    rw [List.getElem?_drop] at hj
    obtain ⟨hj1, hj2⟩ := List.getElem?_eq_some_iff.1 hj
    obtain ⟨hk1, hk2⟩ := List.getElem?_eq_some_iff.1 h
    have := hp (at_ lt l k) (at_ lt l k + 1 + j) hk1 (by simpa using hj1) (by omega)
    rw [hk2] at this
    simpa [hj2] using this
/-- how a table lies around a key: it isn't -/
theorem split_not (hL : Lin lt) {l : List (α × β)} {k : α} (hs : Srt lt (keys l)) (h : has lt l k = false) :
    ∃ A B, l = A ++ B ∧ at_ lt l k = A.length ∧ (∀ e ∈ A, lt e.1 k = true) ∧ (∀ e ∈ B, lt k e.1 = true) := by
  refine ⟨l.take (at_ lt l k), l.drop (at_ lt l k), (List.take_append_drop _ _).symm, ?_, ?_, ?_⟩
  · have := at_le (lt := lt) l k
    simp; omega
  · intro e he
    refine rank_lt' (ks := keys l) ?_
    rw [← List.map_take]
    exact List.mem_map_of_mem he
  · intro e he
    have h1 : lt e.1 k = false := by
      refine rank_ge' hL hs ?_
      rw [← List.map_drop]
      exact List.mem_map_of_mem he
    cases h2 : lt k e.1 with
    | true => rfl
    | false =>
      have heq := hL.tot _ _ h1 h2
      obtain ⟨j, hj⟩ := List.mem_iff_getElem?.1 he
      rw [List.getElem?_drop] at hj
      obtain ⟨hj1, hj2⟩ := List.getElem?_eq_some_iff.1 hj
      simp only [has, decide_eq_false_iff_not] at h
      exfalso
      cases j with
      | zero =>
        apply h
        rw [List.getElem?_map]
        simp only [Nat.add_zero] at hj
        rw [hj]
        simp [heq]
      | succ j =>
        have hp := List.pairwise_iff_getElem.1 hs
        have hlt : at_ lt l k < l.length := by omega
        have h3 := hp (at_ lt l k) (at_ lt l k + (j + 1)) (by simpa using hlt) (by simpa using hj1) (by omega)
        have h4 : (keys l)[at_ lt l k + (j + 1)]'(by simpa using hj1) = k := by simp [hj2, heq]
        rw [h4] at h3
        have h5 := rank_ge hL hs (k := k) (i := at_ lt l k) (Nat.le_refl _) (List.getElem?_eq_getElem (by simpa using hlt))
        rw [h3] at h5
        cases h5
section
variable (hL : Lin lt) {l : List (α × β)} (hs : Srt lt (keys l))
include hL hs
theorem has_iff {k : α} : has lt l k = true ↔ k ∈ keys l := by
  constructor
  · intro h
    simp only [has, decide_eq_true_eq] at h
    exact List.mem_iff_getElem?.2 ⟨_, h⟩
  · intro h
    cases hh : has lt l k with
    | true => rfl
    | false =>
      obtain ⟨A, B, rfl, _, h1, h2⟩ := split_not hL hs hh
      simp only [keys, List.map_append, List.mem_append, List.mem_map] at h
      rcases h with ⟨e, he, rfl⟩ | ⟨e, he, rfl⟩
      · have := h1 e he; rw [hL.irr] at this; cases this
      · have := h2 e he; rw [hL.irr] at this; cases this
theorem mem_uniq {k : α} {u v : β} (h1 : (k, u) ∈ l) (h2 : (k, v) ∈ l) : u = v := by
  have hk : has lt l k = true := (has_iff hL hs).2 (List.mem_map_of_mem h1)
  obtain ⟨A, B, x, rfl, _, a1, a2⟩ := split_has hL hs hk
  have key : ∀ y, (k, y) ∈ A ++ (k, x) :: B → y = x := by
    intro y hy
    rcases List.mem_append.1 hy with hy | hy
    · have := a1 _ hy; rw [hL.irr] at this; cases this
    · rcases List.mem_cons.1 hy with hy | hy
      · injection hy
      · have := a2 _ hy; rw [hL.irr] at this; cases this
  rw [key u h1, key v h2]
theorem get_iff {k : α} {v : β} : get lt l k = some v ↔ (k, v) ∈ l := by
  unfold get
  constructor
  · intro h
    split at h
    · rename_i hh
      obtain ⟨A, B, u, rfl, ha, _, _⟩ := split_has hL hs hh
      rw [ha] at h
      simp at h
      subst h
      simp
    · cases h
  · intro h
    have hk : has lt l k = true := (has_iff hL hs).2 (List.mem_map_of_mem h)
    rw [if_pos hk]
    obtain ⟨A, B, u, e, ha, _, _⟩ := split_has hL hs hk
    have : v = u := mem_uniq hL hs h (by rw [e]; simp)
    subst this
    rw [ha, e]
    simp
theorem get_none {k : α} : get lt l k = none ↔ k ∉ keys l := by
  constructor
  · intro h hk
    obtain ⟨e, he, rfl⟩ := List.mem_map.1 hk
    have := (get_iff hL hs (v := e.2)).2 he
    rw [this] at h; cases h
  · intro h
    cases hg : get lt l k with
    | none => rfl
    | some v => exact absurd (List.mem_map_of_mem ((get_iff hL hs).1 hg)) h
theorem put_srt {k : α} {v : β} : Srt lt (keys (put lt l k v)) := by
  unfold put
  cases hh : has lt l k with
  | true =>
    obtain ⟨A, B, u, e, ha, a1, a2⟩ := split_has hL hs hh
    rw [if_pos rfl, ha, e]
    rw [e] at hs
    simpa [keys] using hs
  | false =>
    obtain ⟨A, B, e, ha, a1, a2⟩ := split_not hL hs hh
    rw [if_neg (by simp), ha, e]
    rw [e] at hs
    rw [List.take_left, List.drop_left]
    unfold Srt keys at *
    rw [List.map_append, List.pairwise_append] at hs
    rw [List.map_append, List.map_cons, List.pairwise_append, List.pairwise_cons]
    refine ⟨hs.1, ⟨?_, hs.2.1⟩, ?_⟩
    · intro x hx
      obtain ⟨y, hy, rfl⟩ := List.mem_map.1 hx
      exact a2 y hy
    · intro x hx y hy
      obtain ⟨x', hx', rfl⟩ := List.mem_map.1 hx
      rcases List.mem_cons.1 hy with rfl | hy
      · exact a1 x' hx'
      · exact hs.2.2 _ hx _ hy
theorem mem_put {k : α} {v : β} {e : α × β} : e ∈ put lt l k v ↔ e = (k, v) ∨ (e.1 ≠ k ∧ e ∈ l) := by
  unfold put
  cases hh : has lt l k with
  | true =>
    obtain ⟨A, B, u, rfl, ha, a1, a2⟩ := split_has hL hs hh
    rw [if_pos rfl, ha]
    have : (A ++ (k, u) :: B).set A.length (k, v) = A ++ (k, v) :: B := by simp
    rw [this]
    simp only [List.mem_append, List.mem_cons]
    constructor
    · rintro (h | rfl | h)
      · exact .inr ⟨fun he => absurd (a1 e h) (by rw [he, hL.irr]; simp), .inl h⟩
      · exact .inl rfl
      · exact .inr ⟨fun he => absurd (a2 e h) (by rw [he, hL.irr]; simp), .inr (.inr h)⟩
    · rintro (rfl | ⟨h, h' | rfl | h'⟩)
      · exact .inr (.inl rfl)
      · exact .inl h'
      · exact absurd rfl h
      · exact .inr (.inr h')
  | false =>
    obtain ⟨A, B, rfl, ha, a1, a2⟩ := split_not hL hs hh
    rw [if_neg (by simp), ha, List.take_left, List.drop_left]
    simp only [List.mem_append, List.mem_cons]
    constructor
    · rintro (h | rfl | h)
      · exact .inr ⟨fun he => absurd (a1 e h) (by rw [he, hL.irr]; simp), .inl h⟩
      · exact .inl rfl
      · exact .inr ⟨fun he => absurd (a2 e h) (by rw [he, hL.irr]; simp), .inr h⟩
    · rintro (rfl | ⟨_, h | h⟩)
      · exact .inr (.inl rfl)
      · exact .inl h
      · exact .inr (.inr h)
theorem drp_srt {k : α} : Srt lt (keys (drp lt l k)) := by
  unfold drp
  split
  · have : (l.take (at_ lt l k) ++ l.drop (at_ lt l k + 1)).Sublist l := by
      have h1 : (l.drop (at_ lt l k + 1)).Sublist (l.drop (at_ lt l k)) := by
        rw [← List.drop_drop]; exact List.drop_sublist _ _
      have := (List.Sublist.refl (l.take (at_ lt l k))).append h1
      rwa [List.take_append_drop] at this
    exact List.Pairwise.sublist (this.map _) hs
  · exact hs
theorem mem_drp {k : α} {e : α × β} : e ∈ drp lt l k ↔ e.1 ≠ k ∧ e ∈ l := by
  unfold drp
  cases hh : has lt l k with
  | true =>
    obtain ⟨A, B, u, rfl, ha, a1, a2⟩ := split_has hL hs hh
    rw [if_pos rfl, ha]
    have : (A ++ (k, u) :: B).take A.length ++ (A ++ (k, u) :: B).drop (A.length + 1) = A ++ B := by simp
    rw [this]
    simp only [List.mem_append, List.mem_cons]
    constructor
    · rintro (h | h)
      · exact ⟨fun he => absurd (a1 e h) (by rw [he, hL.irr]; simp), .inl h⟩
      · exact ⟨fun he => absurd (a2 e h) (by rw [he, hL.irr]; simp), .inr (.inr h)⟩
    · rintro ⟨h, h' | rfl | h'⟩
      · exact .inl h'
      · exact absurd rfl h
      · exact .inr h'
  | false =>
    rw [if_neg (by simp)]
    refine ⟨fun h => ⟨fun he => ?_, h⟩, fun h => h.2⟩
    have := (has_iff hL hs (k := k)).2 (by rw [← he]; exact List.mem_map_of_mem h)
    rw [this] at hh; cases hh
end
theorem put_length {l : List (α × β)} {k : α} {v : β} : (put lt l k v).length = if has lt l k then l.length else l.length + 1 := by
  have := at_le (lt := lt) l k
  unfold put
  split <;> simp
  omega
theorem drp_length {l : List (α × β)} {k : α} : (drp lt l k).length = if has lt l k then l.length - 1 else l.length := by
  unfold drp
  split
  · rename_i h
    have := at_lt h
    simp
    omega
  · rfl
end
section
variable {β : Type} {f : β → List Value} {Z : Nat} (hf : ∀ v, (f v).length = Z)
include hf
theorem flat_length (l : List β) : (l.flatMap f).length = l.length * Z := by
  induction l with
  | nil => simp
  | cons x l ih => rw [List.flatMap_cons, List.length_append, ih, hf, List.length_cons, Nat.succ_mul]; omega
theorem flat_take (l : List β) (i : Nat) : (l.flatMap f).take (i * Z) = (l.take i).flatMap f := by
  induction l generalizing i with
  | nil => simp
  | cons x l ih =>
    cases i with
    | zero => simp
    | succ i =>
      rw [List.flatMap_cons, List.take_succ_cons, List.flatMap_cons, ← ih, Nat.succ_mul, Nat.add_comm (i * Z) Z, ← hf x, List.take_length_add_append]
theorem flat_drop (l : List β) (i : Nat) : (l.flatMap f).drop (i * Z) = (l.drop i).flatMap f := by
  induction l generalizing i with
  | nil => simp
  | cons x l ih =>
    cases i with
    | zero => simp
    | succ i =>
      rw [List.flatMap_cons, List.drop_succ_cons, ← ih, Nat.succ_mul, Nat.add_comm (i * Z) Z, ← hf x, List.drop_length_add_append]
theorem flat_get (l : List β) {i j : Nat} {v : β} {u : Value} (hi : l[i]? = some v) (hj : (f v)[j]? = some u) : (l.flatMap f)[i * Z + j]? = some u := by
  have h1 := flat_drop hf l i
  obtain ⟨hl, hv⟩ := List.getElem?_eq_some_iff.1 hi
  rw [← List.getElem?_drop, h1, ← List.getElem_cons_drop hl, hv, List.flatMap_cons]
  rw [List.getElem?_append_left (List.getElem?_eq_some_iff.1 hj).1]
  exact hj
theorem flat_ins (l : List β) (i : Nat) (v : β) : (l.take i ++ v :: l.drop i).flatMap f = (l.flatMap f).take (i * Z) ++ f v ++ (l.flatMap f).drop (i * Z) := by
  rw [flat_take hf, flat_drop hf]; simp
theorem flat_del (l : List β) (i : Nat) : (l.take i ++ l.drop (i + 1)).flatMap f = (l.flatMap f).take (i * Z) ++ (l.flatMap f).drop ((i + 1) * Z) := by
  rw [flat_take hf, flat_drop hf]; simp
end
theorem ld_str {w : World} {p : Addr} {x : ByteArray} {K : ByteArray → Prop} (h : w.cell? p = some (.string x)) (hk : K x) : ldS w p K := ⟨x, h, hk⟩
end Go.Proofs.YtdgoalhnkegbmaaX
namespace Go.Proofs.YtdgoalhnkegbmaaX
open Go.RowKit
set_option linter.unusedVariables false
set_option linter.unusedSimpArgs false
section
variable {w : World} {Q : Value → World → Prop}
theorem nan_64 {a : Int} (h : Q (.bool false) w) : CallR Try.prog 102 #[(Value.int .u64) a] w Q := by
  refine X102.sound _ _ _ ?_
  unfold X102.f
  simpa [strEq] using h
theorem less_64 {a b : Int} (h : Q (.bool (ilt a b)) w) : CallR Try.prog 92 #[(Value.int .u64) a, (Value.int .u64) b] w Q := by
  refine X92.sound _ _ _ _ ?_
  exact nan_64 ⟨_, rfl, h⟩
theorem isnan_64 {a : Int} (h : Q (.bool false) w) : CallR Try.prog 93 #[(Value.int .u64) a] w Q := by
  refine X93.sound _ _ _ ?_
  unfold X93.f
  simpa [strEq] using h
theorem cell_64 {p : Option Addr} {ks : List Int} (h : Cells w p (ks.map (Value.int .u64))) {i : Nat} {x : Int} (hi : ks[i]? = some x) : ∃ a, p = some a ∧ w.cell? (a.add (i * 1)) = some ((Value.int .u64) x) := by
  rw [Nat.mul_one]
  exact h i _ (by simp [hi])
theorem bs_l0_64 {p : Option Addr} {n c : Nat} {ks : List Int} {k : Int} (hc : Cells w p (ks.map (Value.int .u64))) (hl : ks.length = n) (hs : Srt ilt ks) (hn : n ≤ 140737488355328) :
    ∀ (m : Nat) (i j : Nat), j - i < m → i ≤ rank ilt ks k → rank ilt ks k ≤ j → j ≤ n → Q (.tuple #[.int .i64 (rank ilt ks k : Int), .bool (decide (ks[rank ilt ks k]? = some k))]) w → X64.l0 Q m p n c k (n : Int) (i : Int) (j : Int) w
  | 0, i, j, hm, _, _, _, _ => by omega
  | m + 1, i, j, hm, h1, h2, h3, hQ => by
    rw [X64.l0]
    refine bc_dec (fun hlt => ?_) (fun hge => ?_)
    · have e1 : IntKind.wrap .i64 (iShr .u64 (IntKind.wrap .u64 (IntKind.wrap .i64 ((i : Int) + (j : Int)))) 1) = (((i + j) / 2 : Nat) : Int) := by
        have : iShr .u64 (((i + j : Nat) : Int)) 1 = (((i + j) / 2 : Nat) : Int) := by
          unfold iShr
          rw [Int.fdiv_eq_ediv_of_nonneg _ (by decide)]
          rfl
        rw [i64w ((i : Int) + (j : Int)) (by omega) (by omega), u64w ((i : Int) + (j : Int)) (by omega) (by omega), show (i : Int) + (j : Int) = ((i + j : Nat) : Int) by omega, this, i64w _ (by omega) (by omega)]
      rw [e1]
      have hh : (i + j) / 2 < ks.length := by omega
      have hi : ks[(i + j) / 2]? = some (ks[(i + j) / 2]) := List.getElem?_eq_getElem hh
      generalize ks[(i + j) / 2] = x at hi
      obtain ⟨a, ha, hx⟩ := cell_64 hc hi
      refine ⟨by decide, ⟨by omega, by omega⟩, opt_some ha (ld_int (by rw [Int.toNat_natCast]; exact hx) (less_64 ⟨_, rfl, ?_⟩))⟩
      refine bc_bool (fun hxk => ?_) (fun hxk => ?_)
      · rw [show IntKind.wrap .i64 ((((i + j) / 2 : Nat) : Int) + 1) = (((i + j) / 2 + 1 : Nat) : Int) by rw [i64w _ (by omega) (by omega)]; omega]
        refine bs_l0_64 hc hl hs hn m _ j (by omega) ?_ h2 h3 hQ
        by_cases hr : rank ilt ks k ≤ (i + j) / 2
        · have := rank_ge ilt_lin hs hr hi; rw [this] at hxk; cases hxk
        · omega
      · refine bs_l0_64 hc hl hs hn m i _ (by omega) h1 ?_ (by omega) hQ
        by_cases hr : (i + j) / 2 < rank ilt ks k
        · have := rank_lt hr hi; rw [this] at hxk; cases hxk
        · omega
    · have hir : i = rank ilt ks k := by omega
      rw [hir]
      refine bc_dec (fun hlt => ?_) (fun hge2 => ?_)
      · have hh : rank ilt ks k < ks.length := by omega
        have hi : ks[rank ilt ks k]? = some (ks[rank ilt ks k]) := List.getElem?_eq_getElem hh
        rw [hi] at hQ
        generalize ks[rank ilt ks k] = x at hi hQ
        obtain ⟨a, ha, hx⟩ := cell_64 hc hi
        refine ⟨⟨by omega, by omega⟩, opt_some ha (ld_int (by rw [Int.toNat_natCast]; exact hx) (bc_eq (fun he => ?_) (fun hne => ?_)))⟩
        · subst he
          simpa using hQ
        · refine ⟨⟨by omega, by omega⟩, opt_some ha (ld_int (by rw [Int.toNat_natCast]; exact hx) (isnan_64 ⟨_, rfl, ?_⟩))⟩
          have : decide (some x = some k) = false := by simp [hne]
          rw [this] at hQ
          exact hQ
      · have hi : ks[rank ilt ks k]? = none := List.getElem?_eq_none (by omega)
        rw [hi] at hQ
        simpa using hQ
theorem bs_64 {p : Option Addr} {n c : Nat} {ks : List Int} {k : Int} (hc : Cells w p (ks.map (Value.int .u64))) (hl : ks.length = n) (hs : Srt ilt ks) (hn : n ≤ 140737488355328)
    (hQ : Q (.tuple #[.int .i64 (rank ilt ks k : Int), .bool (decide (ks[rank ilt ks k]? = some k))]) w) : CallR Try.prog 64 #[.slice p n c, (Value.int .u64) k] w Q := by
  refine X64.sound _ _ _ _ _ _ ⟨n + 1, ?_⟩
  have := rank_le (lt := ilt) ks k
  exact bs_l0_64 hc hl hs hn (n + 1) 0 n (by omega) (by omega) (by omega) (Nat.le_refl _) hQ
end
end Go.Proofs.YtdgoalhnkegbmaaX
namespace Go.Proofs.YtdgoalhnkegbmaaX
open Go.RowKit
set_option linter.unusedVariables false
set_option linter.unusedSimpArgs false
section
variable {P : Program} {w : World} {g o m mc dl dc sz bytes : Nat} {cur cs : List Value} {e el dT sT ty : TypeId} {K : Value → World → Prop}
/-- A copy into a block. -/
theorem copy_blk {a : Addr} (hT : RowT P dT el sz bytes) (hb : Blk w g cur e) (hc : Cells w (some a) cs) (hn : cs.length = Nat.min m dl * sz) (hfit : o + cs.length ≤ cur.length) (h1 : ∀ v ∈ cs, v.oneCell' = true)
    (hK : ∀ w', Blk w' g (cur.take o ++ cs ++ cur.drop (o + cs.length)) e → Fr [g] w w' → K (.int .i64 ((Nat.min m dl : Nat) : Int)) w') : RunR P (Builtin.copy_ #[dT, sT] ty #[.slice (some (at0 g o)) dl dc, .slice (some a) m mc]) w K := by
  obtain ⟨i, z, hi, hz, hsz, hby, hzs⟩ := hT.info
  have hu := hT.under
  have hsrc : ∀ j v, cs[j]? = some v → w.cell? (a.add j) = some v := fun j v hj => by
    obtain ⟨q, hq, hv⟩ := hc j v hj
    injection hq with hq
    subst hq
    exact hv
  have hf := run_firstCells_some (P := P) w i.size (Nat.min m dl) a m mc cs (by rw [hsz]; exact hn) hsrc
  have hst := run_storeCells_at P g o e cs 0 cur.toArray w hb (by simpa using hfit) h1
  have hr : (Builtin.copy_ #[dT, sT] ty #[.slice (some (at0 g o)) dl dc, .slice (some a) m mc]).run P w = .ok (goInt (Nat.min m dl)) (w.setRow g (cur.take o ++ cs ++ cur.drop (o + cs.length)).toArray) := by
    simp only [Nat.add_zero] at hst
    have hst' : (storeCells (at0 g o) cs).run P w = _ := hst
    simp [Builtin.copy_, run_underlying hu, Builtin.lenOf, sizeOf, typeInfo, hi, hf, hst']
  refine ⟨_, _, hr, hK _ ?_ ⟨rfl, rfl, rfl, by simp, fun k _ hk => setRow_other w g k _ (fun e => hk (by simp [e]))⟩⟩
  have := setRow_heap w g cur.toArray (cur.take o ++ cs ++ cur.drop (o + cs.length)).toArray e (0, 0) hb
  exact this
/-- The zeros of a type, n times. -/
def zs (z : Value) (n : Nat) : List Value := (Builtin.zeroCells z.cells n).toList
theorem zs_length (z : Value) (n : Nat) : (zs z n).length = n * z.cells.size := by unfold zs; rw [Array.length_toList, size_zeroCells]
/-- A row of a block is cleared. -/
theorem clear_blk {n : Nat} {z : Value} (hT : RowT P dT el sz bytes) (hz : (P.info? el).bind (·.zero) = some z) (hz1 : ∀ v ∈ zs z n, v.oneCell' = true) (hb : Blk w g cur e) (h0 : 0 < n) (hfit : o + n * sz ≤ cur.length)
    (hK : ∀ w', Blk w' g (cur.take o ++ zs z n ++ cur.drop (o + n * sz)) e → Fr [g] w w' → K (.tuple #[]) w') : RunR P (Builtin.clear_ #[dT] ty #[.slice (some (at0 g o)) n dc]) w K := by
  obtain ⟨i, z', hi, hz', hsz, hby, hzs⟩ := hT.info
  have hu := hT.under
  have : z' = z := by rw [hi] at hz; simp [hz'] at hz; exact hz
  subst this
  have hlen : (zs z' n).length = n * sz := by rw [zs_length, hzs]
  have hst := run_storeCells_at P g o e (zs z' n) 0 cur.toArray w hb (by simpa [hlen] using hfit) hz1
  simp only [Nat.add_zero, hlen] at hst
  have hst' : (storeCells (at0 g o) (Builtin.zeroCells z'.cells n).toList).run P w = _ := hst
  obtain ⟨k, rfl⟩ : ∃ k, n = k + 1 := ⟨n - 1, by omega⟩
  have hr : (Builtin.clear_ #[dT] ty #[.slice (some (at0 g o)) (k + 1) dc]).run P w = .ok (.tuple #[]) (w.setRow g (cur.take o ++ zs z' (k + 1) ++ cur.drop (o + (k + 1) * sz)).toArray) := by
    simp [Builtin.clear_, run_underlying hu, zeroValue, typeInfo, hi, hz', hst']
  refine ⟨_, _, hr, hK _ ?_ ⟨rfl, rfl, rfl, by simp, fun j _ hj => setRow_other w g j _ (fun e => hj (by simp [e]))⟩⟩
  exact setRow_heap w g cur.toArray (cur.take o ++ zs z' (k + 1) ++ cur.drop (o + (k + 1) * sz)).toArray e (0, 0) hb
theorem cut_at {s c l g : Nat} (h : c ≠ l) : cutAt s c l (some (at0 g 0)) = some (at0 g (l * s)) := by
  unfold cutAt
  rw [if_neg h]
  simp [add_at]
theorem toNat0 : Int.toNat ((0 : Nat) : Int) = 0 := rfl
theorem cutAt_zero' (s c : Nat) (a : Option Addr) : cutAt s c 0 a = a := by
  unfold cutAt
  split
  · rfl
  · cases a <;> simp [Addr.add]
theorem own_blk {n c : Nat} {xs : List Value} (hb : Blk w g cur e) (hl : cur.length = c * sz) (hn : n ≤ c) (hm : c ≤ maxLen) (ht : cur.take (n * sz) = xs) : Own e sz w (some (at0 g 0)) n c xs :=
  ⟨by rw [← ht, List.length_take, hl]; exact Nat.min_eq_left (Nat.mul_le_mul_right _ hn), .inr ⟨g, c, cur.toArray, rfl, Nat.zero_le _, hb, hn, hm, by simpa using hl, by simpa using ht⟩⟩
theorem own_max {p : Addr} {n c : Nat} {xs : List Value} (ho : Own e sz w (some p) n c xs) : c ≤ maxLen := by
  rcases ho.2 with ⟨hv, _⟩ | ⟨g, cap, cur, hv, _, hg, _, hm, hs, ht⟩
  · injection hv with h1; cases h1
  · injection hv with h1 h2 h3; omega
/-- A slice with three indices, at a slice. -/
theorem slice3 {a : Option Addr} {n c l h m : Nat} (hT : RowT P dT el sz bytes) (h1 : l ≤ h) (h2 : h ≤ m) (h3 : m ≤ c)
    (hK : ∀ p, K (.slice p (h - l) (m - l)) w) : RunR P (Instr.sliceAt dT (.slice a n c) (some (.int .i64 (l : Int))) (some (.int .i64 (h : Int))) (some (.int .i64 (m : Int)))) w K := by
  obtain ⟨i, z, hi, _, hs, _⟩ := hT.info
  have x1 : ∀ (x y : Nat) (code : BoundsCode), x ≤ y → ∀ w : World, (Instr.sliceBound (.int .i64 (x : Int)) y code).run P w = .ok x w := fun x y code h w => by
    have : (0 : Int) ≤ (x : Int) ∧ (x : Int) ≤ (y : Int) := ⟨by omega, by omega⟩
    simp [Instr.sliceBound, asIntOf, this]
  refine ⟨_, w, ?_, hK (if m = l then a else a.map (·.add (l * sz)))⟩
  simp [Instr.sliceAt, Instr.slice, Instr.sliceBounds, run_underlying hT.under, x1 _ _ _ h1, x1 _ _ _ h2, x1 _ _ _ h3, sizeOf, typeInfo, hi, hs]
/-- Two blocks do not overlap. -/
theorem overlaps_apart {a b : Nat} {ca cb : List Value} {o1 o2 la ka lb kb : Nat} {t tR : TypeId} (hT : RowT P t e sz bytes) (ha : Blk w a ca e) (hb : Blk w b cb e) (hne : a ≠ b) (hcb : 0 < cb.length) :
    (Extern.SlicesOverlaps.overlaps #[t, t] #[tR] #[.slice (some (at0 a o1)) la ka, .slice (some (at0 b o2)) lb kb]).run P w = .ok (.bool false) w := by
  have hsa : w.shape? a = some (e, ca.length) := by unfold Blk at ha; simp [World.shape?, ha]
  have hsb : w.shape? b = some (e, cb.length) := by unfold Blk at hb; simp [World.shape?, hb]
  have hfz : ∀ o, w.frozen? (at0 a o) = false := fun o => by unfold Blk at ha; simp [World.frozen?, at0, ha]
  obtain ⟨i, z, hi, _, hs, _⟩ := hT.info
  exact Lib.run_overlaps_apart (P := P) w t tR e hT.under sz (fun w => by simp [Go.sizeOf, typeInfo, hi, hs]) (at0 a o1) (at0 b o2) la ka lb kb hne e e ca.length cb.length hsa hsb (by omega) (hfz o1) (hfz ca.length)
/-- A row that grows by a few zeros: what stands behind, of the new block. -/
theorem grow_blk {a : Addr} {n c k : Nat} {xs : List Value} {z : Value} (hT : RowT P dT el sz bytes) (hz : (P.info? el).bind (·.zero) = some z) (htn : P.underlying sT = some (.int .i64)) (hx : xs.length = n * sz) (hc : ∀ j u, xs[j]? = some u → w.cell? (a.add j) = some u)
    (h0 : 0 < k) (hg : c < n + k) (hm : n + k ≤ 1048576) (hby : bytes ≤ 4096)
    (hK : ∀ C w', n + k ≤ C → C ≤ maxLen → Blk w' w.heap.size (xs ++ zs z k ++ zs z (C - (n + k))) el → Fr [] w w' → K (.slice (some (at0 w.heap.size 0)) (n + k) C) w') :
    RunR P (Builtin.append_ #[dT, sT] dT #[.slice (some a) n c, .int .i64 (k : Int)]) w K := by
  obtain ⟨i, z', hi, hz', hsz, hbi, hzs⟩ := hT.info
  have : z' = z := by rw [hi] at hz; simp [hz'] at hz; exact hz
  subst this
  have hpos := hT.pos
  have hb1 : (n + k) * i.bytes ≤ 1048576 * 4096 := Nat.mul_le_mul (by omega) (by omega)
  have hb2 : k * i.bytes ≤ 1048576 * 4096 := Nat.mul_le_mul (by omega) (by omega)
  have hr := Lib.run_append_grow_zeros (P := P) (ty := dT) w dT sT el i z' .i64 .i64 hT.under htn hi hz' (some a) n c xs (by rw [hsz]; exact run_firstCells_some (P := P) w.drew sz n a n c xs hx (fun j u hj => hc j u hj)) k h0 (by omega) hg (by omega) (by omega) (growslice_fits hg (by omega))
  have hge := grownCap_ge w (n + k) c el
  have hcm : grownCap w (n + k) c el ≤ maxLen := grownCap_le_maxLen w _ c el (by simp only [maxLen]; omega)
  refine ⟨_, _, hr, hK _ _ hge hcm ?_ (Fr.drew.tr (Fr.alloc _ _))⟩
  have := Blk.made w.drew (xs.toArray ++ Builtin.zeroCells z'.cells k ++ Builtin.zeroCells z'.cells (grownCap w (n + k) c el - (n + k))) el
  simpa [zs] using this
end
end Go.Proofs.YtdgoalhnkegbmaaX
namespace Go.Proofs.YtdgoalhnkegbmaaX
open Go.RowKit
set_option linter.unusedVariables false
set_option linter.unusedSimpArgs false
theorem rowT45 : RowT Try.prog 45 22 1 8 := ⟨by kernel_rfl, ⟨Try.t22, Value.int .u64 0, by kernel_rfl, by kernel_rfl, by kernel_rfl, by kernel_rfl, by kernel_rfl⟩, by omega⟩
theorem zeroT45 : (Try.prog.info? 22).bind (·.zero) = some (Value.int .u64 0) := by kernel_rfl
theorem insGrow90 {L us cs X : List Value} {a : Nat} (h : a ≤ L.length) : ((L.take a ++ us ++ L.drop (a + us.length)).take (a + us.length) ++ cs ++ X).take (a + us.length + cs.length) = L.take a ++ us ++ cs := by
  have h1 : (L.take a ++ us).length = a + us.length := by simp; omega
  rw [show (L.take a ++ us ++ L.drop (a + us.length)).take (a + us.length) = L.take a ++ us by rw [← h1, List.take_left]]
  rw [show a + us.length + cs.length = (L.take a ++ us ++ cs).length by rw [List.length_append, h1], List.take_left]
theorem insRoom90 {cur us cs : List Value} {a : Nat} (h : a + us.length ≤ cur.length) :
    ((cur.take (a + us.length) ++ cs ++ cur.drop (a + us.length + cs.length)).take a ++ us ++ (cur.take (a + us.length) ++ cs ++ cur.drop (a + us.length + cs.length)).drop (a + us.length)).take (a + us.length + cs.length) = cur.take a ++ us ++ cs := by
  have h1 : (cur.take (a + us.length)).length = a + us.length := by simp; omega
  have x1 : (cur.take (a + us.length) ++ cs ++ cur.drop (a + us.length + cs.length)).take a = cur.take a := by
    rw [List.append_assoc, List.take_append_of_le_length (by omega), List.take_take, Nat.min_eq_left (by omega)]
  have x2 : (cur.take (a + us.length) ++ cs ++ cur.drop (a + us.length + cs.length)).drop (a + us.length) = cs ++ cur.drop (a + us.length + cs.length) := by
    generalize cur.take (a + us.length) = A at h1
    rw [← h1, List.append_assoc, List.drop_left]
  rw [x1, x2]
  have h2 : (cur.take a ++ us ++ cs).length = a + us.length + cs.length := by simp; omega
  rw [← h2, ← List.append_assoc, List.take_left]
theorem ins_90 {w : World} {p : Option Addr} {n c i gv : Nat} {xs us : List Value} {Q : Value → World → Prop} (ho : Own 22 1 w p n c xs) (hi : i ≤ n) (hv : Blk w gv us 22) (hu : us.length = 1) (h1 : ∀ v ∈ xs, v.oneCell' = true) (h1u : ∀ v ∈ us, v.oneCell' = true) (hg : gv ∉ fbl p) (hn : n + 1 ≤ 1048576)
    (hK : ∀ p' c' w', Own 22 1 w' p' (n + 1) c' (xs.take (i * 1) ++ us ++ xs.drop (i * 1)) → Fr (fbl p) w w' → (∀ z ∈ fbl p', z ∈ fbl p ∨ w.heap.size ≤ z) → Q (.slice p' (n + 1) c') w') :
    CallR Try.prog 90 #[.slice p n c, .int .i64 (i : Int), .slice (some (at0 gv 0)) 1 1] w Q := by
  refine X90.sound _ _ _ _ _ _ _ _ _ ?_
  have hle := ho.le
  have hlen : xs.length = n * 1 := ho.len
  have e1 : IntKind.wrap .i64 ((n : Int) + ((1 : Nat) : Int)) = ((n + 1 : Nat) : Int) := by rw [i64w _ (by omega) (by omega)]; omega
  have e2 : IntKind.wrap .i64 ((i : Int) + ((1 : Nat) : Int)) = ((i + 1 : Nat) : Int) := by rw [i64w _ (by omega) (by omega)]; omega
  have hvs : ∀ {w' : World}, Blk w' gv us 22 → Cells w' (some (at0 gv 0)) us := fun hv j u hj => ⟨at0 gv 0, rfl, by rw [add_at, Nat.zero_add]; exact hv.cell hj⟩
  have ei : (i + 1) * 1 = i * 1 + us.length := by omega
  have en : (n + 1) * 1 = i * 1 + us.length + (n - i) * 1 := by omega
  unfold X90.f
  simp only [e1, e2, toNat0, cutAt_zero', Nat.sub_zero, Int.toNat_natCast]
  refine ⟨⟨by omega, by omega, by omega⟩, bc_eq (fun h => absurd h (by decide)) (fun _ => bc_eq (fun hin => ?_) (fun hin => bc_dec (fun hgt => ?_) (fun hroom => ?_)))⟩
  · have hin : i = n := by omega
    subst hin
    refine app_own rowT45 ho (hvs hv) (by omega) (fun h => by cases h) h1u (by simp only [maxLen]; omega) (by omega) ?_
    intro p' c' w' o f e
    refine ⟨_, _, _, rfl, hK p' c' w' ?_ f e⟩
    rw [List.take_of_length_le (by omega), List.drop_eq_nil_of_le (by omega), List.append_nil]
    exact o
  · cases p with
    | none => have := ho.none_c; omega
    | some p =>
      obtain ⟨g, cur, rfl, hb, hcl, htk⟩ := Own.blk ho
      have e3 : IntKind.wrap .i64 (((n + 1 : Nat) : Int) - (i : Int)) = ((n + 1 - i : Nat) : Int) := by rw [i64w _ (by omega) (by omega)]; omega
      rw [e3]
      refine ⟨by omega, grow_blk rowT45 zeroT45 (by kernel_rfl) (xs := cur.take (i * 1)) (by rw [List.length_take]; omega) (fun j u hj => ?_) (by omega) (by omega) (by omega) (by omega) ?_⟩
      · rw [add_at, Nat.zero_add]
        rw [List.getElem?_take] at hj
        split at hj
        · exact hb.cell hj
        · cases hj
      intro C w1 hge hcm b1 f1
      rw [show i + (n + 1 - i) = n + 1 by omega] at *
      refine ⟨_, _, _, rfl, ?_⟩
      generalize hL : cur.take (i * 1) ++ zs (Value.int .u64 0) (n + 1 - i) ++ zs (Value.int .u64 0) (C - (n + 1)) = L at b1
      have hzc : (Value.int .u64 0).cells.size = 1 := by rfl
      have hLl : L.length = C * 1 := by rw [← hL, List.length_append, List.length_append, zs_length, zs_length, hzc, List.length_take]; omega
      have hLi : L.take (i * 1) = cur.take (i * 1) := by rw [← hL, List.append_assoc, List.take_append_of_le_length (by rw [List.length_take]; omega), List.take_take, Nat.min_self]
      have hv1 := hv.keep' f1
      have hb1 := hb.keep' f1
      have hgv := hv.lt
      have hgg := hb.lt
      simp only [cut_at (s := 1) (g := w.heap.size) (show C ≠ i by omega)]
      refine ⟨⟨by omega, by omega, by omega⟩, copy_blk rowT45 b1 (cs := us) (hvs hv1) (by rw [show Nat.min 1 (n + 1 - i) = 1 from Nat.min_eq_left (by omega)]; omega) (by omega) h1u ?_⟩
      intro w2 b2 f2
      unfold drewK
      have hb2 := (hb1.keep f2 (by simp; omega)).keep' (Fr.drew (w := w2))
      have b2' := b2.keep' (Fr.drew (w := w2))
      have hcs : (cur.drop (i * 1)).take ((n - i) * 1) = xs.drop (i * 1) := by rw [← htk, List.drop_take]; congr 1; omega
      have hcl2 : (xs.drop (i * 1)).length = (n - i) * 1 := by rw [List.length_drop]; omega
      by_cases hci : C = i + 1
      · omega
      simp only [cut_at (s := 1) (g := w.heap.size) (show C ≠ i + 1 from hci), cut_at (s := 1) (g := g) (show c ≠ i by omega)]
      refine ⟨_, rfl, ⟨by omega, by omega, by omega⟩, ⟨by omega, by omega, by omega⟩, copy_blk rowT45 b2' (cs := xs.drop (i * 1)) (fun j v hj => ⟨_, rfl, ?_⟩) (by rw [hcl2, show Nat.min (n - i) (n + 1 - (i + 1)) = n - i from Nat.min_eq_left (by omega)]) (by rw [hcl2]; simp only [List.length_append, List.length_take, List.length_drop]; omega) (fun u hu => h1 u (List.mem_of_mem_drop hu)) ?_⟩
      · rw [add_at]
        refine hb2.cell ?_
        rw [← hcs, List.getElem?_take] at hj
        split at hj
        · rwa [List.getElem?_drop] at hj
        · cases hj
      intro w3 b3 f3
      have hext : ∀ x ∈ [w.heap.size], x ∈ fbl (some (at0 g 0)) ∨ w.heap.size ≤ x := fun x hx => .inr (by simp at hx; omega)
      refine ⟨_, rfl, hK (some (at0 w.heap.size 0)) C w3 (own_blk b3 (by rw [hcl2]; simp only [List.length_append, List.length_take, List.length_drop]; omega) (by omega) hcm ?_) (((f1.any.trans f2 hext).tr Fr.drew).trans f3 hext) (fun z hz => .inr (by simp [fbl, at0] at hz; omega))⟩
      have a1 : xs.take (i * 1) = L.take (i * 1) := by rw [hLi, ← htk, List.take_take, Nat.min_eq_left (by omega)]
      rw [en, ei, a1, ← hcl2]
      exact insGrow90 (by omega)
  · cases p with
    | none => have := ho.none_c; omega
    | some p =>
      have hmx := own_max ho
      obtain ⟨g, cur, rfl, hb, hcl, htk⟩ := Own.blk ho
      have hne : gv ≠ g := fun h => hg (by simp [fbl, at0, h])
      simp only [cut_at (s := 1) (g := g) (show c ≠ i + 1 by omega), cut_at (s := 1) (g := g) (show c ≠ i by omega)]
      refine ⟨by omega, ⟨by omega, by omega, by omega⟩, ?_⟩
      refine ⟨_, _, by rw [run_callFunc_extern (fn := Try.f98) Try.func98 (by kernel_rfl) (by kernel_rfl) (by kernel_rfl) (e := Extern.SlicesOverlaps.overlaps #[45, 45] #[4]) (by kernel_rfl), overlaps_apart rowT45 hv hb hne (by omega)]; rfl, _, rfl, ?_⟩
      refine bc_bool (fun _ => ?_) (fun h => absurd h (by decide))
      unfold drewK
      have hb1 := hb.keep' (Fr.drew (w := w))
      have hv1 := hv.keep' (Fr.drew (w := w))
      have hcs : (cur.drop (i * 1)).take ((n - i) * 1) = xs.drop (i * 1) := by rw [← htk, List.drop_take]; congr 1; omega
      have hcl2 : (xs.drop (i * 1)).length = (n - i) * 1 := by rw [List.length_drop]; omega
      refine ⟨⟨by omega, by omega, by omega⟩, ⟨by omega, by omega, by omega⟩, ?_⟩
      refine copy_blk rowT45 hb1 (cs := xs.drop (i * 1)) (fun j v hj => ⟨_, rfl, ?_⟩) (by rw [hcl2, show Nat.min (n + 1 - i) (n + 1 - (i + 1)) = n - i from Nat.min_eq_right (by omega) |>.trans (by omega)]) (by rw [hcl2]; omega) (fun u hu => h1 u (List.mem_of_mem_drop hu)) ?_
      · rw [add_at]
        refine hb1.cell ?_
        rw [← hcs, List.getElem?_take] at hj
        split at hj
        · rwa [List.getElem?_drop] at hj
        · cases hj
      intro w2 b2 f2
      have hv2 := hv1.keep f2 (by simp [hne])
      refine ⟨_, rfl, ⟨by omega, by omega, by omega⟩, ?_⟩
      refine copy_blk rowT45 b2 (cs := us) (hvs hv2) (by rw [show Nat.min 1 (n + 1 - i) = 1 from Nat.min_eq_left (by omega)]; omega) (by rw [hcl2]; simp only [List.length_append, List.length_take, List.length_drop]; omega) h1u ?_
      intro w3 b3 f3
      refine ⟨_, rfl, hK _ _ w3 (own_blk b3 (by rw [hcl2]; simp only [List.length_append, List.length_take, List.length_drop]; omega) (by omega) hmx ?_) ((Fr.drew.tr f2).tr f3) (fun z hz => .inl hz)⟩
      have a1 : xs.take (i * 1) = cur.take (i * 1) := by rw [← htk, List.take_take, Nat.min_eq_left (by omega)]
      rw [en, ei, a1, ← hcl2]
      exact insRoom90 (by omega)
end Go.Proofs.YtdgoalhnkegbmaaX
namespace Go.Proofs.YtdgoalhnkegbmaaX
open Go.RowKit
set_option linter.unusedVariables false
set_option linter.unusedSimpArgs false
theorem rowT59 : RowT Try.prog 59 44 15 152 := ⟨by kernel_rfl, ⟨Try.t44, Value.agg #[.int .i64 0, .int .u64 0, .int .i64 0, .int .i64 0, .int .i64 0, .int .u64 0, .slice none 0 0, .int .u64 0, .int .i64 0, .int .i64 0, .slice none 0 0, .int .u64 0, .int .u64 0, .int .u64 0, .int .u64 0], by kernel_rfl, by kernel_rfl, by kernel_rfl, by kernel_rfl, by kernel_rfl⟩, by omega⟩
theorem zeroT59 : (Try.prog.info? 44).bind (·.zero) = some (Value.agg #[.int .i64 0, .int .u64 0, .int .i64 0, .int .i64 0, .int .i64 0, .int .u64 0, .slice none 0 0, .int .u64 0, .int .i64 0, .int .i64 0, .slice none 0 0, .int .u64 0, .int .u64 0, .int .u64 0, .int .u64 0]) := by kernel_rfl
theorem insGrow91 {L us cs X : List Value} {a : Nat} (h : a ≤ L.length) : ((L.take a ++ us ++ L.drop (a + us.length)).take (a + us.length) ++ cs ++ X).take (a + us.length + cs.length) = L.take a ++ us ++ cs := by
  have h1 : (L.take a ++ us).length = a + us.length := by simp; omega
  rw [show (L.take a ++ us ++ L.drop (a + us.length)).take (a + us.length) = L.take a ++ us by rw [← h1, List.take_left]]
  rw [show a + us.length + cs.length = (L.take a ++ us ++ cs).length by rw [List.length_append, h1], List.take_left]
theorem insRoom91 {cur us cs : List Value} {a : Nat} (h : a + us.length ≤ cur.length) :
    ((cur.take (a + us.length) ++ cs ++ cur.drop (a + us.length + cs.length)).take a ++ us ++ (cur.take (a + us.length) ++ cs ++ cur.drop (a + us.length + cs.length)).drop (a + us.length)).take (a + us.length + cs.length) = cur.take a ++ us ++ cs := by
  have h1 : (cur.take (a + us.length)).length = a + us.length := by simp; omega
  have x1 : (cur.take (a + us.length) ++ cs ++ cur.drop (a + us.length + cs.length)).take a = cur.take a := by
    rw [List.append_assoc, List.take_append_of_le_length (by omega), List.take_take, Nat.min_eq_left (by omega)]
  have x2 : (cur.take (a + us.length) ++ cs ++ cur.drop (a + us.length + cs.length)).drop (a + us.length) = cs ++ cur.drop (a + us.length + cs.length) := by
    generalize cur.take (a + us.length) = A at h1
    rw [← h1, List.append_assoc, List.drop_left]
  rw [x1, x2]
  have h2 : (cur.take a ++ us ++ cs).length = a + us.length + cs.length := by simp; omega
  rw [← h2, ← List.append_assoc, List.take_left]
theorem ins_91 {w : World} {p : Option Addr} {n c i gv : Nat} {xs us : List Value} {Q : Value → World → Prop} (ho : Own 44 15 w p n c xs) (hi : i ≤ n) (hv : Blk w gv us 44) (hu : us.length = 15) (h1 : ∀ v ∈ xs, v.oneCell' = true) (h1u : ∀ v ∈ us, v.oneCell' = true) (hg : gv ∉ fbl p) (hn : n + 1 ≤ 1048576)
    (hK : ∀ p' c' w', Own 44 15 w' p' (n + 1) c' (xs.take (i * 15) ++ us ++ xs.drop (i * 15)) → Fr (fbl p) w w' → (∀ z ∈ fbl p', z ∈ fbl p ∨ w.heap.size ≤ z) → Q (.slice p' (n + 1) c') w') :
    CallR Try.prog 91 #[.slice p n c, .int .i64 (i : Int), .slice (some (at0 gv 0)) 1 1] w Q := by
  refine X91.sound _ _ _ _ _ _ _ _ _ ?_
  have hle := ho.le
  have hlen : xs.length = n * 15 := ho.len
  have e1 : IntKind.wrap .i64 ((n : Int) + ((1 : Nat) : Int)) = ((n + 1 : Nat) : Int) := by rw [i64w _ (by omega) (by omega)]; omega
  have e2 : IntKind.wrap .i64 ((i : Int) + ((1 : Nat) : Int)) = ((i + 1 : Nat) : Int) := by rw [i64w _ (by omega) (by omega)]; omega
  have hvs : ∀ {w' : World}, Blk w' gv us 44 → Cells w' (some (at0 gv 0)) us := fun hv j u hj => ⟨at0 gv 0, rfl, by rw [add_at, Nat.zero_add]; exact hv.cell hj⟩
  have ei : (i + 1) * 15 = i * 15 + us.length := by omega
  have en : (n + 1) * 15 = i * 15 + us.length + (n - i) * 15 := by omega
  unfold X91.f
  simp only [e1, e2, toNat0, cutAt_zero', Nat.sub_zero, Int.toNat_natCast]
  refine ⟨⟨by omega, by omega, by omega⟩, bc_eq (fun h => absurd h (by decide)) (fun _ => bc_eq (fun hin => ?_) (fun hin => bc_dec (fun hgt => ?_) (fun hroom => ?_)))⟩
  · have hin : i = n := by omega
    subst hin
    refine app_own rowT59 ho (hvs hv) (by omega) (fun h => by cases h) h1u (by simp only [maxLen]; omega) (by omega) ?_
    intro p' c' w' o f e
    refine ⟨_, _, _, rfl, hK p' c' w' ?_ f e⟩
    rw [List.take_of_length_le (by omega), List.drop_eq_nil_of_le (by omega), List.append_nil]
    exact o
  · cases p with
    | none => have := ho.none_c; omega
    | some p =>
      obtain ⟨g, cur, rfl, hb, hcl, htk⟩ := Own.blk ho
      have e3 : IntKind.wrap .i64 (((n + 1 : Nat) : Int) - (i : Int)) = ((n + 1 - i : Nat) : Int) := by rw [i64w _ (by omega) (by omega)]; omega
      rw [e3]
      refine ⟨by omega, grow_blk rowT59 zeroT59 (by kernel_rfl) (xs := cur.take (i * 15)) (by rw [List.length_take]; omega) (fun j u hj => ?_) (by omega) (by omega) (by omega) (by omega) ?_⟩
      · rw [add_at, Nat.zero_add]
        rw [List.getElem?_take] at hj
        split at hj
        · exact hb.cell hj
        · cases hj
      intro C w1 hge hcm b1 f1
      rw [show i + (n + 1 - i) = n + 1 by omega] at *
      refine ⟨_, _, _, rfl, ?_⟩
      generalize hL : cur.take (i * 15) ++ zs (Value.agg #[.int .i64 0, .int .u64 0, .int .i64 0, .int .i64 0, .int .i64 0, .int .u64 0, .slice none 0 0, .int .u64 0, .int .i64 0, .int .i64 0, .slice none 0 0, .int .u64 0, .int .u64 0, .int .u64 0, .int .u64 0]) (n + 1 - i) ++ zs (Value.agg #[.int .i64 0, .int .u64 0, .int .i64 0, .int .i64 0, .int .i64 0, .int .u64 0, .slice none 0 0, .int .u64 0, .int .i64 0, .int .i64 0, .slice none 0 0, .int .u64 0, .int .u64 0, .int .u64 0, .int .u64 0]) (C - (n + 1)) = L at b1
      have hzc : (Value.agg #[.int .i64 0, .int .u64 0, .int .i64 0, .int .i64 0, .int .i64 0, .int .u64 0, .slice none 0 0, .int .u64 0, .int .i64 0, .int .i64 0, .slice none 0 0, .int .u64 0, .int .u64 0, .int .u64 0, .int .u64 0]).cells.size = 15 := by rfl
      have hLl : L.length = C * 15 := by rw [← hL, List.length_append, List.length_append, zs_length, zs_length, hzc, List.length_take]; omega
      have hLi : L.take (i * 15) = cur.take (i * 15) := by rw [← hL, List.append_assoc, List.take_append_of_le_length (by rw [List.length_take]; omega), List.take_take, Nat.min_self]
      have hv1 := hv.keep' f1
      have hb1 := hb.keep' f1
      have hgv := hv.lt
      have hgg := hb.lt
      simp only [cut_at (s := 15) (g := w.heap.size) (show C ≠ i by omega)]
      refine ⟨⟨by omega, by omega, by omega⟩, copy_blk rowT59 b1 (cs := us) (hvs hv1) (by rw [show Nat.min 1 (n + 1 - i) = 1 from Nat.min_eq_left (by omega)]; omega) (by omega) h1u ?_⟩
      intro w2 b2 f2
      unfold drewK
      have hb2 := (hb1.keep f2 (by simp; omega)).keep' (Fr.drew (w := w2))
      have b2' := b2.keep' (Fr.drew (w := w2))
      have hcs : (cur.drop (i * 15)).take ((n - i) * 15) = xs.drop (i * 15) := by rw [← htk, List.drop_take]; congr 1; omega
      have hcl2 : (xs.drop (i * 15)).length = (n - i) * 15 := by rw [List.length_drop]; omega
      by_cases hci : C = i + 1
      · omega
      simp only [cut_at (s := 15) (g := w.heap.size) (show C ≠ i + 1 from hci), cut_at (s := 15) (g := g) (show c ≠ i by omega)]
      refine ⟨_, rfl, ⟨by omega, by omega, by omega⟩, ⟨by omega, by omega, by omega⟩, copy_blk rowT59 b2' (cs := xs.drop (i * 15)) (fun j v hj => ⟨_, rfl, ?_⟩) (by rw [hcl2, show Nat.min (n - i) (n + 1 - (i + 1)) = n - i from Nat.min_eq_left (by omega)]) (by rw [hcl2]; simp only [List.length_append, List.length_take, List.length_drop]; omega) (fun u hu => h1 u (List.mem_of_mem_drop hu)) ?_⟩
      · rw [add_at]
        refine hb2.cell ?_
        rw [← hcs, List.getElem?_take] at hj
        split at hj
        · rwa [List.getElem?_drop] at hj
        · cases hj
      intro w3 b3 f3
      have hext : ∀ x ∈ [w.heap.size], x ∈ fbl (some (at0 g 0)) ∨ w.heap.size ≤ x := fun x hx => .inr (by simp at hx; omega)
      refine ⟨_, rfl, hK (some (at0 w.heap.size 0)) C w3 (own_blk b3 (by rw [hcl2]; simp only [List.length_append, List.length_take, List.length_drop]; omega) (by omega) hcm ?_) (((f1.any.trans f2 hext).tr Fr.drew).trans f3 hext) (fun z hz => .inr (by simp [fbl, at0] at hz; omega))⟩
      have a1 : xs.take (i * 15) = L.take (i * 15) := by rw [hLi, ← htk, List.take_take, Nat.min_eq_left (by omega)]
      rw [en, ei, a1, ← hcl2]
      exact insGrow91 (by omega)
  · cases p with
    | none => have := ho.none_c; omega
    | some p =>
      have hmx := own_max ho
      obtain ⟨g, cur, rfl, hb, hcl, htk⟩ := Own.blk ho
      have hne : gv ≠ g := fun h => hg (by simp [fbl, at0, h])
      simp only [cut_at (s := 15) (g := g) (show c ≠ i + 1 by omega), cut_at (s := 15) (g := g) (show c ≠ i by omega)]
      refine ⟨by omega, ⟨by omega, by omega, by omega⟩, ?_⟩
      refine ⟨_, _, by rw [run_callFunc_extern (fn := Try.f100) Try.func100 (by kernel_rfl) (by kernel_rfl) (by kernel_rfl) (e := Extern.SlicesOverlaps.overlaps #[59, 59] #[4]) (by kernel_rfl), overlaps_apart rowT59 hv hb hne (by omega)]; rfl, _, rfl, ?_⟩
      refine bc_bool (fun _ => ?_) (fun h => absurd h (by decide))
      unfold drewK
      have hb1 := hb.keep' (Fr.drew (w := w))
      have hv1 := hv.keep' (Fr.drew (w := w))
      have hcs : (cur.drop (i * 15)).take ((n - i) * 15) = xs.drop (i * 15) := by rw [← htk, List.drop_take]; congr 1; omega
      have hcl2 : (xs.drop (i * 15)).length = (n - i) * 15 := by rw [List.length_drop]; omega
      refine ⟨⟨by omega, by omega, by omega⟩, ⟨by omega, by omega, by omega⟩, ?_⟩
      refine copy_blk rowT59 hb1 (cs := xs.drop (i * 15)) (fun j v hj => ⟨_, rfl, ?_⟩) (by rw [hcl2, show Nat.min (n + 1 - i) (n + 1 - (i + 1)) = n - i from Nat.min_eq_right (by omega) |>.trans (by omega)]) (by rw [hcl2]; omega) (fun u hu => h1 u (List.mem_of_mem_drop hu)) ?_
      · rw [add_at]
        refine hb1.cell ?_
        rw [← hcs, List.getElem?_take] at hj
        split at hj
        · rwa [List.getElem?_drop] at hj
        · cases hj
      intro w2 b2 f2
      have hv2 := hv1.keep f2 (by simp [hne])
      refine ⟨_, rfl, ⟨by omega, by omega, by omega⟩, ?_⟩
      refine copy_blk rowT59 b2 (cs := us) (hvs hv2) (by rw [show Nat.min 1 (n + 1 - i) = 1 from Nat.min_eq_left (by omega)]; omega) (by rw [hcl2]; simp only [List.length_append, List.length_take, List.length_drop]; omega) h1u ?_
      intro w3 b3 f3
      refine ⟨_, rfl, hK _ _ w3 (own_blk b3 (by rw [hcl2]; simp only [List.length_append, List.length_take, List.length_drop]; omega) (by omega) hmx ?_) ((Fr.drew.tr f2).tr f3) (fun z hz => .inl hz)⟩
      have a1 : xs.take (i * 15) = cur.take (i * 15) := by rw [← htk, List.take_take, Nat.min_eq_left (by omega)]
      rw [en, ei, a1, ← hcl2]
      exact insRoom91 (by omega)
end Go.Proofs.YtdgoalhnkegbmaaX
namespace Go.Proofs.YtdgoalhnkegbmaaX
open Go.RowKit
set_option linter.unusedVariables false
theorem putAll_blk {e : TypeId} {g : Nat} : ∀ (vs old pre post : List Value) (w : World), Blk w g (pre ++ old ++ post) e → old.length = vs.length → Blk (putAll w (at0 g 0) pre.length vs) g (pre ++ vs ++ post) e ∧ Fr [g] w (putAll w (at0 g 0) pre.length vs)
  | [], old, pre, post, w, h, hl => by
    have : old = [] := List.eq_nil_of_length_eq_zero (by simpa using hl)
    subst this
    exact ⟨h, Fr.refl w⟩
  | v :: vs, [], pre, post, w, h, hl => by simp at hl
  | v :: vs, u :: old, pre, post, w, h, hl => by
    simp only [putAll, add_at, Nat.zero_add]
    have h1 := h.set pre.length v
    rw [List.append_assoc, List.set_append_right _ _ (Nat.le_refl _), Nat.sub_self, List.cons_append, List.set_cons_zero] at h1
    have e1 : pre ++ v :: (old ++ post) = (pre ++ [v]) ++ old ++ post := by simp
    rw [e1] at h1
    obtain ⟨k1, k2⟩ := putAll_blk vs old (pre ++ [v]) post _ h1 (by simpa using hl)
    rw [List.length_append] at k1 k2
    refine ⟨by simpa using k1, ?_⟩
    exact (Fr.setCell (by simp [at0]) v).tr k2
theorem putAll_off {w : World} {g o : Nat} : ∀ (vs : List Value) (i : Nat) (w : World), putAll w (at0 g o) i vs = putAll w (at0 g 0) (o + i) vs
  | [], i, w => rfl
  | v :: vs, i, w => by
    simp only [putAll, add_at, Nat.zero_add]
    rw [putAll_off (w := w) vs (i + 1), Nat.add_assoc]
/-- cells of a block, from o on, are stored anew -/
theorem stAll_blk {e : TypeId} {g o : Nat} {cs vs : List Value} {w : World} {K : World → Prop} (h : Blk w g cs e) (hl : o + vs.length ≤ cs.length)
    (hK : ∀ w', Blk w' g (cs.take o ++ vs ++ cs.drop (o + vs.length)) e → Fr [g] w w' → K w') : stAll w (at0 g o) vs K := by
  have e1 : cs = cs.take o ++ (cs.drop o).take vs.length ++ cs.drop (o + vs.length) := by
    rw [List.append_assoc, ← List.drop_drop, List.take_append_drop, List.take_append_drop]
  have ho : (cs.take o).length = o := by simp; omega
  refine ⟨fun i hi => ?_, ?_⟩
  · rw [add_at]; exact h.storeOk (by omega)
  · rw [putAll_off (w := w)]
    have h2 := h
    rw [e1] at h2
    obtain ⟨k1, k2⟩ := putAll_blk vs ((cs.drop o).take vs.length) (cs.take o) (cs.drop (o + vs.length)) w h2 (by simp; omega)
    rw [ho] at k1 k2
    exact hK _ k1 k2
end Go.Proofs.YtdgoalhnkegbmaaX
namespace Go.Proofs.YtdgoalhnkegbmaaX
open Go.RowKit
set_option linter.unusedVariables false
set_option linter.unusedSimpArgs false
/-- cells lie from an address on -/
def At (w : World) (p : Addr) (cs : List Value) : Prop := ∀ j u, cs[j]? = some u → w.cell? (p.add j) = some u
section
variable {w w' a b c : World} {g o i : Nat} {cs vs : List Value} {e : TypeId} {S T : List Nat}
theorem Blk.cat (h : Blk w g cs e) : At w (at0 g 0) cs := fun j u hj => by rw [add_at, Nat.zero_add]; exact h.cell hj
theorem Blk.off (h : Blk w g cs e) (o : Nat) (hv : (cs.drop o).take vs.length = vs) : At w (at0 g o) vs := fun j u hj => by
  rw [add_at]
  refine h.cell ?_
  rw [← hv, List.getElem?_take] at hj
  split at hj
  · rwa [List.getElem?_drop] at hj
  · cases hj
theorem At.keep {p : Addr} (h : At w p cs) (f : Fr S w w') (hn : p.block ∉ S) : At w' p cs := fun j u hj => f.cell (h j u hj) (by rw [add_block]; exact hn)
theorem At.keep' {p : Addr} (h : At w p cs) (f : Fr [] w w') : At w' p cs := h.keep f (by simp)
theorem Fr.loc (h : Fr S a b) (k : Fr [g] b c) (hg : a.heap.size ≤ g) : Fr S a c := h.trans k (fun x hx => .inr (by simp at hx; omega))
theorem Fr.inl (h : Fr S a b) (k : Fr [g] b c) (hg : g ∈ S) : Fr S a c := h.trans k (fun x hx => .inl (by simp at hx; subst hx; exact hg))
theorem Fr.sub (h : Fr S a b) (k : Fr T b c) (hT : ∀ x ∈ T, x ∈ S) : Fr S a c := h.trans k (fun x hx => .inl (hT x hx))
theorem Fr.news (h : Fr S a b) (k : Fr T b c) (hT : ∀ x ∈ T, a.heap.size ≤ x) : Fr S a c := h.trans k (fun x hx => .inr (hT x hx))
/-- a new block -/
theorem newB {cs : Array Value} {K : Addr → World → Prop} (h : ∀ g w', Blk w' g cs.toList e → Fr [] w w' → w.heap.size ≤ g → K (at0 g 0) w') : newK w cs e K :=
  h w.heap.size _ (Blk.made w cs e) (Fr.alloc _ _) (Nat.le_refl _)
theorem stB {v : Value} {K : World → Prop} (h : Blk w g cs e) (hi : i < cs.length) (hK : ∀ w', Blk w' g (cs.set i v) e → Fr [g] w w' → K w') : stK w ((at0 g 0).add i) v K := by
  rw [add_at, Nat.zero_add]
  exact ⟨h.storeOk hi, hK _ (h.set i v) (Fr.setCell (by simp [at0]) v)⟩
theorem stAllB {K : World → Prop} (h : Blk w g cs e) (hl : vs.length = cs.length) (hK : ∀ w', Blk w' g vs e → Fr [g] w w' → K w') : stAll w (at0 g 0) vs K :=
  stAll_blk (o := 0) h (by omega) fun w' b f => hK w' (by rw [hl] at b; simpa using b) f
theorem drawn {K : World → Prop} (h : ∀ w', Fr [] w w' → w'.heap.size = w.heap.size → K w') : drewK w K := h _ Fr.drew rfl
end
section
variable {β : Type} {f : β → List Value} {Z : Nat} (hf : ∀ v, (f v).length = Z)
include hf
theorem flat_set (l : List β) {i : Nat} (hi : i < l.length) (v : β) : (l.set i v).flatMap f = (l.flatMap f).take (i * Z) ++ f v ++ (l.flatMap f).drop ((i + 1) * Z) := by
  rw [flat_take hf, flat_drop hf, List.set_eq_take_append_cons_drop, if_pos hi]
  simp
theorem own_at {e : TypeId} {w : World} {p : Option Addr} {n c : Nat} {l : List β} (h : Own e Z w p n c (l.flatMap f)) (hn : l.length = n) {i : Nat} {v : β} (hi : l[i]? = some v) : ∃ a, p = some a ∧ At w (a.add (i * Z)) (f v) := by
  have hl := (List.getElem?_eq_some_iff.1 hi).1
  cases p with
  | none => have := h.none_c.1; omega
  | some a =>
    refine ⟨a, rfl, fun j u hj => ?_⟩
    obtain ⟨q, hq, hc⟩ := h.cells _ _ (flat_get hf l hi hj)
    injection hq with hq
    subst hq
    rw [add_add]
    exact hc
omit hf in
theorem put_mid {cur fv : List Value} {a N z : Nat} (h1 : fv.length = z) (h2 : a + z ≤ N) (h3 : N ≤ cur.length) :
    (cur.take a ++ fv ++ cur.drop (a + z)).take N = (cur.take N).take a ++ fv ++ (cur.take N).drop (a + z) := by
  have hA : (cur.take a ++ fv).length = a + z := by rw [List.length_append, List.length_take]; omega
  rw [List.take_append, List.take_of_length_le (by omega), hA, List.take_take, Nat.min_eq_left (by omega), List.drop_take]
theorem own_put {e : TypeId} {w : World} {p : Option Addr} {n c : Nat} {l : List β} {K : World → Prop} (h : Own e Z w p n c (l.flatMap f)) {i : Nat} (hi : i < l.length) (hn : l.length = n) (v : β)
    (hK : ∀ w', Own e Z w' p n c ((l.set i v).flatMap f) → Fr (fbl p) w w' → K w') : optP p fun a => stAll w (a.add (i * Z)) (f v) K := by
  cases p with
  | none => have := h.none_c.1; omega
  | some a =>
    have hm := own_max h
    have hle := h.le
    obtain ⟨g, cur, rfl, hb, hcl, htk⟩ := Own.blk h
    refine opt_some rfl ?_
    rw [add_at, Nat.zero_add]
    have hiz : i * Z + Z ≤ n * Z := by rw [← Nat.succ_mul]; exact Nat.mul_le_mul_right _ (by omega)
    have hnz : n * Z ≤ c * Z := Nat.mul_le_mul_right _ hle
    have hfv := hf v
    refine stAll_blk hb (by omega) fun w' b fr => hK w' (own_blk b ?_ hle hm ?_) (fr.mono fun x hx => by simpa [fbl, at0] using hx)
    · simp only [List.length_append, List.length_take, List.length_drop]; omega
    · rw [flat_set hf l hi, hfv]
      have e1 : (i + 1) * Z = i * Z + Z := Nat.succ_mul i Z
      rw [e1, ← htk]
      exact put_mid hfv (by omega) (by omega)
end
end Go.Proofs.YtdgoalhnkegbmaaX
namespace Go.Proofs.YtdgoalhnkegbmaaX
open Go.RowKit
set_option linter.unusedVariables false
set_option maxRecDepth 100000
/-! ### mooring/mooringhand.Config: function 9 -/
def X9.j0 (Q : Value → World → Prop) (t1 : Addr) (t2 : Addr) (t3 : Addr) (w : World) : Prop := ldI .i64 w (t1.add 4) fun x1 => CallR Try.prog 12 #[.int .i64 x1, .int .i64 (14 : Int)] w fun v2 w3 => ∃ (y4 : Int), v2 = .int .i64 y4 ∧ stK w3 (t3.add 4) (.int .i64 (IntKind.wrap .i64 ((2 : Int) + y4))) fun w5 => ldI .i64 w5 (t1.add 5) fun x6 => CallR Try.prog 12 #[.int .i64 x6, .int .i64 (10 : Int)] w5 fun v7 w8 => ∃ (y9 : Int), v7 = .int .i64 y9 ∧ stK w8 (t3.add 5) (.int .i64 (IntKind.wrap .i64 ((2 : Int) + y9))) fun w10 => ldI .i64 w10 (t1.add 6) fun x11 => CallR Try.prog 12 #[.int .i64 x11, .int .i64 (6 : Int)] w10 fun v12 w13 => ∃ (y14 : Int), v12 = .int .i64 y14 ∧ stK w13 (t3.add 6) (.int .i64 (IntKind.wrap .i64 ((1 : Int) + y14))) fun w15 => ldI .i64 w15 (t1.add 7) fun x16 => CallR Try.prog 12 #[.int .i64 x16, .int .i64 (4 : Int)] w15 fun v17 w18 => ∃ (y19 : Int), v17 = .int .i64 y19 ∧ stK w18 (t3.add 7) (.int .i64 (IntKind.wrap .i64 ((1 : Int) + y19))) fun w20 => ldI .i64 w20 (t1.add 8) fun x21 => CallR Try.prog 12 #[.int .i64 x21, .int .i64 (8 : Int)] w20 fun v22 w23 => ∃ (y24 : Int), v22 = .int .i64 y24 ∧ stK w23 (t3.add 8) (.int .i64 (IntKind.wrap .i64 ((1 : Int) + y24))) fun w25 => ldI .i64 w25 (t1.add 9) fun x26 => CallR Try.prog 12 #[.int .i64 x26, .int .i64 (60 : Int)] w25 fun v27 w28 => ∃ (y29 : Int), v27 = .int .i64 y29 ∧ stK w28 (t3.add 9) (.int .i64 (IntKind.wrap .i64 ((4 : Int) + y29))) fun w30 => ldI .i64 w30 (t1.add 10) fun x31 => CallR Try.prog 12 #[.int .i64 x31, .int .i64 (4 : Int)] w30 fun v32 w33 => ∃ (y34 : Int), v32 = .int .i64 y34 ∧ stK w33 (t3.add 10) (.int .i64 (IntKind.wrap .i64 ((1 : Int) + y34))) fun w35 => ldI .i64 w35 (t1.add 11) fun x36 => CallR Try.prog 12 #[.int .i64 x36, .int .i64 (20 : Int)] w35 fun v37 w38 => ∃ (y39 : Int), v37 = .int .i64 y39 ∧ stK w38 (t3.add 11) (.int .u64 (IntKind.wrap .u64 (IntKind.wrap .i64 ((4 : Int) + y39)))) fun w40 => ldI .i64 w40 (t1.add 12) fun x41 => ldI .u64 w40 (t3.add 11) fun x42 => (2 : Int) ≠ 0 ∧ CallR Try.prog 12 #[.int .i64 x41, .int .i64 (IntKind.wrap .i64 (Int.tdiv (IntKind.wrap .i64 x42) (2 : Int)))] w40 fun v43 w44 => ∃ (y45 : Int), v43 = .int .i64 y45 ∧ stK w44 (t3.add 12) (.int .u64 (IntKind.wrap .u64 y45)) fun w46 => drewK w46 fun w47 => ldI .u64 w47 (t3.add 11) fun x48 => ldI .i64 w47 (t1.add 13) fun x49 => CallR Try.prog 12 #[.int .i64 x49, .int .i64 (200 : Int)] w47 fun v50 w51 => ∃ (y52 : Int), v50 = .int .i64 y52 ∧ (World.cell? w47 (t3.add 11) = some (.int .u64 x48) ∧ World.cell? w51 (t3.add 11) = some (.int .u64 x48)) ∧ stK w51 (t3.add 13) (.int .u64 (IntKind.wrap .u64 (x48 * (IntKind.wrap .u64 (IntKind.wrap .i64 ((40 : Int) + y52)))))) fun w53 => ldI .i64 w53 (t1.add 14) fun x54 => CallR Try.prog 12 #[.int .i64 x54, .int .i64 (30 : Int)] w53 fun v55 w56 => ∃ (y57 : Int), v55 = .int .i64 y57 ∧ stK w56 (t3.add 14) (.int .u64 (IntKind.wrap .u64 (IntKind.wrap .i64 ((1 : Int) + y57)))) fun w58 => drewK w58 fun w59 => ldI .u64 w59 (t3.add 14) fun x60 => ldI .i64 w59 (t1.add 15) fun x61 => CallR Try.prog 12 #[.int .i64 x61, .int .i64 (60 : Int)] w59 fun v62 w63 => ∃ (y64 : Int), v62 = .int .i64 y64 ∧ (World.cell? w59 (t3.add 14) = some (.int .u64 x60) ∧ World.cell? w63 (t3.add 14) = some (.int .u64 x60)) ∧ stK w63 (t3.add 15) (.int .u64 (IntKind.wrap .u64 (x60 + (IntKind.wrap .u64 y64)))) fun w65 => drewK w65 fun w66 => ldI .u64 w66 (t3.add 11) fun x67 => ldI .i64 w66 (t1.add 16) fun x68 => CallR Try.prog 12 #[.int .i64 x68, .int .i64 (60 : Int)] w66 fun v69 w70 => ∃ (y71 : Int), v69 = .int .i64 y71 ∧ (World.cell? w66 (t3.add 11) = some (.int .u64 x67) ∧ World.cell? w70 (t3.add 11) = some (.int .u64 x67)) ∧ stK w70 (t3.add 16) (.int .u64 (IntKind.wrap .u64 (x67 * (IntKind.wrap .u64 (IntKind.wrap .i64 ((1 : Int) + y71)))))) fun w72 => ldI .i64 w72 (t1.add 17) fun x73 => CallR Try.prog 12 #[.int .i64 x73, .int .i64 (4 : Int)] w72 fun v74 w75 => ∃ (y76 : Int), v74 = .int .i64 y76 ∧ stK w75 (t3.add 17) (.int .i64 (IntKind.wrap .i64 ((1 : Int) + y76))) fun w77 => drewK w77 fun w78 => ldI .i64 w78 (t3.add 17) fun x79 => ldI .i64 w78 (t1.add 18) fun x80 => CallR Try.prog 12 #[.int .i64 x80, .int .i64 (4 : Int)] w78 fun v81 w82 => ∃ (y83 : Int), v81 = .int .i64 y83 ∧ (World.cell? w78 (t3.add 17) = some (.int .i64 x79) ∧ World.cell? w82 (t3.add 17) = some (.int .i64 x79)) ∧ stK w82 (t3.add 18) (.int .i64 (IntKind.wrap .i64 ((IntKind.wrap .i64 (x79 + (1 : Int))) + y83))) fun w84 => ldI .i64 w84 (t1.add 19) fun x85 => CallR Try.prog 12 #[.int .i64 x85, .int .i64 (12 : Int)] w84 fun v86 w87 => ∃ (y88 : Int), v86 = .int .i64 y88 ∧ stK w87 (t3.add 19) (.int .i64 (IntKind.wrap .i64 ((1 : Int) + y88))) fun w89 => ldI .u64 w89 (t1.add 20) fun x90 => (1000 : Int) ≠ 0 ∧ stK w89 (t3.add 20) (.int .u64 (Int.tmod x90 (1000 : Int))) fun w91 => ldI .u64 w91 (t1.add 21) fun x92 => (1000 : Int) ≠ 0 ∧ stK w91 (t3.add 21) (.int .u64 (Int.tmod x92 (1000 : Int))) fun w93 => ldI .i64 w93 (t3.add 0) fun x94 => ldI .i64 w93 (t3.add 1) fun x95 => ldI .i64 w93 (t3.add 2) fun x96 => ldI .i64 w93 (t3.add 3) fun x97 => ldI .i64 w93 (t3.add 4) fun x98 => ldI .i64 w93 (t3.add 5) fun x99 => ldI .i64 w93 (t3.add 6) fun x100 => ldI .i64 w93 (t3.add 7) fun x101 => ldI .i64 w93 (t3.add 8) fun x102 => ldI .i64 w93 (t3.add 9) fun x103 => ldI .i64 w93 (t3.add 10) fun x104 => ldI .u64 w93 (t3.add 11) fun x105 => ldI .u64 w93 (t3.add 12) fun x106 => ldI .u64 w93 (t3.add 13) fun x107 => ldI .u64 w93 (t3.add 14) fun x108 => ldI .u64 w93 (t3.add 15) fun x109 => ldI .u64 w93 (t3.add 16) fun x110 => ldI .i64 w93 (t3.add 17) fun x111 => ldI .i64 w93 (t3.add 18) fun x112 => ldI .i64 w93 (t3.add 19) fun x113 => ldI .u64 w93 (t3.add 20) fun x114 => ldI .u64 w93 (t3.add 21) fun x115 => stAll w93 t2 [.int .i64 x94, .int .i64 x95, .int .i64 x96, .int .i64 x97, .int .i64 x98, .int .i64 x99, .int .i64 x100, .int .i64 x101, .int .i64 x102, .int .i64 x103, .int .i64 x104, .int .u64 x105, .int .u64 x106, .int .u64 x107, .int .u64 x108, .int .u64 x109, .int .u64 x110, .int .i64 x111, .int .i64 x112, .int .i64 x113, .int .u64 x114, .int .u64 x115] fun w116 => ldI .i64 w116 (t2.add 0) fun x117 => ldI .i64 w116 (t2.add 1) fun x118 => ldI .i64 w116 (t2.add 2) fun x119 => ldI .i64 w116 (t2.add 3) fun x120 => ldI .i64 w116 (t2.add 4) fun x121 => ldI .i64 w116 (t2.add 5) fun x122 => ldI .i64 w116 (t2.add 6) fun x123 => ldI .i64 w116 (t2.add 7) fun x124 => ldI .i64 w116 (t2.add 8) fun x125 => ldI .i64 w116 (t2.add 9) fun x126 => ldI .i64 w116 (t2.add 10) fun x127 => ldI .u64 w116 (t2.add 11) fun x128 => ldI .u64 w116 (t2.add 12) fun x129 => ldI .u64 w116 (t2.add 13) fun x130 => ldI .u64 w116 (t2.add 14) fun x131 => ldI .u64 w116 (t2.add 15) fun x132 => ldI .u64 w116 (t2.add 16) fun x133 => ldI .i64 w116 (t2.add 17) fun x134 => ldI .i64 w116 (t2.add 18) fun x135 => ldI .i64 w116 (t2.add 19) fun x136 => ldI .u64 w116 (t2.add 20) fun x137 => ldI .u64 w116 (t2.add 21) fun x138 => Q (.agg #[.int .i64 x117, .int .i64 x118, .int .i64 x119, .int .i64 x120, .int .i64 x121, .int .i64 x122, .int .i64 x123, .int .i64 x124, .int .i64 x125, .int .i64 x126, .int .i64 x127, .int .u64 x128, .int .u64 x129, .int .u64 x130, .int .u64 x131, .int .u64 x132, .int .u64 x133, .int .i64 x134, .int .i64 x135, .int .i64 x136, .int .u64 x137, .int .u64 x138]) w116
def X9.f (a0_0 : Int) (a0_1 : Int) (a0_2 : Int) (a0_3 : Int) (a0_4 : Int) (a0_5 : Int) (a0_6 : Int) (a0_7 : Int) (a0_8 : Int) (a0_9 : Int) (a0_10 : Int) (a0_11 : Int) (a0_12 : Int) (a0_13 : Int) (a0_14 : Int) (a0_15 : Int) (a0_16 : Int) (a0_17 : Int) (a0_18 : Int) (a0_19 : Int) (a0_20 : Int) (a0_21 : Int) (w : World) (Q : Value → World → Prop) : Prop := newK w #[.int .i64 a0_0, .int .i64 a0_1, .int .i64 a0_2, .int .i64 a0_3, .int .i64 a0_4, .int .i64 a0_5, .int .i64 a0_6, .int .i64 a0_7, .int .i64 a0_8, .int .i64 a0_9, .int .i64 a0_10, .int .i64 a0_11, .int .i64 a0_12, .int .i64 a0_13, .int .i64 a0_14, .int .i64 a0_15, .int .i64 a0_16, .int .i64 a0_17, .int .i64 a0_18, .int .i64 a0_19, .int .u64 a0_20, .int .u64 a0_21] 24 fun g1 w2 => newK w2 #[.int .i64 (0 : Int), .int .i64 (0 : Int), .int .i64 (0 : Int), .int .i64 (0 : Int), .int .i64 (0 : Int), .int .i64 (0 : Int), .int .i64 (0 : Int), .int .i64 (0 : Int), .int .i64 (0 : Int), .int .i64 (0 : Int), .int .i64 (0 : Int), .int .u64 (0 : Int), .int .u64 (0 : Int), .int .u64 (0 : Int), .int .u64 (0 : Int), .int .u64 (0 : Int), .int .u64 (0 : Int), .int .i64 (0 : Int), .int .i64 (0 : Int), .int .i64 (0 : Int), .int .u64 (0 : Int), .int .u64 (0 : Int)] 31 fun g3 w4 => drewK w4 fun w5 => (ldI .i64 w5 (g1.add 0) fun x6 => CallR Try.prog 12 #[.int .i64 x6, .int .i64 (3 : Int)] w5 fun v7 w8 => ∃ (y9 : Int), v7 = .int .i64 y9 ∧ ldI .i64 w8 (g1.add 1) fun x10 => (World.cell? w5 (g1.add 1) = some (.int .i64 x10) ∧ World.cell? w8 (g1.add 1) = some (.int .i64 x10)) ∧ CallR Try.prog 12 #[.int .i64 x10, .int .i64 (3 : Int)] w8 fun v11 w12 => ∃ (y13 : Int), v11 = .int .i64 y13 ∧ ldI .i64 w12 (g1.add 2) fun x14 => (World.cell? w8 (g1.add 2) = some (.int .i64 x14) ∧ World.cell? w12 (g1.add 2) = some (.int .i64 x14)) ∧ (World.cell? w5 (g1.add 2) = some (.int .i64 x14) ∧ World.cell? w8 (g1.add 2) = some (.int .i64 x14)) ∧ CallR Try.prog 12 #[.int .i64 x14, .int .i64 (4 : Int)] w12 fun v15 w16 => ∃ (y17 : Int), v15 = .int .i64 y17 ∧ ldI .i64 w16 (g1.add 3) fun x18 => (World.cell? w12 (g1.add 3) = some (.int .i64 x18) ∧ World.cell? w16 (g1.add 3) = some (.int .i64 x18)) ∧ (World.cell? w8 (g1.add 3) = some (.int .i64 x18) ∧ World.cell? w12 (g1.add 3) = some (.int .i64 x18)) ∧ (World.cell? w5 (g1.add 3) = some (.int .i64 x18) ∧ World.cell? w8 (g1.add 3) = some (.int .i64 x18)) ∧ CallR Try.prog 12 #[.int .i64 x18, .int .i64 (8 : Int)] w16 fun v19 w20 => ∃ (y21 : Int), v19 = .int .i64 y21 ∧ newK w20 #[.int .i64 (0 : Int), .int .i64 (0 : Int), .int .i64 (0 : Int), .int .i64 (0 : Int), .int .i64 (0 : Int), .int .i64 (0 : Int), .int .i64 (0 : Int), .int .i64 (0 : Int), .int .i64 (0 : Int), .int .i64 (0 : Int), .int .i64 (0 : Int), .int .u64 (0 : Int), .int .u64 (0 : Int), .int .u64 (0 : Int), .int .u64 (0 : Int), .int .u64 (0 : Int), .int .u64 (0 : Int), .int .i64 (0 : Int), .int .i64 (0 : Int), .int .i64 (0 : Int), .int .u64 (0 : Int), .int .u64 (0 : Int)] 31 fun g22 w23 => (World.cell? w20 (g1.add 3) = some (.int .i64 x18) ∧ World.cell? w23 (g1.add 3) = some (.int .i64 x18)) ∧ (World.cell? w20 (g1.add 2) = some (.int .i64 x14) ∧ World.cell? w23 (g1.add 2) = some (.int .i64 x14)) ∧ (World.cell? w20 (g1.add 1) = some (.int .i64 x10) ∧ World.cell? w23 (g1.add 1) = some (.int .i64 x10)) ∧ (World.cell? w20 (g1.add 0) = some (.int .i64 x6) ∧ World.cell? w23 (g1.add 0) = some (.int .i64 x6)) ∧ stAll w23 g22 [.int .i64 (IntKind.wrap .i64 ((2 : Int) + y9)), .int .i64 (IntKind.wrap .i64 ((1 : Int) + y13)), .int .i64 (IntKind.wrap .i64 ((2 : Int) + y17)), .int .i64 (IntKind.wrap .i64 ((16 : Int) * (IntKind.wrap .i64 ((1 : Int) + y21)))), .int .i64 (0 : Int), .int .i64 (0 : Int), .int .i64 (0 : Int), .int .i64 (0 : Int), .int .i64 (0 : Int), .int .i64 (0 : Int), .int .i64 (0 : Int), .int .u64 (0 : Int), .int .u64 (0 : Int), .int .u64 (0 : Int), .int .u64 (0 : Int), .int .u64 (0 : Int), .int .u64 (0 : Int), .int .i64 (0 : Int), .int .i64 (0 : Int), .int .i64 (0 : Int), .int .u64 (0 : Int), .int .u64 (0 : Int)] fun w24 => X9.j0 Q g1 g3 g22 w24) ∧ ((ldI .i64 w5 (g1.add 0) fun x25 => CallR Try.prog 12 #[.int .i64 x25, .int .i64 (3 : Int)] w5 fun v26 w27 => ∃ (y28 : Int), v26 = .int .i64 y28 ∧ ldI .i64 w27 (g1.add 1) fun x29 => (World.cell? w5 (g1.add 1) = some (.int .i64 x29) ∧ World.cell? w27 (g1.add 1) = some (.int .i64 x29)) ∧ CallR Try.prog 12 #[.int .i64 x29, .int .i64 (3 : Int)] w27 fun v30 w31 => ∃ (y32 : Int), v30 = .int .i64 y32 ∧ ldI .i64 w31 (g1.add 2) fun x33 => (World.cell? w27 (g1.add 2) = some (.int .i64 x33) ∧ World.cell? w31 (g1.add 2) = some (.int .i64 x33)) ∧ (World.cell? w5 (g1.add 2) = some (.int .i64 x33) ∧ World.cell? w27 (g1.add 2) = some (.int .i64 x33)) ∧ CallR Try.prog 12 #[.int .i64 x33, .int .i64 (4 : Int)] w31 fun v34 w35 => ∃ (y36 : Int), v34 = .int .i64 y36 ∧ ldI .i64 w35 (g1.add 3) fun x37 => (World.cell? w31 (g1.add 3) = some (.int .i64 x37) ∧ World.cell? w35 (g1.add 3) = some (.int .i64 x37)) ∧ (World.cell? w27 (g1.add 3) = some (.int .i64 x37) ∧ World.cell? w31 (g1.add 3) = some (.int .i64 x37)) ∧ (World.cell? w5 (g1.add 3) = some (.int .i64 x37) ∧ World.cell? w27 (g1.add 3) = some (.int .i64 x37)) ∧ newK w35 #[.int .i64 (0 : Int), .int .i64 (0 : Int), .int .i64 (0 : Int), .int .i64 (0 : Int), .int .i64 (0 : Int), .int .i64 (0 : Int), .int .i64 (0 : Int), .int .i64 (0 : Int), .int .i64 (0 : Int), .int .i64 (0 : Int), .int .i64 (0 : Int), .int .u64 (0 : Int), .int .u64 (0 : Int), .int .u64 (0 : Int), .int .u64 (0 : Int), .int .u64 (0 : Int), .int .u64 (0 : Int), .int .i64 (0 : Int), .int .i64 (0 : Int), .int .i64 (0 : Int), .int .u64 (0 : Int), .int .u64 (0 : Int)] 31 fun g38 w39 => (World.cell? w35 (g1.add 3) = some (.int .i64 x37) ∧ World.cell? w39 (g1.add 3) = some (.int .i64 x37)) ∧ (World.cell? w35 (g1.add 2) = some (.int .i64 x33) ∧ World.cell? w39 (g1.add 2) = some (.int .i64 x33)) ∧ (World.cell? w35 (g1.add 1) = some (.int .i64 x29) ∧ World.cell? w39 (g1.add 1) = some (.int .i64 x29)) ∧ (World.cell? w35 (g1.add 0) = some (.int .i64 x25) ∧ World.cell? w39 (g1.add 0) = some (.int .i64 x25)) ∧ CallR Try.prog 12 #[.int .i64 x37, .int .i64 (8 : Int)] w39 fun v40 w41 => ∃ (y42 : Int), v40 = .int .i64 y42 ∧ stAll w41 g38 [.int .i64 (IntKind.wrap .i64 ((2 : Int) + y28)), .int .i64 (IntKind.wrap .i64 ((1 : Int) + y32)), .int .i64 (IntKind.wrap .i64 ((2 : Int) + y36)), .int .i64 (IntKind.wrap .i64 ((16 : Int) * (IntKind.wrap .i64 ((1 : Int) + y42)))), .int .i64 (0 : Int), .int .i64 (0 : Int), .int .i64 (0 : Int), .int .i64 (0 : Int), .int .i64 (0 : Int), .int .i64 (0 : Int), .int .i64 (0 : Int), .int .u64 (0 : Int), .int .u64 (0 : Int), .int .u64 (0 : Int), .int .u64 (0 : Int), .int .u64 (0 : Int), .int .u64 (0 : Int), .int .i64 (0 : Int), .int .i64 (0 : Int), .int .i64 (0 : Int), .int .u64 (0 : Int), .int .u64 (0 : Int)] fun w43 => X9.j0 Q g1 g3 g38 w43) ∧ ((ldI .i64 w5 (g1.add 0) fun x44 => CallR Try.prog 12 #[.int .i64 x44, .int .i64 (3 : Int)] w5 fun v45 w46 => ∃ (y47 : Int), v45 = .int .i64 y47 ∧ ldI .i64 w46 (g1.add 1) fun x48 => (World.cell? w5 (g1.add 1) = some (.int .i64 x48) ∧ World.cell? w46 (g1.add 1) = some (.int .i64 x48)) ∧ CallR Try.prog 12 #[.int .i64 x48, .int .i64 (3 : Int)] w46 fun v49 w50 => ∃ (y51 : Int), v49 = .int .i64 y51 ∧ ldI .i64 w50 (g1.add 2) fun x52 => (World.cell? w46 (g1.add 2) = some (.int .i64 x52) ∧ World.cell? w50 (g1.add 2) = some (.int .i64 x52)) ∧ (World.cell? w5 (g1.add 2) = some (.int .i64 x52) ∧ World.cell? w46 (g1.add 2) = some (.int .i64 x52)) ∧ ldI .i64 w50 (g1.add 3) fun x53 => (World.cell? w46 (g1.add 3) = some (.int .i64 x53) ∧ World.cell? w50 (g1.add 3) = some (.int .i64 x53)) ∧ (World.cell? w5 (g1.add 3) = some (.int .i64 x53) ∧ World.cell? w46 (g1.add 3) = some (.int .i64 x53)) ∧ newK w50 #[.int .i64 (0 : Int), .int .i64 (0 : Int), .int .i64 (0 : Int), .int .i64 (0 : Int), .int .i64 (0 : Int), .int .i64 (0 : Int), .int .i64 (0 : Int), .int .i64 (0 : Int), .int .i64 (0 : Int), .int .i64 (0 : Int), .int .i64 (0 : Int), .int .u64 (0 : Int), .int .u64 (0 : Int), .int .u64 (0 : Int), .int .u64 (0 : Int), .int .u64 (0 : Int), .int .u64 (0 : Int), .int .i64 (0 : Int), .int .i64 (0 : Int), .int .i64 (0 : Int), .int .u64 (0 : Int), .int .u64 (0 : Int)] 31 fun g54 w55 => (World.cell? w50 (g1.add 3) = some (.int .i64 x53) ∧ World.cell? w55 (g1.add 3) = some (.int .i64 x53)) ∧ (World.cell? w50 (g1.add 2) = some (.int .i64 x52) ∧ World.cell? w55 (g1.add 2) = some (.int .i64 x52)) ∧ (World.cell? w50 (g1.add 1) = some (.int .i64 x48) ∧ World.cell? w55 (g1.add 1) = some (.int .i64 x48)) ∧ (World.cell? w50 (g1.add 0) = some (.int .i64 x44) ∧ World.cell? w55 (g1.add 0) = some (.int .i64 x44)) ∧ CallR Try.prog 12 #[.int .i64 x52, .int .i64 (4 : Int)] w55 fun v56 w57 => ∃ (y58 : Int), v56 = .int .i64 y58 ∧ (World.cell? w55 (g1.add 3) = some (.int .i64 x53) ∧ World.cell? w57 (g1.add 3) = some (.int .i64 x53)) ∧ CallR Try.prog 12 #[.int .i64 x53, .int .i64 (8 : Int)] w57 fun v59 w60 => ∃ (y61 : Int), v59 = .int .i64 y61 ∧ stAll w60 g54 [.int .i64 (IntKind.wrap .i64 ((2 : Int) + y47)), .int .i64 (IntKind.wrap .i64 ((1 : Int) + y51)), .int .i64 (IntKind.wrap .i64 ((2 : Int) + y58)), .int .i64 (IntKind.wrap .i64 ((16 : Int) * (IntKind.wrap .i64 ((1 : Int) + y61)))), .int .i64 (0 : Int), .int .i64 (0 : Int), .int .i64 (0 : Int), .int .i64 (0 : Int), .int .i64 (0 : Int), .int .i64 (0 : Int), .int .i64 (0 : Int), .int .u64 (0 : Int), .int .u64 (0 : Int), .int .u64 (0 : Int), .int .u64 (0 : Int), .int .u64 (0 : Int), .int .u64 (0 : Int), .int .i64 (0 : Int), .int .i64 (0 : Int), .int .i64 (0 : Int), .int .u64 (0 : Int), .int .u64 (0 : Int)] fun w62 => X9.j0 Q g1 g3 g54 w62) ∧ ((ldI .i64 w5 (g1.add 0) fun x63 => CallR Try.prog 12 #[.int .i64 x63, .int .i64 (3 : Int)] w5 fun v64 w65 => ∃ (y66 : Int), v64 = .int .i64 y66 ∧ ldI .i64 w65 (g1.add 1) fun x67 => (World.cell? w5 (g1.add 1) = some (.int .i64 x67) ∧ World.cell? w65 (g1.add 1) = some (.int .i64 x67)) ∧ ldI .i64 w65 (g1.add 2) fun x68 => (World.cell? w5 (g1.add 2) = some (.int .i64 x68) ∧ World.cell? w65 (g1.add 2) = some (.int .i64 x68)) ∧ ldI .i64 w65 (g1.add 3) fun x69 => (World.cell? w5 (g1.add 3) = some (.int .i64 x69) ∧ World.cell? w65 (g1.add 3) = some (.int .i64 x69)) ∧ newK w65 #[.int .i64 (0 : Int), .int .i64 (0 : Int), .int .i64 (0 : Int), .int .i64 (0 : Int), .int .i64 (0 : Int), .int .i64 (0 : Int), .int .i64 (0 : Int), .int .i64 (0 : Int), .int .i64 (0 : Int), .int .i64 (0 : Int), .int .i64 (0 : Int), .int .u64 (0 : Int), .int .u64 (0 : Int), .int .u64 (0 : Int), .int .u64 (0 : Int), .int .u64 (0 : Int), .int .u64 (0 : Int), .int .i64 (0 : Int), .int .i64 (0 : Int), .int .i64 (0 : Int), .int .u64 (0 : Int), .int .u64 (0 : Int)] 31 fun g70 w71 => (World.cell? w65 (g1.add 3) = some (.int .i64 x69) ∧ World.cell? w71 (g1.add 3) = some (.int .i64 x69)) ∧ (World.cell? w65 (g1.add 2) = some (.int .i64 x68) ∧ World.cell? w71 (g1.add 2) = some (.int .i64 x68)) ∧ (World.cell? w65 (g1.add 1) = some (.int .i64 x67) ∧ World.cell? w71 (g1.add 1) = some (.int .i64 x67)) ∧ (World.cell? w65 (g1.add 0) = some (.int .i64 x63) ∧ World.cell? w71 (g1.add 0) = some (.int .i64 x63)) ∧ CallR Try.prog 12 #[.int .i64 x67, .int .i64 (3 : Int)] w71 fun v72 w73 => ∃ (y74 : Int), v72 = .int .i64 y74 ∧ (World.cell? w71 (g1.add 3) = some (.int .i64 x69) ∧ World.cell? w73 (g1.add 3) = some (.int .i64 x69)) ∧ (World.cell? w71 (g1.add 2) = some (.int .i64 x68) ∧ World.cell? w73 (g1.add 2) = some (.int .i64 x68)) ∧ CallR Try.prog 12 #[.int .i64 x68, .int .i64 (4 : Int)] w73 fun v75 w76 => ∃ (y77 : Int), v75 = .int .i64 y77 ∧ (World.cell? w73 (g1.add 3) = some (.int .i64 x69) ∧ World.cell? w76 (g1.add 3) = some (.int .i64 x69)) ∧ CallR Try.prog 12 #[.int .i64 x69, .int .i64 (8 : Int)] w76 fun v78 w79 => ∃ (y80 : Int), v78 = .int .i64 y80 ∧ stAll w79 g70 [.int .i64 (IntKind.wrap .i64 ((2 : Int) + y66)), .int .i64 (IntKind.wrap .i64 ((1 : Int) + y74)), .int .i64 (IntKind.wrap .i64 ((2 : Int) + y77)), .int .i64 (IntKind.wrap .i64 ((16 : Int) * (IntKind.wrap .i64 ((1 : Int) + y80)))), .int .i64 (0 : Int), .int .i64 (0 : Int), .int .i64 (0 : Int), .int .i64 (0 : Int), .int .i64 (0 : Int), .int .i64 (0 : Int), .int .i64 (0 : Int), .int .u64 (0 : Int), .int .u64 (0 : Int), .int .u64 (0 : Int), .int .u64 (0 : Int), .int .u64 (0 : Int), .int .u64 (0 : Int), .int .i64 (0 : Int), .int .i64 (0 : Int), .int .i64 (0 : Int), .int .u64 (0 : Int), .int .u64 (0 : Int)] fun w81 => X9.j0 Q g1 g3 g70 w81) ∧ (ldI .i64 w5 (g1.add 0) fun x82 => ldI .i64 w5 (g1.add 1) fun x83 => ldI .i64 w5 (g1.add 2) fun x84 => ldI .i64 w5 (g1.add 3) fun x85 => newK w5 #[.int .i64 (0 : Int), .int .i64 (0 : Int), .int .i64 (0 : Int), .int .i64 (0 : Int), .int .i64 (0 : Int), .int .i64 (0 : Int), .int .i64 (0 : Int), .int .i64 (0 : Int), .int .i64 (0 : Int), .int .i64 (0 : Int), .int .i64 (0 : Int), .int .u64 (0 : Int), .int .u64 (0 : Int), .int .u64 (0 : Int), .int .u64 (0 : Int), .int .u64 (0 : Int), .int .u64 (0 : Int), .int .i64 (0 : Int), .int .i64 (0 : Int), .int .i64 (0 : Int), .int .u64 (0 : Int), .int .u64 (0 : Int)] 31 fun g86 w87 => (World.cell? w5 (g1.add 3) = some (.int .i64 x85) ∧ World.cell? w87 (g1.add 3) = some (.int .i64 x85)) ∧ (World.cell? w5 (g1.add 2) = some (.int .i64 x84) ∧ World.cell? w87 (g1.add 2) = some (.int .i64 x84)) ∧ (World.cell? w5 (g1.add 1) = some (.int .i64 x83) ∧ World.cell? w87 (g1.add 1) = some (.int .i64 x83)) ∧ (World.cell? w5 (g1.add 0) = some (.int .i64 x82) ∧ World.cell? w87 (g1.add 0) = some (.int .i64 x82)) ∧ CallR Try.prog 12 #[.int .i64 x82, .int .i64 (3 : Int)] w87 fun v88 w89 => ∃ (y90 : Int), v88 = .int .i64 y90 ∧ (World.cell? w87 (g1.add 3) = some (.int .i64 x85) ∧ World.cell? w89 (g1.add 3) = some (.int .i64 x85)) ∧ (World.cell? w87 (g1.add 2) = some (.int .i64 x84) ∧ World.cell? w89 (g1.add 2) = some (.int .i64 x84)) ∧ (World.cell? w87 (g1.add 1) = some (.int .i64 x83) ∧ World.cell? w89 (g1.add 1) = some (.int .i64 x83)) ∧ CallR Try.prog 12 #[.int .i64 x83, .int .i64 (3 : Int)] w89 fun v91 w92 => ∃ (y93 : Int), v91 = .int .i64 y93 ∧ (World.cell? w89 (g1.add 3) = some (.int .i64 x85) ∧ World.cell? w92 (g1.add 3) = some (.int .i64 x85)) ∧ (World.cell? w89 (g1.add 2) = some (.int .i64 x84) ∧ World.cell? w92 (g1.add 2) = some (.int .i64 x84)) ∧ CallR Try.prog 12 #[.int .i64 x84, .int .i64 (4 : Int)] w92 fun v94 w95 => ∃ (y96 : Int), v94 = .int .i64 y96 ∧ (World.cell? w92 (g1.add 3) = some (.int .i64 x85) ∧ World.cell? w95 (g1.add 3) = some (.int .i64 x85)) ∧ CallR Try.prog 12 #[.int .i64 x85, .int .i64 (8 : Int)] w95 fun v97 w98 => ∃ (y99 : Int), v97 = .int .i64 y99 ∧ stAll w98 g86 [.int .i64 (IntKind.wrap .i64 ((2 : Int) + y90)), .int .i64 (IntKind.wrap .i64 ((1 : Int) + y93)), .int .i64 (IntKind.wrap .i64 ((2 : Int) + y96)), .int .i64 (IntKind.wrap .i64 ((16 : Int) * (IntKind.wrap .i64 ((1 : Int) + y99)))), .int .i64 (0 : Int), .int .i64 (0 : Int), .int .i64 (0 : Int), .int .i64 (0 : Int), .int .i64 (0 : Int), .int .i64 (0 : Int), .int .i64 (0 : Int), .int .u64 (0 : Int), .int .u64 (0 : Int), .int .u64 (0 : Int), .int .u64 (0 : Int), .int .u64 (0 : Int), .int .u64 (0 : Int), .int .i64 (0 : Int), .int .i64 (0 : Int), .int .i64 (0 : Int), .int .u64 (0 : Int), .int .u64 (0 : Int)] fun w100 => X9.j0 Q g1 g3 g86 w100))))
def X9.S (Q : Value → World → Prop) : Segs
  | 0, φ, ρ, w => qA (ρ 1) fun t1 => qA (ρ 2) fun t2 => qA (ρ 3) fun t3 => X9.j0 Q t1 t2 t3 w
  | _, _, _, _ => False
noncomputable def X9.an : Ann := (.seq .leaf (.seq (.draw [0, 1, 3, 7, 0, 16, 55, 119, 0, 256, 887, 1911, 0, 4096, 14199, 30583, 63351, 131071, 0, 524287] [[0, 1, 2, 3, 4, 5, 6, 7, 8, 9, 10, 11, 12, 13, 14, 15, 16, 17, 18, 19], [0, 1, 2, 3, 4, 5, 6, 7, 8, 9, 10, 11, 12, 13, 18, 14, 15, 16, 17, 19], [0, 1, 2, 3, 4, 5, 6, 7, 8, 9, 12, 13, 18, 10, 11, 14, 15, 16, 17, 19], [0, 1, 2, 3, 4, 5, 8, 9, 12, 13, 18, 6, 7, 10, 11, 14, 15, 16, 17, 19], [0, 1, 4, 5, 8, 9, 12, 13, 18, 2, 3, 6, 7, 10, 11, 14, 15, 16, 17, 19]]) (.join 0 (.seq .leaf (.seq .leaf (.seq .leaf (.seq .leaf (.seq .leaf (.seq .leaf (.seq .leaf (.seq .leaf (.seq .leaf (.seq (.draw [0, 1, 0, 4, 12, 28, 60, 127, 255, 511] [[0, 1, 2, 3, 4, 5, 6, 7, 8, 9]]) (.seq .leaf (.seq (.draw [0, 1, 0, 4, 12, 28, 63, 127, 255] [[0, 1, 2, 3, 4, 5, 6, 7, 8]]) (.seq (.draw [0, 1, 0, 4, 12, 28, 60, 127, 255, 511] [[0, 1, 2, 3, 4, 5, 6, 7, 8, 9]]) (.seq .leaf (.seq (.draw [0, 1, 3, 0, 8, 24, 63, 127, 255] [[0, 1, 2, 3, 4, 5, 6, 7, 8]]) (.seq .leaf (.seq .leaf (.seq .leaf (.seq .leaf .leaf))))))))))))))))))))))
noncomputable def X9.c : Code := Try.f9.body.getD .skip
theorem X9.v (Q : Value → World → Prop) : V Try.prog (X9.S Q) X9.an X9.c (retC Try.prog Try.f9 Q) := ⟨trivial, ⟨trivial, ⟨(by
    intro φ ρ w h
    simp only [X9.S] at h
    obtain ⟨t1, e1, h⟩ := qA_elim h
    obtain ⟨t2, e2, h⟩ := qA_elim h
    obtain ⟨t3, e3, h⟩ := qA_elim h
    exact ⟨(((Env.nil.put (some 1) (.pointer (some t1))).put (some 2) (.pointer (some t2))).put (some 3) (.pointer (some t3))), Env.le_put e3 (Env.le_put e2 (Env.le_put e1 (Env.le_nil _))), Eq.mp (by kernel_rfl) h⟩), ⟨trivial, ⟨trivial, ⟨trivial, ⟨trivial, ⟨trivial, ⟨trivial, ⟨trivial, ⟨trivial, ⟨trivial, ⟨trivial, ⟨trivial, ⟨trivial, ⟨trivial, ⟨trivial, ⟨trivial, ⟨trivial, ⟨trivial, ⟨trivial, ⟨trivial, trivial⟩⟩⟩⟩⟩⟩⟩⟩⟩⟩⟩⟩⟩⟩⟩⟩⟩⟩⟩⟩⟩⟩
theorem X9.sound (a0_0 : Int) (a0_1 : Int) (a0_2 : Int) (a0_3 : Int) (a0_4 : Int) (a0_5 : Int) (a0_6 : Int) (a0_7 : Int) (a0_8 : Int) (a0_9 : Int) (a0_10 : Int) (a0_11 : Int) (a0_12 : Int) (a0_13 : Int) (a0_14 : Int) (a0_15 : Int) (a0_16 : Int) (a0_17 : Int) (a0_18 : Int) (a0_19 : Int) (a0_20 : Int) (a0_21 : Int) (w : World) (Q : Value → World → Prop) (h : X9.f a0_0 a0_1 a0_2 a0_3 a0_4 a0_5 a0_6 a0_7 a0_8 a0_9 a0_10 a0_11 a0_12 a0_13 a0_14 a0_15 a0_16 a0_17 a0_18 a0_19 a0_20 a0_21 w Q) : CallR Try.prog 9 #[.agg #[.int .i64 a0_0, .int .i64 a0_1, .int .i64 a0_2, .int .i64 a0_3, .int .i64 a0_4, .int .i64 a0_5, .int .i64 a0_6, .int .i64 a0_7, .int .i64 a0_8, .int .i64 a0_9, .int .i64 a0_10, .int .i64 a0_11, .int .i64 a0_12, .int .i64 a0_13, .int .i64 a0_14, .int .i64 a0_15, .int .i64 a0_16, .int .i64 a0_17, .int .i64 a0_18, .int .i64 a0_19, .int .u64 a0_20, .int .u64 a0_21]] w Q :=
  fn_sound noGr mixed Try.func9 (c := X9.c) (an := X9.an) (S := X9.S Q) (φ := fun _ => 0) (args := [.agg #[.int .i64 a0_0, .int .i64 a0_1, .int .i64 a0_2, .int .i64 a0_3, .int .i64 a0_4, .int .i64 a0_5, .int .i64 a0_6, .int .i64 a0_7, .int .i64 a0_8, .int .i64 a0_9, .int .i64 a0_10, .int .i64 a0_11, .int .i64 a0_12, .int .i64 a0_13, .int .i64 a0_14, .int .i64 a0_15, .int .i64 a0_16, .int .i64 a0_17, .int .i64 a0_18, .int .i64 a0_19, .int .u64 a0_20, .int .u64 a0_21]]) (by kernel_rfl) (by kernel_rfl) (by kernel_rfl) (X9.v Q) (Eq.mp (by kernel_rfl) h)
/-! ### mooring/caller.New: function 10 -/
def X10.l0 (Q : Value → World → Prop) : Nat → Int → Addr → Int → Int → World → Prop
  | 0, _, _, _, _, _ => False
  | k + 1, t2, t10, t51, t52, w => bcase (decide (t52 < t51)) (ldSl w (t10.add 24) fun x1p x1n x1c => (0 ≤ t52 ∧ t52 < ((x1n : Nat) : Int)) ∧ optP x1p fun p2 => stK w (p2.add (Int.toNat t52 * 1)) (.int .u64 t2) fun w3 => X10.l0 Q k t2 t10 t51 (IntKind.wrap .i64 (t52 + (1 : Int))) w3) (Q (.tuple #[.pointer (some t10), .int .i64 (0 : Int)]) w)
def X10.j1 (Q : Value → World → Prop) (t1 : Int) (t2 : Int) (t3 : Addr) (w : World) : Prop := ldI .i64 w (t3.add 6) fun x1 => CallR Try.prog 28 #[.int .i64 x1] w fun v2 w3 => ∃ (y4 : Option Addr) (y5 : Int), v2 = .tuple #[.pointer y4, .int .i64 y5] ∧ bcase (y5 != (0 : Int)) (Q (.tuple #[.pointer none, .int .i64 (1 : Int)]) w3) (drewK w3 fun w6 => ldI .i64 w6 (t3.add 0) fun x7 => ldI .i64 w6 (t3.add 1) fun x8 => ldI .i64 w6 (t3.add 2) fun x9 => ldI .i64 w6 (t3.add 3) fun x10 => ldI .i64 w6 (t3.add 4) fun x11 => ldI .i64 w6 (t3.add 5) fun x12 => ldI .i64 w6 (t3.add 6) fun x13 => ldI .i64 w6 (t3.add 7) fun x14 => ldI .i64 w6 (t3.add 8) fun x15 => ldI .i64 w6 (t3.add 9) fun x16 => ldI .i64 w6 (t3.add 10) fun x17 => ldI .u64 w6 (t3.add 11) fun x18 => ldI .u64 w6 (t3.add 12) fun x19 => ldI .u64 w6 (t3.add 13) fun x20 => ldI .u64 w6 (t3.add 14) fun x21 => ldI .u64 w6 (t3.add 15) fun x22 => ldI .u64 w6 (t3.add 16) fun x23 => ldI .i64 w6 (t3.add 17) fun x24 => ldI .i64 w6 (t3.add 18) fun x25 => ldI .i64 w6 (t3.add 19) fun x26 => ldI .u64 w6 (t3.add 20) fun x27 => ldI .u64 w6 (t3.add 21) fun x28 => ldI .i64 w6 (t3.add 0) fun x29 => RunR Try.prog (Instr.makeSlice 45 (.int .i64 (IntKind.wrap .i64 (x29 + (1 : Int)))) (.int .i64 (IntKind.wrap .i64 (x29 + (1 : Int))))) w6 fun v30 w31 => ∃ (s32p : Option Addr) (s32n s32c : Nat), v30 = .slice s32p s32n s32c ∧ ((∀ j u, ([.int .i64 x7, .int .i64 x8, .int .i64 x9, .int .i64 x10, .int .i64 x11, .int .i64 x12, .int .i64 x13, .int .i64 x14, .int .i64 x15, .int .i64 x16, .int .i64 x17, .int .u64 x18, .int .u64 x19, .int .u64 x20, .int .u64 x21, .int .u64 x22, .int .u64 x23, .int .i64 x24, .int .i64 x25, .int .i64 x26, .int .u64 x27, .int .u64 x28] : List Value)[j]? = some u → World.cell? w6 (t3.add j) = some u) ∧ (∀ j u, ([.int .i64 x7, .int .i64 x8, .int .i64 x9, .int .i64 x10, .int .i64 x11, .int .i64 x12, .int .i64 x13, .int .i64 x14, .int .i64 x15, .int .i64 x16, .int .i64 x17, .int .u64 x18, .int .u64 x19, .int .u64 x20, .int .u64 x21, .int .u64 x22, .int .u64 x23, .int .i64 x24, .int .i64 x25, .int .i64 x26, .int .u64 x27, .int .u64 x28] : List Value)[j]? = some u → World.cell? w31 (t3.add j) = some u)) ∧ newK w31 #[.int .i64 x7, .int .i64 x8, .int .i64 x9, .int .i64 x10, .int .i64 x11, .int .i64 x12, .int .i64 x13, .int .i64 x14, .int .i64 x15, .int .i64 x16, .int .i64 x17, .int .u64 x18, .int .u64 x19, .int .u64 x20, .int .u64 x21, .int .u64 x22, .int .u64 x23, .int .i64 x24, .int .i64 x25, .int .i64 x26, .int .u64 x27, .int .u64 x28, .int .i64 t1, .int .u64 t2, .slice s32p s32n s32c, .pointer y4, .int .u64 (0 : Int)] 74 fun g33 w34 => ldSl w34 (g33.add 24) fun x35p x35n x35c => ∃ m36, X10.l0 Q m36 t2 g33 ((x35n : Nat) : Int) (0 : Int) w34)
def X10.f (a0_0 : Int) (a0_1 : Int) (a0_2 : Int) (a0_3 : Int) (a0_4 : Int) (a0_5 : Int) (a0_6 : Int) (a0_7 : Int) (a0_8 : Int) (a0_9 : Int) (a0_10 : Int) (a0_11 : Int) (a0_12 : Int) (a0_13 : Int) (a0_14 : Int) (a0_15 : Int) (a0_16 : Int) (a0_17 : Int) (a0_18 : Int) (a0_19 : Int) (a0_20 : Int) (a0_21 : Int) (a1 : Int) (a2 : Int) (w : World) (Q : Value → World → Prop) : Prop := newK w #[.int .i64 a0_0, .int .i64 a0_1, .int .i64 a0_2, .int .i64 a0_3, .int .i64 a0_4, .int .i64 a0_5, .int .i64 a0_6, .int .i64 a0_7, .int .i64 a0_8, .int .i64 a0_9, .int .i64 a0_10, .int .u64 a0_11, .int .u64 a0_12, .int .u64 a0_13, .int .u64 a0_14, .int .u64 a0_15, .int .u64 a0_16, .int .i64 a0_17, .int .i64 a0_18, .int .i64 a0_19, .int .u64 a0_20, .int .u64 a0_21] 31 fun g1 w2 => ldI .i64 w2 (g1.add 0) fun x3 => ldI .i64 w2 (g1.add 1) fun x4 => ldI .i64 w2 (g1.add 2) fun x5 => ldI .i64 w2 (g1.add 3) fun x6 => ldI .i64 w2 (g1.add 4) fun x7 => ldI .i64 w2 (g1.add 5) fun x8 => ldI .i64 w2 (g1.add 6) fun x9 => ldI .i64 w2 (g1.add 7) fun x10 => ldI .i64 w2 (g1.add 8) fun x11 => ldI .i64 w2 (g1.add 9) fun x12 => ldI .i64 w2 (g1.add 10) fun x13 => ldI .u64 w2 (g1.add 11) fun x14 => ldI .u64 w2 (g1.add 12) fun x15 => ldI .u64 w2 (g1.add 13) fun x16 => ldI .u64 w2 (g1.add 14) fun x17 => ldI .u64 w2 (g1.add 15) fun x18 => ldI .u64 w2 (g1.add 16) fun x19 => ldI .i64 w2 (g1.add 17) fun x20 => ldI .i64 w2 (g1.add 18) fun x21 => ldI .i64 w2 (g1.add 19) fun x22 => ldI .u64 w2 (g1.add 20) fun x23 => ldI .u64 w2 (g1.add 21) fun x24 => CallR Try.prog 27 #[.agg #[.int .i64 x3, .int .i64 x4, .int .i64 x5, .int .i64 x6, .int .i64 x7, .int .i64 x8, .int .i64 x9, .int .i64 x10, .int .i64 x11, .int .i64 x12, .int .i64 x13, .int .u64 x14, .int .u64 x15, .int .u64 x16, .int .u64 x17, .int .u64 x18, .int .u64 x19, .int .i64 x20, .int .i64 x21, .int .i64 x22, .int .u64 x23, .int .u64 x24]] w2 fun v25 w26 => ∃ (y27 : Bool), v25 = .bool y27 ∧ bcase (!y27) (Q (.tuple #[.pointer none, .int .i64 (1 : Int)]) w26) (bcase (decide (a1 < (1 : Int))) (Q (.tuple #[.pointer none, .int .i64 (1 : Int)]) w26) (ldI .i64 w26 (g1.add 0) fun x28 => bcase (decide (a1 > x28)) (Q (.tuple #[.pointer none, .int .i64 (1 : Int)]) w26) (bcase (decide (a2 > (72057594037927935 : Int))) (Q (.tuple #[.pointer none, .int .i64 (1 : Int)]) w26) (X10.j1 Q a1 a2 g1 w26))))
def X10.S (Q : Value → World → Prop) : Segs
  | 0, φ, ρ, w => qI .u64 (ρ 2) fun t2 => qA (ρ 10) fun t10 => qI .i64 (ρ 51) fun t51 => qI .i64 (ρ 52) fun t52 => X10.l0 Q (φ 0) t2 t10 t51 t52 w
  | 1, φ, ρ, w => qI .i64 (ρ 1) fun t1 => qI .u64 (ρ 2) fun t2 => qA (ρ 3) fun t3 => X10.j1 Q t1 t2 t3 w
  | _, _, _, _ => False
noncomputable def X10.an : Ann := (.seq .leaf (.seq (.seq .leaf (.cond (.seq .leaf .leaf) .leaf)) (.join 1 (.seq .leaf (.seq (.seq .leaf (.cond (.seq .leaf .leaf) .leaf)) (.seq (.draw [0, 0, 0, 0, 8, 24, 56, 0, 255, 511, 1023] [[0, 1, 2, 3, 4, 5, 6, 7, 8, 9, 10]]) (.seq (.seq .leaf (.block (.loop 0 (.seq .leaf (.seq (.cond .leaf .leaf) (.seq (.block (.seq .leaf .leaf)) .leaf)))))) (.seq .leaf .leaf))))))))
noncomputable def X10.c : Code := Try.f10.body.getD .skip
theorem X10.v (Q : Value → World → Prop) : V Try.prog (X10.S Q) X10.an X10.c (retC Try.prog Try.f10 Q) := ⟨trivial, ⟨⟨trivial, ⟨⟨trivial, trivial⟩, trivial⟩⟩, ⟨(by
    intro φ ρ w h
    simp only [X10.S] at h
    obtain ⟨t1, e1, h⟩ := qI_elim h
    obtain ⟨t2, e2, h⟩ := qI_elim h
    obtain ⟨t3, e3, h⟩ := qA_elim h
    exact ⟨(((Env.nil.put (some 1) (.int .i64 t1)).put (some 2) (.int .u64 t2)).put (some 3) (.pointer (some t3))), Env.le_put e3 (Env.le_put e2 (Env.le_put e1 (Env.le_nil _))), Eq.mp (by kernel_rfl) h⟩), ⟨trivial, ⟨⟨trivial, ⟨⟨trivial, trivial⟩, trivial⟩⟩, ⟨trivial, ⟨⟨trivial, ⟨(by
    intro φ ρ w h
    simp only [X10.S] at h
    obtain ⟨t2, e2, h⟩ := qI_elim h
    obtain ⟨t10, e10, h⟩ := qA_elim h
    obtain ⟨t51, e51, h⟩ := qI_elim h
    obtain ⟨t52, e52, h⟩ := qI_elim h
    cases hk : φ 0 with
    | zero => rw [hk] at h; exact h.elim
    | succ k => rw [hk] at h; exact ⟨k, Nat.lt_succ_self k, ((((Env.nil.put (some 2) (.int .u64 t2)).put (some 10) (.pointer (some t10))).put (some 51) (.int .i64 t51)).put (some 52) (.int .i64 t52)), Env.le_put e52 (Env.le_put e51 (Env.le_put e10 (Env.le_put e2 (Env.le_nil _)))), Eq.mp (by kernel_rfl) h⟩), ⟨trivial, ⟨⟨trivial, trivial⟩, ⟨⟨trivial, trivial⟩, trivial⟩⟩⟩⟩⟩, ⟨trivial, trivial⟩⟩⟩⟩⟩⟩⟩⟩
theorem X10.sound (a0_0 : Int) (a0_1 : Int) (a0_2 : Int) (a0_3 : Int) (a0_4 : Int) (a0_5 : Int) (a0_6 : Int) (a0_7 : Int) (a0_8 : Int) (a0_9 : Int) (a0_10 : Int) (a0_11 : Int) (a0_12 : Int) (a0_13 : Int) (a0_14 : Int) (a0_15 : Int) (a0_16 : Int) (a0_17 : Int) (a0_18 : Int) (a0_19 : Int) (a0_20 : Int) (a0_21 : Int) (a1 : Int) (a2 : Int) (w : World) (Q : Value → World → Prop) (h : X10.f a0_0 a0_1 a0_2 a0_3 a0_4 a0_5 a0_6 a0_7 a0_8 a0_9 a0_10 a0_11 a0_12 a0_13 a0_14 a0_15 a0_16 a0_17 a0_18 a0_19 a0_20 a0_21 a1 a2 w Q) : CallR Try.prog 10 #[.agg #[.int .i64 a0_0, .int .i64 a0_1, .int .i64 a0_2, .int .i64 a0_3, .int .i64 a0_4, .int .i64 a0_5, .int .i64 a0_6, .int .i64 a0_7, .int .i64 a0_8, .int .i64 a0_9, .int .i64 a0_10, .int .u64 a0_11, .int .u64 a0_12, .int .u64 a0_13, .int .u64 a0_14, .int .u64 a0_15, .int .u64 a0_16, .int .i64 a0_17, .int .i64 a0_18, .int .i64 a0_19, .int .u64 a0_20, .int .u64 a0_21], .int .i64 a1, .int .u64 a2] w Q :=
  fn_sound noGr mixed Try.func10 (c := X10.c) (an := X10.an) (S := X10.S Q) (φ := fun _ => 0) (args := [.agg #[.int .i64 a0_0, .int .i64 a0_1, .int .i64 a0_2, .int .i64 a0_3, .int .i64 a0_4, .int .i64 a0_5, .int .i64 a0_6, .int .i64 a0_7, .int .i64 a0_8, .int .i64 a0_9, .int .i64 a0_10, .int .u64 a0_11, .int .u64 a0_12, .int .u64 a0_13, .int .u64 a0_14, .int .u64 a0_15, .int .u64 a0_16, .int .i64 a0_17, .int .i64 a0_18, .int .i64 a0_19, .int .u64 a0_20, .int .u64 a0_21], .int .i64 a1, .int .u64 a2]) (by kernel_rfl) (by kernel_rfl) (by kernel_rfl) (X10.v Q) (Eq.mp (by kernel_rfl) h)
/-! ### mooring/mooringhand.Pick: function 12 -/
def X12.f (a0 : Int) (a1 : Int) (w : World) (Q : Value → World → Prop) : Prop := a1 ≠ 0 ∧ bcase (decide ((Int.tmod a0 a1) < (0 : Int))) (Q (.int .i64 (IntKind.wrap .i64 ((Int.tmod a0 a1) + a1))) w) (Q (.int .i64 (Int.tmod a0 a1)) w)
def X12.S (Q : Value → World → Prop) : Segs
  | _, _, _, _ => False
noncomputable def X12.an : Ann := (.seq .leaf (.seq .leaf (.seq (.seq .leaf (.cond .leaf .leaf)) (.seq .leaf .leaf))))
noncomputable def X12.c : Code := Try.f12.body.getD .skip
theorem X12.v (Q : Value → World → Prop) : V Try.prog (X12.S Q) X12.an X12.c (retC Try.prog Try.f12 Q) := ⟨trivial, ⟨trivial, ⟨⟨trivial, ⟨trivial, trivial⟩⟩, ⟨trivial, trivial⟩⟩⟩⟩
theorem X12.sound (a0 : Int) (a1 : Int) (w : World) (Q : Value → World → Prop) (h : X12.f a0 a1 w Q) : CallR Try.prog 12 #[.int .i64 a0, .int .i64 a1] w Q :=
  fn_sound noGr mixed Try.func12 (c := X12.c) (an := X12.an) (S := X12.S Q) (φ := fun _ => 0) (args := [.int .i64 a0, .int .i64 a1]) (by kernel_rfl) (by kernel_rfl) (by kernel_rfl) (X12.v Q) (Eq.mp (by kernel_rfl) h)
/-! ### mooring/mooringlaw20.args: function 13 -/
def X13.j1 (Q : Value → World → Prop) (b0 : Addr → Addr → Int → Int → Addr → Option Addr → Nat → Nat → Int → World → Prop) (t3 : Addr) (t7 : Addr) (t9 : Int) (t10 : Int) (t11 : Addr) (t12p : Option Addr) (t12n : Nat) (t12c : Nat) (t13 : Int) (w : World) : Prop := drewK w fun w1 => ldSl w1 (t3.add 8) fun x2p x2n x2c => (0 ≤ t13 ∧ t13 < ((x2n : Nat) : Int)) ∧ optP x2p fun p3 => ldI .i64 w1 ((p3.add (Int.toNat t13 * 2)).add 0) fun x4 => CallR Try.prog 12 #[.int .i64 x4, .int .i64 (3 : Int)] w1 fun v5 w6 => ∃ (y7 : Int), v5 = .int .i64 y7 ∧ ldSl w6 (t3.add 8) fun x8p x8n x8c => (World.cell? w1 (t3.add 8) = some (.slice x8p x8n x8c) ∧ World.cell? w6 (t3.add 8) = some (.slice x8p x8n x8c)) ∧ (0 ≤ t13 ∧ t13 < ((x8n : Nat) : Int)) ∧ optP x8p fun p9 => ldI .u64 w6 ((p9.add (Int.toNat t13 * 2)).add 1) fun x10 => (World.cell? w1 ((p9.add (Int.toNat t13 * 2)).add 1) = some (.int .u64 x10) ∧ World.cell? w6 ((p9.add (Int.toNat t13 * 2)).add 1) = some (.int .u64 x10)) ∧ (5 : Int) ≠ 0 ∧ newK w6 #[.int .i64 (IntKind.wrap .i64 ((1 : Int) + y7)), .int .u64 (IntKind.wrap .u64 ((1 : Int) + (Int.tmod x10 (5 : Int))))] 26 fun g11 w12 => RunR Try.prog (Builtin.append_ #[27, 27] 27 #[.slice t12p t12n t12c, .slice (some g11) 1 1]) w12 fun v13 w14 => ∃ (s15p : Option Addr) (s15n s15c : Nat), v13 = .slice s15p s15n s15c ∧ b0 t3 t7 t9 t10 t11 s15p s15n s15c (IntKind.wrap .i64 (t13 + (1 : Int))) w14
def X13.l0 (Q : Value → World → Prop) : Nat → Addr → Addr → Int → Int → Addr → (Option Addr) → Nat → Nat → Int → World → Prop
  | 0, _, _, _, _, _, _, _, _, _, _ => False
  | k + 1, t3, t7, t9, t10, t11, t12p, t12n, t12c, t13, w => ldSl w (t3.add 8) fun x1p x1n x1c => bcase (decide (t13 < ((x1n : Nat) : Int))) (bcase (decide (t13 < (2 : Int))) (X13.j1 Q (X13.l0 Q k) t3 t7 t9 t10 t11 t12p t12n t12c t13 w) (drewK w fun w2 => ldI .i64 w2 (t3.add 3) fun x3 => CallR Try.prog 12 #[.int .i64 x3, .int .i64 (64 : Int)] w2 fun v4 w5 => ∃ (y6 : Int), v4 = .int .i64 y6 ∧ ldI .i64 w5 (t11.add 0) fun x7 => ldI .u64 w5 (t11.add 1) fun x8 => ((∀ j u, ([.int .i64 x7, .int .u64 x8] : List Value)[j]? = some u → World.cell? w2 (t11.add j) = some u) ∧ (∀ j u, ([.int .i64 x7, .int .u64 x8] : List Value)[j]? = some u → World.cell? w5 (t11.add j) = some u)) ∧ stAll w5 t7 [.int .i64 x7, .int .u64 x8] fun w9 => ldI .i64 w9 (t7.add 0) fun x10 => ldI .u64 w9 (t7.add 1) fun x11 => Q (.tuple #[.int .i64 t9, .int .i64 t10, .int .i64 y6, .agg #[.int .i64 x10, .int .u64 x11], .slice t12p t12n t12c]) w9)) (drewK w fun w12 => ldI .i64 w12 (t3.add 3) fun x13 => CallR Try.prog 12 #[.int .i64 x13, .int .i64 (64 : Int)] w12 fun v14 w15 => ∃ (y16 : Int), v14 = .int .i64 y16 ∧ ldI .i64 w15 (t11.add 0) fun x17 => ldI .u64 w15 (t11.add 1) fun x18 => ((∀ j u, ([.int .i64 x17, .int .u64 x18] : List Value)[j]? = some u → World.cell? w12 (t11.add j) = some u) ∧ (∀ j u, ([.int .i64 x17, .int .u64 x18] : List Value)[j]? = some u → World.cell? w15 (t11.add j) = some u)) ∧ stAll w15 t7 [.int .i64 x17, .int .u64 x18] fun w19 => ldI .i64 w19 (t7.add 0) fun x20 => ldI .u64 w19 (t7.add 1) fun x21 => Q (.tuple #[.int .i64 t9, .int .i64 t10, .int .i64 y16, .agg #[.int .i64 x20, .int .u64 x21], .slice t12p t12n t12c]) w19)
def X13.j2 (Q : Value → World → Prop) (t3 : Addr) (t7 : Addr) (t9 : Int) (t10 : Int) (t11 : Addr) (w : World) : Prop := ∃ m1, X13.l0 Q m1 t3 t7 t9 t10 t11 none 0 0 (0 : Int) w
def X13.f (a0_0 : Int) (a0_1 : Int) (a0_2 : Int) (a0_3 : Int) (a0_4 : Int) (a0_5 : Int) (a0_6 : Int) (a0_7 : Int) (a0_8 : Int) (a0_9 : Int) (a0_10 : Int) (a0_11 : Int) (a0_12 : Int) (a0_13 : Int) (a0_14 : Int) (a0_15 : Int) (a0_16 : Int) (a0_17 : Int) (a0_18 : Int) (a0_19 : Int) (a0_20 : Int) (a0_21 : Int) (a1_0 : Int) (a1_1 : Int) (a1_2 : Int) (a1_3 : Int) (a1_4 : Int) (a1_5 : Int) (a1_6 : Int) (a1_7 : Int) (a1_8p : Option Addr) (a1_8n : Nat) (a1_8c : Nat) (a1_9 : Bool) (w : World) (Q : Value → World → Prop) : Prop := newK w #[.int .i64 a0_0, .int .i64 a0_1, .int .i64 a0_2, .int .i64 a0_3, .int .i64 a0_4, .int .i64 a0_5, .int .i64 a0_6, .int .i64 a0_7, .int .i64 a0_8, .int .i64 a0_9, .int .i64 a0_10, .int .u64 a0_11, .int .u64 a0_12, .int .u64 a0_13, .int .u64 a0_14, .int .u64 a0_15, .int .u64 a0_16, .int .i64 a0_17, .int .i64 a0_18, .int .i64 a0_19, .int .u64 a0_20, .int .u64 a0_21] 31 fun g1 w2 => newK w2 #[.int .i64 a1_0, .int .i64 a1_1, .int .i64 a1_2, .int .i64 a1_3, .int .u64 a1_4, .int .u64 a1_5, .int .i64 a1_6, .int .u64 a1_7, .slice a1_8p a1_8n a1_8c, .bool a1_9] 29 fun g3 w4 => newK w4 #[.int .i64 (0 : Int), .int .u64 (0 : Int)] 26 fun g5 w6 => ldB w6 (g3.add 9) fun x7 => bcase (!x7) (drewK w6 fun w8 => ldI .i64 w8 (g3.add 1) fun x9 => ldI .i64 w8 (g3.add 2) fun x10 => ldI .i64 w8 (g3.add 3) fun x11 => ldI .i64 w8 ((g3.add 6).add 0) fun x12 => ldI .u64 w8 ((g3.add 6).add 1) fun x13 => ldSl w8 (g3.add 8) fun x14p x14n x14c => stAll w8 g5 [.int .i64 x12, .int .u64 x13] fun w15 => (World.cell? w8 (g3.add 8) = some (.slice x14p x14n x14c) ∧ World.cell? w15 (g3.add 8) = some (.slice x14p x14n x14c)) ∧ ldI .i64 w15 (g5.add 0) fun x16 => ldI .u64 w15 (g5.add 1) fun x17 => Q (.tuple #[.int .i64 x9, .int .i64 x10, .int .i64 x11, .agg #[.int .i64 x16, .int .u64 x17], .slice x14p x14n x14c]) w15) (ldI .i64 w6 (g3.add 1) fun x18 => ldI .i64 w6 (g1.add 0) fun x19 => CallR Try.prog 12 #[.int .i64 x18, .int .i64 (IntKind.wrap .i64 (x19 + (1 : Int)))] w6 fun v20 w21 => ∃ (y22 : Int), v20 = .int .i64 y22 ∧ ldI .i64 w21 (g3.add 2) fun x23 => CallR Try.prog 12 #[.int .i64 x23, .int .i64 (6 : Int)] w21 fun v24 w25 => ∃ (y26 : Int), v24 = .int .i64 y26 ∧ ldI .u64 w25 (g3.add 4) fun x27 => (4 : Int) ≠ 0 ∧ newK w25 #[.int .i64 (0 : Int), .int .u64 (0 : Int)] 26 fun g28 w29 => stAll w29 g28 [.int .i64 (IntKind.wrap .i64 ((1 : Int) + y22)), .int .u64 (IntKind.wrap .u64 ((1 : Int) + (Int.tmod x27 (4 : Int))))] fun w30 => bcase ((IntKind.wrap .i64 ((1 : Int) + y26)) == (1 : Int)) (stAll w30 g28 [.int .i64 (0 : Int), .int .u64 (0 : Int)] fun w31 => X13.j2 Q g3 g5 (IntKind.wrap .i64 ((1 : Int) + y22)) (IntKind.wrap .i64 ((1 : Int) + y26)) g28 w31) (bcase ((IntKind.wrap .i64 ((1 : Int) + y26)) == (6 : Int)) (stAll w30 g28 [.int .i64 (0 : Int), .int .u64 (0 : Int)] fun w32 => X13.j2 Q g3 g5 (IntKind.wrap .i64 ((1 : Int) + y22)) (IntKind.wrap .i64 ((1 : Int) + y26)) g28 w32) (X13.j2 Q g3 g5 (IntKind.wrap .i64 ((1 : Int) + y22)) (IntKind.wrap .i64 ((1 : Int) + y26)) g28 w30)))
def X13.S (Q : Value → World → Prop) : Segs
  | 0, φ, ρ, w => qA (ρ 3) fun t3 => qA (ρ 7) fun t7 => qI .i64 (ρ 9) fun t9 => qI .i64 (ρ 10) fun t10 => qA (ρ 11) fun t11 => qSl (ρ 12) fun t12p t12n t12c => qI .i64 (ρ 13) fun t13 => X13.l0 Q (φ 0) t3 t7 t9 t10 t11 t12p t12n t12c t13 w
  | 1, φ, ρ, w => qA (ρ 3) fun t3 => qA (ρ 7) fun t7 => qI .i64 (ρ 9) fun t9 => qI .i64 (ρ 10) fun t10 => qA (ρ 11) fun t11 => qSl (ρ 12) fun t12p t12n t12c => qI .i64 (ρ 13) fun t13 => X13.j1 Q (X13.l0 Q (φ 0)) t3 t7 t9 t10 t11 t12p t12n t12c t13 w
  | 2, φ, ρ, w => qA (ρ 3) fun t3 => qA (ρ 7) fun t7 => qI .i64 (ρ 9) fun t9 => qI .i64 (ρ 10) fun t10 => qA (ρ 11) fun t11 => X13.j2 Q t3 t7 t9 t10 t11 w
  | _, _, _, _ => False
noncomputable def X13.an : Ann := (.seq .leaf (.seq (.seq .leaf (.cond (.seq (.draw [0, 1, 0, 4, 0, 16, 0, 64, 0, 256, 3, 1039, 3135, 7423, 16383] [[0, 1, 2, 3, 4, 5, 6, 7, 8, 9, 10, 11, 12, 13, 14]]) .leaf) .leaf)) (.seq .leaf (.seq .leaf (.seq .leaf (.seq (.seq .leaf (.cond .leaf .leaf)) (.join 2 (.seq .leaf (.seq (.seq .leaf (.block (.loop 0 (.seq (.seq .leaf (.cond .leaf .leaf)) (.join 1 (.seq (.block (.draw [0, 0, 2, 0, 14, 30, 62, 126, 254, 0, 512, 0, 3584, 7680, 15872, 32256, 65024, 131070, 262142, 524287, 1048575] [[0, 1, 2, 3, 4, 5, 6, 7, 8, 9, 10, 11, 12, 13, 14, 15, 16, 17, 18, 19, 20]])) .leaf)))))) (.seq (.draw [0, 0, 0, 4, 12, 0, 0, 29, 159, 415, 959, 2047] [[0, 1, 2, 3, 4, 5, 6, 7, 8, 9, 10, 11]]) .leaf))))))))))
noncomputable def X13.c : Code := Try.f13.body.getD .skip
theorem X13.v (Q : Value → World → Prop) : V Try.prog (X13.S Q) X13.an X13.c (retC Try.prog Try.f13 Q) := ⟨trivial, ⟨⟨trivial, ⟨⟨trivial, trivial⟩, trivial⟩⟩, ⟨trivial, ⟨trivial, ⟨trivial, ⟨⟨trivial, ⟨trivial, trivial⟩⟩, ⟨(by
    intro φ ρ w h
    simp only [X13.S] at h
    obtain ⟨t3, e3, h⟩ := qA_elim h
    obtain ⟨t7, e7, h⟩ := qA_elim h
    obtain ⟨t9, e9, h⟩ := qI_elim h
    obtain ⟨t10, e10, h⟩ := qI_elim h
    obtain ⟨t11, e11, h⟩ := qA_elim h
    exact ⟨(((((Env.nil.put (some 3) (.pointer (some t3))).put (some 7) (.pointer (some t7))).put (some 9) (.int .i64 t9)).put (some 10) (.int .i64 t10)).put (some 11) (.pointer (some t11))), Env.le_put e11 (Env.le_put e10 (Env.le_put e9 (Env.le_put e7 (Env.le_put e3 (Env.le_nil _))))), Eq.mp (by kernel_rfl) h⟩), ⟨trivial, ⟨⟨trivial, ⟨(by
    intro φ ρ w h
    simp only [X13.S] at h
    obtain ⟨t3, e3, h⟩ := qA_elim h
    obtain ⟨t7, e7, h⟩ := qA_elim h
    obtain ⟨t9, e9, h⟩ := qI_elim h
    obtain ⟨t10, e10, h⟩ := qI_elim h
    obtain ⟨t11, e11, h⟩ := qA_elim h
    obtain ⟨t12p, t12n, t12c, e12, h⟩ := qSl_elim h
    obtain ⟨t13, e13, h⟩ := qI_elim h
    cases hk : φ 0 with
    | zero => rw [hk] at h; exact h.elim
    | succ k => rw [hk] at h; exact ⟨k, Nat.lt_succ_self k, (((((((Env.nil.put (some 3) (.pointer (some t3))).put (some 7) (.pointer (some t7))).put (some 9) (.int .i64 t9)).put (some 10) (.int .i64 t10)).put (some 11) (.pointer (some t11))).put (some 12) (.slice t12p t12n t12c)).put (some 13) (.int .i64 t13)), Env.le_put e13 (Env.le_put e12 (Env.le_put e11 (Env.le_put e10 (Env.le_put e9 (Env.le_put e7 (Env.le_put e3 (Env.le_nil _))))))), Eq.mp (by kernel_rfl) h⟩), ⟨⟨trivial, ⟨trivial, trivial⟩⟩, ⟨(by
    intro φ ρ w h
    simp only [X13.S] at h
    obtain ⟨t3, e3, h⟩ := qA_elim h
    obtain ⟨t7, e7, h⟩ := qA_elim h
    obtain ⟨t9, e9, h⟩ := qI_elim h
    obtain ⟨t10, e10, h⟩ := qI_elim h
    obtain ⟨t11, e11, h⟩ := qA_elim h
    obtain ⟨t12p, t12n, t12c, e12, h⟩ := qSl_elim h
    obtain ⟨t13, e13, h⟩ := qI_elim h
    exact ⟨(((((((Env.nil.put (some 3) (.pointer (some t3))).put (some 7) (.pointer (some t7))).put (some 9) (.int .i64 t9)).put (some 10) (.int .i64 t10)).put (some 11) (.pointer (some t11))).put (some 12) (.slice t12p t12n t12c)).put (some 13) (.int .i64 t13)), Env.le_put e13 (Env.le_put e12 (Env.le_put e11 (Env.le_put e10 (Env.le_put e9 (Env.le_put e7 (Env.le_put e3 (Env.le_nil _))))))), Eq.mp (by kernel_rfl) h⟩), ⟨trivial, trivial⟩⟩⟩⟩⟩, ⟨trivial, trivial⟩⟩⟩⟩⟩⟩⟩⟩⟩⟩
theorem X13.sound (a0_0 : Int) (a0_1 : Int) (a0_2 : Int) (a0_3 : Int) (a0_4 : Int) (a0_5 : Int) (a0_6 : Int) (a0_7 : Int) (a0_8 : Int) (a0_9 : Int) (a0_10 : Int) (a0_11 : Int) (a0_12 : Int) (a0_13 : Int) (a0_14 : Int) (a0_15 : Int) (a0_16 : Int) (a0_17 : Int) (a0_18 : Int) (a0_19 : Int) (a0_20 : Int) (a0_21 : Int) (a1_0 : Int) (a1_1 : Int) (a1_2 : Int) (a1_3 : Int) (a1_4 : Int) (a1_5 : Int) (a1_6 : Int) (a1_7 : Int) (a1_8p : Option Addr) (a1_8n : Nat) (a1_8c : Nat) (a1_9 : Bool) (w : World) (Q : Value → World → Prop) (h : X13.f a0_0 a0_1 a0_2 a0_3 a0_4 a0_5 a0_6 a0_7 a0_8 a0_9 a0_10 a0_11 a0_12 a0_13 a0_14 a0_15 a0_16 a0_17 a0_18 a0_19 a0_20 a0_21 a1_0 a1_1 a1_2 a1_3 a1_4 a1_5 a1_6 a1_7 a1_8p a1_8n a1_8c a1_9 w Q) : CallR Try.prog 13 #[.agg #[.int .i64 a0_0, .int .i64 a0_1, .int .i64 a0_2, .int .i64 a0_3, .int .i64 a0_4, .int .i64 a0_5, .int .i64 a0_6, .int .i64 a0_7, .int .i64 a0_8, .int .i64 a0_9, .int .i64 a0_10, .int .u64 a0_11, .int .u64 a0_12, .int .u64 a0_13, .int .u64 a0_14, .int .u64 a0_15, .int .u64 a0_16, .int .i64 a0_17, .int .i64 a0_18, .int .i64 a0_19, .int .u64 a0_20, .int .u64 a0_21], .agg #[.int .i64 a1_0, .int .i64 a1_1, .int .i64 a1_2, .int .i64 a1_3, .int .u64 a1_4, .int .u64 a1_5, .int .i64 a1_6, .int .u64 a1_7, .slice a1_8p a1_8n a1_8c, .bool a1_9]] w Q :=
  fn_sound noGr mixed Try.func13 (c := X13.c) (an := X13.an) (S := X13.S Q) (φ := fun _ => 0) (args := [.agg #[.int .i64 a0_0, .int .i64 a0_1, .int .i64 a0_2, .int .i64 a0_3, .int .i64 a0_4, .int .i64 a0_5, .int .i64 a0_6, .int .i64 a0_7, .int .i64 a0_8, .int .i64 a0_9, .int .i64 a0_10, .int .u64 a0_11, .int .u64 a0_12, .int .u64 a0_13, .int .u64 a0_14, .int .u64 a0_15, .int .u64 a0_16, .int .i64 a0_17, .int .i64 a0_18, .int .i64 a0_19, .int .u64 a0_20, .int .u64 a0_21], .agg #[.int .i64 a1_0, .int .i64 a1_1, .int .i64 a1_2, .int .i64 a1_3, .int .u64 a1_4, .int .u64 a1_5, .int .i64 a1_6, .int .u64 a1_7, .slice a1_8p a1_8n a1_8c, .bool a1_9]]) (by kernel_rfl) (by kernel_rfl) (by kernel_rfl) (X13.v Q) (Eq.mp (by kernel_rfl) h)
/-! ### (*mooring/caller.Table).Begin: function 14 -/
def X14.j1 (Q : Value → World → Prop) (t0 : Option Addr) (t1 : Int) (t18 : Addr) (w : World) : Prop := optP t0 fun p1 => ldSl w (p1.add 24) fun x2p x2n x2c => (0 ≤ t1 ∧ t1 < ((x2n : Nat) : Int)) ∧ optP x2p fun p3 => ldI .u64 w (p3.add (Int.toNat t1 * 1)) fun x4 => (0 ≤ t1 ∧ t1 < ((x2n : Nat) : Int)) ∧ optP x2p fun p5 => stK w (p5.add (Int.toNat t1 * 1)) (.int .u64 (IntKind.wrap .u64 (x4 + (1 : Int)))) fun w6 => optP t0 fun p7 => ldSl w6 (p7.add 24) fun x8p x8n x8c => (0 ≤ t1 ∧ t1 < ((x8n : Nat) : Int)) ∧ optP x8p fun p9 => ldI .u64 w6 (p9.add (Int.toNat t1 * 1)) fun x10 => stK w6 (t18.add 1) (.int .u64 x10) fun w11 => ldI .i64 w11 (t18.add 0) fun x12 => ldI .u64 w11 (t18.add 1) fun x13 => ldI .i64 w11 (t18.add 2) fun x14 => ldI .i64 w11 (t18.add 3) fun x15 => ldI .i64 w11 (t18.add 4) fun x16 => ldI .u64 w11 (t18.add 5) fun x17 => ldSl w11 (t18.add 6) fun x18p x18n x18c => ldI .u64 w11 (t18.add 7) fun x19 => ldI .i64 w11 (t18.add 8) fun x20 => ldI .i64 w11 (t18.add 9) fun x21 => ldSl w11 (t18.add 10) fun x22p x22n x22c => ldI .u64 w11 (t18.add 11) fun x23 => ldI .u64 w11 (t18.add 12) fun x24 => ldI .u64 w11 (t18.add 13) fun x25 => ldI .u64 w11 (t18.add 14) fun x26 => CallR Try.prog 33 #[.pointer t0, .agg #[.int .i64 x12, .int .u64 x13, .int .i64 x14, .int .i64 x15, .int .i64 x16, .int .u64 x17, .slice x18p x18n x18c, .int .u64 x19, .int .i64 x20, .int .i64 x21, .slice x22p x22n x22c, .int .u64 x23, .int .u64 x24, .int .u64 x25, .int .u64 x26]] w11 fun v27 w28 => v27 = .tuple #[] ∧ ldI .u64 w28 (t18.add 1) fun x29 => Q (.tuple #[.int .u64 x29, .int .i64 (0 : Int)]) w28
def X14.j0 (Q : Value → World → Prop) (t0 : Option Addr) (t1 : Int) (t18 : Addr) (t33 : Bool) (w : World) : Prop := bcase t33 (Q (.tuple #[.int .u64 (0 : Int), .int .i64 (1 : Int)]) w) (drewK w fun w1 => optP t0 fun p2 => ldP w1 (p2.add 25) fun x3 => CallR Try.prog 32 #[.pointer x3] w1 fun v4 w5 => ∃ (y6 : Int), v4 = .int .i64 y6 ∧ optP t0 fun p7 => ldI .i64 w5 ((p7.add 0).add 6) fun x8 => (World.cell? w1 ((p7.add 0).add 6) = some (.int .i64 x8) ∧ World.cell? w5 ((p7.add 0).add 6) = some (.int .i64 x8)) ∧ bcase (decide (y6 ≥ x8)) (Q (.tuple #[.int .u64 (0 : Int), .int .i64 (6 : Int)]) w5) (optP t0 fun p9 => ldSl w5 (p9.add 24) fun x10p x10n x10c => (0 ≤ t1 ∧ t1 < ((x10n : Nat) : Int)) ∧ optP x10p fun p11 => ldI .u64 w5 (p11.add (Int.toNat t1 * 1)) fun x12 => CallR Try.prog 20 #[.pointer t0, .int .i64 t1] w5 fun v13 w14 => ∃ (y15 : Int), v13 = .int .u64 y15 ∧ (World.cell? w5 (p11.add (Int.toNat t1 * 1)) = some (.int .u64 x12) ∧ World.cell? w14 (p11.add (Int.toNat t1 * 1)) = some (.int .u64 x12)) ∧ (World.cell? w5 (p9.add 24) = some (.slice x10p x10n x10c) ∧ World.cell? w14 (p9.add 24) = some (.slice x10p x10n x10c)) ∧ optP t0 fun p16 => ldI .i64 w14 ((p16.add 0).add 7) fun x17 => (World.cell? w5 ((p16.add 0).add 7) = some (.int .i64 x17) ∧ World.cell? w14 ((p16.add 0).add 7) = some (.int .i64 x17)) ∧ bcase (decide ((IntKind.wrap .u64 ((IntKind.wrap .u64 (x12 + (1 : Int))) - y15)) ≥ (IntKind.wrap .u64 x17))) (Q (.tuple #[.int .u64 (0 : Int), .int .i64 (6 : Int)]) w14) (optP t0 fun p18 => ldSl w14 (p18.add 24) fun x19p x19n x19c => (0 ≤ t1 ∧ t1 < ((x19n : Nat) : Int)) ∧ optP x19p fun p20 => ldI .u64 w14 (p20.add (Int.toNat t1 * 1)) fun x21 => bcase (x21 == (72057594037927935 : Int)) (Q (.tuple #[.int .u64 (0 : Int), .int .i64 (7 : Int)]) w14) (X14.j1 Q t0 t1 t18 w14))))
def X14.f (a0 : Option Addr) (a1 : Int) (a2 : Int) (a3 : Int) (a4_0 : Int) (a4_1 : Int) (a5 : Int) (a6p : Option Addr) (a6n : Nat) (a6c : Nat) (a7 : Int) (w : World) (Q : Value → World → Prop) : Prop := newK w #[.int .i64 a4_0, .int .u64 a4_1] 26 fun g1 w2 => ldI .i64 w2 (g1.add 0) fun x3 => ldI .u64 w2 (g1.add 1) fun x4 => CallR Try.prog 29 #[.agg #[.int .i64 a1, .int .u64 (1 : Int), .int .i64 a2, .int .i64 a3, .int .i64 x3, .int .u64 x4, .slice a6p a6n a6c, .int .u64 a5, .int .i64 (1 : Int), .int .i64 (0 : Int), .slice none 0 0, .int .u64 (0 : Int), .int .u64 a7, .int .u64 (0 : Int), .int .u64 a7]] w2 fun v5 w6 => ∃ (y7 : Int) (y8 : Int) (y9 : Int) (y10 : Int) (y11 : Int) (y12 : Int) (y13p : Option Addr) (y13n y13c : Nat) (y14 : Int) (y15 : Int) (y16 : Int) (y17p : Option Addr) (y17n y17c : Nat) (y18 : Int) (y19 : Int) (y20 : Int) (y21 : Int), v5 = .agg #[.int .i64 y7, .int .u64 y8, .int .i64 y9, .int .i64 y10, .int .i64 y11, .int .u64 y12, .slice y13p y13n y13c, .int .u64 y14, .int .i64 y15, .int .i64 y16, .slice y17p y17n y17c, .int .u64 y18, .int .u64 y19, .int .u64 y20, .int .u64 y21] ∧ newK w6 #[.int .i64 (0 : Int), .int .u64 (0 : Int), .int .i64 (0 : Int), .int .i64 (0 : Int), .int .i64 (0 : Int), .int .u64 (0 : Int), .slice none 0 0, .int .u64 (0 : Int), .int .i64 (0 : Int), .int .i64 (0 : Int), .slice none 0 0, .int .u64 (0 : Int), .int .u64 (0 : Int), .int .u64 (0 : Int), .int .u64 (0 : Int)] 44 fun g22 w23 => stAll w23 g22 [.int .i64 y7, .int .u64 y8, .int .i64 y9, .int .i64 y10, .int .i64 y11, .int .u64 y12, .slice y13p y13n y13c, .int .u64 y14, .int .i64 y15, .int .i64 y16, .slice y17p y17n y17c, .int .u64 y18, .int .u64 y19, .int .u64 y20, .int .u64 y21] fun w24 => ldI .i64 w24 (g1.add 0) fun x25 => ldI .u64 w24 (g1.add 1) fun x26 => isStruct Try.prog 26 ∧ optP a0 fun p27 => ldI .i64 w24 ((p27.add 0).add 0) fun x28 => bcase (decide (a1 > x28)) (X14.j0 Q a0 a1 g22 true w24) (ldI .i64 w24 (g22.add 0) fun x29 => ldI .u64 w24 (g22.add 1) fun x30 => ldI .i64 w24 (g22.add 2) fun x31 => ldI .i64 w24 (g22.add 3) fun x32 => ldI .i64 w24 (g22.add 4) fun x33 => ldI .u64 w24 (g22.add 5) fun x34 => ldSl w24 (g22.add 6) fun x35p x35n x35c => ldI .u64 w24 (g22.add 7) fun x36 => ldI .i64 w24 (g22.add 8) fun x37 => ldI .i64 w24 (g22.add 9) fun x38 => ldSl w24 (g22.add 10) fun x39p x39n x39c => ldI .u64 w24 (g22.add 11) fun x40 => ldI .u64 w24 (g22.add 12) fun x41 => ldI .u64 w24 (g22.add 13) fun x42 => ldI .u64 w24 (g22.add 14) fun x43 => CallR Try.prog 31 #[.pointer a0, .agg #[.int .i64 x29, .int .u64 x30, .int .i64 x31, .int .i64 x32, .int .i64 x33, .int .u64 x34, .slice x35p x35n x35c, .int .u64 x36, .int .i64 x37, .int .i64 x38, .slice x39p x39n x39c, .int .u64 x40, .int .u64 x41, .int .u64 x42, .int .u64 x43], .int .u64 (1 : Int)] w24 fun v44 w45 => ∃ (y46 : Int) (y47 : Int) (y48 : Int) (y49 : Int) (y50 : Int) (y51 : Int) (y52 : Int) (y53 : Int) (y54 : Int) (y55 : Int) (y56p : Option Addr) (y56n y56c : Nat) (y57 : Int) (y58 : Int) (y59 : Int) (y60 : Int) (y61 : Int) (y62 : Int) (y63 : Int) (y64p : Option Addr) (y64n y64c : Nat), v44 = .agg #[.int .i64 y46, .int .i64 y47, .int .i64 y48, .int .u64 y49, .int .u64 y50, .int .i64 y51, .int .i64 y52, .int .i64 y53, .int .i64 y54, .int .u64 y55, .slice y56p y56n y56c, .int .u64 y57, .int .i64 y58, .int .u64 y59, .int .i64 y60, .int .u64 y61, .int .i64 y62, .int .u64 y63, .slice y64p y64n y64c] ∧ CallR Try.prog 30 #[.agg #[.int .i64 y46, .int .i64 y47, .int .i64 y48, .int .u64 y49, .int .u64 y50, .int .i64 y51, .int .i64 y52, .int .i64 y53, .int .i64 y54, .int .u64 y55, .slice y56p y56n y56c, .int .u64 y57, .int .i64 y58, .int .u64 y59, .int .i64 y60, .int .u64 y61, .int .i64 y62, .int .u64 y63, .slice y64p y64n y64c]] w45 fun v65 w66 => ∃ (y67 : Bool), v65 = .bool y67 ∧ bcase (!y67) (X14.j0 Q a0 a1 g22 true w66) (bcase (!((x25 == (0 : Int)) && ((x26 == (0 : Int)) && true))) (ldI .i64 w66 (g1.add 0) fun x68 => X14.j0 Q a0 a1 g22 (x68 != a1) w66) (X14.j0 Q a0 a1 g22 false w66)))
def X14.S (Q : Value → World → Prop) : Segs
  | 0, φ, ρ, w => qP (ρ 0) fun t0 => qI .i64 (ρ 1) fun t1 => qA (ρ 18) fun t18 => qB (ρ 33) fun t33 => X14.j0 Q t0 t1 t18 t33 w
  | 1, φ, ρ, w => qP (ρ 0) fun t0 => qI .i64 (ρ 1) fun t1 => qA (ρ 18) fun t18 => X14.j1 Q t0 t1 t18 w
  | _, _, _, _ => False
noncomputable def X14.an : Ann := (.seq .leaf (.seq .leaf (.seq .leaf (.seq (.block (.seq .leaf (.join 0 (.cond (.seq .leaf .leaf) (.seq (.draw [0, 1, 3, 7, 15, 0, 32, 96, 224, 480, 1023, 2047, 4095, 8191, 16383, 32767, 4095, 131071, 262143, 524287, 4095, 4095, 3149823, 8388607, 4095, 16781311, 50335743, 117444607, 251662335, 520097791, 1073741823, 2147483647, 4294967295] [[0, 1, 2, 3, 4, 5, 6, 7, 8, 9, 10, 11, 12, 13, 14, 15, 16, 17, 18, 19, 20, 21, 22, 23, 24, 25, 26, 27, 28, 29, 30, 31, 32]]) (.cond (.seq .leaf .leaf) (.seq .leaf (.cond (.seq .leaf .leaf) .leaf)))))))) (.join 1 (.seq .leaf (.seq .leaf (.seq .leaf (.seq .leaf .leaf)))))))))
noncomputable def X14.c : Code := Try.f14.body.getD .skip
theorem X14.v (Q : Value → World → Prop) : V Try.prog (X14.S Q) X14.an X14.c (retC Try.prog Try.f14 Q) := ⟨trivial, ⟨trivial, ⟨trivial, ⟨⟨trivial, ⟨(by
    intro φ ρ w h
    simp only [X14.S] at h
    obtain ⟨t0, e0, h⟩ := qP_elim h
    obtain ⟨t1, e1, h⟩ := qI_elim h
    obtain ⟨t18, e18, h⟩ := qA_elim h
    obtain ⟨t33, e33, h⟩ := qB_elim h
    exact ⟨((((Env.nil.put (some 0) (.pointer t0)).put (some 1) (.int .i64 t1)).put (some 18) (.pointer (some t18))).put (some 33) (.bool t33)), Env.le_put e33 (Env.le_put e18 (Env.le_put e1 (Env.le_put e0 (Env.le_nil _)))), Eq.mp (by kernel_rfl) h⟩), ⟨⟨trivial, trivial⟩, ⟨trivial, ⟨⟨trivial, trivial⟩, ⟨trivial, ⟨⟨trivial, trivial⟩, trivial⟩⟩⟩⟩⟩⟩⟩, ⟨(by
    intro φ ρ w h
    simp only [X14.S] at h
    obtain ⟨t0, e0, h⟩ := qP_elim h
    obtain ⟨t1, e1, h⟩ := qI_elim h
    obtain ⟨t18, e18, h⟩ := qA_elim h
    exact ⟨(((Env.nil.put (some 0) (.pointer t0)).put (some 1) (.int .i64 t1)).put (some 18) (.pointer (some t18))), Env.le_put e18 (Env.le_put e1 (Env.le_put e0 (Env.le_nil _))), Eq.mp (by kernel_rfl) h⟩), ⟨trivial, ⟨trivial, ⟨trivial, ⟨trivial, trivial⟩⟩⟩⟩⟩⟩⟩⟩⟩
theorem X14.sound (a0 : Option Addr) (a1 : Int) (a2 : Int) (a3 : Int) (a4_0 : Int) (a4_1 : Int) (a5 : Int) (a6p : Option Addr) (a6n : Nat) (a6c : Nat) (a7 : Int) (w : World) (Q : Value → World → Prop) (h : X14.f a0 a1 a2 a3 a4_0 a4_1 a5 a6p a6n a6c a7 w Q) : CallR Try.prog 14 #[.pointer a0, .int .i64 a1, .int .i64 a2, .int .i64 a3, .agg #[.int .i64 a4_0, .int .u64 a4_1], .int .u64 a5, .slice a6p a6n a6c, .int .u64 a7] w Q :=
  fn_sound noGr mixed Try.func14 (c := X14.c) (an := X14.an) (S := X14.S Q) (φ := fun _ => 0) (args := [.pointer a0, .int .i64 a1, .int .i64 a2, .int .i64 a3, .agg #[.int .i64 a4_0, .int .u64 a4_1], .int .u64 a5, .slice a6p a6n a6c, .int .u64 a7]) (by kernel_rfl) (by kernel_rfl) (by kernel_rfl) (X14.v Q) (Eq.mp (by kernel_rfl) h)
/-! ### (*mooring/caller.Table).Step: function 15 -/
def X15.j0 (Q : Value → World → Prop) (t0 : Option Addr) (t1 : Int) (t4 : Addr) (t5 : Addr) (t9 : Addr) (t11 : Addr) (w : World) : Prop := stK w (t9.add 12) (.int .u64 t1) fun w1 => drewK w1 fun w2 => ldI .u64 w2 (t9.add 13) fun x3 => optP t0 fun p4 => ldI .u64 w2 ((p4.add 0).add 14) fun x5 => optP t0 fun p6 => ldI .u64 w2 ((p6.add 0).add 15) fun x7 => CallR Try.prog 37 #[.int .u64 x3, .int .u64 x5, .int .u64 x7] w2 fun v8 w9 => ∃ (y10 : Int), v8 = .int .u64 y10 ∧ stK w9 (t9.add 13) (.int .u64 y10) fun w11 => ldI .i64 w11 (t9.add 0) fun x12 => ldI .u64 w11 (t9.add 1) fun x13 => ldI .i64 w11 (t9.add 2) fun x14 => ldI .i64 w11 (t9.add 3) fun x15 => ldI .i64 w11 (t9.add 4) fun x16 => ldI .u64 w11 (t9.add 5) fun x17 => ldSl w11 (t9.add 6) fun x18p x18n x18c => ldI .u64 w11 (t9.add 7) fun x19 => ldI .i64 w11 (t9.add 8) fun x20 => ldI .i64 w11 (t9.add 9) fun x21 => ldSl w11 (t9.add 10) fun x22p x22n x22c => ldI .u64 w11 (t9.add 11) fun x23 => ldI .u64 w11 (t9.add 12) fun x24 => ldI .u64 w11 (t9.add 13) fun x25 => ldI .u64 w11 (t9.add 14) fun x26 => CallR Try.prog 33 #[.pointer t0, .agg #[.int .i64 x12, .int .u64 x13, .int .i64 x14, .int .i64 x15, .int .i64 x16, .int .u64 x17, .slice x18p x18n x18c, .int .u64 x19, .int .i64 x20, .int .i64 x21, .slice x22p x22n x22c, .int .u64 x23, .int .u64 x24, .int .u64 x25, .int .u64 x26]] w11 fun v27 w28 => v27 = .tuple #[] ∧ drewK w28 fun w29 => ldI .i64 w29 (t11.add 0) fun x30 => ldI .u64 w29 (t11.add 1) fun x31 => ldI .i64 w29 (t11.add 2) fun x32 => ldI .i64 w29 (t11.add 3) fun x33 => ldI .i64 w29 (t11.add 4) fun x34 => ldI .u64 w29 (t11.add 5) fun x35 => ldSl w29 (t11.add 6) fun x36p x36n x36c => ldI .u64 w29 (t11.add 7) fun x37 => ldI .i64 w29 (t11.add 8) fun x38 => ldI .i64 w29 (t11.add 9) fun x39 => ldSl w29 (t11.add 10) fun x40p x40n x40c => ldI .u64 w29 (t11.add 11) fun x41 => ldI .u64 w29 (t11.add 12) fun x42 => ldI .u64 w29 (t11.add 13) fun x43 => ldI .u64 w29 (t11.add 14) fun x44 => ldI .i64 w29 (t9.add 0) fun x45 => ldI .u64 w29 (t9.add 1) fun x46 => ldI .i64 w29 (t9.add 2) fun x47 => ldI .i64 w29 (t9.add 3) fun x48 => ldI .i64 w29 (t9.add 4) fun x49 => ldI .u64 w29 (t9.add 5) fun x50 => ldSl w29 (t9.add 6) fun x51p x51n x51c => ldI .u64 w29 (t9.add 7) fun x52 => ldI .i64 w29 (t9.add 8) fun x53 => ldI .i64 w29 (t9.add 9) fun x54 => ldSl w29 (t9.add 10) fun x55p x55n x55c => ldI .u64 w29 (t9.add 11) fun x56 => ldI .u64 w29 (t9.add 12) fun x57 => ldI .u64 w29 (t9.add 13) fun x58 => ldI .u64 w29 (t9.add 14) fun x59 => ldI .i64 w29 (t9.add 0) fun x60 => CallR Try.prog 20 #[.pointer t0, .int .i64 x60] w29 fun v61 w62 => ∃ (y63 : Int), v61 = .int .u64 y63 ∧ ((∀ j u, ([.int .i64 x45, .int .u64 x46, .int .i64 x47, .int .i64 x48, .int .i64 x49, .int .u64 x50, .slice x51p x51n x51c, .int .u64 x52, .int .i64 x53, .int .i64 x54, .slice x55p x55n x55c, .int .u64 x56, .int .u64 x57, .int .u64 x58, .int .u64 x59] : List Value)[j]? = some u → World.cell? w29 (t9.add j) = some u) ∧ (∀ j u, ([.int .i64 x45, .int .u64 x46, .int .i64 x47, .int .i64 x48, .int .i64 x49, .int .u64 x50, .slice x51p x51n x51c, .int .u64 x52, .int .i64 x53, .int .i64 x54, .slice x55p x55n x55c, .int .u64 x56, .int .u64 x57, .int .u64 x58, .int .u64 x59] : List Value)[j]? = some u → World.cell? w62 (t9.add j) = some u)) ∧ ((∀ j u, ([.int .i64 x30, .int .u64 x31, .int .i64 x32, .int .i64 x33, .int .i64 x34, .int .u64 x35, .slice x36p x36n x36c, .int .u64 x37, .int .i64 x38, .int .i64 x39, .slice x40p x40n x40c, .int .u64 x41, .int .u64 x42, .int .u64 x43, .int .u64 x44] : List Value)[j]? = some u → World.cell? w29 (t11.add j) = some u) ∧ (∀ j u, ([.int .i64 x30, .int .u64 x31, .int .i64 x32, .int .i64 x33, .int .i64 x34, .int .u64 x35, .slice x36p x36n x36c, .int .u64 x37, .int .i64 x38, .int .i64 x39, .slice x40p x40n x40c, .int .u64 x41, .int .u64 x42, .int .u64 x43, .int .u64 x44] : List Value)[j]? = some u → World.cell? w62 (t11.add j) = some u)) ∧ CallR Try.prog 31 #[.pointer t0, .agg #[.int .i64 x45, .int .u64 x46, .int .i64 x47, .int .i64 x48, .int .i64 x49, .int .u64 x50, .slice x51p x51n x51c, .int .u64 x52, .int .i64 x53, .int .i64 x54, .slice x55p x55n x55c, .int .u64 x56, .int .u64 x57, .int .u64 x58, .int .u64 x59], .int .u64 y63] w62 fun v64 w65 => ∃ (y66 : Int) (y67 : Int) (y68 : Int) (y69 : Int) (y70 : Int) (y71 : Int) (y72 : Int) (y73 : Int) (y74 : Int) (y75 : Int) (y76p : Option Addr) (y76n y76c : Nat) (y77 : Int) (y78 : Int) (y79 : Int) (y80 : Int) (y81 : Int) (y82 : Int) (y83 : Int) (y84p : Option Addr) (y84n y84c : Nat), v64 = .agg #[.int .i64 y66, .int .i64 y67, .int .i64 y68, .int .u64 y69, .int .u64 y70, .int .i64 y71, .int .i64 y72, .int .i64 y73, .int .i64 y74, .int .u64 y75, .slice y76p y76n y76c, .int .u64 y77, .int .i64 y78, .int .u64 y79, .int .i64 y80, .int .u64 y81, .int .i64 y82, .int .u64 y83, .slice y84p y84n y84c] ∧ ((∀ j u, ([.int .i64 x30, .int .u64 x31, .int .i64 x32, .int .i64 x33, .int .i64 x34, .int .u64 x35, .slice x36p x36n x36c, .int .u64 x37, .int .i64 x38, .int .i64 x39, .slice x40p x40n x40c, .int .u64 x41, .int .u64 x42, .int .u64 x43, .int .u64 x44] : List Value)[j]? = some u → World.cell? w62 (t11.add j) = some u) ∧ (∀ j u, ([.int .i64 x30, .int .u64 x31, .int .i64 x32, .int .i64 x33, .int .i64 x34, .int .u64 x35, .slice x36p x36n x36c, .int .u64 x37, .int .i64 x38, .int .i64 x39, .slice x40p x40n x40c, .int .u64 x41, .int .u64 x42, .int .u64 x43, .int .u64 x44] : List Value)[j]? = some u → World.cell? w65 (t11.add j) = some u)) ∧ stAll w65 t4 [.int .i64 x30, .int .u64 x31, .int .i64 x32, .int .i64 x33, .int .i64 x34, .int .u64 x35, .slice x36p x36n x36c, .int .u64 x37, .int .i64 x38, .int .i64 x39, .slice x40p x40n x40c, .int .u64 x41, .int .u64 x42, .int .u64 x43, .int .u64 x44] fun w85 => stAll w85 t5 [.int .i64 y66, .int .i64 y67, .int .i64 y68, .int .u64 y69, .int .u64 y70, .int .i64 y71, .int .i64 y72, .int .i64 y73, .int .i64 y74, .int .u64 y75, .slice y76p y76n y76c, .int .u64 y77, .int .i64 y78, .int .u64 y79, .int .i64 y80, .int .u64 y81, .int .i64 y82, .int .u64 y83, .slice y84p y84n y84c] fun w86 => ldI .i64 w86 (t4.add 0) fun x87 => ldI .u64 w86 (t4.add 1) fun x88 => ldI .i64 w86 (t4.add 2) fun x89 => ldI .i64 w86 (t4.add 3) fun x90 => ldI .i64 w86 (t4.add 4) fun x91 => ldI .u64 w86 (t4.add 5) fun x92 => ldSl w86 (t4.add 6) fun x93p x93n x93c => ldI .u64 w86 (t4.add 7) fun x94 => ldI .i64 w86 (t4.add 8) fun x95 => ldI .i64 w86 (t4.add 9) fun x96 => ldSl w86 (t4.add 10) fun x97p x97n x97c => ldI .u64 w86 (t4.add 11) fun x98 => ldI .u64 w86 (t4.add 12) fun x99 => ldI .u64 w86 (t4.add 13) fun x100 => ldI .u64 w86 (t4.add 14) fun x101 => ldI .i64 w86 (t5.add 0) fun x102 => ldI .i64 w86 (t5.add 1) fun x103 => ldI .i64 w86 (t5.add 2) fun x104 => ldI .u64 w86 (t5.add 3) fun x105 => ldI .u64 w86 (t5.add 4) fun x106 => ldI .i64 w86 (t5.add 5) fun x107 => ldI .i64 w86 (t5.add 6) fun x108 => ldI .i64 w86 (t5.add 7) fun x109 => ldI .i64 w86 (t5.add 8) fun x110 => ldI .u64 w86 (t5.add 9) fun x111 => ldSl w86 (t5.add 10) fun x112p x112n x112c => ldI .u64 w86 (t5.add 11) fun x113 => ldI .i64 w86 (t5.add 12) fun x114 => ldI .u64 w86 (t5.add 13) fun x115 => ldI .i64 w86 (t5.add 14) fun x116 => ldI .u64 w86 (t5.add 15) fun x117 => ldI .i64 w86 (t5.add 16) fun x118 => ldI .u64 w86 (t5.add 17) fun x119 => ldSl w86 (t5.add 18) fun x120p x120n x120c => Q (.tuple #[.agg #[.int .i64 x87, .int .u64 x88, .int .i64 x89, .int .i64 x90, .int .i64 x91, .int .u64 x92, .slice x93p x93n x93c, .int .u64 x94, .int .i64 x95, .int .i64 x96, .slice x97p x97n x97c, .int .u64 x98, .int .u64 x99, .int .u64 x100, .int .u64 x101], .agg #[.int .i64 x102, .int .i64 x103, .int .i64 x104, .int .u64 x105, .int .u64 x106, .int .i64 x107, .int .i64 x108, .int .i64 x109, .int .i64 x110, .int .u64 x111, .slice x112p x112n x112c, .int .u64 x113, .int .i64 x114, .int .u64 x115, .int .i64 x116, .int .u64 x117, .int .i64 x118, .int .u64 x119, .slice x120p x120n x120c], .bool true]) w86
def X15.f (a0 : Option Addr) (a1 : Int) (w : World) (Q : Value → World → Prop) : Prop := newK w #[.int .i64 (0 : Int), .int .u64 (0 : Int), .int .i64 (0 : Int), .int .i64 (0 : Int), .int .i64 (0 : Int), .int .u64 (0 : Int), .slice none 0 0, .int .u64 (0 : Int), .int .i64 (0 : Int), .int .i64 (0 : Int), .slice none 0 0, .int .u64 (0 : Int), .int .u64 (0 : Int), .int .u64 (0 : Int), .int .u64 (0 : Int)] 44 fun g1 w2 => newK w2 #[.int .i64 (0 : Int), .int .i64 (0 : Int), .int .i64 (0 : Int), .int .u64 (0 : Int), .int .u64 (0 : Int), .int .i64 (0 : Int), .int .i64 (0 : Int), .int .i64 (0 : Int), .int .i64 (0 : Int), .int .u64 (0 : Int), .slice none 0 0, .int .u64 (0 : Int), .int .i64 (0 : Int), .int .u64 (0 : Int), .int .i64 (0 : Int), .int .u64 (0 : Int), .int .i64 (0 : Int), .int .u64 (0 : Int), .slice none 0 0] 47 fun g3 w4 => drewK w4 fun w5 => optP a0 fun p6 => ldP w5 (p6.add 25) fun x7 => optP a0 fun p8 => ldI .u64 w5 (p8.add 26) fun x9 => CallR Try.prog 34 #[.pointer x7, .int .u64 x9] w5 fun v10 w11 => ∃ (y12 : Int) (y13 : Bool), v10 = .tuple #[.int .u64 y12, .bool y13] ∧ bcase (!y13) (stAll w11 g1 [.int .i64 (0 : Int), .int .u64 (0 : Int), .int .i64 (0 : Int), .int .i64 (0 : Int), .int .i64 (0 : Int), .int .u64 (0 : Int), .slice none 0 0, .int .u64 (0 : Int), .int .i64 (0 : Int), .int .i64 (0 : Int), .slice none 0 0, .int .u64 (0 : Int), .int .u64 (0 : Int), .int .u64 (0 : Int), .int .u64 (0 : Int)] fun w14 => stAll w14 g3 [.int .i64 (0 : Int), .int .i64 (0 : Int), .int .i64 (0 : Int), .int .u64 (0 : Int), .int .u64 (0 : Int), .int .i64 (0 : Int), .int .i64 (0 : Int), .int .i64 (0 : Int), .int .i64 (0 : Int), .int .u64 (0 : Int), .slice none 0 0, .int .u64 (0 : Int), .int .i64 (0 : Int), .int .u64 (0 : Int), .int .i64 (0 : Int), .int .u64 (0 : Int), .int .i64 (0 : Int), .int .u64 (0 : Int), .slice none 0 0] fun w15 => ldI .i64 w15 (g1.add 0) fun x16 => ldI .u64 w15 (g1.add 1) fun x17 => ldI .i64 w15 (g1.add 2) fun x18 => ldI .i64 w15 (g1.add 3) fun x19 => ldI .i64 w15 (g1.add 4) fun x20 => ldI .u64 w15 (g1.add 5) fun x21 => ldSl w15 (g1.add 6) fun x22p x22n x22c => ldI .u64 w15 (g1.add 7) fun x23 => ldI .i64 w15 (g1.add 8) fun x24 => ldI .i64 w15 (g1.add 9) fun x25 => ldSl w15 (g1.add 10) fun x26p x26n x26c => ldI .u64 w15 (g1.add 11) fun x27 => ldI .u64 w15 (g1.add 12) fun x28 => ldI .u64 w15 (g1.add 13) fun x29 => ldI .u64 w15 (g1.add 14) fun x30 => ldI .i64 w15 (g3.add 0) fun x31 => ldI .i64 w15 (g3.add 1) fun x32 => ldI .i64 w15 (g3.add 2) fun x33 => ldI .u64 w15 (g3.add 3) fun x34 => ldI .u64 w15 (g3.add 4) fun x35 => ldI .i64 w15 (g3.add 5) fun x36 => ldI .i64 w15 (g3.add 6) fun x37 => ldI .i64 w15 (g3.add 7) fun x38 => ldI .i64 w15 (g3.add 8) fun x39 => ldI .u64 w15 (g3.add 9) fun x40 => ldSl w15 (g3.add 10) fun x41p x41n x41c => ldI .u64 w15 (g3.add 11) fun x42 => ldI .i64 w15 (g3.add 12) fun x43 => ldI .u64 w15 (g3.add 13) fun x44 => ldI .i64 w15 (g3.add 14) fun x45 => ldI .u64 w15 (g3.add 15) fun x46 => ldI .i64 w15 (g3.add 16) fun x47 => ldI .u64 w15 (g3.add 17) fun x48 => ldSl w15 (g3.add 18) fun x49p x49n x49c => Q (.tuple #[.agg #[.int .i64 x16, .int .u64 x17, .int .i64 x18, .int .i64 x19, .int .i64 x20, .int .u64 x21, .slice x22p x22n x22c, .int .u64 x23, .int .i64 x24, .int .i64 x25, .slice x26p x26n x26c, .int .u64 x27, .int .u64 x28, .int .u64 x29, .int .u64 x30], .agg #[.int .i64 x31, .int .i64 x32, .int .i64 x33, .int .u64 x34, .int .u64 x35, .int .i64 x36, .int .i64 x37, .int .i64 x38, .int .i64 x39, .int .u64 x40, .slice x41p x41n x41c, .int .u64 x42, .int .i64 x43, .int .u64 x44, .int .i64 x45, .int .u64 x46, .int .i64 x47, .int .u64 x48, .slice x49p x49n x49c], .bool false]) w15) (optP a0 fun p50 => stK w11 (p50.add 26) (.int .u64 y12) fun w51 => optP a0 fun p52 => ldP w51 (p52.add 25) fun x53 => CallR Try.prog 35 #[.pointer x53, .int .u64 y12] w51 fun v54 w55 => ∃ (y56 : Int) (y57 : Int) (y58 : Int) (y59 : Int) (y60 : Int) (y61 : Int) (y62p : Option Addr) (y62n y62c : Nat) (y63 : Int) (y64 : Int) (y65 : Int) (y66p : Option Addr) (y66n y66c : Nat) (y67 : Int) (y68 : Int) (y69 : Int) (y70 : Int) (y71 : Bool), v54 = .tuple #[.agg #[.int .i64 y56, .int .u64 y57, .int .i64 y58, .int .i64 y59, .int .i64 y60, .int .u64 y61, .slice y62p y62n y62c, .int .u64 y63, .int .i64 y64, .int .i64 y65, .slice y66p y66n y66c, .int .u64 y67, .int .u64 y68, .int .u64 y69, .int .u64 y70], .bool y71] ∧ newK w55 #[.int .i64 (0 : Int), .int .u64 (0 : Int), .int .i64 (0 : Int), .int .i64 (0 : Int), .int .i64 (0 : Int), .int .u64 (0 : Int), .slice none 0 0, .int .u64 (0 : Int), .int .i64 (0 : Int), .int .i64 (0 : Int), .slice none 0 0, .int .u64 (0 : Int), .int .u64 (0 : Int), .int .u64 (0 : Int), .int .u64 (0 : Int)] 44 fun g72 w73 => stAll w73 g72 [.int .i64 y56, .int .u64 y57, .int .i64 y58, .int .i64 y59, .int .i64 y60, .int .u64 y61, .slice y62p y62n y62c, .int .u64 y63, .int .i64 y64, .int .i64 y65, .slice y66p y66n y66c, .int .u64 y67, .int .u64 y68, .int .u64 y69, .int .u64 y70] fun w74 => ldI .i64 w74 (g72.add 0) fun x75 => ldI .u64 w74 (g72.add 1) fun x76 => ldI .i64 w74 (g72.add 2) fun x77 => ldI .i64 w74 (g72.add 3) fun x78 => ldI .i64 w74 (g72.add 4) fun x79 => ldI .u64 w74 (g72.add 5) fun x80 => ldSl w74 (g72.add 6) fun x81p x81n x81c => ldI .u64 w74 (g72.add 7) fun x82 => ldI .i64 w74 (g72.add 8) fun x83 => ldI .i64 w74 (g72.add 9) fun x84 => ldSl w74 (g72.add 10) fun x85p x85n x85c => ldI .u64 w74 (g72.add 11) fun x86 => ldI .u64 w74 (g72.add 12) fun x87 => ldI .u64 w74 (g72.add 13) fun x88 => ldI .u64 w74 (g72.add 14) fun x89 => CallR Try.prog 29 #[.agg #[.int .i64 x75, .int .u64 x76, .int .i64 x77, .int .i64 x78, .int .i64 x79, .int .u64 x80, .slice x81p x81n x81c, .int .u64 x82, .int .i64 x83, .int .i64 x84, .slice x85p x85n x85c, .int .u64 x86, .int .u64 x87, .int .u64 x88, .int .u64 x89]] w74 fun v90 w91 => ∃ (y92 : Int) (y93 : Int) (y94 : Int) (y95 : Int) (y96 : Int) (y97 : Int) (y98p : Option Addr) (y98n y98c : Nat) (y99 : Int) (y100 : Int) (y101 : Int) (y102p : Option Addr) (y102n y102c : Nat) (y103 : Int) (y104 : Int) (y105 : Int) (y106 : Int), v90 = .agg #[.int .i64 y92, .int .u64 y93, .int .i64 y94, .int .i64 y95, .int .i64 y96, .int .u64 y97, .slice y98p y98n y98c, .int .u64 y99, .int .i64 y100, .int .i64 y101, .slice y102p y102n y102c, .int .u64 y103, .int .u64 y104, .int .u64 y105, .int .u64 y106] ∧ newK w91 #[.int .i64 (0 : Int), .int .u64 (0 : Int), .int .i64 (0 : Int), .int .i64 (0 : Int), .int .i64 (0 : Int), .int .u64 (0 : Int), .slice none 0 0, .int .u64 (0 : Int), .int .i64 (0 : Int), .int .i64 (0 : Int), .slice none 0 0, .int .u64 (0 : Int), .int .u64 (0 : Int), .int .u64 (0 : Int), .int .u64 (0 : Int)] 44 fun g107 w108 => stAll w108 g107 [.int .i64 y92, .int .u64 y93, .int .i64 y94, .int .i64 y95, .int .i64 y96, .int .u64 y97, .slice y98p y98n y98c, .int .u64 y99, .int .i64 y100, .int .i64 y101, .slice y102p y102n y102c, .int .u64 y103, .int .u64 y104, .int .u64 y105, .int .u64 y106] fun w109 => ldI .i64 w109 (g72.add 8) fun x110 => bcase (x110 != (1 : Int)) (ldI .i64 w109 (g72.add 8) fun x111 => bcase (x111 != (4 : Int)) (ldI .i64 w109 (g107.add 0) fun x112 => ldI .u64 w109 (g107.add 1) fun x113 => ldI .i64 w109 (g107.add 2) fun x114 => ldI .i64 w109 (g107.add 3) fun x115 => ldI .i64 w109 (g107.add 4) fun x116 => ldI .u64 w109 (g107.add 5) fun x117 => ldSl w109 (g107.add 6) fun x118p x118n x118c => ldI .u64 w109 (g107.add 7) fun x119 => ldI .i64 w109 (g107.add 8) fun x120 => ldI .i64 w109 (g107.add 9) fun x121 => ldSl w109 (g107.add 10) fun x122p x122n x122c => ldI .u64 w109 (g107.add 11) fun x123 => ldI .u64 w109 (g107.add 12) fun x124 => ldI .u64 w109 (g107.add 13) fun x125 => ldI .u64 w109 (g107.add 14) fun x126 => stAll w109 g1 [.int .i64 x112, .int .u64 x113, .int .i64 x114, .int .i64 x115, .int .i64 x116, .int .u64 x117, .slice x118p x118n x118c, .int .u64 x119, .int .i64 x120, .int .i64 x121, .slice x122p x122n x122c, .int .u64 x123, .int .u64 x124, .int .u64 x125, .int .u64 x126] fun w127 => stAll w127 g3 [.int .i64 (0 : Int), .int .i64 (0 : Int), .int .i64 (0 : Int), .int .u64 (0 : Int), .int .u64 (0 : Int), .int .i64 (0 : Int), .int .i64 (0 : Int), .int .i64 (0 : Int), .int .i64 (0 : Int), .int .u64 (0 : Int), .slice none 0 0, .int .u64 (0 : Int), .int .i64 (0 : Int), .int .u64 (0 : Int), .int .i64 (0 : Int), .int .u64 (0 : Int), .int .i64 (0 : Int), .int .u64 (0 : Int), .slice none 0 0] fun w128 => ldI .i64 w128 (g1.add 0) fun x129 => ldI .u64 w128 (g1.add 1) fun x130 => ldI .i64 w128 (g1.add 2) fun x131 => ldI .i64 w128 (g1.add 3) fun x132 => ldI .i64 w128 (g1.add 4) fun x133 => ldI .u64 w128 (g1.add 5) fun x134 => ldSl w128 (g1.add 6) fun x135p x135n x135c => ldI .u64 w128 (g1.add 7) fun x136 => ldI .i64 w128 (g1.add 8) fun x137 => ldI .i64 w128 (g1.add 9) fun x138 => ldSl w128 (g1.add 10) fun x139p x139n x139c => ldI .u64 w128 (g1.add 11) fun x140 => ldI .u64 w128 (g1.add 12) fun x141 => ldI .u64 w128 (g1.add 13) fun x142 => ldI .u64 w128 (g1.add 14) fun x143 => ldI .i64 w128 (g3.add 0) fun x144 => ldI .i64 w128 (g3.add 1) fun x145 => ldI .i64 w128 (g3.add 2) fun x146 => ldI .u64 w128 (g3.add 3) fun x147 => ldI .u64 w128 (g3.add 4) fun x148 => ldI .i64 w128 (g3.add 5) fun x149 => ldI .i64 w128 (g3.add 6) fun x150 => ldI .i64 w128 (g3.add 7) fun x151 => ldI .i64 w128 (g3.add 8) fun x152 => ldI .u64 w128 (g3.add 9) fun x153 => ldSl w128 (g3.add 10) fun x154p x154n x154c => ldI .u64 w128 (g3.add 11) fun x155 => ldI .i64 w128 (g3.add 12) fun x156 => ldI .u64 w128 (g3.add 13) fun x157 => ldI .i64 w128 (g3.add 14) fun x158 => ldI .u64 w128 (g3.add 15) fun x159 => ldI .i64 w128 (g3.add 16) fun x160 => ldI .u64 w128 (g3.add 17) fun x161 => ldSl w128 (g3.add 18) fun x162p x162n x162c => Q (.tuple #[.agg #[.int .i64 x129, .int .u64 x130, .int .i64 x131, .int .i64 x132, .int .i64 x133, .int .u64 x134, .slice x135p x135n x135c, .int .u64 x136, .int .i64 x137, .int .i64 x138, .slice x139p x139n x139c, .int .u64 x140, .int .u64 x141, .int .u64 x142, .int .u64 x143], .agg #[.int .i64 x144, .int .i64 x145, .int .i64 x146, .int .u64 x147, .int .u64 x148, .int .i64 x149, .int .i64 x150, .int .i64 x151, .int .i64 x152, .int .u64 x153, .slice x154p x154n x154c, .int .u64 x155, .int .i64 x156, .int .u64 x157, .int .i64 x158, .int .u64 x159, .int .i64 x160, .int .u64 x161, .slice x162p x162n x162c], .bool false]) w128) (ldI .u64 w109 (g72.add 12) fun x163 => ldI .u64 w109 (g72.add 13) fun x164 => CallR Try.prog 36 #[.int .u64 x163, .int .u64 x164, .int .u64 a1] w109 fun v165 w166 => ∃ (y167 : Bool), v165 = .bool y167 ∧ bcase (!y167) (ldI .i64 w166 (g107.add 0) fun x168 => ldI .u64 w166 (g107.add 1) fun x169 => ldI .i64 w166 (g107.add 2) fun x170 => ldI .i64 w166 (g107.add 3) fun x171 => ldI .i64 w166 (g107.add 4) fun x172 => ldI .u64 w166 (g107.add 5) fun x173 => ldSl w166 (g107.add 6) fun x174p x174n x174c => ldI .u64 w166 (g107.add 7) fun x175 => ldI .i64 w166 (g107.add 8) fun x176 => ldI .i64 w166 (g107.add 9) fun x177 => ldSl w166 (g107.add 10) fun x178p x178n x178c => ldI .u64 w166 (g107.add 11) fun x179 => ldI .u64 w166 (g107.add 12) fun x180 => ldI .u64 w166 (g107.add 13) fun x181 => ldI .u64 w166 (g107.add 14) fun x182 => stAll w166 g1 [.int .i64 x168, .int .u64 x169, .int .i64 x170, .int .i64 x171, .int .i64 x172, .int .u64 x173, .slice x174p x174n x174c, .int .u64 x175, .int .i64 x176, .int .i64 x177, .slice x178p x178n x178c, .int .u64 x179, .int .u64 x180, .int .u64 x181, .int .u64 x182] fun w183 => stAll w183 g3 [.int .i64 (0 : Int), .int .i64 (0 : Int), .int .i64 (0 : Int), .int .u64 (0 : Int), .int .u64 (0 : Int), .int .i64 (0 : Int), .int .i64 (0 : Int), .int .i64 (0 : Int), .int .i64 (0 : Int), .int .u64 (0 : Int), .slice none 0 0, .int .u64 (0 : Int), .int .i64 (0 : Int), .int .u64 (0 : Int), .int .i64 (0 : Int), .int .u64 (0 : Int), .int .i64 (0 : Int), .int .u64 (0 : Int), .slice none 0 0] fun w184 => ldI .i64 w184 (g1.add 0) fun x185 => ldI .u64 w184 (g1.add 1) fun x186 => ldI .i64 w184 (g1.add 2) fun x187 => ldI .i64 w184 (g1.add 3) fun x188 => ldI .i64 w184 (g1.add 4) fun x189 => ldI .u64 w184 (g1.add 5) fun x190 => ldSl w184 (g1.add 6) fun x191p x191n x191c => ldI .u64 w184 (g1.add 7) fun x192 => ldI .i64 w184 (g1.add 8) fun x193 => ldI .i64 w184 (g1.add 9) fun x194 => ldSl w184 (g1.add 10) fun x195p x195n x195c => ldI .u64 w184 (g1.add 11) fun x196 => ldI .u64 w184 (g1.add 12) fun x197 => ldI .u64 w184 (g1.add 13) fun x198 => ldI .u64 w184 (g1.add 14) fun x199 => ldI .i64 w184 (g3.add 0) fun x200 => ldI .i64 w184 (g3.add 1) fun x201 => ldI .i64 w184 (g3.add 2) fun x202 => ldI .u64 w184 (g3.add 3) fun x203 => ldI .u64 w184 (g3.add 4) fun x204 => ldI .i64 w184 (g3.add 5) fun x205 => ldI .i64 w184 (g3.add 6) fun x206 => ldI .i64 w184 (g3.add 7) fun x207 => ldI .i64 w184 (g3.add 8) fun x208 => ldI .u64 w184 (g3.add 9) fun x209 => ldSl w184 (g3.add 10) fun x210p x210n x210c => ldI .u64 w184 (g3.add 11) fun x211 => ldI .i64 w184 (g3.add 12) fun x212 => ldI .u64 w184 (g3.add 13) fun x213 => ldI .i64 w184 (g3.add 14) fun x214 => ldI .u64 w184 (g3.add 15) fun x215 => ldI .i64 w184 (g3.add 16) fun x216 => ldI .u64 w184 (g3.add 17) fun x217 => ldSl w184 (g3.add 18) fun x218p x218n x218c => Q (.tuple #[.agg #[.int .i64 x185, .int .u64 x186, .int .i64 x187, .int .i64 x188, .int .i64 x189, .int .u64 x190, .slice x191p x191n x191c, .int .u64 x192, .int .i64 x193, .int .i64 x194, .slice x195p x195n x195c, .int .u64 x196, .int .u64 x197, .int .u64 x198, .int .u64 x199], .agg #[.int .i64 x200, .int .i64 x201, .int .i64 x202, .int .u64 x203, .int .u64 x204, .int .i64 x205, .int .i64 x206, .int .i64 x207, .int .i64 x208, .int .u64 x209, .slice x210p x210n x210c, .int .u64 x211, .int .i64 x212, .int .u64 x213, .int .i64 x214, .int .u64 x215, .int .i64 x216, .int .u64 x217, .slice x218p x218n x218c], .bool false]) w184) (X15.j0 Q a0 a1 g1 g3 g72 g107 w166))) (ldI .u64 w109 (g72.add 12) fun x219 => ldI .u64 w109 (g72.add 13) fun x220 => CallR Try.prog 36 #[.int .u64 x219, .int .u64 x220, .int .u64 a1] w109 fun v221 w222 => ∃ (y223 : Bool), v221 = .bool y223 ∧ bcase (!y223) (ldI .i64 w222 (g107.add 0) fun x224 => ldI .u64 w222 (g107.add 1) fun x225 => ldI .i64 w222 (g107.add 2) fun x226 => ldI .i64 w222 (g107.add 3) fun x227 => ldI .i64 w222 (g107.add 4) fun x228 => ldI .u64 w222 (g107.add 5) fun x229 => ldSl w222 (g107.add 6) fun x230p x230n x230c => ldI .u64 w222 (g107.add 7) fun x231 => ldI .i64 w222 (g107.add 8) fun x232 => ldI .i64 w222 (g107.add 9) fun x233 => ldSl w222 (g107.add 10) fun x234p x234n x234c => ldI .u64 w222 (g107.add 11) fun x235 => ldI .u64 w222 (g107.add 12) fun x236 => ldI .u64 w222 (g107.add 13) fun x237 => ldI .u64 w222 (g107.add 14) fun x238 => stAll w222 g1 [.int .i64 x224, .int .u64 x225, .int .i64 x226, .int .i64 x227, .int .i64 x228, .int .u64 x229, .slice x230p x230n x230c, .int .u64 x231, .int .i64 x232, .int .i64 x233, .slice x234p x234n x234c, .int .u64 x235, .int .u64 x236, .int .u64 x237, .int .u64 x238] fun w239 => stAll w239 g3 [.int .i64 (0 : Int), .int .i64 (0 : Int), .int .i64 (0 : Int), .int .u64 (0 : Int), .int .u64 (0 : Int), .int .i64 (0 : Int), .int .i64 (0 : Int), .int .i64 (0 : Int), .int .i64 (0 : Int), .int .u64 (0 : Int), .slice none 0 0, .int .u64 (0 : Int), .int .i64 (0 : Int), .int .u64 (0 : Int), .int .i64 (0 : Int), .int .u64 (0 : Int), .int .i64 (0 : Int), .int .u64 (0 : Int), .slice none 0 0] fun w240 => ldI .i64 w240 (g1.add 0) fun x241 => ldI .u64 w240 (g1.add 1) fun x242 => ldI .i64 w240 (g1.add 2) fun x243 => ldI .i64 w240 (g1.add 3) fun x244 => ldI .i64 w240 (g1.add 4) fun x245 => ldI .u64 w240 (g1.add 5) fun x246 => ldSl w240 (g1.add 6) fun x247p x247n x247c => ldI .u64 w240 (g1.add 7) fun x248 => ldI .i64 w240 (g1.add 8) fun x249 => ldI .i64 w240 (g1.add 9) fun x250 => ldSl w240 (g1.add 10) fun x251p x251n x251c => ldI .u64 w240 (g1.add 11) fun x252 => ldI .u64 w240 (g1.add 12) fun x253 => ldI .u64 w240 (g1.add 13) fun x254 => ldI .u64 w240 (g1.add 14) fun x255 => ldI .i64 w240 (g3.add 0) fun x256 => ldI .i64 w240 (g3.add 1) fun x257 => ldI .i64 w240 (g3.add 2) fun x258 => ldI .u64 w240 (g3.add 3) fun x259 => ldI .u64 w240 (g3.add 4) fun x260 => ldI .i64 w240 (g3.add 5) fun x261 => ldI .i64 w240 (g3.add 6) fun x262 => ldI .i64 w240 (g3.add 7) fun x263 => ldI .i64 w240 (g3.add 8) fun x264 => ldI .u64 w240 (g3.add 9) fun x265 => ldSl w240 (g3.add 10) fun x266p x266n x266c => ldI .u64 w240 (g3.add 11) fun x267 => ldI .i64 w240 (g3.add 12) fun x268 => ldI .u64 w240 (g3.add 13) fun x269 => ldI .i64 w240 (g3.add 14) fun x270 => ldI .u64 w240 (g3.add 15) fun x271 => ldI .i64 w240 (g3.add 16) fun x272 => ldI .u64 w240 (g3.add 17) fun x273 => ldSl w240 (g3.add 18) fun x274p x274n x274c => Q (.tuple #[.agg #[.int .i64 x241, .int .u64 x242, .int .i64 x243, .int .i64 x244, .int .i64 x245, .int .u64 x246, .slice x247p x247n x247c, .int .u64 x248, .int .i64 x249, .int .i64 x250, .slice x251p x251n x251c, .int .u64 x252, .int .u64 x253, .int .u64 x254, .int .u64 x255], .agg #[.int .i64 x256, .int .i64 x257, .int .i64 x258, .int .u64 x259, .int .u64 x260, .int .i64 x261, .int .i64 x262, .int .i64 x263, .int .i64 x264, .int .u64 x265, .slice x266p x266n x266c, .int .u64 x267, .int .i64 x268, .int .u64 x269, .int .i64 x270, .int .u64 x271, .int .i64 x272, .int .u64 x273, .slice x274p x274n x274c], .bool false]) w240) (X15.j0 Q a0 a1 g1 g3 g72 g107 w222)))
def X15.S (Q : Value → World → Prop) : Segs
  | 0, φ, ρ, w => qP (ρ 0) fun t0 => qI .u64 (ρ 1) fun t1 => qA (ρ 4) fun t4 => qA (ρ 5) fun t5 => qA (ρ 9) fun t9 => qA (ρ 11) fun t11 => X15.j0 Q t0 t1 t4 t5 t9 t11 w
  | _, _, _, _ => False
noncomputable def X15.an : Ann := (.seq .leaf (.seq (.draw [0, 1, 3, 7, 0, 16, 48, 112, 255, 511, 1023, 1023, 2047, 8191] [[0, 1, 2, 3, 4, 5, 6, 7, 8, 9, 10, 11, 12, 13]]) (.seq (.seq .leaf (.cond (.seq .leaf .leaf) .leaf)) (.seq .leaf (.seq .leaf (.seq .leaf (.seq (.seq .leaf (.cond (.seq .leaf .leaf) .leaf)) (.join 0 (.seq .leaf (.seq (.draw [0, 1, 0, 4, 12, 28, 60, 0, 128, 384, 896, 1920, 4095, 8191, 16383] [[0, 1, 2, 3, 4, 5, 6, 7, 8, 9, 10, 11, 12, 13, 14]]) (.seq .leaf (.seq (.draw [0, 0, 0, 0, 0, 16, 56, 126, 255, 511, 1023] [[0, 1, 2, 3, 4, 5, 6, 7, 8, 9, 10]]) .leaf))))))))))))
noncomputable def X15.c : Code := Try.f15.body.getD .skip
theorem X15.v (Q : Value → World → Prop) : V Try.prog (X15.S Q) X15.an X15.c (retC Try.prog Try.f15 Q) := ⟨trivial, ⟨trivial, ⟨⟨trivial, ⟨⟨trivial, trivial⟩, trivial⟩⟩, ⟨trivial, ⟨trivial, ⟨trivial, ⟨⟨trivial, ⟨⟨trivial, trivial⟩, trivial⟩⟩, ⟨(by
    intro φ ρ w h
    simp only [X15.S] at h
    obtain ⟨t0, e0, h⟩ := qP_elim h
    obtain ⟨t1, e1, h⟩ := qI_elim h
    obtain ⟨t4, e4, h⟩ := qA_elim h
    obtain ⟨t5, e5, h⟩ := qA_elim h
    obtain ⟨t9, e9, h⟩ := qA_elim h
    obtain ⟨t11, e11, h⟩ := qA_elim h
    exact ⟨((((((Env.nil.put (some 0) (.pointer t0)).put (some 1) (.int .u64 t1)).put (some 4) (.pointer (some t4))).put (some 5) (.pointer (some t5))).put (some 9) (.pointer (some t9))).put (some 11) (.pointer (some t11))), Env.le_put e11 (Env.le_put e9 (Env.le_put e5 (Env.le_put e4 (Env.le_put e1 (Env.le_put e0 (Env.le_nil _)))))), Eq.mp (by kernel_rfl) h⟩), ⟨trivial, ⟨trivial, ⟨trivial, ⟨trivial, trivial⟩⟩⟩⟩⟩⟩⟩⟩⟩⟩⟩⟩
theorem X15.sound (a0 : Option Addr) (a1 : Int) (w : World) (Q : Value → World → Prop) (h : X15.f a0 a1 w Q) : CallR Try.prog 15 #[.pointer a0, .int .u64 a1] w Q :=
  fn_sound noGr mixed Try.func15 (c := X15.c) (an := X15.an) (S := X15.S Q) (φ := fun _ => 0) (args := [.pointer a0, .int .u64 a1]) (by kernel_rfl) (by kernel_rfl) (by kernel_rfl) (X15.v Q) (Eq.mp (by kernel_rfl) h)
/-! ### mooring/mooringref2.IDs: function 16 -/
def X16.l0 (Q : Value → World → Prop) : Nat → (Option Addr) → Nat → Nat → (Option Addr) → Nat → Nat → Int → World → Prop
  | 0, _, _, _, _, _, _, _, _ => False
  | k + 1, t0p, t0n, t0c, t1p, t1n, t1c, t5, w => bcase (decide (t5 < ((t0n : Nat) : Int))) (drewK w fun w1 => (0 ≤ t5 ∧ t5 < ((t0n : Nat) : Int)) ∧ optP t0p fun p2 => ldI .i64 w1 ((p2.add (Int.toNat t5 * 2)).add 0) fun x3 => ldI .u64 w1 ((p2.add (Int.toNat t5 * 2)).add 1) fun x4 => (0 ≤ t5 ∧ t5 < ((t1n : Nat) : Int)) ∧ optP t1p fun p5 => ldI .i64 w1 ((p5.add (Int.toNat t5 * 2)).add 0) fun x6 => ldI .u64 w1 ((p5.add (Int.toNat t5 * 2)).add 1) fun x7 => isStruct Try.prog 26 ∧ bcase (!((x3 == x6) && ((x4 == x7) && true))) (Q (.bool false) w1) (X16.l0 Q k t0p t0n t0c t1p t1n t1c (IntKind.wrap .i64 (t5 + (1 : Int))) w1)) (Q (.bool true) w)
def X16.f (a0p : Option Addr) (a0n : Nat) (a0c : Nat) (a1p : Option Addr) (a1n : Nat) (a1c : Nat) (w : World) (Q : Value → World → Prop) : Prop := bcase (((a0n : Nat) : Int) != ((a1n : Nat) : Int)) (Q (.bool false) w) (∃ m1, X16.l0 Q m1 a0p a0n a0c a1p a1n a1c (0 : Int) w)
def X16.S (Q : Value → World → Prop) : Segs
  | 0, φ, ρ, w => qSl (ρ 0) fun t0p t0n t0c => qSl (ρ 1) fun t1p t1n t1c => qI .i64 (ρ 5) fun t5 => X16.l0 Q (φ 0) t0p t0n t0c t1p t1n t1c t5 w
  | _, _, _, _ => False
noncomputable def X16.an : Ann := (.seq .leaf (.seq (.seq .leaf (.cond (.seq .leaf .leaf) .leaf)) (.seq (.seq .leaf (.block (.loop 0 (.seq (.seq .leaf (.cond .leaf .leaf)) (.seq (.block (.seq (.draw [0, 0, 3, 7, 0, 0, 48, 112, 255] [[0, 1, 2, 3, 4, 5, 6, 7, 8]]) (.cond (.seq .leaf .leaf) .leaf))) .leaf))))) (.seq .leaf .leaf))))
noncomputable def X16.c : Code := Try.f16.body.getD .skip
theorem X16.v (Q : Value → World → Prop) : V Try.prog (X16.S Q) X16.an X16.c (retC Try.prog Try.f16 Q) := ⟨trivial, ⟨⟨trivial, ⟨⟨trivial, trivial⟩, trivial⟩⟩, ⟨⟨trivial, ⟨(by
    intro φ ρ w h
    simp only [X16.S] at h
    obtain ⟨t0p, t0n, t0c, e0, h⟩ := qSl_elim h
    obtain ⟨t1p, t1n, t1c, e1, h⟩ := qSl_elim h
    obtain ⟨t5, e5, h⟩ := qI_elim h
    cases hk : φ 0 with
    | zero => rw [hk] at h; exact h.elim
    | succ k => rw [hk] at h; exact ⟨k, Nat.lt_succ_self k, (((Env.nil.put (some 0) (.slice t0p t0n t0c)).put (some 1) (.slice t1p t1n t1c)).put (some 5) (.int .i64 t5)), Env.le_put e5 (Env.le_put e1 (Env.le_put e0 (Env.le_nil _))), Eq.mp (by kernel_rfl) h⟩), ⟨⟨trivial, ⟨trivial, trivial⟩⟩, ⟨⟨trivial, ⟨⟨trivial, trivial⟩, trivial⟩⟩, trivial⟩⟩⟩⟩, ⟨trivial, trivial⟩⟩⟩⟩
theorem X16.sound (a0p : Option Addr) (a0n : Nat) (a0c : Nat) (a1p : Option Addr) (a1n : Nat) (a1c : Nat) (w : World) (Q : Value → World → Prop) (h : X16.f a0p a0n a0c a1p a1n a1c w Q) : CallR Try.prog 16 #[.slice a0p a0n a0c, .slice a1p a1n a1c] w Q :=
  fn_sound noGr mixed Try.func16 (c := X16.c) (an := X16.an) (S := X16.S Q) (φ := fun _ => 0) (args := [.slice a0p a0n a0c, .slice a1p a1n a1c]) (by kernel_rfl) (by kernel_rfl) (by kernel_rfl) (X16.v Q) (Eq.mp (by kernel_rfl) h)
/-! ### (*mooring/caller.Table).Reply: function 17 -/
def X17.j0 (Q : Value → World → Prop) (t0 : Option Addr) (t3 : Addr) (w : World) : Prop := ldI .i64 w (t3.add 1) fun x1 => ldI .u64 w (t3.add 3) fun x2 => CallR Try.prog 39 #[.pointer t0, .int .i64 x1, .int .u64 x2] w fun v3 w4 => ∃ (y5 : Int) (y6 : Int) (y7 : Int) (y8 : Int) (y9 : Int) (y10 : Int) (y11p : Option Addr) (y11n y11c : Nat) (y12 : Int) (y13 : Int) (y14 : Int) (y15p : Option Addr) (y15n y15c : Nat) (y16 : Int) (y17 : Int) (y18 : Int) (y19 : Int) (y20 : Bool), v3 = .tuple #[.agg #[.int .i64 y5, .int .u64 y6, .int .i64 y7, .int .i64 y8, .int .i64 y9, .int .u64 y10, .slice y11p y11n y11c, .int .u64 y12, .int .i64 y13, .int .i64 y14, .slice y15p y15n y15c, .int .u64 y16, .int .u64 y17, .int .u64 y18, .int .u64 y19], .bool y20] ∧ newK w4 #[.int .i64 (0 : Int), .int .u64 (0 : Int), .int .i64 (0 : Int), .int .i64 (0 : Int), .int .i64 (0 : Int), .int .u64 (0 : Int), .slice none 0 0, .int .u64 (0 : Int), .int .i64 (0 : Int), .int .i64 (0 : Int), .slice none 0 0, .int .u64 (0 : Int), .int .u64 (0 : Int), .int .u64 (0 : Int), .int .u64 (0 : Int)] 44 fun g21 w22 => stAll w22 g21 [.int .i64 y5, .int .u64 y6, .int .i64 y7, .int .i64 y8, .int .i64 y9, .int .u64 y10, .slice y11p y11n y11c, .int .u64 y12, .int .i64 y13, .int .i64 y14, .slice y15p y15n y15c, .int .u64 y16, .int .u64 y17, .int .u64 y18, .int .u64 y19] fun w23 => bcase (!y20) (drewK w23 fun w24 => ldI .u64 w24 (t3.add 3) fun x25 => optP t0 fun p26 => ldI .u64 w24 (p26.add 23) fun x27 => bcase (decide (x25 > x27)) (ldI .u64 w24 (t3.add 3) fun x28 => optP t0 fun p29 => ldSl w24 (p29.add 24) fun x30p x30n x30c => ldI .i64 w24 (t3.add 1) fun x31 => (0 ≤ x31 ∧ x31 < ((x30n : Nat) : Int)) ∧ optP x30p fun p32 => ldI .u64 w24 (p32.add (Int.toNat x31 * 1)) fun x33 => Q (.tuple #[.slice none 0 0, .bool (decide (x28 ≤ x33))]) w24) (Q (.tuple #[.slice none 0 0, .bool false]) w24)) (ldI .i64 w23 (g21.add 8) fun x34 => bcase (x34 == (1 : Int)) (drewK w23 fun w35 => ldI .i64 w35 (t3.add 12) fun x36 => ldI .u64 w35 (t3.add 11) fun x37 => stK w35 (g21.add 8) (.int .i64 (2 : Int)) fun w38 => (World.cell? w35 (t3.add 11) = some (.int .u64 x37) ∧ World.cell? w38 (t3.add 11) = some (.int .u64 x37)) ∧ (World.cell? w35 (t3.add 12) = some (.int .i64 x36) ∧ World.cell? w38 (t3.add 12) = some (.int .i64 x36)) ∧ stK w38 (g21.add 9) (.int .i64 x36) fun w39 => (World.cell? w38 (t3.add 11) = some (.int .u64 x37) ∧ World.cell? w39 (t3.add 11) = some (.int .u64 x37)) ∧ stK w39 (g21.add 11) (.int .u64 x37) fun w40 => newK w40 #[] 26 fun g41 w42 => ldSl w42 (t3.add 10) fun x43p x43n x43c => RunR Try.prog (Builtin.append_ #[27, 27] 27 #[.slice (some g41) 0 0, .slice x43p x43n x43c]) w42 fun v44 w45 => ∃ (s46p : Option Addr) (s46n s46c : Nat), v44 = .slice s46p s46n s46c ∧ stK w45 (g21.add 10) (.slice s46p s46n s46c) fun w47 => ldI .i64 w47 (g21.add 0) fun x48 => ldI .u64 w47 (g21.add 1) fun x49 => ldI .i64 w47 (g21.add 2) fun x50 => ldI .i64 w47 (g21.add 3) fun x51 => ldI .i64 w47 (g21.add 4) fun x52 => ldI .u64 w47 (g21.add 5) fun x53 => ldSl w47 (g21.add 6) fun x54p x54n x54c => ldI .u64 w47 (g21.add 7) fun x55 => ldI .i64 w47 (g21.add 8) fun x56 => ldI .i64 w47 (g21.add 9) fun x57 => ldSl w47 (g21.add 10) fun x58p x58n x58c => ldI .u64 w47 (g21.add 11) fun x59 => ldI .u64 w47 (g21.add 12) fun x60 => ldI .u64 w47 (g21.add 13) fun x61 => ldI .u64 w47 (g21.add 14) fun x62 => CallR Try.prog 33 #[.pointer t0, .agg #[.int .i64 x48, .int .u64 x49, .int .i64 x50, .int .i64 x51, .int .i64 x52, .int .u64 x53, .slice x54p x54n x54c, .int .u64 x55, .int .i64 x56, .int .i64 x57, .slice x58p x58n x58c, .int .u64 x59, .int .u64 x60, .int .u64 x61, .int .u64 x62]] w47 fun v63 w64 => v63 = .tuple #[] ∧ newK w64 #[] 26 fun g65 w66 => ldSl w66 (t3.add 10) fun x67p x67n x67c => RunR Try.prog (Builtin.append_ #[27, 27] 27 #[.slice (some g65) 0 0, .slice x67p x67n x67c]) w66 fun v68 w69 => ∃ (s70p : Option Addr) (s70n s70c : Nat), v68 = .slice s70p s70n s70c ∧ Q (.tuple #[.slice s70p s70n s70c, .bool false]) w69) (bcase (x34 == (4 : Int)) (drewK w23 fun w71 => optP t0 fun p72 => ldP w71 (p72.add 25) fun x73 => ldI .i64 w71 (g21.add 0) fun x74 => ldI .u64 w71 (g21.add 1) fun x75 => CallR Try.prog 41 #[.int .i64 x74, .int .u64 x75] w71 fun v76 w77 => ∃ (y78 : Int), v76 = .int .u64 y78 ∧ (World.cell? w71 (p72.add 25) = some (.pointer x73) ∧ World.cell? w77 (p72.add 25) = some (.pointer x73)) ∧ CallR Try.prog 40 #[.pointer x73, .int .u64 y78] w77 fun v79 w80 => ∃ (y81 : Bool), v79 = .bool y81 ∧ Q (.tuple #[.slice none 0 0, .bool true]) w80) (bcase (x34 == (3 : Int)) (Q (.tuple #[.slice none 0 0, .bool true]) w23) (Q (.tuple #[.slice none 0 0, .bool false]) w23))))
def X17.f (a0 : Option Addr) (a1_0 : Int) (a1_1 : Int) (a1_2 : Int) (a1_3 : Int) (a1_4 : Int) (a1_5 : Int) (a1_6 : Int) (a1_7 : Int) (a1_8 : Int) (a1_9 : Int) (a1_10p : Option Addr) (a1_10n : Nat) (a1_10c : Nat) (a1_11 : Int) (a1_12 : Int) (a1_13 : Int) (a1_14 : Int) (a1_15 : Int) (a1_16 : Int) (a1_17 : Int) (a1_18p : Option Addr) (a1_18n : Nat) (a1_18c : Nat) (w : World) (Q : Value → World → Prop) : Prop := newK w #[.int .i64 a1_0, .int .i64 a1_1, .int .i64 a1_2, .int .u64 a1_3, .int .u64 a1_4, .int .i64 a1_5, .int .i64 a1_6, .int .i64 a1_7, .int .i64 a1_8, .int .u64 a1_9, .slice a1_10p a1_10n a1_10c, .int .u64 a1_11, .int .i64 a1_12, .int .u64 a1_13, .int .i64 a1_14, .int .u64 a1_15, .int .i64 a1_16, .int .u64 a1_17, .slice a1_18p a1_18n a1_18c] 47 fun g1 w2 => drewK w2 fun w3 => ldI .i64 w3 (g1.add 0) fun x4 => bcase (x4 != (2 : Int)) (Q (.tuple #[.slice none 0 0, .bool false]) w3) (ldI .i64 w3 (g1.add 2) fun x5 => optP a0 fun p6 => ldI .i64 w3 (p6.add 22) fun x7 => bcase (x5 != x7) (Q (.tuple #[.slice none 0 0, .bool false]) w3) (ldI .i64 w3 (g1.add 1) fun x8 => CallR Try.prog 38 #[.pointer a0, .int .i64 x8] w3 fun v9 w10 => ∃ (y11 : Bool), v9 = .bool y11 ∧ bcase (!y11) (Q (.tuple #[.slice none 0 0, .bool false]) w10) (X17.j0 Q a0 g1 w10)))
def X17.S (Q : Value → World → Prop) : Segs
  | 0, φ, ρ, w => qP (ρ 0) fun t0 => qA (ρ 3) fun t3 => X17.j0 Q t0 t3 w
  | _, _, _, _ => False
noncomputable def X17.an : Ann := (.seq .leaf (.seq (.seq (.draw [0, 1, 3, 7, 15, 31, 15, 79, 207, 463, 1023, 2047, 4095, 8191, 8191, 24575, 65535, 131071, 262143] [[0, 1, 2, 3, 4, 5, 6, 7, 8, 9, 10, 11, 12, 13, 14, 15, 16, 17, 18]]) (.cond (.seq .leaf .leaf) .leaf)) (.join 0 (.seq .leaf (.seq (.seq .leaf (.cond (.seq (.draw [0, 1, 0, 4, 12, 28, 63, 127, 255, 511, 255, 1279, 3327, 7423, 255, 16639, 64767, 130303, 262143, 524287, 255, 2097151] [[0, 1, 2, 3, 4, 5, 6, 7, 8, 9, 10, 11, 12, 13, 14, 15, 16, 17, 18, 19, 20, 21]]) .leaf) .leaf)) (.seq (.seq .leaf (.block (.seq (.block (.seq (.block (.seq (.block (.seq (.seq (.seq .leaf (.cond .leaf .leaf)) (.seq (.seq .leaf (.cond .leaf .leaf)) (.seq .leaf (.cond .leaf .leaf)))) .leaf)) (.seq (.seq (.draw [0, 1, 0, 4, 0, 16, 51, 115, 255, 511] [[0, 1, 2, 3, 4, 5, 6, 7, 8, 9]]) (.seq .leaf (.seq .leaf (.seq .leaf .leaf)))) .leaf))) (.draw [0, 1, 3, 7, 0, 16, 0, 64, 240, 511] [[0, 1, 2, 3, 4, 5, 6, 7, 8, 9]]))) (.seq (.seq .leaf .leaf) .leaf)))) (.seq .leaf .leaf)))))))
noncomputable def X17.c : Code := Try.f17.body.getD .skip
theorem X17.v (Q : Value → World → Prop) : V Try.prog (X17.S Q) X17.an X17.c (retC Try.prog Try.f17 Q) := ⟨trivial, ⟨⟨trivial, ⟨⟨trivial, trivial⟩, trivial⟩⟩, ⟨(by
    intro φ ρ w h
    simp only [X17.S] at h
    obtain ⟨t0, e0, h⟩ := qP_elim h
    obtain ⟨t3, e3, h⟩ := qA_elim h
    exact ⟨((Env.nil.put (some 0) (.pointer t0)).put (some 3) (.pointer (some t3))), Env.le_put e3 (Env.le_put e0 (Env.le_nil _)), Eq.mp (by kernel_rfl) h⟩), ⟨trivial, ⟨⟨trivial, ⟨⟨trivial, trivial⟩, trivial⟩⟩, ⟨⟨trivial, ⟨⟨⟨⟨⟨⟨trivial, ⟨trivial, trivial⟩⟩, ⟨⟨trivial, ⟨trivial, trivial⟩⟩, ⟨trivial, ⟨trivial, trivial⟩⟩⟩⟩, trivial⟩, ⟨⟨trivial, ⟨trivial, ⟨trivial, ⟨trivial, trivial⟩⟩⟩⟩, trivial⟩⟩, trivial⟩, ⟨⟨trivial, trivial⟩, trivial⟩⟩⟩, ⟨trivial, trivial⟩⟩⟩⟩⟩⟩⟩
theorem X17.sound (a0 : Option Addr) (a1_0 : Int) (a1_1 : Int) (a1_2 : Int) (a1_3 : Int) (a1_4 : Int) (a1_5 : Int) (a1_6 : Int) (a1_7 : Int) (a1_8 : Int) (a1_9 : Int) (a1_10p : Option Addr) (a1_10n : Nat) (a1_10c : Nat) (a1_11 : Int) (a1_12 : Int) (a1_13 : Int) (a1_14 : Int) (a1_15 : Int) (a1_16 : Int) (a1_17 : Int) (a1_18p : Option Addr) (a1_18n : Nat) (a1_18c : Nat) (w : World) (Q : Value → World → Prop) (h : X17.f a0 a1_0 a1_1 a1_2 a1_3 a1_4 a1_5 a1_6 a1_7 a1_8 a1_9 a1_10p a1_10n a1_10c a1_11 a1_12 a1_13 a1_14 a1_15 a1_16 a1_17 a1_18p a1_18n a1_18c w Q) : CallR Try.prog 17 #[.pointer a0, .agg #[.int .i64 a1_0, .int .i64 a1_1, .int .i64 a1_2, .int .u64 a1_3, .int .u64 a1_4, .int .i64 a1_5, .int .i64 a1_6, .int .i64 a1_7, .int .i64 a1_8, .int .u64 a1_9, .slice a1_10p a1_10n a1_10c, .int .u64 a1_11, .int .i64 a1_12, .int .u64 a1_13, .int .i64 a1_14, .int .u64 a1_15, .int .i64 a1_16, .int .u64 a1_17, .slice a1_18p a1_18n a1_18c]] w Q :=
  fn_sound noGr mixed Try.func17 (c := X17.c) (an := X17.an) (S := X17.S Q) (φ := fun _ => 0) (args := [.pointer a0, .agg #[.int .i64 a1_0, .int .i64 a1_1, .int .i64 a1_2, .int .u64 a1_3, .int .u64 a1_4, .int .i64 a1_5, .int .i64 a1_6, .int .i64 a1_7, .int .i64 a1_8, .int .u64 a1_9, .slice a1_10p a1_10n a1_10c, .int .u64 a1_11, .int .i64 a1_12, .int .u64 a1_13, .int .i64 a1_14, .int .u64 a1_15, .int .i64 a1_16, .int .u64 a1_17, .slice a1_18p a1_18n a1_18c]]) (by kernel_rfl) (by kernel_rfl) (by kernel_rfl) (X17.v Q) (Eq.mp (by kernel_rfl) h)
/-! ### (*mooring/caller.Table).Floor: function 20 -/
def X20.f (a0 : Option Addr) (a1 : Int) (w : World) (Q : Value → World → Prop) : Prop := CallR Try.prog 38 #[.pointer a0, .int .i64 a1] w fun v1 w2 => ∃ (y3 : Bool), v1 = .bool y3 ∧ bcase (!y3) (Q (.int .u64 (0 : Int)) w2) (drewK w2 fun w4 => optP a0 fun p5 => ldP w4 (p5.add 25) fun x6 => CallR Try.prog 41 #[.int .i64 a1, .int .u64 (0 : Int)] w4 fun v7 w8 => ∃ (y9 : Int), v7 = .int .u64 y9 ∧ (World.cell? w4 (p5.add 25) = some (.pointer x6) ∧ World.cell? w8 (p5.add 25) = some (.pointer x6)) ∧ CallR Try.prog 48 #[.pointer x6, .int .u64 y9] w8 fun v10 w11 => ∃ (y12 : Int) (y13 : Bool), v10 = .tuple #[.int .u64 y12, .bool y13] ∧ bcase (!y13) (optP a0 fun p14 => ldSl w11 (p14.add 24) fun x15p x15n x15c => (0 ≤ a1 ∧ a1 < ((x15n : Nat) : Int)) ∧ optP x15p fun p16 => ldI .u64 w11 (p16.add (Int.toNat a1 * 1)) fun x17 => Q (.int .u64 (IntKind.wrap .u64 (x17 + (1 : Int)))) w11) (0 ≤ (56 : Int) ∧ bcase ((IntKind.wrap .i64 (iShr .u64 y12 (56 : Int))) != a1) (optP a0 fun p18 => ldSl w11 (p18.add 24) fun x19p x19n x19c => (0 ≤ a1 ∧ a1 < ((x19n : Nat) : Int)) ∧ optP x19p fun p20 => ldI .u64 w11 (p20.add (Int.toNat a1 * 1)) fun x21 => Q (.int .u64 (IntKind.wrap .u64 (x21 + (1 : Int)))) w11) (Q (.int .u64 (iAnd .u64 y12 (72057594037927935 : Int))) w11)))
def X20.S (Q : Value → World → Prop) : Segs
  | _, _, _, _ => False
noncomputable def X20.an : Ann := (.seq .leaf (.seq (.seq .leaf (.cond (.seq .leaf .leaf) .leaf)) (.seq (.draw [0, 1, 3, 7, 0, 16, 63, 127, 255, 255, 511, 2047] [[0, 1, 2, 3, 4, 5, 6, 7, 8, 9, 10, 11]]) (.seq (.seq .leaf (.cond (.seq .leaf .leaf) .leaf)) (.seq .leaf .leaf)))))
noncomputable def X20.c : Code := Try.f20.body.getD .skip
theorem X20.v (Q : Value → World → Prop) : V Try.prog (X20.S Q) X20.an X20.c (retC Try.prog Try.f20 Q) := ⟨trivial, ⟨⟨trivial, ⟨⟨trivial, trivial⟩, trivial⟩⟩, ⟨trivial, ⟨⟨trivial, ⟨⟨trivial, trivial⟩, trivial⟩⟩, ⟨trivial, trivial⟩⟩⟩⟩⟩
theorem X20.sound (a0 : Option Addr) (a1 : Int) (w : World) (Q : Value → World → Prop) (h : X20.f a0 a1 w Q) : CallR Try.prog 20 #[.pointer a0, .int .i64 a1] w Q :=
  fn_sound noGr mixed Try.func20 (c := X20.c) (an := X20.an) (S := X20.S Q) (φ := fun _ => 0) (args := [.pointer a0, .int .i64 a1]) (by kernel_rfl) (by kernel_rfl) (by kernel_rfl) (X20.v Q) (Eq.mp (by kernel_rfl) h)
/-! ### (*mooring/caller.Table).All: function 22 -/
def X22.l0 (Q : Value → World → Prop) : Nat → (Option Addr) → (Option Addr) → Nat → Nat → (Option Addr) → Nat → Nat → Int → Int → World → Prop
  | 0, _, _, _, _, _, _, _, _, _, _ => False
  | k + 1, t0, t3p, t3n, t3c, t12p, t12n, t12c, t13, t14, w => bcase (decide (t14 < t13)) ((0 ≤ t14 ∧ t14 < ((t12n : Nat) : Int)) ∧ optP t12p fun p1 => ldI .u64 w (p1.add (Int.toNat t14 * 1)) fun x2 => optP t0 fun p3 => ldP w (p3.add 25) fun x4 => CallR Try.prog 35 #[.pointer x4, .int .u64 x2] w fun v5 w6 => ∃ (y7 : Int) (y8 : Int) (y9 : Int) (y10 : Int) (y11 : Int) (y12 : Int) (y13p : Option Addr) (y13n y13c : Nat) (y14 : Int) (y15 : Int) (y16 : Int) (y17p : Option Addr) (y17n y17c : Nat) (y18 : Int) (y19 : Int) (y20 : Int) (y21 : Int) (y22 : Bool), v5 = .tuple #[.agg #[.int .i64 y7, .int .u64 y8, .int .i64 y9, .int .i64 y10, .int .i64 y11, .int .u64 y12, .slice y13p y13n y13c, .int .u64 y14, .int .i64 y15, .int .i64 y16, .slice y17p y17n y17c, .int .u64 y18, .int .u64 y19, .int .u64 y20, .int .u64 y21], .bool y22] ∧ newK w6 #[.int .i64 (0 : Int), .int .u64 (0 : Int), .int .i64 (0 : Int), .int .i64 (0 : Int), .int .i64 (0 : Int), .int .u64 (0 : Int), .slice none 0 0, .int .u64 (0 : Int), .int .i64 (0 : Int), .int .i64 (0 : Int), .slice none 0 0, .int .u64 (0 : Int), .int .u64 (0 : Int), .int .u64 (0 : Int), .int .u64 (0 : Int)] 44 fun g23 w24 => stAll w24 g23 [.int .i64 y7, .int .u64 y8, .int .i64 y9, .int .i64 y10, .int .i64 y11, .int .u64 y12, .slice y13p y13n y13c, .int .u64 y14, .int .i64 y15, .int .i64 y16, .slice y17p y17n y17c, .int .u64 y18, .int .u64 y19, .int .u64 y20, .int .u64 y21] fun w25 => ldI .i64 w25 (g23.add 0) fun x26 => ldI .u64 w25 (g23.add 1) fun x27 => ldI .i64 w25 (g23.add 2) fun x28 => ldI .i64 w25 (g23.add 3) fun x29 => ldI .i64 w25 (g23.add 4) fun x30 => ldI .u64 w25 (g23.add 5) fun x31 => ldSl w25 (g23.add 6) fun x32p x32n x32c => ldI .u64 w25 (g23.add 7) fun x33 => ldI .i64 w25 (g23.add 8) fun x34 => ldI .i64 w25 (g23.add 9) fun x35 => ldSl w25 (g23.add 10) fun x36p x36n x36c => ldI .u64 w25 (g23.add 11) fun x37 => ldI .u64 w25 (g23.add 12) fun x38 => ldI .u64 w25 (g23.add 13) fun x39 => ldI .u64 w25 (g23.add 14) fun x40 => CallR Try.prog 29 #[.agg #[.int .i64 x26, .int .u64 x27, .int .i64 x28, .int .i64 x29, .int .i64 x30, .int .u64 x31, .slice x32p x32n x32c, .int .u64 x33, .int .i64 x34, .int .i64 x35, .slice x36p x36n x36c, .int .u64 x37, .int .u64 x38, .int .u64 x39, .int .u64 x40]] w25 fun v41 w42 => ∃ (y43 : Int) (y44 : Int) (y45 : Int) (y46 : Int) (y47 : Int) (y48 : Int) (y49p : Option Addr) (y49n y49c : Nat) (y50 : Int) (y51 : Int) (y52 : Int) (y53p : Option Addr) (y53n y53c : Nat) (y54 : Int) (y55 : Int) (y56 : Int) (y57 : Int), v41 = .agg #[.int .i64 y43, .int .u64 y44, .int .i64 y45, .int .i64 y46, .int .i64 y47, .int .u64 y48, .slice y49p y49n y49c, .int .u64 y50, .int .i64 y51, .int .i64 y52, .slice y53p y53n y53c, .int .u64 y54, .int .u64 y55, .int .u64 y56, .int .u64 y57] ∧ newK w42 #[.int .i64 y43, .int .u64 y44, .int .i64 y45, .int .i64 y46, .int .i64 y47, .int .u64 y48, .slice y49p y49n y49c, .int .u64 y50, .int .i64 y51, .int .i64 y52, .slice y53p y53n y53c, .int .u64 y54, .int .u64 y55, .int .u64 y56, .int .u64 y57] 44 fun g58 w59 => RunR Try.prog (Builtin.append_ #[59, 59] 59 #[.slice t3p t3n t3c, .slice (some g58) 1 1]) w59 fun v60 w61 => ∃ (s62p : Option Addr) (s62n s62c : Nat), v60 = .slice s62p s62n s62c ∧ X22.l0 Q k t0 s62p s62n s62c t12p t12n t12c t13 (IntKind.wrap .i64 (t14 + (1 : Int))) w61) (Q (.slice t3p t3n t3c) w)
def X22.f (a0 : Option Addr) (w : World) (Q : Value → World → Prop) : Prop := optP a0 fun p1 => ldP w (p1.add 25) fun x2 => CallR Try.prog 55 #[.pointer x2] w fun v3 w4 => ∃ (y5p : Option Addr) (y5n y5c : Nat), v3 = .slice y5p y5n y5c ∧ ∃ m6, X22.l0 Q m6 a0 none 0 0 y5p y5n y5c ((y5n : Nat) : Int) (0 : Int) w4
def X22.S (Q : Value → World → Prop) : Segs
  | 0, φ, ρ, w => qP (ρ 0) fun t0 => qSl (ρ 3) fun t3p t3n t3c => qSl (ρ 12) fun t12p t12n t12c => qI .i64 (ρ 13) fun t13 => qI .i64 (ρ 14) fun t14 => X22.l0 Q (φ 0) t0 t3p t3n t3c t12p t12n t12c t13 t14 w
  | _, _, _, _ => False
noncomputable def X22.an : Ann := (.seq .leaf (.seq .leaf (.seq (.seq .leaf (.block (.loop 0 (.seq .leaf (.seq (.cond .leaf .leaf) (.seq (.block (.seq .leaf (.seq .leaf .leaf))) .leaf)))))) (.seq .leaf .leaf))))
noncomputable def X22.c : Code := Try.f22.body.getD .skip
theorem X22.v (Q : Value → World → Prop) : V Try.prog (X22.S Q) X22.an X22.c (retC Try.prog Try.f22 Q) := ⟨trivial, ⟨trivial, ⟨⟨trivial, ⟨(by
    intro φ ρ w h
    simp only [X22.S] at h
    obtain ⟨t0, e0, h⟩ := qP_elim h
    obtain ⟨t3p, t3n, t3c, e3, h⟩ := qSl_elim h
    obtain ⟨t12p, t12n, t12c, e12, h⟩ := qSl_elim h
    obtain ⟨t13, e13, h⟩ := qI_elim h
    obtain ⟨t14, e14, h⟩ := qI_elim h
    cases hk : φ 0 with
    | zero => rw [hk] at h; exact h.elim
    | succ k => rw [hk] at h; exact ⟨k, Nat.lt_succ_self k, (((((Env.nil.put (some 0) (.pointer t0)).put (some 3) (.slice t3p t3n t3c)).put (some 12) (.slice t12p t12n t12c)).put (some 13) (.int .i64 t13)).put (some 14) (.int .i64 t14)), Env.le_put e14 (Env.le_put e13 (Env.le_put e12 (Env.le_put e3 (Env.le_put e0 (Env.le_nil _))))), Eq.mp (by kernel_rfl) h⟩), ⟨trivial, ⟨⟨trivial, trivial⟩, ⟨⟨trivial, ⟨trivial, trivial⟩⟩, trivial⟩⟩⟩⟩⟩, ⟨trivial, trivial⟩⟩⟩⟩
theorem X22.sound (a0 : Option Addr) (w : World) (Q : Value → World → Prop) (h : X22.f a0 w Q) : CallR Try.prog 22 #[.pointer a0] w Q :=
  fn_sound noGr mixed Try.func22 (c := X22.c) (an := X22.an) (S := X22.S Q) (φ := fun _ => 0) (args := [.pointer a0]) (by kernel_rfl) (by kernel_rfl) (by kernel_rfl) (X22.v Q) (Eq.mp (by kernel_rfl) h)
/-! ### (*mooring/caller.Table).Await: function 24 -/
def X24.j0 (Q : Value → World → Prop) (t0 : Option Addr) (t1 : Int) (t2 : Int) (t3 : Int) (t8 : Addr) (t11 : Addr) (t20 : Bool) (w : World) : Prop := bcase t20 (stAll w t8 [.int .i64 (0 : Int), .int .u64 (0 : Int), .int .i64 (0 : Int), .int .i64 (0 : Int), .int .i64 (0 : Int), .int .u64 (0 : Int), .slice none 0 0, .int .u64 (0 : Int), .int .i64 (0 : Int), .int .i64 (0 : Int), .slice none 0 0, .int .u64 (0 : Int), .int .u64 (0 : Int), .int .u64 (0 : Int), .int .u64 (0 : Int)] fun w1 => ldI .i64 w1 (t8.add 0) fun x2 => ldI .u64 w1 (t8.add 1) fun x3 => ldI .i64 w1 (t8.add 2) fun x4 => ldI .i64 w1 (t8.add 3) fun x5 => ldI .i64 w1 (t8.add 4) fun x6 => ldI .u64 w1 (t8.add 5) fun x7 => ldSl w1 (t8.add 6) fun x8p x8n x8c => ldI .u64 w1 (t8.add 7) fun x9 => ldI .i64 w1 (t8.add 8) fun x10 => ldI .i64 w1 (t8.add 9) fun x11 => ldSl w1 (t8.add 10) fun x12p x12n x12c => ldI .u64 w1 (t8.add 11) fun x13 => ldI .u64 w1 (t8.add 12) fun x14 => ldI .u64 w1 (t8.add 13) fun x15 => ldI .u64 w1 (t8.add 14) fun x16 => Q (.tuple #[.agg #[.int .i64 x2, .int .u64 x3, .int .i64 x4, .int .i64 x5, .int .i64 x6, .int .u64 x7, .slice x8p x8n x8c, .int .u64 x9, .int .i64 x10, .int .i64 x11, .slice x12p x12n x12c, .int .u64 x13, .int .u64 x14, .int .u64 x15, .int .u64 x16], .bool false, .int .i64 (5 : Int)]) w1) (ldI .i64 w (t11.add 8) fun x17 => bcase (x17 == (3 : Int)) (drewK w fun w18 => optP t0 fun p19 => ldP w18 (p19.add 25) fun x20 => CallR Try.prog 41 #[.int .i64 t1, .int .u64 t2] w18 fun v21 w22 => ∃ (y23 : Int), v21 = .int .u64 y23 ∧ (World.cell? w18 (p19.add 25) = some (.pointer x20) ∧ World.cell? w22 (p19.add 25) = some (.pointer x20)) ∧ CallR Try.prog 40 #[.pointer x20, .int .u64 y23] w22 fun v24 w25 => ∃ (y26 : Bool), v24 = .bool y26 ∧ ldI .i64 w25 (t11.add 0) fun x27 => ldI .u64 w25 (t11.add 1) fun x28 => ldI .i64 w25 (t11.add 2) fun x29 => ldI .i64 w25 (t11.add 3) fun x30 => ldI .i64 w25 (t11.add 4) fun x31 => ldI .u64 w25 (t11.add 5) fun x32 => ldSl w25 (t11.add 6) fun x33p x33n x33c => ldI .u64 w25 (t11.add 7) fun x34 => ldI .i64 w25 (t11.add 8) fun x35 => ldI .i64 w25 (t11.add 9) fun x36 => ldSl w25 (t11.add 10) fun x37p x37n x37c => ldI .u64 w25 (t11.add 11) fun x38 => ldI .u64 w25 (t11.add 12) fun x39 => ldI .u64 w25 (t11.add 13) fun x40 => ldI .u64 w25 (t11.add 14) fun x41 => CallR Try.prog 29 #[.agg #[.int .i64 x27, .int .u64 x28, .int .i64 x29, .int .i64 x30, .int .i64 x31, .int .u64 x32, .slice x33p x33n x33c, .int .u64 x34, .int .i64 x35, .int .i64 x36, .slice x37p x37n x37c, .int .u64 x38, .int .u64 x39, .int .u64 x40, .int .u64 x41]] w25 fun v42 w43 => ∃ (y44 : Int) (y45 : Int) (y46 : Int) (y47 : Int) (y48 : Int) (y49 : Int) (y50p : Option Addr) (y50n y50c : Nat) (y51 : Int) (y52 : Int) (y53 : Int) (y54p : Option Addr) (y54n y54c : Nat) (y55 : Int) (y56 : Int) (y57 : Int) (y58 : Int), v42 = .agg #[.int .i64 y44, .int .u64 y45, .int .i64 y46, .int .i64 y47, .int .i64 y48, .int .u64 y49, .slice y50p y50n y50c, .int .u64 y51, .int .i64 y52, .int .i64 y53, .slice y54p y54n y54c, .int .u64 y55, .int .u64 y56, .int .u64 y57, .int .u64 y58] ∧ stAll w43 t8 [.int .i64 y44, .int .u64 y45, .int .i64 y46, .int .i64 y47, .int .i64 y48, .int .u64 y49, .slice y50p y50n y50c, .int .u64 y51, .int .i64 y52, .int .i64 y53, .slice y54p y54n y54c, .int .u64 y55, .int .u64 y56, .int .u64 y57, .int .u64 y58] fun w59 => ldI .i64 w59 (t8.add 0) fun x60 => ldI .u64 w59 (t8.add 1) fun x61 => ldI .i64 w59 (t8.add 2) fun x62 => ldI .i64 w59 (t8.add 3) fun x63 => ldI .i64 w59 (t8.add 4) fun x64 => ldI .u64 w59 (t8.add 5) fun x65 => ldSl w59 (t8.add 6) fun x66p x66n x66c => ldI .u64 w59 (t8.add 7) fun x67 => ldI .i64 w59 (t8.add 8) fun x68 => ldI .i64 w59 (t8.add 9) fun x69 => ldSl w59 (t8.add 10) fun x70p x70n x70c => ldI .u64 w59 (t8.add 11) fun x71 => ldI .u64 w59 (t8.add 12) fun x72 => ldI .u64 w59 (t8.add 13) fun x73 => ldI .u64 w59 (t8.add 14) fun x74 => Q (.tuple #[.agg #[.int .i64 x60, .int .u64 x61, .int .i64 x62, .int .i64 x63, .int .i64 x64, .int .u64 x65, .slice x66p x66n x66c, .int .u64 x67, .int .i64 x68, .int .i64 x69, .slice x70p x70n x70c, .int .u64 x71, .int .u64 x72, .int .u64 x73, .int .u64 x74], .bool false, .int .i64 (0 : Int)]) w59) (drewK w fun w75 => ldI .u64 w75 (t11.add 14) fun x76 => optP t0 fun p77 => ldI .u64 w75 ((p77.add 0).add 16) fun x78 => CallR Try.prog 36 #[.int .u64 x76, .int .u64 x78, .int .u64 t3] w75 fun v79 w80 => ∃ (y81 : Bool), v79 = .bool y81 ∧ bcase (!y81) (stAll w80 t8 [.int .i64 (0 : Int), .int .u64 (0 : Int), .int .i64 (0 : Int), .int .i64 (0 : Int), .int .i64 (0 : Int), .int .u64 (0 : Int), .slice none 0 0, .int .u64 (0 : Int), .int .i64 (0 : Int), .int .i64 (0 : Int), .slice none 0 0, .int .u64 (0 : Int), .int .u64 (0 : Int), .int .u64 (0 : Int), .int .u64 (0 : Int)] fun w82 => ldI .i64 w82 (t8.add 0) fun x83 => ldI .u64 w82 (t8.add 1) fun x84 => ldI .i64 w82 (t8.add 2) fun x85 => ldI .i64 w82 (t8.add 3) fun x86 => ldI .i64 w82 (t8.add 4) fun x87 => ldI .u64 w82 (t8.add 5) fun x88 => ldSl w82 (t8.add 6) fun x89p x89n x89c => ldI .u64 w82 (t8.add 7) fun x90 => ldI .i64 w82 (t8.add 8) fun x91 => ldI .i64 w82 (t8.add 9) fun x92 => ldSl w82 (t8.add 10) fun x93p x93n x93c => ldI .u64 w82 (t8.add 11) fun x94 => ldI .u64 w82 (t8.add 12) fun x95 => ldI .u64 w82 (t8.add 13) fun x96 => ldI .u64 w82 (t8.add 14) fun x97 => Q (.tuple #[.agg #[.int .i64 x83, .int .u64 x84, .int .i64 x85, .int .i64 x86, .int .i64 x87, .int .u64 x88, .slice x89p x89n x89c, .int .u64 x90, .int .i64 x91, .int .i64 x92, .slice x93p x93n x93c, .int .u64 x94, .int .u64 x95, .int .u64 x96, .int .u64 x97], .bool false, .int .i64 (8 : Int)]) w82) (ldI .i64 w80 (t11.add 8) fun x98 => bcase (x98 == (2 : Int)) (drewK w80 fun w99 => optP t0 fun p100 => ldP w99 (p100.add 25) fun x101 => CallR Try.prog 41 #[.int .i64 t1, .int .u64 t2] w99 fun v102 w103 => ∃ (y104 : Int), v102 = .int .u64 y104 ∧ (World.cell? w99 (p100.add 25) = some (.pointer x101) ∧ World.cell? w103 (p100.add 25) = some (.pointer x101)) ∧ CallR Try.prog 40 #[.pointer x101, .int .u64 y104] w103 fun v105 w106 => ∃ (y107 : Bool), v105 = .bool y107 ∧ stAll w106 t8 [.int .i64 (0 : Int), .int .u64 (0 : Int), .int .i64 (0 : Int), .int .i64 (0 : Int), .int .i64 (0 : Int), .int .u64 (0 : Int), .slice none 0 0, .int .u64 (0 : Int), .int .i64 (0 : Int), .int .i64 (0 : Int), .slice none 0 0, .int .u64 (0 : Int), .int .u64 (0 : Int), .int .u64 (0 : Int), .int .u64 (0 : Int)] fun w108 => ldI .i64 w108 (t8.add 0) fun x109 => ldI .u64 w108 (t8.add 1) fun x110 => ldI .i64 w108 (t8.add 2) fun x111 => ldI .i64 w108 (t8.add 3) fun x112 => ldI .i64 w108 (t8.add 4) fun x113 => ldI .u64 w108 (t8.add 5) fun x114 => ldSl w108 (t8.add 6) fun x115p x115n x115c => ldI .u64 w108 (t8.add 7) fun x116 => ldI .i64 w108 (t8.add 8) fun x117 => ldI .i64 w108 (t8.add 9) fun x118 => ldSl w108 (t8.add 10) fun x119p x119n x119c => ldI .u64 w108 (t8.add 11) fun x120 => ldI .u64 w108 (t8.add 12) fun x121 => ldI .u64 w108 (t8.add 13) fun x122 => ldI .u64 w108 (t8.add 14) fun x123 => Q (.tuple #[.agg #[.int .i64 x109, .int .u64 x110, .int .i64 x111, .int .i64 x112, .int .i64 x113, .int .u64 x114, .slice x115p x115n x115c, .int .u64 x116, .int .i64 x117, .int .i64 x118, .slice x119p x119n x119c, .int .u64 x120, .int .u64 x121, .int .u64 x122, .int .u64 x123], .bool true, .int .i64 (3 : Int)]) w108) (stK w80 (t11.add 8) (.int .i64 (4 : Int)) fun w124 => ldI .i64 w124 (t11.add 0) fun x125 => ldI .u64 w124 (t11.add 1) fun x126 => ldI .i64 w124 (t11.add 2) fun x127 => ldI .i64 w124 (t11.add 3) fun x128 => ldI .i64 w124 (t11.add 4) fun x129 => ldI .u64 w124 (t11.add 5) fun x130 => ldSl w124 (t11.add 6) fun x131p x131n x131c => ldI .u64 w124 (t11.add 7) fun x132 => ldI .i64 w124 (t11.add 8) fun x133 => ldI .i64 w124 (t11.add 9) fun x134 => ldSl w124 (t11.add 10) fun x135p x135n x135c => ldI .u64 w124 (t11.add 11) fun x136 => ldI .u64 w124 (t11.add 12) fun x137 => ldI .u64 w124 (t11.add 13) fun x138 => ldI .u64 w124 (t11.add 14) fun x139 => CallR Try.prog 33 #[.pointer t0, .agg #[.int .i64 x125, .int .u64 x126, .int .i64 x127, .int .i64 x128, .int .i64 x129, .int .u64 x130, .slice x131p x131n x131c, .int .u64 x132, .int .i64 x133, .int .i64 x134, .slice x135p x135n x135c, .int .u64 x136, .int .u64 x137, .int .u64 x138, .int .u64 x139]] w124 fun v140 w141 => v140 = .tuple #[] ∧ stAll w141 t8 [.int .i64 (0 : Int), .int .u64 (0 : Int), .int .i64 (0 : Int), .int .i64 (0 : Int), .int .i64 (0 : Int), .int .u64 (0 : Int), .slice none 0 0, .int .u64 (0 : Int), .int .i64 (0 : Int), .int .i64 (0 : Int), .slice none 0 0, .int .u64 (0 : Int), .int .u64 (0 : Int), .int .u64 (0 : Int), .int .u64 (0 : Int)] fun w142 => ldI .i64 w142 (t8.add 0) fun x143 => ldI .u64 w142 (t8.add 1) fun x144 => ldI .i64 w142 (t8.add 2) fun x145 => ldI .i64 w142 (t8.add 3) fun x146 => ldI .i64 w142 (t8.add 4) fun x147 => ldI .u64 w142 (t8.add 5) fun x148 => ldSl w142 (t8.add 6) fun x149p x149n x149c => ldI .u64 w142 (t8.add 7) fun x150 => ldI .i64 w142 (t8.add 8) fun x151 => ldI .i64 w142 (t8.add 9) fun x152 => ldSl w142 (t8.add 10) fun x153p x153n x153c => ldI .u64 w142 (t8.add 11) fun x154 => ldI .u64 w142 (t8.add 12) fun x155 => ldI .u64 w142 (t8.add 13) fun x156 => ldI .u64 w142 (t8.add 14) fun x157 => Q (.tuple #[.agg #[.int .i64 x143, .int .u64 x144, .int .i64 x145, .int .i64 x146, .int .i64 x147, .int .u64 x148, .slice x149p x149n x149c, .int .u64 x150, .int .i64 x151, .int .i64 x152, .slice x153p x153n x153c, .int .u64 x154, .int .u64 x155, .int .u64 x156, .int .u64 x157], .bool false, .int .i64 (3 : Int)]) w142))))
def X24.f (a0 : Option Addr) (a1 : Int) (a2 : Int) (a3 : Int) (w : World) (Q : Value → World → Prop) : Prop := newK w #[.int .i64 (0 : Int), .int .u64 (0 : Int), .int .i64 (0 : Int), .int .i64 (0 : Int), .int .i64 (0 : Int), .int .u64 (0 : Int), .slice none 0 0, .int .u64 (0 : Int), .int .i64 (0 : Int), .int .i64 (0 : Int), .slice none 0 0, .int .u64 (0 : Int), .int .u64 (0 : Int), .int .u64 (0 : Int), .int .u64 (0 : Int)] 44 fun g1 w2 => CallR Try.prog 39 #[.pointer a0, .int .i64 a1, .int .u64 a2] w2 fun v3 w4 => ∃ (y5 : Int) (y6 : Int) (y7 : Int) (y8 : Int) (y9 : Int) (y10 : Int) (y11p : Option Addr) (y11n y11c : Nat) (y12 : Int) (y13 : Int) (y14 : Int) (y15p : Option Addr) (y15n y15c : Nat) (y16 : Int) (y17 : Int) (y18 : Int) (y19 : Int) (y20 : Bool), v3 = .tuple #[.agg #[.int .i64 y5, .int .u64 y6, .int .i64 y7, .int .i64 y8, .int .i64 y9, .int .u64 y10, .slice y11p y11n y11c, .int .u64 y12, .int .i64 y13, .int .i64 y14, .slice y15p y15n y15c, .int .u64 y16, .int .u64 y17, .int .u64 y18, .int .u64 y19], .bool y20] ∧ newK w4 #[.int .i64 (0 : Int), .int .u64 (0 : Int), .int .i64 (0 : Int), .int .i64 (0 : Int), .int .i64 (0 : Int), .int .u64 (0 : Int), .slice none 0 0, .int .u64 (0 : Int), .int .i64 (0 : Int), .int .i64 (0 : Int), .slice none 0 0, .int .u64 (0 : Int), .int .u64 (0 : Int), .int .u64 (0 : Int), .int .u64 (0 : Int)] 44 fun g21 w22 => stAll w22 g21 [.int .i64 y5, .int .u64 y6, .int .i64 y7, .int .i64 y8, .int .i64 y9, .int .u64 y10, .slice y11p y11n y11c, .int .u64 y12, .int .i64 y13, .int .i64 y14, .slice y15p y15n y15c, .int .u64 y16, .int .u64 y17, .int .u64 y18, .int .u64 y19] fun w23 => bcase (!y20) (X24.j0 Q a0 a1 a2 a3 g1 g21 true w23) (ldI .i64 w23 (g21.add 8) fun x24 => X24.j0 Q a0 a1 a2 a3 g1 g21 (x24 == (4 : Int)) w23)
def X24.S (Q : Value → World → Prop) : Segs
  | 0, φ, ρ, w => qP (ρ 0) fun t0 => qI .i64 (ρ 1) fun t1 => qI .u64 (ρ 2) fun t2 => qI .u64 (ρ 3) fun t3 => qA (ρ 8) fun t8 => qA (ρ 11) fun t11 => qB (ρ 20) fun t20 => X24.j0 Q t0 t1 t2 t3 t8 t11 t20 w
  | _, _, _, _ => False
noncomputable def X24.an : Ann := (.seq .leaf (.seq .leaf (.seq (.block (.seq .leaf (.join 0 (.cond (.seq .leaf .leaf) (.seq .leaf (.cond (.seq (.draw [0, 1, 3, 7, 0, 0, 48, 127] [[0, 1, 2, 3, 4, 5, 6, 7]]) (.seq .leaf .leaf)) (.seq (.draw [0, 1, 0, 4, 12, 28, 60, 0, 255, 511, 1023] [[0, 1, 2, 3, 4, 5, 6, 7, 8, 9, 10]]) (.cond (.seq .leaf .leaf) (.seq .leaf (.cond (.seq (.draw [0, 1, 3, 7, 0, 0, 48, 127] [[0, 1, 2, 3, 4, 5, 6, 7]]) (.seq .leaf .leaf)) .leaf)))))))))) (.seq .leaf (.seq .leaf (.seq .leaf .leaf))))))
noncomputable def X24.c : Code := Try.f24.body.getD .skip
theorem X24.v (Q : Value → World → Prop) : V Try.prog (X24.S Q) X24.an X24.c (retC Try.prog Try.f24 Q) := ⟨trivial, ⟨trivial, ⟨⟨trivial, ⟨(by
    intro φ ρ w h
    simp only [X24.S] at h
    obtain ⟨t0, e0, h⟩ := qP_elim h
    obtain ⟨t1, e1, h⟩ := qI_elim h
    obtain ⟨t2, e2, h⟩ := qI_elim h
    obtain ⟨t3, e3, h⟩ := qI_elim h
    obtain ⟨t8, e8, h⟩ := qA_elim h
    obtain ⟨t11, e11, h⟩ := qA_elim h
    obtain ⟨t20, e20, h⟩ := qB_elim h
    exact ⟨(((((((Env.nil.put (some 0) (.pointer t0)).put (some 1) (.int .i64 t1)).put (some 2) (.int .u64 t2)).put (some 3) (.int .u64 t3)).put (some 8) (.pointer (some t8))).put (some 11) (.pointer (some t11))).put (some 20) (.bool t20)), Env.le_put e20 (Env.le_put e11 (Env.le_put e8 (Env.le_put e3 (Env.le_put e2 (Env.le_put e1 (Env.le_put e0 (Env.le_nil _))))))), Eq.mp (by kernel_rfl) h⟩), ⟨⟨trivial, trivial⟩, ⟨trivial, ⟨⟨trivial, ⟨trivial, trivial⟩⟩, ⟨trivial, ⟨⟨trivial, trivial⟩, ⟨trivial, ⟨⟨trivial, ⟨trivial, trivial⟩⟩, trivial⟩⟩⟩⟩⟩⟩⟩⟩⟩, ⟨trivial, ⟨trivial, ⟨trivial, trivial⟩⟩⟩⟩⟩⟩
theorem X24.sound (a0 : Option Addr) (a1 : Int) (a2 : Int) (a3 : Int) (w : World) (Q : Value → World → Prop) (h : X24.f a0 a1 a2 a3 w Q) : CallR Try.prog 24 #[.pointer a0, .int .i64 a1, .int .u64 a2, .int .u64 a3] w Q :=
  fn_sound noGr mixed Try.func24 (c := X24.c) (an := X24.an) (S := X24.S Q) (φ := fun _ => 0) (args := [.pointer a0, .int .i64 a1, .int .u64 a2, .int .u64 a3]) (by kernel_rfl) (by kernel_rfl) (by kernel_rfl) (X24.v Q) (Eq.mp (by kernel_rfl) h)
/-! ### (*mooring/caller.Table).Settle: function 26 -/
def X26.j0 (Q : Value → World → Prop) (t0 : Option Addr) (t3 : Int) (t9 : Addr) (w : World) : Prop := stK w (t9.add 8) (.int .i64 (3 : Int)) fun w1 => bcase (t3 != (0 : Int)) (stK w1 (t9.add 9) (.int .i64 t3) fun w2 => stK w2 (t9.add 11) (.int .u64 (0 : Int)) fun w3 => stK w3 (t9.add 10) (.slice none 0 0) fun w4 => ldI .i64 w4 (t9.add 0) fun x5 => ldI .u64 w4 (t9.add 1) fun x6 => ldI .i64 w4 (t9.add 2) fun x7 => ldI .i64 w4 (t9.add 3) fun x8 => ldI .i64 w4 (t9.add 4) fun x9 => ldI .u64 w4 (t9.add 5) fun x10 => ldSl w4 (t9.add 6) fun x11p x11n x11c => ldI .u64 w4 (t9.add 7) fun x12 => ldI .i64 w4 (t9.add 8) fun x13 => ldI .i64 w4 (t9.add 9) fun x14 => ldSl w4 (t9.add 10) fun x15p x15n x15c => ldI .u64 w4 (t9.add 11) fun x16 => ldI .u64 w4 (t9.add 12) fun x17 => ldI .u64 w4 (t9.add 13) fun x18 => ldI .u64 w4 (t9.add 14) fun x19 => CallR Try.prog 33 #[.pointer t0, .agg #[.int .i64 x5, .int .u64 x6, .int .i64 x7, .int .i64 x8, .int .i64 x9, .int .u64 x10, .slice x11p x11n x11c, .int .u64 x12, .int .i64 x13, .int .i64 x14, .slice x15p x15n x15c, .int .u64 x16, .int .u64 x17, .int .u64 x18, .int .u64 x19]] w4 fun v20 w21 => v20 = .tuple #[] ∧ Q (.bool true) w21) (ldI .i64 w1 (t9.add 0) fun x22 => ldI .u64 w1 (t9.add 1) fun x23 => ldI .i64 w1 (t9.add 2) fun x24 => ldI .i64 w1 (t9.add 3) fun x25 => ldI .i64 w1 (t9.add 4) fun x26 => ldI .u64 w1 (t9.add 5) fun x27 => ldSl w1 (t9.add 6) fun x28p x28n x28c => ldI .u64 w1 (t9.add 7) fun x29 => ldI .i64 w1 (t9.add 8) fun x30 => ldI .i64 w1 (t9.add 9) fun x31 => ldSl w1 (t9.add 10) fun x32p x32n x32c => ldI .u64 w1 (t9.add 11) fun x33 => ldI .u64 w1 (t9.add 12) fun x34 => ldI .u64 w1 (t9.add 13) fun x35 => ldI .u64 w1 (t9.add 14) fun x36 => CallR Try.prog 33 #[.pointer t0, .agg #[.int .i64 x22, .int .u64 x23, .int .i64 x24, .int .i64 x25, .int .i64 x26, .int .u64 x27, .slice x28p x28n x28c, .int .u64 x29, .int .i64 x30, .int .i64 x31, .slice x32p x32n x32c, .int .u64 x33, .int .u64 x34, .int .u64 x35, .int .u64 x36]] w1 fun v37 w38 => v37 = .tuple #[] ∧ Q (.bool true) w38)
def X26.f (a0 : Option Addr) (a1 : Int) (a2 : Int) (a3 : Int) (w : World) (Q : Value → World → Prop) : Prop := CallR Try.prog 39 #[.pointer a0, .int .i64 a1, .int .u64 a2] w fun v1 w2 => ∃ (y3 : Int) (y4 : Int) (y5 : Int) (y6 : Int) (y7 : Int) (y8 : Int) (y9p : Option Addr) (y9n y9c : Nat) (y10 : Int) (y11 : Int) (y12 : Int) (y13p : Option Addr) (y13n y13c : Nat) (y14 : Int) (y15 : Int) (y16 : Int) (y17 : Int) (y18 : Bool), v1 = .tuple #[.agg #[.int .i64 y3, .int .u64 y4, .int .i64 y5, .int .i64 y6, .int .i64 y7, .int .u64 y8, .slice y9p y9n y9c, .int .u64 y10, .int .i64 y11, .int .i64 y12, .slice y13p y13n y13c, .int .u64 y14, .int .u64 y15, .int .u64 y16, .int .u64 y17], .bool y18] ∧ newK w2 #[.int .i64 (0 : Int), .int .u64 (0 : Int), .int .i64 (0 : Int), .int .i64 (0 : Int), .int .i64 (0 : Int), .int .u64 (0 : Int), .slice none 0 0, .int .u64 (0 : Int), .int .i64 (0 : Int), .int .i64 (0 : Int), .slice none 0 0, .int .u64 (0 : Int), .int .u64 (0 : Int), .int .u64 (0 : Int), .int .u64 (0 : Int)] 44 fun g19 w20 => stAll w20 g19 [.int .i64 y3, .int .u64 y4, .int .i64 y5, .int .i64 y6, .int .i64 y7, .int .u64 y8, .slice y9p y9n y9c, .int .u64 y10, .int .i64 y11, .int .i64 y12, .slice y13p y13n y13c, .int .u64 y14, .int .u64 y15, .int .u64 y16, .int .u64 y17] fun w21 => bcase (!y18) (Q (.bool false) w21) (ldI .i64 w21 (g19.add 8) fun x22 => bcase (x22 != (2 : Int)) (Q (.bool false) w21) (X26.j0 Q a0 a3 g19 w21))
def X26.S (Q : Value → World → Prop) : Segs
  | 0, φ, ρ, w => qP (ρ 0) fun t0 => qI .i64 (ρ 3) fun t3 => qA (ρ 9) fun t9 => X26.j0 Q t0 t3 t9 w
  | _, _, _, _ => False
noncomputable def X26.an : Ann := (.seq .leaf (.seq .leaf (.seq (.seq .leaf (.cond (.seq .leaf .leaf) .leaf)) (.join 0 (.seq .leaf (.seq (.seq .leaf (.cond .leaf .leaf)) (.seq .leaf (.seq .leaf .leaf))))))))
noncomputable def X26.c : Code := Try.f26.body.getD .skip
theorem X26.v (Q : Value → World → Prop) : V Try.prog (X26.S Q) X26.an X26.c (retC Try.prog Try.f26 Q) := ⟨trivial, ⟨trivial, ⟨⟨trivial, ⟨⟨trivial, trivial⟩, trivial⟩⟩, ⟨(by
    intro φ ρ w h
    simp only [X26.S] at h
    obtain ⟨t0, e0, h⟩ := qP_elim h
    obtain ⟨t3, e3, h⟩ := qI_elim h
    obtain ⟨t9, e9, h⟩ := qA_elim h
    exact ⟨(((Env.nil.put (some 0) (.pointer t0)).put (some 3) (.int .i64 t3)).put (some 9) (.pointer (some t9))), Env.le_put e9 (Env.le_put e3 (Env.le_put e0 (Env.le_nil _))), Eq.mp (by kernel_rfl) h⟩), ⟨trivial, ⟨⟨trivial, ⟨trivial, trivial⟩⟩, ⟨trivial, ⟨trivial, trivial⟩⟩⟩⟩⟩⟩⟩⟩
theorem X26.sound (a0 : Option Addr) (a1 : Int) (a2 : Int) (a3 : Int) (w : World) (Q : Value → World → Prop) (h : X26.f a0 a1 a2 a3 w Q) : CallR Try.prog 26 #[.pointer a0, .int .i64 a1, .int .u64 a2, .int .i64 a3] w Q :=
  fn_sound noGr mixed Try.func26 (c := X26.c) (an := X26.an) (S := X26.S Q) (φ := fun _ => 0) (args := [.pointer a0, .int .i64 a1, .int .u64 a2, .int .i64 a3]) (by kernel_rfl) (by kernel_rfl) (by kernel_rfl) (X26.v Q) (Eq.mp (by kernel_rfl) h)
/-! ### mooring/api.May: function 27 -/
def X27.j0 (Q : Value → World → Prop) (t1 : Addr) (t3 : Bool) (t4 : Bool) (t5 : Bool) (t6 : Bool) (w : World) : Prop := bcase t3 (bcase t4 (bcase t5 (bcase t6 (ldI .i64 w (t1.add 17) fun x1 => CallR Try.prog 57 #[.int .i64 x1, .int .i64 (38 : Int)] w fun v2 w3 => ∃ (y4 : Bool), v2 = .bool y4 ∧ bcase y4 (ldI .i64 w3 (t1.add 18) fun x5 => ldI .i64 w3 (t1.add 17) fun x6 => bcase (decide (x5 > x6)) (ldI .i64 w3 (t1.add 18) fun x7 => bcase (decide (x7 < (40 : Int))) (ldI .i64 w3 (t1.add 19) fun x8 => CallR Try.prog 57 #[.int .i64 x8, .int .i64 (64 : Int)] w3 fun v9 w10 => ∃ (y11 : Bool), v9 = .bool y11 ∧ bcase y11 (ldI .u64 w10 (t1.add 20) fun x12 => bcase (decide (x12 ≤ (4611686018427387904 : Int))) (ldI .u64 w10 (t1.add 21) fun x13 => Q (.bool (decide (x13 ≤ (72057594037927935 : Int)))) w10) (Q (.bool false) w10)) (Q (.bool false) w10)) (Q (.bool false) w3)) (Q (.bool false) w3)) (Q (.bool false) w3)) (Q (.bool false) w)) (Q (.bool false) w)) (Q (.bool false) w)) (Q (.bool false) w)
def X27.j1 (Q : Value → World → Prop) (t1 : Addr) (t3 : Bool) (t4 : Bool) (t5 : Bool) (w : World) : Prop := ldI .u64 w (t1.add 14) fun x1 => bcase (decide (x1 ≥ (1 : Int))) (ldI .u64 w (t1.add 14) fun x2 => ldI .u64 w (t1.add 15) fun x3 => bcase (decide (x2 ≤ x3)) (ldI .u64 w (t1.add 15) fun x4 => bcase (decide (x4 ≤ (4294967295 : Int))) (ldI .u64 w (t1.add 16) fun x5 => bcase (decide (x5 ≥ (1 : Int))) (ldI .u64 w (t1.add 16) fun x6 => X27.j0 Q t1 t3 t4 t5 (decide (x6 ≤ (4294967295 : Int))) w) (X27.j0 Q t1 t3 t4 t5 false w)) (X27.j0 Q t1 t3 t4 t5 false w)) (X27.j0 Q t1 t3 t4 t5 false w)) (X27.j0 Q t1 t3 t4 t5 false w)
def X27.j2 (Q : Value → World → Prop) (t1 : Addr) (t3 : Bool) (t4 : Bool) (w : World) : Prop := ldI .u64 w (t1.add 11) fun x1 => bcase (decide (x1 ≥ (1 : Int))) (ldI .u64 w (t1.add 11) fun x2 => bcase (decide (x2 ≤ (1048576 : Int))) (ldI .u64 w (t1.add 12) fun x3 => ldI .u64 w (t1.add 11) fun x4 => bcase (decide (x3 < x4)) (ldI .u64 w (t1.add 13) fun x5 => bcase (decide (x5 ≤ (4294967295 : Int))) (ldI .u64 w (t1.add 13) fun x6 => ldI .u64 w (t1.add 11) fun x7 => ldI .u64 w (t1.add 12) fun x8 => ldI .u64 w (t1.add 11) fun x9 => ldI .u64 w (t1.add 12) fun x10 => X27.j1 Q t1 t3 t4 (decide ((IntKind.wrap .u64 (x6 * (IntKind.wrap .u64 (x7 - x8)))) ≥ (IntKind.wrap .u64 ((8 : Int) * (IntKind.wrap .u64 (x9 + x10)))))) w) (X27.j1 Q t1 t3 t4 false w)) (X27.j1 Q t1 t3 t4 false w)) (X27.j1 Q t1 t3 t4 false w)) (X27.j1 Q t1 t3 t4 false w)
def X27.j3 (Q : Value → World → Prop) (t1 : Addr) (t3 : Bool) (w : World) : Prop := ldI .i64 w (t1.add 4) fun x1 => CallR Try.prog 57 #[.int .i64 x1, .int .i64 (64 : Int)] w fun v2 w3 => ∃ (y4 : Bool), v2 = .bool y4 ∧ bcase y4 (ldI .i64 w3 (t1.add 5) fun x5 => CallR Try.prog 57 #[.int .i64 x5, .int .i64 (64 : Int)] w3 fun v6 w7 => ∃ (y8 : Bool), v6 = .bool y8 ∧ bcase y8 (ldI .i64 w7 (t1.add 6) fun x9 => CallR Try.prog 57 #[.int .i64 x9, .int .i64 (16 : Int)] w7 fun v10 w11 => ∃ (y12 : Bool), v10 = .bool y12 ∧ bcase y12 (ldI .i64 w11 (t1.add 7) fun x13 => CallR Try.prog 57 #[.int .i64 x13, .int .i64 (8 : Int)] w11 fun v14 w15 => ∃ (y16 : Bool), v14 = .bool y16 ∧ bcase y16 (ldI .i64 w15 (t1.add 8) fun x17 => CallR Try.prog 57 #[.int .i64 x17, .int .i64 (64 : Int)] w15 fun v18 w19 => ∃ (y20 : Bool), v18 = .bool y20 ∧ bcase y20 (ldI .i64 w19 (t1.add 9) fun x21 => CallR Try.prog 57 #[.int .i64 x21, .int .i64 (256 : Int)] w19 fun v22 w23 => ∃ (y24 : Bool), v22 = .bool y24 ∧ bcase y24 (ldI .i64 w23 (t1.add 10) fun x25 => CallR Try.prog 57 #[.int .i64 x25, .int .i64 (16 : Int)] w23 fun v26 w27 => ∃ (y28 : Bool), v26 = .bool y28 ∧ X27.j2 Q t1 t3 y28 w27) (X27.j2 Q t1 t3 false w23)) (X27.j2 Q t1 t3 false w19)) (X27.j2 Q t1 t3 false w15)) (X27.j2 Q t1 t3 false w11)) (X27.j2 Q t1 t3 false w7)) (X27.j2 Q t1 t3 false w3)
def X27.f (a0_0 : Int) (a0_1 : Int) (a0_2 : Int) (a0_3 : Int) (a0_4 : Int) (a0_5 : Int) (a0_6 : Int) (a0_7 : Int) (a0_8 : Int) (a0_9 : Int) (a0_10 : Int) (a0_11 : Int) (a0_12 : Int) (a0_13 : Int) (a0_14 : Int) (a0_15 : Int) (a0_16 : Int) (a0_17 : Int) (a0_18 : Int) (a0_19 : Int) (a0_20 : Int) (a0_21 : Int) (w : World) (Q : Value → World → Prop) : Prop := newK w #[.int .i64 a0_0, .int .i64 a0_1, .int .i64 a0_2, .int .i64 a0_3, .int .i64 a0_4, .int .i64 a0_5, .int .i64 a0_6, .int .i64 a0_7, .int .i64 a0_8, .int .i64 a0_9, .int .i64 a0_10, .int .u64 a0_11, .int .u64 a0_12, .int .u64 a0_13, .int .u64 a0_14, .int .u64 a0_15, .int .u64 a0_16, .int .i64 a0_17, .int .i64 a0_18, .int .i64 a0_19, .int .u64 a0_20, .int .u64 a0_21] 31 fun g1 w2 => ldI .i64 w2 (g1.add 0) fun x3 => CallR Try.prog 57 #[.int .i64 x3, .int .i64 (64 : Int)] w2 fun v4 w5 => ∃ (y6 : Bool), v4 = .bool y6 ∧ bcase y6 (ldI .i64 w5 (g1.add 1) fun x7 => CallR Try.prog 57 #[.int .i64 x7, .int .i64 (4 : Int)] w5 fun v8 w9 => ∃ (y10 : Bool), v8 = .bool y10 ∧ bcase y10 (ldI .i64 w9 (g1.add 2) fun x11 => CallR Try.prog 57 #[.int .i64 x11, .int .i64 (8 : Int)] w9 fun v12 w13 => ∃ (y14 : Bool), v12 = .bool y14 ∧ bcase y14 (ldI .i64 w13 (g1.add 3) fun x15 => CallR Try.prog 57 #[.int .i64 x15, .int .i64 (4096 : Int)] w13 fun v16 w17 => ∃ (y18 : Bool), v16 = .bool y18 ∧ bcase y18 (ldI .i64 w17 (g1.add 3) fun x19 => (16 : Int) ≠ 0 ∧ X27.j3 Q g1 ((Int.tmod x19 (16 : Int)) == (0 : Int)) w17) (X27.j3 Q g1 false w17)) (X27.j3 Q g1 false w13)) (X27.j3 Q g1 false w9)) (X27.j3 Q g1 false w5)
def X27.S (Q : Value → World → Prop) : Segs
  | 0, φ, ρ, w => qA (ρ 1) fun t1 => qB (ρ 3) fun t3 => qB (ρ 4) fun t4 => qB (ρ 5) fun t5 => qB (ρ 6) fun t6 => X27.j0 Q t1 t3 t4 t5 t6 w
  | 1, φ, ρ, w => qA (ρ 1) fun t1 => qB (ρ 3) fun t3 => qB (ρ 4) fun t4 => qB (ρ 5) fun t5 => X27.j1 Q t1 t3 t4 t5 w
  | 2, φ, ρ, w => qA (ρ 1) fun t1 => qB (ρ 3) fun t3 => qB (ρ 4) fun t4 => X27.j2 Q t1 t3 t4 w
  | 3, φ, ρ, w => qA (ρ 1) fun t1 => qB (ρ 3) fun t3 => X27.j3 Q t1 t3 w
  | _, _, _, _ => False
noncomputable def X27.an : Ann := (.seq .leaf (.seq .leaf (.join 3 (.seq .leaf (.join 2 (.seq .leaf (.join 1 (.seq .leaf (.join 0 (.seq .leaf .leaf))))))))))
noncomputable def X27.c : Code := Try.f27.body.getD .skip
theorem X27.v (Q : Value → World → Prop) : V Try.prog (X27.S Q) X27.an X27.c (retC Try.prog Try.f27 Q) := ⟨trivial, ⟨trivial, ⟨(by
    intro φ ρ w h
    simp only [X27.S] at h
    obtain ⟨t1, e1, h⟩ := qA_elim h
    obtain ⟨t3, e3, h⟩ := qB_elim h
    exact ⟨((Env.nil.put (some 1) (.pointer (some t1))).put (some 3) (.bool t3)), Env.le_put e3 (Env.le_put e1 (Env.le_nil _)), Eq.mp (by kernel_rfl) h⟩), ⟨trivial, ⟨(by
    intro φ ρ w h
    simp only [X27.S] at h
    obtain ⟨t1, e1, h⟩ := qA_elim h
    obtain ⟨t3, e3, h⟩ := qB_elim h
    obtain ⟨t4, e4, h⟩ := qB_elim h
    exact ⟨(((Env.nil.put (some 1) (.pointer (some t1))).put (some 3) (.bool t3)).put (some 4) (.bool t4)), Env.le_put e4 (Env.le_put e3 (Env.le_put e1 (Env.le_nil _))), Eq.mp (by kernel_rfl) h⟩), ⟨trivial, ⟨(by
    intro φ ρ w h
    simp only [X27.S] at h
    obtain ⟨t1, e1, h⟩ := qA_elim h
    obtain ⟨t3, e3, h⟩ := qB_elim h
    obtain ⟨t4, e4, h⟩ := qB_elim h
    obtain ⟨t5, e5, h⟩ := qB_elim h
    exact ⟨((((Env.nil.put (some 1) (.pointer (some t1))).put (some 3) (.bool t3)).put (some 4) (.bool t4)).put (some 5) (.bool t5)), Env.le_put e5 (Env.le_put e4 (Env.le_put e3 (Env.le_put e1 (Env.le_nil _)))), Eq.mp (by kernel_rfl) h⟩), ⟨trivial, ⟨(by
    intro φ ρ w h
    simp only [X27.S] at h
    obtain ⟨t1, e1, h⟩ := qA_elim h
    obtain ⟨t3, e3, h⟩ := qB_elim h
    obtain ⟨t4, e4, h⟩ := qB_elim h
    obtain ⟨t5, e5, h⟩ := qB_elim h
    obtain ⟨t6, e6, h⟩ := qB_elim h
    exact ⟨(((((Env.nil.put (some 1) (.pointer (some t1))).put (some 3) (.bool t3)).put (some 4) (.bool t4)).put (some 5) (.bool t5)).put (some 6) (.bool t6)), Env.le_put e6 (Env.le_put e5 (Env.le_put e4 (Env.le_put e3 (Env.le_put e1 (Env.le_nil _))))), Eq.mp (by kernel_rfl) h⟩), ⟨trivial, trivial⟩⟩⟩⟩⟩⟩⟩⟩⟩⟩
theorem X27.sound (a0_0 : Int) (a0_1 : Int) (a0_2 : Int) (a0_3 : Int) (a0_4 : Int) (a0_5 : Int) (a0_6 : Int) (a0_7 : Int) (a0_8 : Int) (a0_9 : Int) (a0_10 : Int) (a0_11 : Int) (a0_12 : Int) (a0_13 : Int) (a0_14 : Int) (a0_15 : Int) (a0_16 : Int) (a0_17 : Int) (a0_18 : Int) (a0_19 : Int) (a0_20 : Int) (a0_21 : Int) (w : World) (Q : Value → World → Prop) (h : X27.f a0_0 a0_1 a0_2 a0_3 a0_4 a0_5 a0_6 a0_7 a0_8 a0_9 a0_10 a0_11 a0_12 a0_13 a0_14 a0_15 a0_16 a0_17 a0_18 a0_19 a0_20 a0_21 w Q) : CallR Try.prog 27 #[.agg #[.int .i64 a0_0, .int .i64 a0_1, .int .i64 a0_2, .int .i64 a0_3, .int .i64 a0_4, .int .i64 a0_5, .int .i64 a0_6, .int .i64 a0_7, .int .i64 a0_8, .int .i64 a0_9, .int .i64 a0_10, .int .u64 a0_11, .int .u64 a0_12, .int .u64 a0_13, .int .u64 a0_14, .int .u64 a0_15, .int .u64 a0_16, .int .i64 a0_17, .int .i64 a0_18, .int .i64 a0_19, .int .u64 a0_20, .int .u64 a0_21]] w Q :=
  fn_sound noGr mixed Try.func27 (c := X27.c) (an := X27.an) (S := X27.S Q) (φ := fun _ => 0) (args := [.agg #[.int .i64 a0_0, .int .i64 a0_1, .int .i64 a0_2, .int .i64 a0_3, .int .i64 a0_4, .int .i64 a0_5, .int .i64 a0_6, .int .i64 a0_7, .int .i64 a0_8, .int .i64 a0_9, .int .i64 a0_10, .int .u64 a0_11, .int .u64 a0_12, .int .u64 a0_13, .int .u64 a0_14, .int .u64 a0_15, .int .u64 a0_16, .int .i64 a0_17, .int .i64 a0_18, .int .i64 a0_19, .int .u64 a0_20, .int .u64 a0_21]]) (by kernel_rfl) (by kernel_rfl) (by kernel_rfl) (X27.v Q) (Eq.mp (by kernel_rfl) h)
/-! ### mooring/caller.twin: function 29 -/
def X29.f (a0_0 : Int) (a0_1 : Int) (a0_2 : Int) (a0_3 : Int) (a0_4 : Int) (a0_5 : Int) (a0_6p : Option Addr) (a0_6n : Nat) (a0_6c : Nat) (a0_7 : Int) (a0_8 : Int) (a0_9 : Int) (a0_10p : Option Addr) (a0_10n : Nat) (a0_10c : Nat) (a0_11 : Int) (a0_12 : Int) (a0_13 : Int) (a0_14 : Int) (w : World) (Q : Value → World → Prop) : Prop := newK w #[.int .i64 a0_0, .int .u64 a0_1, .int .i64 a0_2, .int .i64 a0_3, .int .i64 a0_4, .int .u64 a0_5, .slice a0_6p a0_6n a0_6c, .int .u64 a0_7, .int .i64 a0_8, .int .i64 a0_9, .slice a0_10p a0_10n a0_10c, .int .u64 a0_11, .int .u64 a0_12, .int .u64 a0_13, .int .u64 a0_14] 44 fun g1 w2 => newK w2 #[.int .i64 (0 : Int), .int .u64 (0 : Int), .int .i64 (0 : Int), .int .i64 (0 : Int), .int .i64 (0 : Int), .int .u64 (0 : Int), .slice none 0 0, .int .u64 (0 : Int), .int .i64 (0 : Int), .int .i64 (0 : Int), .slice none 0 0, .int .u64 (0 : Int), .int .u64 (0 : Int), .int .u64 (0 : Int), .int .u64 (0 : Int)] 44 fun g3 w4 => newK w4 #[] 26 fun g5 w6 => ldSl w6 (g1.add 6) fun x7p x7n x7c => RunR Try.prog (Builtin.append_ #[27, 27] 27 #[.slice (some g5) 0 0, .slice x7p x7n x7c]) w6 fun v8 w9 => ∃ (s10p : Option Addr) (s10n s10c : Nat), v8 = .slice s10p s10n s10c ∧ stK w9 (g1.add 6) (.slice s10p s10n s10c) fun w11 => newK w11 #[] 26 fun g12 w13 => ldSl w13 (g1.add 10) fun x14p x14n x14c => RunR Try.prog (Builtin.append_ #[27, 27] 27 #[.slice (some g12) 0 0, .slice x14p x14n x14c]) w13 fun v15 w16 => ∃ (s17p : Option Addr) (s17n s17c : Nat), v15 = .slice s17p s17n s17c ∧ stK w16 (g1.add 10) (.slice s17p s17n s17c) fun w18 => ldI .i64 w18 (g1.add 0) fun x19 => ldI .u64 w18 (g1.add 1) fun x20 => ldI .i64 w18 (g1.add 2) fun x21 => ldI .i64 w18 (g1.add 3) fun x22 => ldI .i64 w18 (g1.add 4) fun x23 => ldI .u64 w18 (g1.add 5) fun x24 => ldSl w18 (g1.add 6) fun x25p x25n x25c => ldI .u64 w18 (g1.add 7) fun x26 => ldI .i64 w18 (g1.add 8) fun x27 => ldI .i64 w18 (g1.add 9) fun x28 => ldSl w18 (g1.add 10) fun x29p x29n x29c => ldI .u64 w18 (g1.add 11) fun x30 => ldI .u64 w18 (g1.add 12) fun x31 => ldI .u64 w18 (g1.add 13) fun x32 => ldI .u64 w18 (g1.add 14) fun x33 => stAll w18 g3 [.int .i64 x19, .int .u64 x20, .int .i64 x21, .int .i64 x22, .int .i64 x23, .int .u64 x24, .slice x25p x25n x25c, .int .u64 x26, .int .i64 x27, .int .i64 x28, .slice x29p x29n x29c, .int .u64 x30, .int .u64 x31, .int .u64 x32, .int .u64 x33] fun w34 => ldI .i64 w34 (g3.add 0) fun x35 => ldI .u64 w34 (g3.add 1) fun x36 => ldI .i64 w34 (g3.add 2) fun x37 => ldI .i64 w34 (g3.add 3) fun x38 => ldI .i64 w34 (g3.add 4) fun x39 => ldI .u64 w34 (g3.add 5) fun x40 => ldSl w34 (g3.add 6) fun x41p x41n x41c => ldI .u64 w34 (g3.add 7) fun x42 => ldI .i64 w34 (g3.add 8) fun x43 => ldI .i64 w34 (g3.add 9) fun x44 => ldSl w34 (g3.add 10) fun x45p x45n x45c => ldI .u64 w34 (g3.add 11) fun x46 => ldI .u64 w34 (g3.add 12) fun x47 => ldI .u64 w34 (g3.add 13) fun x48 => ldI .u64 w34 (g3.add 14) fun x49 => Q (.agg #[.int .i64 x35, .int .u64 x36, .int .i64 x37, .int .i64 x38, .int .i64 x39, .int .u64 x40, .slice x41p x41n x41c, .int .u64 x42, .int .i64 x43, .int .i64 x44, .slice x45p x45n x45c, .int .u64 x46, .int .u64 x47, .int .u64 x48, .int .u64 x49]) w34
def X29.S (Q : Value → World → Prop) : Segs
  | _, _, _, _ => False
noncomputable def X29.an : Ann := (.seq .leaf (.seq .leaf (.seq .leaf (.seq .leaf .leaf))))
noncomputable def X29.c : Code := Try.f29.body.getD .skip
theorem X29.v (Q : Value → World → Prop) : V Try.prog (X29.S Q) X29.an X29.c (retC Try.prog Try.f29 Q) := ⟨trivial, ⟨trivial, ⟨trivial, ⟨trivial, trivial⟩⟩⟩⟩
theorem X29.sound (a0_0 : Int) (a0_1 : Int) (a0_2 : Int) (a0_3 : Int) (a0_4 : Int) (a0_5 : Int) (a0_6p : Option Addr) (a0_6n : Nat) (a0_6c : Nat) (a0_7 : Int) (a0_8 : Int) (a0_9 : Int) (a0_10p : Option Addr) (a0_10n : Nat) (a0_10c : Nat) (a0_11 : Int) (a0_12 : Int) (a0_13 : Int) (a0_14 : Int) (w : World) (Q : Value → World → Prop) (h : X29.f a0_0 a0_1 a0_2 a0_3 a0_4 a0_5 a0_6p a0_6n a0_6c a0_7 a0_8 a0_9 a0_10p a0_10n a0_10c a0_11 a0_12 a0_13 a0_14 w Q) : CallR Try.prog 29 #[.agg #[.int .i64 a0_0, .int .u64 a0_1, .int .i64 a0_2, .int .i64 a0_3, .int .i64 a0_4, .int .u64 a0_5, .slice a0_6p a0_6n a0_6c, .int .u64 a0_7, .int .i64 a0_8, .int .i64 a0_9, .slice a0_10p a0_10n a0_10c, .int .u64 a0_11, .int .u64 a0_12, .int .u64 a0_13, .int .u64 a0_14]] w Q :=
  fn_sound noGr mixed Try.func29 (c := X29.c) (an := X29.an) (S := X29.S Q) (φ := fun _ => 0) (args := [.agg #[.int .i64 a0_0, .int .u64 a0_1, .int .i64 a0_2, .int .i64 a0_3, .int .i64 a0_4, .int .u64 a0_5, .slice a0_6p a0_6n a0_6c, .int .u64 a0_7, .int .i64 a0_8, .int .i64 a0_9, .slice a0_10p a0_10n a0_10c, .int .u64 a0_11, .int .u64 a0_12, .int .u64 a0_13, .int .u64 a0_14]]) (by kernel_rfl) (by kernel_rfl) (by kernel_rfl) (X29.v Q) (Eq.mp (by kernel_rfl) h)
/-! ### (*mooring/caller.Table).asks: function 31 -/
def X31.f (a0 : Option Addr) (a1_0 : Int) (a1_1 : Int) (a1_2 : Int) (a1_3 : Int) (a1_4 : Int) (a1_5 : Int) (a1_6p : Option Addr) (a1_6n : Nat) (a1_6c : Nat) (a1_7 : Int) (a1_8 : Int) (a1_9 : Int) (a1_10p : Option Addr) (a1_10n : Nat) (a1_10c : Nat) (a1_11 : Int) (a1_12 : Int) (a1_13 : Int) (a1_14 : Int) (a2 : Int) (w : World) (Q : Value → World → Prop) : Prop := newK w #[.int .i64 a1_0, .int .u64 a1_1, .int .i64 a1_2, .int .i64 a1_3, .int .i64 a1_4, .int .u64 a1_5, .slice a1_6p a1_6n a1_6c, .int .u64 a1_7, .int .i64 a1_8, .int .i64 a1_9, .slice a1_10p a1_10n a1_10c, .int .u64 a1_11, .int .u64 a1_12, .int .u64 a1_13, .int .u64 a1_14] 44 fun g1 w2 => newK w2 #[.int .i64 (0 : Int), .int .i64 (0 : Int), .int .i64 (0 : Int), .int .u64 (0 : Int), .int .u64 (0 : Int), .int .i64 (0 : Int), .int .i64 (0 : Int), .int .i64 (0 : Int), .int .i64 (0 : Int), .int .u64 (0 : Int), .slice none 0 0, .int .u64 (0 : Int), .int .i64 (0 : Int), .int .u64 (0 : Int), .int .i64 (0 : Int), .int .u64 (0 : Int), .int .i64 (0 : Int), .int .u64 (0 : Int), .slice none 0 0] 47 fun g3 w4 => drewK w4 fun w5 => optP a0 fun p6 => ldI .i64 w5 (p6.add 22) fun x7 => ldI .i64 w5 (g1.add 0) fun x8 => ldI .u64 w5 (g1.add 1) fun x9 => ldI .i64 w5 (g1.add 2) fun x10 => ldI .i64 w5 (g1.add 3) fun x11 => ldI .i64 w5 ((g1.add 4).add 0) fun x12 => ldI .u64 w5 ((g1.add 4).add 1) fun x13 => ldI .u64 w5 (g1.add 7) fun x14 => newK w5 #[] 26 fun g15 w16 => (World.cell? w5 (g1.add 7) = some (.int .u64 x14) ∧ World.cell? w16 (g1.add 7) = some (.int .u64 x14)) ∧ ((∀ j u, ([.int .i64 x12, .int .u64 x13] : List Value)[j]? = some u → World.cell? w5 ((g1.add 4).add j) = some u) ∧ (∀ j u, ([.int .i64 x12, .int .u64 x13] : List Value)[j]? = some u → World.cell? w16 ((g1.add 4).add j) = some u)) ∧ (World.cell? w5 (g1.add 3) = some (.int .i64 x11) ∧ World.cell? w16 (g1.add 3) = some (.int .i64 x11)) ∧ (World.cell? w5 (g1.add 2) = some (.int .i64 x10) ∧ World.cell? w16 (g1.add 2) = some (.int .i64 x10)) ∧ (World.cell? w5 (g1.add 1) = some (.int .u64 x9) ∧ World.cell? w16 (g1.add 1) = some (.int .u64 x9)) ∧ (World.cell? w5 (g1.add 0) = some (.int .i64 x8) ∧ World.cell? w16 (g1.add 0) = some (.int .i64 x8)) ∧ (World.cell? w5 (p6.add 22) = some (.int .i64 x7) ∧ World.cell? w16 (p6.add 22) = some (.int .i64 x7)) ∧ ldSl w16 (g1.add 6) fun x17p x17n x17c => (World.cell? w5 (g1.add 6) = some (.slice x17p x17n x17c) ∧ World.cell? w16 (g1.add 6) = some (.slice x17p x17n x17c)) ∧ RunR Try.prog (Builtin.append_ #[27, 27] 27 #[.slice (some g15) 0 0, .slice x17p x17n x17c]) w16 fun v18 w19 => ∃ (s20p : Option Addr) (s20n s20c : Nat), v18 = .slice s20p s20n s20c ∧ (World.cell? w16 (g1.add 7) = some (.int .u64 x14) ∧ World.cell? w19 (g1.add 7) = some (.int .u64 x14)) ∧ ((∀ j u, ([.int .i64 x12, .int .u64 x13] : List Value)[j]? = some u → World.cell? w16 ((g1.add 4).add j) = some u) ∧ (∀ j u, ([.int .i64 x12, .int .u64 x13] : List Value)[j]? = some u → World.cell? w19 ((g1.add 4).add j) = some u)) ∧ (World.cell? w16 (g1.add 3) = some (.int .i64 x11) ∧ World.cell? w19 (g1.add 3) = some (.int .i64 x11)) ∧ (World.cell? w16 (g1.add 2) = some (.int .i64 x10) ∧ World.cell? w19 (g1.add 2) = some (.int .i64 x10)) ∧ (World.cell? w16 (g1.add 1) = some (.int .u64 x9) ∧ World.cell? w19 (g1.add 1) = some (.int .u64 x9)) ∧ (World.cell? w16 (g1.add 0) = some (.int .i64 x8) ∧ World.cell? w19 (g1.add 0) = some (.int .i64 x8)) ∧ (World.cell? w16 (p6.add 22) = some (.int .i64 x7) ∧ World.cell? w19 (p6.add 22) = some (.int .i64 x7)) ∧ stAll w19 g3 [.int .i64 (1 : Int), .int .i64 x7, .int .i64 x8, .int .u64 x9, .int .u64 a2, .int .i64 x10, .int .i64 x11, .int .i64 (0 : Int), .int .i64 x12, .int .u64 x13, .slice s20p s20n s20c, .int .u64 x14, .int .i64 (0 : Int), .int .u64 (0 : Int), .int .i64 (0 : Int), .int .u64 (0 : Int), .int .i64 (0 : Int), .int .u64 (0 : Int), .slice none 0 0] fun w21 => ldI .i64 w21 (g3.add 0) fun x22 => ldI .i64 w21 (g3.add 1) fun x23 => ldI .i64 w21 (g3.add 2) fun x24 => ldI .u64 w21 (g3.add 3) fun x25 => ldI .u64 w21 (g3.add 4) fun x26 => ldI .i64 w21 (g3.add 5) fun x27 => ldI .i64 w21 (g3.add 6) fun x28 => ldI .i64 w21 (g3.add 7) fun x29 => ldI .i64 w21 (g3.add 8) fun x30 => ldI .u64 w21 (g3.add 9) fun x31 => ldSl w21 (g3.add 10) fun x32p x32n x32c => ldI .u64 w21 (g3.add 11) fun x33 => ldI .i64 w21 (g3.add 12) fun x34 => ldI .u64 w21 (g3.add 13) fun x35 => ldI .i64 w21 (g3.add 14) fun x36 => ldI .u64 w21 (g3.add 15) fun x37 => ldI .i64 w21 (g3.add 16) fun x38 => ldI .u64 w21 (g3.add 17) fun x39 => ldSl w21 (g3.add 18) fun x40p x40n x40c => Q (.agg #[.int .i64 x22, .int .i64 x23, .int .i64 x24, .int .u64 x25, .int .u64 x26, .int .i64 x27, .int .i64 x28, .int .i64 x29, .int .i64 x30, .int .u64 x31, .slice x32p x32n x32c, .int .u64 x33, .int .i64 x34, .int .u64 x35, .int .i64 x36, .int .u64 x37, .int .i64 x38, .int .u64 x39, .slice x40p x40n x40c]) w21
def X31.S (Q : Value → World → Prop) : Segs
  | _, _, _, _ => False
noncomputable def X31.an : Ann := (.seq .leaf (.seq (.draw [0, 1, 3, 7, 0, 16, 0, 64, 0, 0, 512, 0, 2048, 0, 8192, 0, 32768, 0, 0, 262144, 917504, 2097151, 4194303] [[0, 1, 2, 3, 4, 5, 6, 7, 8, 9, 10, 11, 12, 13, 14, 15, 16, 17, 18, 19, 20, 21, 22]]) .leaf))
noncomputable def X31.c : Code := Try.f31.body.getD .skip
theorem X31.v (Q : Value → World → Prop) : V Try.prog (X31.S Q) X31.an X31.c (retC Try.prog Try.f31 Q) := ⟨trivial, ⟨trivial, trivial⟩⟩
theorem X31.sound (a0 : Option Addr) (a1_0 : Int) (a1_1 : Int) (a1_2 : Int) (a1_3 : Int) (a1_4 : Int) (a1_5 : Int) (a1_6p : Option Addr) (a1_6n : Nat) (a1_6c : Nat) (a1_7 : Int) (a1_8 : Int) (a1_9 : Int) (a1_10p : Option Addr) (a1_10n : Nat) (a1_10c : Nat) (a1_11 : Int) (a1_12 : Int) (a1_13 : Int) (a1_14 : Int) (a2 : Int) (w : World) (Q : Value → World → Prop) (h : X31.f a0 a1_0 a1_1 a1_2 a1_3 a1_4 a1_5 a1_6p a1_6n a1_6c a1_7 a1_8 a1_9 a1_10p a1_10n a1_10c a1_11 a1_12 a1_13 a1_14 a2 w Q) : CallR Try.prog 31 #[.pointer a0, .agg #[.int .i64 a1_0, .int .u64 a1_1, .int .i64 a1_2, .int .i64 a1_3, .int .i64 a1_4, .int .u64 a1_5, .slice a1_6p a1_6n a1_6c, .int .u64 a1_7, .int .i64 a1_8, .int .i64 a1_9, .slice a1_10p a1_10n a1_10c, .int .u64 a1_11, .int .u64 a1_12, .int .u64 a1_13, .int .u64 a1_14], .int .u64 a2] w Q :=
  fn_sound noGr mixed Try.func31 (c := X31.c) (an := X31.an) (S := X31.S Q) (φ := fun _ => 0) (args := [.pointer a0, .agg #[.int .i64 a1_0, .int .u64 a1_1, .int .i64 a1_2, .int .i64 a1_3, .int .i64 a1_4, .int .u64 a1_5, .slice a1_6p a1_6n a1_6c, .int .u64 a1_7, .int .i64 a1_8, .int .i64 a1_9, .slice a1_10p a1_10n a1_10c, .int .u64 a1_11, .int .u64 a1_12, .int .u64 a1_13, .int .u64 a1_14], .int .u64 a2]) (by kernel_rfl) (by kernel_rfl) (by kernel_rfl) (X31.v Q) (Eq.mp (by kernel_rfl) h)
/-! ### (*mooring/caller.Table).put: function 33 -/
def X33.f (a0 : Option Addr) (a1_0 : Int) (a1_1 : Int) (a1_2 : Int) (a1_3 : Int) (a1_4 : Int) (a1_5 : Int) (a1_6p : Option Addr) (a1_6n : Nat) (a1_6c : Nat) (a1_7 : Int) (a1_8 : Int) (a1_9 : Int) (a1_10p : Option Addr) (a1_10n : Nat) (a1_10c : Nat) (a1_11 : Int) (a1_12 : Int) (a1_13 : Int) (a1_14 : Int) (w : World) (Q : Value → World → Prop) : Prop := newK w #[.int .i64 a1_0, .int .u64 a1_1, .int .i64 a1_2, .int .i64 a1_3, .int .i64 a1_4, .int .u64 a1_5, .slice a1_6p a1_6n a1_6c, .int .u64 a1_7, .int .i64 a1_8, .int .i64 a1_9, .slice a1_10p a1_10n a1_10c, .int .u64 a1_11, .int .u64 a1_12, .int .u64 a1_13, .int .u64 a1_14] 44 fun g1 w2 => drewK w2 fun w3 => optP a0 fun p4 => ldP w3 (p4.add 25) fun x5 => ldI .i64 w3 (g1.add 0) fun x6 => ldI .u64 w3 (g1.add 1) fun x7 => CallR Try.prog 41 #[.int .i64 x6, .int .u64 x7] w3 fun v8 w9 => ∃ (y10 : Int), v8 = .int .u64 y10 ∧ (World.cell? w3 (p4.add 25) = some (.pointer x5) ∧ World.cell? w9 (p4.add 25) = some (.pointer x5)) ∧ ldI .i64 w9 (g1.add 0) fun x11 => ldI .u64 w9 (g1.add 1) fun x12 => ldI .i64 w9 (g1.add 2) fun x13 => ldI .i64 w9 (g1.add 3) fun x14 => ldI .i64 w9 (g1.add 4) fun x15 => ldI .u64 w9 (g1.add 5) fun x16 => ldSl w9 (g1.add 6) fun x17p x17n x17c => ldI .u64 w9 (g1.add 7) fun x18 => ldI .i64 w9 (g1.add 8) fun x19 => ldI .i64 w9 (g1.add 9) fun x20 => ldSl w9 (g1.add 10) fun x21p x21n x21c => ldI .u64 w9 (g1.add 11) fun x22 => ldI .u64 w9 (g1.add 12) fun x23 => ldI .u64 w9 (g1.add 13) fun x24 => ldI .u64 w9 (g1.add 14) fun x25 => ((∀ j u, ([.int .i64 x11, .int .u64 x12, .int .i64 x13, .int .i64 x14, .int .i64 x15, .int .u64 x16, .slice x17p x17n x17c, .int .u64 x18, .int .i64 x19, .int .i64 x20, .slice x21p x21n x21c, .int .u64 x22, .int .u64 x23, .int .u64 x24, .int .u64 x25] : List Value)[j]? = some u → World.cell? w3 (g1.add j) = some u) ∧ (∀ j u, ([.int .i64 x11, .int .u64 x12, .int .i64 x13, .int .i64 x14, .int .i64 x15, .int .u64 x16, .slice x17p x17n x17c, .int .u64 x18, .int .i64 x19, .int .i64 x20, .slice x21p x21n x21c, .int .u64 x22, .int .u64 x23, .int .u64 x24, .int .u64 x25] : List Value)[j]? = some u → World.cell? w9 (g1.add j) = some u)) ∧ CallR Try.prog 62 #[.pointer x5, .int .u64 y10, .agg #[.int .i64 x11, .int .u64 x12, .int .i64 x13, .int .i64 x14, .int .i64 x15, .int .u64 x16, .slice x17p x17n x17c, .int .u64 x18, .int .i64 x19, .int .i64 x20, .slice x21p x21n x21c, .int .u64 x22, .int .u64 x23, .int .u64 x24, .int .u64 x25]] w9 fun v26 w27 => ∃ (y28 : Bool), v26 = .bool y28 ∧ Q (.tuple #[]) w27
def X33.S (Q : Value → World → Prop) : Segs
  | _, _, _, _ => False
noncomputable def X33.an : Ann := (.seq .leaf (.draw [0, 1, 3, 7, 0, 16, 0, 64, 240, 0, 1023] [[0, 1, 2, 3, 4, 5, 6, 7, 8, 9, 10]]))
noncomputable def X33.c : Code := Try.f33.body.getD .skip
theorem X33.v (Q : Value → World → Prop) : V Try.prog (X33.S Q) X33.an X33.c (retC Try.prog Try.f33 Q) := ⟨trivial, trivial⟩
theorem X33.sound (a0 : Option Addr) (a1_0 : Int) (a1_1 : Int) (a1_2 : Int) (a1_3 : Int) (a1_4 : Int) (a1_5 : Int) (a1_6p : Option Addr) (a1_6n : Nat) (a1_6c : Nat) (a1_7 : Int) (a1_8 : Int) (a1_9 : Int) (a1_10p : Option Addr) (a1_10n : Nat) (a1_10c : Nat) (a1_11 : Int) (a1_12 : Int) (a1_13 : Int) (a1_14 : Int) (w : World) (Q : Value → World → Prop) (h : X33.f a0 a1_0 a1_1 a1_2 a1_3 a1_4 a1_5 a1_6p a1_6n a1_6c a1_7 a1_8 a1_9 a1_10p a1_10n a1_10c a1_11 a1_12 a1_13 a1_14 w Q) : CallR Try.prog 33 #[.pointer a0, .agg #[.int .i64 a1_0, .int .u64 a1_1, .int .i64 a1_2, .int .i64 a1_3, .int .i64 a1_4, .int .u64 a1_5, .slice a1_6p a1_6n a1_6c, .int .u64 a1_7, .int .i64 a1_8, .int .i64 a1_9, .slice a1_10p a1_10n a1_10c, .int .u64 a1_11, .int .u64 a1_12, .int .u64 a1_13, .int .u64 a1_14]] w Q :=
  fn_sound noGr mixed Try.func33 (c := X33.c) (an := X33.an) (S := X33.S Q) (φ := fun _ => 0) (args := [.pointer a0, .agg #[.int .i64 a1_0, .int .u64 a1_1, .int .i64 a1_2, .int .i64 a1_3, .int .i64 a1_4, .int .u64 a1_5, .slice a1_6p a1_6n a1_6c, .int .u64 a1_7, .int .i64 a1_8, .int .i64 a1_9, .slice a1_10p a1_10n a1_10c, .int .u64 a1_11, .int .u64 a1_12, .int .u64 a1_13, .int .u64 a1_14]]) (by kernel_rfl) (by kernel_rfl) (by kernel_rfl) (X33.v Q) (Eq.mp (by kernel_rfl) h)
/-! ### (*mooring/caller.Table).other: function 38 -/
def X38.f (a0 : Option Addr) (a1 : Int) (w : World) (Q : Value → World → Prop) : Prop := bcase (decide (a1 ≥ (1 : Int))) (optP a0 fun p1 => ldI .i64 w ((p1.add 0).add 0) fun x2 => bcase (decide (a1 ≤ x2)) (optP a0 fun p3 => ldI .i64 w (p3.add 22) fun x4 => Q (.bool (a1 != x4)) w) (Q (.bool false) w)) (Q (.bool false) w)
def X38.S (Q : Value → World → Prop) : Segs
  | _, _, _, _ => False
noncomputable def X38.an : Ann := (.seq .leaf (.seq .leaf .leaf))
noncomputable def X38.c : Code := Try.f38.body.getD .skip
theorem X38.v (Q : Value → World → Prop) : V Try.prog (X38.S Q) X38.an X38.c (retC Try.prog Try.f38 Q) := ⟨trivial, ⟨trivial, trivial⟩⟩
theorem X38.sound (a0 : Option Addr) (a1 : Int) (w : World) (Q : Value → World → Prop) (h : X38.f a0 a1 w Q) : CallR Try.prog 38 #[.pointer a0, .int .i64 a1] w Q :=
  fn_sound noGr mixed Try.func38 (c := X38.c) (an := X38.an) (S := X38.S Q) (φ := fun _ => 0) (args := [.pointer a0, .int .i64 a1]) (by kernel_rfl) (by kernel_rfl) (by kernel_rfl) (X38.v Q) (Eq.mp (by kernel_rfl) h)
/-! ### (*mooring/caller.Table).get: function 39 -/
def X39.f (a0 : Option Addr) (a1 : Int) (a2 : Int) (w : World) (Q : Value → World → Prop) : Prop := newK w #[.int .i64 (0 : Int), .int .u64 (0 : Int), .int .i64 (0 : Int), .int .i64 (0 : Int), .int .i64 (0 : Int), .int .u64 (0 : Int), .slice none 0 0, .int .u64 (0 : Int), .int .i64 (0 : Int), .int .i64 (0 : Int), .slice none 0 0, .int .u64 (0 : Int), .int .u64 (0 : Int), .int .u64 (0 : Int), .int .u64 (0 : Int)] 44 fun g1 w2 => CallR Try.prog 38 #[.pointer a0, .int .i64 a1] w2 fun v3 w4 => ∃ (y5 : Bool), v3 = .bool y5 ∧ bcase (!y5) (stAll w4 g1 [.int .i64 (0 : Int), .int .u64 (0 : Int), .int .i64 (0 : Int), .int .i64 (0 : Int), .int .i64 (0 : Int), .int .u64 (0 : Int), .slice none 0 0, .int .u64 (0 : Int), .int .i64 (0 : Int), .int .i64 (0 : Int), .slice none 0 0, .int .u64 (0 : Int), .int .u64 (0 : Int), .int .u64 (0 : Int), .int .u64 (0 : Int)] fun w6 => ldI .i64 w6 (g1.add 0) fun x7 => ldI .u64 w6 (g1.add 1) fun x8 => ldI .i64 w6 (g1.add 2) fun x9 => ldI .i64 w6 (g1.add 3) fun x10 => ldI .i64 w6 (g1.add 4) fun x11 => ldI .u64 w6 (g1.add 5) fun x12 => ldSl w6 (g1.add 6) fun x13p x13n x13c => ldI .u64 w6 (g1.add 7) fun x14 => ldI .i64 w6 (g1.add 8) fun x15 => ldI .i64 w6 (g1.add 9) fun x16 => ldSl w6 (g1.add 10) fun x17p x17n x17c => ldI .u64 w6 (g1.add 11) fun x18 => ldI .u64 w6 (g1.add 12) fun x19 => ldI .u64 w6 (g1.add 13) fun x20 => ldI .u64 w6 (g1.add 14) fun x21 => Q (.tuple #[.agg #[.int .i64 x7, .int .u64 x8, .int .i64 x9, .int .i64 x10, .int .i64 x11, .int .u64 x12, .slice x13p x13n x13c, .int .u64 x14, .int .i64 x15, .int .i64 x16, .slice x17p x17n x17c, .int .u64 x18, .int .u64 x19, .int .u64 x20, .int .u64 x21], .bool false]) w6) (bcase (decide (a2 > (72057594037927935 : Int))) (stAll w4 g1 [.int .i64 (0 : Int), .int .u64 (0 : Int), .int .i64 (0 : Int), .int .i64 (0 : Int), .int .i64 (0 : Int), .int .u64 (0 : Int), .slice none 0 0, .int .u64 (0 : Int), .int .i64 (0 : Int), .int .i64 (0 : Int), .slice none 0 0, .int .u64 (0 : Int), .int .u64 (0 : Int), .int .u64 (0 : Int), .int .u64 (0 : Int)] fun w22 => ldI .i64 w22 (g1.add 0) fun x23 => ldI .u64 w22 (g1.add 1) fun x24 => ldI .i64 w22 (g1.add 2) fun x25 => ldI .i64 w22 (g1.add 3) fun x26 => ldI .i64 w22 (g1.add 4) fun x27 => ldI .u64 w22 (g1.add 5) fun x28 => ldSl w22 (g1.add 6) fun x29p x29n x29c => ldI .u64 w22 (g1.add 7) fun x30 => ldI .i64 w22 (g1.add 8) fun x31 => ldI .i64 w22 (g1.add 9) fun x32 => ldSl w22 (g1.add 10) fun x33p x33n x33c => ldI .u64 w22 (g1.add 11) fun x34 => ldI .u64 w22 (g1.add 12) fun x35 => ldI .u64 w22 (g1.add 13) fun x36 => ldI .u64 w22 (g1.add 14) fun x37 => Q (.tuple #[.agg #[.int .i64 x23, .int .u64 x24, .int .i64 x25, .int .i64 x26, .int .i64 x27, .int .u64 x28, .slice x29p x29n x29c, .int .u64 x30, .int .i64 x31, .int .i64 x32, .slice x33p x33n x33c, .int .u64 x34, .int .u64 x35, .int .u64 x36, .int .u64 x37], .bool false]) w22) (drewK w4 fun w38 => optP a0 fun p39 => ldP w38 (p39.add 25) fun x40 => CallR Try.prog 41 #[.int .i64 a1, .int .u64 a2] w38 fun v41 w42 => ∃ (y43 : Int), v41 = .int .u64 y43 ∧ (World.cell? w38 (p39.add 25) = some (.pointer x40) ∧ World.cell? w42 (p39.add 25) = some (.pointer x40)) ∧ CallR Try.prog 35 #[.pointer x40, .int .u64 y43] w42 fun v44 w45 => ∃ (y46 : Int) (y47 : Int) (y48 : Int) (y49 : Int) (y50 : Int) (y51 : Int) (y52p : Option Addr) (y52n y52c : Nat) (y53 : Int) (y54 : Int) (y55 : Int) (y56p : Option Addr) (y56n y56c : Nat) (y57 : Int) (y58 : Int) (y59 : Int) (y60 : Int) (y61 : Bool), v44 = .tuple #[.agg #[.int .i64 y46, .int .u64 y47, .int .i64 y48, .int .i64 y49, .int .i64 y50, .int .u64 y51, .slice y52p y52n y52c, .int .u64 y53, .int .i64 y54, .int .i64 y55, .slice y56p y56n y56c, .int .u64 y57, .int .u64 y58, .int .u64 y59, .int .u64 y60], .bool y61] ∧ stAll w45 g1 [.int .i64 y46, .int .u64 y47, .int .i64 y48, .int .i64 y49, .int .i64 y50, .int .u64 y51, .slice y52p y52n y52c, .int .u64 y53, .int .i64 y54, .int .i64 y55, .slice y56p y56n y56c, .int .u64 y57, .int .u64 y58, .int .u64 y59, .int .u64 y60] fun w62 => ldI .i64 w62 (g1.add 0) fun x63 => ldI .u64 w62 (g1.add 1) fun x64 => ldI .i64 w62 (g1.add 2) fun x65 => ldI .i64 w62 (g1.add 3) fun x66 => ldI .i64 w62 (g1.add 4) fun x67 => ldI .u64 w62 (g1.add 5) fun x68 => ldSl w62 (g1.add 6) fun x69p x69n x69c => ldI .u64 w62 (g1.add 7) fun x70 => ldI .i64 w62 (g1.add 8) fun x71 => ldI .i64 w62 (g1.add 9) fun x72 => ldSl w62 (g1.add 10) fun x73p x73n x73c => ldI .u64 w62 (g1.add 11) fun x74 => ldI .u64 w62 (g1.add 12) fun x75 => ldI .u64 w62 (g1.add 13) fun x76 => ldI .u64 w62 (g1.add 14) fun x77 => Q (.tuple #[.agg #[.int .i64 x63, .int .u64 x64, .int .i64 x65, .int .i64 x66, .int .i64 x67, .int .u64 x68, .slice x69p x69n x69c, .int .u64 x70, .int .i64 x71, .int .i64 x72, .slice x73p x73n x73c, .int .u64 x74, .int .u64 x75, .int .u64 x76, .int .u64 x77], .bool y61]) w62))
def X39.S (Q : Value → World → Prop) : Segs
  | _, _, _, _ => False
noncomputable def X39.an : Ann := (.seq .leaf (.seq (.seq .leaf (.cond (.seq .leaf .leaf) .leaf)) (.seq (.draw [0, 1, 3, 7, 0, 0, 48, 127, 255, 255, 1023, 2047] [[0, 1, 2, 3, 4, 5, 6, 7, 8, 9, 10, 11]]) .leaf)))
noncomputable def X39.c : Code := Try.f39.body.getD .skip
theorem X39.v (Q : Value → World → Prop) : V Try.prog (X39.S Q) X39.an X39.c (retC Try.prog Try.f39 Q) := ⟨trivial, ⟨⟨trivial, ⟨⟨trivial, trivial⟩, trivial⟩⟩, ⟨trivial, trivial⟩⟩⟩
theorem X39.sound (a0 : Option Addr) (a1 : Int) (a2 : Int) (w : World) (Q : Value → World → Prop) (h : X39.f a0 a1 a2 w Q) : CallR Try.prog 39 #[.pointer a0, .int .i64 a1, .int .u64 a2] w Q :=
  fn_sound noGr mixed Try.func39 (c := X39.c) (an := X39.an) (S := X39.S Q) (φ := fun _ => 0) (args := [.pointer a0, .int .i64 a1, .int .u64 a2]) (by kernel_rfl) (by kernel_rfl) (by kernel_rfl) (X39.v Q) (Eq.mp (by kernel_rfl) h)
/-! ### mooring/caller.key: function 41 -/
def X41.f (a0 : Int) (a1 : Int) (w : World) (Q : Value → World → Prop) : Prop := CallR Try.prog 67 #[.agg #[.int .i64 a0, .int .u64 a1]] w fun v1 w2 => ∃ (y3 : Int), v1 = .int .u64 y3 ∧ Q (.int .u64 y3) w2
def X41.S (Q : Value → World → Prop) : Segs
  | _, _, _, _ => False
noncomputable def X41.an : Ann := (.seq .leaf (.seq .leaf .leaf))
noncomputable def X41.c : Code := Try.f41.body.getD .skip
theorem X41.v (Q : Value → World → Prop) : V Try.prog (X41.S Q) X41.an X41.c (retC Try.prog Try.f41 Q) := ⟨trivial, ⟨trivial, trivial⟩⟩
theorem X41.sound (a0 : Int) (a1 : Int) (w : World) (Q : Value → World → Prop) (h : X41.f a0 a1 w Q) : CallR Try.prog 41 #[.int .i64 a0, .int .u64 a1] w Q :=
  fn_sound noGr mixed Try.func41 (c := X41.c) (an := X41.an) (S := X41.S Q) (φ := fun _ => 0) (args := [.int .i64 a0, .int .u64 a1]) (by kernel_rfl) (by kernel_rfl) (by kernel_rfl) (X41.v Q) (Eq.mp (by kernel_rfl) h)
end Go.Proofs.YtdgoalhnkegbmaaX
namespace Go.Proofs.YtdgoalhnkegbmaaX
open Go.RowKit
set_option linter.unusedVariables false
structure Cfg where
  nodes : Int
  mutators : Int
  slots : Int
  cel : Int
  objects : Int
  stubs : Int
  calls : Int
  window : Int
  grey : Int
  bag : Int
  inbox : Int
  unit : Int
  drift : Int
  lease : Int
  wait : Int
  most : Int
  patience : Int
  suspect : Int
  trace : Int
  work : Int
  start : Int
  last : Int
deriving DecidableEq
def Cfg.cells (s : Cfg) : List Value := [.int .i64 s.nodes, .int .i64 s.mutators, .int .i64 s.slots, .int .i64 s.cel, .int .i64 s.objects, .int .i64 s.stubs, .int .i64 s.calls, .int .i64 s.window, .int .i64 s.grey, .int .i64 s.bag, .int .i64 s.inbox, .int .u64 s.unit, .int .u64 s.drift, .int .u64 s.lease, .int .u64 s.wait, .int .u64 s.most, .int .u64 s.patience, .int .i64 s.suspect, .int .i64 s.trace, .int .i64 s.work, .int .u64 s.start, .int .u64 s.last]
abbrev Cfg.val (s : Cfg) : Value := .agg #[.int .i64 s.nodes, .int .i64 s.mutators, .int .i64 s.slots, .int .i64 s.cel, .int .i64 s.objects, .int .i64 s.stubs, .int .i64 s.calls, .int .i64 s.window, .int .i64 s.grey, .int .i64 s.bag, .int .i64 s.inbox, .int .u64 s.unit, .int .u64 s.drift, .int .u64 s.lease, .int .u64 s.wait, .int .u64 s.most, .int .u64 s.patience, .int .i64 s.suspect, .int .i64 s.trace, .int .i64 s.work, .int .u64 s.start, .int .u64 s.last]
theorem Cfg.one (s : Cfg) : ∀ u ∈ s.cells, u.oneCell' = true := by
  intro u hu
  simp only [Cfg.cells, List.mem_cons, List.not_mem_nil, or_false] at hu
  rcases hu with rfl | rfl | rfl | rfl | rfl | rfl | rfl | rfl | rfl | rfl | rfl | rfl | rfl | rfl | rfl | rfl | rfl | rfl | rfl | rfl | rfl | rfl <;> rfl
theorem ld_Cfg {w : World} {p : Addr} {s : Cfg} {K : Int → Int → Int → Int → Int → Int → Int → Int → Int → Int → Int → Int → Int → Int → Int → Int → Int → Int → Int → Int → Int → Int → Prop} (h : At w p s.cells) (hk : K s.nodes s.mutators s.slots s.cel s.objects s.stubs s.calls s.window s.grey s.bag s.inbox s.unit s.drift s.lease s.wait s.most s.patience s.suspect s.trace s.work s.start s.last) :
    ldI .i64 w (p.add 0) fun x0 => ldI .i64 w (p.add 1) fun x1 => ldI .i64 w (p.add 2) fun x2 => ldI .i64 w (p.add 3) fun x3 => ldI .i64 w (p.add 4) fun x4 => ldI .i64 w (p.add 5) fun x5 => ldI .i64 w (p.add 6) fun x6 => ldI .i64 w (p.add 7) fun x7 => ldI .i64 w (p.add 8) fun x8 => ldI .i64 w (p.add 9) fun x9 => ldI .i64 w (p.add 10) fun x10 => ldI .u64 w (p.add 11) fun x11 => ldI .u64 w (p.add 12) fun x12 => ldI .u64 w (p.add 13) fun x13 => ldI .u64 w (p.add 14) fun x14 => ldI .u64 w (p.add 15) fun x15 => ldI .u64 w (p.add 16) fun x16 => ldI .i64 w (p.add 17) fun x17 => ldI .i64 w (p.add 18) fun x18 => ldI .i64 w (p.add 19) fun x19 => ldI .u64 w (p.add 20) fun x20 => ldI .u64 w (p.add 21) fun x21 => K x0 x1 x2 x3 x4 x5 x6 x7 x8 x9 x10 x11 x12 x13 x14 x15 x16 x17 x18 x19 x20 x21 := (ld_int (h 0 _ rfl) (ld_int (h 1 _ rfl) (ld_int (h 2 _ rfl) (ld_int (h 3 _ rfl) (ld_int (h 4 _ rfl) (ld_int (h 5 _ rfl) (ld_int (h 6 _ rfl) (ld_int (h 7 _ rfl) (ld_int (h 8 _ rfl) (ld_int (h 9 _ rfl) (ld_int (h 10 _ rfl) (ld_int (h 11 _ rfl) (ld_int (h 12 _ rfl) (ld_int (h 13 _ rfl) (ld_int (h 14 _ rfl) (ld_int (h 15 _ rfl) (ld_int (h 16 _ rfl) (ld_int (h 17 _ rfl) (ld_int (h 18 _ rfl) (ld_int (h 19 _ rfl) (ld_int (h 20 _ rfl) (ld_int (h 21 _ rfl) hk))))))))))))))))))))))
structure Raw where
  nodes : Int
  mutators : Int
  slots : Int
  cel : Int
  objects : Int
  stubs : Int
  calls : Int
  window : Int
  grey : Int
  bag : Int
  inbox : Int
  unit : Int
  drift : Int
  lease : Int
  wait : Int
  most : Int
  patience : Int
  suspect : Int
  trace : Int
  work : Int
  start : Int
  last : Int
deriving DecidableEq
def Raw.cells (s : Raw) : List Value := [.int .i64 s.nodes, .int .i64 s.mutators, .int .i64 s.slots, .int .i64 s.cel, .int .i64 s.objects, .int .i64 s.stubs, .int .i64 s.calls, .int .i64 s.window, .int .i64 s.grey, .int .i64 s.bag, .int .i64 s.inbox, .int .i64 s.unit, .int .i64 s.drift, .int .i64 s.lease, .int .i64 s.wait, .int .i64 s.most, .int .i64 s.patience, .int .i64 s.suspect, .int .i64 s.trace, .int .i64 s.work, .int .u64 s.start, .int .u64 s.last]
abbrev Raw.val (s : Raw) : Value := .agg #[.int .i64 s.nodes, .int .i64 s.mutators, .int .i64 s.slots, .int .i64 s.cel, .int .i64 s.objects, .int .i64 s.stubs, .int .i64 s.calls, .int .i64 s.window, .int .i64 s.grey, .int .i64 s.bag, .int .i64 s.inbox, .int .i64 s.unit, .int .i64 s.drift, .int .i64 s.lease, .int .i64 s.wait, .int .i64 s.most, .int .i64 s.patience, .int .i64 s.suspect, .int .i64 s.trace, .int .i64 s.work, .int .u64 s.start, .int .u64 s.last]
theorem ld_Raw {w : World} {p : Addr} {s : Raw} {K : Int → Int → Int → Int → Int → Int → Int → Int → Int → Int → Int → Int → Int → Int → Int → Int → Int → Int → Int → Int → Int → Int → Prop} (h : At w p s.cells) (hk : K s.nodes s.mutators s.slots s.cel s.objects s.stubs s.calls s.window s.grey s.bag s.inbox s.unit s.drift s.lease s.wait s.most s.patience s.suspect s.trace s.work s.start s.last) :
    ldI .i64 w (p.add 0) fun x0 => ldI .i64 w (p.add 1) fun x1 => ldI .i64 w (p.add 2) fun x2 => ldI .i64 w (p.add 3) fun x3 => ldI .i64 w (p.add 4) fun x4 => ldI .i64 w (p.add 5) fun x5 => ldI .i64 w (p.add 6) fun x6 => ldI .i64 w (p.add 7) fun x7 => ldI .i64 w (p.add 8) fun x8 => ldI .i64 w (p.add 9) fun x9 => ldI .i64 w (p.add 10) fun x10 => ldI .i64 w (p.add 11) fun x11 => ldI .i64 w (p.add 12) fun x12 => ldI .i64 w (p.add 13) fun x13 => ldI .i64 w (p.add 14) fun x14 => ldI .i64 w (p.add 15) fun x15 => ldI .i64 w (p.add 16) fun x16 => ldI .i64 w (p.add 17) fun x17 => ldI .i64 w (p.add 18) fun x18 => ldI .i64 w (p.add 19) fun x19 => ldI .u64 w (p.add 20) fun x20 => ldI .u64 w (p.add 21) fun x21 => K x0 x1 x2 x3 x4 x5 x6 x7 x8 x9 x10 x11 x12 x13 x14 x15 x16 x17 x18 x19 x20 x21 := (ld_int (h 0 _ rfl) (ld_int (h 1 _ rfl) (ld_int (h 2 _ rfl) (ld_int (h 3 _ rfl) (ld_int (h 4 _ rfl) (ld_int (h 5 _ rfl) (ld_int (h 6 _ rfl) (ld_int (h 7 _ rfl) (ld_int (h 8 _ rfl) (ld_int (h 9 _ rfl) (ld_int (h 10 _ rfl) (ld_int (h 11 _ rfl) (ld_int (h 12 _ rfl) (ld_int (h 13 _ rfl) (ld_int (h 14 _ rfl) (ld_int (h 15 _ rfl) (ld_int (h 16 _ rfl) (ld_int (h 17 _ rfl) (ld_int (h 18 _ rfl) (ld_int (h 19 _ rfl) (ld_int (h 20 _ rfl) (ld_int (h 21 _ rfl) hk))))))))))))))))))))))
structure Idn where
  nd : Int
  sr : Int
deriving DecidableEq
def Idn.cells (s : Idn) : List Value := [.int .i64 s.nd, .int .u64 s.sr]
structure Cl where
  to : Int
  num : Int
  op : Int
  field : Int
  tn : Int
  ts : Int
  refsp : Option Addr
  refsn : Nat
  refsc : Nat
  value : Int
  state : Int
  code : Int
  resultp : Option Addr
  resultn : Nat
  resultc : Nat
  back : Int
  sent : Int
  wait : Int
  born : Int
def Cl.cells (s : Cl) : List Value := [.int .i64 s.to, .int .u64 s.num, .int .i64 s.op, .int .i64 s.field, .int .i64 s.tn, .int .u64 s.ts, .slice s.refsp s.refsn s.refsc, .int .u64 s.value, .int .i64 s.state, .int .i64 s.code, .slice s.resultp s.resultn s.resultc, .int .u64 s.back, .int .u64 s.sent, .int .u64 s.wait, .int .u64 s.born]
abbrev Cl.val (s : Cl) : Value := .agg #[.int .i64 s.to, .int .u64 s.num, .int .i64 s.op, .int .i64 s.field, .int .i64 s.tn, .int .u64 s.ts, .slice s.refsp s.refsn s.refsc, .int .u64 s.value, .int .i64 s.state, .int .i64 s.code, .slice s.resultp s.resultn s.resultc, .int .u64 s.back, .int .u64 s.sent, .int .u64 s.wait, .int .u64 s.born]
theorem Cl.len (s : Cl) : s.cells.length = 15 := rfl
theorem Cl.one (s : Cl) : ∀ u ∈ s.cells, u.oneCell' = true := by
  intro u hu
  simp only [Cl.cells, List.mem_cons, List.not_mem_nil, or_false] at hu
  rcases hu with rfl | rfl | rfl | rfl | rfl | rfl | rfl | rfl | rfl | rfl | rfl | rfl | rfl | rfl | rfl <;> rfl
theorem ld_Cl {w : World} {p : Addr} {s : Cl} {K : Int → Int → Int → Int → Int → Int → Option Addr → Nat → Nat → Int → Int → Int → Option Addr → Nat → Nat → Int → Int → Int → Int → Prop} (h : At w p s.cells) (hk : K s.to s.num s.op s.field s.tn s.ts s.refsp s.refsn s.refsc s.value s.state s.code s.resultp s.resultn s.resultc s.back s.sent s.wait s.born) :
    ldI .i64 w (p.add 0) fun x0 => ldI .u64 w (p.add 1) fun x1 => ldI .i64 w (p.add 2) fun x2 => ldI .i64 w (p.add 3) fun x3 => ldI .i64 w (p.add 4) fun x4 => ldI .u64 w (p.add 5) fun x5 => ldSl w (p.add 6) fun x6p x6n x6c => ldI .u64 w (p.add 7) fun x7 => ldI .i64 w (p.add 8) fun x8 => ldI .i64 w (p.add 9) fun x9 => ldSl w (p.add 10) fun x10p x10n x10c => ldI .u64 w (p.add 11) fun x11 => ldI .u64 w (p.add 12) fun x12 => ldI .u64 w (p.add 13) fun x13 => ldI .u64 w (p.add 14) fun x14 => K x0 x1 x2 x3 x4 x5 x6p x6n x6c x7 x8 x9 x10p x10n x10c x11 x12 x13 x14 := (ld_int (h 0 _ rfl) (ld_int (h 1 _ rfl) (ld_int (h 2 _ rfl) (ld_int (h 3 _ rfl) (ld_int (h 4 _ rfl) (ld_int (h 5 _ rfl) (ld_sl (h 6 _ rfl) (ld_int (h 7 _ rfl) (ld_int (h 8 _ rfl) (ld_int (h 9 _ rfl) (ld_sl (h 10 _ rfl) (ld_int (h 11 _ rfl) (ld_int (h 12 _ rfl) (ld_int (h 13 _ rfl) (ld_int (h 14 _ rfl) hk)))))))))))))))
end Go.Proofs.YtdgoalhnkegbmaaX
namespace Go.Proofs.YtdgoalhnkegbmaaX
open Go.RowKit
set_option linter.unusedVariables false
set_option linter.unusedSimpArgs false
def vc_CB (e : Int × Cl) : List Value := e.2.cells
theorem vc_len_CB (e : Int × Cl) : (vc_CB e).length = 15 := e.2.len
structure Tab_CB (w : World) (a : Addr) (foot : List Nat) (most : Int) (l : List (Int × Cl)) (g : Nat) (pk pv : Option Addr) (ck cv : Nat) : Prop where
  ad : a = at0 g 0
  blk : Blk w g [.slice pk l.length ck, .slice pv l.length cv, .int .i64 most] 104
  ks : Own 22 1 w pk l.length ck ((keys l).map (Value.int .u64))
  vs : Own 44 15 w pv l.length cv (l.flatMap vc_CB)
  ft : foot = g :: (fbl pk ++ fbl pv)
  gk : g ∉ fbl pk
  gv : g ∉ fbl pv
  kv : ∀ x ∈ fbl pk, x ∉ fbl pv
  srt : Srt ilt (keys l)
  le : (l.length : Int) ≤ most
  top : most ≤ 4096
def T_CB (w : World) (a : Addr) (foot : List Nat) (most : Int) (l : List (Int × Cl)) : Prop := ∃ g pk pv ck cv, Tab_CB w a foot most l g pk pv ck cv
section
variable {w w' : World} {a : Addr} {foot S : List Nat} {most : Int} {l : List (Int × Cl)} {Q : Value → World → Prop}
theorem T_CB.keep (h : T_CB w a foot most l) (f : Fr S w w') (hd : ∀ x ∈ foot, x ∉ S) : T_CB w' a foot most l := by
  obtain ⟨g, pk, pv, ck, cv, t⟩ := h
  refine ⟨g, pk, pv, ck, cv, t.ad, t.blk.keep f (hd g ?_), t.ks.keep f (fun x hx => hd x ?_), t.vs.keep f (fun x hx => hd x ?_), t.ft, t.gk, t.gv, t.kv, t.srt, t.le, t.top⟩ <;> rw [t.ft] <;> simp_all
theorem T_CB.keep' (h : T_CB w a foot most l) (f : Fr [] w w') : T_CB w' a foot most l := h.keep f (by simp)
theorem T_CB.lt (h : T_CB w a foot most l) : ∀ x ∈ foot, x < w.heap.size := by
  obtain ⟨g, pk, pv, ck, cv, t⟩ := h
  intro x hx
  rw [t.ft] at hx
  rcases List.mem_cons.1 hx with rfl | hx
  · exact t.blk.lt
  · rcases List.mem_append.1 hx with hx | hx
    · exact t.ks.lt x hx
    · exact t.vs.lt x hx
theorem T_CB.sorted (h : T_CB w a foot most l) : Srt ilt (keys l) := by obtain ⟨g, pk, pv, ck, cv, t⟩ := h; exact t.srt
theorem T_CB.size (h : T_CB w a foot most l) : (l.length : Int) ≤ most ∧ most ≤ 4096 := by obtain ⟨g, pk, pv, ck, cv, t⟩ := h; exact ⟨t.le, t.top⟩
theorem fm_one_CB (l : List (Int × Cl)) : ∀ u ∈ l.flatMap vc_CB, u.oneCell' = true := by
  intro u hu
  obtain ⟨e, _, he⟩ := List.mem_flatMap.1 hu
  exact e.2.one u he
theorem km_one_CB (ks : List Int) : ∀ u ∈ ks.map (Value.int .u64), u.oneCell' = true := by
  intro u hu
  obtain ⟨e, _, rfl⟩ := List.mem_map.1 hu
  rfl
theorem new_CB {m : Int} (hbad : (m < 1 ∨ 4096 < m) → Q (.tuple #[.pointer none, .int .i64 1]) w)
    (hK : 1 ≤ m → m ≤ 4096 → ∀ w', T_CB w' (at0 w.heap.size 0) [w.heap.size] m [] → Fr [] w w' → Q (.tuple #[.pointer (some (at0 w.heap.size 0)), .int .i64 0]) w') :
    CallR Try.prog 28 #[.int .i64 m] w Q := by
  refine X28.sound _ _ _ ?_
  unfold X28.f
  refine bc_dec (fun h => hbad (.inl h)) (fun h => bc_dec (fun h2 => hbad (.inr h2)) (fun h2 => ?_))
  refine hK (by omega) (by omega) _ ⟨w.heap.size, none, none, 0, 0, rfl, Blk.made w _ _, Own.nil, Own.nil, rfl, by simp [fbl], by simp [fbl], by simp [fbl], List.Pairwise.nil, by simp; omega, by omega⟩ (Fr.alloc _ _)
theorem put_CB {k : Int} {v : Cl} (h : T_CB w a foot most l)
    (hno : has ilt l k = false → most ≤ l.length → ∀ w', Fr [] w w' → Q (.bool false) w')
    (hK : (has ilt l k = true ∨ (l.length : Int) < most) → ∀ foot' w', T_CB w' a foot' most (put ilt l k v) → Fr foot w w' → (∀ x ∈ foot', x ∈ foot ∨ w.heap.size ≤ x) → Q (.bool true) w') :
    CallR Try.prog 62 #[.pointer (some a), (Value.int .u64) k, v.val] w Q := by
  obtain ⟨g, pk, pv, ck, cv, t⟩ := h
  obtain ⟨rfl, hb, hk, hvs, hft, hgk, hgv, hkv, hs, hle, htop⟩ := t
  apply X62.sound
  unfold X62.f
  simp only [optP_some]
  refine newB fun gv w2 bv f2 hgv2 => ?_
  have hgl := hb.lt
  have hkl := hk.lt
  have hvl := hvs.lt
  have hb := hb.keep' f2
  have hk := hk.keep' f2
  have hvs := hvs.keep' f2
  refine ld_sl (hb.cat 0 _ rfl) (bs_64 hk.cells (by simp) hs (by omega) ⟨_, _, rfl, ?_⟩)
  have hat : rank ilt (keys l) k = at_ ilt l k := rfl
  have hhas : decide ((keys l)[at_ ilt l k]? = some k) = has ilt l k := rfl
  rw [hat, hhas]
  refine bc_bool (fun hh => ?_) (fun hh => ?_)
  · have hlt := at_lt hh
    refine drawn fun w9 f9 e9 => ?_
    have f09 := f2.tr f9
    refine ld_sl ((hb.keep' f9).cat 1 _ rfl) (ld_Cl (bv.keep' f9).cat ⟨⟨by omega, by omega⟩, ?_⟩)
    rw [Int.toNat_natCast]
    refine own_put vc_len_CB (hvs.keep' f9) hlt rfl (k, v) fun w22 o22 f22 => ?_
    have hput : put ilt l k v = l.set (at_ ilt l k) (k, v) := by unfold put; rw [if_pos hh]
    have hkeys : keys (put ilt l k v) = keys l := by
      rw [hput, keys, List.map_set]
      simp only [has, decide_eq_true_eq] at hh
      obtain ⟨h1, h2⟩ := List.getElem?_eq_some_iff.1 hh
      have : ((k, v).1 : Int) = (keys l)[at_ ilt l k] := h2.symm
      rw [this, List.set_getElem_self]
    have hln : (put ilt l k v).length = l.length := by rw [hput, List.length_set]
    refine hK (.inl hh) _ _ ⟨g, pk, pv, ck, cv, rfl, ?_, ?_, ?_, rfl, hgk, hgv, hkv, by rw [hkeys]; exact hs, by rw [hln]; exact hle, htop⟩ (f09.any.sub f22 fun x hx => by rw [hft]; simp [hx]) (fun x hx => .inl (by rw [hft]; exact hx))
    · rw [hln]; exact (hb.keep' f9).keep f22 hgv
    · rw [hln, hkeys]; exact (hk.keep' f9).keep f22 hkv
    · rw [hln, hput]; exact o22
  · refine drawn fun w9 f9 e9 => ?_
    have f09 := f2.tr f9
    have hb9 := hb.keep' f9
    refine ld_sl (hb9.cat 0 _ rfl) (ld_int (hb9.cat 2 _ rfl) (bc_dec (fun hge => ?_) (fun hlt => ?_)))
    · exact hno hh (by omega) _ f09
    · refine ld_sl (hb9.cat 0 _ rfl) (newB fun g1 w1 bk f1 hg1 => ?_)
      have f01 := f09.tr f1
      have s1 := f09.size
      have s2 := f01.size
      have hk1 := hk.keep' (f9.tr f1)
      have hv1 := hvs.keep' (f9.tr f1)
      have hb1 := hb9.keep' f1
      have bv1 := bv.keep' (f9.tr f1)
      have s02 := f2.size
      refine ins_90 hk1 (at_le l k) bk rfl (km_one_CB _) (fun u hu => by simp at hu; subst hu; rfl) (fun hm => by have := hkl _ hm; omega) (by omega) ?_
      intro pk' ck' w2 hk2 f2' e2
      refine ⟨_, _, _, rfl, ?_⟩
      have hb2 := hb1.keep f2' hgk
      have hv2 := hv1.keep f2' (fun x hx hm => hkv x hm hx)
      have bv2 := bv1.keep f2' (fun hm => by have := hkl _ hm; omega)
      refine stB hb2 (by simp) fun w3 hb3 f3 => ?_
      have hgk' : g ∉ fbl pk' := fun hm => by rcases e2 g hm with h | h; exact hgk h; omega
      have hk3 := hk2.keep f3 (fun x hx hm => hgk' (by simp at hm; rwa [← hm]))
      have hv3 := hv2.keep f3 (fun x hx hm => hgv (by simp at hm; rwa [← hm]))
      have bv3 := bv2.keep f3 (fun hm => by simp at hm; omega)
      have f03 : Fr (g :: fbl pk) w w3 := (f01.any.sub f2' fun x hx => by simp [hx]).inl f3 (by simp)
      have s3 := f03.size
      have s03 := f3.size
      have hkl2 := hk2.lt
      refine drawn fun w4 f4 e4 => ?_
      have hb4 := hb3.keep' f4
      refine ld_sl (hb4.cat 1 _ rfl) (ld_Cl (bv3.keep' f4).cat (newB fun g5 w5 b5 f5 hg5 => ⟨⟨hb4.cat 1 _ rfl, (hb4.keep' f5).cat 1 _ rfl⟩, ?_⟩))
      have f45 := f4.tr f5
      have hb5 := hb4.keep' f5
      have hk5 := hk3.keep' f45
      have hv5 := hv3.keep' f45
      have s5 := f45.size
      refine ins_91 hv5 (at_le l k) b5 v.len (fm_one_CB _) v.one (fun hm => by have := hvl _ hm; omega) (by omega) ?_
      intro pv' cv' w6 hv6 f6 e6
      refine ⟨_, _, _, rfl, ?_⟩
      have hb6 := hb5.keep f6 hgv
      have hkv' : ∀ x ∈ fbl pk', x ∉ fbl pv' := fun x hx hm => by
        have h1 := hkl2 x hx
        rcases e6 x hm with h | h
        · rcases e2 x hx with h' | h'
          · exact hkv x h' h
          · have := hvl x h; omega
        · omega
      have hk6 := hk5.keep f6 (fun x hx hm => by
        rcases e2 x hx with h' | h'
        · exact hkv x h' hm
        · have := hvl x hm; omega)
      have hgv' : g ∉ fbl pv' := fun hm => by rcases e6 g hm with h | h; exact hgv h; omega
      refine stB hb6 (by simp) fun w7 hb7 f7 => ?_
      have hk7 := hk6.keep f7 (fun x hx hm => hgk' (by simp at hm; rwa [← hm]))
      have hv7 := hv6.keep f7 (fun x hx hm => hgv' (by simp at hm; rwa [← hm]))
      have f07 : Fr foot w w7 := by
        rw [hft]
        exact (((f03.mono (fun x hx => by simp at hx; rcases hx with h | h <;> simp [h])).tr f45.any).sub f6 fun x hx => by simp [hx]).inl f7 (by simp)
      have hput : put ilt l k v = l.take (at_ ilt l k) ++ (k, v) :: l.drop (at_ ilt l k) := by unfold put; rw [if_neg (by simp [hh])]
      have hln : (put ilt l k v).length = l.length + 1 := by rw [put_length, if_neg (by simp [hh])]
      refine hK (.inr (by omega)) _ _ ⟨g, pk', pv', ck', cv', rfl, ?_, ?_, ?_, rfl, hgk', hgv', hkv', put_srt ilt_lin hs, by rw [hln]; omega, htop⟩ f07 ?_
      · rw [hln]; exact hb7
      · rw [hln, hput]
        have : (keys (l.take (at_ ilt l k) ++ (k, v) :: l.drop (at_ ilt l k))).map (Value.int .u64) = ((keys l).map (Value.int .u64)).take (at_ ilt l k * 1) ++ [(Value.int .u64) k] ++ ((keys l).map (Value.int .u64)).drop (at_ ilt l k * 1) := by
          simp [keys, List.map_take, List.map_drop]
        rw [this]; exact hk7
      · rw [hln, hput, flat_ins vc_len_CB]; exact hv7
      · intro x hx
        rw [hft]
        rcases List.mem_cons.1 hx with rfl | hx
        · exact .inl (by simp)
        · rcases List.mem_append.1 hx with hx | hx
          · rcases e2 x hx with h | h
            · exact .inl (by simp [h])
            · exact .inr (by omega)
          · rcases e6 x hx with h | h
            · exact .inl (by simp [h])
            · exact .inr (by omega)
theorem get_CB {k : Int} (h : T_CB w a foot most l) (hno : get ilt l k = none → ∀ w', Fr [] w w' → Q (.tuple #[(⟨0, 0, 0, 0, 0, 0, none, 0, 0, 0, 0, 0, none, 0, 0, 0, 0, 0, 0⟩ : Cl).val, .bool false]) w') (hK : ∀ v, get ilt l k = some v → ∀ w', Fr [] w w' → Q (.tuple #[v.val, .bool true]) w') :
    CallR Try.prog 35 #[.pointer (some a), (Value.int .u64) k] w Q := by
  obtain ⟨g, pk, pv, ck, cv, t⟩ := h
  obtain ⟨rfl, hb, hk, hvs, hft, hgk, hgv, hkv, hs, hle, htop⟩ := t
  refine X35.sound _ _ _ _ ?_
  unfold X35.f
  simp only [optP_some]
  refine newB fun g1 w2 b1 f2 hg1 => ?_
  have hb := hb.keep' f2
  have hk := hk.keep' f2
  have hvs := hvs.keep' f2
  refine ld_sl (hb.cat 0 _ rfl) (bs_64 hk.cells (by simp) hs (by omega) ⟨_, _, rfl, ?_⟩)
  have hat : rank ilt (keys l) k = at_ ilt l k := rfl
  have hhas : decide ((keys l)[at_ ilt l k]? = some k) = has ilt l k := rfl
  rw [hat, hhas]
  refine bc_bool (fun hh => ?_) (fun hh => ?_)
  · refine newB fun g9 w10 b9 f10 hg9 => ?_
    refine ld_Cl (s := ⟨0, 0, 0, 0, 0, 0, none, 0, 0, 0, 0, 0, none, 0, 0, 0, 0, 0, 0⟩) b9.cat (stAllB (b1.keep' f10) rfl fun w20 b20 f20 => ld_Cl (s := ⟨0, 0, 0, 0, 0, 0, none, 0, 0, 0, 0, 0, none, 0, 0, 0, 0, 0, 0⟩) b20.cat ?_)
    exact hno (by unfold get; rw [if_neg (by simpa using hh)]) _ ((f2.tr f10).loc f20 hg1)
  · have hh : has ilt l k = true := by simpa using hh
    have hlt := at_lt hh
    refine ld_sl (hb.cat 1 _ rfl) ⟨⟨by omega, by omega⟩, ?_⟩
    have hi := List.getElem?_eq_getElem hlt
    obtain ⟨p, hp, hc⟩ := own_at vc_len_CB hvs rfl hi
    rw [Int.toNat_natCast]
    refine opt_some hp (ld_Cl (s := (l[at_ ilt l k]).2) hc (stAllB b1 rfl fun w20 b20 f20 => ld_Cl (s := (l[at_ ilt l k]).2) b20.cat ?_))
    exact hK _ (by unfold get; rw [if_pos hh, hi]; rfl) _ (f2.loc f20 hg1)
end
end Go.Proofs.YtdgoalhnkegbmaaX
namespace Go.Proofs.YtdgoalhnkegbmaaX
open Go.RowKit
set_option linter.unusedVariables false
set_option linter.unusedSimpArgs false
theorem delMid65 {cur cs X zs : List Value} {a u : Nat} (h : a + u + cs.length ≤ cur.length) :
    ((cur.take a ++ cs ++ X).take (a + cs.length) ++ zs).take (a + cs.length) = cur.take a ++ cs := by
  have h1 : (cur.take a ++ cs).length = a + cs.length := by simp; omega
  rw [← h1, List.take_left, List.take_left]
theorem del_65 {w : World} {p : Option Addr} {n c i : Nat} {xs : List Value} {Q : Value → World → Prop} (ho : Own 22 1 w p n c xs) (hi : i < n) (h1 : ∀ v ∈ xs, v.oneCell' = true) (hn : n ≤ 1048576)
    (hK : ∀ w', Own 22 1 w' p (n - 1) c (xs.take (i * 1) ++ xs.drop ((i + 1) * 1)) → Fr (fbl p) w w' → Q (.slice p (n - 1) c) w') :
    CallR Try.prog 65 #[.slice p n c, .int .i64 (i : Int), .int .i64 (IntKind.wrap .i64 ((i : Int) + 1))] w Q := by
  have e2 : IntKind.wrap .i64 ((i : Int) + 1) = ((i + 1 : Nat) : Int) := by rw [i64w _ (by omega) (by omega)]; omega
  rw [e2]
  refine X65.sound _ _ _ _ _ _ _ ?_
  have hle := ho.le
  have hlen : xs.length = n * 1 := ho.len
  cases p with
  | none => have := ho.none_c; omega
  | some p =>
    have hmx := own_max ho
    obtain ⟨g, cur, rfl, hb, hcl, htk⟩ := Own.blk ho
    unfold X65.f
    simp only [toNat0, cutAt_zero', Nat.sub_zero, Int.toNat_natCast]
    refine slice3 rowT45 (by omega) (by omega) (by omega) ?_
    intro q
    refine ⟨_, _, _, rfl, bc_eq (fun h => by omega) (fun _ => ?_)⟩
    unfold drewK
    have hb1 := hb.keep' (Fr.drew (w := w))
    refine ⟨⟨by omega, by omega, by omega⟩, ⟨by omega, by omega, by omega⟩, ?_⟩
    obtain ⟨ti, z, hinf, hz, hsz, hby, hzs⟩ := rowT45.info
    have hzo : ∀ v ∈ zs (Value.int .u64 0) 1, v.oneCell' = true := by decide +kernel
    have hcs : (cur.drop ((i + 1) * 1)).take ((n - (i + 1)) * 1) = xs.drop ((i + 1) * 1) := by rw [← htk, List.drop_take, show (n - (i + 1)) * 1 = n * 1 - (i + 1) * 1 by omega]
    have hcl2 : (xs.drop ((i + 1) * 1)).length = (n - (i + 1)) * 1 := by rw [List.length_drop]; omega
    obtain ⟨o, ho2, hat⟩ : ∃ o, cutAt 1 c (i + 1) (some (at0 g 0)) = some (at0 g o) ∧ ∀ j u, (xs.drop ((i + 1) * 1))[j]? = some u → w.drew.cell? ((at0 g o).add j) = some u := by
      by_cases hc : c = i + 1
      · refine ⟨0, by unfold cutAt; rw [if_pos hc], fun j u hj => ?_⟩
        have : (xs.drop ((i + 1) * 1)) = [] := List.drop_eq_nil_of_le (by omega)
        rw [this] at hj
        cases hj
      · refine ⟨(i + 1) * 1, cut_at hc, fun j u hj => ?_⟩
        rw [add_at]
        refine hb1.cell ?_
        rw [← hcs, List.getElem?_take] at hj
        split at hj
        · rwa [List.getElem?_drop] at hj
        · cases hj
    rw [ho2]
    have hr := run_append_room (P := Try.prog) (w := w.drew) 45 45 22 ti rowT45.under hinf g i c cur.toArray hb1 (at0 g o) (n - (i + 1)) (c - (i + 1)) (xs.drop ((i + 1) * 1)) (by rw [hsz]; exact hcl2) hat (fun u hu => h1 u (List.mem_of_mem_drop hu)) (by omega) (by rw [hsz, hcl2]; simp; omega)
    refine ⟨_, _, hr, ?_⟩
    rw [show i + (n - (i + 1)) = n - 1 by omega, hsz]
    have f2 : Fr [g] w.drew (w.drew.setRow g (cur.toArray.toList.take (i * 1) ++ xs.drop ((i + 1) * 1) ++ cur.toArray.toList.drop (i * 1 + (xs.drop ((i + 1) * 1)).length)).toArray) := ⟨rfl, rfl, rfl, by simp, fun k _ hk => setRow_other _ g k _ (fun e => hk (by simp [e]))⟩
    have b2 : Blk (w.drew.setRow g (cur.toArray.toList.take (i * 1) ++ xs.drop ((i + 1) * 1) ++ cur.toArray.toList.drop (i * 1 + (xs.drop ((i + 1) * 1)).length)).toArray) g (cur.take (i * 1) ++ xs.drop ((i + 1) * 1) ++ cur.drop (i * 1 + (xs.drop ((i + 1) * 1)).length)) 22 := setRow_heap w.drew g cur.toArray _ 22 (0, 0) hb1
    generalize (w.drew.setRow g (cur.toArray.toList.take (i * 1) ++ xs.drop ((i + 1) * 1) ++ cur.toArray.toList.drop (i * 1 + (xs.drop ((i + 1) * 1)).length)).toArray) = w2 at b2 f2 ⊢
    refine ⟨_, _, _, rfl, ⟨by omega, by omega, by omega⟩, ?_⟩
    rw [show (⟨g, 0, none⟩ : Addr) = at0 g 0 from rfl]
    rw [cut_at (s := 1) (g := g) (show c ≠ n - 1 by omega), show n - (n - 1) = 1 by omega]
    have hz'' : (Try.prog.info? 22).bind (·.zero) = some (Value.int .u64 0) := zeroT45
    refine clear_blk rowT45 hz'' hzo b2 (by omega) (by rw [hcl2]; simp only [List.length_append, List.length_take, List.length_drop]; omega) ?_
    intro w3 b3 f3
    refine ⟨rfl, hK w3 (own_blk b3 ?_ (by omega) hmx ?_) ((Fr.drew.tr f2).tr f3)⟩
    · have : (zs (Value.int .u64 0) 1).length = 1 := by rw [zs_length]; rfl
      rw [List.length_append, List.length_append, this]
      simp only [List.length_append, List.length_take, List.length_drop]; omega
    · have a1 : xs.take (i * 1) = cur.take (i * 1) := by rw [← htk, List.take_take, Nat.min_eq_left (by omega)]
      rw [a1, show (n - 1) * 1 = i * 1 + (xs.drop ((i + 1) * 1)).length by rw [hcl2]; omega, List.append_assoc ((cur.take (i * 1) ++ xs.drop ((i + 1) * 1) ++ cur.drop (i * 1 + (xs.drop ((i + 1) * 1)).length)).take _)]
      exact delMid65 (u := 1) (by rw [hcl2]; omega)
end Go.Proofs.YtdgoalhnkegbmaaX
