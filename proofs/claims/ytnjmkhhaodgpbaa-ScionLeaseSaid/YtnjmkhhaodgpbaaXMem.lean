/- Memory: what a call leaves as it was; rows that are owned, and appends to them. -/
import Derived.Test.YtnjmkhhaodgpbaaXNum
import Derived.Laws.AppendOwn
import Derived.Laws.OwnMore
import Derived.Below
namespace Go.Proofs.YtnjmkhhaodgpbaaX
open Go.RowKit
set_option linter.unusedVariables false
set_option linter.unusedSimpArgs false

/-- Outside of the blocks S all that was there is as it was. -/
structure Fr (S : List Nat) (w w' : World) : Prop where
  os : w'.os = w.os
  tape : w'.tape = w.tape
  output : w'.output = w.output
  size : w.heap.size ≤ w'.heap.size
  block : ∀ k, k < w.heap.size → k ∉ S → w'.heap[k]? = w.heap[k]?
def fbl (p : Option Addr) : List Nat := match p with
  | some a => [a.block]
  | none => []
section
variable {S T : List Nat} {a b c w w' : World}
theorem Fr.refl (w : World) : Fr S w w := ⟨rfl, rfl, rfl, Nat.le_refl _, fun _ _ _ => rfl⟩
theorem Fr.trans (h : Fr S a b) (k : Fr T b c) (hT : ∀ x ∈ T, x ∈ S ∨ a.heap.size ≤ x) : Fr S a c :=
  ⟨k.os.trans h.os, k.tape.trans h.tape, k.output.trans h.output, Nat.le_trans h.size k.size, fun i hi hn =>
    (k.block i (Nat.lt_of_lt_of_le hi h.size) (fun hm => (hT i hm).elim hn (fun hl => absurd hi (by omega)))).trans (h.block i hi hn)⟩
theorem Fr.tr (h : Fr S a b) (k : Fr S b c) : Fr S a c := h.trans k fun x hx => .inl hx
theorem Fr.mono (h : Fr S a b) (hs : ∀ x ∈ S, x ∈ T) : Fr T a b := ⟨h.os, h.tape, h.output, h.size, fun k hk hn => h.block k hk (fun hm => hn (hs k hm))⟩
theorem Fr.any (h : Fr [] a b) : Fr T a b := h.mono fun x hx => by cases hx
theorem Fr.drew : Fr S w w.drew := ⟨rfl, rfl, rfl, Nat.le_refl _, fun _ _ _ => rfl⟩
theorem Fr.alloc (w : World) (o : Obj) : Fr S w (w.alloc o) := ⟨rfl, rfl, rfl, by simp, fun k hk _ => heap_alloc_old w o k hk⟩
theorem Fr.setCell {p : Addr} (hp : p.block ∈ S) (v : Value) : Fr S w (w.setCell p v) :=
  ⟨rfl, rfl, rfl, by simp, fun k hk hn => Below.heap_setCell _ _ _ _ (fun e => hn (e ▸ hp))⟩
theorem Fr.grown {row : Option Nat} (h : w.grownBy w' row) (hr : ∀ k, row = some k → k ∈ S) : Fr S w w' :=
  ⟨h.os, h.tape, h.output, h.size, fun k hk hn => h.block k hk (fun e => hn (hr k e.symm))⟩
theorem Fr.cell {p : Addr} {v : Value} (h : Fr S w w') (hc : w.cell? p = some v) (hn : p.block ∉ S) : w'.cell? p = some v :=
  (World.cell?_of_block (h.block p.block (World.block_lt_of_cell? w p hc) hn)).trans hc
theorem Fr.cell' {p : Addr} {v : Value} (h : Fr [] w w') (hc : w.cell? p = some v) : w'.cell? p = some v := h.cell hc (by simp)
theorem Fr.frozen {p : Addr} (h : Fr S w w') (hl : p.block < w.heap.size) (hn : p.block ∉ S) : w'.frozen? p = w.frozen? p := World.frozen?_of_block (h.block p.block hl hn)
theorem Fr.below {B : Nat} (h : Fr S w w') (hB : B ≤ w.heap.size) (hS : ∀ x ∈ S, B ≤ x) : Below B w w' :=
  ⟨h.os, h.tape, h.output, h.size, fun k hk => h.block k (by omega) (fun hm => absurd (hS k hm) (by omega))⟩
theorem Fr.of_below (h : Below w.heap.size w w') : Fr [] w w' := ⟨h.os, h.tape, h.output, h.size, fun k hk _ => h.block k hk⟩
theorem Fr.storeOk {p : Addr} (h : Fr S w w') (hs : StoreOk w p) (hn : p.block ∉ S) : StoreOk w' p := by
  obtain ⟨h1, h2⟩ := hs
  obtain ⟨v, hv⟩ := Option.isSome_iff_exists.1 h1
  exact ⟨by rw [h.cell hv hn]; rfl, by rw [h.frozen (World.block_lt_of_cell? w p hv) hn]; exact h2⟩
end

/-! ### What stands in memory, one behind the other -/
def Cells (w : World) (x : Option Addr) (us : List Value) : Prop := ∀ j u, us[j]? = some u → ∃ p, x = some p ∧ w.cell? (p.add j) = some u
section
variable {S T : List Nat} {w w' : World}
theorem Cells.keep {x : Option Addr} {us : List Value} (h : Fr S w w') (hc : Cells w x us) (hn : ∀ k ∈ fbl x, k ∉ S) : Cells w' x us := by
  intro j u hj
  obtain ⟨p, hp, hv⟩ := hc j u hj
  subst hp
  have hb : (p.add j).block = p.block := by unfold Addr.add; split <;> rfl
  exact ⟨p, rfl, h.cell hv (by rw [hb]; exact hn _ (by simp [fbl]))⟩
theorem Cells.keep' {x : Option Addr} {us : List Value} (h : Fr [] w w') (hc : Cells w x us) : Cells w' x us := hc.keep h (by simp)
theorem add_block (p : Addr) (j : Nat) : (p.add j).block = p.block := by unfold Addr.add; split <;> rfl
theorem add_add (p : Addr) (i j : Nat) : (p.add i).add j = p.add (i + j) := by
  unfold Addr.add
  by_cases h1 : i = 0
  · subst h1; simp
  · by_cases h2 : j = 0
    · subst h2; simp [h1]
    · rw [if_neg h1, if_neg h2, if_neg (by omega)]
      simp [Nat.add_assoc]
def u8s (bs : List Int) : List Value := bs.map (.int .u8)
@[simp] theorem u8s_length (bs : List Int) : (u8s bs).length = bs.length := by simp [u8s]
@[simp] theorem u8s_append (a b : List Int) : u8s (a ++ b) = u8s a ++ u8s b := by simp [u8s]
theorem u8s_one (bs : List Int) : ∀ u ∈ u8s bs, u.oneCell' = true := by
  intro u hu
  simp only [u8s, List.mem_map] at hu
  obtain ⟨b, _, rfl⟩ := hu
  rfl
theorem bytesAt_iff {x : Option Addr} {n : Nat} {bs : List Int} : BytesAt w x n bs ↔ bs.length = n ∧ Cells w x (u8s bs) := by
  unfold BytesAt Cells u8s
  constructor
  · rintro ⟨h1, h2⟩
    refine ⟨h1, fun j u hj => ?_⟩
    rw [List.getElem?_map] at hj
    cases hb : bs[j]? with
    | none => rw [hb] at hj; cases hj
    | some b => rw [hb] at hj; simp at hj; subst hj; exact h2 j b hb
  · rintro ⟨h1, h2⟩
    exact ⟨h1, fun j v hj => h2 j _ (by rw [List.getElem?_map, hj]; rfl)⟩
theorem BytesAt.keep {x : Option Addr} {n : Nat} {bs : List Int} (h : Fr S w w') (hb : BytesAt w x n bs) (hn : ∀ k ∈ fbl x, k ∉ S) : BytesAt w' x n bs := by
  rw [bytesAt_iff] at hb ⊢
  exact ⟨hb.1, hb.2.keep h hn⟩
theorem BytesAt.keep' {x : Option Addr} {n : Nat} {bs : List Int} (h : Fr [] w w') (hb : BytesAt w x n bs) : BytesAt w' x n bs := hb.keep h (by simp)
end

/-! ### One block -/
def at0 (g i : Nat) : Addr := ⟨g, i, none⟩
theorem add_at (g i j : Nat) : (at0 g i).add j = at0 g (i + j) := by unfold Addr.add at0; split <;> simp_all
/-- Block g is made of these cells, and nothing of it is frozen. -/
def Blk (w : World) (g : Nat) (cs : List Value) (e : TypeId) : Prop := w.heap[g]? = some (.cells cs.toArray e (0, 0))
section
variable {S : List Nat} {w w' : World} {g i : Nat} {cs : List Value} {e : TypeId} {v : Value}
theorem Blk.lt (h : Blk w g cs e) : g < w.heap.size := (Array.getElem?_eq_some_iff.1 h).1
theorem Blk.cell (h : Blk w g cs e) (hi : cs[i]? = some v) : w.cell? (at0 g i) = some v := by
  unfold Blk at h
  simp [World.cell?, at0, h, hi]
theorem Blk.storeOk (h : Blk w g cs e) (hi : i < cs.length) : StoreOk w (at0 g i) := by
  refine ⟨by rw [h.cell (List.getElem?_eq_getElem hi)]; rfl, ?_⟩
  unfold Blk at h
  simp [World.frozen?, at0, h]
theorem Blk.set (h : Blk w g cs e) (i : Nat) (v : Value) : Blk (w.setCell (at0 g i) v) g (cs.set i v) e := by
  have hlt := h.lt
  unfold Blk at h ⊢
  simp [World.setCell, at0, Array.getElem?_modify, h]
theorem Blk.keep (h : Blk w g cs e) (hf : Fr S w w') (hn : g ∉ S) : Blk w' g cs e := (hf.block g h.lt hn).trans h
theorem Blk.keep' (h : Blk w g cs e) (hf : Fr [] w w') : Blk w' g cs e := h.keep hf (by simp)
theorem Blk.made (w : World) (cs : Array Value) (e : TypeId) : Blk (w.alloc (.cells cs e)) w.heap.size cs.toList e := by
  unfold Blk
  exact heap_alloc_new w _
end
theorem ld_sl {w : World} {p : Addr} {a : Option Addr} {n c : Nat} {K : Option Addr → Nat → Nat → Prop} (h : w.cell? p = some (.slice a n c)) (hk : K a n c) : ldSl w p K := ⟨a, n, c, h, hk⟩
theorem ld_bool {w : World} {p : Addr} {x : Bool} {K : Bool → Prop} (h : w.cell? p = some (.bool x)) (hk : K x) : ldB w p K := ⟨x, h, hk⟩
theorem ld_ptr {w : World} {p : Addr} {x : Option Addr} {K : Option Addr → Prop} (h : w.cell? p = some (.pointer x)) (hk : K x) : ldP w p K := ⟨x, h, hk⟩
theorem ld_map {w : World} {p : Addr} {x : Option Nat} {K : Option Nat → Prop} (h : w.cell? p = some (.map x)) (hk : K x) : ldM w p K := ⟨x, h, hk⟩
/-- the mark of a text's bytes -/
theorem markStr_fr (w : World) (a : Addr) : Fr [a.block] w (markStr w a) := by
  unfold markStr
  split
  · refine ⟨rfl, rfl, rfl, by simp [World.freeze], fun k hk hn => ?_⟩
    have hne : a.block ≠ k := fun e => hn (by simp [e])
    simp [World.freeze, Array.getElem?_modify, hne]
  · exact Fr.refl w
theorem markStr_cell (w : World) (a p : Addr) : (markStr w a).cell? p = w.cell? p := by
  unfold markStr
  split
  · simp only [World.freeze, World.cell?, Array.getElem?_modify]
    simp only [if_neg (show ¬ (1 = 0) by omega)]
    by_cases h : a.block = p.block
    · simp only [if_pos h, Array.getElem?_modify]
      cases w.heap[p.block]? with
      | none => rfl
      | some o => cases o <;> rfl
    · simp only [Array.getElem?_modify, if_neg h]
  · rfl

/-! ### Owned rows -/
abbrev Own (e : TypeId) (sz : Nat) (w : World) (p : Option Addr) (n c : Nat) (xs : List Value) : Prop := w.ownsRow 0 e sz (.slice p n c) n xs
structure RowT (P : Program) (t e : TypeId) (sz bytes : Nat) : Prop where
  under : P.underlying t = some (.slice e)
  info : ∃ i z, P.info? e = some i ∧ i.zero = some z ∧ i.size = sz ∧ i.bytes = bytes ∧ z.cells.size = sz
  pos : 0 < sz
section
variable {P : Program} {t e : TypeId} {sz bytes : Nat} {w w' : World} {x : Option Addr} {n c m mc : Nat} {xs us : List Value} {S : List Nat}
theorem Own.keep {p : Option Addr} (h : Fr S w w') (ho : Own e sz w p n c xs) (hn : ∀ k ∈ fbl p, k ∉ S) : Own e sz w' p n c xs := by
  refine ⟨ho.1, ?_⟩
  rcases ho.2 with hv | ⟨g, cap, cur, hv, hb, hg, rest⟩
  · exact .inl hv
  · refine .inr ⟨g, cap, cur, hv, hb, ?_, rest⟩
    injection hv with h1 h2 h3
    rw [h.block g (Array.getElem?_eq_some_iff.1 hg).1 (hn _ (by rw [h1]; simp [fbl]))]
    exact hg
theorem Own.keep' {p : Option Addr} (h : Fr [] w w') (ho : Own e sz w p n c xs) : Own e sz w' p n c xs := ho.keep h (by simp)
theorem Own.lt {p : Option Addr} (ho : Own e sz w p n c xs) : ∀ k ∈ fbl p, k < w.heap.size := by
  intro k hk
  cases p with
  | none => cases hk
  | some a => exact (World.ownsRow.lt ho k (by simp [fbl] at hk; simp [Value.ownBlock, hk])).2
theorem Own.len {p : Option Addr} (ho : Own e sz w p n c xs) : xs.length = n * sz := ho.1
theorem Own.le {p : Option Addr} (ho : Own e sz w p n c xs) : n ≤ c := by
  rcases ho.2 with ⟨hv, hn⟩ | ⟨g, cap, cur, hv, _, _, hn, _⟩
  · injection hv with h1 h2 h3; omega
  · injection hv with h1 h2 h3; omega
theorem Own.nil : Own e sz w none 0 0 [] := World.ownsRow_nil w 0 e sz
theorem Own.none_c (ho : Own e sz w none n c xs) : n = 0 ∧ c = 0 ∧ xs = [] := by
  rcases ho.2 with ⟨hv, hn⟩ | ⟨g, cap, cur, hv, _⟩
  · injection hv with h1 h2 h3
    exact ⟨h2, h3, List.eq_nil_of_length_eq_zero (by rw [ho.1, h2]; simp)⟩
  · injection hv with h1 h2 h3; cases h1
theorem Own.cells {p : Option Addr} (ho : Own e sz w p n c xs) : Cells w p xs := by
  intro j u hj
  cases p with
  | none => obtain ⟨_, _, rfl⟩ := ho.none_c; simp at hj
  | some a =>
    rcases ho.2 with ⟨hv, hn⟩ | ⟨g, cap, cur, hv, hb, hg, rest⟩
    · injection hv with h1; cases h1
    · injection hv with h1 h2 h3
      injection h1 with h1
      subst h1
      exact ⟨_, rfl, World.ownsRow.cells ho (g := g) rfl j u hj⟩
/-- A row that was just made. -/
theorem Own.made (cs : Array Value) (k : Nat) (hm : k ≤ maxLen) (hs : cs.size = k * sz) : Own e sz (w.alloc (.cells cs e)) (some ⟨w.heap.size, 0, none⟩) k k cs.toList :=
  World.ownsRow_lit w cs k (Nat.zero_le _) hm hs
/-- A cell of an owned row. -/
theorem Own.blk {p : Addr} (ho : Own e sz w (some p) n c xs) : ∃ g cur, p = at0 g 0 ∧ Blk w g cur e ∧ cur.length = c * sz ∧ cur.take (n * sz) = xs := by
  rcases ho.2 with ⟨hv, _⟩ | ⟨g, cap, cur, hv, _, hg, _, _, hs, ht⟩
  · injection hv with h1; cases h1
  · injection hv with h1 h2 h3
    injection h1 with h1
    subst h1; subst h3
    exact ⟨g, cur.toList, rfl, hg, by simpa using hs, ht⟩
theorem Own.storeOk {p : Addr} (ho : Own e sz w (some p) n c xs) {i : Nat} (hi : i < xs.length) : StoreOk w (p.add i) := by
  obtain ⟨g, cur, rfl, hb, hl, ht⟩ := Own.blk ho
  rw [add_at, Nat.zero_add]
  refine hb.storeOk ?_
  have : i < (cur.take (n * sz)).length := by rw [ht]; exact hi
  simp at this
  omega
theorem Own.set {p : Addr} (ho : Own e sz w (some p) n c xs) {i : Nat} (hi : i < xs.length) (v : Value) : Own e sz (w.setCell (p.add i) v) (some p) n c (xs.set i v) := by
  have hle := Own.le ho
  have hlen := Own.len ho
  rcases ho.2 with ⟨hv, _⟩ | ⟨g, cap, cur, hv, _, hg, _, hm, hs, ht⟩
  · injection hv with h1; cases h1
  · injection hv with h1 h2 h3
    injection h1 with h1
    subst h1; subst h3
    refine ⟨by simpa using hlen, .inr ⟨g, c, cur.setIfInBounds i v, rfl, Nat.zero_le _, ?_, hle, hm, by simpa using hs, ?_⟩⟩
    · have hb : Blk w g cur.toList e := hg
      have := hb.set i v
      unfold Blk at this
      change (w.setCell ((at0 g 0).add i) v).heap[g]? = _
      rw [add_at, Nat.zero_add, this]
      have e1 : (cur.toList.set i v).toArray = cur.setIfInBounds i v := by apply Array.ext'; simp
      rw [e1]
    · simp only [Array.toList_setIfInBounds]
      rw [List.take_set, ht]
/-- What an append to an owned row comes to. -/
theorem app_own {p : Option Addr} (hT : RowT P t e sz bytes) {ty : TypeId} {K : Value → World → Prop} (ho : Own e sz w p n c xs) (hs : Cells w x us) (hl : us.length = m * sz) (h0 : x = none → mc = 0) (h1 : ∀ u ∈ us, u.oneCell' = true)
    (h63 : n + m ≤ maxLen) (hby : (n + m) * bytes ≤ 140737488355328)
    (hK : ∀ p' c' w', Own e sz w' p' (n + m) c' (xs ++ us) → Fr (fbl p) w w' → (∀ k ∈ fbl p', k ∈ fbl p ∨ w.heap.size ≤ k) → K (.slice p' (n + m) c') w') :
    RunR P (Builtin.append_ #[t, t] ty #[.slice p n c, .slice x m mc]) w K := by
  obtain ⟨i, z, hi, hz, hsz, hbyt, hzs⟩ := hT.info
  have ht := hT.under
  have hpos := hT.pos
  subst hsz
  subst hbyt
  have hsmall : n + m ≤ 9223372036854775807 := by simp only [maxLen] at h63; omega
  have hlen : (xs ++ us).length = (n + m) * i.size := by rw [List.length_append, ho.1, hl, Nat.add_mul]
  have grown : ∀ (old : Nat), old < n + m →
      Own e i.size (w.drew.alloc (.cells (xs.toArray ++ us.toArray ++ Builtin.zeroCells z.cells (grownCap w (n + m) old e - (n + m))) e)) (some ⟨w.heap.size, 0, none⟩) (n + m) (grownCap w (n + m) old e) (xs ++ us) := by
    intro old hold
    have hge := grownCap_ge w (n + m) old e
    have hcm : grownCap w (n + m) old e ≤ maxLen := grownCap_le_maxLen w (n + m) old e h63
    refine ⟨hlen, .inr ⟨w.heap.size, _, _, rfl, Nat.zero_le _, heap_alloc_new w.drew _, hge, hcm, ?_, ?_⟩⟩
    · simp only [Array.size_append, List.size_toArray, size_zeroCells, hzs, ho.1, hl, ← Nat.add_mul]
      congr 1
      omega
    · simp only [Array.toList_append, List.append_assoc]
      rw [← List.append_assoc, ← hlen]
      exact List.take_left
  cases x with
  | none =>
    have hus : us = [] := by
      cases us with
      | nil => rfl
      | cons u us => obtain ⟨q, hq, _⟩ := hs 0 u rfl; cases hq
    subst hus
    have hm : m = 0 := by
      rcases Nat.mul_eq_zero.1 (show m * i.size = 0 by simpa using hl.symm) with h | h
      · exact h
      · omega
    subst hm
    have := h0 rfl
    subst this
    have hr := run_append_owned_none (P := P) w 0 t ty e i i.size ht hi _ _ _ ho
    exact ⟨_, _, hr, hK p c w (by simpa using ho) (Fr.refl w) (fun k hk => .inl hk)⟩
  | some a =>
    have hnews : ∀ j u, us[j]? = some u → w.cell? (a.add j) = some u := fun j u hj => by
      obtain ⟨q, hq, hv⟩ := hs j u hj
      injection hq with hq
      subst hq
      exact hv
    rcases ho.2 with ⟨hv, hn⟩ | ⟨g, cap, cur, hv, hbg, hg, hnc, hcm, hcs, htake⟩
    · injection hv with e1 e2 e3
      subst e1
      subst e2
      subst e3
      have hx : xs = [] := List.eq_nil_of_length_eq_zero (by rw [ho.1]; simp)
      subst hx
      by_cases hm : m = 0
      · subst hm
        have hn : us = [] := List.eq_nil_of_length_eq_zero (by simpa using hl)
        subst hn
        refine ⟨.slice none 0 0, w, ?_, hK none 0 w (World.ownsRow_nil w 0 e i.size) (Fr.refl w) (fun k hk => .inl hk)⟩
        simp [Builtin.append_, run_underlying ht, sizeOf, typeInfo, hi, Builtin.lenOf, Builtin.firstCells, loadCells, loadCellsFrom]
      · have hr := run_append_nil (P := P) w t ty e i z ht hi hz a m mc us hl hnews (by omega) (by omega) (by have hb := hby; simp only [Nat.zero_add] at hb; omega)
        have hgr := grown 0 (by omega)
        simp only [Nat.zero_add, List.nil_append, Array.empty_append] at hgr hr hK
        exact ⟨_, _, hr, by
          have := hK (some ⟨w.heap.size, 0, none⟩) _ _ hgr ⟨rfl, rfl, rfl, by simp, fun k hk _ => heap_alloc_old w.drew _ k hk⟩ (fun k hk => .inr (by simp [fbl] at hk; omega))
          simpa using this⟩
    · injection hv with e1 e2 e3
      subst e1
      subst e3
      by_cases hroom : n + m ≤ c
      · have hfit : n * i.size + us.length ≤ cur.size := by rw [hl, hcs, ← Nat.add_mul]; exact Nat.mul_le_mul_right _ hroom
        have hr := run_append_room (P := P) w t ty e i ht hi g n c cur hg a m mc us hl hnews h1 hroom hfit
        refine ⟨_, _, hr, hK _ _ _ ⟨hlen, .inr ⟨g, c, _, rfl, hbg, setRow_heap w g cur _ e _ hg, hroom, hcm, ?_, ?_⟩⟩ ⟨rfl, rfl, rfl, by simp, fun k _ hk => setRow_other w g k _ (fun e => hk (by simp [fbl, e]))⟩ (fun k hk => .inl hk)⟩
        · simp only [List.size_toArray, List.length_append, List.length_take, List.length_drop, Array.length_toList]
          omega
        · rw [htake, ← hlen]
          exact List.take_left
      · have holds : ∀ j u, xs[j]? = some u → w.cell? ((⟨g, 0, none⟩ : Addr).add j) = some u := World.ownsRow.cells ho (g := g) rfl
        have hr := run_append_grow (P := P) w t ty e i z ht hi hz ⟨g, 0, none⟩ n c xs ho.1 holds a m mc us hl hnews (by omega) (by omega) (growslice_fits (by omega) hby)
        exact ⟨_, _, hr, hK _ _ _ (grown c (by omega)) ⟨rfl, rfl, rfl, by simp, fun k hk _ => heap_alloc_old w.drew _ k hk⟩ (fun k hk => .inr (by simp [fbl] at hk; omega))⟩
end
/-- n bytes of a slice -/
structure ByS (w : World) (x : Option Addr) (n c : Nat) (bs : List Int) : Prop where
  at_ : BytesAt w x n bs
  le : n ≤ c
  nil : x = none → c = 0
  wf : ∀ b ∈ bs, 0 ≤ b ∧ b ≤ 255
section
variable {w w' : World} {x : Option Addr} {n c : Nat} {bs : List Int} {S : List Nat}
theorem ByS.keep (h : Fr S w w') (hb : ByS w x n c bs) (hn : ∀ k ∈ fbl x, k ∉ S) : ByS w' x n c bs := ⟨hb.at_.keep h hn, hb.le, hb.nil, hb.wf⟩
theorem ByS.keep' (h : Fr [] w w') (hb : ByS w x n c bs) : ByS w' x n c bs := hb.keep h (by simp)
theorem ByS.len (hb : ByS w x n c bs) : bs.length = n := hb.at_.1
theorem ByS.cells (hb : ByS w x n c bs) : Cells w x (u8s bs) := (bytesAt_iff.1 hb.at_).2
theorem ByS.get (hb : ByS w x n c bs) {i : Nat} {b : Int} (hi : bs[i]? = some b) : ∃ p, x = some p ∧ w.cell? (p.add (i * 1)) = some (.int .u8 b) := by
  rw [Nat.mul_one]; exact hb.at_.2 i b hi
theorem ByS.take (hb : ByS w x n c bs) (k : Nat) (hk : k ≤ n) : ByS w x k c (bs.take k) :=
  ⟨⟨by simp [hb.len]; omega, fun j v hj => hb.at_.2 j v (by rw [List.getElem?_take] at hj; split at hj <;> simp_all)⟩, by have := hb.le; omega, hb.nil, fun b hm => hb.wf b (List.mem_of_mem_take hm)⟩
theorem ByS.nil' : ByS w none 0 0 [] := ⟨⟨rfl, by simp⟩, Nat.le_refl _, fun _ => rfl, by simp⟩
theorem ByS.empty {w : World} {x : Option Addr} {n c : Nat} (h : ByS w x n c []) (w' : World) : ByS w' x n c [] := ⟨⟨h.at_.1, by simp⟩, h.le, h.nil, h.wf⟩
theorem ByS.keepD {w w' : World} {S : List Nat} {x : Option Addr} {n c : Nat} {bs : List Int} (h : ByS w x n c bs) (hf : Fr S w w') (hn : bs ≠ [] → ∀ k ∈ fbl x, k ∉ S) : ByS w' x n c bs := by
  by_cases hb : bs = []
  · subst hb; exact h.empty w'
  · exact h.keep hf (hn hb)
theorem ByS.lt {w : World} {x : Option Addr} {n c : Nat} {bs : List Int} (h : ByS w x n c bs) (hb : bs ≠ []) : ∀ k ∈ fbl x, k < w.heap.size := by
  intro k hk
  cases bs with
  | nil => exact absurd rfl hb
  | cons b bs =>
    obtain ⟨p, hp, hc⟩ := h.at_.2 0 b rfl
    subst hp
    have := World.block_lt_of_cell? w _ hc
    rw [add_block] at this
    simp [fbl] at hk
    omega
/-- an owned row of bytes -/
theorem ByS.of_own {e : TypeId} (h : Own e 1 w x n c (u8s bs)) (hw : ∀ b ∈ bs, 0 ≤ b ∧ b ≤ 255) : ByS w x n c bs :=
  ⟨bytesAt_iff.2 ⟨by have := h.len; simpa using this, h.cells⟩, h.le, fun hx => by subst hx; exact h.none_c.2.1, hw⟩
theorem cutAt_zero (s c : Nat) (a : Option Addr) : cutAt s c 0 a = a := by
  unfold cutAt
  split
  · rfl
  · cases a <;> simp [Addr.add]
end
/-- An argument's numbers, as bytes. -/
theorem ByS.of_row {w : World} {x : Option Addr} {n c : Nat} {zs : List Int} (h : IsRow .u8 w x n c zs) : ByS w x n c (zs.take n) := by
  rcases h with ⟨rfl, rfl, rfl, rfl⟩ | ⟨a, rfl, hl, _, hz, hc, hw⟩
  · exact ByS.nil'
  · refine ⟨⟨by simp; omega, fun j v hj => ⟨a, rfl, ?_⟩⟩, hl, (fun h => by cases h), fun b hb => u8b (hw b (List.mem_of_mem_take hb))⟩
    rw [List.getElem?_take] at hj
    split at hj
    · rename_i hlt
      have hjz : j < zs.length := by omega
      rw [hc j hjz]
      simp [List.getD_eq_getElem?_getD, hj]
    · cases hj
end Go.Proofs.YtnjmkhhaodgpbaaX
