/- That the words of XCore are what the machine's operations do. -/
import Derived.Test.YtnjmkhhaodgpbaaXCore
namespace Go.Proofs.YtnjmkhhaodgpbaaX
open Go.RowKit
set_option linter.unusedVariables false
set_option linter.unusedSimpArgs false
section
variable {P : Program} {w : World}

theorem run_typeInfo {t : TypeId} {i : TypeInfo} (h : P.info? t = some i) : (typeInfo t).run P w = .ok i w := by
  simp [typeInfo, h]
theorem sizeT_info {t n : Nat} (h : sizeT P t = some n) : ∃ i, P.info? t = some i ∧ i.size = n := by
  simpa [sizeT] using h
theorem run_sizeOf {t n : Nat} (h : sizeT P t = some n) : (sizeOf t).run P w = .ok n w := by
  obtain ⟨i, hi, rfl⟩ := sizeT_info h
  simp [sizeOf, run_typeInfo hi]
theorem run_isAgg {t : TypeId} {b : Bool} (h : isAggT P t = some b) : (isAgg t).run P w = .ok b w := by
  unfold isAggT at h
  split at h
  · rename_i fs hu; simp only [Option.some.injEq] at h; subst h; simp [isAgg, run_underlying hu]
  · rename_i n e hu; simp only [Option.some.injEq] at h; subst h; simp [isAgg, run_underlying hu]
  · rename_i d h1 h2 hu
    simp only [Option.some.injEq] at h
    subst h
    simp only [isAgg, Sem.run_bind, run_underlying hu, Result.andThen_ok]
    cases d <;> first | rfl | (exfalso; exact h1 _ hu) | (exfalso; exact h2 _ _ hu)
  · cases h
theorem run_zero {t : TypeId} {z : List Value} (h : zeroV P t = some z) : ∃ i v, P.info? t = some i ∧ i.zero = some v ∧ cellsV v = z ∧ (zeroValue t).run P w = .ok v w := by
  simp only [zeroV, Option.bind_eq_some_iff, Option.map_eq_some_iff] at h
  obtain ⟨i, hi, v, hv, hz⟩ := h
  exact ⟨i, v, hi, hv, hz, by simp [zeroValue, run_typeInfo hi, hv]⟩
theorem cells_toList (v : Value) : v.cells.toList = cellsV v := by cases v <;> rfl

theorem loadW_run {t : TypeId} {x : Value} {K : Value → Prop} (h : loadW P t x w K) : ∃ v, K v ∧ (Instr.loadAt t x).run P w = .ok v w := by
  unfold loadW at h
  split at h
  · rename_i a
    obtain ⟨p, rfl, h⟩ := optP_elim h
    obtain ⟨ag, hag, h⟩ := om_elim h
    split at h
    · rename_i ps
      obtain ⟨n, hn, h⟩ := om_elim h
      cases hb : Nat.beq (cellPats P 9 t).length n with
      | false => rw [hb] at h; exact h.elim
      | true =>
        rw [hb] at h
        have hl := Nat.eq_of_beq_eq_true hb
        obtain ⟨vs, hvl, hE, hK⟩ := gotAll_elim h
        refine ⟨_, hK, ?_⟩
        have hc := run_loadCells_list (P := P) (w := w) p vs (fun j v hj => by simpa using hE j v hj)
        rw [hvl, hl] at hc
        simp [Instr.loadAt, Instr.sureAddr, loadVar, run_isAgg hag, run_sizeOf hn, hc]
    · rename_i q _ _
      obtain ⟨v, hv, hK⟩ := Pat.got_elim h
      refine ⟨v, hK, ?_⟩
      simp [Instr.loadAt, Instr.sureAddr, loadVar, run_isAgg hag, hv]
    · exact h.elim
  · exact h.elim

theorem storeOk_run {p : Addr} {v : Value} (h : StoreOk w p) (h1 : v.oneCell' = true) : (store p v).run P w = .ok () (w.setCell p v) := by
  obtain ⟨u, hu⟩ := Option.isSome_iff_exists.1 h.1
  rw [run_store P w p v _ h1, hu]
  simp [h.2]
theorem StoreOk.set {p q : Addr} {v : Value} (h : StoreOk w p) : StoreOk (w.setCell q v) p := by
  refine ⟨?_, by simpa using h.2⟩
  by_cases he : q = p
  · subst he
    obtain ⟨u, hu⟩ := Option.isSome_iff_exists.1 h.1
    rw [World.cell?_setCell_same _ _ _ hu]
    rfl
  · rw [World.cell?_setCell_other _ _ _ _ he]
    exact h.1
theorem storeCells_run {p : Addr} : ∀ (vs : List Value) (i : Nat) (w : World), (∀ j, j < vs.length → StoreOk w (p.add (i + j))) → oneCells vs = true → (storeCells p vs i).run P w = .ok () (putAll w p i vs)
  | [], _, _, _, _ => rfl
  | v :: vs, i, w, h, h1 => by
    simp only [oneCells, Bool.and_eq_true] at h1
    have h0 := storeOk_run (P := P) (h 0 (by simp)) h1.1
    simp only [Nat.add_zero] at h0
    have ih := storeCells_run vs (i + 1) (w.setCell (p.add i) v) (fun j hj => by
      have := h (j + 1) (by simpa using hj)
      rw [show i + 1 + j = i + (j + 1) by omega]
      exact this.set) h1.2
    simp only [storeCells, Sem.run_bind, h0, Result.andThen_ok, ih, putAll]

theorem storeW_run {t : TypeId} {x v : Value} {K : World → Prop} (h : storeW P t x v w K) : ∃ w', K w' ∧ (Instr.storeAt t x v).run P w = .ok () w' := by
  unfold storeW at h
  split at h
  · obtain ⟨p, rfl, h⟩ := optP_elim h
    obtain ⟨n, hn, h⟩ := om_elim h
    have one : ∀ u : Value, u.oneCell' = true → u.cells = #[u] → (bif Nat.beq 1 n then StoreOk w p ∧ K (w.setCell p u) else False) → ∃ w', K w' ∧ (Instr.storeAt t (.pointer (some p)) u).run P w = .ok () w' := by
      intro u hone hc h9
      cases hb : Nat.beq 1 n with
      | false => rw [hb] at h9; exact h9.elim
      | true =>
        rw [hb] at h9
        have hl := Nat.eq_of_beq_eq_true hb
        clear h
        subst hl
        refine ⟨_, h9.2, ?_⟩
        have hs := storeOk_run (P := P) h9.1 hone
        simp only [Instr.storeAt, Instr.sureAddr, storeVar, hc, Sem.run_bind, Sem.run_pure, Result.andThen_ok, run_sizeOf hn]
        simp [storeCells, Addr.add, hs]
    cases v with
    | agg cs =>
      simp only at h
      cases hb : (Nat.beq cs.toList.length n && oneCells cs.toList) with
      | false => rw [hb] at h; exact h.elim
      | true =>
        rw [hb] at h
        simp only [Bool.and_eq_true] at hb
        have hl := Nat.eq_of_beq_eq_true hb.1
        refine ⟨_, h.2, ?_⟩
        have hs := storeCells_run (P := P) (p := p) cs.toList 0 w (fun j hj => by simpa using h.1 j (by omega)) hb.2
        have hsz : cs.size = n := by simpa using hl
        simp [Instr.storeAt, Instr.sureAddr, storeVar, run_sizeOf hn, Value.cells, hs, hsz]
    | tuple vs => exact h.elim
    | _ => exact one _ rfl rfl h
  · exact h.elim

theorem fill_run (place : Nat → Option (Nat × Nat)) : ∀ (ps : List (Nat × Value)) (cs rs : List Value), fillV place cs ps = some rs → Instr.fill place ⟨cs⟩ ps = some ⟨rs⟩
  | [], cs, rs, h => by simp [fillV] at h; subst h; rfl
  | (i, v) :: rest, cs, rs, h => by
    simp only [fillV] at h
    split at h
    · cases h
    · rename_i off size hp
      cases hb : (Nat.beq (cellsV v).length size && Nat.ble (off + size) cs.length) with
      | false => rw [hb] at h; cases h
      | true =>
        rw [hb] at h
        simp only [Bool.and_eq_true] at hb
        have hl := Nat.eq_of_beq_eq_true hb.1
        have hle := Nat.le_of_ble_eq_true hb.2
        have hvs : v.cells.size = size := by rw [← hl, ← cells_toList, Array.length_toList]
        simp only [Instr.fill, hp]
        rw [if_neg (by simp [hvs]; exact hle)]
        have key : v.cells.zipIdx.foldl (fun cs (c, j) => cs.setIfInBounds (off + j) c) (⟨cs⟩ : Array Value) = ⟨cs.take off ++ (cellsV v ++ cs.drop (off + size))⟩ := by
          have gen : ∀ (xs : List Value) (k : Nat) (acc : Array Value), off + k + xs.length ≤ acc.size →
              ∀ m, ((xs.zipIdx k).foldl (fun cs (p : Value × Nat) => cs.setIfInBounds (off + p.2) p.1) acc)[m]? = if off + k ≤ m ∧ m < off + k + xs.length then xs[m - (off + k)]? else acc[m]? := by
            intro xs
            induction xs with
            | nil => intro k acc _ m; simp only [List.zipIdx_nil, List.foldl_nil, List.length_nil]; rw [if_neg (by omega)]
            | cons x xs ih =>
              intro k acc hk m
              simp only [List.length_cons] at hk ⊢
              simp only [List.zipIdx_cons, List.foldl_cons]
              rw [ih (k + 1) _ (by simp; omega) m]
              by_cases h1 : off + (k + 1) ≤ m ∧ m < off + (k + 1) + xs.length
              · rw [if_pos h1, if_pos (by omega), show m - (off + k) = (m - (off + (k + 1))) + 1 by omega, List.getElem?_cons_succ]
              · rw [if_neg h1]
                by_cases h2 : m = off + k
                · subst h2
                  rw [if_pos (by omega), Nat.sub_self, Array.getElem?_setIfInBounds_self_of_lt (by omega)]
                  rfl
                · rw [if_neg (by omega), Array.getElem?_setIfInBounds_ne (by omega)]
          apply Array.ext_getElem?
          intro m
          have hg := gen v.cells.toList 0 ⟨cs⟩ (by rw [cells_toList, hl]; simpa using hle) m
          rw [← Array.toList_zipIdx, Array.foldl_toList] at hg
          refine hg.trans ?_
          rw [cells_toList, hl]
          simp only [Nat.add_zero, List.getElem?_toArray]
          rcases Nat.lt_or_ge m off with hm | hm
          · rw [if_neg (by omega), List.getElem?_append_left (by simp; omega), List.getElem?_take, if_pos hm]
          · have hlen : (List.take off cs).length = off := by simp; omega
            rw [List.getElem?_append_right (by omega), hlen]
            by_cases hm2 : m < off + size
            · rw [if_pos ⟨hm, hm2⟩, List.getElem?_append_left (by omega)]
            · rw [if_neg (by omega), List.getElem?_append_right (by omega), List.getElem?_drop, hl]
              congr 1
              omega
        rw [key]
        exact fill_run place rest _ _ h

theorem zero_cells {t : TypeId} {z : List Value} (h : zeroV P t = some z) : ∃ v, v.cells = ⟨z⟩ ∧ ∀ w, (zeroValue t).run P w = .ok v w := by
  obtain ⟨i, v, hi, hv, hz, _⟩ := run_zero (w := default) h
  refine ⟨v, ?_, fun w => by simp [zeroValue, run_typeInfo hi, hv]⟩
  rw [← hz, ← cells_toList]
theorem run_places {fs : Array Field} (h : allSized P fs.toList = true) :
    (fs.mapM fun f => do pure (f.offset, ← sizeOf f.type) : Sem (Array (Nat × Nat))).run P w = .ok ⟨fs.toList.map fun f => (f.offset, (sizeT P f.type).getD 0)⟩ w := by
  rw [Array.mapM_eq_mapM_toList]
  have gen : ∀ (l : List Field), allSized P l = true → (l.mapM fun f => do pure (f.offset, ← sizeOf f.type) : Sem (List (Nat × Nat))).run P w = .ok (l.map fun f => (f.offset, (sizeT P f.type).getD 0)) w := by
    intro l
    induction l with
    | nil => intro _; rfl
    | cons f l ih =>
      intro hl
      simp only [allSized, List.all_cons, Bool.and_eq_true] at hl
      obtain ⟨n, hn⟩ := Option.isSome_iff_exists.1 hl.1
      have := ih (by simpa [allSized] using hl.2)
      simp only [List.mapM_cons, Sem.run_bind, run_sizeOf hn, Result.andThen_ok, Sem.run_pure, this, List.map_cons, hn, Option.getD_some]
  simp only [Sem.run_map, gen fs.toList h, Result.andThen_ok]
theorem buildW_run {t : TypeId} {ps : List (Nat × Value)} {K : Value → Prop} (h : buildW P t ps K) : ∃ v, K v ∧ ∀ w : World, (Instr.build t ⟨ps⟩).run P w = .ok v w := by
  obtain ⟨z, hz, h⟩ := om_elim h
  obtain ⟨d, hd, h⟩ := om_elim h
  obtain ⟨zv, hzc, hzr⟩ := zero_cells hz
  split at h
  · rename_i fs
    cases hb : allSized P fs.toList with
    | false => rw [hb] at h; exact h.elim
    | true =>
      rw [hb] at h
      obtain ⟨cs, hc, h⟩ := om_elim h
      refine ⟨_, h, ?_⟩
      have hpl : ∀ i, ((⟨fs.toList.map fun f => (f.offset, (sizeT P f.type).getD 0)⟩ : Array (Nat × Nat))[i]?) = placeV P fs.toList i := by
        intro i
        simp only [placeV, List.getElem?_toArray, List.getElem?_map]
        cases hf : fs.toList[i]? with
        | none => rfl
        | some f =>
          have hm : f ∈ fs.toList := List.mem_of_getElem? hf
          simp only [allSized, List.all_eq_true] at hb
          obtain ⟨n, hn⟩ := Option.isSome_iff_exists.1 (hb f hm)
          simp [hn]
      have hfill := fill_run (placeV P fs.toList) ps z cs hc
      have hfun : (fun i => (⟨fs.toList.map fun f => (f.offset, (sizeT P f.type).getD 0)⟩ : Array (Nat × Nat))[i]?) = placeV P fs.toList := funext hpl
      intro w
      simp only [Instr.build, Sem.run_bind, hzr, Result.andThen_ok, run_underlying hd, run_places hb, hzc, hfun, hfill]
      rfl
  · rename_i n e
    obtain ⟨s, hs, h⟩ := om_elim h
    obtain ⟨cs, hc, h⟩ := om_elim h
    refine ⟨_, h, ?_⟩
    have hfill := fill_run (fun i => some (i * s, s)) ps z cs hc
    intro w
    simp only [Instr.build, Sem.run_bind, hzr, Result.andThen_ok, run_underlying hd, run_sizeOf hs, hzc, hfill]
    rfl
  · exact h.elim
theorem repV_length (z : List Value) : ∀ n, (repV n z).length = n * z.length
  | 0 => by simp [repV]
  | n + 1 => by rw [repV, List.length_append, repV_length z n, Nat.succ_mul]; omega
theorem repV_get {z : List Value} (hz : 0 < z.length) : ∀ (n i : Nat), i < n * z.length → (repV n z)[i]? = z[i % z.length]?
  | 0, i, h => by omega
  | n + 1, i, h => by
    rw [repV]
    by_cases hi : i < z.length
    · rw [List.getElem?_append_left hi, Nat.mod_eq_of_lt hi]
    · rw [List.getElem?_append_right (by omega), repV_get hz n (i - z.length) (by rw [Nat.succ_mul] at h; omega)]
      congr 1
      conv => rhs; rw [← Nat.sub_add_cancel (show z.length ≤ i by omega), Nat.add_mod_right]
theorem rep_range {z : List Value} (hz : 0 < z.length) (n : Nat) : ((Array.range (n * z.length)).map fun i => (⟨z⟩ : Array Value)[i % (⟨z⟩ : Array Value).size]!) = ⟨repV n z⟩ := by
  apply Array.ext'
  apply List.ext_getElem?
  intro i
  have hm := Nat.mod_lt i hz
  by_cases hi : i < n * z.length
  · rw [repV_get hz n i hi]
    simp [hi, List.getElem?_eq_getElem hm]
  · have hr : (repV n z)[i]? = none := List.getElem?_eq_none (by rw [repV_length]; omega)
    rw [hr]
    simp [hi]
theorem buildSliceW_run {t : TypeId} {len : Nat} {ps : List (Nat × Value)} {K : Value → World → Prop} (h : buildSliceW P t len ps w K) : ∃ v w', K v w' ∧ (Instr.buildSlice t len ⟨ps⟩).run P w = .ok v w' := by
  obtain ⟨d, hd, h⟩ := om_elim h
  split at h
  · rename_i e
    obtain ⟨s, hs, h⟩ := om_elim h
    obtain ⟨z, hz, h⟩ := om_elim h
    cases hb : (Nat.ble (len * s) 16777216 && Nat.beq z.length s && Nat.ble 1 s) with
    | false => rw [hb] at h; exact h.elim
    | true =>
      rw [hb] at h
      simp only [Bool.and_eq_true] at hb
      obtain ⟨⟨h1, h2⟩, h3⟩ := hb
      have h1 := Nat.le_of_ble_eq_true h1
      have h2 := Nat.eq_of_beq_eq_true h2
      have h3 := Nat.le_of_ble_eq_true h3
      obtain ⟨cs, hc, h⟩ := om_elim h
      obtain ⟨zv, hzc, hzr⟩ := zero_cells hz
      refine ⟨_, _, h, ?_⟩
      have hfill := fill_run (fun i => some (i * s, s)) ps (repV len z) cs hc
      subst h2
      have hrep := rep_range (z := z) (by omega) len
      by_cases h0 : len * z.length = 0
      · have hl0 : len = 0 := by
          rcases Nat.mul_eq_zero.1 h0 with h | h
          · exact h
          · omega
        subst hl0
        simp only [Instr.buildSlice, Sem.run_bind, run_underlying hd, Result.andThen_ok, run_sizeOf hs]
        simp only [Nat.zero_mul] at *
        simp only [repV] at hfill
        have hr0 : (Array.map (fun _ => (default : Value)) (Array.range 0)) = ⟨[]⟩ := by simp
        simp [hr0, hfill, newRow]
      · simp only [Instr.buildSlice, Sem.run_bind, run_underlying hd, Result.andThen_ok, run_sizeOf hs]
        rw [if_neg (by omega), if_neg h0]
        simp only [Sem.run_bind, hzr, Result.andThen_ok, Sem.run_pure, hzc, hrep, hfill]
        simp [newRow]
  · exact h.elim
theorem fieldW_run {s : TypeId} {x : Value} {i : Nat} {K : Value → Prop} (h : fieldW P s x i K) : ∃ v, K v ∧ ∀ w : World, (Instr.fieldAt s x i).run P w = .ok v w := by
  unfold fieldW at h
  split at h
  · obtain ⟨p, rfl, h⟩ := optP_elim h
    obtain ⟨d, hd, h⟩ := om_elim h
    split at h
    · rename_i fs
      obtain ⟨f, hf, h⟩ := om_elim h
      obtain ⟨n, hn, h⟩ := om_elim h
      cases hb : Nat.beq n 0 with
      | true => rw [hb] at h; exact h.elim
      | false =>
        rw [hb] at h
        have hne : n ≠ 0 := fun e => by subst e; cases hb
        refine ⟨_, h, ?_⟩
        have hf' : fs[i]? = some f := by simpa using hf
        intro w
        simp [Instr.fieldAt, run_underlying hd, hf', Instr.sureAddr, fieldPlace, run_sizeOf hn, hne]
    · exact h.elim
  · exact h.elim
theorem indexW_run {t : TypeId} {x i : Value} {K : Value → Prop} (h : indexW P t x i K) : ∃ v, K v ∧ ∀ w : World, (Instr.indexAt t x i).run P w = .ok v w := by
  unfold indexW at h
  split at h
  · rename_i a n c k i
    obtain ⟨d, hd, h⟩ := om_elim h
    split at h
    · rename_i e
      obtain ⟨s, hs, ⟨h0, h1⟩, h⟩ := om_elim h
      obtain ⟨p, rfl, h⟩ := optP_elim h
      refine ⟨_, h, ?_⟩
      intro w
      simp [Instr.indexAt, asIntOf, run_underlying hd, h0, h1, run_sizeOf hs]
    · exact h.elim
  · rename_i a k i
    obtain ⟨d, hd, h⟩ := om_elim h
    split at h
    · rename_i n e
      obtain ⟨s, hs, ⟨h0, h1⟩, h⟩ := om_elim h
      obtain ⟨p, rfl, h⟩ := optP_elim h
      refine ⟨_, h, ?_⟩
      intro w
      simp [Instr.indexAt, asIntOf, run_underlying hd, Instr.sureAddr, h0, h1, run_sizeOf hs]
    · exact h.elim
  · exact h.elim
theorem idxW_run {t : TypeId} {x i : Value} {K : Value → Prop} (h : idxW P t x i K) : ∃ v, K v ∧ ∀ w : World, (Instr.index t x i).run P w = .ok v w := by
  unfold idxW at h
  split at h
  · rename_i s k i
    obtain ⟨d, hd, h⟩ := om_elim h
    split at h
    · obtain ⟨⟨h0, h1⟩, h⟩ := h
      refine ⟨_, h, ?_⟩
      have hlt : i.toNat < s.size := by omega
      have hg : s[i.toNat]? = some (s[i.toNat]'hlt) := getElem?_pos s i.toNat hlt
      intro w
      simp [Instr.index, asIntOf, run_underlying hd, h0, hg, byteAt, hlt]
    · exact h.elim
  · exact h.elim
theorem bound_run {x : Value} {y : Nat} {code : BoundsCode} {i : Int} {k : IntKind} (hx : x = .int k i) (h0 : 0 ≤ i) (h1 : i ≤ (y : Int)) : (Instr.sliceBound x y code).run P w = .ok i.toNat w := by
  subst hx
  simp [Instr.sliceBound, asIntOf, h0, h1]
theorem boundV_elim {d : Nat} {o : Option Value} {K : Int → Prop} (h : boundV d o K) : (o = none ∧ K (d : Int)) ∨ ∃ k i, o = some (.int k i) ∧ K i := by
  unfold boundV at h
  split at h
  · exact .inl ⟨rfl, h⟩
  · exact .inr ⟨_, _, rfl, h⟩
  · exact h.elim
theorem sliceBounds_run {isS : Bool} {n c : Nat} {lo hi : Option Value} {l h : Int}
    (hh : (hi = none ∧ h = (n : Int)) ∨ ∃ k, hi = some (.int k h)) (hl : (lo = none ∧ l = 0) ∨ ∃ k, lo = some (.int k l)) (h0 : 0 ≤ l) (h1 : l ≤ h) (h2 : h ≤ (c : Int)) :
    (Instr.sliceBounds isS n c lo hi none).run P w = .ok (l.toNat, h.toNat, c) w := by
  have e2 : ∃ z : Unit, (match hi, (none : Option Value) with
      | some v, some _ => Instr.sliceBound v c .slice3B
      | some v, none => Instr.sliceBound v c (if isS then .sliceAcap else .sliceAlen)
      | none, none => pure n
      | none, some _ => stuck "Slice: max without high" : Sem Nat).run P w = .ok h.toNat w := by
    refine ⟨(), ?_⟩
    rcases hh with ⟨rfl, rfl⟩ | ⟨k, rfl⟩
    · simp
    · exact bound_run rfl (by omega) (by omega)
  have e1 : ∃ z : Unit, (match lo with
      | some v => Instr.sliceBound v h.toNat .sliceB
      | none => pure 0 : Sem Nat).run P w = .ok l.toNat w := by
    refine ⟨(), ?_⟩
    rcases hl with ⟨rfl, rfl⟩ | ⟨k, rfl⟩
    · simp
    · exact bound_run rfl (by omega) (by omega)
  obtain ⟨_, e2⟩ := e2
  obtain ⟨_, e1⟩ := e1
  simp only [Instr.sliceBounds, Sem.run_bind, Sem.run_pure, Result.andThen_ok]
  rcases hh with ⟨rfl, rfl⟩ | ⟨k, rfl⟩ <;> rcases hl with ⟨rfl, rfl⟩ | ⟨k', rfl⟩ <;> simp_all
theorem sliceW_run {t : TypeId} {x : Value} {lo hi : Option Value} {K : Value → Prop} (h : sliceW P t x lo hi K) : ∃ v, K v ∧ ∀ w : World, (Instr.sliceAt t x lo hi none).run P w = .ok v w := by
  unfold sliceW at h
  split at h
  · rename_i a n c
    obtain ⟨d, hd, h⟩ := om_elim h
    split at h
    · rename_i e
      obtain ⟨s, hs, h⟩ := om_elim h
      have key : ∀ hh ll, ((hi = none ∧ hh = (n : Int)) ∨ ∃ k, hi = some (.int k hh)) → ((lo = none ∧ ll = 0) ∨ ∃ k, lo = some (.int k ll)) → 0 ≤ ll ∧ ll ≤ hh ∧ hh ≤ (c : Int) →
          ∀ w : World, (Instr.sliceAt t (.slice a n c) lo hi none).run P w = .ok (.slice (cutAt s c ll.toNat a) (hh.toNat - ll.toNat) (c - ll.toNat)) w := by
        intro hh ll e1 e2 ⟨h0, h1, h2⟩ w
        have hb := sliceBounds_run (P := P) (w := w) (isS := true) e1 e2 h0 h1 h2
        simp [Instr.sliceAt, Instr.slice, run_underlying hd, hb, run_sizeOf hs, cutAt]
      rcases boundV_elim h with ⟨rfl, h5⟩ | ⟨k, hh, rfl, h5⟩ <;> rcases boundV_elim h5 with ⟨rfl, h6⟩ | ⟨k', ll, rfl, h6⟩
      · exact ⟨_, h6.2, key _ _ (.inl ⟨rfl, rfl⟩) (.inl ⟨rfl, rfl⟩) h6.1⟩
      · exact ⟨_, h6.2, key _ _ (.inl ⟨rfl, rfl⟩) (.inr ⟨_, rfl⟩) h6.1⟩
      · exact ⟨_, h6.2, key _ _ (.inr ⟨_, rfl⟩) (.inl ⟨rfl, rfl⟩) h6.1⟩
      · exact ⟨_, h6.2, key _ _ (.inr ⟨_, rfl⟩) (.inr ⟨_, rfl⟩) h6.1⟩
    · exact h.elim
  · rename_i b
    obtain ⟨d, hd, h⟩ := om_elim h
    split at h
    · have key : ∀ hh ll, ((hi = none ∧ hh = (b.size : Int)) ∨ ∃ k, hi = some (.int k hh)) → ((lo = none ∧ ll = 0) ∨ ∃ k, lo = some (.int k ll)) → 0 ≤ ll ∧ ll ≤ hh ∧ hh ≤ (b.size : Int) →
          ∀ w : World, (Instr.sliceAt t (.string b) lo hi none).run P w = .ok (.string (b.extract ll.toNat hh.toNat)) w := by
        intro hh ll e1 e2 ⟨h0, h1, h2⟩ w
        have hb := sliceBounds_run (P := P) (w := w) (isS := false) e1 e2 h0 h1 h2
        simp [Instr.sliceAt, Instr.slice, run_underlying hd, hb]
      rcases boundV_elim h with ⟨rfl, h5⟩ | ⟨k, hh, rfl, h5⟩ <;> rcases boundV_elim h5 with ⟨rfl, h6⟩ | ⟨k', ll, rfl, h6⟩
      · exact ⟨_, h6.2, key _ _ (.inl ⟨rfl, rfl⟩) (.inl ⟨rfl, rfl⟩) h6.1⟩
      · exact ⟨_, h6.2, key _ _ (.inl ⟨rfl, rfl⟩) (.inr ⟨_, rfl⟩) h6.1⟩
      · exact ⟨_, h6.2, key _ _ (.inr ⟨_, rfl⟩) (.inl ⟨rfl, rfl⟩) h6.1⟩
      · exact ⟨_, h6.2, key _ _ (.inr ⟨_, rfl⟩) (.inr ⟨_, rfl⟩) h6.1⟩
    · exact h.elim
  · exact h.elim
end
end Go.Proofs.YtnjmkhhaodgpbaaX
