/- Maps keyed by uint64, as they lie: made, read, written at a new key, cut at one. -/
import Derived.Test.YtnjmkhhaodgpbaaXMem
import Derived.Maps.Keyed
namespace Go.Proofs.YtnjmkhhaodgpbaaX
open Go.RowKit
open Go.ChangeMaps (setBlock)
set_option linter.unusedVariables false
set_option linter.unusedSimpArgs false
structure MU (w : World) (b : Nat) (l : List (Int × Value)) : Prop where
  ex : ∃ es clock, w.heap[b]? = some (.map es clock) ∧ es.toList.map (fun e => (e.key, e.val)) = l.map (fun x => (Value.int .u64 x.1, x.2))
  wf : ∀ x ∈ l, (Lit.int .u64 x.1).wf = true
  nd : l.Pairwise fun x y => x.1 ≠ y.1
def findU (l : List (Int × Value)) (k : Int) : Option Value := (l.find? fun x => decide (x.1 = k)).map (·.2)
def dropU (l : List (Int × Value)) (k : Int) : List (Int × Value) := l.filter fun x => decide (x.1 ≠ k)
theorem findU_none {l : List (Int × Value)} {k : Int} (h : ∀ x ∈ l, x.1 ≠ k) : findU l k = none := by
  unfold findU
  rw [List.find?_eq_none.2 (fun x hx hd => h x hx (of_decide_eq_true hd))]
  rfl
theorem findU_some {l : List (Int × Value)} {k : Int} {v : Value} (nd : l.Pairwise fun x y => x.1 ≠ y.1) (h : (k, v) ∈ l) : findU l k = some v := by
  unfold findU
  cases hf : l.find? (fun x => decide (x.1 = k)) with
  | none => have := List.find?_eq_none.1 hf _ h; simp at this
  | some y =>
    have hy1 : y.1 = k := by simpa using List.find?_some hf
    have hy2 := List.mem_of_find?_eq_some hf
    obtain ⟨i, hi⟩ := List.getElem?_of_mem hy2
    obtain ⟨j, hj⟩ := List.getElem?_of_mem h
    rw [List.pairwise_iff_getElem] at nd
    obtain ⟨li, ei⟩ := List.getElem?_eq_some_iff.1 hi
    obtain ⟨lj, ej⟩ := List.getElem?_eq_some_iff.1 hj
    rcases Nat.lt_trichotomy i j with h' | h' | h'
    · have := nd i j li lj h'
      rw [ei, ej] at this
      exact absurd hy1 this
    · subst h'
      rw [hi] at hj
      injection hj with hj
      rw [hj]; rfl
    · have := nd j i lj li h'
      rw [ei, ej] at this
      exact absurd hy1.symm this
theorem erase_filter {l : List (Int × Value)} (nd : l.Pairwise fun x y => x.1 ≠ y.1) : ∀ {j : Nat} {x : Int × Value}, l[j]? = some x → l.eraseIdx j = dropU l x.1 := by
  induction l with
  | nil => intro j x h; simp at h
  | cons a l ih =>
    obtain ⟨h1, h2⟩ := List.pairwise_cons.1 nd
    intro j x h
    cases j with
    | zero =>
      simp at h
      subst h
      unfold dropU
      rw [List.filter_cons_of_neg (by simp)]
      simp only [List.eraseIdx_cons_zero]
      symm
      apply List.filter_eq_self.2
      intro y hy
      exact decide_eq_true (fun e => h1 y hy e.symm)
    | succ j =>
      simp at h
      have hx := List.mem_of_getElem? h
      unfold dropU
      rw [List.eraseIdx_cons_succ, List.filter_cons_of_pos (by simpa using h1 x hx), ih h2 h]
      rfl
section
variable {P : Program} {M K E : TypeId} {w w' W : World} {b : Nat} {l : List (Int × Value)} {k : Int} {v z : Value}
theorem MU.keep (h : MU w b l) {S : List Nat} (f : Fr S w w') (hn : b ∉ S) : MU w' b l := by
  obtain ⟨⟨es, ck, h1, h2⟩, h3, h4⟩ := h
  exact ⟨⟨es, ck, (f.block b (Array.getElem?_eq_some_iff.1 h1).1 hn).trans h1, h2⟩, h3, h4⟩
theorem MU.keep' (h : MU w b l) (f : Fr [] w w') : MU w' b l := h.keep f (by simp)
theorem MU.lt (h : MU w b l) : b < w.heap.size := by
  obtain ⟨⟨es, ck, h1, h2⟩, h3, h4⟩ := h
  exact (Array.getElem?_eq_some_iff.1 h1).1
theorem newMU {K : Nat → World → Prop} (hK : ∀ b w', MU w' b [] → Fr [] w w' → w.heap.size ≤ b → K b w') : newM w K :=
  hK _ _ ⟨⟨#[], 0, heap_alloc_new w _, rfl⟩, by simp, List.Pairwise.nil⟩ (Fr.alloc _ _) (Nat.le_refl _)
theorem MU.at_ {es : List MapEntry} (h : es.map (fun e => (e.key, e.val)) = l.map (fun x => (Value.int .u64 x.1, x.2))) {i : Nat} {e : MapEntry} (he : es[i]? = some e) : ∃ x, l[i]? = some x ∧ e.key = .int .u64 x.1 ∧ e.val = x.2 := by
  have := congrArg (fun l => l[i]?) h
  simp only [List.getElem?_map, he, Option.map_some] at this
  cases hx : l[i]? with
  | none => rw [hx] at this; cases this
  | some x =>
    rw [hx] at this
    simp only [Option.map_some, Option.some.injEq, Prod.mk.injEq] at this
    exact ⟨x, rfl, this⟩
theorem MU.ta {es : List MapEntry} (h : es.map (fun e => (e.key, e.val)) = l.map (fun x => (Value.int .u64 x.1, x.2))) {i : Nat} {x : Int × Value} (hx : l[i]? = some x) : ∃ e, es[i]? = some e ∧ e.key = .int .u64 x.1 ∧ e.val = x.2 := by
  have := congrArg (fun l => l[i]?) h
  simp only [List.getElem?_map, hx, Option.map_some] at this
  cases he : es[i]? with
  | none => rw [he] at this; cases this
  | some e =>
    rw [he] at this
    simp only [Option.map_some, Option.some.injEq, Prod.mk.injEq] at this
    exact ⟨e, rfl, this⟩
theorem heap_setU {o o' : Obj} (hb : w.heap[b]? = some o') : (setBlock w b o).heap[b]? = some o := by
  have := (Array.getElem?_eq_some_iff.1 hb).1
  simp [setBlock, this]
theorem fr_setU {o : Obj} : Fr [b] w (setBlock w b o) := ⟨rfl, rfl, rfl, by simp [setBlock], fun k hk hn => by
  have : b ≠ k := fun e => hn (by simp [e])
  simp [setBlock, this]⟩
/-- is the key there -/
theorem MU.find (hk : P.underlying K = some (.int .u64)) (h : MU w b l) (hw : (Lit.int .u64 k).wf = true) {es : Array MapEntry} (hm : es.toList.map (fun e => (e.key, e.val)) = l.map (fun x => (Value.int .u64 x.1, x.2))) :
    ((Instr.findKey K (.int .u64 k) es.toList).run P w = .ok none w ∧ ∀ x ∈ l, x.1 ≠ k) ∨ ∃ (j : Nat) (x : Int × Value), (Instr.findKey K (.int .u64 k) es.toList).run P w = .ok (some (j, x.2)) w ∧ l[j]? = some x ∧ x.1 = k := by
  have L := Maps.int_keyed hk
  have hks : ∀ e ∈ es.toList, ∃ l, Go.keyOf P K e.key = some l := fun e he => by
    obtain ⟨i, hi⟩ := List.getElem?_of_mem he
    obtain ⟨x, hx, hx1, _⟩ := MU.at_ hm hi
    rw [hx1]
    exact ⟨_, Maps.keyOf_int_mk hk (h.wf x (List.mem_of_getElem? hx))⟩
  rcases L.find w (Maps.keyOf_int_mk hk hw) es.toList hks with ⟨f1, f2⟩ | ⟨j, e0, f1, f2, f3⟩
  · refine .inl ⟨f1, fun x hx e => ?_⟩
    obtain ⟨i, hi⟩ := List.getElem?_of_mem hx
    obtain ⟨e0, he, he1, _⟩ := MU.ta hm hi
    exact f2 e0 (List.mem_of_getElem? he) (by rw [he1, e])
  · obtain ⟨x, hx, hx1, hx2⟩ := MU.at_ hm f2
    have hx3 : x.1 = k := by
      rw [hx1] at f3
      injection f3
    exact .inr ⟨j, x, by rw [← hx2]; exact f1, hx, hx3⟩
theorem lookU {Q : Value → World → Prop} (hk : P.underlying K = some (.int .u64)) (ht : P.underlying M = some (.map K E)) (hz : (zeroValue E).run P w = .ok z w) (h : MU w b l) (hw : (Lit.int .u64 k).wf = true) (hQ : Q ((findU l k).getD z) w) :
    RunR P (Instr.lookup M (.map (some b)) (.int .u64 k) false) w Q := by
  obtain ⟨es, ck, hb, hm⟩ := h.ex
  have L := Maps.int_keyed hk
  have hkl := Maps.keyOf_int_mk hk hw
  rcases h.find hk hw hm with ⟨f1, f2⟩ | ⟨j, x, f1, f2, f3⟩
  · rw [findU_none f2] at hQ
    refine ⟨_, w, ?_, hQ⟩
    simp [Instr.lookup, run_underlying ht, MapKept.run_getObj_map hb, L.check w _ hkl, f1, hz, Result.andThen]
  · have hx : findU l k = some x.2 := findU_some h.nd (by rw [← f3]; exact List.mem_of_getElem? f2)
    rw [hx] at hQ
    refine ⟨_, w, ?_, hQ⟩
    simp [Instr.lookup, run_underlying ht, MapKept.run_getObj_map hb, L.check w _ hkl, f1, Result.andThen]
theorem updU {Q : Unit → World → Prop} (hk : P.underlying K = some (.int .u64)) (ht : P.underlying M = some (.map K E)) (h : MU w b l) (hw : (Lit.int .u64 k).wf = true) (hn : ∀ x ∈ l, x.1 ≠ k) (hQ : ∀ w', MU w' b (l ++ [(k, v)]) → Fr [b] w w' → Q () w') :
    RunR P (Instr.mapUpdate M (.map (some b)) (.int .u64 k) v) w Q := by
  obtain ⟨es, ck, hb, hm⟩ := h.ex
  have L := Maps.int_keyed hk
  have hkl := Maps.keyOf_int_mk hk hw
  rcases h.find hk hw hm with ⟨f1, f2⟩ | ⟨j, x, f1, f2, f3⟩
  · refine ⟨(), setBlock w b (.map (es.push ⟨.int .u64 k, v, ck⟩) (ck + 1)), ?_, hQ _ ⟨⟨_, _, heap_setU hb, ?_⟩, ?_, ?_⟩ fr_setU⟩
    · simp [Instr.mapUpdate, run_underlying ht, MapKept.run_getObj_map hb, L.check w false hkl, f1, MapKept.run_setObj_map _ hb, Result.andThen, setBlock]
    · simp [hm]
    · intro x hx
      rcases List.mem_append.1 hx with hx | hx
      · exact h.wf x hx
      · simp at hx; subst hx; exact hw
    · rw [List.pairwise_append]
      exact ⟨h.nd, by simp, fun x hx y hy => by simp at hy; subst hy; exact hn x hx⟩
  · exact absurd f3 (hn x (List.mem_of_getElem? f2))
theorem delU {Q : Value → World → Prop} {ty : TypeId} (hk : P.underlying K = some (.int .u64)) (ht : P.underlying M = some (.map K E)) (h : MU w b l) (hw : (Lit.int .u64 k).wf = true) (hQ : ∀ w', MU w' b (dropU l k) → Fr [b] w w' → Q (.tuple #[]) w') :
    RunR P (Builtin.delete_ #[M, K] ty #[.map (some b), .int .u64 k]) w Q := by
  obtain ⟨es, ck, hb, hm⟩ := h.ex
  have L := Maps.int_keyed hk
  have hkl := Maps.keyOf_int_mk hk hw
  have wf' : ∀ x ∈ dropU l k, (Lit.int .u64 x.1).wf = true := fun x hx => h.wf x (List.mem_filter.1 hx).1
  have nd' : (dropU l k).Pairwise fun x y => x.1 ≠ y.1 := h.nd.filter _
  rcases h.find hk hw hm with ⟨f1, f2⟩ | ⟨j, x, f1, f2, f3⟩
  · have hd : dropU l k = l := List.filter_eq_self.2 (fun x hx => decide_eq_true (f2 x hx))
    refine ⟨_, setBlock w b (.map es ck), ?_, hQ _ ⟨⟨es, ck, heap_setU hb, by rw [hd]; exact hm⟩, wf', nd'⟩ fr_setU⟩
    simp [Builtin.delete_, run_underlying ht, MapKept.run_getObj_map hb, L.check w _ hkl, f1, MapKept.run_setObj_map _ hb, Result.andThen, setBlock]
  · refine ⟨_, setBlock w b (.map (es.eraseIdxIfInBounds j) ck), ?_, hQ _ ⟨⟨_, ck, heap_setU hb, ?_⟩, wf', nd'⟩ fr_setU⟩
    · simp [Builtin.delete_, run_underlying ht, MapKept.run_getObj_map hb, L.check w _ hkl, f1, MapKept.run_setObj_map _ hb, Result.andThen, setBlock]
    · have he : (es.eraseIdxIfInBounds j).toList = es.toList.eraseIdx j := by simp
      rw [he, ← f3, ← erase_filter h.nd f2]
      have em : ∀ {α β : Type} (f : α → β) (l : List α) (j : Nat), (l.eraseIdx j).map f = (l.map f).eraseIdx j := by
        intro α β f l
        induction l with
        | nil => intro j; simp
        | cons a l ih => intro j; cases j with
          | zero => simp
          | succ j => simp [ih]
      rw [em, em, hm]
theorem lenU {ty : TypeId} (ht : P.underlying M = some (.map K E)) (h : MU w b l) : LenM P #[M] ty (.map (some b)) w (l.length : Int) := by
  obtain ⟨es, ck, hb, hm⟩ := h.ex
  have hl : es.size = l.length := by
    have := congrArg List.length hm
    simpa using this
  unfold LenM
  simp [Builtin.len_, run_underlying ht, MapKept.run_getObj_map hb, goInt, hl]
end
end Go.Proofs.YtnjmkhhaodgpbaaX
