/- A map of ranks by IDs, as it lies. -/
import Derived.Test.YtglininpmfgggaaL18Known
import Derived.Test.YtglininpmfgggaaXT2
import Derived.Maps.Keyed
import Derived.DeepKeys4
namespace Go.Proofs.YtglininpmfgggaaX
open Go.RowKit
open Go.ChangeMaps (setBlock)
set_option linter.unusedVariables false
set_option linter.unusedSimpArgs false
set_option maxRecDepth 100000
def kv (nd sr : Int) : Value := .agg #[.int .i64 nd, .int .u64 sr]
theorem law40 : Maps.Keyed Try.prog 40 := Maps.Keyed.of_law (Go.deep_law_laid (m := 5) (by kernel_rfl) (by omega) (of_decide_eq_true (by kernel_rfl)) (by kernel_rfl) (by kernel_rfl))
theorem key40 {nd sr : Int} (h1 : (Lit.int .i64 nd).wf = true) (h2 : (Lit.int .u64 sr).wf = true) : ∃ l, Go.keyOf Try.prog 40 (kv nd sr) = some l := by
  have hk : Try.prog.keyType 40 = true := by kernel_rfl
  have hf : (kv nd sr).formed Try.prog 40 = true := by
    unfold kv Value.formed
    rw [Try.underlying40]
    simp only
    have : Try.prog.cellsOf 40 = 2 := by kernel_rfl
    rw [this]; rfl
  unfold Go.keyOf
  rw [Try.underlying40]
  simp only [hk, hf, Bool.and_self, if_true]
  have hc : Try.prog.cellsOf 40 = 2 := by kernel_rfl
  have hc3 : Try.prog.cellsOf 3 = 1 := by kernel_rfl
  have hc22 : Try.prog.cellsOf 22 = 1 := by kernel_rfl
  obtain ⟨m, hm⟩ : ∃ m, Try.prog.types.size + 1 = m + 2 := ⟨Try.prog.types.size - 1, by have : 1 ≤ Try.prog.types.size := of_decide_eq_true (by kernel_rfl); omega⟩
  rw [hm]
  have e1 : Try.prog.keyLits (m + 1) 3 [.int .i64 nd] = some [.int .i64 nd] := by
    unfold Program.keyLits; rw [Try.underlying3]; simp only; rw [if_pos ⟨trivial, h1⟩]
  have e2 : Try.prog.keyLits (m + 1) 22 [.int .u64 sr] = some [.int .u64 sr] := by
    unfold Program.keyLits; rw [Try.underlying22]; simp only; rw [if_pos ⟨trivial, h2⟩]
  have e3 : Try.prog.keyLits (m + 2) 40 [.int .i64 nd, .int .u64 sr] = some [.int .i64 nd, .int .u64 sr] := by
    unfold Program.keyLits
    rw [Try.underlying40]
    simp only
    rw [if_pos ⟨by rw [hc]; rfl, by kernel_rfl⟩]
    simp [hc3, hc22, e1, e2]
  show ∃ l, ((Try.prog.keyLits (m + 2) 40 [.int .i64 nd, .int .u64 sr]).map fun ls => Lit.string (keyBytes ls)) = some l
  rw [e3]
  exact ⟨_, rfl⟩
structure OutW (x : Otr) : Prop where
  nd : (Lit.int .i64 x.nd).wf = true
  sr : (Lit.int .u64 x.sr).wf = true
structure MH (w : World) (b : Nat) (o : List Otr) : Prop where
  ex : ∃ es clock, w.heap[b]? = some (.map es clock) ∧ es.toList.map (fun e => (e.key, e.val)) = o.map (fun x => (kv x.nd x.sr, Value.int .i64 x.rank))
  wf : ∀ x ∈ o, OutW x
  ap : o.Pairwise fun x y => ¬ (x.nd = y.nd ∧ x.sr = y.sr)
theorem kv_inj {a b c d : Int} : kv a b = kv c d ↔ a = c ∧ b = d := by unfold kv; simp
def findO (o : List Otr) (nd sr : Int) : Option Int := (o.find? fun x => decide (x.nd = nd ∧ x.sr = sr)).map (·.rank)
section
variable {w w' W : World} {b : Nat} {o : List Otr} {nd sr rank : Int}
theorem MH.keep (h : MH w b o) {S : List Nat} (f : Fr S w w') (hn : b ∉ S) : MH w' b o := by
  obtain ⟨⟨es, ck, h1, h2⟩, h3, h4⟩ := h
  exact ⟨⟨es, ck, (f.block b (Array.getElem?_eq_some_iff.1 h1).1 hn).trans h1, h2⟩, h3, h4⟩
theorem MH.keep' (h : MH w b o) (f : Fr [] w w') : MH w' b o := h.keep f (by simp)
theorem MH.lt (h : MH w b o) : b < w.heap.size := by
  obtain ⟨⟨es, ck, h1, h2⟩, h3, h4⟩ := h
  exact (Array.getElem?_eq_some_iff.1 h1).1
theorem newMap {w : World} {K : Nat → World → Prop} (hK : ∀ b w', MH w' b [] → Fr [] w w' → w.heap.size ≤ b → K b w') : newM w K :=
  hK _ _ ⟨⟨#[], 0, heap_alloc_new w _, rfl⟩, by simp, List.Pairwise.nil⟩ (Fr.alloc _ _) (Nat.le_refl _)
theorem MH.keys (h : o.map (fun x => (kv x.nd x.sr, Value.int .i64 x.rank)) = o.map (fun x => (kv x.nd x.sr, Value.int .i64 x.rank))) : True := trivial
theorem MH.key {es : List MapEntry} (h : es.map (fun e => (e.key, e.val)) = o.map (fun x => (kv x.nd x.sr, Value.int .i64 x.rank))) {i : Nat} {e : MapEntry} (he : es[i]? = some e) : ∃ x, o[i]? = some x ∧ e.key = kv x.nd x.sr ∧ e.val = .int .i64 x.rank := by
  have := congrArg (fun l => l[i]?) h
  simp only [List.getElem?_map, he, Option.map_some] at this
  cases hx : o[i]? with
  | none => rw [hx] at this; cases this
  | some x =>
    rw [hx] at this
    simp only [Option.map_some, Option.some.injEq, Prod.mk.injEq] at this
    exact ⟨x, rfl, this⟩
theorem heap_setB {w : World} {b : Nat} {o o' : Obj} (hb : w.heap[b]? = some o') : (setBlock w b o).heap[b]? = some o := by
  have := (Array.getElem?_eq_some_iff.1 hb).1
  simp [setBlock, this]
theorem mapUpd {K : Unit → World → Prop} (h : MH w b o) (h1 : (Lit.int .i64 nd).wf = true) (h2 : (Lit.int .u64 sr).wf = true) (hn : ∀ x ∈ o, ¬ (x.nd = nd ∧ x.sr = sr))
    (hK : ∀ w', MH w' b (o ++ [⟨nd, sr, rank⟩]) → Fr [b] w w' → K () w') : RunR Try.prog (Instr.mapUpdate 103 (.map (some b)) (.agg #[.int .i64 nd, .int .u64 sr]) (.int .i64 rank)) w K := by
  obtain ⟨⟨es, ck, hb, hm⟩, h3, h4⟩ := h
  obtain ⟨kl, hkl⟩ := key40 h1 h2
  have hks : ∀ e ∈ es.toList, ∃ l, Go.keyOf Try.prog 40 e.key = some l := fun e he => by
    obtain ⟨i, hi⟩ := List.getElem?_of_mem he
    obtain ⟨x, hx, hx1, _⟩ := MH.key hm hi
    have := h3 x (List.mem_of_getElem? hx)
    rw [hx1]
    exact key40 this.nd this.sr
  have hkl' : Go.keyOf Try.prog 40 (.agg #[.int .i64 nd, .int .u64 sr]) = some kl := hkl
  rcases law40.find w hkl' es.toList hks with ⟨f1, f2⟩ | ⟨j, e0, f1, f2, f3⟩
  · refine ⟨(), setBlock w b (.map (es.push ⟨kv nd sr, .int .i64 rank, ck⟩) (ck + 1)), ?_, hK _ ⟨⟨_, _, heap_setB hb, ?_⟩, ?_, ?_⟩ ?_⟩
    · simp [Instr.mapUpdate, run_underlying Try.underlying103, MapKept.run_getObj_map hb, law40.check w false hkl', f1, MapKept.run_setObj_map _ hb, Result.andThen, setBlock, kv]
    · simp [hm]
    · intro x hx
      rcases List.mem_append.1 hx with hx | hx
      · exact h3 x hx
      · simp at hx; subst hx; exact ⟨h1, h2⟩
    · rw [List.pairwise_append]
      exact ⟨h4, by simp, fun x hx y hy => by simp at hy; subst hy; exact hn x hx⟩
    · exact ⟨rfl, rfl, rfl, by simp [setBlock], fun k hk hn => by
        have : b ≠ k := fun e => hn (by simp [e])
        simp [setBlock, this]⟩
  · obtain ⟨x, hx, hx1, _⟩ := MH.key hm f2
    have : kv x.nd x.sr = kv nd sr := hx1.symm.trans f3
    exact absurd (kv_inj.1 this) (hn x (List.mem_of_getElem? hx))
theorem mapLook {K : Value → World → Prop} (h : MH w b o) (h1 : (Lit.int .i64 nd).wf = true) (h2 : (Lit.int .u64 sr).wf = true) (hK : K (.tuple #[.int .i64 ((findO o nd sr).getD 0), .bool (findO o nd sr).isSome]) w) :
    RunR Try.prog (Instr.lookup 103 (.map (some b)) (.agg #[.int .i64 nd, .int .u64 sr]) true) w K := by
  obtain ⟨⟨es, ck, hb, hm⟩, h3, h4⟩ := h
  obtain ⟨kl, hkl⟩ := key40 h1 h2
  have hks : ∀ e ∈ es.toList, ∃ l, Go.keyOf Try.prog 40 e.key = some l := fun e he => by
    obtain ⟨i, hi⟩ := List.getElem?_of_mem he
    obtain ⟨x, hx, hx1, _⟩ := MH.key hm hi
    have := h3 x (List.mem_of_getElem? hx)
    rw [hx1]
    exact key40 this.nd this.sr
  have hkl' : Go.keyOf Try.prog 40 (.agg #[.int .i64 nd, .int .u64 sr]) = some kl := hkl
  have hz : (zeroValue 3).run Try.prog w = .ok (.int .i64 0) w := by kernel_rfl
  rcases law40.find w hkl' es.toList hks with ⟨f1, f2⟩ | ⟨j, e0, f1, f2, f3⟩
  · have hnone : findO o nd sr = none := by
      unfold findO
      rw [List.find?_eq_none.2 ?_]; rfl
      intro x hx hd
      obtain ⟨i, hi⟩ := List.getElem?_of_mem hx
      have := congrArg (fun l => l[i]?) hm
      simp only [List.getElem?_map, hi, Option.map_some] at this
      cases he : es.toList[i]? with
      | none => rw [he] at this; cases this
      | some e =>
        rw [he] at this
        simp only [Option.map_some, Option.some.injEq, Prod.mk.injEq] at this
        refine f2 e (List.mem_of_getElem? he) ?_
        rw [this.1]
        have := of_decide_eq_true hd
        rw [this.1, this.2]; rfl
    rw [hnone] at hK
    refine ⟨_, w, ?_, hK⟩
    simp [Instr.lookup, run_underlying Try.underlying103, MapKept.run_getObj_map hb, law40.check w _ hkl', f1, hz, Result.andThen]
  · obtain ⟨x, hx, hx1, hx2⟩ := MH.key hm f2
    have e1 : kv x.nd x.sr = kv nd sr := hx1.symm.trans f3
    have e2 := kv_inj.1 e1
    have hsome : findO o nd sr = some x.rank := by
      unfold findO
      have hmem := List.mem_of_getElem? hx
      cases hf : o.find? (fun x => decide (x.nd = nd ∧ x.sr = sr)) with
      | none => have := List.find?_eq_none.1 hf x hmem; simp [e2] at this
      | some y =>
        have hy1 : y.nd = nd ∧ y.sr = sr := by simpa using List.find?_some hf
        have hy2 := List.mem_of_find?_eq_some hf
        obtain ⟨i, hi⟩ := List.getElem?_of_mem hy2
        obtain ⟨j', hj⟩ := List.getElem?_of_mem hmem
        rw [List.pairwise_iff_getElem] at h4
        obtain ⟨li, ei⟩ := List.getElem?_eq_some_iff.1 hi
        obtain ⟨lj, ej⟩ := List.getElem?_eq_some_iff.1 hj
        rcases Nat.lt_trichotomy i j' with h | h | h
        · have := h4 i j' li lj h
          rw [ei, ej] at this
          exact absurd ⟨hy1.1.trans e2.1.symm, hy1.2.trans e2.2.symm⟩ this
        · subst h
          rw [hi] at hj
          injection hj with hj
          rw [hj]; rfl
        · have := h4 j' i lj li h
          rw [ei, ej] at this
          exact absurd ⟨e2.1.trans hy1.1.symm, e2.2.trans hy1.2.symm⟩ this
    rw [hsome] at hK
    refine ⟨_, w, ?_, hK⟩
    simp [Instr.lookup, run_underlying Try.underlying103, MapKept.run_getObj_map hb, law40.check w _ hkl', f1, hx2, Result.andThen]
end
end Go.Proofs.YtglininpmfgggaaX
