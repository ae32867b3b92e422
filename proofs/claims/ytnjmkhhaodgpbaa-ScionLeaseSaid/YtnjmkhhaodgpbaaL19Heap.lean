/- A node's heap as it lies: made, asked, written. -/
import Derived.Test.YtnjmkhhaodgpbaaL19Arena
namespace Go.Proofs.YtnjmkhhaodgpbaaX
open Go.RowKit
set_option linter.unusedVariables false
set_option linter.unusedSimpArgs false
set_option maxRecDepth 100000
theorem rowI : RowT Try.prog 37 36 2 16 := ⟨by kernel_rfl, ⟨Try.t36, Value.agg #[.int .i64 0, .int .u64 0], by kernel_rfl, by kernel_rfl, by kernel_rfl, by kernel_rfl, by kernel_rfl⟩, by omega⟩
theorem rowU : RowT Try.prog 38 22 1 8 := ⟨by kernel_rfl, ⟨Try.t22, .int .u64 0, by kernel_rfl, by kernel_rfl, by kernel_rfl, by kernel_rfl, by kernel_rfl⟩, by omega⟩
theorem Blk.ne {w : World} {g g' : Nat} {cs cs' : List Value} {e e' : TypeId} (a : Blk w g cs e) (b : Blk w g' cs' e') (h : e ≠ e') : g ≠ g' := by
  intro hg
  subst hg
  have := a.symm.trans b
  injection this with h1
  injection h1 with h2 h3
  exact h h3
theorem MU.ne {w : World} {b g : Nat} {l : List (Int × Value)} {cs : List Value} {e : TypeId} (a : MU w b l) (c : Blk w g cs e) : b ≠ g := by
  intro hg
  subst hg
  obtain ⟨es, ck, h1, _⟩ := a.ex
  have := h1.symm.trans c
  injection this with h1
  cases h1
theorem Own.nb {w : World} {r n c sz : Nat} {e : TypeId} {xs : List Value} (o : Own e sz w (some (at0 r 0)) n c xs) : ∃ cur, Blk w r cur e := by
  obtain ⟨g, cur, h1, h2, _⟩ := o.blk
  have : r = g := by injection h1
  subst this
  exact ⟨cur, h2⟩
theorem makeN {T E : TypeId} {i : TypeInfo} {z : Value} {w : World} {n Z : Nat} {K : Value → World → Prop} (hu : Try.prog.underlying T = some (.slice E)) (hi : Try.prog.info? E = some i) (hz : i.zero = some z) (hsz : i.size = Z) (hby : i.bytes ≤ 100) (hn : n ≤ 100000) {xs : List Value} (hx : (madeCells z.cells (n * Z)).toList = xs)
    (hK : ∀ g w', Own E Z w' (some (at0 g 0)) n n xs → Fr [] w w' → w.heap.size ≤ g → K (.slice (some (at0 g 0)) n n) w') :
    RunR Try.prog (Instr.makeSlice T (.int .i64 (n : Int)) (.int .i64 (n : Int))) w K := by
  have hmx : n ≤ maxLen := by simp only [maxLen]; omega
  have hb' : i.bytes * n ≤ 100 * 100000 := Nat.mul_le_mul hby hn
  obtain ⟨w', hr, ho, hg⟩ := run_make_full (P := Try.prog) w 0 T E i z Z hu hi hz hsz .i64 .i64 n (by omega) hmx (Nat.zero_le _)
  subst hx
  exact ⟨_, _, hr, hK _ w' ho (Fr.grown hg (fun k hk => by cases hk)) (Nat.le_refl _)⟩
theorem pw_ne {α : Type} {R : α → α → Prop} (hs : ∀ a b, R a b → R b a) {l : List α} (h : l.Pairwise R) {a b : α} (ha : a ∈ l) (hb : b ∈ l) (hne : a ≠ b) : R a b := by
  induction l with
  | nil => cases ha
  | cons c l ih =>
    obtain ⟨h1, h2⟩ := List.pairwise_cons.1 h
    rcases List.mem_cons.1 ha with e3 | h3 <;> rcases List.mem_cons.1 hb with e4 | h4
    · exact absurd (e3.trans e4.symm) hne
    · rw [e3]; exact h1 b h4
    · rw [e4]; exact hs _ _ (h1 a h3)
    · exact ih h2 h3 h4
/-- an object as it lies -/
structure OT where
  s : Int
  b : Nat
  k : Nat
  g : Nat
  r : Nat
  v : Nat
  d : Int
def OT.ent (o : OT) : Int × Value := (o.s, .pointer (some (at0 o.g 0)))
def OT.pr (o : OT) : Int × Int := (o.s, o.d)
def OT.cells (o : OT) : List Value := [.int .i64 (16 * (o.b : Int) + 2 * (o.k : Int)), .slice (some (at0 o.r 0)) 1 1, .slice (some (at0 o.v 0)) 0 0, .int .i64 o.d]
abbrev idc0 : List Value := [.int .i64 0, .int .u64 0]
structure OB (w : World) (ts : List Nat) (o : OT) : Prop where
  blk : Blk w o.g o.cells 100
  refs : Own 36 2 w (some (at0 o.r 0)) 1 1 idc0
  vals : Own 22 1 w (some (at0 o.v 0)) 0 0 []
  bl : o.b < 16
  kl : o.k < 8
  bit : bitAt ts o.b o.k = true
def OT.up (s d : Int) (p : OT) : OT := if p.s = s then { p with d := d } else p
theorem OT.up_g {s d : Int} (p : OT) : (p.up s d).g = p.g ∧ (p.up s d).r = p.r ∧ (p.up s d).v = p.v ∧ (p.up s d).b = p.b ∧ (p.up s d).k = p.k ∧ (p.up s d).s = p.s := by
  unfold OT.up
  split <;> simp
structure HB where
  h : Nat
  a : Nat
  cb : Nat
  tb : Nat
  m : Nat
def hasO (l : List (Int × Int)) (s : Int) : Bool := (l.find? fun e => decide (e.1 = s)).isSome
def inO (l : List (Int × Int)) (s : Int) : Int := ((l.find? fun e => decide (e.1 = s)).map (·.2)).getD 0
def setO (l : List (Int × Int)) (s d : Int) : List (Int × Int) := l.map fun e => if e.1 = s then (e.1, d) else e
def freeO (l : List (Int × Int)) (s : Int) : List (Int × Int) := l.filter fun e => decide (e.1 ≠ s)
def hcells (x : HB) (node last : Int) : List Value := [.int .i64 node, .int .i64 12, .int .u64 last, .pointer (some (at0 x.a 0)), .map (some x.m)]
structure PHa (w : World) (x : HB) (fh : List Nat) (node last : Int) (ts : List Nat) (os : List OT) : Prop where
  blk : Blk w x.h (hcells x node last) 97
  ar : AR w x.a x.cb x.tb (ts.map clsB) ts
  tsI : TsI ts
  pops : (ts.map pop).sum = os.length
  map : MU w x.m (os.map OT.ent)
  obs : ∀ o ∈ os, OB w ts o
  gd : os.Pairwise fun o p => o.g ≠ p.g
  pl : os.Pairwise fun o p => ¬ (o.b = p.b ∧ o.k = p.k)
  le : os.length ≤ 12
  ser : ∀ o ∈ os, 1 ≤ o.s ∧ o.s ≤ last
  lst : 0 ≤ last ∧ last ≤ 72057594037927935
  foot : x.h ∈ fh ∧ x.a ∈ fh ∧ x.cb ∈ fh ∧ x.tb ∈ fh ∧ x.m ∈ fh
  obf : ∀ o ∈ os, o.g ∈ fh ∧ o.r ∈ fh ∧ o.v ∈ fh
  lt : ∀ y ∈ fh, y < w.heap.size
def PH (w : World) (x : HB) (fh : List Nat) (node last : Int) (l : List (Int × Int)) : Prop := ∃ ts os, PHa w x fh node last ts os ∧ l = os.map OT.pr
section
variable {w w' W : World} {Q : Value → World → Prop} {x : HB} {fh F : List Nat} {node last s d : Int} {ts : List Nat} {os : List OT} {o : OT} {l : List (Int × Int)}
theorem OB.keep (h : OB w ts o) (f : Fr F w w') (h1 : o.g ∉ F) (h2 : o.r ∉ F) (h3 : o.v ∉ F) : OB w' ts o :=
  ⟨h.blk.keep f h1, h.refs.keep f (fun y hy => by simp [fbl, at0] at hy; rwa [hy]), h.vals.keep f (fun y hy => by simp [fbl, at0] at hy; rwa [hy]), h.bl, h.kl, h.bit⟩
theorem PHa.keep (t : PHa w x fh node last ts os) (f : Fr F w w') (hd : ∀ y ∈ fh, y ∉ F) : PHa w' x fh node last ts os := by
  obtain ⟨f1, f2, f3, f4, f5⟩ := t.foot
  have hz := f.size
  exact ⟨t.blk.keep f (hd _ f1), t.ar.keep f (hd _ f2) (hd _ f3) (hd _ f4), t.tsI, t.pops, t.map.keep f (hd _ f5), fun o ho => (t.obs o ho).keep f (hd _ (t.obf o ho).1) (hd _ (t.obf o ho).2.1) (hd _ (t.obf o ho).2.2), t.gd, t.pl, t.le, t.ser, t.lst, t.foot, t.obf, fun y hy => by have := t.lt y hy; omega⟩
theorem PHa.keep' (t : PHa w x fh node last ts os) (f : Fr [] w w') : PHa w' x fh node last ts os := t.keep f (by simp)
theorem PH.keep (t : PH w x fh node last l) (f : Fr F w w') (hd : ∀ y ∈ fh, y ∉ F) : PH w' x fh node last l := by
  obtain ⟨ts, os, t, e⟩ := t
  exact ⟨ts, os, t.keep f hd, e⟩
theorem PH.keep' (t : PH w x fh node last l) (f : Fr [] w w') : PH w' x fh node last l := t.keep f (by simp)
theorem PH.lt (t : PH w x fh node last l) : ∀ y ∈ fh, y < w.heap.size := by
  obtain ⟨ts, os, t, e⟩ := t
  exact t.lt
/-- the heap's own blocks lie apart from its objects -/
theorem PHa.off (t : PHa w x fh node last ts os) (ho : o ∈ os) {y : Nat} (hy : y ∈ [x.h, x.a, x.cb, x.tb, x.m]) : y ≠ o.g ∧ y ≠ o.r ∧ y ≠ o.v := by
  have b := t.obs o ho
  obtain ⟨c2, b2⟩ := b.refs.nb
  obtain ⟨c3, b3⟩ := b.vals.nb
  have b1 := b.blk
  obtain ⟨d3, e3⟩ := t.ar.crow.nb
  obtain ⟨d4, e4⟩ := t.ar.trow.nb
  have e1 := t.blk
  have e2 := t.ar.blk
  simp only [List.mem_cons, List.not_mem_nil, or_false] at hy
  rcases hy with rfl | rfl | rfl | rfl | rfl
  · exact ⟨e1.ne b1 (by decide), e1.ne b2 (by decide), e1.ne b3 (by decide)⟩
  · exact ⟨e2.ne b1 (by decide), e2.ne b2 (by decide), e2.ne b3 (by decide)⟩
  · exact ⟨e3.ne b1 (by decide), e3.ne b2 (by decide), e3.ne b3 (by decide)⟩
  · exact ⟨e4.ne b1 (by decide), e4.ne b2 (by decide), e4.ne b3 (by decide)⟩
  · exact ⟨t.map.ne b1, t.map.ne b2, t.map.ne b3⟩
theorem PHa.dis (t : PHa w x fh node last ts os) : x.h ≠ x.a ∧ x.h ≠ x.cb ∧ x.h ≠ x.tb ∧ x.m ≠ x.h ∧ x.m ≠ x.a ∧ x.m ≠ x.cb ∧ x.m ≠ x.tb := by
  obtain ⟨d3, e3⟩ := t.ar.crow.nb
  obtain ⟨d4, e4⟩ := t.ar.trow.nb
  exact ⟨t.blk.ne t.ar.blk (by decide), t.blk.ne e3 (by decide), t.blk.ne e4 (by decide), t.map.ne t.blk, t.map.ne t.ar.blk, t.map.ne e3, t.map.ne e4⟩
theorem OB.keepH (h : OB w ts o) (t : PHa W x fh node last ts os) (ho : o ∈ os) (f : Fr F w w') (hF : ∀ y ∈ F, y ∈ [x.h, x.a, x.cb, x.tb, x.m]) : OB w' ts o :=
  h.keep f (fun hm => (t.off ho (hF _ hm)).1 rfl) (fun hm => (t.off ho (hF _ hm)).2.1 rfl) (fun hm => (t.off ho (hF _ hm)).2.2 rfl)
theorem hasO_os : hasO (os.map OT.pr) s = (os.find? fun o => decide (o.s = s)).isSome := by
  unfold hasO
  rw [List.find?_map, Option.isSome_map]
  rfl
theorem inO_os : inO (os.map OT.pr) s = ((os.find? fun o => decide (o.s = s)).map OT.d).getD 0 := by
  unfold inO
  rw [List.find?_map, Option.map_map]
  rfl
theorem findU_os : findU (os.map OT.ent) s = (os.find? fun o => decide (o.s = s)).map fun o => .pointer (some (at0 o.g 0)) := by
  unfold findU
  rw [List.find?_map, Option.map_map]
  rfl
theorem u64wf {s : Int} (h0 : 0 ≤ s) (h1 : s ≤ 18446744073709551615) : (Lit.int .u64 s).wf = true := by
  simp [Lit.wf, IntKind.min, IntKind.max, IntKind.signed, IntKind.bits]
  omega
theorem PHa.look (t : PHa w x fh node last ts os) (h0 : 0 ≤ s) (h1 : s ≤ 18446744073709551615) (hno : (os.find? fun o => decide (o.s = s)) = none → Q (.pointer none) w) (hK : ∀ o, (os.find? fun o => decide (o.s = s)) = some o → o ∈ os → o.s = s → Q (.pointer (some (at0 o.g 0))) w) :
    RunR Try.prog (Instr.lookup 95 (.map (some x.m)) (.int .u64 s) false) w Q := by
  refine lookU (z := .pointer none) (K := 22) (E := 93) (by kernel_rfl) (by kernel_rfl) (by simp [zeroValue, typeInfo]; rfl) t.map ?_ ?_
  · exact u64wf h0 h1
  · rw [findU_os]
    cases h : os.find? (fun o => decide (o.s = s)) with
    | none => exact hno h
    | some o => exact hK o h (List.mem_of_find?_eq_some h) (by simpa using List.find?_some h)
theorem PHa.c0 (t : PHa w x fh node last ts os) (i : Nat) {u : Value} (hu : (hcells x node last)[i]? = some u) : w.cell? ((at0 x.h 0).add i) = some u := t.blk.cat i _ hu
theorem node_spec (t : PH w x fh node last l) (hQ : Q (.int .i64 node) w) : CallR Try.prog 36 #[.pointer (some (at0 x.h 0))] w Q := by
  apply X36.sound
  unfold X36.f
  obtain ⟨ts, os, t, e⟩ := t
  exact ld_int (t.c0 0 rfl) hQ
theorem hfields_spec {n : Int} (h : 0 ≤ n) (h' : n ≤ 7) (hQ : Q (.bool true) w) : CallR Try.prog 50 #[.int .i64 n] w Q := by
  apply X50.sound
  unfold X50.f
  refine bc_pos (by omega) ?_
  rw [decide_eq_true h']
  exact hQ
/-- what a call leaves behind -/
def AftH (w : World) (x : HB) (fh : List Nat) (node last' : Int) (l' : List (Int × Int)) (v : Value) (Q : Value → World → Prop) : Prop := ∀ fh' w', PH w' x fh' node last' l' → Fr fh w w' → (∀ y ∈ fh', y ∈ fh ∨ w.heap.size ≤ y) → Q v w'
theorem AftH.same {v : Value} (h : AftH w x fh node last l v Q) (t : PH w x fh node last l) (f : Fr [] w w') : Q v w' := h fh w' (t.keep' f) f.any (fun y hy => .inl hy)
theorem setIn_spec (t : PH w x fh node last l) (h0 : 0 ≤ s) (h1 : s ≤ 18446744073709551615) (h2 : 0 ≤ d) (h3 : d ≤ 40) (hQ : ∀ c, AftH w x fh node last (setO l s d) (.int .i64 c) Q) :
    CallR Try.prog 59 #[.pointer (some (at0 x.h 0)), .int .u64 s, .int .i64 d] w Q := by
  apply X59.sound
  unfold X59.f
  refine bc_neg (by omega) (bc_neg (by omega) ?_)
  unfold X59.j0
  simp only [optP_some]
  obtain ⟨ts, os, t, rfl⟩ := t
  have tt : PH w x fh node last (os.map OT.pr) := ⟨ts, os, t, rfl⟩
  refine ld_map (t.c0 4 rfl) (t.look h0 h1 (fun hn => ⟨_, rfl, ?_⟩) (fun o hf ho hs => ⟨_, rfl, ?_⟩))
  · have e : setO (os.map OT.pr) s d = os.map OT.pr := by
      unfold setO
      rw [List.map_map]
      apply List.map_congr_left
      intro o ho
      have := List.find?_eq_none.1 hn o ho
      have hne : ¬ o.s = s := by simpa using this
      show (if o.s = s then (o.s, d) else (o.s, o.d)) = (o.s, o.d)
      rw [if_neg hne]
    have := hQ 5
    rw [e] at this
    exact this.same tt (Fr.refl _)
  · have b := (t.obs o ho).blk
    refine stB (i := 3) (w := w) b (show 3 < 4 by omega) fun w7 b7 f7 => ?_
    have upg := fun p => OT.up_g (s := s) (d := d) p
    have gd := t.gd
    have uniq : ∀ p ∈ os, p.s = s → p = o := fun p hp he => by
      have nd := t.map.nd
      rw [List.pairwise_map] at nd
      by_cases h : p = o
      · exact h
      · exact absurd (he.trans hs.symm) (pw_ne (fun a b h1 => h1.symm) nd hp ho h)
    have hg : ∀ p ∈ os, p ≠ o → p.g ≠ o.g := fun p hp hne => pw_ne (fun a b h1 => h1.symm) gd hp ho hne
    obtain ⟨g1, g2, g3, g4, g5⟩ := t.foot
    have no : ∀ y ∈ [x.h, x.a, x.cb, x.tb, x.m], y ∉ [o.g] := fun y hy hm => (t.off ho hy).1 (by simpa using hm)
    refine hQ 0 fh w7 ⟨ts, os.map (OT.up s d), ⟨t.blk.keep f7 (no _ (by simp)), t.ar.keep f7 (no _ (by simp)) (no _ (by simp)) (no _ (by simp)), t.tsI, by rw [List.length_map]; exact t.pops, ?_, ?_, ?_, ?_, by rw [List.length_map]; exact t.le, ?_, t.lst, t.foot, ?_, fun y hy => by have := t.lt y hy; have := f7.size; omega⟩, ?_⟩ (f7.mono fun y hy => by simp at hy; rw [hy]; exact (t.obf o ho).1) (fun y hy => .inl hy)
    · have e : (os.map (OT.up s d)).map OT.ent = os.map OT.ent := by
        rw [List.map_map]
        apply List.map_congr_left
        intro p _
        show ((OT.up s d p).s, _) = _
        simp only [OT.ent, upg]
      rw [e]
      exact t.map.keep f7 (no _ (by simp))
    · intro p' hp'
      obtain ⟨p, hp, rfl⟩ := List.mem_map.1 hp'
      have q := t.obs p hp
      obtain ⟨u1, u2, u3, u4, u5, u6⟩ := upg p
      obtain ⟨c2, b2⟩ := q.refs.nb
      obtain ⟨c3, b3⟩ := q.vals.nb
      have n2 : p.r ∉ [o.g] := fun hm => b2.ne b (by decide) (by simpa using hm)
      have n3 : p.v ∉ [o.g] := fun hm => b3.ne b (by decide) (by simpa using hm)
      refine ⟨?_, by rw [u2]; exact q.refs.keep f7 (fun y hy => by simp [fbl, at0] at hy; rwa [hy]), by rw [u3]; exact q.vals.keep f7 (fun y hy => by simp [fbl, at0] at hy; rwa [hy]), by rw [u4]; exact q.bl, by rw [u5]; exact q.kl, by rw [u4, u5]; exact q.bit⟩
      by_cases he : p.s = s
      · have := uniq p hp he
        subst this
        have e : OT.up s d p = { p with d := d } := if_pos he
        rw [e]
        exact b7
      · have e : OT.up s d p = p := if_neg he
        rw [e]
        have hne : p ≠ o := fun e => he (by rw [e, hs])
        exact q.blk.keep f7 (fun hm => hg p hp hne (by simpa using hm))
    · rw [List.pairwise_map]
      exact t.gd.imp fun {a b} h => by rw [(upg a).1, (upg b).1]; exact h
    · rw [List.pairwise_map]
      exact t.pl.imp fun {a b} h => by rw [(upg a).2.2.2.1, (upg b).2.2.2.1, (upg a).2.2.2.2.1, (upg b).2.2.2.2.1]; exact h
    · intro p' hp'
      obtain ⟨p, hp, rfl⟩ := List.mem_map.1 hp'
      rw [(upg p).2.2.2.2.2]
      exact t.ser p hp
    · intro p' hp'
      obtain ⟨p, hp, rfl⟩ := List.mem_map.1 hp'
      rw [(upg p).1, (upg p).2.1, (upg p).2.2.1]
      exact t.obf p hp
    · unfold setO
      rw [List.map_map, List.map_map]
      apply List.map_congr_left
      intro p _
      show (if p.s = s then (p.s, d) else (p.s, p.d)) = (OT.up s d p).pr
      by_cases he : p.s = s
      · have e : OT.up s d p = { p with d := d } := if_pos he
        rw [e, if_pos he]; rfl
      · have e : OT.up s d p = p := if_neg he
        rw [e, if_neg he]; rfl
end
end Go.Proofs.YtnjmkhhaodgpbaaX
