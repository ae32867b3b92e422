/- A node's heap: new, objects made and freed, one told. -/
import Derived.Test.YtnjmkhhaodgpbaaL19Heap
namespace Go.Proofs.YtnjmkhhaodgpbaaX
open Go.RowKit
set_option linter.unusedVariables false
set_option linter.unusedSimpArgs false
set_option maxRecDepth 100000
def makeO (last : Int) (l : List (Int × Int)) : Int × List (Int × Int) × Int × Int := if 12 ≤ l.length then (last, l, 0, 6) else if last = 72057594037927935 then (last, l, 0, 7) else (last + 1, l ++ [(last + 1, 0)], last + 1, 0)
section
variable {w w' W : World} {Q : Value → World → Prop} {x : HB} {fh F : List Nat} {node last s d : Int} {ts : List Nat} {os : List OT} {o : OT} {l : List (Int × Int)} {b k g r v : Nat}
theorem PHa.grow (t : PHa w x fh node last ts os) (hl : os.length < 12) (hlast : last < 72057594037927935) (hb : b < 16) (hbt : ts.getD b 0 < 255) (hg : w.heap.size ≤ g) (hr : w.heap.size ≤ r) (hv : w.heap.size ≤ v) (f : Fr [x.h, x.cb, x.tb, x.m] w w')
    (B : Blk w' x.h (hcells x node (last + 1)) 97) (A : AR w' x.a x.cb x.tb ((setAt ts b (lz (ts.getD b 0))).map clsB) (setAt ts b (lz (ts.getD b 0)))) (M : MU w' x.m (os.map OT.ent ++ [(last + 1, .pointer (some (at0 g 0)))]))
    (T : Blk w' g (OT.cells ⟨last + 1, b, lz (ts.getD b 0), g, r, v, 0⟩) 100) (R : Own 36 2 w' (some (at0 r 0)) 1 1 idc0) (V : Own 22 1 w' (some (at0 v 0)) 0 0 []) :
    PHa w' x (fh ++ [g, r, v]) node (last + 1) (setAt ts b (lz (ts.getD b 0))) (os ++ [⟨last + 1, b, lz (ts.getD b 0), g, r, v, 0⟩]) := by
  have hz := lz_lt hbt
  have hS := t.tsI.set hb hz.1 hz.2.1
  obtain ⟨f1, f2, f3, f4, f5⟩ := t.foot
  have sz := f.size
  have bit : ∀ p ∈ os, bitAt (setAt ts b (lz (ts.getD b 0))) p.b p.k = true := fun p hp => by
    have q := t.obs p hp
    rw [hS.2.2 _ _ q.kl, q.bit]
    simp
  have hF : ∀ y ∈ [x.h, x.cb, x.tb, x.m], y ∈ [x.h, x.a, x.cb, x.tb, x.m] := fun y hy => by
    simp at hy
    rcases hy with rfl | rfl | rfl | rfl <;> simp
  obtain ⟨cR, bR⟩ := R.nb
  obtain ⟨cV, bV⟩ := V.nb
  refine ⟨B, A, hS.1, by rw [hS.2.1, t.pops]; simp, by rw [List.map_append]; exact M, ?_, ?_, ?_, by simp; omega, ?_, ⟨by have := t.lst.1; omega, by omega⟩, by simp [f1, f2, f3, f4, f5], ?_, ?_⟩
  · intro p hp
    rcases List.mem_append.1 hp with hp | hp
    · have q := (t.obs p hp).keepH t hp f hF
      exact ⟨q.blk, q.refs, q.vals, q.bl, q.kl, bit p hp⟩
    · have hp := List.mem_singleton.1 hp
      subst hp
      refine ⟨T, R, V, hb, hz.1, ?_⟩
      show bitAt _ b (lz _) = true
      rw [hS.2.2 _ _ hz.1]
      simp
  · rw [List.pairwise_append]
    refine ⟨t.gd, by simp, fun p hp q hq => ?_⟩
    have hq := List.mem_singleton.1 hq
    subst hq
    show p.g ≠ g
    have := t.lt _ (t.obf p hp).1
    omega
  · rw [List.pairwise_append]
    refine ⟨t.pl, by simp, fun p hp q hq => ?_⟩
    have hq := List.mem_singleton.1 hq
    subst hq
    show ¬ (p.b = b ∧ p.k = lz _)
    rintro ⟨e1, e2⟩
    have q := (t.obs p hp).bit
    rw [e1, e2] at q
    unfold bitAt at q
    rw [hz.2.1] at q
    cases q
  · intro p hp
    rcases List.mem_append.1 hp with hp | hp
    · have := t.ser p hp
      omega
    · have hp := List.mem_singleton.1 hp
      subst hp
      have := t.lst.1
      show 1 ≤ last + 1 ∧ last + 1 ≤ last + 1
      omega
  · intro p hp
    rcases List.mem_append.1 hp with hp | hp
    · obtain ⟨h1, h2, h3⟩ := t.obf p hp
      simp [h1, h2, h3]
    · have hp := List.mem_singleton.1 hp
      subst hp
      simp
  · intro y hy
    rcases List.mem_append.1 hy with hy | hy
    · have := t.lt y hy
      omega
    · simp at hy
      rcases hy with rfl | rfl | rfl
      · exact T.lt
      · exact bR.lt
      · exact bV.lt
theorem make_spec (t : PH w x fh node last l) (hQ : AftH w x fh node (makeO last l).1 (makeO last l).2.1 (.tuple #[.int .u64 (makeO last l).2.2.1, .int .i64 (makeO last l).2.2.2]) Q) :
    CallR Try.prog 27 #[.pointer (some (at0 x.h 0)), .int .i64 1, .int .i64 0] w Q := by
  apply X27.sound
  unfold X27.f
  refine hfields_spec (by omega) (by omega) ⟨_, rfl, hfields_spec (by omega) (by omega) ⟨_, rfl, ?_⟩⟩
  unfold X27.j0
  simp only [optP_some]
  obtain ⟨ts, os, t, rfl⟩ := t
  have tt : PH w x fh node last (os.map OT.pr) := ⟨ts, os, t, rfl⟩
  refine bc_bool (fun e => by cases e) (fun _ => drawn fun w1 f1 _ => ?_)
  have t1 := t.keep' f1
  have tt1 := tt.keep' f1
  unfold makeO at hQ
  rw [List.length_map] at hQ
  refine ld_map (t1.c0 4 rfl) ⟨(os.length : Int), ?_, ld_int (t1.c0 1 rfl) (bc_dec (fun h => ?_) (fun h => ?_))⟩
  · have := lenU (P := Try.prog) (M := 95) (K := 22) (E := 93) (ty := 3) (by kernel_rfl) t1.map
    rw [List.length_map] at this
    exact this
  · rw [if_pos (by omega)] at hQ
    exact hQ.same tt f1
  · rw [if_neg (by omega)] at hQ
    have hlst := t.lst
    refine ld_int (t1.c0 2 rfl) (bc_eq (fun h2 => ?_) (fun h2 => ?_))
    · rw [if_pos h2] at hQ
      exact hQ.same tt f1
    · rw [if_neg h2] at hQ
      have t1l := t1.lt
      refine ld_ptr (t1.c0 3 rfl) ?_
      rw [show IntKind.wrap .i64 (IntKind.wrap .i64 (1 + 1) + 0) = 2 by decide +kernel]
      refine alloc_spec t1.ar t1.tsI (by rw [t1.pops]; omega) fun b w12 hab hb hbt A12 f12 => ⟨_, _, rfl, bc_ne (fun e => absurd rfl e) (fun _ => ?_)⟩
      obtain ⟨d1, d2, d3, d4, d5, d6, d7⟩ := t1.dis
      have B12 := t1.blk.keep f12 (by simp [d2, d3])
      have M12 := t1.map.keep f12 (by simp [d6, d7])
      refine ld_int (B12.cat 2 _ rfl) (stB (i := 2) B12 (show 2 < 5 by omega) fun w18 B18 f18 => ?_)
      rw [u64w (last + 1) (by omega) (by omega)] at B18
      have B18 : Blk w18 x.h (hcells x node (last + 1)) 97 := B18
      have A18 := A12.keep f18 (by simp; exact fun e => d1 e.symm) (by simp; exact fun e => d2 e.symm) (by simp; exact fun e => d3 e.symm)
      have M18 := M12.keep f18 (by simp; exact d4)
      have F18 : Fr [x.h, x.cb, x.tb, x.m] w w18 := (f1.any.tr (f12.mono fun y hy => by simp at hy; rcases hy with rfl | rfl <;> simp)).tr (f18.mono fun y hy => by simp at hy; simp [hy])
      refine drawn fun w19 f19 _ => ?_
      have B19 := B18.keep' f19
      have A19 := A18.keep' f19
      have M19 := M18.keep' f19
      have F19 := F18.tr f19.any
      have z19 := F19.size
      have mu : ∀ y ∈ os.map OT.ent, y.1 ≠ last + 1 := fun y hy => by
        obtain ⟨p, hp, rfl⟩ := List.mem_map.1 hy
        have := t.ser p hp
        show p.s ≠ last + 1
        omega
      have fin : ∀ {g r v : Nat} {w31 : World} {K : World → Prop}, Fr [] w19 w31 → w19.heap.size ≤ g → w19.heap.size ≤ r → w19.heap.size ≤ v → Blk w31 g (OT.cells ⟨last + 1, b, lz (ts.getD b 0), g, r, v, 0⟩) 100 → Own 36 2 w31 (some (at0 r 0)) 1 1 idc0 → Own 22 1 w31 (some (at0 v 0)) 0 0 [] →
          RunR Try.prog (Instr.mapUpdate 95 (.map (some x.m)) (.int .u64 (last + 1)) (.pointer (some (at0 g 0)))) w31 fun _ w33 => ldI .u64 w33 ((at0 x.h 0).add 2) fun x35 => Q (.tuple #[.int .u64 x35, .int .i64 0]) w33 := by
        intro g r v w31 K f31 hg hr hv T R V
        refine updU (K := 22) (E := 93) (by kernel_rfl) (by kernel_rfl) (M19.keep' f31) (u64wf (by omega) (by omega)) mu fun w33 M33 f33 => ?_
        obtain ⟨cR, bR⟩ := R.nb
        obtain ⟨cV, bV⟩ := V.nb
        have mm := M19.keep' f31
        have B33 := (B19.keep' f31).keep f33 (by simp; exact fun e => d4 e.symm)
        have A33 := (A19.keep' f31).keep f33 (by simp; exact fun e => d5 e.symm) (by simp; exact fun e => d6 e.symm) (by simp; exact fun e => d7 e.symm)
        have F33 : Fr [x.h, x.cb, x.tb, x.m] w w33 := (F19.tr f31.any).tr (f33.mono fun y hy => by simp at hy; simp [hy])
        have nm : ∀ {y : Nat}, x.m ≠ y → y ∉ [x.m] := fun h => by simp; exact fun e => h e.symm
        have G := t.grow (by omega) (by omega) hb hbt (by omega) (by omega) (by omega) F33 B33 A33 M33 (T.keep f33 (nm (mm.ne T))) (R.keep f33 (fun y hy => by simp [fbl, at0] at hy; rw [hy]; exact nm (mm.ne bR))) (V.keep f33 (fun y hy => by simp [fbl, at0] at hy; rw [hy]; exact nm (mm.ne bV)))
        refine ld_int (G.c0 2 rfl) (hQ _ w33 ⟨_, _, G, by simp [OT.pr]⟩ (F33.mono fun y hy => ?_) (fun y hy => ?_))
        · obtain ⟨f1, f2, f3, f4, f5⟩ := t.foot
          simp at hy
          rcases hy with rfl | rfl | rfl | rfl <;> assumption
        · rcases List.mem_append.1 hy with hy | hy
          · exact .inl hy
          · simp at hy
            rcases hy with rfl | rfl | rfl <;> exact .inr (by omega)
      refine ⟨?_, ?_⟩
      · refine ld_map (B19.cat 4 _ rfl) (ld_int (B19.cat 2 _ rfl) ?_)
        refine makeN (n := 1) (Z := 2) (E := 36) (i := Try.t36) (z := Value.agg #[.int .i64 0, .int .u64 0]) (by kernel_rfl) (by kernel_rfl) (by kernel_rfl) (by kernel_rfl) (by decide +kernel) (by omega) (xs := idc0) (by kernel_rfl) fun r w25 R25 f25 hr => ⟨_, _, _, rfl, ⟨B19.cat 2 _ rfl, (B19.keep' f25).cat 2 _ rfl⟩, ⟨B19.cat 4 _ rfl, (B19.keep' f25).cat 4 _ rfl⟩, ?_⟩
        refine makeN (n := 0) (Z := 1) (E := 22) (i := Try.t22) (z := .int .u64 0) (by kernel_rfl) (by kernel_rfl) (by kernel_rfl) (by kernel_rfl) (by decide +kernel) (by omega) (xs := []) (by kernel_rfl) fun v w28 V28 f28 hv => ⟨_, _, _, rfl, ⟨(B19.keep' f25).cat 2 _ rfl, (B19.keep' (f25.tr f28)).cat 2 _ rfl⟩, ⟨(B19.keep' f25).cat 4 _ rfl, (B19.keep' (f25.tr f28)).cat 4 _ rfl⟩, ?_⟩
        refine newB fun g w31 T31 f31 hg => ⟨⟨(B19.keep' (f25.tr f28)).cat 2 _ rfl, (B19.keep' (f25.tr (f28.tr f31))).cat 2 _ rfl⟩, ⟨(B19.keep' (f25.tr f28)).cat 4 _ rfl, (B19.keep' (f25.tr (f28.tr f31))).cat 4 _ rfl⟩, ?_⟩
        have z25 := f25.size
        have z28 := f28.size
        exact fin (K := fun _ => True) (f25.tr (f28.tr f31)) (by omega) (by omega) (by omega) T31 (R25.keep' (f28.tr f31)) (V28.keep' f31)
      · refine ld_map (B19.cat 4 _ rfl) (ld_int (B19.cat 2 _ rfl) ?_)
        refine makeN (n := 0) (Z := 1) (E := 22) (i := Try.t22) (z := .int .u64 0) (by kernel_rfl) (by kernel_rfl) (by kernel_rfl) (by kernel_rfl) (by decide +kernel) (by omega) (xs := []) (by kernel_rfl) fun v w25 V25 f25 hv => ⟨_, _, _, rfl, ⟨B19.cat 2 _ rfl, (B19.keep' f25).cat 2 _ rfl⟩, ⟨B19.cat 4 _ rfl, (B19.keep' f25).cat 4 _ rfl⟩, ?_⟩
        refine makeN (n := 1) (Z := 2) (E := 36) (i := Try.t36) (z := Value.agg #[.int .i64 0, .int .u64 0]) (by kernel_rfl) (by kernel_rfl) (by kernel_rfl) (by kernel_rfl) (by decide +kernel) (by omega) (xs := idc0) (by kernel_rfl) fun r w28 R28 f28 hr => ⟨_, _, _, rfl, ⟨(B19.keep' f25).cat 2 _ rfl, (B19.keep' (f25.tr f28)).cat 2 _ rfl⟩, ⟨(B19.keep' f25).cat 4 _ rfl, (B19.keep' (f25.tr f28)).cat 4 _ rfl⟩, ?_⟩
        refine newB fun g w31 T31 f31 hg => ⟨⟨(B19.keep' (f25.tr f28)).cat 2 _ rfl, (B19.keep' (f25.tr (f28.tr f31))).cat 2 _ rfl⟩, ⟨(B19.keep' (f25.tr f28)).cat 4 _ rfl, (B19.keep' (f25.tr (f28.tr f31))).cat 4 _ rfl⟩, ?_⟩
        have z25 := f25.size
        have z28 := f28.size
        exact fin (K := fun _ => True) (f25.tr (f28.tr f31)) (by omega) (by omega) (by omega) T31 (R28.keep' f31) (V25.keep' (f28.tr f31))
theorem heapNew_spec (h1 : 1 ≤ node) (h2 : node ≤ 64) (hQ : ∀ x fh w', PH w' x fh node 0 [] → Fr [] w w' → (∀ y ∈ fh, w.heap.size ≤ y) → Q (.tuple #[.pointer (some (at0 x.h 0)), .int .i64 0]) w') :
    CallR Try.prog 25 #[.int .i64 node, .int .i64 256, .int .i64 12, .int .u64 0] w Q := by
  apply X25.sound
  unfold X25.f
  refine bc_neg (by omega) (bc_neg (by omega) (bc_neg (by omega) (bc_neg (by omega) (bc_neg (by omega) ?_))))
  unfold X25.j0
  refine newArena_spec fun a cb tb w2 A f2 ha hcb htb => ⟨_, _, rfl, bc_ne (fun e => absurd rfl e) (fun _ => ?_)⟩
  refine newMU fun m w6 M f6 hm => newB fun g w8 B f8 hg => ?_
  have z2 := f2.size
  have z6 := f6.size
  have A8 := A.keep' (f6.tr f8)
  have M8 := M.keep' f8
  have lt := A8.lt
  refine hQ ⟨g, a, cb, tb, m⟩ [g, a, cb, tb, m] w8 ⟨List.replicate 16 0, [], ⟨B, A8, ⟨by simp, fun t ht => by simp at ht; omega⟩, by rw [List.map_replicate, pop_zero]; rfl, M8, by simp, List.Pairwise.nil, List.Pairwise.nil, by simp, by simp, by omega, by simp, by simp, fun y hy => ?_⟩, rfl⟩ (f2.tr (f6.tr f8)) (fun y hy => ?_)
  · simp at hy
    rcases hy with rfl | rfl | rfl | rfl | rfl
    · exact B.lt
    · exact lt.1
    · exact lt.2.1
    · exact lt.2.2
    · exact M8.lt
  · simp at hy
    rcases hy with rfl | rfl | rfl | rfl | rfl <;> omega
end
end Go.Proofs.YtnjmkhhaodgpbaaX
