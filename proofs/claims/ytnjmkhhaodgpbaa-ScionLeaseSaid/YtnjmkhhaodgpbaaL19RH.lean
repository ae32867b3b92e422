/- The document's heap as it lies: made, objects made. -/
import Derived.Test.YtnjmkhhaodgpbaaL19RA
namespace Go.Proofs.YtnjmkhhaodgpbaaX
open Go.RowKit
set_option linter.unusedVariables false
set_option linter.unusedSimpArgs false
set_option maxRecDepth 100000
theorem rowP : RowT Try.prog 105 111 1 8 := ⟨by kernel_rfl, ⟨Try.t111, .pointer none, by kernel_rfl, by kernel_rfl, by kernel_rfl, by kernel_rfl, by kernel_rfl⟩, by omega⟩
theorem Own.nbs {w : World} {n c sz : Nat} {e : TypeId} {p : Option Addr} {xs : List Value} (o : Own e sz w p n c xs) : ∀ y ∈ fbl p, ∃ cur, Blk w y cur e := by
  intro y hy
  cases p with
  | none => simp [fbl] at hy
  | some a =>
    obtain ⟨g, cur, rfl, h2, _⟩ := o.blk
    simp [fbl, at0] at hy
    subst hy
    exact ⟨cur, h2⟩
def OT.rcells (o : OT) : List Value := [.int .u64 o.s, .int .i64 (16 * (o.b : Int) + 2 * (o.k : Int)), .slice (some (at0 o.r 0)) 1 1, .slice (some (at0 o.v 0)) 0 0, .int .i64 o.d]
def pv (g : Nat) : Value := .pointer (some (at0 g 0))
structure RB (w : World) (ts : List Nat) (o : OT) : Prop where
  blk : Blk w o.g o.rcells 74
  bl : o.b < 16
  kl : o.k < 8
  bit : bitAt ts o.b o.k = true
structure RHB where
  h : Nat
  a : Nat
  cb : Nat
  tb : Nat
def rhcells (x : RHB) (node last : Int) (lp : Option Addr) (n lc : Nat) : List Value := [.int .i64 node, .int .i64 12, .int .u64 last, .pointer (some (at0 x.a 0)), .slice lp n lc]
structure PRa (w : World) (x : RHB) (fh : List Nat) (node last : Int) (ts : List Nat) (os : List OT) (lp : Option Addr) (lc : Nat) : Prop where
  blk : Blk w x.h (rhcells x node last lp os.length lc) 107
  ar : RAR w x.a x.cb x.tb (ts.map clsB) ts
  tsI : TsI ts
  pops : (ts.map pop).sum = os.length
  row : Own 111 1 w lp os.length lc (os.map fun o => pv o.g)
  obs : ∀ o ∈ os, RB w ts o
  gd : os.Pairwise fun o p => o.g ≠ p.g
  pl : os.Pairwise fun o p => ¬ (o.b = p.b ∧ o.k = p.k)
  le : os.length ≤ 12
  sd : os.Pairwise fun o p => o.s ≠ p.s
  ser : ∀ o ∈ os, 1 ≤ o.s ∧ o.s ≤ last
  lst : 0 ≤ last ∧ last ≤ 72057594037927935
  foot : x.h ∈ fh ∧ x.a ∈ fh ∧ x.cb ∈ fh ∧ x.tb ∈ fh ∧ ∀ y ∈ fbl lp, y ∈ fh
  obf : ∀ o ∈ os, o.g ∈ fh
  lt : ∀ y ∈ fh, y < w.heap.size
def PR (w : World) (x : RHB) (fh : List Nat) (node last : Int) (l : List (Int × Int)) : Prop := ∃ ts os lp lc, PRa w x fh node last ts os lp lc ∧ l = os.map OT.pr
section
variable {w w' W : World} {Q : Value → World → Prop} {x : RHB} {fh F : List Nat} {node last s d : Int} {ts : List Nat} {os : List OT} {o : OT} {l : List (Int × Int)} {lp : Option Addr} {lc b g r v : Nat}
theorem PRa.keep (t : PRa w x fh node last ts os lp lc) (f : Fr F w w') (hd : ∀ y ∈ fh, y ∉ F) : PRa w' x fh node last ts os lp lc := by
  obtain ⟨f1, f2, f3, f4, f5⟩ := t.foot
  have hz := f.size
  exact ⟨t.blk.keep f (hd _ f1), t.ar.keep f (hd _ f2) (hd _ f3) (hd _ f4), t.tsI, t.pops, t.row.keep f (fun y hy => hd _ (f5 y hy)), fun o ho => ⟨(t.obs o ho).blk.keep f (hd _ (t.obf o ho)), (t.obs o ho).bl, (t.obs o ho).kl, (t.obs o ho).bit⟩, t.gd, t.pl, t.le, t.sd, t.ser, t.lst, t.foot, t.obf, fun y hy => by have := t.lt y hy; omega⟩
theorem PRa.keep' (t : PRa w x fh node last ts os lp lc) (f : Fr [] w w') : PRa w' x fh node last ts os lp lc := t.keep f (by simp)
theorem PR.keep (t : PR w x fh node last l) (f : Fr F w w') (hd : ∀ y ∈ fh, y ∉ F) : PR w' x fh node last l := by
  obtain ⟨ts, os, lp, lc, t, e⟩ := t
  exact ⟨ts, os, lp, lc, t.keep f hd, e⟩
theorem PR.keep' (t : PR w x fh node last l) (f : Fr [] w w') : PR w' x fh node last l := t.keep f (by simp)
theorem PR.lt (t : PR w x fh node last l) : ∀ y ∈ fh, y < w.heap.size := by
  obtain ⟨ts, os, lp, lc, t, e⟩ := t
  exact t.lt
theorem PRa.c0 (t : PRa w x fh node last ts os lp lc) (i : Nat) {u : Value} (hu : (rhcells x node last lp os.length lc)[i]? = some u) : w.cell? ((at0 x.h 0).add i) = some u := t.blk.cat i _ hu
def AftR (w : World) (x : RHB) (fh : List Nat) (node last' : Int) (l' : List (Int × Int)) (v : Value) (Q : Value → World → Prop) : Prop := ∀ fh' w', PR w' x fh' node last' l' → Fr fh w w' → (∀ y ∈ fh', y ∈ fh ∨ w.heap.size ≤ y) → Q v w'
theorem AftR.same {v : Value} (h : AftR w x fh node last l v Q) (t : PR w x fh node last l) (f : Fr [] w w') : Q v w' := h fh w' (t.keep' f) f.any (fun y hy => .inl hy)
/-- the heap's own blocks lie apart -/
theorem PRa.off (t : PRa w x fh node last ts os lp lc) (ho : o ∈ os) {y : Nat} (hy : y = x.h ∨ y = x.a ∨ y = x.cb ∨ y = x.tb ∨ y ∈ fbl lp) : o.g ≠ y := by
  have b1 := (t.obs o ho).blk
  obtain ⟨d3, e3⟩ := t.ar.crow.nb
  obtain ⟨d4, e4⟩ := t.ar.trow.nb
  rcases hy with rfl | rfl | rfl | rfl | hy
  · exact b1.ne t.blk (by decide)
  · exact b1.ne t.ar.blk (by decide)
  · exact b1.ne e3 (by decide)
  · exact b1.ne e4 (by decide)
  · obtain ⟨c, e5⟩ := t.row.nbs y hy
    exact b1.ne e5 (by decide)
theorem PRa.dis (t : PRa w x fh node last ts os lp lc) : x.h ≠ x.a ∧ x.h ≠ x.cb ∧ x.h ≠ x.tb ∧ ∀ y ∈ fbl lp, y ≠ x.h ∧ y ≠ x.a ∧ y ≠ x.cb ∧ y ≠ x.tb := by
  obtain ⟨d3, e3⟩ := t.ar.crow.nb
  obtain ⟨d4, e4⟩ := t.ar.trow.nb
  refine ⟨t.blk.ne t.ar.blk (by decide), t.blk.ne e3 (by decide), t.blk.ne e4 (by decide), fun y hy => ?_⟩
  obtain ⟨c, e5⟩ := t.row.nbs y hy
  exact ⟨e5.ne t.blk (by decide), e5.ne t.ar.blk (by decide), e5.ne e3 (by decide), e5.ne e4 (by decide)⟩
theorem rnew_spec (h1 : 1 ≤ node) (h2 : node ≤ 64) (hQ : ∀ x fh w', PR w' x fh node 0 [] → Fr [] w w' → (∀ y ∈ fh, w.heap.size ≤ y) → Q (.pointer (some (at0 x.h 0))) w') :
    CallR Try.prog 26 #[.int .i64 node, .int .i64 256, .int .i64 12, .int .u64 0] w Q := by
  apply X26.sound
  unfold X26.f
  refine bc_neg (by omega) (bc_neg (by omega) (bc_neg (by omega) (bc_neg (by omega) (bc_neg (by omega) (bc_neg (by omega) (bc_neg (by omega) ⟨by omega, ?_⟩))))))
  rw [show Int.tmod 256 16 = 0 by decide +kernel]
  refine bc_ne (fun e => absurd rfl e) (fun _ => newRA_spec fun a cb tb w2 A f2 ha hcb htb => ⟨_, rfl, newB fun g w8 B f8 hg => ?_⟩)
  have z2 := f2.size
  have A8 := A.keep' f8
  obtain ⟨d3, e3⟩ := A8.crow.nb
  obtain ⟨d4, e4⟩ := A8.trow.nb
  refine hQ ⟨g, a, cb, tb⟩ [g, a, cb, tb] w8 ⟨List.replicate 16 0, [], none, 0, ⟨B, A8, ⟨by simp, fun t ht => by simp at ht; omega⟩, by rw [List.map_replicate, pop_zero]; rfl, Own.nil, by simp, List.Pairwise.nil, List.Pairwise.nil, by simp, List.Pairwise.nil, by simp, by omega, by simp [fbl], by simp, fun y hy => ?_⟩, rfl⟩ (f2.tr f8) (fun y hy => ?_)
  · simp at hy
    rcases hy with rfl | rfl | rfl | rfl
    · exact B.lt
    · exact A8.blk.lt
    · exact e3.lt
    · exact e4.lt
  · simp at hy
    rcases hy with rfl | rfl | rfl | rfl <;> omega
theorem rmake_spec (t : PR w x fh node last l) (hQ : AftR w x fh node (makeO last l).1 (makeO last l).2.1 (.tuple #[.int .u64 (makeO last l).2.2.1, .int .i64 (makeO last l).2.2.2]) Q) :
    CallR Try.prog 28 #[.pointer (some (at0 x.h 0)), .int .i64 1, .int .i64 0] w Q := by
  apply X28.sound
  unfold X28.f
  refine bc_neg (by omega) (bc_neg (by omega) (bc_neg (by omega) (bc_neg (by omega) ?_)))
  unfold X28.j0
  simp only [optP_some]
  obtain ⟨ts, os, lp, lc, t, rfl⟩ := t
  have tt : PR w x fh node last (os.map OT.pr) := ⟨ts, os, lp, lc, t, rfl⟩
  refine drawn fun w1 f1 _ => ?_
  have t1 := t.keep' f1
  have tt1 := tt.keep' f1
  unfold makeO at hQ
  rw [List.length_map] at hQ
  refine ld_sl (t1.c0 4 rfl) (ld_int (t1.c0 1 rfl) (bc_dec (fun h => ?_) (fun h => ?_)))
  · rw [if_pos (by omega)] at hQ
    exact hQ.same tt f1
  · rw [if_neg (by omega)] at hQ
    have hlst := t.lst
    refine ld_int (t1.c0 2 rfl) (bc_dec (fun h2 => ?_) (fun h2 => ?_))
    · rw [if_pos (by omega)] at hQ
      exact hQ.same tt f1
    · rw [if_neg (by omega)] at hQ
      have t1l := t1.lt
      refine ld_ptr (t1.c0 3 rfl) ?_
      rw [show IntKind.wrap .i64 (IntKind.wrap .i64 (1 + 1) + 0) = 2 by decide +kernel]
      refine ralloc_spec t1.ar t1.tsI (by rw [t1.pops]; omega) fun b w12 hab hb hbt A12 f12 => ⟨_, _, rfl, bc_ne (fun e => absurd rfl e) (fun _ => ?_)⟩
      obtain ⟨d1, d2, d3, d4⟩ := t1.dis
      have B12 := t1.blk.keep f12 (by simp [d2, d3])
      have L12 := t1.row.keep f12 (fun y hy => by obtain ⟨_, _, h3, h4⟩ := d4 y hy; simp [h3, h4])
      refine ld_int (B12.cat 2 _ rfl) (stB (i := 2) B12 (show 2 < 5 by omega) fun w18 B18 f18 => ?_)
      rw [u64w (last + 1) (by omega) (by omega)] at B18
      have B18 : Blk w18 x.h (rhcells x node (last + 1) lp os.length lc) 107 := B18
      have A18 := A12.keep f18 (by simp; exact fun e => d1 e.symm) (by simp; exact fun e => d2 e.symm) (by simp; exact fun e => d3 e.symm)
      have L18 := L12.keep f18 (fun y hy => by obtain ⟨h1, _⟩ := d4 y hy; simp [h1])
      have F18 : Fr [x.h, x.cb, x.tb] w w18 := (f1.any.tr (f12.mono fun y hy => by simp at hy; rcases hy with rfl | rfl <;> simp)).tr (f18.mono fun y hy => by simp at hy; simp [hy])
      refine drawn fun w19 f19 _ => ?_
      have B19 := B18.keep' f19
      have A19 := A18.keep' f19
      have L19 := L18.keep' f19
      have F19 := F18.tr f19.any
      have z19 := F19.size
      have fin : ∀ {g g' r v : Nat} {w31 : World} {K : World → Prop}, Fr [] w19 w31 → w19.heap.size ≤ g → w19.heap.size ≤ g' → Blk w31 g (OT.rcells ⟨last + 1, b, lz (ts.getD b 0), g, r, v, 0⟩) 74 → Blk w31 g' [pv g] 111 →
          RunR Try.prog (Builtin.append_ #[105, 105] 105 #[.slice lp os.length lc, .slice (some (at0 g' 0)) 1 1]) w31 fun v33 w34 => ∃ (s35p : Option Addr) (s35n s35c : Nat), v33 = .slice s35p s35n s35c ∧ optP (some (at0 x.h 0)) fun p36 => stK w34 (p36.add 4) (.slice s35p s35n s35c) fun w37 => optP (some (at0 x.h 0)) fun p38 => ldI .u64 w37 (p38.add 2) fun x39 => Q (.tuple #[.int .u64 x39, .int .i64 0]) w37 := by
        intro g g' r v w31 K f31 hg hg' T T'
        have L31 := L19.keep' f31
        have z31 := f31.size
        refine app_own rowP L31 (cells_one T') rfl some_ne (by simp [pv, Value.oneCell']) (by simp only [maxLen]; omega) (Nat.le_trans (Nat.mul_le_mul (show os.length + 1 ≤ 100 by omega) (Nat.le_refl 8)) (by omega)) fun lp2 lc2 w34 L34 f34 e34 => ⟨_, _, _, rfl, ?_⟩
        have B31 := B19.keep' f31
        have nh : x.h ∉ fbl lp := fun hm => (d4 _ hm).1 rfl
        have B34 := B31.keep f34 nh
        refine opt_some rfl (stB (i := 4) B34 (show 4 < 5 by omega) fun w37 B37 f37 => ?_)
        have hlen : (os ++ [(⟨last + 1, b, lz (ts.getD b 0), g, r, v, 0⟩ : OT)]).length = os.length + 1 := by simp
        have B37 : Blk w37 x.h (rhcells x node (last + 1) lp2 (os ++ [(⟨last + 1, b, lz (ts.getD b 0), g, r, v, 0⟩ : OT)]).length lc2) 107 := by rw [hlen]; exact B37
        have A31 := A19.keep' f31
        have A34 := A31.keep f34 (fun hm => (d4 _ hm).2.1 rfl) (fun hm => (d4 _ hm).2.2.1 rfl) (fun hm => (d4 _ hm).2.2.2 rfl)
        have A37 := A34.keep f37 (by simp; exact fun e => d1 e.symm) (by simp; exact fun e => d2 e.symm) (by simp; exact fun e => d3 e.symm)
        have nl2 : ∀ y ∈ fbl lp2, y ≠ x.h := fun y hy => by
          obtain ⟨c, e5⟩ := L34.nbs y hy
          exact e5.ne B34 (by decide)
        have L37 := L34.keep f37 (fun y hy => by simp [nl2 y hy])
        have gl : g ∉ fbl lp := fun hm => by
          have := L19.lt g hm
          omega
        have gh : g ≠ x.h := T.ne B31 (by decide)
        have T37 := (T.keep f34 gl).off1 gh f37
        have hz := lz_lt hbt
        have hS := t.tsI.set hb hz.1 hz.2.1
        obtain ⟨f1', f2', f3', f4', f5'⟩ := t.foot
        have F34 : Fr (x.h :: x.cb :: x.tb :: fbl lp) w w34 := ((F19.mono fun y hy => by simp at hy; rcases hy with rfl | rfl | rfl <;> simp).tr f31.any).tr (f34.mono fun y hy => by simp [hy])
        have F37 : Fr (x.h :: x.cb :: x.tb :: fbl lp) w w37 := F34.tr (f37.mono fun y hy => by simp at hy; simp [hy])
        have z37 := F37.size
        have z34 := F34.size
        have z3437 := f37.size
        have keepO : ∀ p ∈ os, RB w37 (setAt ts b (lz (ts.getD b 0))) p := fun p hp => by
          have q := t.obs p hp
          refine ⟨q.blk.keep F37 (fun hm => ?_), q.bl, q.kl, ?_⟩
          · rcases List.mem_cons.1 hm with h | hm
            · exact t.off hp (.inl h) rfl
            rcases List.mem_cons.1 hm with h | hm
            · exact t.off hp (.inr (.inr (.inl h))) rfl
            rcases List.mem_cons.1 hm with h | hm
            · exact t.off hp (.inr (.inr (.inr (.inl h)))) rfl
            · exact t.off hp (.inr (.inr (.inr (.inr hm)))) rfl
          · rw [hS.2.2 _ _ q.kl, q.bit]
            simp
        refine opt_some rfl (ld_int (B37.cat 2 _ rfl) (hQ (fh ++ (g :: fbl lp2)) w37 ⟨setAt ts b (lz (ts.getD b 0)), os ++ [⟨last + 1, b, lz (ts.getD b 0), g, r, v, 0⟩], lp2, lc2, ⟨B37, A37, hS.1, by rw [hS.2.1, t.pops]; simp, ?_, ?_, ?_, ?_, by simp; omega, ?_, ?_, ⟨by omega, by omega⟩, ?_, ?_, ?_⟩, by simp [OT.pr]⟩ ?_ ?_))
        · rw [hlen, List.map_append]
          exact L37
        · intro p hp
          rcases List.mem_append.1 hp with hp | hp
          · exact keepO p hp
          · have hp := List.mem_singleton.1 hp
            subst hp
            refine ⟨T37, hb, hz.1, ?_⟩
            show bitAt _ b (lz _) = true
            rw [hS.2.2 _ _ hz.1]
            simp
        · rw [List.pairwise_append]
          refine ⟨t.gd, by simp, fun p hp q hq => ?_⟩
          have hq := List.mem_singleton.1 hq
          subst hq
          show p.g ≠ g
          have := t.lt _ (t.obf p hp)
          omega
        · rw [List.pairwise_append]
          refine ⟨t.pl, by simp, fun p hp q hq => ?_⟩
          have hq := List.mem_singleton.1 hq
          subst hq
          show ¬ (p.b = b ∧ p.k = lz _)
          rintro ⟨e1, e2⟩
          have q := (t.obs p hp).bit
          rw [e1, e2] at q
          unfold bitAt at q
          rw [hz.2.1] at q
          cases q
        · rw [List.pairwise_append]
          refine ⟨t.sd, by simp, fun p hp q hq => ?_⟩
          have hq := List.mem_singleton.1 hq
          subst hq
          show p.s ≠ last + 1
          have := t.ser p hp
          omega
        · intro p hp
          rcases List.mem_append.1 hp with hp | hp
          · have := t.ser p hp
            omega
          · have hp := List.mem_singleton.1 hp
            subst hp
            show 1 ≤ last + 1 ∧ last + 1 ≤ last + 1
            omega
        · exact ⟨by simp [f1'], by simp [f2'], by simp [f3'], by simp [f4'], fun y hy => by simp [hy]⟩
        · intro p hp
          rcases List.mem_append.1 hp with hp | hp
          · have := t.obf p hp
            simp [this]
          · have hp := List.mem_singleton.1 hp
            subst hp
            simp
        · intro y hy
          rcases List.mem_append.1 hy with hy | hy
          · have := t.lt y hy
            omega
          rcases List.mem_cons.1 hy with rfl | hy
          · exact T37.lt
          · exact L37.lt y hy
        · exact F37.mono fun y hy => by
            rcases List.mem_cons.1 hy with rfl | hy
            · exact f1'
            rcases List.mem_cons.1 hy with rfl | hy
            · exact f3'
            rcases List.mem_cons.1 hy with rfl | hy
            · exact f4'
            · exact f5' y hy
        · intro y hy
          rcases List.mem_append.1 hy with hy | hy
          · exact .inl hy
          rcases List.mem_cons.1 hy with rfl | hy
          · exact .inr (by omega)
          · rcases e34 y hy with h' | h'
            · exact .inl (f5' y h')
            · exact .inr (by omega)
      refine ⟨?_, ?_⟩
      · refine ld_sl (B19.cat 4 _ rfl) (ld_int (B19.cat 2 _ rfl) ?_)
        refine makeN (n := 1) (Z := 2) (E := 36) (i := Try.t36) (z := Value.agg #[.int .i64 0, .int .u64 0]) (by kernel_rfl) (by kernel_rfl) (by kernel_rfl) (by kernel_rfl) (by decide +kernel) (by omega) (xs := idc0) (by kernel_rfl) fun r w25 R25 f25 hr => ⟨_, _, _, rfl, ⟨B19.cat 2 _ rfl, (B19.keep' f25).cat 2 _ rfl⟩, ⟨B19.cat 4 _ rfl, (B19.keep' f25).cat 4 _ rfl⟩, ?_⟩
        refine makeN (n := 0) (Z := 1) (E := 22) (i := Try.t22) (z := .int .u64 0) (by kernel_rfl) (by kernel_rfl) (by kernel_rfl) (by kernel_rfl) (by decide +kernel) (by omega) (xs := []) (by kernel_rfl) fun v w28 V28 f28 hv => ⟨_, _, _, rfl, ⟨(B19.keep' f25).cat 2 _ rfl, (B19.keep' (f25.tr f28)).cat 2 _ rfl⟩, ⟨(B19.keep' f25).cat 4 _ rfl, (B19.keep' (f25.tr f28)).cat 4 _ rfl⟩, ?_⟩
        refine newB fun g w31 T31 f31 hg => ⟨⟨(B19.keep' (f25.tr f28)).cat 4 _ rfl, (B19.keep' (f25.tr (f28.tr f31))).cat 4 _ rfl⟩, newB fun g' w32 T32 f32 hg' => ⟨⟨(B19.keep' (f25.tr (f28.tr f31))).cat 4 _ rfl, (B19.keep' (f25.tr (f28.tr (f31.tr f32)))).cat 4 _ rfl⟩, ?_⟩⟩
        have z25 := f25.size
        have z28 := f28.size
        have z31 := f31.size
        exact fin (r := r) (v := v) (K := fun _ => True) (f25.tr (f28.tr (f31.tr f32))) (by omega) (by omega) (T31.keep' f32) T32
      · refine ld_sl (B19.cat 4 _ rfl) (ld_int (B19.cat 2 _ rfl) ?_)
        refine makeN (n := 0) (Z := 1) (E := 22) (i := Try.t22) (z := .int .u64 0) (by kernel_rfl) (by kernel_rfl) (by kernel_rfl) (by kernel_rfl) (by decide +kernel) (by omega) (xs := []) (by kernel_rfl) fun v w25 V25 f25 hv => ⟨_, _, _, rfl, ⟨B19.cat 2 _ rfl, (B19.keep' f25).cat 2 _ rfl⟩, ⟨B19.cat 4 _ rfl, (B19.keep' f25).cat 4 _ rfl⟩, ?_⟩
        refine makeN (n := 1) (Z := 2) (E := 36) (i := Try.t36) (z := Value.agg #[.int .i64 0, .int .u64 0]) (by kernel_rfl) (by kernel_rfl) (by kernel_rfl) (by kernel_rfl) (by decide +kernel) (by omega) (xs := idc0) (by kernel_rfl) fun r w28 R28 f28 hr => ⟨_, _, _, rfl, ⟨(B19.keep' f25).cat 2 _ rfl, (B19.keep' (f25.tr f28)).cat 2 _ rfl⟩, ⟨(B19.keep' f25).cat 4 _ rfl, (B19.keep' (f25.tr f28)).cat 4 _ rfl⟩, ?_⟩
        refine newB fun g w31 T31 f31 hg => ⟨⟨(B19.keep' (f25.tr f28)).cat 4 _ rfl, (B19.keep' (f25.tr (f28.tr f31))).cat 4 _ rfl⟩, newB fun g' w32 T32 f32 hg' => ⟨⟨(B19.keep' (f25.tr (f28.tr f31))).cat 4 _ rfl, (B19.keep' (f25.tr (f28.tr (f31.tr f32)))).cat 4 _ rfl⟩, ?_⟩⟩
        have z25 := f25.size
        have z28 := f28.size
        have z31 := f31.size
        exact fin (r := r) (v := v) (K := fun _ => True) (f25.tr (f28.tr (f31.tr f32))) (by omega) (by omega) (T31.keep' f32) T32
end
end Go.Proofs.YtnjmkhhaodgpbaaX
