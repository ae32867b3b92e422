/- A node's heap: an object told, an object freed. -/
import Derived.Test.YtnjmkhhaodgpbaaL19HeapB
import Derived.Test.YtnjmkhhaodgpbaaXRows
namespace Go.Proofs.YtnjmkhhaodgpbaaX
open Go.RowKit
set_option linter.unusedVariables false
set_option linter.unusedSimpArgs false
set_option maxRecDepth 100000
section
variable {w w' W : World} {Q : Value → World → Prop} {x : HB} {fh F : List Nat} {node last s d : Int} {ts : List Nat} {os os' : List OT} {o : OT} {l : List (Int × Int)} {b k g r v : Nat}
theorem idc0_one : ∀ u ∈ idc0, u.oneCell' = true := by
  intro u hu
  simp at hu
  rcases hu with rfl | rfl <;> rfl
theorem emptyRow {e : TypeId} {Z : Nat} {w : World} {g : Nat} (b : Blk w g [] e) : Own e Z w (some (at0 g 0)) 0 0 [] := own_blk b (by simp) (by omega) (by simp [maxLen]) (by simp)
theorem object_spec (t : PH w x fh node last l) (h0 : 0 ≤ s) (h1 : s ≤ 18446744073709551615) (hQ : ∀ w' ser cell rp rn rc vp vn vc, Fr [] w w' → Q (.tuple #[.agg #[.int .u64 ser, .int .i64 cell, .slice rp rn rc, .slice vp vn vc, .int .i64 (inO l s)], .bool (hasO l s)]) w') :
    CallR Try.prog 32 #[.pointer (some (at0 x.h 0)), .int .u64 s] w Q := by
  apply X32.sound
  unfold X32.f
  obtain ⟨ts, os, t, rfl⟩ := t
  refine newB fun g1 w2 B2 f2 h2 => ?_
  simp only [optP_some]
  have t2 := t.keep' f2
  rw [hasO_os, inO_os] at hQ
  refine ld_map (t2.c0 4 rfl) (t2.look h0 h1 (fun hn => ⟨_, rfl, ?_⟩) (fun o hf ho hs => ⟨_, rfl, ?_⟩))
  · rw [hn] at hQ
    refine bc_bool (fun _ => ?_) (fun e => by cases e)
    refine stAllB (vs := Obj.cells ⟨0, 0, none, 0, 0, none, 0, 0, 0⟩) B2 rfl fun w8 B8 f8 => ld_Obj (s := ⟨0, 0, none, 0, 0, none, 0, 0, 0⟩) B8.cat ?_
    exact hQ _ _ _ _ _ _ _ _ _ (f2.trans f8 (fun y hy => .inr (by simp at hy; omega)))
  · rw [hf] at hQ
    refine bc_bool (fun e => by cases e) (fun _ => drawn fun w14 f14 _ => ?_)
    have t14 := t2.keep' f14
    have ob := t14.obs o ho
    have z2 := f2.size
    have z14 := f14.size
    have fin : ∀ {w29 : World} {a b : Option Addr} {an ac bn bc : Nat}, Fr [] w14 w29 → stAll w29 (at0 g1 0) [.int .u64 s, .int .i64 (16 * (o.b : Int) + 2 * (o.k : Int)), .slice a an ac, .slice b bn bc, .int .i64 o.d] fun w33 => ldI .u64 w33 ((at0 g1 0).add 0) fun x34 => ldI .i64 w33 ((at0 g1 0).add 1) fun x35 => ldSl w33 ((at0 g1 0).add 2) fun x36p x36n x36c => ldSl w33 ((at0 g1 0).add 3) fun x37p x37n x37c => ldI .i64 w33 ((at0 g1 0).add 4) fun x38 => Q (.tuple #[.agg #[.int .u64 x34, .int .i64 x35, .slice x36p x36n x36c, .slice x37p x37n x37c, .int .i64 x38], .bool true]) w33 := by
      intro w29 a b an ac bn bc f29
      refine stAllB (vs := Obj.cells ⟨s, 16 * (o.b : Int) + 2 * (o.k : Int), a, an, ac, b, bn, bc, o.d⟩) (B2.keep' (f14.tr f29)) rfl fun w33 B33 f33 => ld_Obj (s := ⟨s, 16 * (o.b : Int) + 2 * (o.k : Int), a, an, ac, b, bn, bc, o.d⟩) B33.cat ?_
      exact hQ _ _ _ _ _ _ _ _ _ ((f2.tr (f14.tr f29)).trans f33 (fun y hy => .inr (by simp at hy; omega)))
    have C : ∀ {w' : World} (i : Nat) {u : Value}, Fr [] w14 w' → o.cells[i]? = some u → w'.cell? ((at0 o.g 0).add i) = some u := fun i u f hu => (ob.blk.keep' f).cat i _ hu
    have R := Fr.refl (S := []) w14
    have dk : ∀ {a b : World} {i : Nat} {u : Value}, Fr [] w14 a → Fr [] w14 b → o.cells[i]? = some u → a.cell? ((at0 o.g 0).add i) = some u ∧ b.cell? ((at0 o.g 0).add i) = some u := fun fa fb hu => ⟨C _ fa hu, C _ fb hu⟩
    have refs : ∀ {w' : World}, Fr [] w14 w' → Cells w' (some (at0 o.r 0)) idc0 := fun f => (ob.refs.keep' f).cells
    refine ⟨?_, ?_, ?_⟩
    · refine ld_int (C 0 R rfl) (newB fun g17 w18 B18 f18 h18 => ⟨dk R f18 rfl, ld_sl (C 1 f18 rfl) ⟨dk R f18 rfl, ?_⟩⟩)
      refine app_step rowI (emptyRow B18) (refs f18) (k := 1) rfl some_ne idc0_one (by omega) (by omega) (W := w14) (by simp [fbl, at0]; omega) f18 fun p c w22 o22 _ f22 _ => ⟨dk f18 f22 rfl, newB fun g24 w25 B25 f25 h25 => ⟨dk f22 (f22.tr f25) rfl, dk f22 (f22.tr f25) rfl, ?_⟩⟩
      have F25 := f22.tr f25
      have z22 := f22.size
      refine ld_sl (C 2 F25 rfl) ⟨dk f22 F25 rfl, dk f18 f22 rfl, dk R f18 rfl, ?_⟩
      refine app_step rowU (emptyRow B25) (x := some (at0 o.v 0)) (ys := []) (k := 0) (fun j u hj => by simp at hj) rfl some_ne (by simp) (by omega) (by omega) (W := w14) (by simp [fbl, at0]; omega) F25 fun p2 c2 w29 o29 _ f29 _ => ⟨dk F25 f29 rfl, ld_int (C 3 f29 rfl) ⟨dk F25 f29 rfl, dk f22 F25 rfl, dk f18 f22 rfl, dk R f18 rfl, fin f29⟩⟩
    · refine ld_int (C 0 R rfl) (newB fun g17 w18 B18 f18 h18 => ⟨dk R f18 rfl, ld_sl (C 1 f18 rfl) ⟨dk R f18 rfl, newB fun g45 w46 B46 f46 h46 => ?_⟩⟩)
      have F46 := f18.tr f46
      have z18 := f18.size
      refine ⟨dk f18 F46 rfl, dk f18 F46 rfl, app_step rowI (emptyRow (B18.keep' f46)) (refs F46) (k := 1) rfl some_ne idc0_one (by omega) (by omega) (W := w14) (by simp [fbl, at0]; omega) F46 fun p c w48 o48 _ f48 g48 => ⟨dk F46 f48 rfl, ld_sl (C 2 f48 rfl) ⟨dk F46 f48 rfl, dk f18 F46 rfl, dk R f18 rfl, ?_⟩⟩⟩
      have n1 : g45 ∉ fbl (some (at0 g17 0)) := by
        have := B18.lt
        simp [fbl, at0]
        omega
      refine app_step rowU (emptyRow (B46.keep g48 n1)) (x := some (at0 o.v 0)) (ys := []) (k := 0) (fun j u hj => by simp at hj) rfl some_ne (by simp) (by omega) (by omega) (W := w14) (by simp [fbl, at0]; omega) f48 fun p2 c2 w29 o29 _ f29 _ => ⟨dk f48 f29 rfl, ld_int (C 3 f29 rfl) ⟨dk f48 f29 rfl, dk F46 f48 rfl, dk f18 F46 rfl, dk R f18 rfl, fin f29⟩⟩
    · refine ld_int (C 0 R rfl) (ld_sl (C 1 R rfl) (newB fun g67 w68 B68 f68 h68 => ⟨dk R f68 rfl, dk R f68 rfl, newB fun g69 w70 B70 f70 h70 => ?_⟩))
      have F70 := f68.tr f70
      have z68 := f68.size
      refine ⟨dk f68 F70 rfl, dk f68 F70 rfl, app_step rowI (emptyRow B70) (refs F70) (k := 1) rfl some_ne idc0_one (by omega) (by omega) (W := w14) (by simp [fbl, at0]; omega) F70 fun p c w48 o48 _ f48 g48 => ⟨dk F70 f48 rfl, ld_sl (C 2 f48 rfl) ⟨dk F70 f48 rfl, dk f68 F70 rfl, dk R f68 rfl, ?_⟩⟩⟩
      have n1 : g67 ∉ fbl (some (at0 g69 0)) := by
        have := B68.lt
        simp [fbl, at0]
        omega
      refine app_step rowU (emptyRow ((B68.keep' f70).keep g48 n1)) (x := some (at0 o.v 0)) (ys := []) (k := 0) (fun j u hj => by simp at hj) rfl some_ne (by simp) (by omega) (by omega) (W := w14) (by simp [fbl, at0]; omega) f48 fun p2 c2 w29 o29 _ f29 _ => ⟨dk f48 f29 rfl, ld_int (C 3 f29 rfl) ⟨dk f48 f29 rfl, dk F70 f48 rfl, dk f68 F70 rfl, dk R f68 rfl, fin f29⟩⟩
theorem free_spec' (t : PH w x fh node last l) (h0 : 0 ≤ s) (h1 : s ≤ 18446744073709551615) (hQ : AftH w x fh node last (freeO l s) (.int .i64 (if hasO l s then 0 else 5)) Q) :
    CallR Try.prog 23 #[.pointer (some (at0 x.h 0)), .int .u64 s] w Q := by
  apply X23.sound
  unfold X23.f
  simp only [optP_some]
  obtain ⟨ts, os, t, rfl⟩ := t
  have tt : PH w x fh node last (os.map OT.pr) := ⟨ts, os, t, rfl⟩
  rw [hasO_os] at hQ
  refine ld_map (t.c0 4 rfl) (t.look h0 h1 (fun hn => ⟨_, rfl, ?_⟩) (fun o hf ho hs => ⟨_, rfl, ?_⟩))
  · have e : freeO (os.map OT.pr) s = os.map OT.pr := by
      apply List.filter_eq_self.2
      intro e he
      obtain ⟨o, ho, rfl⟩ := List.mem_map.1 he
      have := List.find?_eq_none.1 hn o ho
      exact decide_eq_true (fun e2 => this (decide_eq_true e2))
    rw [hn, e] at hQ
    refine bc_bool (fun _ => ?_) (fun e => by cases e)
    exact hQ.same tt (Fr.refl _)
  · rw [hf] at hQ
    refine bc_bool (fun e => by cases e) (fun _ => drawn fun w6 f6 _ => ?_)
    have t6 := t.keep' f6
    have ob := t6.obs o ho
    refine ld_ptr (t6.c0 3 rfl) (ld_int (ob.blk.cat 0 _ rfl) ?_)
    refine free_spec t6.ar t6.tsI ob.bl ob.kl ob.bit fun w12 A12 f12 => ⟨_, rfl, ?_⟩
    obtain ⟨d1, d2, d3, d4, d5, d6, d7⟩ := t6.dis
    have B12 := t6.blk.keep f12 (by simp [d2, d3])
    have M12 := t6.map.keep f12 (by simp [d6, d7])
    refine ld_map (B12.cat 4 _ rfl) (delU (K := 22) (E := 93) (by kernel_rfl) (by kernel_rfl) M12 (u64wf h0 h1) fun w17 M17 f17 => ⟨rfl, ?_⟩)
    have B17 := B12.keep f17 (by simp; exact fun e => d4 e.symm)
    have A17 := A12.keep f17 (by simp; exact fun e => d5 e.symm) (by simp; exact fun e => d6 e.symm) (by simp; exact fun e => d7 e.symm)
    have F17 : Fr [x.h, x.cb, x.tb, x.m] w w17 := (f6.any.tr (f12.mono fun y hy => by simp at hy; rcases hy with rfl | rfl <;> simp)).tr (f17.mono fun y hy => by simp at hy; simp [hy])
    have hF : ∀ y ∈ [x.h, x.cb, x.tb, x.m], y ∈ [x.h, x.a, x.cb, x.tb, x.m] := fun y hy => by
      simp at hy
      rcases hy with rfl | rfl | rfl | rfl <;> simp
    have hC := t.tsI.clr ob.bl ob.kl ob.bit
    have nd := t.map.nd
    rw [List.pairwise_map] at nd
    obtain ⟨l1, l2, hos⟩ := List.append_of_mem ho
    have hflt : os.filter (fun p => decide (p.s ≠ s)) = l1 ++ l2 := by
      rw [hos] at nd ⊢
      rw [List.pairwise_append] at nd
      obtain ⟨n1, n2, n3⟩ := nd
      rw [List.pairwise_cons] at n2
      rw [List.filter_append, List.filter_cons_of_neg (by simp [hs])]
      rw [List.filter_eq_self.2, List.filter_eq_self.2]
      · intro p hp
        have := n2.1 p hp
        exact decide_eq_true (fun e => this (hs.trans e.symm))
      · intro p hp
        have := n3 p hp o (by simp)
        exact decide_eq_true (fun e => this (e.trans hs.symm))
    have hsub : ∀ p ∈ os.filter (fun p => decide (p.s ≠ s)), p ∈ os := fun p hp => (List.mem_filter.1 hp).1
    have hlen : (os.filter (fun p => decide (p.s ≠ s))).length + 1 = os.length := by
      rw [hflt, hos]
      simp
      omega
    have hpl : ∀ p ∈ os.filter (fun p => decide (p.s ≠ s)), ¬ (p.b = o.b ∧ p.k = o.k) := fun p hp => by
      have hne : p ≠ o := fun e => by
        have := (List.mem_filter.1 hp).2
        rw [e, hs] at this
        simp at this
      exact pw_ne (R := fun o p => ¬ (o.b = p.b ∧ o.k = p.k)) (fun a b h ⟨h1, h2⟩ => h ⟨h1.symm, h2.symm⟩) t.pl (hsub p hp) ho hne
    refine hQ fh w17 ⟨clrAt ts o.b o.k, os.filter (fun p => decide (p.s ≠ s)), ⟨B17, A17, hC.1, ?_, ?_, ?_, t.gd.filter _, t.pl.filter _, by have := t.le; omega, fun p hp => t.ser p (hsub p hp), t.lst, t.foot, fun p hp => t.obf p (hsub p hp), fun y hy => by have := t.lt y hy; have := F17.size; omega⟩, ?_⟩ (F17.mono fun y hy => ?_) (fun y hy => .inl hy)
    · have := hC.2.1
      have := t.pops
      omega
    · have e : dropU (os.map OT.ent) s = (os.filter (fun p => decide (p.s ≠ s))).map OT.ent := by
        unfold dropU
        rw [List.filter_map]
        rfl
      rw [← e]
      exact M17
    · intro p hp
      have q := (t.obs p (hsub p hp)).keepH t (hsub p hp) F17 hF
      refine ⟨q.blk, q.refs, q.vals, q.bl, q.kl, ?_⟩
      rw [hC.2.2 _ _ q.kl, q.bit]
      have := hpl p hp
      rw [decide_eq_false this]
      rfl
    · unfold freeO
      rw [List.filter_map]
      rfl
    · obtain ⟨f1, f2, f3, f4, f5⟩ := t.foot
      simp at hy
      rcases hy with rfl | rfl | rfl | rfl <;> assumption
end
end Go.Proofs.YtnjmkhhaodgpbaaX
