/- The document's arena: places taken. -/
import Derived.Test.YtnjmkhhaodgpbaaL19C
namespace Go.Proofs.YtnjmkhhaodgpbaaX
open Go.RowKit
set_option linter.unusedVariables false
set_option linter.unusedSimpArgs false
set_option maxRecDepth 100000
def b16 (t : Nat) : List Value := (List.range 16).map fun i => .bool (t.testBit i)
theorem b16_len (t : Nat) : (b16 t).length = 16 := by simp [b16]
structure RAR (w : World) (a cb tb : Nat) (cs : List Int) (ts : List Nat) : Prop where
  blk : Blk w a [.slice (some (at0 cb 0)) 16 16, .slice (some (at0 tb 0)) 16 16] 137
  crow : Own 3 1 w (some (at0 cb 0)) 16 16 (cs.map iv)
  trow : Own 140 16 w (some (at0 tb 0)) 16 16 (ts.flatMap b16)
theorem flat_set16 (l : List Nat) (b i : Nat) (t v : Nat) (hb : l[b]? = some t) (hi : i < 16) (hv : ∀ j, j < 16 → v.testBit j = (decide (j = i) || t.testBit j)) : (l.flatMap b16).set (b * 16 + i) (.bool true) = (l.set b v).flatMap b16 := by
  apply List.ext_getElem?
  intro j
  obtain ⟨hlt, he⟩ := List.getElem?_eq_some_iff.1 hb
  have hfl : ∀ l : List Nat, (l.flatMap b16).length = l.length * 16 := fun l => flat_length b16_len l
  have gt : ∀ (l : List Nat) (j : Nat), (l.flatMap b16)[j]? = if j < l.length * 16 then some (.bool ((l.getD (j / 16) 0).testBit (j % 16))) else none := by
    intro l j
    by_cases hj : j < l.length * 16
    · rw [if_pos hj]
      have hq : j / 16 < l.length := by omega
      have h1 := flat_get (f := b16) b16_len l (i := j / 16) (j := j % 16) (v := l[j / 16]) (List.getElem?_eq_getElem hq) (u := .bool (l[j / 16].testBit (j % 16))) (by
        unfold b16
        rw [List.getElem?_map, List.getElem?_range (by omega)]
        rfl)
      rw [show j / 16 * 16 + j % 16 = j by omega] at h1
      rw [h1, List.getD_eq_getElem?_getD, List.getElem?_eq_getElem hq]
      rfl
    · rw [if_neg hj, List.getElem?_eq_none_iff.2 (by rw [hfl]; omega)]
  rw [List.getElem?_set, gt, gt, hfl, List.length_set]
  by_cases h1 : b * 16 + i = j
  · subst h1
    rw [if_pos rfl, if_pos (by omega), if_pos (by omega), getD_set hlt, if_pos (by omega), hv _ (by omega)]
    simp [show (b * 16 + i) % 16 = i by omega]
  · rw [if_neg h1]
    by_cases h2 : j < l.length * 16
    · rw [if_pos h2, if_pos h2, getD_set hlt]
      by_cases h3 : b = j / 16
      · rw [if_pos h3, hv _ (by omega), decide_eq_false (by omega), ← h3, List.getD_eq_getElem?_getD, hb]
        rfl
      · rw [if_neg h3]
    · rw [if_neg h2, if_neg h2]
theorem hi_bit {t j : Nat} (h : t ≤ 255) (hj : 8 ≤ j) : t.testBit j = false := Nat.testBit_lt_two_pow (Nat.lt_of_lt_of_le (show t < 2 ^ 8 by omega) (Nat.pow_le_pow_right (by omega) hj))
section
variable {w w' W : World} {Q : Value → World → Prop} {a cb tb b k : Nat} {cs : List Int} {ts : List Nat} {S : List Nat}
theorem RAR.keep (r : RAR w a cb tb cs ts) (f : Fr S w w') (h1 : a ∉ S) (h2 : cb ∉ S) (h3 : tb ∉ S) : RAR w' a cb tb cs ts :=
  ⟨r.blk.keep f h1, r.crow.keep f (fun x hx => by simp [fbl, at0] at hx; rwa [hx]), r.trow.keep f (fun x hx => by simp [fbl, at0] at hx; rwa [hx])⟩
theorem RAR.keep' (r : RAR w a cb tb cs ts) (f : Fr [] w w') : RAR w' a cb tb cs ts := r.keep f (by simp) (by simp) (by simp)
theorem RAR.dis (r : RAR w a cb tb cs ts) : a ≠ cb ∧ a ≠ tb ∧ cb ≠ tb := by
  obtain ⟨c1, b1⟩ := r.crow.nb
  obtain ⟨c2, b2⟩ := r.trow.nb
  exact ⟨r.blk.ne b1 (by decide), r.blk.ne b2 (by decide), b1.ne b2 (by decide)⟩
theorem RAR.c0 (r : RAR w a cb tb cs ts) : w.cell? ((at0 a 0).add 0) = some (.slice (some (at0 cb 0)) 16 16) := r.blk.cat 0 _ rfl
theorem RAR.c1 (r : RAR w a cb tb cs ts) : w.cell? ((at0 a 0).add 1) = some (.slice (some (at0 tb 0)) 16 16) := r.blk.cat 1 _ rfl
theorem RAR.cv (r : RAR w a cb tb cs ts) (hb : b < 16) : w.cell? ((at0 cb 0).add (Int.toNat (b : Int) * 1)) = some (.int .i64 (cs.getD b 0)) := by
  have hl : cs.length = 16 := by have := r.crow.len; simpa using this
  have hg := List.getElem?_eq_getElem (show b < cs.length by omega)
  rw [Int.toNat_natCast, List.getD_eq_getElem?_getD, hg, Option.getD_some]
  exact row_cell (f := iv) r.crow hg
theorem RAR.stC (r : RAR w a cb tb cs ts) (hb : b < 16) (v : Int) {K : World → Prop} (hK : ∀ w', RAR w' a cb tb (cs.set b v) ts → Fr [cb] w w' → K w') : stK w ((at0 cb 0).add (Int.toNat (b : Int) * 1)) (.int .i64 v) K := by
  have hl : cs.length = 16 := by have := r.crow.len; simpa using this
  obtain ⟨d1, d2, d3⟩ := r.dis
  rw [Int.toNat_natCast]
  exact row_st r.crow (by omega) v fun w' o f => hK w' ⟨r.blk.off1 d1 f, o, r.trow.off1 (by simp [fbl, at0]; exact d3) f⟩ f
theorem RAR.tv (r : RAR w a cb tb cs ts) (T : TsI ts) (hb : b < 16) (hk : k < 16) : w.cell? (((at0 tb 0).add (Int.toNat (b : Int) * 16)).add (Int.toNat (k : Int) * 1)) = some (.bool (bitAt ts b k)) := by
  have hl := T.len
  have hg := List.getElem?_eq_getElem (show b < ts.length by omega)
  have h1 := flat_get (f := b16) b16_len ts (i := b) (j := k) (v := ts[b]) hg (u := .bool (ts[b].testBit k)) (by
    unfold b16
    rw [List.getElem?_map, List.getElem?_range (by omega)]
    rfl)
  obtain ⟨p, hp, hv⟩ := r.trow.cells _ _ h1
  injection hp with hp
  subst hp
  rw [Int.toNat_natCast, Int.toNat_natCast, add_add, Nat.mul_one, hv]
  unfold bitAt
  rw [List.getD_eq_getElem?_getD, hg]
  rfl
theorem RAR.stT (r : RAR w a cb tb cs ts) (T : TsI ts) (hb : b < 16) (hk : k < 8) (hf : bitAt ts b k = false) {K : World → Prop} (hK : ∀ w', RAR w' a cb tb cs (setAt ts b k) → Fr [tb] w w' → K w') : stK w (((at0 tb 0).add (Int.toNat (b : Int) * 16)).add (Int.toNat (k : Int) * 1)) (.bool true) K := by
  have hl := T.len
  obtain ⟨d1, d2, d3⟩ := r.dis
  have hg := List.getElem?_eq_getElem (show b < ts.length by omega)
  have hfl : (ts.flatMap b16).length = ts.length * 16 := flat_length b16_len ts
  rw [Int.toNat_natCast, Int.toNat_natCast, add_add, Nat.mul_one]
  have ho := r.trow.set (i := b * 16 + k) (by omega) (.bool true)
  have f : Fr [tb] w (w.setCell ((at0 tb 0).add (b * 16 + k)) (.bool true)) := Fr.setCell (by rw [add_block]; simp [at0]) _
  refine ⟨r.trow.storeOk (by omega), hK _ ⟨r.blk.off1 d2 f, r.crow.off1 (by simp [fbl, at0]; exact fun e => d3 e.symm) f, ?_⟩ f⟩
  have hge : ts.getD b 0 = ts[b] := by rw [List.getD_eq_getElem?_getD, hg]; rfl
  rw [flat_set16 ts b k ts[b] (ts.getD b 0 + 2 ^ k) hg (by omega) (fun j hj => ?_)] at ho
  · exact ho
  · rw [← hge]
    by_cases h8 : j < 8
    · exact setbit_eq (T.at_ b) hk h8 hf
    · have hs := set_eq (T.at_ b) hk hf
      rw [hi_bit hs.2.1 (by omega), hi_bit (T.at_ b) (by omega), decide_eq_false (by omega)]
      rfl
theorem rclass_spec (hQ : Q (.int .i64 2) w) : CallR Try.prog 66 #[.int .i64 2] w Q := by
  apply X66.sound
  unfold X66.f
  refine ⟨2, ?_⟩
  rw [X66.l0]
  refine bc_pos (by omega) (bc_pos (by omega) (bc_neg (by omega) ?_))
  rw [show IntKind.wrap .i64 (2 * 1) = 2 by decide +kernel, X66.l0]
  exact bc_pos (by omega) (bc_pos (by omega) (bc_pos (by omega) hQ))
theorem ralloc_l1 {B0 : Option Addr → Int → Int → World → Prop} (r : RAR w a cb tb (ts.map clsB) ts) (T : TsI ts) (hb : b < 16) (hne : ts.getD b 0 ≠ 0) (hB : ts.getD b 0 = 255 → B0 (some (at0 a 0)) 2 ((b + 1 : Nat) : Int) w)
    (hQ : ts.getD b 0 < 255 → ∀ w', RAR w' a cb tb (ts.map clsB) (setAt ts b (lz (ts.getD b 0))) → Fr [tb] w w' → Q (.tuple #[.int .i64 (16 * (b : Int) + 2 * (lz (ts.getD b 0) : Int)), .int .i64 0]) w') :
    ∀ (f i : Nat), 8 - i < f → i ≤ 8 → (ts.getD b 0 < 255 → i ≤ lz (ts.getD b 0)) → X52.l1 Q B0 f (some (at0 a 0)) 2 (b : Int) (i : Int) w
  | 0, i, hf, _, _ => absurd hf (Nat.not_lt_zero _)
  | f + 1, i, hf, hi, hl => by
    have hc2 : clsB (ts.getD b 0) = 2 := by unfold clsB; rw [if_neg hne]
    have hcv := r.cv hb
    rw [cls_get T hb, hc2] at hcv
    have hle := T.at_ b
    rw [X52.l1]
    have e8 : IntKind.wrap .i64 (Int.tdiv 16 2) = 8 := by decide +kernel
    have eb : IntKind.wrap .i64 ((b : Int) + 1) = ((b + 1 : Nat) : Int) := by rw [i64w ((b : Int) + 1) (by omega) (by omega)]; omega
    have ei : IntKind.wrap .i64 ((i : Int) + 1) = ((i + 1 : Nat) : Int) := by rw [i64w ((i : Int) + 1) (by omega) (by omega)]; omega
    refine opt_some rfl (ld_sl r.c0 ⟨⟨by omega, by omega⟩, opt_some rfl (ld_int hcv (bc_eqt' rfl ⟨by omega, ?_⟩))⟩)
    rw [e8, eb, ]
    refine bc_dec (fun h8 => ?_) (fun h8 => ?_)
    · unfold X52.j3
      refine opt_some rfl (ld_sl r.c1 ⟨⟨by omega, by omega⟩, opt_some rfl ⟨⟨by omega, by omega⟩, ld_bool (r.tv T hb (show i < 16 by omega)) ?_⟩⟩)
      rw [ei]
      refine bc_bool (fun hn => ?_) (fun hn => ?_)
      · have hbit : bitAt ts b i = false := by simpa using hn
        have h255 : ts.getD b 0 < 255 := by
          have : ts.getD b 0 ≠ 255 := fun e => by
            unfold bitAt at hbit
            rw [e] at hbit
            have : ∀ j : Fin 8, (255 : Nat).testBit j.val = true := by decide
            rw [this ⟨i, by omega⟩] at hbit
            cases hbit
          omega
        obtain ⟨l1, l2, l3⟩ := lz_lt h255
        have he : i = lz (ts.getD b 0) := by
          have := hl h255
          by_cases hlt : i < lz (ts.getD b 0)
          · unfold bitAt at hbit
            rw [l3 i hlt] at hbit
            cases hbit
          · omega
        subst he
        refine opt_some rfl (ld_sl r.c1 ⟨⟨by omega, by omega⟩, opt_some rfl ⟨⟨by omega, by omega⟩, r.stT T hb l1 hbit fun w8 r8 f8 => ?_⟩⟩)
        rw [i64w (16 * (b : Int)) (by omega) (by omega), i64w (2 * ((lz (ts.getD b 0) : Nat) : Int)) (by omega) (by omega), i64w _ (by omega) (by omega)]
        exact hQ h255 w8 r8 f8
      · have hbit : bitAt ts b i = true := by simpa using hn
        refine ralloc_l1 r T hb hne hB hQ f (i + 1) (by omega) (by omega) (fun h255 => ?_)
        obtain ⟨l1, l2, l3⟩ := lz_lt h255
        have := hl h255
        by_cases he : i = lz (ts.getD b 0)
        · unfold bitAt at hbit
          rw [he, l2] at hbit
          cases hbit
        · omega
    · refine hB ?_
      by_cases h255 : ts.getD b 0 < 255
      · have := hl h255
        have := (lz_lt h255).1
        omega
      · omega
theorem ralloc_l2 (r : RAR w a cb tb (ts.map clsB) ts) (T : TsI ts) (hb : b < 16) (hz : ts.getD b 0 = 0) (hlt : ∀ j, j < b → ts.getD j 0 ≠ 0)
    (hQ : ∀ w', RAR w' a cb tb ((setAt ts b 0).map clsB) (setAt ts b 0) → Fr [cb, tb] w w' → Q (.tuple #[.int .i64 (16 * (b : Int)), .int .i64 0]) w') :
    ∀ (f i : Nat), b - i < f → i ≤ b → X52.l2 Q f (some (at0 a 0)) 2 (i : Int) w
  | 0, i, hf, _ => absurd hf (Nat.not_lt_zero _)
  | f + 1, i, hf, hi => by
    have hcv := r.cv (show i < 16 by omega)
    rw [cls_get T (by omega)] at hcv
    rw [X52.l2]
    have ei : IntKind.wrap .i64 ((i : Int) + 1) = ((i + 1 : Nat) : Int) := by rw [i64w ((i : Int) + 1) (by omega) (by omega)]; omega
    refine opt_some rfl (ld_sl r.c0 (bc_pos (by omega) (opt_some rfl (ld_sl r.c0 ⟨⟨by omega, by omega⟩, opt_some rfl (ld_int hcv ?_)⟩))))
    rw [ei]
    by_cases he : i = b
    · subst he
      rw [hz]
      have hbf : bitAt ts i 0 = false := by unfold bitAt; rw [hz]; simp
      refine bc_eqt' rfl (opt_some rfl (ld_sl r.c0 ⟨⟨by omega, by omega⟩, opt_some rfl (r.stC hb 2 fun w10 r10 f10 => opt_some rfl (ld_sl r10.c1 ⟨⟨by omega, by omega⟩, opt_some rfl ⟨⟨by omega, by omega⟩, ?_⟩⟩))⟩))
      refine r10.stT (k := 0) T hb (by omega) hbf fun w14 r14 f14 => ?_
      rw [i64w (16 * (i : Int)) (by omega) (by omega)]
      refine hQ w14 ?_ ((f10.mono fun y hy => by simp at hy; simp [hy]).tr (f14.mono fun y hy => by simp at hy; simp [hy]))
      rw [cls_set T hb (by omega) hbf]
      exact r14
    · have hn : clsB (ts.getD i 0) = 2 := by unfold clsB; rw [if_neg (hlt i (by omega))]
      rw [hn]
      exact bc_eq (fun e => by cases e) (fun _ => ralloc_l2 r T hb hz hlt hQ f (i + 1) (by omega) (by omega))
theorem ralloc_l0 (r : RAR w a cb tb (ts.map clsB) ts) (T : TsI ts) (hp : (ts.map pop).sum < 128)
    (hQ : ∀ b w', allocB ts = some b → b < 16 → ts.getD b 0 < 255 → RAR w' a cb tb ((setAt ts b (lz (ts.getD b 0))).map clsB) (setAt ts b (lz (ts.getD b 0))) → Fr [cb, tb] w w' → Q (.tuple #[.int .i64 (16 * (b : Int) + 2 * (lz (ts.getD b 0) : Int)), .int .i64 0]) w') :
    ∀ (f i : Nat), 16 - i < f → i ≤ 16 → (ts.take i).findIdx? fitB = none → X52.l0 Q f (some (at0 a 0)) 2 (i : Int) w
  | 0, i, hf, _, _ => absurd hf (Nat.not_lt_zero _)
  | f + 1, i, hf, hi, hn => by
    have hl := T.len
    rw [X52.l0]
    refine opt_some rfl (ld_sl r.c0 (bc_dec (fun hlt => ?_) (fun hge => ?_)))
    · have hi16 : i < 16 := by omega
      have hcv := r.cv hi16
      rw [cls_get T hi16] at hcv
      have ei : IntKind.wrap .i64 ((i : Int) + 1) = ((i + 1 : Nat) : Int) := by rw [i64w ((i : Int) + 1) (by omega) (by omega)]; omega
      have hle := T.at_ i
      by_cases h0 : ts.getD i 0 = 0
      · refine ⟨1, ?_⟩
        rw [X52.l1]
        have hc0 : clsB (ts.getD i 0) = 0 := by unfold clsB; rw [if_pos h0]
        rw [hc0] at hcv
        refine opt_some rfl (ld_sl r.c0 ⟨⟨by omega, by omega⟩, opt_some rfl (ld_int hcv (bc_eq (fun e => by cases e) (fun _ => ?_)))⟩)
        rw [ei]
        exact ralloc_l0 r T hp hQ f (i + 1) (by omega) (by omega) (fit_none_succ (by omega) hn (by unfold fitB; rw [h0]; rfl))
      · refine ⟨9, ralloc_l1 r T hi16 h0 (fun h255 => ?_) (fun h255 w' r' f' => ?_) 9 0 (by omega) (by omega) (fun _ => by omega)⟩
        · exact ralloc_l0 r T hp hQ f (i + 1) (by omega) (by omega) (fit_none_succ (by omega) hn (by unfold fitB; rw [h255]; rfl))
        · have hfit : fitB (ts.getD i 0) = true := by unfold fitB; rw [decide_eq_true h0, decide_eq_true (show ts.getD i 0 ≠ 255 by omega)]; rfl
          have hz := lz_lt h255
          have ecs : (setAt ts i (lz (ts.getD i 0))).map clsB = ts.map clsB := by
            rw [cls_set T hi16 hz.1 hz.2.1]
            have hg := List.getElem?_eq_getElem (show i < (ts.map clsB).length by simp; omega)
            have hc2 : clsB (ts.getD i 0) = 2 := by unfold clsB; rw [if_neg h0]
            have : (ts.map clsB)[i]'(by simp; omega) = 2 := by
              have := cls_get T hi16
              rw [List.getD_eq_getElem?_getD, hg, hc2] at this
              exact this
            exact set_same' (by rw [hg, this])
          exact hQ i w' (fit_here (by omega) hn hfit) hi16 h255 (by rw [ecs]; exact r') (f'.mono fun y hy => by simp at hy; simp [hy])
    · have hi16 : i = 16 := by omega
      subst hi16
      have htk : ts.take 16 = ts := List.take_of_length_le (by omega)
      rw [htk] at hn
      obtain ⟨b, hb, hb16, hbt⟩ := alloc_ok T hp
      have hz : ts.getD b 0 = 0 ∧ ∀ j, j < b → ts.getD j 0 ≠ 0 := by
        unfold allocB at hb
        rw [hn, Option.none_or] at hb
        obtain ⟨hlt, hz, hj⟩ := List.findIdx?_eq_some_iff_getElem.1 hb
        refine ⟨?_, fun j hjb => ?_⟩
        · rw [List.getD_eq_getElem?_getD, List.getElem?_eq_getElem hlt]
          simpa using hz
        · have := hj j hjb
          rw [List.getD_eq_getElem?_getD, List.getElem?_eq_getElem (by omega)]
          simpa using this
      have e0 : lz (ts.getD b 0) = 0 := by rw [hz.1]; decide
      refine ⟨b + 1, ralloc_l2 r T hb16 hz.1 hz.2 (fun w' r' f' => ?_) (b + 1) 0 (by omega) (by omega)⟩
      have := hQ b w' hb hb16 hbt (by rw [e0]; exact r') f'
      rw [e0] at this
      simpa using this
theorem ralloc_spec (r : RAR w a cb tb (ts.map clsB) ts) (T : TsI ts) (hp : (ts.map pop).sum < 128)
    (hQ : ∀ b w', allocB ts = some b → b < 16 → ts.getD b 0 < 255 → RAR w' a cb tb ((setAt ts b (lz (ts.getD b 0))).map clsB) (setAt ts b (lz (ts.getD b 0))) → Fr [cb, tb] w w' → Q (.tuple #[.int .i64 (16 * (b : Int) + 2 * (lz (ts.getD b 0) : Int)), .int .i64 0]) w') :
    CallR Try.prog 52 #[.pointer (some (at0 a 0)), .int .i64 2] w Q := by
  apply X52.sound
  unfold X52.f
  refine rclass_spec ⟨_, rfl, bc_eq (fun e => by cases e) (fun _ => ⟨17, ralloc_l0 r T hp hQ 17 0 (by omega) (by omega) (by simp)⟩)⟩
theorem newRA_spec (hQ : ∀ a cb tb w', RAR w' a cb tb ((List.replicate 16 0).map clsB) (List.replicate 16 0) → Fr [] w w' → w.heap.size ≤ a → w.heap.size ≤ cb → w.heap.size ≤ tb → Q (.pointer (some (at0 a 0))) w') :
    CallR Try.prog 49 #[.int .i64 256] w Q := by
  apply X49.sound
  unfold X49.f
  have e16 : IntKind.wrap .i64 (Int.tdiv 256 16) = ((16 : Nat) : Int) := by decide +kernel
  rw [e16]
  have mC : ∀ {w : World} {K : Value → World → Prop}, (∀ g w', Own 3 1 w' (some (at0 g 0)) 16 16 (((List.replicate 16 0).map clsB).map iv) → Fr [] w w' → w.heap.size ≤ g → K (.slice (some (at0 g 0)) 16 16) w') → RunR Try.prog (Instr.makeSlice 129 (.int .i64 ((16 : Nat) : Int)) (.int .i64 ((16 : Nat) : Int))) w K := fun hK =>
    makeN (n := 16) (Z := 1) (E := 3) (i := Try.t3) (z := .int .i64 0) (by kernel_rfl) (by kernel_rfl) (by kernel_rfl) (by kernel_rfl) (by decide +kernel) (by omega) (by kernel_rfl) hK
  have mT : ∀ {w : World} {K : Value → World → Prop}, (∀ g w', Own 140 16 w' (some (at0 g 0)) 16 16 ((List.replicate 16 0).flatMap b16) → Fr [] w w' → w.heap.size ≤ g → K (.slice (some (at0 g 0)) 16 16) w') → RunR Try.prog (Instr.makeSlice 135 (.int .i64 ((16 : Nat) : Int)) (.int .i64 ((16 : Nat) : Int))) w K := fun hK =>
    makeN (n := 16) (Z := 16) (E := 140) (i := Try.t140) (z := .agg (Array.replicate 16 (.bool false))) (by kernel_rfl) (by kernel_rfl) (by kernel_rfl) (by kernel_rfl) (by decide +kernel) (by omega) (by kernel_rfl) hK
  refine drawn fun w1 f1 _ => ⟨⟨by omega, mC fun g3 w3 o3 f3 h3 => ⟨_, _, _, rfl, by omega, mT fun g6 w6 o6 f6 h6 => ⟨_, _, _, rfl, newB fun g8 w9 b9 f9 h9 => ?_⟩⟩⟩, by omega, by omega, mT fun g6 w3 o6 f3 h6 => ⟨_, _, _, rfl, mC fun g3 w6 o3 f6 h3 => ⟨_, _, _, rfl, newB fun g8 w9 b9 f9 h9 => ?_⟩⟩⟩
  · have z1 := f1.size
    have z3 := f3.size
    have z6 := f6.size
    exact hQ g8 g3 g6 w9 ⟨b9, o3.keep' (f6.tr f9), o6.keep' f9⟩ (f1.tr (f3.tr (f6.tr f9))) (by omega) (by omega) (by omega)
  · have z1 := f1.size
    have z3 := f3.size
    have z6 := f6.size
    exact hQ g8 g3 g6 w9 ⟨b9, o3.keep' f9, o6.keep' (f6.tr f9)⟩ (f1.tr (f3.tr (f6.tr f9))) (by omega) (by omega) (by omega)
end
end Go.Proofs.YtnjmkhhaodgpbaaX
