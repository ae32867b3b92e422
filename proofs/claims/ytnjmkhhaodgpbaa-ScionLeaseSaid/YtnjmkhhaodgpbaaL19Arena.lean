/- The arena: places taken and given back. -/
import Derived.Test.YtnjmkhhaodgpbaaL19S
namespace Go.Proofs.YtnjmkhhaodgpbaaX
open Go.RowKit
set_option linter.unusedVariables false
set_option linter.unusedSimpArgs false
set_option maxRecDepth 100000
theorem bc_eqt' {a b : Int} {A B : Prop} (h : a = b) (x : A) : bcase (a == b) A B := bc_eq (fun _ => x) (fun hn => absurd h hn)
theorem Blk.off1 {w w' : World} {cs : List Value} {e : TypeId} {x y : Nat} (b : Blk w x cs e) (hne : x ≠ y) (f : Fr [y] w w') : Blk w' x cs e := b.keep f (by simpa using hne)
theorem At.sub {w : World} {p : Addr} {cs : List Value} (h : At w p cs) (i j : Nat) {u : Value} (hu : cs[i + j]? = some u) : w.cell? ((p.add i).add j) = some u := by rw [add_add]; exact h _ _ hu
theorem Own.off1 {e : TypeId} {z n c x : Nat} {p : Option Addr} {xs : List Value} {w w' : World} (o : Own e z w p n c xs) (hx : x ∉ fbl p) (f : Fr [x] w w') : Own e z w' p n c xs := o.keep f (fun k hk hm => hx (by simp at hm; rwa [← hm]))
section
variable {w w' : World} {g n c i : Nat} {e : TypeId} {α : Type} {f : α → Value} {l : List α} {v : α}
theorem row_cell (o : Own e 1 w (some (at0 g 0)) n c (l.map f)) (hi : l[i]? = some v) : w.cell? ((at0 g 0).add (i * 1)) = some (f v) := by
  obtain ⟨a, ha, hv⟩ := o.cells i (f v) (by rw [List.getElem?_map, hi]; rfl)
  injection ha with ha
  subst ha
  rw [Nat.mul_one]
  exact hv
theorem row_st (o : Own e 1 w (some (at0 g 0)) n c (l.map f)) (hi : i < l.length) (v : α) {K : World → Prop} (hK : ∀ w', Own e 1 w' (some (at0 g 0)) n c ((l.set i v).map f) → Fr [g] w w' → K w') : stK w ((at0 g 0).add (i * 1)) (f v) K := by
  rw [Nat.mul_one]
  refine ⟨o.storeOk (by simpa using hi), hK _ ?_ (Fr.setCell (by rw [add_block]; simp [at0]) _)⟩
  have := o.set (i := i) (by simpa using hi) (f v)
  rwa [List.map_set]
end
/-- a row that is made: n zeros of one cell -/
theorem make1 {T E : TypeId} {i : TypeInfo} {z : Value} {w : World} {n : Nat} {K : Value → World → Prop} (hu : Try.prog.underlying T = some (.slice E)) (hi : Try.prog.info? E = some i) (hz : i.zero = some z) (hsz : i.size = 1) (hby : i.bytes ≤ 100) (hc : ∀ n, (madeCells z.cells (n * 1)).toList = List.replicate n z) (hn : n ≤ 100000)
    (hK : ∀ g w', Own E 1 w' (some (at0 g 0)) n n (List.replicate n z) → Fr [] w w' → w.heap.size ≤ g → K (.slice (some (at0 g 0)) n n) w') :
    RunR Try.prog (Instr.makeSlice T (.int .i64 (n : Int)) (.int .i64 (n : Int))) w K := by
  have hmx : n ≤ maxLen := by simp only [maxLen]; omega
  have hb : n * i.bytes ≤ 100000 * 100 := Nat.mul_le_mul hn hby
  have hb' : i.bytes * n ≤ 100000 * 100 := by rw [Nat.mul_comm]; exact hb
  obtain ⟨w', hr, ho, hg⟩ := run_make_full (P := Try.prog) w 0 T E i z 1 hu hi hz hsz .i64 .i64 n (by omega) hmx (Nat.zero_le _)
  refine ⟨_, _, hr, hK _ w' ?_ (Fr.grown hg (fun k hk => by cases hk)) (Nat.le_refl _)⟩
  have := ho
  rw [hc n] at this
  exact this
theorem set_same' {α : Type} {l : List α} {i : Nat} {v : α} (h : l[i]? = some v) : l.set i v = l := by
  obtain ⟨hl, e⟩ := List.getElem?_eq_some_iff.1 h
  rw [← e, List.set_getElem_self]
def iv (t : Int) : Value := .int .i64 t
def uv (t : Nat) : Value := .int .u16 (t : Int)
structure AR (w : World) (a cb tb : Nat) (cs : List Int) (ts : List Nat) : Prop where
  blk : Blk w a [.slice (some (at0 cb 0)) 16 16, .slice (some (at0 tb 0)) 16 16] 132
  crow : Own 3 1 w (some (at0 cb 0)) 16 16 (cs.map iv)
  trow : Own 128 1 w (some (at0 tb 0)) 16 16 (ts.map uv)
  ac : a ≠ cb
  at_ : a ≠ tb
  ct : cb ≠ tb
section
variable {w w' W : World} {Q : Value → World → Prop} {a cb tb b k : Nat} {cs : List Int} {ts : List Nat} {S : List Nat}
theorem AR.keep (r : AR w a cb tb cs ts) (f : Fr S w w') (h1 : a ∉ S) (h2 : cb ∉ S) (h3 : tb ∉ S) : AR w' a cb tb cs ts :=
  ⟨r.blk.keep f h1, r.crow.keep f (fun x hx => by simp [fbl, at0] at hx; rwa [hx]), r.trow.keep f (fun x hx => by simp [fbl, at0] at hx; rwa [hx]), r.ac, r.at_, r.ct⟩
theorem AR.keep' (r : AR w a cb tb cs ts) (f : Fr [] w w') : AR w' a cb tb cs ts := r.keep f (by simp) (by simp) (by simp)
theorem AR.cl (r : AR w a cb tb cs ts) : cs.length = 16 ∧ ts.length = 16 := ⟨by have := r.crow.len; simpa using this, by have := r.trow.len; simpa using this⟩
theorem AR.c0 (r : AR w a cb tb cs ts) : w.cell? ((at0 a 0).add 0) = some (.slice (some (at0 cb 0)) 16 16) := r.blk.cat 0 _ rfl
theorem AR.c1 (r : AR w a cb tb cs ts) : w.cell? ((at0 a 0).add 1) = some (.slice (some (at0 tb 0)) 16 16) := r.blk.cat 1 _ rfl
theorem AR.lt (r : AR w a cb tb cs ts) : a < w.heap.size ∧ cb < w.heap.size ∧ tb < w.heap.size := ⟨r.blk.lt, r.crow.lt cb (by simp [fbl, at0]), r.trow.lt tb (by simp [fbl, at0])⟩
theorem AR.cv (r : AR w a cb tb cs ts) (hb : b < 16) : w.cell? ((at0 cb 0).add (Int.toNat (b : Int) * 1)) = some (.int .i64 (cs.getD b 0)) := by
  have hl := r.cl.1
  have hg := List.getElem?_eq_getElem (show b < cs.length by omega)
  rw [Int.toNat_natCast, List.getD_eq_getElem?_getD, hg, Option.getD_some]
  exact row_cell (f := iv) r.crow hg
theorem AR.tv (r : AR w a cb tb cs ts) (hb : b < 16) : w.cell? ((at0 tb 0).add (Int.toNat (b : Int) * 1)) = some (.int .u16 ((ts.getD b 0 : Nat) : Int)) := by
  have hl := r.cl.2
  have hg := List.getElem?_eq_getElem (show b < ts.length by omega)
  rw [Int.toNat_natCast, List.getD_eq_getElem?_getD, hg, Option.getD_some]
  exact row_cell (f := uv) r.trow hg
theorem AR.stC (r : AR w a cb tb cs ts) (hb : b < 16) (v : Int) {K : World → Prop} (hK : ∀ w', AR w' a cb tb (cs.set b v) ts → Fr [cb] w w' → K w') : stK w ((at0 cb 0).add (Int.toNat (b : Int) * 1)) (.int .i64 v) K := by
  have hl := r.cl.1
  rw [Int.toNat_natCast]
  exact row_st r.crow (by omega) v fun w' o f => hK w' ⟨r.blk.off1 r.ac f, o, r.trow.off1 (by simp [fbl, at0]; exact r.ct) f, r.ac, r.at_, r.ct⟩ f
theorem AR.stT (r : AR w a cb tb cs ts) (hb : b < 16) (v : Nat) {K : World → Prop} (hK : ∀ w', AR w' a cb tb cs (ts.set b v) → Fr [tb] w w' → K w') : stK w ((at0 tb 0).add (Int.toNat (b : Int) * 1)) (.int .u16 (v : Int)) K := by
  have hl := r.cl.2
  rw [Int.toNat_natCast]
  exact row_st r.trow (by omega) v fun w' o f => hK w' ⟨r.blk.off1 r.at_ f, r.crow.off1 (by simp [fbl, at0]; exact fun e => r.ct e.symm) f, o, r.ac, r.at_, r.ct⟩ f
theorem class2_spec (hQ : Q (.int .i64 2) w) : CallR Try.prog 63 #[.int .i64 2] w Q := by
  apply X63.sound
  unfold X63.f
  refine bc_neg (by omega) (bc_neg (by omega) ⟨2, ?_⟩)
  rw [X63.l0]
  refine bc_pos (by omega) ⟨by omega, ?_⟩
  rw [show iShl .i64 1 1 = 2 by decide +kernel, X63.l0]
  exact bc_neg (by omega) hQ
theorem full2_spec (hQ : Q (.int .u16 255) w) : CallR Try.prog 64 #[.int .i64 2] w Q := by
  apply X64.sound
  unfold X64.f
  refine ⟨by omega, by decide +kernel, ?_⟩
  rw [show IntKind.u16.wrap (iShl .u16 1 (IntKind.i64.wrap (Int.tdiv 16 2)) - 1) = 255 by decide +kernel]
  exact hQ
theorem take_l0 (r : AR w a cb tb cs ts) (hb : b < 16) (hc : cs.getD b 0 = 2) (ht : ts.getD b 0 < 255) (hQ : ∀ w', AR w' a cb tb cs (setAt ts b (lz (ts.getD b 0))) → Fr [tb] w w' → Q (.int .i64 (16 * (b : Int) + 2 * (lz (ts.getD b 0) : Int))) w') :
    ∀ (f k : Nat), lz (ts.getD b 0) - k < f → k ≤ lz (ts.getD b 0) → X65.l0 Q f (some (at0 a 0)) (b : Int) (k : Int) w
  | 0, k, hf, _ => absurd hf (Nat.not_lt_zero _)
  | f + 1, k, hf, hk => by
    obtain ⟨l1, l2, l3⟩ := lz_lt ht
    rw [X65.l0]
    simp only [optP_some]
    refine ld_sl r.c1 ⟨⟨by omega, by omega⟩, ld_int (r.tv hb) ⟨by omega, ?_⟩⟩
    rw [bit_eq (by omega) (by omega)]
    refine bc_bool (fun h => ?_) (fun h => ?_)
    · have hlt : k < lz (ts.getD b 0) := by
        by_cases he : k = lz (ts.getD b 0)
        · rw [he, l2] at h; cases h
        · omega
      rw [i64w ((k : Int) + 1) (by omega) (by omega), show (k : Int) + 1 = ((k + 1 : Nat) : Int) by omega]
      exact take_l0 r hb hc ht hQ f (k + 1) (by omega) (by omega)
    · have he : k = lz (ts.getD b 0) := by
        by_cases hlt : k < lz (ts.getD b 0)
        · rw [l3 k hlt] at h; cases h
        · omega
      subst he
      refine drawn fun w1 f1 _ => ?_
      have r1 := r.keep' f1
      refine ld_sl r1.c1 ⟨⟨by omega, by omega⟩, ld_int (r1.tv hb) ⟨by omega, ⟨by omega, by omega⟩, ?_⟩⟩
      rw [(set_eq (by omega) l1 l2).1]
      refine opt_some rfl (r1.stT hb _ fun w2 r2 f2 => ?_)
      refine ld_sl r2.c0 ⟨⟨by omega, by omega⟩, ld_int (r2.cv hb) ?_⟩
      rw [hc, i64w ((b : Int) * 16) (by omega) (by omega), i64w (((lz (ts.getD b 0) : Nat) : Int) * 2) (by omega) (by omega), i64w _ (by omega) (by omega), show (b : Int) * 16 + ((lz (ts.getD b 0) : Nat) : Int) * 2 = 16 * (b : Int) + 2 * ((lz (ts.getD b 0) : Nat) : Int) by omega]
      exact hQ w2 r2 (f1.any.tr f2)
theorem take_spec (r : AR w a cb tb cs ts) (hb : b < 16) (hc : cs.getD b 0 = 2) (ht : ts.getD b 0 < 255) (hQ : ∀ w', AR w' a cb tb cs (setAt ts b (lz (ts.getD b 0))) → Fr [tb] w w' → Q (.int .i64 (16 * (b : Int) + 2 * (lz (ts.getD b 0) : Int))) w') :
    CallR Try.prog 65 #[.pointer (some (at0 a 0)), .int .i64 (b : Int)] w Q := by
  apply X65.sound
  unfold X65.f
  exact ⟨lz (ts.getD b 0) + 1, take_l0 r hb hc ht hQ _ 0 (by omega) (by omega)⟩
theorem cls_set (T : TsI ts) (hb : b < 16) (hk : k < 8) (hf : bitAt ts b k = false) : (setAt ts b k).map clsB = (ts.map clsB).set b 2 := by
  unfold setAt
  rw [List.map_set]
  have := (set_eq (T.at_ b) hk hf).2.2.1
  unfold clsB at *
  rw [if_neg this]
theorem cls_get (T : TsI ts) (hb : b < 16) : (ts.map clsB).getD b 0 = clsB (ts.getD b 0) := by
  have hl := T.len
  have hg := List.getElem?_eq_getElem (show b < ts.length by omega)
  rw [List.getD_eq_getElem?_getD, List.getElem?_map, hg, List.getD_eq_getElem?_getD, hg]
  rfl
def freeOf (ts : List Nat) (i : Nat) : Int := match (ts.take i).findIdx? fun t => decide (t = 0) with
  | some j => (j : Int)
  | none => -1
theorem take_succ' {ts : List Nat} {i : Nat} (hi : i < ts.length) : ts.take (i + 1) = ts.take i ++ [ts.getD i 0] := by
  rw [List.getD_eq_getElem?_getD, List.getElem?_eq_getElem hi]
  exact List.take_succ_eq_append_getElem hi
theorem freeOf_succ {ts : List Nat} {i : Nat} (hi : i < ts.length) : freeOf ts (i + 1) = if freeOf ts i < 0 ∧ ts.getD i 0 = 0 then (i : Int) else freeOf ts i := by
  unfold freeOf
  rw [take_succ' hi, List.findIdx?_append]
  cases h : (ts.take i).findIdx? (fun t => decide (t = 0)) with
  | some j => simp only [Option.some_or]; rw [if_neg (by omega)]
  | none =>
    simp only [Option.none_or, List.findIdx?_singleton]
    have hl : (ts.take i).length = i := by rw [List.length_take]; omega
    by_cases h0 : ts.getD i 0 = 0
    · rw [if_pos (And.intro (by decide) h0), if_pos (decide_eq_true h0)]
      simp [hl]
    · rw [if_neg (show ¬ ((-1 : Int) < 0 ∧ ts.getD i 0 = 0) from fun hh => h0 hh.2), if_neg (show ¬ decide (ts.getD i 0 = 0) = true from fun hh => h0 (of_decide_eq_true hh))]
      rfl
theorem fit_none_succ {ts : List Nat} {i : Nat} (hi : i < ts.length) (h : (ts.take i).findIdx? fitB = none) (hf : fitB (ts.getD i 0) = false) : (ts.take (i + 1)).findIdx? fitB = none := by
  rw [take_succ' hi, List.findIdx?_append, h, Option.none_or, List.findIdx?_singleton, hf]
  rfl
theorem fit_here {ts : List Nat} {i : Nat} (hi : i < ts.length) (h : (ts.take i).findIdx? fitB = none) (hf : fitB (ts.getD i 0) = true) : allocB ts = some i := by
  have e : ts.findIdx? fitB = some i := by
    rw [← List.take_append_drop i ts, List.findIdx?_append, h]
    have hl : (ts.take i).length = i := by rw [List.length_take]; omega
    rw [List.drop_eq_getElem_cons hi, List.findIdx?_cons]
    rw [List.getD_eq_getElem?_getD, List.getElem?_eq_getElem hi] at hf
    simp only [Option.getD_some] at hf
    simp [hf, hl]
  unfold allocB
  rw [e]
  rfl
theorem alloc_l0 (r : AR w a cb tb (ts.map clsB) ts) (T : TsI ts) (hp : (ts.map pop).sum < 128)
    (hQ : ∀ b w', allocB ts = some b → b < 16 → ts.getD b 0 < 255 → AR w' a cb tb ((setAt ts b (lz (ts.getD b 0))).map clsB) (setAt ts b (lz (ts.getD b 0))) → Fr [cb, tb] w w' → Q (.tuple #[.int .i64 (16 * (b : Int) + 2 * (lz (ts.getD b 0) : Int)), .int .i64 0]) w') :
    ∀ (f i : Nat) (w1 : World), 16 - i < f → i ≤ 16 → (ts.take i).findIdx? fitB = none → Fr [] w w1 → X51.l0 Q f (some (at0 a 0)) 2 (freeOf ts i) (some (at0 cb 0)) 16 16 16 (i : Int) w1
  | 0, i, w1, hf, _, _, _ => absurd hf (Nat.not_lt_zero _)
  | f + 1, i, w1, hf, hi, hn, F => by
    have hl := T.len
    have r1 := r.keep' F
    rw [X51.l0]
    simp only [optP_some]
    refine bc_dec (fun h1 => ⟨⟨by omega, by omega⟩, ld_int (r1.cv (by omega)) (drawn fun w3 f3 _ => ?_)⟩) (fun h1 => ?_)
    · have r3 := r1.keep' f3
      have F3 := F.tr f3
      have hi16 : i < 16 := by omega
      rw [cls_get T hi16]
      have htb := T.at_ i
      have e1 : IntKind.wrap .i64 ((i : Int) + 1) = ((i + 1 : Nat) : Int) := by rw [i64w ((i : Int) + 1) (by omega) (by omega)]; omega
      rw [e1]
      by_cases h0 : ts.getD i 0 = 0
      · have hc0 : clsB (ts.getD i 0) = 0 := by unfold clsB; rw [if_pos h0]
        rw [hc0]
        have hnf : fitB (ts.getD i 0) = false := by unfold fitB; rw [h0]; rfl
        refine bc_eq (fun e => by cases e) (fun _ => bc_eqt' rfl (bc_dec (fun hneg => ?_) (fun hneg => ?_)))
        · have := alloc_l0 r T hp hQ f (i + 1) w3 (by omega) (by omega) (fit_none_succ (by omega) hn hnf) F3
          rw [freeOf_succ (by omega), if_pos ⟨hneg, h0⟩] at this
          exact this
        · have := alloc_l0 r T hp hQ f (i + 1) w3 (by omega) (by omega) (fit_none_succ (by omega) hn hnf) F3
          rw [freeOf_succ (by omega), if_neg (fun hh => hneg hh.1)] at this
          exact this
      · have hc2 : clsB (ts.getD i 0) = 2 := by unfold clsB; rw [if_neg h0]
        rw [hc2]
        refine bc_eqt' rfl (ld_sl r3.c1 ⟨⟨by omega, by omega⟩, ld_int (r3.tv hi16) (full2_spec ⟨_, rfl, ⟨r3.tv hi16, r3.tv hi16⟩, ⟨r3.c1, r3.c1⟩, bc_ne (fun hne => ?_) (fun heq => ?_)⟩)⟩)
        · have h255 : ts.getD i 0 ≠ 255 := fun e => hne (by rw [e]; rfl)
          have hfit : fitB (ts.getD i 0) = true := by unfold fitB; rw [decide_eq_true h0, decide_eq_true h255]; rfl
          refine take_spec r3 hi16 (by rw [cls_get T hi16, hc2]) (by omega) fun w4 r4 f4 => ⟨_, rfl, ?_⟩
          have hz := lz_lt (show ts.getD i 0 < 255 by omega)
          have ecs : (setAt ts i (lz (ts.getD i 0))).map clsB = ts.map clsB := by
            rw [cls_set T hi16 hz.1 hz.2.1]
            have hg := List.getElem?_eq_getElem (show i < (ts.map clsB).length by simp; omega)
            have : (ts.map clsB)[i]'(by simp; omega) = 2 := by
              have := cls_get T hi16
              rw [List.getD_eq_getElem?_getD, hg, hc2] at this
              exact this
            exact set_same' (by rw [hg, this])
          refine hQ i w4 (fit_here (by omega) hn hfit) hi16 (by omega) (by rw [ecs]; exact r4) ((F3.any.tr (f4.mono fun x hx => by simp at hx; simp [hx])))
        · have h255 : ts.getD i 0 = 255 := by
            have : ((ts.getD i 0 : Nat) : Int) = 255 := heq
            omega
          have hnf : fitB (ts.getD i 0) = false := by unfold fitB; rw [h255]; rfl
          refine bc_eq (fun e => by cases e) (fun _ => ?_)
          have := alloc_l0 r T hp hQ f (i + 1) w3 (by omega) (by omega) (fit_none_succ (by omega) hn hnf) F3
          rw [freeOf_succ (by omega), if_neg (fun hh => h0 hh.2)] at this
          exact this
    · have hi16 : i = 16 := by omega
      subst hi16
      have htk : ts.take 16 = ts := List.take_of_length_le (by omega)
      rw [htk] at hn
      obtain ⟨b, hb, hb16, hbt⟩ := alloc_ok T hp
      have hfo : freeOf ts 16 = (b : Int) ∧ ts.getD b 0 = 0 := by
        unfold freeOf
        unfold allocB at hb
        rw [hn, Option.none_or] at hb
        rw [htk, hb]
        obtain ⟨hlt, hz, _⟩ := List.findIdx?_eq_some_iff_getElem.1 hb
        refine ⟨rfl, ?_⟩
        rw [List.getD_eq_getElem?_getD, List.getElem?_eq_getElem hlt]
        simpa using hz
      rw [hfo.1]
      refine bc_neg (by omega) (ld_sl r1.c0 ⟨⟨by omega, by omega⟩, opt_some rfl (r1.stC hb16 2 fun w2 r2 f2 => ?_)⟩)
      have hz := lz_lt hbt
      refine take_spec r2 hb16 (by rw [List.getD_eq_getElem?_getD, List.getElem?_set_self (by simp; omega)]; rfl) hbt fun w4 r4 f4 => ⟨_, rfl, ?_⟩
      refine hQ b w4 hb hb16 hbt (by rw [cls_set T hb16 hz.1 hz.2.1]; exact r4) ((F.any.tr (f2.mono fun x hx => by simp at hx; simp [hx])).tr (f4.mono fun x hx => by simp at hx; simp [hx]))
theorem alloc_spec (r : AR w a cb tb (ts.map clsB) ts) (T : TsI ts) (hp : (ts.map pop).sum < 128)
    (hQ : ∀ b w', allocB ts = some b → b < 16 → ts.getD b 0 < 255 → AR w' a cb tb ((setAt ts b (lz (ts.getD b 0))).map clsB) (setAt ts b (lz (ts.getD b 0))) → Fr [cb, tb] w w' → Q (.tuple #[.int .i64 (16 * (b : Int) + 2 * (lz (ts.getD b 0) : Int)), .int .i64 0]) w') :
    CallR Try.prog 51 #[.pointer (some (at0 a 0)), .int .i64 2] w Q := by
  apply X51.sound
  unfold X51.f
  simp only [optP_some]
  refine class2_spec ⟨_, rfl, bc_eq (fun e => by cases e) (fun _ => ld_sl r.c0 ⟨17, ?_⟩)⟩
  have := alloc_l0 r T hp hQ 17 0 w (by omega) (by omega) (by simp) (Fr.refl _)
  simpa [freeOf] using this
theorem place_spec (r : AR w a cb tb (ts.map clsB) ts) (T : TsI ts) (hb : b < 16) (hk : k < 8) (hf : bitAt ts b k = true) (hQ : ∀ w', Fr [] w w' → Q (.tuple #[.int .i64 (b : Int), .int .i64 (k : Int), .bool true]) w') :
    CallR Try.prog 60 #[.pointer (some (at0 a 0)), .int .i64 (16 * (b : Int) + 2 * (k : Int))] w Q := by
  apply X60.sound
  unfold X60.f
  simp only [optP_some]
  have hne : ts.getD b 0 ≠ 0 := fun e => by
    unfold bitAt at hf
    rw [e] at hf
    simp at hf
  have hc2 : clsB (ts.getD b 0) = 2 := by unfold clsB; rw [if_neg hne]
  have hd : Int.tdiv (16 * (b : Int) + 2 * (k : Int)) 16 = (b : Int) := by rw [Int.tdiv_eq_ediv_of_nonneg (by omega)]; omega
  have hm : Int.tmod (16 * (b : Int) + 2 * (k : Int)) 16 = 2 * (k : Int) := by rw [Int.tmod_eq_emod_of_nonneg (by omega)]; omega
  have hcv := r.cv hb
  rw [cls_get T hb, hc2] at hcv
  refine bc_neg (by omega) (ld_sl r.c0 (bc_neg (by rw [i64w (((16 : Nat) : Int) * 16) (by omega) (by omega)]; omega) ?_))
  unfold X60.j1
  simp only [optP_some]
  rw [hd, hm, i64w (b : Int) (by omega) (by omega)]
  refine ⟨by omega, by omega, ld_sl r.c0 ⟨⟨by omega, by omega⟩, ld_int hcv (bc_eq (fun e => by cases e) (fun _ => ld_sl r.c0 ⟨⟨by omega, by omega⟩, ld_int hcv ⟨by omega, ?_⟩⟩))⟩⟩
  rw [show Int.tmod (2 * (k : Int)) 2 = 0 by rw [Int.tmod_eq_emod_of_nonneg (by omega)]; omega]
  refine bc_ne (fun e => absurd rfl e) (fun _ => ?_)
  unfold X60.j0
  simp only [optP_some]
  have e2 : IntKind.wrap .i64 (Int.tdiv (2 * (k : Int)) 2) = (k : Int) := by rw [Int.tdiv_eq_ediv_of_nonneg (by omega), i64w _ (by omega) (by omega)]; omega
  refine ld_sl r.c0 ⟨⟨by omega, by omega⟩, ld_int hcv ⟨by omega, drawn fun w5 f5 _ => ?_⟩⟩
  have r5 := r.keep' f5
  rw [e2]
  refine ld_sl r5.c1 ⟨⟨by omega, by omega⟩, ld_int (r5.tv hb) ⟨by omega, ?_⟩⟩
  rw [bit_eq (T.at_ b) hk]
  have := hQ w5 f5
  unfold bitAt at hf
  rw [hf]
  exact this
theorem cls_clr (T : TsI ts) (hb : b < 16) : (clrAt ts b k).map clsB = (ts.map clsB).set b (clsB (ts.getD b 0 - 2 ^ k)) := by
  unfold clrAt
  rw [List.map_set]
theorem free_spec (r : AR w a cb tb (ts.map clsB) ts) (T : TsI ts) (hb : b < 16) (hk : k < 8) (hf : bitAt ts b k = true) (hQ : ∀ w', AR w' a cb tb ((clrAt ts b k).map clsB) (clrAt ts b k) → Fr [cb, tb] w w' → Q (.int .i64 0) w') :
    CallR Try.prog 46 #[.pointer (some (at0 a 0)), .int .i64 (16 * (b : Int) + 2 * (k : Int))] w Q := by
  apply X46.sound
  unfold X46.f
  simp only [optP_some]
  have hl := T.len
  have hne : ts.getD b 0 ≠ 0 := fun e => by
    unfold bitAt at hf
    rw [e] at hf
    simp at hf
  have hc2 : clsB (ts.getD b 0) = 2 := by unfold clsB; rw [if_neg hne]
  refine place_spec r T hb hk hf fun w2 f2 => ⟨_, _, _, rfl, bc_bool (fun e => by cases e) (fun _ => drawn fun w6 f6 _ => ?_)⟩
  have F6 := f2.tr f6
  have r6 := r.keep' F6
  refine ld_sl r6.c1 ⟨⟨by omega, by omega⟩, ld_int (r6.tv hb) ⟨by omega, ⟨by omega, by omega⟩, ?_⟩⟩
  rw [(clr_eq (T.at_ b) hk hf).1]
  refine opt_some rfl (r6.stT hb _ fun w12 r12 f12 => ?_)
  have e12 : ts.set b (ts.getD b 0 - 2 ^ k) = clrAt ts b k := rfl
  rw [e12] at r12
  have ev : (clrAt ts b k).getD b 0 = ts.getD b 0 - 2 ^ k := by unfold clrAt; rw [getD_set (by omega), if_pos rfl]
  have htv := r12.tv hb
  rw [ev] at htv
  have F12 : Fr [cb, tb] w w12 := F6.any.tr (f12.mono fun x hx => by simp at hx; simp [hx])
  refine ld_sl r12.c1 ⟨⟨by omega, by omega⟩, ld_int htv (bc_eq (fun h0 => ?_) (fun h0 => ?_))⟩
  · have h0' : ts.getD b 0 - 2 ^ k = 0 := by omega
    refine ld_sl r12.c0 ⟨⟨by omega, by omega⟩, opt_some rfl (r12.stC hb 0 fun w20 r20 f20 => ?_)⟩
    refine hQ w20 ?_ (F12.tr (f20.mono fun x hx => by simp at hx; simp [hx]))
    rw [cls_clr T hb, h0']
    exact r20
  · have h0' : ts.getD b 0 - 2 ^ k ≠ 0 := fun e => h0 (by rw [e]; rfl)
    refine hQ w12 ?_ F12
    rw [cls_clr T hb]
    have e2 : clsB (ts.getD b 0 - 2 ^ k) = 2 := by unfold clsB; rw [if_neg h0']
    rw [e2]
    have hg := List.getElem?_eq_getElem (show b < (ts.map clsB).length by simp; omega)
    have : (ts.map clsB)[b]'(by simp; omega) = 2 := by
      have := cls_get T hb
      rw [List.getD_eq_getElem?_getD, hg, hc2] at this
      exact this
    rw [set_same' (by rw [hg, this])]
    exact r12
theorem newArena_spec (hQ : ∀ a cb tb w', AR w' a cb tb ((List.replicate 16 0).map clsB) (List.replicate 16 0) → Fr [] w w' → w.heap.size ≤ a → w.heap.size ≤ cb → w.heap.size ≤ tb → Q (.tuple #[.pointer (some (at0 a 0)), .int .i64 0]) w') :
    CallR Try.prog 48 #[.int .i64 256] w Q := by
  apply X48.sound
  unfold X48.f
  have e16 : IntKind.wrap .i64 (Int.tdiv 256 16) = ((16 : Nat) : Int) := by decide +kernel
  rw [e16, show Int.tmod 256 16 = 0 by decide +kernel]
  have ei : (List.replicate 16 (Value.int .i64 0)) = ((List.replicate 16 0).map clsB).map iv := by rw [List.map_replicate, List.map_replicate]; rfl
  have eu : (List.replicate 16 (Value.int .u16 0)) = (List.replicate 16 0).map uv := by rw [List.map_replicate]; rfl
  refine bc_neg (by omega) (bc_neg (by omega) ⟨by omega, bc_ne (fun e => absurd rfl e) (fun _ => ⟨by omega, drawn fun w1 f1 _ => ⟨?_, ?_⟩⟩)⟩)
  · refine make1 (E := 3) (z := .int .i64 0) (by kernel_rfl) (i := Try.t3) (by kernel_rfl) (by kernel_rfl) (by kernel_rfl) (by decide +kernel) (fun n => by rw [Nat.mul_one]; exact toList_madeCells_one _ _) (by omega) fun g3 w3 o3 f3 h3 => ⟨_, _, _, rfl, ?_⟩
    refine make1 (E := 128) (z := .int .u16 0) (by kernel_rfl) (i := Try.t128) (by kernel_rfl) (by kernel_rfl) (by kernel_rfl) (by decide +kernel) (fun n => by rw [Nat.mul_one]; exact toList_madeCells_one _ _) (by omega) fun g6 w6 o6 f6 h6 => ⟨_, _, _, rfl, newB fun g8 w9 b9 f9 h9 => ?_⟩
    have l3 := o3.lt g3 (by simp [fbl, at0])
    have l6 := o6.lt g6 (by simp [fbl, at0])
    have z1 := f1.size
    have z3 := f3.size
    have z6 := f6.size
    refine hQ g8 g3 g6 w9 ⟨b9, by rw [← ei]; exact o3.keep' (f6.tr f9), by rw [← eu]; exact o6.keep' f9, by omega, by omega, by omega⟩ (f1.tr (f3.tr (f6.tr f9))) (by omega) (by omega) (by omega)
  · refine make1 (E := 128) (z := .int .u16 0) (by kernel_rfl) (i := Try.t128) (by kernel_rfl) (by kernel_rfl) (by kernel_rfl) (by decide +kernel) (fun n => by rw [Nat.mul_one]; exact toList_madeCells_one _ _) (by omega) fun g6 w3 o6 f3 h3 => ⟨_, _, _, rfl, ?_⟩
    refine make1 (E := 3) (z := .int .i64 0) (by kernel_rfl) (i := Try.t3) (by kernel_rfl) (by kernel_rfl) (by kernel_rfl) (by decide +kernel) (fun n => by rw [Nat.mul_one]; exact toList_madeCells_one _ _) (by omega) fun g3 w6 o3 f6 h6 => ⟨_, _, _, rfl, newB fun g8 w9 b9 f9 h9 => ?_⟩
    have l3 := o3.lt g3 (by simp [fbl, at0])
    have l6 := o6.lt g6 (by simp [fbl, at0])
    have z1 := f1.size
    have z3 := f3.size
    have z6 := f6.size
    refine hQ g8 g3 g6 w9 ⟨b9, by rw [← ei]; exact o3.keep' f9, by rw [← eu]; exact o6.keep' (f6.tr f9), by omega, by omega, by omega⟩ (f1.tr (f3.tr (f6.tr f9))) (by omega) (by omega) (by omega)
end
end Go.Proofs.YtnjmkhhaodgpbaaX
