/- The caller's table as it lies; its small calls. -/
import Derived.Test.YtdgoalhnkegbmaaPCallF
import Derived.Test.YtdgoalhnkegbmaaXT2
namespace Go.Proofs.YtdgoalhnkegbmaaX
open Go.RowKit
set_option linter.unusedVariables false
set_option linter.unusedSimpArgs false
set_option maxRecDepth 100000
theorem rowT27 : RowT Try.prog 27 26 2 16 := ⟨by kernel_rfl, ⟨Try.t26, Value.agg #[.int .i64 0, .int .u64 0], by kernel_rfl, by kernel_rfl, by kernel_rfl, by kernel_rfl, by kernel_rfl⟩, by omega⟩
theorem isS26 : isStruct Try.prog 26 := ⟨_, Try.underlying26⟩
abbrev clZ : Cl := ⟨0, 0, 0, 0, 0, 0, none, 0, 0, 0, 0, 0, none, 0, 0, 0, 0, 0, 0⟩
theorem At.sub {w : World} {p : Addr} {cs : List Value} (h : At w p cs) (i j : Nat) {u : Value} (hu : cs[i + j]? = some u) : w.cell? ((p.add i).add j) = some u := by rw [add_add]; exact h _ _ hu
theorem Blk.off1 {w w' : World} {cs : List Value} {e : TypeId} {x y : Nat} (b : Blk w x cs e) (hne : x ≠ y) (f : Fr [y] w w') : Blk w' x cs e := b.keep f (by simpa using hne)
theorem idc_one (l : List (Int × Int)) : ∀ u ∈ l.flatMap idc, u.oneCell' = true := by
  intro u hu
  obtain ⟨x, _, hx⟩ := List.mem_flatMap.1 hu
  simp at hx
  rcases hx with rfl | rfl <;> rfl
def ccells (S : Cs) (lp : Option Addr) (lc gt : Nat) : List Value := S.c.cells ++ [.int .i64 S.node, .int .u64 S.first, .slice lp S.latest.length lc, .pointer (some (at0 gt 0)), .int .u64 S.last]
structure PCa (w : World) (g : Nat) (ft al : List Nat) (S : Cs) (lp : Option Addr) (lc gt : Nat) (rt : List Nat) (lm : List (Int × Cl)) : Prop where
  blk : Blk w g (ccells S lp lc gt) 74
  lat : Own 22 1 w lp S.latest.length lc (S.latest.map (Value.int .u64))
  tab : T_CB w (at0 gt 0) rt S.c.calls lm
  rel : Rl w ft al lm S.l
  foot : ft = g :: (fbl lp ++ rt)
  gl : g ∉ fbl lp
  gr : g ∉ rt
  lr : ∀ x ∈ fbl lp, x ∉ rt
  sub : ∀ x ∈ ft, x ∈ al
  lt : ∀ x ∈ al, x < w.heap.size
  ll : (S.latest.length : Int) = S.c.nodes + 1
def PC (w : World) (g : Nat) (ft al : List Nat) (S : Cs) : Prop := ∃ lp lc gt rt lm, PCa w g ft al S lp lc gt rt lm
section
variable {w w' W : World} {Q : Value → World → Prop} {g gs : Nat} {ft al ft' al' F : List Nat} {S S' : Cs} {k to num now : Int} {x : Cl} {y : Cp}
theorem PC.keep (t : PC w g ft al S) (f : Fr F w w') (hd : ∀ x ∈ al, x ∉ F) : PC w' g ft al S := by
  obtain ⟨lp, lc, gt, rt, lm, t⟩ := t
  have hf : ∀ x ∈ ft, x ∉ F := fun x hx => hd x (t.sub x hx)
  have hz := f.size
  refine ⟨lp, lc, gt, rt, lm, t.blk.keep f (hf g (by rw [t.foot]; simp)), t.lat.keep f (fun x hx => hf x (by rw [t.foot]; simp [hx])), t.tab.keep f (fun x hx => hf x (by rw [t.foot]; simp [hx])), t.rel.keep f (fun x hx _ => hd x hx), t.foot, t.gl, t.gr, t.lr, t.sub, fun x hx => (by have := t.lt x hx; omega), t.ll⟩
theorem PC.keep' (t : PC w g ft al S) (f : Fr [] w w') : PC w' g ft al S := t.keep f (by simp)
theorem PC.off (t : PC w g ft al S) {x : Nat} (hx : x ∉ al) (f : Fr [x] w w') : PC w' g ft al S := t.keep f (fun y hy hm => hx (by simp at hm; rwa [← hm]))
theorem PC.lt (t : PC w g ft al S) : ∀ x ∈ al, x < w.heap.size := by
  obtain ⟨lp, lc, gt, rt, lm, t⟩ := t
  exact t.lt
theorem PC.sub (t : PC w g ft al S) : ∀ x ∈ ft, x ∈ al := by
  obtain ⟨lp, lc, gt, rt, lm, t⟩ := t
  exact t.sub
theorem PC.fresh (t : PC w g ft al S) {x : Nat} (hx : w.heap.size ≤ x) : x ∉ al := fun hm => by have := t.lt x hm; omega
theorem PC.grow (t : PC w g ft al S) (h1 : ∀ x ∈ al, x ∈ al') (h2 : ∀ x ∈ al', x < w.heap.size) : PC w g ft al' S := by
  obtain ⟨lp, lc, gt, rt, lm, t⟩ := t
  exact ⟨lp, lc, gt, rt, lm, t.blk, t.lat, t.tab, t.rel.mono (fun k _ h => h) (fun k hk _ => h1 k hk), t.foot, t.gl, t.gr, t.lr, fun x hx => h1 x (t.sub x hx), h2, t.ll⟩
theorem PC.cfg (t : PC w g ft al S) : At w (at0 g 0) S.c.cells := by
  obtain ⟨lp, lc, gt, rt, lm, t⟩ := t
  exact t.blk.off 0 rfl
theorem PC.cfg0 (t : PC w g ft al S) : At w ((at0 g 0).add 0) S.c.cells := by rw [add_at]; exact t.cfg
theorem PC.node (t : PC w g ft al S) : w.cell? ((at0 g 0).add 22) = some (.int .i64 S.node) := by
  obtain ⟨lp, lc, gt, rt, lm, t⟩ := t
  exact t.blk.cat 22 _ rfl
theorem PC.first (t : PC w g ft al S) : w.cell? ((at0 g 0).add 23) = some (.int .u64 S.first) := by
  obtain ⟨lp, lc, gt, rt, lm, t⟩ := t
  exact t.blk.cat 23 _ rfl
theorem PC.last (t : PC w g ft al S) : w.cell? ((at0 g 0).add 26) = some (.int .u64 S.last) := by
  obtain ⟨lp, lc, gt, rt, lm, t⟩ := t
  exact t.blk.cat 26 _ rfl
theorem PC.size (t : PC w g ft al S) : (S.l.length : Int) ≤ S.c.calls ∧ S.c.calls ≤ 4096 := by
  obtain ⟨lp, lc, gt, rt, lm, t⟩ := t
  have := t.tab.size
  rw [t.rel.len] at this
  exact this
theorem PC.sorted (t : PC w g ft al S) : Srt ilt (keys S.l) := by
  obtain ⟨lp, lc, gt, rt, lm, t⟩ := t
  rw [← t.rel.keys]
  exact t.tab.sorted
/-- what a call leaves behind -/
def AftC (w : World) (g : Nat) (ft al : List Nat) (S' : Cs) (v : Value) (Q : Value → World → Prop) : Prop := ∀ ft' al' w', PC w' g ft' al' S' → Fr ft w w' → (∀ x ∈ ft', x ∈ ft ∨ w.heap.size ≤ x) → (∀ x ∈ al', x ∈ al ∨ w.heap.size ≤ x) → Q v w'
theorem AftC.same {v : Value} (h : AftC w g ft al S v Q) (t : PC w g ft al S) (f : Fr [] w w') : Q v w' := h ft al w' (t.keep' f) f.any (fun x hx => .inl hx) (fun x hx => .inl hx)
theorem AftC.next {v : Value} (h : AftC w g ft al S v Q) (f : Fr ft w w') (e : ∀ x ∈ ft', x ∈ ft ∨ w.heap.size ≤ x) (e2 : ∀ x ∈ al', x ∈ al ∨ w.heap.size ≤ x) : AftC w' g ft' al' S v Q := fun ft2 al2 w2 t2 f2 e3 e4 => h ft2 al2 w2 t2 (f.trans f2 e) (fun x hx => by
    have := f.size
    rcases e3 x hx with h' | h'
    · exact e x h'
    · exact .inr (by omega)) (fun x hx => by
    have := f.size
    rcases e4 x hx with h' | h'
    · exact e2 x h'
    · exact .inr (by omega))
theorem key_spec (hQ : ∀ w', Fr [] w w' → Q (.int .u64 (keyOf to num)) w') : CallR Try.prog 41 #[.int .i64 to, .int .u64 num] w Q := by
  apply X41.sound
  unfold X41.f
  refine X67.sound _ _ _ _ ?_
  unfold X67.f
  refine newB fun g w2 b f hg => ld_int (b.cat 0 _ rfl) ⟨by omega, ld_int (b.cat 1 _ rfl) ⟨_, rfl, hQ _ f⟩⟩
theorem past_spec {a span now : Int} (hQ : Q (.bool (pastB a span now)) w) : CallR Try.prog 36 #[.int .u64 a, .int .u64 span, .int .u64 now] w Q := by
  apply X36.sound
  unfold X36.f
  unfold pastB at hQ
  exact bc_dec (fun h => by rw [if_pos h] at hQ; exact hQ) (fun h => by rw [if_neg h] at hQ; exact hQ)
theorem wait_spec {a b c : Int} (hQ : Q (.int .u64 (waitN a b c)) w) : CallR Try.prog 37 #[.int .u64 a, .int .u64 b, .int .u64 c] w Q := by
  apply X37.sound
  unfold X37.f
  unfold waitN at hQ
  refine bc_eq (fun h => by rw [if_pos h] at hQ; exact hQ) (fun h => ⟨by omega, ?_⟩)
  rw [if_neg h] at hQ
  exact bc_dec (fun h => by rw [if_pos h] at hQ; exact hQ) (fun h => by rw [if_neg h] at hQ; exact hQ)
theorem other_spec (t : PC w g ft al S) (hQ : Q (.bool (otherB S to)) w) : CallR Try.prog 38 #[.pointer (some (at0 g 0)), .int .i64 to] w Q := by
  apply X38.sound
  unfold X38.f
  simp only [optP_some]
  unfold otherB at hQ
  refine bc_dec (fun h => ?_) (fun h => by rw [if_neg h] at hQ; exact hQ)
  rw [if_pos h] at hQ
  refine ld_int (t.cfg0 0 _ rfl) (bc_dec (fun h => ?_) (fun h => by rw [if_neg h] at hQ; exact hQ))
  rw [if_pos h] at hQ
  exact ld_int t.node hQ
theorem open_spec (hQ : ∀ w', Fr [] w w' → Q (.bool (decide (x.state = 1 ∨ x.state = 4))) w') : CallR Try.prog 56 #[x.val] w Q := by
  apply X56.sound
  unfold X56.f
  refine newB fun g1 w2 b f _ => ?_
  have b : Blk w2 g1 x.cells 44 := b
  have hq := hQ w2 f
  refine ld_int (b.cat 8 _ rfl) (bc_eq (fun h => ?_) (fun h => ld_int (b.cat 8 _ rfl) ?_))
  · rw [decide_eq_true (.inl h)] at hq; exact hq
  · have : (x.state == 4) = decide (x.state = 1 ∨ x.state = 4) := by by_cases h4 : x.state = 4 <;> simp [h, h4]
    rw [this]; exact hq
/-- the rows' own Get -/
theorem rowsGet {gt : Nat} {rt : List Nat} {lm : List (Int × Cl)} {L : List (Int × Cp)} (h : T_CB w (at0 gt 0) rt S.c.calls lm) (r : Rl w ft al lm L) (hno : get ilt L k = none → ∀ w', Fr [] w w' → Q (.tuple #[clZ.val, .bool false]) w')
    (hso : ∀ x y, get ilt L k = some y → CRel w ft al x y → ∀ w', Fr [] w w' → Q (.tuple #[x.val, .bool true]) w') : CallR Try.prog 35 #[.pointer (some (at0 gt 0)), .int .u64 k] w Q := by
  rcases r.get k with ⟨h1, h2⟩ | ⟨x, y, h1, h2, h3⟩
  · exact get_CB h (fun _ w' f => hno h2 w' f) (fun v hv => by rw [h1] at hv; cases hv)
  · exact get_CB h (fun hn => by rw [h1] at hn; cases hn) (fun v hv w' f => by rw [h1] at hv; injection hv with hv; subst hv; exact hso x y h2 h3 w' f)
theorem CRel.keep' (h : CRel w ft al x y) (f : Fr [] w w') : CRel w' ft al x y := h.keep f (fun _ _ _ hm => by cases hm)
theorem get_spec (t : PC w g ft al S) (hno : getC S to num = none → ∀ w', Fr [] w w' → Q (.tuple #[clZ.val, .bool false]) w')
    (hso : ∀ x y w', getC S to num = some y → CRel w' ft al x y → Fr [] w w' → Q (.tuple #[x.val, .bool true]) w') : CallR Try.prog 39 #[.pointer (some (at0 g 0)), .int .i64 to, .int .u64 num] w Q := by
  apply X39.sound
  unfold X39.f
  simp only [optP_some]
  refine newB fun g1 w2 b1 f2 h1 => other_spec (t.keep' f2) ⟨_, rfl, ?_⟩
  unfold getC at hno hso
  have z : ∀ {w4 : World}, Fr [] w w4 → Blk w4 g1 clZ.cells 44 → (otherB S to = false ∨ num > 72057594037927935) → stAll w4 (at0 g1 0) clZ.cells fun w6 => ldI .i64 w6 ((at0 g1 0).add 0) fun x7 => ldI .u64 w6 ((at0 g1 0).add 1) fun x8 => ldI .i64 w6 ((at0 g1 0).add 2) fun x9 => ldI .i64 w6 ((at0 g1 0).add 3) fun x10 => ldI .i64 w6 ((at0 g1 0).add 4) fun x11 => ldI .u64 w6 ((at0 g1 0).add 5) fun x12 => ldSl w6 ((at0 g1 0).add 6) fun x13p x13n x13c => ldI .u64 w6 ((at0 g1 0).add 7) fun x14 => ldI .i64 w6 ((at0 g1 0).add 8) fun x15 => ldI .i64 w6 ((at0 g1 0).add 9) fun x16 => ldSl w6 ((at0 g1 0).add 10) fun x17p x17n x17c => ldI .u64 w6 ((at0 g1 0).add 11) fun x18 => ldI .u64 w6 ((at0 g1 0).add 12) fun x19 => ldI .u64 w6 ((at0 g1 0).add 13) fun x20 => ldI .u64 w6 ((at0 g1 0).add 14) fun x21 => Q (.tuple #[.agg #[.int .i64 x7, .int .u64 x8, .int .i64 x9, .int .i64 x10, .int .i64 x11, .int .u64 x12, .slice x13p x13n x13c, .int .u64 x14, .int .i64 x15, .int .i64 x16, .slice x17p x17n x17c, .int .u64 x18, .int .u64 x19, .int .u64 x20, .int .u64 x21], .bool false]) w6 := by
    intro w4 f4 b4 hc
    refine stAllB (vs := clZ.cells) b4 rfl fun w6 b6 f6 => ld_Cl (s := clZ) b6.cat ?_
    rw [if_pos hc] at hno
    exact hno rfl w6 (f4.loc f6 h1)
  have b1 : Blk w2 g1 clZ.cells 44 := b1
  refine bc_bool (fun e => z f2 b1 (.inl (by simpa using e))) (fun e => bc_dec (fun e2 => z f2 b1 (.inr e2)) (fun e2 => drawn fun w38 f38 _ => ?_))
  have hn : ¬ (otherB S to = false ∨ num > 72057594037927935) := by
    rintro (h | h)
    · rw [h] at e; cases e
    · exact e2 h
  rw [if_neg hn] at hno
  have t38 := t.keep' (f2.tr f38)
  obtain ⟨lp, lc, gt, rt, lm, t'⟩ := t38
  refine ld_ptr (t'.blk.cat 25 _ rfl) (key_spec fun w42 f42 => ⟨_, rfl, ⟨t'.blk.cat 25 _ rfl, (t'.blk.keep' f42).cat 25 _ rfl⟩, ?_⟩)
  have F42 := f2.tr (f38.tr f42)
  have b42 := b1.keep' (f38.tr f42)
  refine rowsGet (t'.tab.keep' f42) (t'.rel.keep f42 (fun _ _ _ hm => by cases hm)) (fun hg w45 f45 => ?_) (fun x y hg r w45 f45 => ?_)
  · refine ⟨_, _, _, _, _, _, _, _, _, _, _, _, _, _, _, _, _, _, _, _, rfl, stAllB (vs := clZ.cells) (b42.keep' f45) rfl fun w62 b62 f62 => ld_Cl (s := clZ) b62.cat ?_⟩
    exact hno hg w62 ((F42.tr f45).loc f62 h1)
  · refine ⟨_, _, _, _, _, _, _, _, _, _, _, _, _, _, _, _, _, _, _, _, rfl, stAllB (vs := x.cells) (b42.keep' f45) rfl fun w62 b62 f62 => ld_Cl (s := x) b62.cat ?_⟩
    have hgal : g1 ∉ al := fun hm => by have := t.lt g1 hm; omega
    exact hso x y w62 (by rw [if_neg hn]; exact hg) ((r.keep' f45).keep f62 (fun k hk _ hm => hgal (by simp at hm; rw [← hm]; exact hk))) ((F42.tr f45).loc f62 h1)
theorem putF_Rl {lm : List (Int × Cl)} {L : List (Int × Cp)} {most : Int} (h : Rl w ft al lm L) (r : CRel w ft al x y) : Rl w ft al (putF most lm k x) (putF most L k y) := by
  unfold putF
  rw [has_keys h.keys, h.len]
  split
  · exact h.put k r
  · exact h
theorem rows_after {lp : Option Addr} {lc gt : Nat} {rt rt' : List Nat} {lm : List (Int × Cl)} {w27 : World} (t9 : PCa w g ft al S lp lc gt rt lm) (r9 : CRel w ft al x y)
    (t27 : T_CB w27 (at0 gt 0) rt' S.c.calls (putF S.c.calls lm (keyOf y.to y.num) x)) (f27 : Fr rt w w27) (e27 : ∀ x ∈ rt', x ∈ rt ∨ w.heap.size ≤ x) :
    PC w27 g (g :: (fbl lp ++ rt')) (al ++ rt') (putC S y) ∧ Fr ft w w27 ∧ (∀ x ∈ g :: (fbl lp ++ rt'), x ∈ ft ∨ w.heap.size ≤ x) ∧ (∀ x ∈ al ++ rt', x ∈ al ∨ w.heap.size ≤ x) := by
  have hrt : ∀ x ∈ rt, x ∈ ft := fun x hx => by rw [t9.foot]; simp [hx]
  have f27' : Fr ft w w27 := f27.mono hrt
  have nft : ∀ k ∈ al, k ∉ ft → k ∉ g :: (fbl lp ++ rt') := fun k hk hn hm => by
    rcases List.mem_cons.1 hm with h | h
    · exact hn (by rw [t9.foot, h]; simp)
    · rcases List.mem_append.1 h with h | h
      · exact hn (by rw [t9.foot]; simp [h])
      · rcases e27 k h with h' | h'
        · exact hn (hrt k h')
        · have := t9.lt k hk; omega
  have rel' : Rl w27 (g :: (fbl lp ++ rt')) (al ++ rt') (putF S.c.calls lm (keyOf y.to y.num) x) (putF S.c.calls S.l (keyOf y.to y.num) y) :=
    ((putF_Rl (most := S.c.calls) (k := keyOf y.to y.num) t9.rel r9).keep f27' (fun k hk hn => hn)).mono nft (fun k hk _ => by simp [hk])
  have hz27 := f27.size
  have gll : g < w.heap.size := t9.blk.lt
  refine ⟨⟨lp, lc, gt, rt', _, t9.blk.keep f27 t9.gr, t9.lat.keep f27 (fun x hx => t9.lr x hx), t27, rel', rfl, t9.gl, fun hm => ?_, fun x hx hm => ?_, fun x hx => ?_, fun x hx => ?_, t9.ll⟩, f27', fun x hx => ?_, fun x hx => ?_⟩
  · rcases e27 g hm with h | h
    · exact t9.gr h
    · omega
  · rcases e27 x hm with h | h
    · exact t9.lr x hx h
    · have := t9.lat.lt x hx; omega
  · rcases List.mem_cons.1 hx with h | h
    · rw [h]; exact List.mem_append.2 (.inl (t9.sub g (by rw [t9.foot]; simp)))
    · rcases List.mem_append.1 h with h | h
      · exact List.mem_append.2 (.inl (t9.sub x (by rw [t9.foot]; simp [h])))
      · exact List.mem_append.2 (.inr h)
  · rcases List.mem_append.1 hx with h | h
    · have := t9.lt x h; omega
    · exact t27.lt x h
  · rcases List.mem_cons.1 hx with h | h
    · exact .inl (by rw [t9.foot, h]; simp)
    · rcases List.mem_append.1 h with h | h
      · exact .inl (by rw [t9.foot]; simp [h])
      · rcases e27 x h with h' | h'
        · exact .inl (hrt x h')
        · exact .inr (by omega)
  · rcases List.mem_append.1 hx with h | h
    · exact .inl h
    · rcases e27 x h with h' | h'
      · exact .inl (t9.sub x (hrt x h'))
      · exact .inr (by omega)
theorem rowsPut {lp : Option Addr} {lc gt : Nat} {rt : List Nat} {lm : List (Int × Cl)} (t9 : PCa w g ft al S lp lc gt rt lm) (r9 : CRel w ft al x y) (hK : ∀ b, AftC w g ft al (putC S y) (.bool b) Q) :
    CallR Try.prog 62 #[.pointer (some (at0 gt 0)), .int .u64 (keyOf y.to y.num), x.val] w Q := by
  refine put_CB t9.tab (fun h1 h2 w27 f27 => ?_) (fun h1 rt' w27 t27 f27 e27 => ?_)
  · have : putF S.c.calls lm (keyOf y.to y.num) x = lm := by unfold putF; rw [if_neg (by simp [h1]; omega)]
    obtain ⟨a1, a2, a3, a4⟩ := rows_after t9 r9 (rt' := rt) (by rw [this]; exact t9.tab.keep' f27) f27.any (fun x hx => .inl hx)
    exact hK false _ _ w27 a1 a2 a3 a4
  · have : putF S.c.calls lm (keyOf y.to y.num) x = put ilt lm (keyOf y.to y.num) x := by unfold putF; rw [if_pos h1]
    obtain ⟨a1, a2, a3, a4⟩ := rows_after t9 r9 (rt' := rt') (by rw [this]; exact t27) f27 e27
    exact hK true _ _ w27 a1 a2 a3 a4
theorem PCa.keep' {lp : Option Addr} {lc gt : Nat} {rt : List Nat} {lm : List (Int × Cl)} (t' : PCa w g ft al S lp lc gt rt lm) (f9 : Fr [] w w') : PCa w' g ft al S lp lc gt rt lm :=
  ⟨t'.blk.keep' f9, t'.lat.keep' f9, t'.tab.keep' f9, t'.rel.keep f9 (fun _ _ _ hm => by cases hm), t'.foot, t'.gl, t'.gr, t'.lr, t'.sub, fun x hx => (by have := t'.lt x hx; have := f9.size; omega), t'.ll⟩
theorem put_spec (t : PC w g ft al S) (r : CRel w ft al x y) (hK : AftC w g ft al (putC S y) (.tuple #[]) Q) : CallR Try.prog 33 #[.pointer (some (at0 g 0)), x.val] w Q := by
  apply X33.sound
  unfold X33.f
  simp only [optP_some]
  have e12 : x.to = y.to ∧ x.num = y.num := by
    obtain ⟨rp, rc, sp, sc, hx, _⟩ := r.ex
    rw [hx]; exact ⟨rfl, rfl⟩
  refine newB fun g1 w2 b f hg => drawn fun w3 f3 _ => ?_
  have b : Blk w2 g1 x.cells 44 := b
  have f03 := f.tr f3
  have t3 := t.keep' f03
  have b3 := b.keep' f3
  obtain ⟨lp, lc, gt, rt, lm, t'⟩ := t3
  refine ld_ptr (t'.blk.cat 25 _ rfl) (ld_int (b3.cat 0 _ rfl) (ld_int (b3.cat 1 _ rfl) (key_spec fun w9 f9 => ⟨_, rfl, ⟨t'.blk.cat 25 _ rfl, (t'.blk.keep' f9).cat 25 _ rfl⟩, ?_⟩)))
  have b9 := b3.keep' f9
  have F9 := f03.tr f9
  refine ld_Cl (s := x) b9.cat ⟨⟨b3.cat, b9.cat⟩, ?_⟩
  rw [show keyOf x.to x.num = keyOf y.to y.num by rw [e12.1, e12.2]]
  have hK9 : AftC w9 g ft al (putC S y) (.tuple #[]) Q := hK.next F9.any (fun x hx => .inl hx) (fun x hx => .inl hx)
  refine rowsPut (t'.keep' f9) (r.keep' F9) fun b => ?_
  intro ft' al' w27 t27 f27 e27 e28
  exact ⟨b, rfl, hK9 ft' al' w27 t27 f27 e27 e28⟩
/-- the rows' own Drop -/
theorem drop_spec {gt : Nat} {lp : Option Addr} {lc : Nat} {rt : List Nat} {lm : List (Int × Cl)} (t' : PCa w g ft al S lp lc gt rt lm) (hK : ∀ b, AftC w g ft al (dropC S k) (.bool b) Q) : CallR Try.prog 40 #[.pointer (some (at0 gt 0)), .int .u64 k] w Q := by
  have hrt : ∀ x ∈ rt, x ∈ ft := fun x hx => by rw [t'.foot]; simp [hx]
  refine drop_CB t'.tab fun w4 t4 f4 => ?_
  have f4' : Fr ft w w4 := f4.mono hrt
  have hz := f4.size
  refine hK _ ft al w4 ⟨lp, lc, gt, rt, _, t'.blk.keep f4 t'.gr, t'.lat.keep f4 (fun x hx => t'.lr x hx), t4, ((t'.rel.drp k).keep f4' (fun k hk hn => hn)), t'.foot, t'.gl, t'.gr, t'.lr, t'.sub, fun x hx => (by have := t'.lt x hx; omega), t'.ll⟩ f4' (fun x hx => .inl hx) (fun x hx => .inl hx)
end
end Go.Proofs.YtdgoalhnkegbmaaX
