/- What the claim needs of the calculus and of the walks, part 4: PCallF L20Base L20Ops L20Begin L20Step L20Reply XRows L20All L20Config L20New XLies XSized MLies XT3 L20Known L20Ends L20Held L20Late L20HeldR L20Args L20Sends. -/
import Derived.SizedLaws
import Derived.ChangeSlices
import Derived.Deep.Slices
import Derived.Test.YtdgoalhnkegbmaaGreatC3
namespace Go.Proofs.YtdgoalhnkegbmaaGreatX
open Go.RowKit
set_option linter.unusedVariables false
set_option linter.unusedSimpArgs false
def pastB (a span now : Int) : Bool := if now ≥ a then decide (IntKind.wrap .u64 (now - a) ≥ span) else false
def waitN (wait first most : Int) : Int := if wait = 0 then min2 first most else if wait > IntKind.wrap .u64 (Int.tdiv most 2) then most else IntKind.wrap .u64 (2 * wait)
def keyOf (nd sr : Int) : Int := iOr .u64 (iShl .u64 (IntKind.wrap .u64 nd) 56) sr
structure Cs where
  c : Cfg
  node : Int
  first : Int
  latest : List Int
  last : Int
  l : List (Int × Cp)
abbrev yZero : Cp := ⟨0, 0, 0, 0, 0, 0, [], 0, 0, 0, [], 0, 0, 0, 0⟩
def putF {β : Type} (most : Int) (l : List (Int × β)) (k : Int) (v : β) : List (Int × β) := if has ilt l k = true ∨ (l.length : Int) < most then put ilt l k v else l
def putC (S : Cs) (y : Cp) : Cs := { S with l := putF S.c.calls S.l (keyOf y.to y.num) y }
def dropC (S : Cs) (k : Int) : Cs := { S with l := drp ilt S.l k }
def otherB (S : Cs) (n : Int) : Bool := if n ≥ 1 then if n ≤ S.c.nodes then n != S.node else false else false
def getC (S : Cs) (to num : Int) : Option Cp := if otherB S to = false ∨ num > 72057594037927935 then none else get ilt S.l (keyOf to num)
def latestOf (S : Cs) (to : Int) : Int := (S.latest[to.toNat]?).getD 0
def floorC (S : Cs) (to : Int) : Int := if otherB S to = false then 0 else match next ilt S.l (keyOf to 0) with
  | none => IntKind.wrap .u64 (latestOf S to + 1)
  | some k => if IntKind.wrap .i64 (iShr .u64 k 56) ≠ to then IntKind.wrap .u64 (latestOf S to + 1) else iAnd .u64 k 72057594037927935
def noneB (tn ts : Int) : Bool := (tn == 0) && (ts == 0)
/-- Begin, r: may the request be -/
def beginS (S : Cs) (r : Bool) (to op field tn ts value : Int) (refs : List (Int × Int)) (now : Int) : Cs × Int × Int :=
  if to > S.c.nodes ∨ r = false ∨ (noneB tn ts = false ∧ tn ≠ to) then (S, 0, 1)
  else if (S.l.length : Int) ≥ S.c.calls ∨ IntKind.wrap .u64 (IntKind.wrap .u64 (latestOf S to + 1) - floorC S to) ≥ IntKind.wrap .u64 S.c.window then (S, 0, 6)
  else if latestOf S to = 72057594037927935 then (S, 0, 7)
  else (putC { S with latest := S.latest.set to.toNat (IntKind.wrap .u64 (latestOf S to + 1)) } ⟨to, IntKind.wrap .u64 (latestOf S to + 1), op, field, tn, ts, refs, value, 1, 0, [], 0, now, 0, now⟩, IntKind.wrap .u64 (latestOf S to + 1), 0)
def sendsB (S : Cs) (y : Cp) (now : Int) : Bool := (decide (y.state = 1 ∨ y.state = 4)) && pastB y.sent y.wait now
def againS (S : Cs) (y : Cp) (now : Int) : Cp := { y with sent := now, wait := waitN y.wait S.c.wait S.c.most }
def stepC (S : Cs) (now : Int) : Cs × Cp × Bool := match after ilt S.l S.last with
  | none => (S, yZero, false)
  | some k => if sendsB S ((get ilt S.l k).getD yZero) now then (putC { S with last := k } (againS S ((get ilt S.l k).getD yZero) now), (get ilt S.l k).getD yZero, true) else ({ S with last := k }, (get ilt S.l k).getD yZero, false)
/-- Reply: the table then, what is to be taken, is it acknowledged -/
def replyC (S : Cs) (kind to frm call code value : Int) (refs : List (Int × Int)) : Cs × List (Int × Int) × Bool :=
  if kind ≠ 2 ∨ to ≠ S.node ∨ otherB S frm = false then (S, [], false)
  else match getC S frm call with
    | none => (S, [], decide (call > S.first) && decide (call ≤ latestOf S frm))
    | some y => if y.state = 1 then (putC S { y with state := 2, code := code, back := value, result := refs }, refs, false)
      else if y.state = 4 then (dropC S (keyOf y.to y.num), [], true) else if y.state = 3 then (S, [], true) else (S, [], false)
def settleC (S : Cs) (to num e : Int) : Cs × Bool := match getC S to num with
  | none => (S, false)
  | some y => if y.state ≠ 2 then (S, false) else (putC S (if e ≠ 0 then { y with state := 3, code := e, back := 0, result := [] } else { y with state := 3 }), true)
def awaitC (S : Cs) (to num now : Int) : Cs × Cp × Bool × Int := match getC S to num with
  | none => (S, yZero, false, 5)
  | some y => if y.state = 4 then (S, yZero, false, 5) else if y.state = 3 then (dropC S (keyOf to num), y, false, 0)
    else if pastB y.born S.c.patience now = false then (S, yZero, false, 8) else if y.state = 2 then (dropC S (keyOf to num), yZero, true, 3)
    else (putC S { y with state := 4 }, yZero, false, 3)
def openB (y : Cp) : Bool := decide (y.state = 1 ∨ y.state = 4)
def heldOf (y : Cp) : List (Int × Int) := (if openB y then (y.tn, y.ts) :: y.refs else y.result).filter fun x => !noneB x.1 x.2
def heldC (S : Cs) : List (Int × Int) := S.l.flatMap fun e => heldOf e.2
def pinnedC (S : Cs) (x : Int × Int) : Bool := S.l.any fun e => openB e.2 && e.2.refs.any fun z => decide (z = x) && !noneB z.1 z.2
end Go.Proofs.YtdgoalhnkegbmaaGreatX
namespace Go.Proofs.YtdgoalhnkegbmaaGreatX
open Go.RowKit
set_option linter.unusedVariables false
set_option linter.unusedSimpArgs false
set_option maxRecDepth 100000
theorem rowT38 : RowT Tryz.prog 38 37 2 16 := ⟨by kernel_rfl, ⟨Tryz.t37, Value.agg #[.int .i64 0, .int .u64 0], by kernel_rfl, by kernel_rfl, by kernel_rfl, by kernel_rfl, by kernel_rfl⟩, by omega⟩
theorem isS37 : isStruct Tryz.prog 37 := ⟨_, Tryz.underlying37⟩
abbrev clZ : Cl := ⟨0, 0, 0, 0, 0, 0, none, 0, 0, 0, 0, 0, none, 0, 0, 0, 0, 0, 0⟩
theorem At.sub {w : World} {p : Addr} {cs : List Value} (h : At w p cs) (i j : Nat) {u : Value} (hu : cs[i + j]? = some u) : w.cell? ((p.add i).add j) = some u := by rw [add_add]; exact h _ _ hu
theorem Blk.off1 {w w' : World} {cs : List Value} {e : TypeId} {x y : Nat} (b : Blk w x cs e) (hne : x ≠ y) (f : Fr [y] w w') : Blk w' x cs e := b.keep f (by simpa using hne)
theorem idc_one (l : List (Int × Int)) : ∀ u ∈ l.flatMap idc, u.oneCell' = true := by
  intro u hu
  obtain ⟨x, _, hx⟩ := List.mem_flatMap.1 hu
  simp at hx
  rcases hx with rfl | rfl <;> rfl
def ccells (S : Cs) (lp : Option Addr) (lc gt : Nat) : List Value := S.c.cells ++ [.int .i64 S.node, .int .u64 S.first, .slice lp S.latest.length lc, .pointer (some (at0 gt 0)), .int .u64 S.last]
structure PCa (w : World) (g : Nat) (ft al : List Nat) (S : Cs) (lp : Option Addr) (lc gt : Nat) (rt : List Nat) (lm : List (Int × Cl)) : Prop where
  blk : Blk w g (ccells S lp lc gt) 53
  lat : Own 22 1 w lp S.latest.length lc (S.latest.map (Value.int .u64))
  tab : T_CB w (at0 gt 0) rt S.c.calls lm
  rel : Rl w ft al lm S.l
  foot : ft = g :: (fbl lp ++ rt)
  gl : g ∉ fbl lp
  gr : g ∉ rt
  lr : ∀ x ∈ fbl lp, x ∉ rt
  sub : ∀ x ∈ ft, x ∈ al
  lt : ∀ x ∈ al, x < w.heap.size
  ll : (S.latest.length : Int) = S.c.nodes + 1
def PC (w : World) (g : Nat) (ft al : List Nat) (S : Cs) : Prop := ∃ lp lc gt rt lm, PCa w g ft al S lp lc gt rt lm
section
variable {w w' W : World} {Q : Value → World → Prop} {g gs : Nat} {ft al ft' al' F : List Nat} {S S' : Cs} {k to num now : Int} {x : Cl} {y : Cp}
theorem PC.keep (t : PC w g ft al S) (f : Fr F w w') (hd : ∀ x ∈ al, x ∉ F) : PC w' g ft al S := by
  obtain ⟨lp, lc, gt, rt, lm, t⟩ := t
  have hf : ∀ x ∈ ft, x ∉ F := fun x hx => hd x (t.sub x hx)
  have hz := f.size
  refine ⟨lp, lc, gt, rt, lm, t.blk.keep f (hf g (by rw [t.foot]; simp)), t.lat.keep f (fun x hx => hf x (by rw [t.foot]; simp [hx])), t.tab.keep f (fun x hx => hf x (by rw [t.foot]; simp [hx])), t.rel.keep f (fun x hx _ => hd x hx), t.foot, t.gl, t.gr, t.lr, t.sub, fun x hx => (by have := t.lt x hx; omega), t.ll⟩
theorem PC.keep' (t : PC w g ft al S) (f : Fr [] w w') : PC w' g ft al S := t.keep f (by simp)
theorem PC.off (t : PC w g ft al S) {x : Nat} (hx : x ∉ al) (f : Fr [x] w w') : PC w' g ft al S := t.keep f (fun y hy hm => hx (by simp at hm; rwa [← hm]))
theorem PC.lt (t : PC w g ft al S) : ∀ x ∈ al, x < w.heap.size := by
  obtain ⟨lp, lc, gt, rt, lm, t⟩ := t
  exact t.lt
theorem PC.sub (t : PC w g ft al S) : ∀ x ∈ ft, x ∈ al := by
  obtain ⟨lp, lc, gt, rt, lm, t⟩ := t
  exact t.sub
theorem PC.fresh (t : PC w g ft al S) {x : Nat} (hx : w.heap.size ≤ x) : x ∉ al := fun hm => by have := t.lt x hm; omega
theorem PC.grow (t : PC w g ft al S) (h1 : ∀ x ∈ al, x ∈ al') (h2 : ∀ x ∈ al', x < w.heap.size) : PC w g ft al' S := by
  obtain ⟨lp, lc, gt, rt, lm, t⟩ := t
  exact ⟨lp, lc, gt, rt, lm, t.blk, t.lat, t.tab, t.rel.mono (fun k _ h => h) (fun k hk _ => h1 k hk), t.foot, t.gl, t.gr, t.lr, fun x hx => h1 x (t.sub x hx), h2, t.ll⟩
theorem PC.cfg (t : PC w g ft al S) : At w (at0 g 0) S.c.cells := by
  obtain ⟨lp, lc, gt, rt, lm, t⟩ := t
  exact t.blk.off 0 rfl
theorem PC.cfg0 (t : PC w g ft al S) : At w ((at0 g 0).add 0) S.c.cells := by rw [add_at]; exact t.cfg
theorem PC.node (t : PC w g ft al S) : w.cell? ((at0 g 0).add 22) = some (.int .i64 S.node) := by
  obtain ⟨lp, lc, gt, rt, lm, t⟩ := t
  exact t.blk.cat 22 _ rfl
theorem PC.first (t : PC w g ft al S) : w.cell? ((at0 g 0).add 23) = some (.int .u64 S.first) := by
  obtain ⟨lp, lc, gt, rt, lm, t⟩ := t
  exact t.blk.cat 23 _ rfl
theorem PC.last (t : PC w g ft al S) : w.cell? ((at0 g 0).add 26) = some (.int .u64 S.last) := by
  obtain ⟨lp, lc, gt, rt, lm, t⟩ := t
  exact t.blk.cat 26 _ rfl
theorem PC.size (t : PC w g ft al S) : (S.l.length : Int) ≤ S.c.calls ∧ S.c.calls ≤ 4096 := by
  obtain ⟨lp, lc, gt, rt, lm, t⟩ := t
  have := t.tab.size
  rw [t.rel.len] at this
  exact this
theorem PC.sorted (t : PC w g ft al S) : Srt ilt (keys S.l) := by
  obtain ⟨lp, lc, gt, rt, lm, t⟩ := t
  rw [← t.rel.keys]
  exact t.tab.sorted
/-- what a call leaves behind -/
def AftC (w : World) (g : Nat) (ft al : List Nat) (S' : Cs) (v : Value) (Q : Value → World → Prop) : Prop := ∀ ft' al' w', PC w' g ft' al' S' → Fr ft w w' → (∀ x ∈ ft', x ∈ ft ∨ w.heap.size ≤ x) → (∀ x ∈ al', x ∈ al ∨ w.heap.size ≤ x) → Q v w'
theorem AftC.same {v : Value} (h : AftC w g ft al S v Q) (t : PC w g ft al S) (f : Fr [] w w') : Q v w' := h ft al w' (t.keep' f) f.any (fun x hx => .inl hx) (fun x hx => .inl hx)
theorem AftC.next {v : Value} (h : AftC w g ft al S v Q) (f : Fr ft w w') (e : ∀ x ∈ ft', x ∈ ft ∨ w.heap.size ≤ x) (e2 : ∀ x ∈ al', x ∈ al ∨ w.heap.size ≤ x) : AftC w' g ft' al' S v Q := fun ft2 al2 w2 t2 f2 e3 e4 => h ft2 al2 w2 t2 (f.trans f2 e) (fun x hx => by
    have := f.size
    rcases e3 x hx with h' | h'
    · exact e x h'
    · exact .inr (by omega)) (fun x hx => by
    have := f.size
    rcases e4 x hx with h' | h'
    · exact e2 x h'
    · exact .inr (by omega))
theorem key_spec (hQ : ∀ w', Fr [] w w' → Q (.int .u64 (keyOf to num)) w') : CallR Tryz.prog 48 #[.int .i64 to, .int .u64 num] w Q := by
  apply X48.sound
  unfold X48.f
  refine X76.sound _ _ _ _ ?_
  unfold X76.f
  refine newB fun g w2 b f hg => ld_int (b.cat 0 _ rfl) ⟨by omega, ld_int (b.cat 1 _ rfl) ⟨_, rfl, hQ _ f⟩⟩
theorem past_spec {a span now : Int} (hQ : Q (.bool (pastB a span now)) w) : CallR Tryz.prog 43 #[.int .u64 a, .int .u64 span, .int .u64 now] w Q := by
  apply X43.sound
  unfold X43.f
  unfold pastB at hQ
  exact bc_dec (fun h => by rw [if_pos h] at hQ; exact hQ) (fun h => by rw [if_neg h] at hQ; exact hQ)
theorem wait_spec {a b c : Int} (hQ : Q (.int .u64 (waitN a b c)) w) : CallR Tryz.prog 44 #[.int .u64 a, .int .u64 b, .int .u64 c] w Q := by
  apply X44.sound
  unfold X44.f
  unfold waitN at hQ
  refine bc_eq (fun h => by rw [if_pos h] at hQ; exact hQ) (fun h => ⟨by omega, ?_⟩)
  rw [if_neg h] at hQ
  exact bc_dec (fun h => by rw [if_pos h] at hQ; exact hQ) (fun h => by rw [if_neg h] at hQ; exact hQ)
theorem other_spec (t : PC w g ft al S) (hQ : Q (.bool (otherB S to)) w) : CallR Tryz.prog 45 #[.pointer (some (at0 g 0)), .int .i64 to] w Q := by
  apply X45.sound
  unfold X45.f
  simp only [optP_some]
  unfold otherB at hQ
  refine bc_dec (fun h => ?_) (fun h => by rw [if_neg h] at hQ; exact hQ)
  rw [if_pos h] at hQ
  refine ld_int (t.cfg0 0 _ rfl) (bc_dec (fun h => ?_) (fun h => by rw [if_neg h] at hQ; exact hQ))
  rw [if_pos h] at hQ
  exact ld_int t.node hQ
theorem open_spec (hQ : ∀ w', Fr [] w w' → Q (.bool (decide (x.state = 1 ∨ x.state = 4))) w') : CallR Tryz.prog 63 #[x.val] w Q := by
  apply X63.sound
  unfold X63.f
  refine newB fun g1 w2 b f _ => ?_
  have b : Blk w2 g1 x.cells 50 := b
  have hq := hQ w2 f
  refine ld_int (b.cat 8 _ rfl) (bc_eq (fun h => ?_) (fun h => ld_int (b.cat 8 _ rfl) ?_))
  · rw [decide_eq_true (.inl h)] at hq; exact hq
  · have : (x.state == 4) = decide (x.state = 1 ∨ x.state = 4) := by by_cases h4 : x.state = 4 <;> simp [h, h4]
    rw [this]; exact hq
/-- the rows' own Get -/
theorem rowsGet {gt : Nat} {rt : List Nat} {lm : List (Int × Cl)} {L : List (Int × Cp)} (h : T_CB w (at0 gt 0) rt S.c.calls lm) (r : Rl w ft al lm L) (hno : get ilt L k = none → ∀ w', Fr [] w w' → Q (.tuple #[clZ.val, .bool false]) w')
    (hso : ∀ x y, get ilt L k = some y → CRel w ft al x y → ∀ w', Fr [] w w' → Q (.tuple #[x.val, .bool true]) w') : CallR Tryz.prog 42 #[.pointer (some (at0 gt 0)), .int .u64 k] w Q := by
  rcases r.get k with ⟨h1, h2⟩ | ⟨x, y, h1, h2, h3⟩
  · exact get_CB h (fun _ w' f => hno h2 w' f) (fun v hv => by rw [h1] at hv; cases hv)
  · exact get_CB h (fun hn => by rw [h1] at hn; cases hn) (fun v hv w' f => by rw [h1] at hv; injection hv with hv; subst hv; exact hso x y h2 h3 w' f)
theorem CRel.keep' (h : CRel w ft al x y) (f : Fr [] w w') : CRel w' ft al x y := h.keep f (fun _ _ _ hm => by cases hm)
theorem get_spec (t : PC w g ft al S) (hno : getC S to num = none → ∀ w', Fr [] w w' → Q (.tuple #[clZ.val, .bool false]) w')
    (hso : ∀ x y w', getC S to num = some y → CRel w' ft al x y → Fr [] w w' → Q (.tuple #[x.val, .bool true]) w') : CallR Tryz.prog 46 #[.pointer (some (at0 g 0)), .int .i64 to, .int .u64 num] w Q := by
  apply X46.sound
  unfold X46.f
  simp only [optP_some]
  refine newB fun g1 w2 b1 f2 h1 => other_spec (t.keep' f2) ⟨_, rfl, ?_⟩
  unfold getC at hno hso
  have z : ∀ {w4 : World}, Fr [] w w4 → Blk w4 g1 clZ.cells 50 → (otherB S to = false ∨ num > 72057594037927935) → stAll w4 (at0 g1 0) clZ.cells fun w6 => ldI .i64 w6 ((at0 g1 0).add 0) fun x7 => ldI .u64 w6 ((at0 g1 0).add 1) fun x8 => ldI .i64 w6 ((at0 g1 0).add 2) fun x9 => ldI .i64 w6 ((at0 g1 0).add 3) fun x10 => ldI .i64 w6 ((at0 g1 0).add 4) fun x11 => ldI .u64 w6 ((at0 g1 0).add 5) fun x12 => ldSl w6 ((at0 g1 0).add 6) fun x13p x13n x13c => ldI .u64 w6 ((at0 g1 0).add 7) fun x14 => ldI .i64 w6 ((at0 g1 0).add 8) fun x15 => ldI .i64 w6 ((at0 g1 0).add 9) fun x16 => ldSl w6 ((at0 g1 0).add 10) fun x17p x17n x17c => ldI .u64 w6 ((at0 g1 0).add 11) fun x18 => ldI .u64 w6 ((at0 g1 0).add 12) fun x19 => ldI .u64 w6 ((at0 g1 0).add 13) fun x20 => ldI .u64 w6 ((at0 g1 0).add 14) fun x21 => Q (.tuple #[.agg #[.int .i64 x7, .int .u64 x8, .int .i64 x9, .int .i64 x10, .int .i64 x11, .int .u64 x12, .slice x13p x13n x13c, .int .u64 x14, .int .i64 x15, .int .i64 x16, .slice x17p x17n x17c, .int .u64 x18, .int .u64 x19, .int .u64 x20, .int .u64 x21], .bool false]) w6 := by
    intro w4 f4 b4 hc
    refine stAllB (vs := clZ.cells) b4 rfl fun w6 b6 f6 => ld_Cl (s := clZ) b6.cat ?_
    rw [if_pos hc] at hno
    exact hno rfl w6 (f4.loc f6 h1)
  have b1 : Blk w2 g1 clZ.cells 50 := b1
  refine bc_bool (fun e => z f2 b1 (.inl (by simpa using e))) (fun e => bc_dec (fun e2 => z f2 b1 (.inr e2)) (fun e2 => drawn fun w38 f38 _ => ?_))
  have hn : ¬ (otherB S to = false ∨ num > 72057594037927935) := by
    rintro (h | h)
    · rw [h] at e; cases e
    · exact e2 h
  rw [if_neg hn] at hno
  have t38 := t.keep' (f2.tr f38)
  obtain ⟨lp, lc, gt, rt, lm, t'⟩ := t38
  refine ld_ptr (t'.blk.cat 25 _ rfl) (key_spec fun w42 f42 => ⟨_, rfl, ⟨t'.blk.cat 25 _ rfl, (t'.blk.keep' f42).cat 25 _ rfl⟩, ?_⟩)
  have F42 := f2.tr (f38.tr f42)
  have b42 := b1.keep' (f38.tr f42)
  refine rowsGet (t'.tab.keep' f42) (t'.rel.keep f42 (fun _ _ _ hm => by cases hm)) (fun hg w45 f45 => ?_) (fun x y hg r w45 f45 => ?_)
  · refine ⟨_, _, _, _, _, _, _, _, _, _, _, _, _, _, _, _, _, _, _, _, rfl, stAllB (vs := clZ.cells) (b42.keep' f45) rfl fun w62 b62 f62 => ld_Cl (s := clZ) b62.cat ?_⟩
    exact hno hg w62 ((F42.tr f45).loc f62 h1)
  · refine ⟨_, _, _, _, _, _, _, _, _, _, _, _, _, _, _, _, _, _, _, _, rfl, stAllB (vs := x.cells) (b42.keep' f45) rfl fun w62 b62 f62 => ld_Cl (s := x) b62.cat ?_⟩
    have hgal : g1 ∉ al := fun hm => by have := t.lt g1 hm; omega
    exact hso x y w62 (by rw [if_neg hn]; exact hg) ((r.keep' f45).keep f62 (fun k hk _ hm => hgal (by simp at hm; rw [← hm]; exact hk))) ((F42.tr f45).loc f62 h1)
theorem putF_Rl {lm : List (Int × Cl)} {L : List (Int × Cp)} {most : Int} (h : Rl w ft al lm L) (r : CRel w ft al x y) : Rl w ft al (putF most lm k x) (putF most L k y) := by
  unfold putF
  rw [has_keys h.keys, h.len]
  split
  · exact h.put k r
  · exact h
theorem rows_after {lp : Option Addr} {lc gt : Nat} {rt rt' : List Nat} {lm : List (Int × Cl)} {w27 : World} (t9 : PCa w g ft al S lp lc gt rt lm) (r9 : CRel w ft al x y)
    (t27 : T_CB w27 (at0 gt 0) rt' S.c.calls (putF S.c.calls lm (keyOf y.to y.num) x)) (f27 : Fr rt w w27) (e27 : ∀ x ∈ rt', x ∈ rt ∨ w.heap.size ≤ x) :
    PC w27 g (g :: (fbl lp ++ rt')) (al ++ rt') (putC S y) ∧ Fr ft w w27 ∧ (∀ x ∈ g :: (fbl lp ++ rt'), x ∈ ft ∨ w.heap.size ≤ x) ∧ (∀ x ∈ al ++ rt', x ∈ al ∨ w.heap.size ≤ x) := by
  have hrt : ∀ x ∈ rt, x ∈ ft := fun x hx => by rw [t9.foot]; simp [hx]
  have f27' : Fr ft w w27 := f27.mono hrt
  have nft : ∀ k ∈ al, k ∉ ft → k ∉ g :: (fbl lp ++ rt') := fun k hk hn hm => by
    rcases List.mem_cons.1 hm with h | h
    · exact hn (by rw [t9.foot, h]; simp)
    · rcases List.mem_append.1 h with h | h
      · exact hn (by rw [t9.foot]; simp [h])
      · rcases e27 k h with h' | h'
        · exact hn (hrt k h')
        · have := t9.lt k hk; omega
  have rel' : Rl w27 (g :: (fbl lp ++ rt')) (al ++ rt') (putF S.c.calls lm (keyOf y.to y.num) x) (putF S.c.calls S.l (keyOf y.to y.num) y) :=
    ((putF_Rl (most := S.c.calls) (k := keyOf y.to y.num) t9.rel r9).keep f27' (fun k hk hn => hn)).mono nft (fun k hk _ => by simp [hk])
  have hz27 := f27.size
  have gll : g < w.heap.size := t9.blk.lt
  refine ⟨⟨lp, lc, gt, rt', _, t9.blk.keep f27 t9.gr, t9.lat.keep f27 (fun x hx => t9.lr x hx), t27, rel', rfl, t9.gl, fun hm => ?_, fun x hx hm => ?_, fun x hx => ?_, fun x hx => ?_, t9.ll⟩, f27', fun x hx => ?_, fun x hx => ?_⟩
  · rcases e27 g hm with h | h
    · exact t9.gr h
    · omega
  · rcases e27 x hm with h | h
    · exact t9.lr x hx h
    · have := t9.lat.lt x hx; omega
  · rcases List.mem_cons.1 hx with h | h
    · rw [h]; exact List.mem_append.2 (.inl (t9.sub g (by rw [t9.foot]; simp)))
    · rcases List.mem_append.1 h with h | h
      · exact List.mem_append.2 (.inl (t9.sub x (by rw [t9.foot]; simp [h])))
      · exact List.mem_append.2 (.inr h)
  · rcases List.mem_append.1 hx with h | h
    · have := t9.lt x h; omega
    · exact t27.lt x h
  · rcases List.mem_cons.1 hx with h | h
    · exact .inl (by rw [t9.foot, h]; simp)
    · rcases List.mem_append.1 h with h | h
      · exact .inl (by rw [t9.foot]; simp [h])
      · rcases e27 x h with h' | h'
        · exact .inl (hrt x h')
        · exact .inr (by omega)
  · rcases List.mem_append.1 hx with h | h
    · exact .inl h
    · rcases e27 x h with h' | h'
      · exact .inl (t9.sub x (hrt x h'))
      · exact .inr (by omega)
theorem rowsPut {lp : Option Addr} {lc gt : Nat} {rt : List Nat} {lm : List (Int × Cl)} (t9 : PCa w g ft al S lp lc gt rt lm) (r9 : CRel w ft al x y) (hK : ∀ b, AftC w g ft al (putC S y) (.bool b) Q) :
    CallR Tryz.prog 71 #[.pointer (some (at0 gt 0)), .int .u64 (keyOf y.to y.num), x.val] w Q := by
  refine put_CB t9.tab (fun h1 h2 w27 f27 => ?_) (fun h1 rt' w27 t27 f27 e27 => ?_)
  · have : putF S.c.calls lm (keyOf y.to y.num) x = lm := by unfold putF; rw [if_neg (by simp [h1]; omega)]
    obtain ⟨a1, a2, a3, a4⟩ := rows_after t9 r9 (rt' := rt) (by rw [this]; exact t9.tab.keep' f27) f27.any (fun x hx => .inl hx)
    exact hK false _ _ w27 a1 a2 a3 a4
  · have : putF S.c.calls lm (keyOf y.to y.num) x = put ilt lm (keyOf y.to y.num) x := by unfold putF; rw [if_pos h1]
    obtain ⟨a1, a2, a3, a4⟩ := rows_after t9 r9 (rt' := rt') (by rw [this]; exact t27) f27 e27
    exact hK true _ _ w27 a1 a2 a3 a4
theorem PCa.keep' {lp : Option Addr} {lc gt : Nat} {rt : List Nat} {lm : List (Int × Cl)} (t' : PCa w g ft al S lp lc gt rt lm) (f9 : Fr [] w w') : PCa w' g ft al S lp lc gt rt lm :=
  ⟨t'.blk.keep' f9, t'.lat.keep' f9, t'.tab.keep' f9, t'.rel.keep f9 (fun _ _ _ hm => by cases hm), t'.foot, t'.gl, t'.gr, t'.lr, t'.sub, fun x hx => (by have := t'.lt x hx; have := f9.size; omega), t'.ll⟩
theorem put_spec (t : PC w g ft al S) (r : CRel w ft al x y) (hK : AftC w g ft al (putC S y) (.tuple #[]) Q) : CallR Tryz.prog 40 #[.pointer (some (at0 g 0)), x.val] w Q := by
  apply X40.sound
  unfold X40.f
  simp only [optP_some]
  have e12 : x.to = y.to ∧ x.num = y.num := by
    obtain ⟨rp, rc, sp, sc, hx, _⟩ := r.ex
    rw [hx]; exact ⟨rfl, rfl⟩
  refine newB fun g1 w2 b f hg => drawn fun w3 f3 _ => ?_
  have b : Blk w2 g1 x.cells 50 := b
  have f03 := f.tr f3
  have t3 := t.keep' f03
  have b3 := b.keep' f3
  obtain ⟨lp, lc, gt, rt, lm, t'⟩ := t3
  refine ld_ptr (t'.blk.cat 25 _ rfl) (ld_int (b3.cat 0 _ rfl) (ld_int (b3.cat 1 _ rfl) (key_spec fun w9 f9 => ⟨_, rfl, ⟨t'.blk.cat 25 _ rfl, (t'.blk.keep' f9).cat 25 _ rfl⟩, ?_⟩)))
  have b9 := b3.keep' f9
  have F9 := f03.tr f9
  refine ld_Cl (s := x) b9.cat ⟨⟨b3.cat, b9.cat⟩, ?_⟩
  rw [show keyOf x.to x.num = keyOf y.to y.num by rw [e12.1, e12.2]]
  have hK9 : AftC w9 g ft al (putC S y) (.tuple #[]) Q := hK.next F9.any (fun x hx => .inl hx) (fun x hx => .inl hx)
  refine rowsPut (t'.keep' f9) (r.keep' F9) fun b => ?_
  intro ft' al' w27 t27 f27 e27 e28
  exact ⟨b, rfl, hK9 ft' al' w27 t27 f27 e27 e28⟩
/-- the rows' own Drop -/
theorem drop_spec {gt : Nat} {lp : Option Addr} {lc : Nat} {rt : List Nat} {lm : List (Int × Cl)} (t' : PCa w g ft al S lp lc gt rt lm) (hK : ∀ b, AftC w g ft al (dropC S k) (.bool b) Q) : CallR Tryz.prog 47 #[.pointer (some (at0 gt 0)), .int .u64 k] w Q := by
  have hrt : ∀ x ∈ rt, x ∈ ft := fun x hx => by rw [t'.foot]; simp [hx]
  refine drop_CB t'.tab fun w4 t4 f4 => ?_
  have f4' : Fr ft w w4 := f4.mono hrt
  have hz := f4.size
  refine hK _ ft al w4 ⟨lp, lc, gt, rt, _, t'.blk.keep f4 t'.gr, t'.lat.keep f4 (fun x hx => t'.lr x hx), t4, ((t'.rel.drp k).keep f4' (fun k hk hn => hn)), t'.foot, t'.gl, t'.gr, t'.lr, t'.sub, fun x hx => (by have := t'.lt x hx; omega), t'.ll⟩ f4' (fun x hx => .inl hx) (fun x hx => .inl hx)
end
end Go.Proofs.YtdgoalhnkegbmaaGreatX
namespace Go.Proofs.YtdgoalhnkegbmaaGreatX
open Go.RowKit
set_option linter.unusedVariables false
set_option linter.unusedSimpArgs false
set_option maxRecDepth 100000
theorem ld_Mg {w : World} {p : Addr} {m : Msg} {rp lp : Option Addr} {rc lc : Nat} {K : Int → Int → Int → Int → Int → Int → Int → Int → Int → Int → Option Addr → Nat → Nat → Int → Int → Int → Int → Int → Int → Int → Option Addr → Nat → Nat → Prop} (h : At w p (m.cells rp rc lp lc))
    (hk : K m.kind m.frm m.to m.call m.floor m.op m.field m.item m.tn m.ts rp m.refs.length rc m.value m.code m.seq m.voucher m.at_ m.dist m.stamp lp m.list.length lc) :
    ldI .i64 w (p.add 0) fun x0 => ldI .i64 w (p.add 1) fun x1 => ldI .i64 w (p.add 2) fun x2 => ldI .u64 w (p.add 3) fun x3 => ldI .u64 w (p.add 4) fun x4 => ldI .i64 w (p.add 5) fun x5 => ldI .i64 w (p.add 6) fun x6 => ldI .i64 w (p.add 7) fun x7 => ldI .i64 w (p.add 8) fun x8 => ldI .u64 w (p.add 9) fun x9 => ldSl w (p.add 10) fun x10p x10n x10c => ldI .u64 w (p.add 11) fun x11 => ldI .i64 w (p.add 12) fun x12 => ldI .u64 w (p.add 13) fun x13 => ldI .i64 w (p.add 14) fun x14 => ldI .u64 w (p.add 15) fun x15 => ldI .i64 w (p.add 16) fun x16 => ldI .u64 w (p.add 17) fun x17 => ldSl w (p.add 18) fun x18p x18n x18c => K x0 x1 x2 x3 x4 x5 x6 x7 x8 x9 x10p x10n x10c x11 x12 x13 x14 x15 x16 x17 x18p x18n x18c := (ld_int (h 0 _ rfl) (ld_int (h 1 _ rfl) (ld_int (h 2 _ rfl) (ld_int (h 3 _ rfl) (ld_int (h 4 _ rfl) (ld_int (h 5 _ rfl) (ld_int (h 6 _ rfl) (ld_int (h 7 _ rfl) (ld_int (h 8 _ rfl) (ld_int (h 9 _ rfl) (ld_sl (h 10 _ rfl) (ld_int (h 11 _ rfl) (ld_int (h 12 _ rfl) (ld_int (h 13 _ rfl) (ld_int (h 14 _ rfl) (ld_int (h 15 _ rfl) (ld_int (h 16 _ rfl) (ld_int (h 17 _ rfl) (ld_sl (h 18 _ rfl) hk)))))))))))))))))))
def askM (S : Cs) (y : Cp) (fl : Int) : Msg := ⟨1, S.node, y.to, y.num, fl, y.op, y.field, 0, y.tn, y.ts, y.refs, y.value, 0, 0, 0, 0, 0, 0, []⟩
abbrev mZ : Msg := ⟨0, 0, 0, 0, 0, 0, 0, 0, 0, 0, [], 0, 0, 0, 0, 0, 0, 0, []⟩
section
variable {w w' W : World} {Q : Value → World → Prop} {g gs g5 : Nat} {ft al ft' al' F : List Nat} {S S' : Cs} {k to num now fl : Int} {x : Cl} {y : Cp} {l : List (Int × Int)} {rp sp : Option Addr} {rc sc : Nat}
/-- a row of IDs that stays while none but new blocks and those of ft change -/
def Stays (w : World) (ft : List Nat) (p : Option Addr) (l : List (Int × Int)) : Prop := ∀ F w', Fr F w w' → (∀ k ∈ F, k ∈ ft ∨ w.heap.size ≤ k) → Cells w' p (l.flatMap idc)
theorem Stays.cells (h : Stays w ft rp l) : Cells w rp (l.flatMap idc) := h [] w (Fr.refl _) (by simp)
theorem Stays.next (h : Stays w ft rp l) (f : Fr F w w') (hF : ∀ k ∈ F, k ∈ ft ∨ w.heap.size ≤ k) : Stays w' ft rp l := fun F2 w2 f2 hF2 => h (F ++ F2) w2 ((f.mono fun x hx => by simp [hx]).tr (f2.mono fun x hx => by simp [hx])) (fun k hk => by
  have := f.size
  rcases List.mem_append.1 hk with h' | h'
  · exact hF k h'
  · rcases hF2 k h' with h2 | h2
    · exact .inl h2
    · exact .inr (by omega))
theorem Stays.keep' (h : Stays w ft rp l) (f : Fr [] w w') : Stays w' ft rp l := h.next f (by simp)
theorem copyIdsC {K : Option Addr → Nat → Nat → World → Prop} (hr : Cells w rp (l.flatMap idc)) (h0 : rp = none → rc = 0) (hl : l.length ≤ 8796093022208) (b : Blk w g5 [] 37)
    (hK : ∀ p c w', IdRow w' p c l → (∀ k ∈ fbl p, k = g5 ∨ w.heap.size ≤ k) → Fr [g5] w w' → K p l.length c w') :
    RunR Tryz.prog (Builtin.append_ #[38, 38] 38 #[.slice (some (at0 g5 0)) 0 0, .slice rp l.length rc]) w fun v w' => ∃ (p : Option Addr) (n c : Nat), v = .slice p n c ∧ K p n c w' := by
  have o : Own 37 2 w (some (at0 g5 0)) 0 0 [] := own_blk b rfl (Nat.le_refl _) (by simp [maxLen]) rfl
  refine app_own rowT38 o hr (flat_length idc_len l) h0 (idc_one l) (by simp only [maxLen]; omega) (by omega) ?_
  intro p c w2 o2 f2 e2
  rw [Nat.zero_add, List.nil_append] at o2
  rw [Nat.zero_add]
  exact ⟨p, _, c, rfl, hK p c w2 o2 (fun k hk => by
    rcases e2 k hk with h | h
    · exact .inl (by simpa [fbl, at0] using h)
    · exact .inr h) (f2.mono fun x hx => by simpa [fbl, at0] using hx)⟩
theorem copyIds {K : Option Addr → Nat → Nat → World → Prop} (hr : IdRow w rp rc l) (hl : l.length ≤ 8796093022208) (b : Blk w g5 [] 37)
    (hK : ∀ p c w', IdRow w' p c l → (∀ k ∈ fbl p, k = g5 ∨ w.heap.size ≤ k) → Fr [g5] w w' → K p l.length c w') :
    RunR Tryz.prog (Builtin.append_ #[38, 38] 38 #[.slice (some (at0 g5 0)) 0 0, .slice rp l.length rc]) w fun v w' => ∃ (p : Option Addr) (n c : Nat), v = .slice p n c ∧ K p n c w' :=
  copyIdsC hr.cells (fun h => by subst h; exact hr.none_c.2.1) hl b hK
theorem IdRow.off (r : IdRow w rp rc l) {x : Nat} (hx : x ∉ fbl rp) (f : Fr [x] w w') : IdRow w' rp rc l := r.keep f (fun k hk hm => hx (by simp at hm; rwa [← hm]))
theorem twin_spec (hr : IdRow w rp rc y.refs) (hs : IdRow w sp sc y.result) (l1 : y.refs.length ≤ 8796093022208) (l2 : y.result.length ≤ 8796093022208)
    (hQ : ∀ rp' rc' sp' sc' w', IdRow w' rp' rc' y.refs → IdRow w' sp' sc' y.result → Fr [] w w' → (∀ k ∈ fbl rp', w.heap.size ≤ k) → (∀ k ∈ fbl sp', w.heap.size ≤ k) → Q (y.cl rp' rc' sp' sc').val w') :
    CallR Tryz.prog 36 #[(y.cl rp rc sp sc).val] w Q := by
  apply X36.sound
  unfold X36.f
  refine newB fun g1 w2 b1 f2 h1 => newB fun g3 w4 b3 f4 h3 => newB fun g5 w6 b5 f6 h5 => ?_
  have b1 : Blk w2 g1 (y.cl rp rc sp sc).cells 50 := b1
  have F6 := (f2.tr f4).tr f6
  have z2 := f2.size
  have z4 := f4.size
  have z6 := f6.size
  have l1' := b1.lt
  have l3' := b3.lt
  have b16 := b1.keep' (f4.tr f6)
  refine ld_sl (b16.cat 6 _ rfl) (copyIds (hr.keep' F6) (by omega) b5 fun rp' rc' w9 r9 n9 f9 => ?_)
  have b19 := b16.off1 (by omega) f9
  have b39 := (b3.keep' f6).off1 (by omega) f9
  have F9 := F6.loc f9 (by omega)
  have z9 := f9.size
  have nr : ∀ k ∈ fbl rp', w.heap.size ≤ k ∧ k ≠ g1 ∧ k ≠ g3 := fun k hk => by
    have := n9 k hk
    omega
  refine stB b19 (by rw [Cl.len]; omega) fun w11 b111 f11 => ?_
  have b111 : Blk w11 g1 (y.cl rp' rc' sp sc).cells 50 := b111
  have F11 := F9.loc f11 h1
  have b311 := b39.off1 (by omega) f11
  have r11 := IdRow.off r9 (fun hm => (nr _ hm).2.1 rfl) f11
  have z11 := f11.size
  refine newB fun g12 w13 b12 f13 h12 => ?_
  have F13 := F11.tr f13
  have b113 := b111.keep' f13
  have hs13 := hs.keep' F13
  refine ld_sl (b113.cat 10 _ rfl) (copyIds hs13 (by omega) b12 fun sp' sc' w16 s16 n16 f16 => ?_)
  have z13 := f13.size
  have F16 := F13.loc f16 (by omega)
  have b116 := b113.off1 (by omega) f16
  have b316 := (b311.keep' f13).off1 (by omega) f16
  have l9 := r9.lt
  have r16 := IdRow.off (r11.keep' f13) (fun hm => by have := l9 g12 hm; omega) f16
  have ns : ∀ k ∈ fbl sp', w.heap.size ≤ k ∧ k ≠ g1 ∧ k ≠ g3 := fun k hk => by
    have := n16 k hk
    omega
  refine stB b116 (by rw [Cl.len]; omega) fun w18 b118 f18 => ?_
  have b118 : Blk w18 g1 (y.cl rp' rc' sp' sc').cells 50 := b118
  have F18 := F16.loc f18 h1
  have b318 := b316.off1 (by omega) f18
  have r18 := IdRow.off r16 (fun hm => (nr _ hm).2.1 rfl) f18
  have s18 := IdRow.off s16 (fun hm => (ns _ hm).2.1 rfl) f18
  refine ld_Cl (s := y.cl rp' rc' sp' sc') b118.cat (stAllB (vs := (y.cl rp' rc' sp' sc').cells) b318 rfl fun w34 b34 f34 => ld_Cl (s := y.cl rp' rc' sp' sc') b34.cat ?_)
  exact hQ rp' rc' sp' sc' w34 (IdRow.off r18 (fun hm => (nr _ hm).2.2 rfl) f34) (IdRow.off s18 (fun hm => (ns _ hm).2.2 rfl) f34) (F18.loc f34 (by omega)) (fun k hk => (nr k hk).1) (fun k hk => (ns k hk).1)
theorem asks_spec (t : PC w g ft al S) (hr : IdRow w rp rc y.refs) (l1 : y.refs.length ≤ 8796093022208)
    (hQ : ∀ rp' rc' w', IdRow w' rp' rc' y.refs → Fr [] w w' → (∀ k ∈ fbl rp', w.heap.size ≤ k) → Q (msgV (askM S y fl) rp' rc' none 0) w') :
    CallR Tryz.prog 38 #[.pointer (some (at0 g 0)), (y.cl rp rc sp sc).val, .int .u64 fl] w Q := by
  apply X38.sound
  unfold X38.f
  simp only [optP_some]
  refine newB fun g1 w2 b1 f2 h1 => newB fun g3 w4 b3 f4 h3 => drawn fun w5 f5 _ => ?_
  have b1 : Blk w2 g1 (y.cl rp rc sp sc).cells 50 := b1
  have F5 := (f2.tr f4).tr f5
  have t5 := t.keep' F5
  have c5 := (b1.keep' (f4.tr f5)).cat
  have l1' := b1.lt
  have l3' := b3.lt
  have z2 := f2.size
  have z4 := f4.size
  have z5 := f5.size
  have ids : ∀ {w : World}, At w (at0 g1 0) (y.cl rp rc sp sc).cells → ∀ j u, ([.int .i64 y.tn, .int .u64 y.ts] : List Value)[j]? = some u → w.cell? (((at0 g1 0).add 4).add j) = some u := fun b j u hj => by
    refine b.sub 4 j ?_
    match j, hj with
    | 0, hj => exact hj
    | 1, hj => exact hj
  refine ld_int t5.node (ld_int (c5 0 _ rfl) (ld_int (c5 1 _ rfl) (ld_int (c5 2 _ rfl) (ld_int (c5 3 _ rfl) (ld_int (c5.sub 4 0 rfl) (ld_int (c5.sub 4 1 rfl) (ld_int (c5 7 _ rfl) (newB fun g15 w16 b15 f16 h15 => ?_))))))))
  have b16 := b1.keep' (f4.tr (f5.tr f16))
  have c16 := b16.cat
  have t16 := t5.keep' f16
  refine ⟨⟨c5 7 _ rfl, c16 7 _ rfl⟩, ⟨ids c5, ids c16⟩, ⟨c5 3 _ rfl, c16 3 _ rfl⟩, ⟨c5 2 _ rfl, c16 2 _ rfl⟩, ⟨c5 1 _ rfl, c16 1 _ rfl⟩, ⟨c5 0 _ rfl, c16 0 _ rfl⟩, ⟨t5.node, t16.node⟩, ?_⟩
  have F16 := F5.tr f16
  have l15 := b15.lt
  refine ld_sl (c16 6 _ rfl) ⟨⟨c5 6 _ rfl, c16 6 _ rfl⟩, copyIds (hr.keep' F16) (by omega) b15 fun rp' rc' w19 r19 n19 f19 => ?_⟩
  have b19 := b16.off1 (by omega) f19
  have c19 := b19.cat
  have t19 := t16.off (fun hm => by have := t.lt _ hm; omega) f19
  refine ⟨⟨c16 7 _ rfl, c19 7 _ rfl⟩, ⟨ids c16, ids c19⟩, ⟨c16 3 _ rfl, c19 3 _ rfl⟩, ⟨c16 2 _ rfl, c19 2 _ rfl⟩, ⟨c16 1 _ rfl, c19 1 _ rfl⟩, ⟨c16 0 _ rfl, c19 0 _ rfl⟩, ⟨t16.node, t19.node⟩, ?_⟩
  have F19 := F16.loc f19 (by omega)
  have b319 := (b3.keep' (f5.tr f16)).off1 (by omega) f19
  have z16 := f16.size
  have nr : ∀ k ∈ fbl rp', w.heap.size ≤ k ∧ k ≠ g3 := fun k hk => by
    have := n19 k hk
    omega
  refine stAllB (vs := (askM S y fl).cells rp' rc' none 0) b319 rfl fun w21 b21 f21 => ld_Mg (m := askM S y fl) (rp := rp') (rc := rc') (lp := none) (lc := 0) b21.cat ?_
  exact hQ rp' rc' w21 (IdRow.off r19 (fun hm => (nr _ hm).2 rfl) f21) (F19.loc f21 (by omega)) (fun k hk => (nr k hk).1)
/-- a node's latest number, as it lies -/
theorem PCa.latest {lp : Option Addr} {lc gt : Nat} {rt : List Nat} {lm : List (Int × Cl)} (t : PCa w g ft al S lp lc gt rt lm) (h : otherB S to = true) : 0 ≤ to ∧ to < (S.latest.length : Int) ∧ ∃ a, lp = some a ∧ w.cell? (a.add (to.toNat * 1)) = some (.int .u64 (latestOf S to)) := by
  have hl := t.ll
  have h2 : 1 ≤ to ∧ to ≤ S.c.nodes := by
    unfold otherB at h
    by_cases a1 : to ≥ 1
    · rw [if_pos a1] at h
      by_cases a2 : to ≤ S.c.nodes
      · exact ⟨a1, a2⟩
      · rw [if_neg a2] at h; cases h
    · rw [if_neg a1] at h; cases h
  have hlt : to.toNat < S.latest.length := by omega
  obtain ⟨a, ha, hc⟩ := t.lat.cells to.toNat (.int .u64 S.latest[to.toNat]) (by rw [List.getElem?_map, List.getElem?_eq_getElem hlt]; rfl)
  refine ⟨by omega, by omega, a, ha, ?_⟩
  rw [Nat.mul_one, hc]
  unfold latestOf
  rw [List.getElem?_eq_getElem hlt]
  rfl
theorem floor_spec (t : PC w g ft al S) (hQ : ∀ w', Fr [] w w' → Q (.int .u64 (floorC S to)) w') : CallR Tryz.prog 31 #[.pointer (some (at0 g 0)), .int .i64 to] w Q := by
  apply X31.sound
  unfold X31.f
  simp only [optP_some]
  unfold floorC at hQ
  refine other_spec t ⟨_, rfl, bc_bool (fun e => ?_) (fun e => ?_)⟩
  · rw [if_pos (by simpa using e)] at hQ
    exact hQ w (Fr.refl _)
  have ho : otherB S to = true := by simpa using e
  rw [if_neg (by simp [ho])] at hQ
  refine drawn fun w4 f4 _ => ?_
  obtain ⟨lp, lc, gt, rt, lm, t'⟩ := t.keep' f4
  refine ld_ptr (t'.blk.cat 25 _ rfl) (key_spec fun w8 f8 => ⟨_, rfl, ⟨t'.blk.cat 25 _ rfl, (t'.blk.keep' f8).cat 25 _ rfl⟩, ?_⟩)
  have t8 := t'.keep' f8
  obtain ⟨h0, h1, a, ha, hc⟩ := t8.latest ho
  have F8 := f4.tr f8
  have hnx := next_keys t8.rel.keys (keyOf to 0)
  refine next_CB t8.tab ⟨_, _, rfl, ?_⟩
  rw [hnx]
  cases hn : next ilt S.l (keyOf to 0) with
  | none =>
    rw [hn] at hQ
    refine bc_bool (fun _ => ld_sl (t8.blk.cat 24 _ rfl) ⟨⟨h0, h1⟩, opt_some ha (ld_int hc (hQ w8 F8))⟩) (fun e => by cases e)
  | some kk =>
    rw [hn] at hQ
    simp only at hQ
    refine bc_bool (fun e => by cases e) (fun _ => ⟨by omega, bc_ne (fun hh => ?_) (fun hh => ?_)⟩)
    · rw [if_pos (show IntKind.wrap .i64 (iShr .u64 kk 56) ≠ to from hh)] at hQ
      exact ld_sl (t8.blk.cat 24 _ rfl) ⟨⟨h0, h1⟩, opt_some ha (ld_int hc (hQ w8 F8))⟩
    · rw [if_neg (fun hn => hn (show IntKind.wrap .i64 (iShr .u64 kk 56) = to from hh))] at hQ
      exact hQ w8 F8
end
end Go.Proofs.YtdgoalhnkegbmaaGreatX
namespace Go.Proofs.YtdgoalhnkegbmaaGreatX
open Go.RowKit
set_option linter.unusedVariables false
set_option linter.unusedSimpArgs false
set_option maxRecDepth 100000
def newY (to op field tn ts value : Int) (refs : List (Int × Int)) (now : Int) : Cp := ⟨to, 1, op, field, tn, ts, refs, value, 1, 0, [], 0, now, 0, now⟩
def idcs (nd sr : Int) : List Value := [.int .i64 nd, .int .u64 sr]
section
variable {w w' W : World} {Q : Value → World → Prop} {g gs gx : Nat} {ft al ft' al' F : List Nat} {S S' : Cs} {k to num now fl op field tn ts value : Int} {x : Cl} {y : Cp} {refs : List (Int × Int)} {rp sp : Option Addr} {rc sc : Nat}
theorem PCa.pc {lp : Option Addr} {lc gt : Nat} {rt : List Nat} {lm : List (Int × Cl)} (t : PCa w g ft al S lp lc gt rt lm) : PC w g ft al S := ⟨lp, lc, gt, rt, lm, t⟩
theorem PCa.stLatest {lp : Option Addr} {lc gt : Nat} {rt : List Nat} {lm : List (Int × Cl)} {a : Addr} {v : Int} {K : World → Prop} (t : PCa w g ft al S lp lc gt rt lm) (h0 : 0 ≤ to) (h1 : to < (S.latest.length : Int)) (ha : lp = some a)
    (hK : ∀ w', PCa w' g ft al { S with latest := S.latest.set to.toNat v } lp lc gt rt lm → Fr ft w w' → K w') : stK w (a.add (to.toNat * 1)) (.int .u64 v) K := by
  rw [Nat.mul_one]
  have hlt : to.toNat < (S.latest.map (Value.int .u64)).length := by simp; omega
  have hl := t.lat
  rw [ha] at hl
  have f : Fr [a.block] w (w.setCell (a.add to.toNat) (.int .u64 v)) := Fr.setCell (by rw [add_block]; simp) _
  have hin : a.block ∈ ft := by rw [t.foot, ha]; simp [fbl]
  have f' : Fr ft w (w.setCell (a.add to.toNat) (.int .u64 v)) := f.mono fun x hx => by simp at hx; rw [hx]; exact hin
  have nb : ∀ x, x ∉ fbl lp → x ∉ [a.block] := fun x hx hm => hx (by rw [ha]; simpa [fbl] using hm)
  refine ⟨hl.storeOk hlt, hK _ ⟨?_, ?_, t.tab.keep f (fun x hx => nb x (fun hm => t.lr x hm hx)), t.rel.keep f' (fun k hk hn => hn), t.foot, t.gl, t.gr, t.lr, t.sub, fun x hx => by have := t.lt x hx; have := f.size; omega, by simp [t.ll]⟩ f'⟩
  · have := t.blk.keep f (nb g t.gl)
    unfold ccells at this ⊢
    simpa using this
  · rw [ha]
    have := hl.set hlt (.int .u64 v)
    simp only [List.length_set, List.map_set]
    exact this
theorem crel_grow (t : PC w g ft al S) (r1 : IdRow w rp rc y.refs) (r2 : IdRow w sp sc y.result) (l1 : y.refs.length ≤ 8796093022208) (l2 : y.result.length ≤ 8796093022208) (n1 : ∀ k ∈ fbl rp, W.heap.size ≤ k) (n2 : ∀ k ∈ fbl sp, W.heap.size ≤ k) (hW : ∀ k ∈ ft, k < W.heap.size ∨ k ∉ fbl rp ∧ k ∉ fbl sp) :
    PC w g ft (al ++ fbl rp ++ fbl sp) S ∧ CRel w ft (al ++ fbl rp ++ fbl sp) (y.cl rp rc sp sc) y := by
  refine ⟨t.grow (fun x hx => by simp [hx]) (fun x hx => ?_), ⟨l1, l2, rp, rc, sp, sc, rfl, r1, r2, fun k hk => ⟨fun hm => ?_, by simp [hk]⟩, fun k hk => ⟨fun hm => ?_, by simp [hk]⟩⟩⟩
  · simp only [List.mem_append] at hx
    rcases hx with (hx | hx) | hx
    · exact t.lt x hx
    · exact r1.lt x hx
    · exact r2.lt x hx
  · rcases hW k hm with h | h
    · have := n1 k hk; omega
    · exact h.1 hk
  · rcases hW k hm with h | h
    · have := n2 k hk; omega
    · exact h.2 hk
theorem begin_j0b (t : PC w g ft al S) (ho : otherB S to = true) (bx : Blk w gx (y.cl rp rc sp sc).cells 50) (hx : gx ∉ al) (r1 : IdRow w rp rc y.refs) (r2 : IdRow w sp sc y.result) (l1 : y.refs.length ≤ 8796093022208) (l2 : y.result.length ≤ 8796093022208)
    (n1 : ∀ k ∈ fbl rp, W.heap.size ≤ k ∧ k ≠ gx) (n2 : ∀ k ∈ fbl sp, W.heap.size ≤ k ∧ k ≠ gx) (hft : ∀ k ∈ ft, k < W.heap.size) (F : Fr [] W w) (hxW : W.heap.size ≤ gx) (hto : y.to = to)
    (hK : AftC W g ft al (if (S.l.length : Int) ≥ S.c.calls ∨ IntKind.wrap .u64 (IntKind.wrap .u64 (latestOf S to + 1) - floorC S to) ≥ IntKind.wrap .u64 S.c.window then (S, (0 : Int), (6 : Int)) else if latestOf S to = 72057594037927935 then (S, 0, 7)
        else (putC { S with latest := S.latest.set to.toNat (IntKind.wrap .u64 (latestOf S to + 1)) } { y with num := IntKind.wrap .u64 (latestOf S to + 1) }, IntKind.wrap .u64 (latestOf S to + 1), 0)).1
      (.tuple #[.int .u64 (if (S.l.length : Int) ≥ S.c.calls ∨ IntKind.wrap .u64 (IntKind.wrap .u64 (latestOf S to + 1) - floorC S to) ≥ IntKind.wrap .u64 S.c.window then (S, (0 : Int), (6 : Int)) else if latestOf S to = 72057594037927935 then (S, 0, 7)
        else (putC { S with latest := S.latest.set to.toNat (IntKind.wrap .u64 (latestOf S to + 1)) } { y with num := IntKind.wrap .u64 (latestOf S to + 1) }, IntKind.wrap .u64 (latestOf S to + 1), 0)).2.1,
        .int .i64 (if (S.l.length : Int) ≥ S.c.calls ∨ IntKind.wrap .u64 (IntKind.wrap .u64 (latestOf S to + 1) - floorC S to) ≥ IntKind.wrap .u64 S.c.window then (S, (0 : Int), (6 : Int)) else if latestOf S to = 72057594037927935 then (S, 0, 7)
        else (putC { S with latest := S.latest.set to.toNat (IntKind.wrap .u64 (latestOf S to + 1)) } { y with num := IntKind.wrap .u64 (latestOf S to + 1) }, IntKind.wrap .u64 (latestOf S to + 1), 0)).2.2]) Q) :
    X13.j0 Q (some (at0 g 0)) to (at0 gx 0) false w := by
  unfold X13.j0
  simp only [optP_some]
  have done : ∀ {v : Value} {w2 : World}, AftC W g ft al S v Q → Fr [] w w2 → Q v w2 := fun hk f2 => hk ft al _ (t.keep' f2) (F.tr f2).any (fun x hx => .inl hx) (fun x hx => .inl hx)
  refine bc_bool (fun e => by cases e) (fun _ => drawn fun w1 f1 _ => ?_)
  obtain ⟨lp, lc, gt, rt, lm, t1⟩ := t.keep' f1
  have hlen := t1.rel.len
  refine ld_ptr (t1.blk.cat 25 _ rfl) (len_CB t1.tab ⟨_, rfl, ld_int (t1.pc.cfg0 6 _ rfl) ⟨⟨t1.pc.cfg0 6 _ rfl, t1.pc.cfg0 6 _ rfl⟩, bc_dec (fun h6 => ?_) (fun h6 => ?_)⟩⟩)
  · rw [if_pos (.inl (by rw [← hlen]; exact h6))] at hK
    exact done hK f1
  obtain ⟨h0, h1, a, ha, hc⟩ := t1.latest ho
  refine ld_sl (t1.blk.cat 24 _ rfl) ⟨⟨h0, h1⟩, opt_some ha (ld_int hc (floor_spec t1.pc fun w14 f14 => ⟨_, rfl, ⟨hc, f14.cell' hc⟩, ⟨t1.blk.cat 24 _ rfl, (t1.keep' f14).blk.cat 24 _ rfl⟩, ?_⟩))⟩
  have t14 := t1.keep' f14
  have hc14 := f14.cell' hc
  have F14 := f1.tr f14
  refine ld_int (t14.pc.cfg0 7 _ rfl) ⟨⟨t1.pc.cfg0 7 _ rfl, t14.pc.cfg0 7 _ rfl⟩, bc_dec (fun h7 => ?_) (fun h7 => ?_)⟩
  · rw [if_pos (.inr h7)] at hK
    exact done hK F14
  rw [if_neg (by
    rintro (h | h)
    · exact h6 (by rw [hlen]; exact h)
    · exact h7 h)] at hK
  refine ld_sl (t14.blk.cat 24 _ rfl) ⟨⟨h0, h1⟩, opt_some ha (ld_int hc14 (bc_eq (fun hm => ?_) (fun hm => ?_)))⟩
  · rw [if_pos hm] at hK
    exact done hK F14
  rw [if_neg hm] at hK
  unfold X13.j1
  simp only [optP_some]
  refine ld_sl (t14.blk.cat 24 _ rfl) ⟨⟨h0, h1⟩, opt_some ha (ld_int hc14 ⟨⟨h0, h1⟩, opt_some ha (t14.stLatest h0 h1 ha fun w6 t6 f6 => ?_)⟩)⟩
  have hxft : gx ∉ ft := fun hm => hx (t.sub gx hm)
  have b6 := (bx.keep' F14).keep f6 hxft
  have ho6 : otherB { S with latest := S.latest.set to.toNat (IntKind.wrap .u64 (latestOf S to + 1)) } to = true := ho
  obtain ⟨h0', h1', a', ha', hc'⟩ := t6.latest ho6
  have hv : latestOf { S with latest := S.latest.set to.toNat (IntKind.wrap .u64 (latestOf S to + 1)) } to = IntKind.wrap .u64 (latestOf S to + 1) := by
    unfold latestOf
    rw [List.getElem?_set_self (by omega)]
    rfl
  rw [hv] at hc'
  have hle : (S.latest.set to.toNat (IntKind.wrap .u64 (latestOf S to + 1))).length = S.latest.length := List.length_set
  refine ld_sl (t6.blk.cat 24 _ rfl) ⟨⟨h0', h1'⟩, opt_some ha' (ld_int hc' (stB b6 (by rw [Cl.len]; omega) fun w11 b11 f11 => ?_))⟩
  have b11 : Blk w11 gx (({ y with num := IntKind.wrap .u64 (latestOf S to + 1) } : Cp).cl rp rc sp sc).cells 50 := b11
  have f614 := F.tr F14
  have z14 := f614.size
  have z6 := f6.size
  have t11 := t6.pc.off hx f11
  have nf : ∀ {p : Option Addr}, (∀ k ∈ fbl p, W.heap.size ≤ k ∧ k ≠ gx) → ∀ k ∈ fbl p, k ∉ ft := fun hn k hk hm => by have := hft k hm; have := hn k hk; omega
  have q1 := IdRow.off ((r1.keep' F14).keep f6 (nf n1)) (fun hm => (n1 _ hm).2 rfl) f11
  have q2 := IdRow.off ((r2.keep' F14).keep f6 (nf n2)) (fun hm => (n2 _ hm).2 rfl) f11
  obtain ⟨tg, rg⟩ := crel_grow (W := W) (y := { y with num := IntKind.wrap .u64 (latestOf S to + 1) }) t11 q1 q2 l1 l2 (fun k hk => (n1 k hk).1) (fun k hk => (n2 k hk).1) (fun k hk => .inl (hft k hk))
  have F11 : Fr ft W w11 := (f614.any.tr f6).loc f11 hxW
  refine ld_Cl (s := ({ y with num := IntKind.wrap .u64 (latestOf S to + 1) } : Cp).cl rp rc sp sc) b11.cat (put_spec tg rg ?_)
  intro ft' al' w28 t28 f28 e28 e29
  have b28 := b11.keep f28 hxft
  refine ⟨rfl, ld_int (b28.cat 1 _ rfl) ?_⟩
  refine hK ft' al' w28 t28 (F11.tr f28) (fun k hk => (e28 k hk).imp id (fun h => by have := F11.size; omega)) (fun k hk => ?_)
  rcases e29 k hk with h | h
  · simp only [List.mem_append] at h
    rcases h with (h | h) | h
    · exact .inl h
    · exact .inr (n1 k h).1
    · exact .inr (n2 k h).1
  · exact .inr (by have := F11.size; omega)
theorem right_to {m : Msg} (h : Right m) : 1 ≤ m.to ∧ m.to ≤ 64 ∧ m.frm ≠ m.to := ⟨h.2.2.1.1, h.2.2.1.2, h.2.2.2.1⟩
theorem begin_spec (t : PC w g ft al S) (hr : IdRow w rp rc refs) (hl : refs.length ≤ 8796093022208) {r : Bool} (hR : r = true ↔ Right (askM S (newY to op field tn ts value refs now) 1))
    (hK : AftC w g ft al (beginS S r to op field tn ts value refs now).1 (.tuple #[.int .u64 (beginS S r to op field tn ts value refs now).2.1, .int .i64 (beginS S r to op field tn ts value refs now).2.2]) Q) :
    CallR Tryz.prog 13 #[.pointer (some (at0 g 0)), .int .i64 to, .int .i64 op, .int .i64 field, .agg #[.int .i64 tn, .int .u64 ts], .int .u64 value, .slice rp refs.length rc, .int .u64 now] w Q := by
  apply X13.sound
  unfold X13.f
  simp only [optP_some]
  refine newB fun g1 w2 b1 f2 h1 => ld_int (b1.cat 0 _ rfl) (ld_int (b1.cat 1 _ rfl) (twin_spec (y := newY to op field tn ts value refs now) (sp := none) (sc := 0) (hr.keep' f2) Own.nil hl (by show ([] : List (Int × Int)).length ≤ 8796093022208; simp) fun rp' rc' sp' sc' w6 r6 s6 f6 n6 m6 => ?_))
  refine ⟨_, _, _, _, _, _, _, _, _, _, _, _, _, _, _, _, _, _, _, rfl, newB fun gx w23 bx f23 hx => stAllB (vs := ((newY to op field tn ts value refs now).cl rp' rc' sp' sc').cells) bx rfl fun w24 b24 f24 => ?_⟩
  have z2 := f2.size
  have z6 := f6.size
  have l1 := b1.lt
  have l6 := r6.lt
  have ls6 := s6.lt
  have F6 := f2.tr f6
  have F24 : Fr [] w w24 := (F6.tr f23).loc f24 (by omega)
  have t24 := t.keep' F24
  have b1' := ((b1.keep' (f6.tr f23)).off1 (by omega) f24)
  have n6' : ∀ k ∈ fbl rp', w.heap.size ≤ k ∧ k ≠ gx := fun k hk => by have := n6 k hk; have := l6 k hk; omega
  have m6' : ∀ k ∈ fbl sp', w.heap.size ≤ k ∧ k ≠ gx := fun k hk => by have := m6 k hk; have := ls6 k hk; omega
  have r24 := IdRow.off (r6.keep' f23) (fun hm => (n6' _ hm).2 rfl) f24
  have s24 := IdRow.off (s6.keep' f23) (fun hm => (m6' _ hm).2 rfl) f24
  have hxal : gx ∉ al := fun hm => by have := t.lt gx hm; omega
  have hft : ∀ k ∈ ft, k < w.heap.size := fun k hk => t.lt k (t.sub k hk)
  unfold beginS at hK
  have bad : (to > S.c.nodes ∨ r = false ∨ (noneB tn ts = false ∧ tn ≠ to)) → ∀ {w2 : World}, Fr [] w24 w2 → X13.j0 Q (some (at0 g 0)) to (at0 gx 0) true w2 := fun hb w2 f2 => by
    rw [if_pos hb] at hK
    unfold X13.j0
    exact bc_bool (fun _ => hK.same t (F24.tr f2)) (fun e => by cases e)
  refine ld_int (b1'.cat 0 _ rfl) (ld_int (b1'.cat 1 _ rfl) ⟨isS37, ld_int (t24.cfg0 0 _ rfl) (bc_dec (fun hn => bad (.inl hn) (Fr.refl _)) (fun hn => ?_))⟩)
  refine ld_Cl (s := (newY to op field tn ts value refs now).cl rp' rc' sp' sc') b24.cat (asks_spec t24 r24 hl fun rq cq w45 r45 f45 n45 => ⟨_, _, _, _, _, _, _, _, _, _, _, _, _, _, _, _, _, _, _, _, _, _, _, rfl, ?_⟩)
  have hmm : MM w45 (askM S (newY to op field tn ts value refs now) 1) rq cq none 0 := ⟨r45.cells, r45.le, fun h => by subst h; exact r45.none_c.2.1, by show refs.length * 16 ≤ _; omega, fun j u hj => by simp [askM] at hj, by simp [askM], fun _ => rfl, by simp [askM]⟩
  refine Right_spec hmm fun b w66 hb f66 => ⟨_, rfl, ?_⟩
  have F66 := f45.tr f66
  have t66 := t24.keep' F66
  have b166 := b1'.keep' F66
  refine bc_bool (fun e => bad (.inr (.inl ?_)) F66) (fun e => ?_)
  · cases r with
    | false => rfl
    | true => rw [hb.2 (hR.1 rfl)] at e; cases e
  have hrt : Right (askM S (newY to op field tn ts value refs now) 1) := hb.1 (by simpa using e)
  have hrr : r = true := hR.2 hrt
  have ht := right_to hrt
  have ho : otherB S to = true := by
    unfold otherB
    have h3 : S.node ≠ to := ht.2.2
    rw [if_pos (show to ≥ 1 from ht.1), if_pos (show to ≤ S.c.nodes by omega)]
    simp
    exact fun h => h3 h.symm
  have good : ¬ (to > S.c.nodes ∨ r = false ∨ (noneB tn ts = false ∧ tn ≠ to)) → X13.j0 Q (some (at0 g 0)) to (at0 gx 0) false w66 := fun hg => by
    rw [if_neg hg] at hK
    exact begin_j0b (W := w) (y := newY to op field tn ts value refs now) t66 ho (b24.keep' F66) hxal (r24.keep' F66) (s24.keep' F66) hl (by show ([] : List (Int × Int)).length ≤ 8796093022208; simp) n6' m6' hft (F24.tr F66) (by omega) rfl hK
  have en : ((tn == (0 : Int)) && ((ts == (0 : Int)) && true)) = noneB tn ts := by unfold noneB; simp
  refine bc_bool (fun e2 => ld_int (b166.cat 0 _ rfl) ?_) (fun e2 => ?_)
  · rw [en] at e2
    by_cases h3 : tn = to
    · rw [show (tn != to) = false by simp [h3]]
      refine good ?_
      rintro (h | h | h)
      · exact hn h
      · rw [hrr] at h; cases h
      · exact h.2 h3
    · rw [show (tn != to) = true by simp [h3]]
      exact bad (.inr (.inr ⟨by simpa using e2, h3⟩)) F66
  · rw [en] at e2
    refine good ?_
    rintro (h | h | h)
    · exact hn h
    · rw [hrr] at h; cases h
    · rw [h.1] at e2; cases e2
end
end Go.Proofs.YtdgoalhnkegbmaaGreatX
namespace Go.Proofs.YtdgoalhnkegbmaaGreatX
open Go.RowKit
set_option linter.unusedVariables false
set_option linter.unusedSimpArgs false
set_option maxRecDepth 100000
section
variable {w w' W : World} {Q : Value → World → Prop} {g gs gx gz gm gt1 : Nat} {ft al ft' al' F : List Nat} {S S' : Cs} {k to num now fl e : Int} {x z : Cl} {y : Cp} {refs : List (Int × Int)} {rp sp : Option Addr} {rc sc : Nat} {m : Msg}
theorem CRel.off (h : CRel w ft al x y) {k : Nat} (hk : k ∉ al) (f : Fr [k] w w') : CRel w' ft al x y := h.keep f (fun j hj _ hm => hk (by simp at hm; rw [← hm]; exact hj))
/-- a call in hand: its own block -/
structure HC (W w : World) (g : Nat) (ft al : List Nat) (S : Cs) (gx : Nat) (x : Cl) (y : Cp) : Prop where
  t : PC w g ft al S
  b : Blk w gx x.cells 50
  r : CRel w ft al x y
  nx : gx ∉ al
  wx : W.heap.size ≤ gx
  F : Fr ft W w
theorem HC.keep' (h : HC W w g ft al S gx x y) (f : Fr [] w w') : HC W w' g ft al S gx x y := ⟨h.t.keep' f, h.b.keep' f, h.r.keep' f, h.nx, h.wx, h.F.tr f.any⟩
theorem HC.off (h : HC W w g ft al S gx x y) {k : Nat} (hk : k ∉ al) (hkx : gx ≠ k) (hw : W.heap.size ≤ k) (f : Fr [k] w w') : HC W w' g ft al S gx x y := ⟨h.t.off hk f, h.b.off1 hkx f, h.r.off hk f, h.nx, h.wx, h.F.loc f hw⟩
/-- one of its cells is stored, no list -/
theorem HC.st (h : HC W w g ft al S gx x y) {i : Nat} {v : Value} (x' : Cl) (y' : Cp) (hi : i < 15) (he : x.cells.set i v = x'.cells) (hr : ∀ w', CRel w' ft al x y → CRel w' ft al x' y') {K : World → Prop} (hK : ∀ w', HC W w' g ft al S gx x' y' → Fr [gx] w w' → K w') : stK w ((at0 gx 0).add i) v K :=
  stB h.b (by rw [Cl.len]; exact hi) fun w' b' f => hK w' ⟨h.t.off h.nx f, by rw [← he]; exact b', hr w' (h.r.off h.nx f), h.nx, h.wx, h.F.loc f h.wx⟩ f
theorem HC.put (h : HC W w g ft al S gx x y) (hK : AftC W g ft al (putC S y) (.tuple #[]) Q) : CallR Tryz.prog 40 #[.pointer (some (at0 g 0)), x.val] w Q :=
  put_spec h.t h.r (hK.next h.F (fun x hx => .inl hx) (fun x hx => .inl hx))
/-- a call got from the table, in a block of its own -/
theorem HC.made (t : PC w g ft al S) (r : CRel w ft al x y) {zs : Array Value} (hz : zs.size = 15) {K : Addr → World → Prop} (hW : W.heap.size ≤ w.heap.size) (F : Fr ft W w) (hK : ∀ gx w', HC W w' g ft al S gx x y → Fr [] w w' → w.heap.size ≤ gx → K (at0 gx 0) w') :
    newK w zs 50 fun gx w2 => stAll w2 gx x.cells fun w3 => K gx w3 :=
  newB fun gx w2 b f hx => stAllB (vs := x.cells) b (by rw [Cl.len]; simpa using hz.symm) fun w3 b3 f3 => by
    have n := t.fresh hx
    exact hK gx w3 ⟨(t.keep' f).off n f3, b3, (r.keep' f).off n f3, n, by omega, (F.tr f.any).loc f3 (by omega)⟩ (f.loc f3 hx) hx
theorem CRel.state (h : CRel w ft al x y) (v : Int) : CRel w ft al { x with state := v } { y with state := v } := by
  obtain ⟨rp, rc, sp, sc, e1, e2, e3, h4, h5⟩ := h.ex
  exact ⟨h.lr, h.ls, rp, rc, sp, sc, by rw [e1]; rfl, e2, e3, h4, h5⟩
theorem CRel.code (h : CRel w ft al x y) (v : Int) : CRel w ft al { x with code := v } { y with code := v } := by
  obtain ⟨rp, rc, sp, sc, e1, e2, e3, h4, h5⟩ := h.ex
  exact ⟨h.lr, h.ls, rp, rc, sp, sc, by rw [e1]; rfl, e2, e3, h4, h5⟩
theorem CRel.back (h : CRel w ft al x y) (v : Int) : CRel w ft al { x with back := v } { y with back := v } := by
  obtain ⟨rp, rc, sp, sc, e1, e2, e3, h4, h5⟩ := h.ex
  exact ⟨h.lr, h.ls, rp, rc, sp, sc, by rw [e1]; rfl, e2, e3, h4, h5⟩
theorem CRel.sent (h : CRel w ft al x y) (v : Int) : CRel w ft al { x with sent := v } { y with sent := v } := by
  obtain ⟨rp, rc, sp, sc, e1, e2, e3, h4, h5⟩ := h.ex
  exact ⟨h.lr, h.ls, rp, rc, sp, sc, by rw [e1]; rfl, e2, e3, h4, h5⟩
theorem CRel.wait (h : CRel w ft al x y) (v : Int) : CRel w ft al { x with wait := v } { y with wait := v } := by
  obtain ⟨rp, rc, sp, sc, e1, e2, e3, h4, h5⟩ := h.ex
  exact ⟨h.lr, h.ls, rp, rc, sp, sc, by rw [e1]; rfl, e2, e3, h4, h5⟩
theorem CRel.noRes (h : CRel w ft al x y) : CRel w ft al { x with resultp := none, resultn := 0, resultc := 0 } { y with result := [] } := by
  obtain ⟨rp, rc, sp, sc, e1, e2, e3, h4, h5⟩ := h.ex
  exact ⟨h.lr, by simp, rp, rc, none, 0, by rw [e1]; rfl, e2, Own.nil, h4, fun k hk => by simp [fbl] at hk⟩
theorem CRel.res (h : CRel w ft al x y) {p : Option Addr} {c : Nat} {l : List (Int × Int)} (hl : l.length ≤ 8796093022208) (hr : IdRow w p c l) (hn : ∀ k ∈ fbl p, k ∉ ft ∧ k ∈ al) : CRel w ft al { x with resultp := p, resultn := l.length, resultc := c } { y with result := l } := by
  obtain ⟨rp, rc, sp, sc, e1, e2, e3, h4, h5⟩ := h.ex
  exact ⟨h.lr, hl, rp, rc, p, c, by rw [e1]; rfl, e2, hr, h4, hn⟩
theorem CRel.facts (h : CRel w ft al x y) : x.to = y.to ∧ x.num = y.num ∧ x.state = y.state ∧ x.sent = y.sent ∧ x.wait = y.wait ∧ x.born = y.born := by
  obtain ⟨rp, rc, sp, sc, e1, _⟩ := h.ex
  rw [e1]; exact ⟨rfl, rfl, rfl, rfl, rfl, rfl⟩
theorem settle_spec (t : PC w g ft al S) (hK : AftC w g ft al (settleC S to num e).1 (.bool (settleC S to num e).2) Q) : CallR Tryz.prog 16 #[.pointer (some (at0 g 0)), .int .i64 to, .int .u64 num, .int .i64 e] w Q := by
  apply X16.sound
  unfold X16.f
  unfold settleC at hK
  refine get_spec t (fun hg w2 f2 => ?_) (fun x y w2 hg r f2 => ?_)
  · rw [hg] at hK
    have t2 := t.keep' f2
    refine ⟨_, _, _, _, _, _, _, _, _, _, _, _, _, _, _, _, _, _, _, _, rfl, newB fun g19 w20 b20 f20 h20 => stAllB (vs := clZ.cells) b20 rfl fun w21 b21 f21 => bc_bool (fun _ => ?_) (fun e => by cases e)⟩
    exact hK.same t ((f2.tr f20).loc f21 (by have := f2.size; omega))
  · rw [hg] at hK
    simp only at hK
    have t2 := t.keep' f2
    have z2 := f2.size
    refine ⟨_, _, _, _, _, _, _, _, _, _, _, _, _, _, _, _, _, _, _, _, rfl, HC.made (W := w) t2 r rfl (by omega) f2.any fun gx w3 h f3 hx => bc_bool (fun e => by cases e) (fun _ => ?_)⟩
    have es : x.state = y.state := r.facts.2.2.1
    refine ld_int (h.b.cat 8 _ rfl) (bc_ne (fun hs => ?_) (fun hs => ?_))
    · rw [if_pos (by rw [← es]; exact hs)] at hK
      exact hK ft al w3 h.t h.F (fun x hx => .inl hx) (fun x hx => .inl hx)
    · rw [if_neg (by rw [← es]; simp [hs])] at hK
      unfold X16.j0
      refine h.st { x with state := 3 } { y with state := 3 } (by omega) rfl (fun w' r => r.state 3) fun w1 h1 _ => bc_ne (fun he => ?_) (fun he => ?_)
      · rw [if_pos he] at hK
        refine h1.st { x with state := 3, code := e } { y with state := 3, code := e } (by omega) rfl (fun w' r => r.code e) fun w4 h4 _ => ?_
        refine h4.st { x with state := 3, code := e, back := 0 } { y with state := 3, code := e, back := 0 } (by omega) rfl (fun w' r => r.back 0) fun w5 h5 _ => ?_
        refine h5.st { x with state := 3, code := e, back := 0, resultp := none, resultn := 0, resultc := 0 } { y with state := 3, code := e, back := 0, result := [] } (by omega) rfl (fun w' r => r.noRes) fun w6 h6 _ => ?_
        refine ld_Cl (s := { x with state := 3, code := e, back := 0, resultp := none, resultn := 0, resultc := 0 }) h6.b.cat (h6.put ?_)
        intro ft' al' w7 t7 f7 e7 e8
        exact ⟨rfl, hK ft' al' w7 t7 f7 e7 e8⟩
      · rw [if_neg (by simp [he])] at hK
        refine ld_Cl (s := { x with state := 3 }) h1.b.cat (h1.put ?_)
        intro ft' al' w7 t7 f7 e7 e8
        exact ⟨rfl, hK ft' al' w7 t7 f7 e7 e8⟩
/-- an answer that is a call, its lists new -/
def CallA (W w : World) (x : Cl) (y : Cp) : Prop := ∃ rp rc sp sc, x = y.cl rp rc sp sc ∧ IdRow w rp rc y.refs ∧ IdRow w sp sc y.result ∧ (∀ k ∈ fbl rp, W.heap.size ≤ k) ∧ (∀ k ∈ fbl sp, W.heap.size ≤ k)
/-- a call, its lists new and beside the table -/
def CallN (W w : World) (al : List Nat) (x : Cl) (y : Cp) : Prop := ∃ rp rc sp sc, x = y.cl rp rc sp sc ∧ IdRow w rp rc y.refs ∧ IdRow w sp sc y.result ∧ (∀ k ∈ fbl rp, W.heap.size ≤ k ∧ k ∉ al) ∧ (∀ k ∈ fbl sp, W.heap.size ≤ k ∧ k ∉ al)
theorem callN_zero : CallN W w al clZ yZero := ⟨none, 0, none, 0, rfl, Own.nil, Own.nil, by simp [fbl], by simp [fbl]⟩
def AftA (w : World) (g : Nat) (ft al : List Nat) (S' : Cs) (y : Cp) (V : Value → Value) (Q : Value → World → Prop) : Prop := ∀ x ft' al' w', CallN w w' al' x y → PC w' g ft' al' S' → Fr ft w w' → (∀ x ∈ ft', x ∈ ft ∨ w.heap.size ≤ x) → (∀ x ∈ al', x ∈ al ∨ w.heap.size ≤ x) → Q (V x.val) w'
theorem await_j0 {c : Bool} (h : HC w w' g ft al S gx x y) (b8 : Blk w' gz clZ.cells 50) (n8 : gz ∉ al) (n8x : gz ≠ gx) (w8 : w.heap.size ≤ gz) (hg : getC S to num = some y) (hc : c = decide (y.state = 4))
    (hK : AftA w g ft al (awaitC S to num now).1 (awaitC S to num now).2.1 (fun v => .tuple #[v, .bool (awaitC S to num now).2.2.1, .int .i64 (awaitC S to num now).2.2.2]) Q) :
    X17.j0 Q (some (at0 g 0)) to num now (at0 gz 0) (at0 gx 0) c w' := by
  unfold X17.j0
  simp only [optP_some]
  obtain ⟨e1, e2, e3, e4, e5, e6⟩ := h.r.facts
  have zz := h.F.size
  unfold awaitC at hK
  rw [hg] at hK
  simp only at hK
  have zero : ∀ {S2 : Cs} {b : Bool} {v : Int} {w2 : World}, AftA w g ft al S2 yZero (fun v' => .tuple #[v', .bool b, .int .i64 v]) Q → ∀ {ft2 al2 : List Nat}, PC w2 g ft2 al2 S2 → Fr ft w w2 → (∀ x ∈ ft2, x ∈ ft ∨ w.heap.size ≤ x) → (∀ x ∈ al2, x ∈ al ∨ w.heap.size ≤ x) → gz ∉ al2 → Blk w2 gz clZ.cells 50 →
      stAll w2 (at0 gz 0) clZ.cells fun w82 => ldI .i64 w82 ((at0 gz 0).add 0) fun x0 => ldI .u64 w82 ((at0 gz 0).add 1) fun x1 => ldI .i64 w82 ((at0 gz 0).add 2) fun x2 => ldI .i64 w82 ((at0 gz 0).add 3) fun x3 => ldI .i64 w82 ((at0 gz 0).add 4) fun x4 => ldI .u64 w82 ((at0 gz 0).add 5) fun x5 => ldSl w82 ((at0 gz 0).add 6) fun x6p x6n x6c => ldI .u64 w82 ((at0 gz 0).add 7) fun x7 => ldI .i64 w82 ((at0 gz 0).add 8) fun x8 => ldI .i64 w82 ((at0 gz 0).add 9) fun x9 => ldSl w82 ((at0 gz 0).add 10) fun x10p x10n x10c => ldI .u64 w82 ((at0 gz 0).add 11) fun x11 => ldI .u64 w82 ((at0 gz 0).add 12) fun x12 => ldI .u64 w82 ((at0 gz 0).add 13) fun x13 => ldI .u64 w82 ((at0 gz 0).add 14) fun x14 => Q (.tuple #[.agg #[.int .i64 x0, .int .u64 x1, .int .i64 x2, .int .i64 x3, .int .i64 x4, .int .u64 x5, .slice x6p x6n x6c, .int .u64 x7, .int .i64 x8, .int .i64 x9, .slice x10p x10n x10c, .int .u64 x11, .int .u64 x12, .int .u64 x13, .int .u64 x14], .bool b, .int .i64 v]) w82 := by
    intro S2 b v w2 hk ft2 al2 t2 f2 q1 q2 nz bz
    refine stAllB (vs := clZ.cells) bz rfl fun w82 b82 f82 => ld_Cl (s := clZ) b82.cat ?_
    exact hk clZ ft2 al2 w82 callN_zero (t2.off nz f82) (f2.loc f82 w8) q1 q2
  refine bc_bool (fun e => ?_) (fun e => ?_)
  · rw [if_pos (by rw [e] at hc; simpa using hc.symm)] at hK
    exact zero hK h.t h.F (fun x hx => .inl hx) (fun x hx => .inl hx) n8 b8
  · have n4 : ¬ y.state = 4 := by rw [e] at hc; simpa using hc.symm
    rw [if_neg n4] at hK
    refine ld_int (h.b.cat 8 _ rfl) (bc_eq (fun hs => ?_) (fun hs => ?_))
    · rw [if_pos (by rw [← e3]; exact hs)] at hK
      refine drawn fun w18 f18 _ => ?_
      have h18 := h.keep' f18
      obtain ⟨lp, lc, gt, rt, lm, t'⟩ := id h18.t
      refine ld_ptr (t'.blk.cat 25 _ rfl) (key_spec fun w22 f22 => ⟨_, rfl, ⟨t'.blk.cat 25 _ rfl, (t'.blk.keep' f22).cat 25 _ rfl⟩, drop_spec (t'.keep' f22) fun b => ?_⟩)
      intro ft' al' w25 t25 f25 e25 e26
      have h22 := h18.keep' f22
      have F22 := h22.F
      have z22 := F22.size
      have nxf : gx ∉ ft := fun hm => h.nx (h.t.sub gx hm)
      have n8f : gz ∉ ft := fun hm => n8 (h.t.sub gz hm)
      have b25 := h22.b.keep f25 nxf
      have b825 := (b8.keep' (f18.tr f22)).keep f25 n8f
      have l22 := h22.b.lt
      have l8 := (b8.keep' (f18.tr f22)).lt
      have F25 := F22.tr f25
      have q1 : ∀ x ∈ ft', x ∈ ft ∨ w.heap.size ≤ x := fun x hx => (e25 x hx).imp id (fun h => by omega)
      have q2 : ∀ x ∈ al', x ∈ al ∨ w.heap.size ≤ x := fun x hx => (e26 x hx).imp id (fun h => by omega)
      have nz' : gz ∉ al' := fun hm => by
        rcases e26 gz hm with h | h
        · exact n8 h
        · omega
      obtain ⟨rp, rc, sp, sc, hx, r1, r2, r3, r4⟩ := h22.r.ex
      have r1' := r1.keep f25 (fun k hk => (r3 k hk).1)
      have r2' := r2.keep f25 (fun k hk => (r4 k hk).1)
      subst hx
      refine ⟨_, rfl, ld_Cl (s := y.cl rp rc sp sc) b25.cat (twin_spec r1' r2' h.r.lr h.r.ls fun rp' rc' sp' sc' w43 q43 s43 f43 m43 k43 => ?_)⟩
      refine ⟨_, _, _, _, _, _, _, _, _, _, _, _, _, _, _, _, _, _, _, rfl, stAllB (vs := (y.cl rp' rc' sp' sc').cells) (b825.keep' f43) rfl fun w59 b59 f59 => ld_Cl (s := y.cl rp' rc' sp' sc') b59.cat ?_⟩
      have z25 := F25.size
      have l825 := b825.lt
      refine hK (y.cl rp' rc' sp' sc') ft' al' w59 ⟨rp', rc', sp', sc', rfl, IdRow.off q43 (fun hm => by have := m43 _ hm; omega) f59, IdRow.off s43 (fun hm => by have := k43 _ hm; omega) f59, fun k hk => ⟨by have := m43 k hk; omega, fun hm => by have := m43 k hk; have := t25.lt k hm; omega⟩, fun k hk => ⟨by have := k43 k hk; omega, fun hm => by have := k43 k hk; have := t25.lt k hm; omega⟩⟩ ((t25.keep' f43).off nz' f59) ((F25.tr f43.any).loc f59 w8) q1 q2
    · rw [if_neg (by rw [← e3]; exact hs)] at hK
      refine drawn fun w75 f75 _ => ?_
      have h75 := h.keep' f75
      have b875 := b8.keep' f75
      refine ld_int (h75.b.cat 14 _ rfl) (ld_int (h75.t.cfg0 16 _ rfl) (past_spec ⟨_, rfl, bc_bool (fun hp => ?_) (fun hp => ?_)⟩))
      · rw [if_pos (by rw [← e6]; simpa using hp)] at hK
        exact zero hK h75.t h75.F (fun x hx => .inl hx) (fun x hx => .inl hx) n8 b875
      · rw [if_neg (by rw [← e6]; simpa using hp)] at hK
        refine ld_int (h75.b.cat 8 _ rfl) (bc_eq (fun h2 => ?_) (fun h2 => ?_))
        · rw [if_pos (by rw [← e3]; exact h2)] at hK
          refine drawn fun w18 f18 _ => ?_
          have h18 := h75.keep' f18
          obtain ⟨lp, lc, gt, rt, lm, t'⟩ := id h18.t
          refine ld_ptr (t'.blk.cat 25 _ rfl) (key_spec fun w22 f22 => ⟨_, rfl, ⟨t'.blk.cat 25 _ rfl, (t'.blk.keep' f22).cat 25 _ rfl⟩, drop_spec (t'.keep' f22) fun b => ?_⟩)
          intro ft' al' w25 t25 f25 e25 e26
          have h22 := h18.keep' f22
          have F22 := h22.F
          have z22 := F22.size
          have n8f : gz ∉ ft := fun hm => n8 (h.t.sub gz hm)
          have b822 := b875.keep' (f18.tr f22)
          have l822 := b822.lt
          exact ⟨_, rfl, zero hK t25 (F22.tr f25) (fun x hx => (e25 x hx).imp id (fun h => by omega)) (fun x hx => (e26 x hx).imp id (fun h => by omega)) (fun hm => by
            rcases e26 gz hm with h | h
            · exact n8 h
            · omega) (b822.keep f25 n8f)⟩
        · rw [if_neg (by rw [← e3]; exact h2)] at hK
          refine h75.st { x with state := 4 } { y with state := 4 } (by omega) rfl (fun w' r => r.state 4) fun w124 h124 f124 => ?_
          have b8124 := b875.off1 n8x f124
          refine ld_Cl (s := { x with state := 4 }) h124.b.cat (put_spec h124.t h124.r ?_)
          intro ft' al' w25 t25 f25 e25 e26
          have F22 := h124.F
          have z22 := F22.size
          have n8f : gz ∉ ft := fun hm => n8 (h.t.sub gz hm)
          have l822 := b8124.lt
          exact ⟨rfl, zero hK t25 (F22.tr f25) (fun x hx => (e25 x hx).imp id (fun h => by omega)) (fun x hx => (e26 x hx).imp id (fun h => by omega)) (fun hm => by
            rcases e26 gz hm with h | h
            · exact n8 h
            · omega) (b8124.keep f25 n8f)⟩
theorem await_spec (t : PC w g ft al S) (hK : AftA w g ft al (awaitC S to num now).1 (awaitC S to num now).2.1 (fun v => .tuple #[v, .bool (awaitC S to num now).2.2.1, .int .i64 (awaitC S to num now).2.2.2]) Q) :
    CallR Tryz.prog 17 #[.pointer (some (at0 g 0)), .int .i64 to, .int .u64 num, .int .u64 now] w Q := by
  apply X17.sound
  unfold X17.f
  refine newB fun gz w2 bz f2 hz => get_spec (t.keep' f2) (fun hg w4 f4 => ?_) (fun x y w4 hg r f4 => ?_)
  · have bz : Blk w2 gz clZ.cells 50 := bz
    refine ⟨_, _, _, _, _, _, _, _, _, _, _, _, _, _, _, _, _, _, _, _, rfl, newB fun gx w22 bx f22 hx => stAllB (vs := clZ.cells) bx rfl fun w23 b23 f23 => bc_bool (fun _ => ?_) (fun e => by cases e)⟩
    unfold X17.j0
    have z2 := f2.size
    have z4 := f4.size
    have lz := bz.lt
    have F23 : Fr [] w w23 := ((f2.tr f4).tr f22).loc f23 (by omega)
    have bz23 := (bz.keep' (f4.tr f22)).off1 (by omega) f23
    unfold awaitC at hK
    rw [hg] at hK
    simp only at hK
    refine bc_bool (fun _ => stAllB (vs := clZ.cells) bz23 rfl fun w82 b82 f82 => ld_Cl (s := clZ) b82.cat ?_) (fun e => by cases e)
    exact hK clZ ft al w82 callN_zero ((t.keep' F23).off (fun hm => by have := t.lt gz hm; omega) f82) (F23.loc f82 hz).any (fun x hx => .inl hx) (fun x hx => .inl hx)
  · have bz : Blk w2 gz clZ.cells 50 := bz
    have z2 := f2.size
    have z4 := f4.size
    have lz := bz.lt
    have t4 := (t.keep' f2).keep' f4
    refine ⟨_, _, _, _, _, _, _, _, _, _, _, _, _, _, _, _, _, _, _, _, rfl, HC.made (W := w) t4 r rfl (by omega) (f2.tr f4).any fun gx w23 h f23 hx => bc_bool (fun e => by cases e) (fun _ => ld_int (h.b.cat 8 _ rfl) ?_)⟩
    refine await_j0 h (bz.keep' (f4.tr f23)) (fun hm => by have := t.lt gz hm; omega) (by omega) hz hg ?_ hK
    rw [r.facts.2.2.1]
    by_cases h4 : y.state = 4 <;> simp [h4]
end
end Go.Proofs.YtdgoalhnkegbmaaGreatX
namespace Go.Proofs.YtdgoalhnkegbmaaGreatX
open Go.RowKit
set_option linter.unusedVariables false
set_option linter.unusedSimpArgs false
set_option maxRecDepth 100000
section
variable {w w' W : World} {Q : Value → World → Prop} {g gs gx gz gm gt1 g1 g3 : Nat} {ft al ft' al' F : List Nat} {S S' : Cs} {k to num now fl e : Int} {x z : Cl} {y : Cp} {refs : List (Int × Int)} {rp sp : Option Addr} {rc sc : Nat} {m : Msg}
/-- the message that a step sends -/
def stepM (S : Cs) (now : Int) : Msg := if (stepC S now).2.2 then askM (stepC S now).1 (stepC S now).2.1 (floorC (stepC S now).1 (stepC S now).2.1.to) else mZ
/-- an answer that is a call, a message and whether it is sent -/
def AftM (w : World) (g : Nat) (ft al : List Nat) (S' : Cs) (y : Cp) (m : Msg) (b : Bool) (Q : Value → World → Prop) : Prop := ∀ (x : Cl) mp mc ft' al' w', CallN w w' al' x y → IdRow w' mp mc m.refs → (∀ k ∈ fbl mp, w.heap.size ≤ k ∧ k ∉ al') → PC w' g ft' al' S' → Fr ft w w' → (∀ x ∈ ft', x ∈ ft ∨ w.heap.size ≤ x) → (∀ x ∈ al', x ∈ al ∨ w.heap.size ≤ x) → Q (.tuple #[x.val, msgV m mp mc none 0, .bool b]) w'
/-- a call's lists, new, beside the table and some blocks -/
structure ZR (W w : World) (al bs : List Nat) (z : Cl) (y : Cp) : Prop where
  ex : ∃ rp rc sp sc, z = y.cl rp rc sp sc ∧ IdRow w rp rc y.refs ∧ IdRow w sp sc y.result ∧ (∀ k ∈ fbl rp, W.heap.size ≤ k ∧ k ∉ al ∧ k ∉ bs) ∧ (∀ k ∈ fbl sp, W.heap.size ≤ k ∧ k ∉ al ∧ k ∉ bs)
theorem ZR.keep {bs : List Nat} (h : ZR W w al bs z y) (f : Fr F w w') (hF : ∀ k ∈ F, k ∈ al ∨ k ∈ bs) : ZR W w' al bs z y := by
  obtain ⟨rp, rc, sp, sc, e, r1, r2, n1, n2⟩ := h.ex
  exact ⟨rp, rc, sp, sc, e, r1.keep f (fun k hk hm => (hF k hm).elim (n1 k hk).2.1 (n1 k hk).2.2), r2.keep f (fun k hk hm => (hF k hm).elim (n2 k hk).2.1 (n2 k hk).2.2), n1, n2⟩
theorem ZR.keep' {bs : List Nat} (h : ZR W w al bs z y) (f : Fr [] w w') : ZR W w' al bs z y := h.keep f (fun _ hm => by cases hm)
theorem ZR.call {bs : List Nat} (h : ZR W w al bs z y) (hal : ∀ k ∈ al', k ∈ al) : CallN W w al' z y := by
  obtain ⟨rp, rc, sp, sc, e, r1, r2, n1, n2⟩ := h.ex
  exact ⟨rp, rc, sp, sc, e, r1, r2, fun k hk => ⟨(n1 k hk).1, fun hm => (n1 k hk).2.1 (hal k hm)⟩, fun k hk => ⟨(n2 k hk).1, fun hm => (n2 k hk).2.1 (hal k hm)⟩⟩
theorem ZR.re {bs : List Nat} (h : ZR W w al bs z y) (na : ∀ k, k ∉ al → k < w.heap.size → k ∉ al') : ZR W w (al ++ al') bs z y := by
  obtain ⟨rp, rc, sp, sc, e, r1, r2, n1, n2⟩ := h.ex
  exact ⟨rp, rc, sp, sc, e, r1, r2, fun k hk => ⟨(n1 k hk).1, fun hm => (List.mem_append.1 hm).elim (n1 k hk).2.1 (na k (n1 k hk).2.1 (r1.lt k hk)), (n1 k hk).2.2⟩, fun k hk => ⟨(n2 k hk).1, fun hm => (List.mem_append.1 hm).elim (n2 k hk).2.1 (na k (n2 k hk).2.1 (r2.lt k hk)), (n2 k hk).2.2⟩⟩
theorem ZR.zero {bs : List Nat} : ZR W w al bs clZ yZero := ⟨none, 0, none, 0, rfl, Own.nil, Own.nil, by simp [fbl], by simp [fbl]⟩
/-- the answers' blocks, beside the table -/
structure SB (W w : World) (al : List Nat) (gx g1 g3 gt1 : Nat) (z : Cl) : Prop where
  b1 : Blk w g1 clZ.cells 50
  b3 : Blk w g3 (mZ.cells none 0 none 0) 63
  bt : Blk w gt1 z.cells 50
  n1 : g1 ∉ al
  n3 : g3 ∉ al
  nt : gt1 ∉ al
  x1 : gx ≠ g1
  x3 : gx ≠ g3
  xt : gx ≠ gt1
  d13 : g1 ≠ g3
  d1t : g1 ≠ gt1
  d3t : g3 ≠ gt1
  w1 : W.heap.size ≤ g1
  w3 : W.heap.size ≤ g3
theorem SB.keep' (h : SB W w al gx g1 g3 gt1 z) (f : Fr [] w w') : SB W w' al gx g1 g3 gt1 z := ⟨h.b1.keep' f, h.b3.keep' f, h.bt.keep' f, h.n1, h.n3, h.nt, h.x1, h.x3, h.xt, h.d13, h.d1t, h.d3t, h.w1, h.w3⟩
theorem SB.offx (h : SB W w al gx g1 g3 gt1 z) (f : Fr [gx] w w') : SB W w' al gx g1 g3 gt1 z := ⟨h.b1.off1 h.x1.symm f, h.b3.off1 h.x3.symm f, h.bt.off1 h.xt.symm f, h.n1, h.n3, h.nt, h.x1, h.x3, h.xt, h.d13, h.d1t, h.d3t, h.w1, h.w3⟩
theorem step_j0 (h : HC w w' g ft al S gx x y) (sb : SB w w' al gx g1 g3 gt1 z) (zr : ZR w w' al [g1, g3, gx, gt1] z y)
    (hK : AftM w g ft al (putC S (againS S y now)) y (askM (putC S (againS S y now)) y (floorC (putC S (againS S y now)) y.to)) true Q) : X14.j0 Q (some (at0 g 0)) now (at0 g1 0) (at0 g3 0) (at0 gx 0) (at0 gt1 0) w' := by
  unfold X14.j0
  simp only [optP_some]
  refine h.st { x with sent := now } { y with sent := now } (by omega) rfl (fun w' r => r.sent now) fun w1 h1 f1 => drawn fun w2 f2 _ => ?_
  have zr2 := (zr.keep f1 (fun k hk => .inr (by simp at hk; simp [hk]))).keep' f2
  have sb2 := (sb.offx f1).keep' f2
  have h2 := h1.keep' f2
  have ew : ({ x with sent := now } : Cl).wait = y.wait := h.r.facts.2.2.2.2.1
  refine ld_int (h2.b.cat 13 _ rfl) (ld_int (h2.t.cfg0 14 _ rfl) (ld_int (h2.t.cfg0 15 _ rfl) (wait_spec ⟨_, rfl, ?_⟩)))
  rw [ew]
  refine h2.st { x with sent := now, wait := waitN y.wait S.c.wait S.c.most } (againS S y now) (by omega) rfl (fun w' r => r.wait _) fun w11 h11 f11 => ?_
  have sb11 := sb2.offx f11
  have zr11 := zr2.keep f11 (fun k hk => .inr (by simp at hk; simp [hk]))
  refine ld_Cl (s := { x with sent := now, wait := waitN y.wait S.c.wait S.c.most }) h11.b.cat (put_spec h11.t h11.r ?_)
  intro ft' al' w28 t28 f28 e28 e29
  have nf : ∀ {k : Nat}, k ∉ al → k ∉ ft := fun hk hm => hk (h.t.sub _ hm)
  have F28 := h11.F.tr f28
  have z11 := h11.F.size
  have q1 : ∀ x ∈ ft', x ∈ ft ∨ w.heap.size ≤ x := fun x hx => (e28 x hx).imp id (fun h => by omega)
  have q2 : ∀ x ∈ al', x ∈ al ∨ w.heap.size ≤ x := fun x hx => (e29 x hx).imp id (fun h => by omega)
  have na : ∀ {k : Nat}, k ∉ al → k < w11.heap.size → k ∉ al' := fun hk hl hm => by
    rcases e29 _ hm with h | h
    · exact hk h
    · omega
  have l1 := sb11.b1.lt
  have l3 := sb11.b3.lt
  have lt1 := sb11.bt.lt
  have lx := h11.b.lt
  have n1 := na sb.n1 l1
  have n3 := na sb.n3 l3
  have b1 := sb11.b1.keep f28 (nf sb.n1)
  have b3 := sb11.b3.keep f28 (nf sb.n3)
  have bt := sb11.bt.keep f28 (nf sb.nt)
  have bx := h11.b.keep f28 (nf h.nx)
  obtain ⟨rp, rc, sp, sc, hx, r1, r2, r3, r4⟩ := h11.r.ex
  have r28 : IdRow w28 rp rc y.refs := r1.keep f28 (fun k hk => (r3 k hk).1)
  rw [hx] at bx
  refine ⟨rfl, drawn fun w29 f29 _ => ld_Cl (s := z) (bt.keep' f29).cat (ld_Cl (s := (againS S y now).cl rp rc sp sc) (bx.keep' f29).cat (ld_int ((bx.keep' f29).cat 0 _ rfl) (floor_spec (t28.keep' f29) fun w62 f62 => ⟨_, rfl, ⟨(bx.keep' f29).cat, (bx.keep' (f29.tr f62)).cat⟩, ⟨(bt.keep' f29).cat, (bt.keep' (f29.tr f62)).cat⟩, ?_⟩)))⟩
  have f2962 := f29.tr f62
  refine asks_spec (y := againS S y now) (t28.keep' f2962) (r28.keep' f2962) h11.r.lr fun mp mc w65 m65 f65 n65 => ⟨_, _, _, _, _, _, _, _, _, _, _, _, _, _, _, _, _, _, _, _, _, _, _, rfl, ⟨(bt.keep' f2962).cat, (bt.keep' (f2962.tr f65)).cat⟩, ?_⟩
  have f65' := f2962.tr f65
  have z28 := f28.size
  have z62 := f2962.size
  refine stAllB (vs := z.cells) (b1.keep' f65') rfl fun w85 b85 f85 => ?_
  have b385 := (b3.keep' f65').off1 sb.d13.symm f85
  refine stAllB (vs := (askM (putC S (againS S y now)) (againS S y now) (floorC (putC S (againS S y now)) y.to)).cells mp mc none 0) b385 rfl fun w86 b86 f86 => ?_
  have b186 := b85.off1 sb.d13 f86
  refine ld_Cl (s := z) b186.cat (ld_Mg (m := askM (putC S (againS S y now)) (againS S y now) (floorC (putC S (againS S y now)) y.to)) (rp := mp) (rc := mc) (lp := none) (lc := 0) b86.cat ?_)
  have mb : ∀ k ∈ fbl mp, w62.heap.size ≤ k := n65
  have m85 : IdRow w85 mp mc y.refs := IdRow.off m65 (fun hm => by have := mb _ hm; omega) f85
  have m86 : IdRow w86 mp mc y.refs := IdRow.off m85 (fun hm => by have := mb _ hm; omega) f86
  have t86 := ((t28.keep' f65').off n1 f85).off n3 f86
  have zr86 := ((((zr11.re (fun k hk hl => na hk hl)).keep f28 (fun k hk => .inl (List.mem_append.2 (.inl (h.t.sub k hk))))).keep' f65').keep f85 (fun k hk => .inr (by simp at hk; simp [hk]))).keep f86 (fun k hk => .inr (by simp at hk; simp [hk]))
  exact hK z mp mc ft' al' w86 (zr86.call (fun k hk => List.mem_append.2 (.inr hk))) m86 (fun k hk => ⟨by have := mb k hk; omega, fun hm => by have := mb k hk; have := t28.lt k hm; omega⟩) t86 (((F28.tr f65'.any).loc f85 sb.w1).loc f86 sb.w3) q1 q2
theorem step_spec (t : PC w g ft al S) (hK : AftM w g ft al (stepC S now).1 (stepC S now).2.1 (stepM S now) (stepC S now).2.2 Q) : CallR Tryz.prog 14 #[.pointer (some (at0 g 0)), .int .u64 now] w Q := by
  apply X14.sound
  unfold X14.f
  simp only [optP_some]
  refine newB fun g1 w2 b1 f2 h1 => newB fun g3 w4 b3 f4 h3 => drawn fun w5 f5 _ => ?_
  have b1 : Blk w2 g1 clZ.cells 50 := b1
  have b3 : Blk w4 g3 (mZ.cells none 0 none 0) 63 := b3
  have F5 := (f2.tr f4).tr f5
  have z2 := f2.size
  have z4 := f4.size
  have z5 := f5.size
  have l1 := b1.lt
  have l3 := b3.lt
  have t5 := t.keep' F5
  have n1 : g1 ∉ al := fun hm => by have := t.lt g1 hm; omega
  have n3 : g3 ∉ al := fun hm => by have := t.lt g3 hm; omega
  -- nothing is sent: the answer z, an empty message
  have none_ : ∀ {z : Cl} {y0 : Cp} {bs : List Nat} {S2 : Cs} {w2 : World}, PC w2 g ft al S2 → Fr ft w w2 → Blk w2 g1 clZ.cells 50 → Blk w2 g3 (mZ.cells none 0 none 0) 63 → ZR w w2 al (g1 :: g3 :: bs) z y0 → AftM w g ft al S2 y0 mZ false Q →
      stAll w2 (at0 g1 0) z.cells fun w14 => stAll w14 (at0 g3 0) (mZ.cells none 0 none 0) fun w15 => ldI .i64 w15 ((at0 g1 0).add 0) fun x0 => ldI .u64 w15 ((at0 g1 0).add 1) fun x1 => ldI .i64 w15 ((at0 g1 0).add 2) fun x2 => ldI .i64 w15 ((at0 g1 0).add 3) fun x3 => ldI .i64 w15 ((at0 g1 0).add 4) fun x4 => ldI .u64 w15 ((at0 g1 0).add 5) fun x5 => ldSl w15 ((at0 g1 0).add 6) fun x6p x6n x6c => ldI .u64 w15 ((at0 g1 0).add 7) fun x7 => ldI .i64 w15 ((at0 g1 0).add 8) fun x8 => ldI .i64 w15 ((at0 g1 0).add 9) fun x9 => ldSl w15 ((at0 g1 0).add 10) fun x10p x10n x10c => ldI .u64 w15 ((at0 g1 0).add 11) fun x11 => ldI .u64 w15 ((at0 g1 0).add 12) fun x12 => ldI .u64 w15 ((at0 g1 0).add 13) fun x13 => ldI .u64 w15 ((at0 g1 0).add 14) fun x14 =>
        ldI .i64 w15 ((at0 g3 0).add 0) fun y0 => ldI .i64 w15 ((at0 g3 0).add 1) fun y1 => ldI .i64 w15 ((at0 g3 0).add 2) fun y2 => ldI .u64 w15 ((at0 g3 0).add 3) fun y3 => ldI .u64 w15 ((at0 g3 0).add 4) fun y4 => ldI .i64 w15 ((at0 g3 0).add 5) fun y5 => ldI .i64 w15 ((at0 g3 0).add 6) fun y6 => ldI .i64 w15 ((at0 g3 0).add 7) fun y7 => ldI .i64 w15 ((at0 g3 0).add 8) fun y8 => ldI .u64 w15 ((at0 g3 0).add 9) fun y9 => ldSl w15 ((at0 g3 0).add 10) fun y10p y10n y10c => ldI .u64 w15 ((at0 g3 0).add 11) fun y11 => ldI .i64 w15 ((at0 g3 0).add 12) fun y12 => ldI .u64 w15 ((at0 g3 0).add 13) fun y13 => ldI .i64 w15 ((at0 g3 0).add 14) fun y14 => ldI .u64 w15 ((at0 g3 0).add 15) fun y15 => ldI .i64 w15 ((at0 g3 0).add 16) fun y16 => ldI .u64 w15 ((at0 g3 0).add 17) fun y17 => ldSl w15 ((at0 g3 0).add 18) fun y18p y18n y18c =>
        Q (.tuple #[.agg #[.int .i64 x0, .int .u64 x1, .int .i64 x2, .int .i64 x3, .int .i64 x4, .int .u64 x5, .slice x6p x6n x6c, .int .u64 x7, .int .i64 x8, .int .i64 x9, .slice x10p x10n x10c, .int .u64 x11, .int .u64 x12, .int .u64 x13, .int .u64 x14], .agg #[.int .i64 y0, .int .i64 y1, .int .i64 y2, .int .u64 y3, .int .u64 y4, .int .i64 y5, .int .i64 y6, .int .i64 y7, .int .i64 y8, .int .u64 y9, .slice y10p y10n y10c, .int .u64 y11, .int .i64 y12, .int .u64 y13, .int .i64 y14, .int .u64 y15, .int .i64 y16, .int .u64 y17, .slice y18p y18n y18c], .bool false]) w15 := by
    intro z y0 bs S2 w2 t2 f2 b1 b3 zr hk
    refine stAllB (vs := z.cells) b1 rfl fun w14 b14 f14 => stAllB (vs := mZ.cells none 0 none 0) (b3.off1 (by omega) f14) rfl fun w15 b15 f15 => ?_
    refine ld_Cl (s := z) (b14.off1 (by omega) f15).cat (ld_Mg (m := mZ) (rp := none) (rc := 0) (lp := none) (lc := 0) b15.cat ?_)
    exact hk z none 0 ft al w15 (((zr.keep f14 (fun k hk => .inr (by simp at hk; simp [hk]))).keep f15 (fun k hk => .inr (by simp at hk; simp [hk]))).call (fun k hk => hk)) Own.nil (by simp [fbl]) ((t2.off n1 f14).off n3 f15) ((f2.loc f14 h1).loc f15 (by omega)) (fun x hx => .inl hx) (fun x hx => .inl hx)
  have b15 := b1.keep' (f4.tr f5)
  have b35 := b3.keep' f5
  obtain ⟨lp, lc, gt, rt, lm, t'⟩ := id t5
  refine ld_ptr (t'.blk.cat 25 _ rfl) (ld_int t5.last (after_CB t'.tab ⟨_, _, rfl, ?_⟩))
  rw [after_keys t'.rel.keys]
  unfold stepM at hK
  unfold stepC at hK
  cases ha : after ilt S.l S.last with
  | none =>
    rw [ha] at hK
    exact bc_bool (fun _ => none_ (z := clZ) (bs := []) t5 F5.any b15 b35 ZR.zero hK) (fun e => by cases e)
  | some kk =>
    rw [ha] at hK
    simp only at hK
    refine bc_bool (fun e => by cases e) (fun _ => ?_)
    have hin : g ∈ ft := by rw [t'.foot]; simp
    refine stB t'.blk (by show 26 < 27; omega) fun w51 b51 f51 => ?_
    have b51 : Blk w51 g (ccells { S with last := kk } lp lc gt) 53 := b51
    have f51' : Fr ft w5 w51 := f51.mono fun x hx => by simp at hx; rw [hx]; exact hin
    have hgl := t'.gl
    have hgr := t'.gr
    have t51 : PCa w51 g ft al { S with last := kk } lp lc gt rt lm := ⟨b51, t'.lat.keep f51 (fun x hx hm => hgl (by simp at hm; rwa [← hm])), t'.tab.keep f51 (fun x hx hm => hgr (by simp at hm; rwa [← hm])), t'.rel.keep f51' (fun k hk hn => hn), t'.foot, hgl, hgr, t'.lr, t'.sub, fun x hx => by have := t'.lt x hx; have := f51.size; omega, t'.ll⟩
    have nf : ∀ {k : Nat}, k ∉ al → k ∉ ft := fun hk hm => hk (t.sub _ hm)
    have b151 := b15.keep f51' (nf n1)
    have b351 := b35.keep f51' (nf n3)
    have F51 : Fr ft w w51 := F5.any.tr f51'
    have z51 := f51.size
    refine ld_ptr (t51.blk.cat 25 _ rfl) (rowsGet t51.tab t51.rel (fun hg => ?_) (fun x y hg r w55 f55 => ?_))
    · exfalso
      by_cases hn : 0 < S.l.length
      · have hs := t.sorted
        unfold after next at ha
        have hmem : kk ∈ keys S.l := by
          cases h1 : (keys S.l)[if has ilt S.l S.last = true then at_ ilt S.l S.last + 1 else at_ ilt S.l S.last]? with
          | some v => rw [h1, Option.some_or] at ha; injection ha with ha; subst ha; exact List.mem_of_getElem? h1
          | none => rw [h1, Option.none_or] at ha; exact List.mem_of_getElem? ha
        exact (get_none ilt_lin hs).1 hg hmem
      · have : S.l = [] := List.eq_nil_of_length_eq_zero (by omega)
        rw [this] at ha
        simp [after, next, keys] at ha
    · have hgS : get ilt S.l kk = some y := hg
      rw [hgS] at hK
      simp only [Option.getD_some] at hK
      have z55 := f55.size
      have t55 := t51.pc.keep' f55
      have r55 := r.keep' f55
      refine ⟨_, _, _, _, _, _, _, _, _, _, _, _, _, _, _, _, _, _, _, _, rfl, HC.made (W := w) t55 r55 rfl (by have := F51.size; omega) (F51.tr f55.any) fun gx w74 h f74 hx => ?_⟩
      have b174 := b151.keep' (f55.tr f74)
      have b374 := b351.keep' (f55.tr f74)
      obtain ⟨rp, rc, sp, sc, hxe, r1, r2, r3, r4⟩ := h.r.ex
      have hbx := h.b
      rw [hxe] at hbx
      refine ld_Cl (s := y.cl rp rc sp sc) hbx.cat (twin_spec r1 r2 h.r.lr h.r.ls fun rp' rc' sp' sc' w91 q1 q2 f91 m1 m2 => ?_)
      have h91 := h.keep' f91
      have l91 := q1.lt
      have ls91 := q2.lt
      refine ⟨_, _, _, _, _, _, _, _, _, _, _, _, _, _, _, _, _, _, _, rfl, newB fun gt1 w108 bt f108 ht => stAllB (vs := (y.cl rp' rc' sp' sc').cells) bt rfl fun w109 b109 f109 => ?_⟩
      have z51w := F51.size
      have z74 := f74.size
      have z91 := f91.size
      have lx := h.b.lt
      have nt : gt1 ∉ al := h91.t.fresh ht
      have F109 : Fr [] w91 w109 := f108.loc f109 ht
      have h109 : HC w w109 g ft al { S with last := kk } gx x y := (h91.keep' f108).off nt (by omega) (by omega) f109
      have b1109 := (b174.keep' (f91.tr f108)).off1 (by omega) f109
      have b3109 := (b374.keep' (f91.tr f108)).off1 (by omega) f109
      have l151 := b151.lt
      have l351 := b351.lt
      have sb : SB w w109 al gx g1 g3 gt1 (y.cl rp' rc' sp' sc') := ⟨b1109, b3109, b109, n1, n3, nt, by omega, by omega, by omega, by omega, by omega, by omega, h1, by omega⟩
      obtain ⟨e1, e2, e3, e4, e5, e6⟩ := h.r.facts
      have zr : ZR w w109 al [g1, g3, gx, gt1] (y.cl rp' rc' sp' sc') y := by
        have q109 := IdRow.off (q1.keep' f108) (fun hm => by have := l91 gt1 hm; omega) f109
        have s109 := IdRow.off (q2.keep' f108) (fun hm => by have := ls91 gt1 hm; omega) f109
        refine ⟨rp', rc', sp', sc', rfl, q109, s109, fun k hk => ?_, fun k hk => ?_⟩
        · have h1 := m1 k hk
          have h2 := l91 k hk
          refine ⟨by omega, fun hm => ?_, fun hm => ?_⟩
          · have := t.lt k hm; omega
          · simp at hm; omega
        · have h1 := m2 k hk
          have h2 := ls91 k hk
          refine ⟨by omega, fun hm => ?_, fun hm => ?_⟩
          · have := t.lt k hm; omega
          · simp at hm; omega
      have nosend : ∀ {w2 : World}, Fr [] w109 w2 → sendsB S y now = false → ldI .i64 w2 ((at0 gt1 0).add 0) fun x0 => ldI .u64 w2 ((at0 gt1 0).add 1) fun x1 => ldI .i64 w2 ((at0 gt1 0).add 2) fun x2 => ldI .i64 w2 ((at0 gt1 0).add 3) fun x3 => ldI .i64 w2 ((at0 gt1 0).add 4) fun x4 => ldI .u64 w2 ((at0 gt1 0).add 5) fun x5 => ldSl w2 ((at0 gt1 0).add 6) fun x6p x6n x6c => ldI .u64 w2 ((at0 gt1 0).add 7) fun x7 => ldI .i64 w2 ((at0 gt1 0).add 8) fun x8 => ldI .i64 w2 ((at0 gt1 0).add 9) fun x9 => ldSl w2 ((at0 gt1 0).add 10) fun x10p x10n x10c => ldI .u64 w2 ((at0 gt1 0).add 11) fun x11 => ldI .u64 w2 ((at0 gt1 0).add 12) fun x12 => ldI .u64 w2 ((at0 gt1 0).add 13) fun x13 => ldI .u64 w2 ((at0 gt1 0).add 14) fun x14 =>
          stAll w2 (at0 g1 0) [.int .i64 x0, .int .u64 x1, .int .i64 x2, .int .i64 x3, .int .i64 x4, .int .u64 x5, .slice x6p x6n x6c, .int .u64 x7, .int .i64 x8, .int .i64 x9, .slice x10p x10n x10c, .int .u64 x11, .int .u64 x12, .int .u64 x13, .int .u64 x14] fun w14 => stAll w14 (at0 g3 0) (mZ.cells none 0 none 0) fun w15 => ldI .i64 w15 ((at0 g1 0).add 0) fun x0 => ldI .u64 w15 ((at0 g1 0).add 1) fun x1 => ldI .i64 w15 ((at0 g1 0).add 2) fun x2 => ldI .i64 w15 ((at0 g1 0).add 3) fun x3 => ldI .i64 w15 ((at0 g1 0).add 4) fun x4 => ldI .u64 w15 ((at0 g1 0).add 5) fun x5 => ldSl w15 ((at0 g1 0).add 6) fun x6p x6n x6c => ldI .u64 w15 ((at0 g1 0).add 7) fun x7 => ldI .i64 w15 ((at0 g1 0).add 8) fun x8 => ldI .i64 w15 ((at0 g1 0).add 9) fun x9 => ldSl w15 ((at0 g1 0).add 10) fun x10p x10n x10c => ldI .u64 w15 ((at0 g1 0).add 11) fun x11 => ldI .u64 w15 ((at0 g1 0).add 12) fun x12 => ldI .u64 w15 ((at0 g1 0).add 13) fun x13 => ldI .u64 w15 ((at0 g1 0).add 14) fun x14 =>
        ldI .i64 w15 ((at0 g3 0).add 0) fun y0 => ldI .i64 w15 ((at0 g3 0).add 1) fun y1 => ldI .i64 w15 ((at0 g3 0).add 2) fun y2 => ldI .u64 w15 ((at0 g3 0).add 3) fun y3 => ldI .u64 w15 ((at0 g3 0).add 4) fun y4 => ldI .i64 w15 ((at0 g3 0).add 5) fun y5 => ldI .i64 w15 ((at0 g3 0).add 6) fun y6 => ldI .i64 w15 ((at0 g3 0).add 7) fun y7 => ldI .i64 w15 ((at0 g3 0).add 8) fun y8 => ldI .u64 w15 ((at0 g3 0).add 9) fun y9 => ldSl w15 ((at0 g3 0).add 10) fun y10p y10n y10c => ldI .u64 w15 ((at0 g3 0).add 11) fun y11 => ldI .i64 w15 ((at0 g3 0).add 12) fun y12 => ldI .u64 w15 ((at0 g3 0).add 13) fun y13 => ldI .i64 w15 ((at0 g3 0).add 14) fun y14 => ldI .u64 w15 ((at0 g3 0).add 15) fun y15 => ldI .i64 w15 ((at0 g3 0).add 16) fun y16 => ldI .u64 w15 ((at0 g3 0).add 17) fun y17 => ldSl w15 ((at0 g3 0).add 18) fun y18p y18n y18c =>
        Q (.tuple #[.agg #[.int .i64 x0, .int .u64 x1, .int .i64 x2, .int .i64 x3, .int .i64 x4, .int .u64 x5, .slice x6p x6n x6c, .int .u64 x7, .int .i64 x8, .int .i64 x9, .slice x10p x10n x10c, .int .u64 x11, .int .u64 x12, .int .u64 x13, .int .u64 x14], .agg #[.int .i64 y0, .int .i64 y1, .int .i64 y2, .int .u64 y3, .int .u64 y4, .int .i64 y5, .int .i64 y6, .int .i64 y7, .int .i64 y8, .int .u64 y9, .slice y10p y10n y10c, .int .u64 y11, .int .i64 y12, .int .u64 y13, .int .i64 y14, .int .u64 y15, .int .i64 y16, .int .u64 y17, .slice y18p y18n y18c], .bool false]) w15 := by
        intro w2 f2 hs
        rw [hs] at hK
        simp only [Bool.false_eq_true, if_false] at hK
        have h2 := h109.keep' f2
        exact ld_Cl (s := y.cl rp' rc' sp' sc') (b109.keep' f2).cat (none_ (z := y.cl rp' rc' sp' sc') h2.t h2.F (b1109.keep' f2) (b3109.keep' f2) (zr.keep' f2) hK)
      have send : ∀ {w2 : World}, Fr [] w109 w2 → sendsB S y now = true → X14.j0 Q (some (at0 g 0)) now (at0 g1 0) (at0 g3 0) (at0 gx 0) (at0 gt1 0) w2 := by
        intro w2 f2 hs
        rw [hs] at hK
        simp only [if_true] at hK
        exact step_j0 (h109.keep' f2) (sb.keep' f2) (zr.keep' f2) hK
      have hxb : Blk w109 gx (y.cl rp rc sp sc).cells 50 := by have := h109.b; rw [hxe] at this; exact this
      have past : (y.state = 1 ∨ y.state = 4) → CallR Tryz.prog 43 #[.int .u64 y.sent, .int .u64 y.wait, .int .u64 now] w109 (fun v w => v = .bool (pastB y.sent y.wait now) ∧ w = w109) := fun _ => past_spec ⟨rfl, rfl⟩
      refine ld_int (hxb.cat 8 _ rfl) (bc_ne (fun n1' => ld_int (hxb.cat 8 _ rfl) (bc_ne (fun n4 => ?_) (fun e4' => ?_))) (fun e1' => ?_))
      · refine nosend (Fr.refl _) ?_
        unfold sendsB
        rw [decide_eq_false (by rintro (h | h); · exact n1' h
                                · exact n4 h)]
        rfl
      · refine ld_int (hxb.cat 12 _ rfl) (ld_int (hxb.cat 13 _ rfl) (past_spec ⟨_, rfl, bc_bool (fun hp => nosend (Fr.refl _) ?_) (fun hp => send (Fr.refl _) ?_)⟩))
        · have hp' : pastB y.sent y.wait now = false := by have h : (!pastB y.sent y.wait now) = true := hp; simpa using h
          unfold sendsB; rw [hp', Bool.and_false]
        · have hp' : pastB y.sent y.wait now = true := by have h : (!pastB y.sent y.wait now) = false := hp; simpa using h
          have e4'' : y.state = 4 := e4'
          unfold sendsB; rw [hp', decide_eq_true (.inr e4'')]; rfl
      · refine ld_int (hxb.cat 12 _ rfl) (ld_int (hxb.cat 13 _ rfl) (past_spec ⟨_, rfl, bc_bool (fun hp => nosend (Fr.refl _) ?_) (fun hp => send (Fr.refl _) ?_)⟩))
        · have hp' : pastB y.sent y.wait now = false := by have h : (!pastB y.sent y.wait now) = true := hp; simpa using h
          unfold sendsB; rw [hp', Bool.and_false]
        · have hp' : pastB y.sent y.wait now = true := by have h : (!pastB y.sent y.wait now) = false := hp; simpa using h
          have e1'' : y.state = 1 := e1'
          unfold sendsB; rw [hp', decide_eq_true (.inl e1'')]; rfl
end
end Go.Proofs.YtdgoalhnkegbmaaGreatX
namespace Go.Proofs.YtdgoalhnkegbmaaGreatX
open Go.RowKit
set_option linter.unusedVariables false
set_option linter.unusedSimpArgs false
theorem cells_cut {Z c i n : Nat} {w : World} {p : Option Addr} {xs : List Value} (h : Cells w p xs) (hl : xs.length = n * Z) (hi : i ≤ n) (hc : n ≤ c) (h0 : p = none → c = 0) : Cells w (cutAt Z c i p) (xs.drop (i * Z)) ∧ (cutAt Z c i p = none → c - i = 0) := by
  unfold cutAt
  split
  · rename_i he
    have : i = n := by omega
    subst this
    rw [List.drop_eq_nil_of_le (by omega)]
    exact ⟨fun j u hj => by simp at hj, fun _ => by omega⟩
  · cases p with
    | none =>
      refine ⟨fun j u hj => ?_, fun _ => by have := h0 rfl; omega⟩
      rw [List.getElem?_drop] at hj
      obtain ⟨q, hq, _⟩ := h _ _ hj
      cases hq
    | some a =>
      refine ⟨fun j u hj => ?_, fun h => by cases h⟩
      rw [List.getElem?_drop] at hj
      obtain ⟨q, hq, hq2⟩ := h _ _ hj
      injection hq with hq
      subst hq
      exact ⟨_, rfl, by rw [add_add]; exact hq2⟩
theorem cells_take {w : World} {p : Option Addr} {xs : List Value} (h : Cells w p xs) (k : Nat) : Cells w p (xs.take k) := fun j u hj => by
  rw [List.getElem?_take] at hj
  split at hj
  · exact h j u hj
  · cases hj
theorem app_step {P : Program} {t e ty : TypeId} {Z B : Nat} (hT : RowT P t e Z B) {W w : World} {sp x : Option Addr} {sn sc k kc : Nat} {xs ys : List Value} {K : Option Addr → Nat → Nat → World → Prop} (o : Own e Z w sp sn sc xs) (hy : Cells w x ys) (hl : ys.length = k * Z) (h0 : x = none → kc = 0)
    (h1 : ∀ u ∈ ys, u.oneCell' = true) (hn : sn + k ≤ 1000000) (hB : B ≤ 1000) (hs : ∀ k ∈ fbl sp, W.heap.size ≤ k) (f : Fr [] W w)
    (hK : ∀ p c w', Own e Z w' p (sn + k) c (xs ++ ys) → (∀ k ∈ fbl p, W.heap.size ≤ k) → Fr [] W w' → Fr (fbl sp) w w' → K p (sn + k) c w') :
    RunR P (Builtin.append_ #[t, t] ty #[.slice sp sn sc, .slice x k kc]) w fun v w' => ∃ (p : Option Addr) (n c : Nat), v = .slice p n c ∧ K p n c w' := by
  have hsz := f.size
  refine app_own hT o hy hl h0 h1 (by simp only [maxLen]; omega) (Nat.le_trans (Nat.mul_le_mul hn hB) (by omega)) ?_
  intro p' c' w' o' f' e'
  exact ⟨p', sn + k, c', rfl, hK p' c' w' o' (fun j hj => by rcases e' j hj with h | h; exact hs j h; omega) (f.trans f' (fun j hj => .inr (hs j hj))) f'⟩
theorem set_same {α : Type} {l : List α} {i : Nat} {v : α} (h : l[i]? = some v) : l.set i v = l := by
  obtain ⟨h1, h2⟩ := List.getElem?_eq_some_iff.1 h
  rw [← h2, List.set_getElem_self]
theorem stO {w : World} {g o i : Nat} {cs : List Value} {e : TypeId} {v : Value} {K : World → Prop} (h : Blk w g cs e) (hi : o + i < cs.length) (hK : ∀ w', Blk w' g (cs.set (o + i) v) e → Fr [g] w w' → K w') : stK w ((at0 g o).add i) v K := by
  rw [add_at]
  exact ⟨h.storeOk hi, hK _ (h.set _ v) (Fr.setCell (by simp [at0]) v)⟩
theorem cells_one {w : World} {g : Nat} {cs : List Value} {e : TypeId} (h : Blk w g cs e) : Cells w (some (at0 g 0)) cs := fun j u hj => ⟨_, rfl, h.cat j u hj⟩
theorem some_ne {a : Addr} {P : Prop} : some a = none → P := fun h => by cases h
theorem one_take {xs : List Value} (h : ∀ u ∈ xs, u.oneCell' = true) (n : Nat) : ∀ u ∈ xs.take n, u.oneCell' = true := fun u hu => h u (List.mem_of_mem_take hu)
theorem one_drop {xs : List Value} (h : ∀ u ∈ xs, u.oneCell' = true) (n : Nat) : ∀ u ∈ xs.drop n, u.oneCell' = true := fun u hu => h u (List.mem_of_mem_drop hu)
end Go.Proofs.YtdgoalhnkegbmaaGreatX
namespace Go.Proofs.YtdgoalhnkegbmaaGreatX
open Go.RowKit
set_option linter.unusedVariables false
set_option linter.unusedSimpArgs false
set_option maxRecDepth 100000
section
variable {w w' W : World} {Q : Value → World → Prop} {g gs gx gz gm gt1 g1 g3 : Nat} {ft al ft' al' F : List Nat} {S S' : Cs} {k to num now fl e : Int} {x z : Cl} {y : Cp} {refs : List (Int × Int)} {rp sp : Option Addr} {rc sc : Nat} {m : Msg}
/-- an answer that is a row of IDs and a bool -/
def AftI (w : World) (g : Nat) (ft al : List Nat) (S' : Cs) (l : List (Int × Int)) (b : Bool) (Q : Value → World → Prop) : Prop := ∀ p c ft' al' w', IdRow w' p c l → (∀ k ∈ fbl p, w.heap.size ≤ k ∧ k ∉ al') → PC w' g ft' al' S' → Fr ft w w' → (∀ x ∈ ft', x ∈ ft ∨ w.heap.size ≤ x) → (∀ x ∈ al', x ∈ al ∨ w.heap.size ≤ x) → Q (.tuple #[.slice p l.length c, .bool b]) w'
theorem AftI.none {b : Bool} (hK : AftI w g ft al S [] b Q) (t : PC w' g ft al S) (F : Fr ft w w') : Q (.tuple #[.slice none 0 0, .bool b]) w' := hK Option.none 0 ft al w' Own.nil (by simp [fbl]) t F (fun x hx => .inl hx) (fun x hx => .inl hx)
theorem reply_spec' {lc : Nat} (t : PC w g ft al S) (hr : IdRow w rp rc m.refs) (hl : m.refs.length ≤ 8796093022208) (nr : ∀ k ∈ fbl rp, k ∉ ft)
    (hK : AftI w g ft al (replyC S m.kind m.to m.frm m.call m.code m.value m.refs).1 (replyC S m.kind m.to m.frm m.call m.code m.value m.refs).2.1 (replyC S m.kind m.to m.frm m.call m.code m.value m.refs).2.2 Q) :
    CallR Tryz.prog 15 #[.pointer (some (at0 g 0)), msgV m rp rc none lc] w Q := by
  apply X15.sound
  unfold X15.f
  simp only [optP_some]
  refine newB fun gm w2 bm f2 hgm => drawn fun w3 f3 _ => ?_
  have bm : Blk w2 gm (m.cells rp rc none lc) 63 := bm
  have F3 := f2.tr f3
  have t3 := t.keep' F3
  have b3 := bm.keep' f3
  have z2 := f2.size
  have z3 := f3.size
  have lm := bm.lt
  unfold replyC at hK
  have nope : (m.kind ≠ 2 ∨ m.to ≠ S.node ∨ otherB S m.frm = false) → ∀ {w4 : World}, Fr [] w w4 → Q (.tuple #[.slice none 0 0, .bool false]) w4 := fun hn w4 f4 => by
    rw [if_pos hn] at hK
    exact hK.none (t.keep' f4) f4.any
  refine ld_int (b3.cat 0 _ rfl) (bc_ne (fun h => nope (.inl h) F3) (fun h0 => ld_int (b3.cat 2 _ rfl) (ld_int t3.node (bc_ne (fun h => nope (.inr (.inl h)) F3) (fun h2 => ?_)))))
  refine ld_int (b3.cat 1 _ rfl) (other_spec t3 ⟨_, rfl, bc_bool (fun e => nope (.inr (.inr (by simpa using e))) F3) (fun e => ?_)⟩)
  have ho : otherB S m.frm = true := by simpa using e
  rw [if_neg (by
    rintro (h | h | h)
    · exact h h0
    · exact h h2
    · rw [ho] at h; cases h)] at hK
  unfold X15.j0
  simp only [optP_some]
  have nm : gm ∉ al := fun hm => by have := t.lt gm hm; omega
  refine ld_int (b3.cat 1 _ rfl) (ld_int (b3.cat 3 _ rfl) (get_spec t3 (fun hg w4 f4 => ?_) (fun x y w4 hg r f4 => ?_)))
  · rw [hg] at hK
    simp only at hK
    refine ⟨_, _, _, _, _, _, _, _, _, _, _, _, _, _, _, _, _, _, _, _, rfl, newB fun g21 w22 b22 f22 h22 => stAllB (vs := clZ.cells) b22 rfl fun w23 b23 f23 => bc_bool (fun _ => drawn fun w24 f24 _ => ?_) (fun e => by cases e)⟩
    have z4 := f4.size
    have F24 : Fr [] w3 w24 := ((f4.tr f22).loc f23 (by omega)).tr f24
    have bm24 := ((b3.keep' (f4.tr f22)).off1 (by omega) f23).keep' f24
    obtain ⟨lp, lc', gt, rt, lm', t24⟩ := t3.keep' F24
    obtain ⟨q0, q1, a, ha, hc⟩ := t24.latest ho
    refine ld_int (bm24.cat 3 _ rfl) (ld_int t24.pc.first (bc_dec (fun h => ?_) (fun h => ?_)))
    · refine ld_int (bm24.cat 3 _ rfl) (ld_sl (t24.blk.cat 24 _ rfl) (ld_int (bm24.cat 1 _ rfl) ⟨⟨q0, q1⟩, opt_some ha (ld_int hc ?_)⟩))
      have := hK.none t24.pc (F3.tr F24).any
      rw [decide_eq_true h, Bool.true_and] at this
      exact this
    · have := hK.none t24.pc (F3.tr F24).any
      rw [decide_eq_false h, Bool.false_and] at this
      exact this
  · rw [hg] at hK
    simp only at hK
    have t4 := t3.keep' f4
    have z4 := f4.size
    refine ⟨_, _, _, _, _, _, _, _, _, _, _, _, _, _, _, _, _, _, _, _, rfl, HC.made (W := w) t4 r rfl (by omega) (F3.tr f4).any fun gx w23 h f23 hx => bc_bool (fun e => by cases e) (fun _ => ?_)⟩
    have es := r.facts.2.2.1
    have bm23 := b3.keep' (f4.tr f23)
    have z23 := f23.size
    have ngm : gm ≠ gx := by omega
    have nrx : ∀ k ∈ fbl rp, k < w.heap.size := fun k hk => hr.lt k hk
    refine ld_int (h.b.cat 8 _ rfl) (bc_eq (fun h1 => ?_) (fun n1 => bc_eq (fun h4 => ?_) (fun n4 => bc_eq (fun h3 => ?_) (fun n3 => ?_))))
    · rw [if_pos (by rw [← es]; exact h1)] at hK
      refine drawn fun w35 f35 _ => ?_
      have h35 := h.keep' f35
      have bm35 := bm23.keep' f35
      refine ld_int (bm35.cat 12 _ rfl) (ld_int (bm35.cat 11 _ rfl) (h35.st { x with state := 2 } { y with state := 2 } (by omega) rfl (fun w' r => r.state 2) fun w38 h38 f38 => ?_))
      have bm38 := bm35.off1 ngm f38
      refine ⟨⟨bm35.cat 11 _ rfl, bm38.cat 11 _ rfl⟩, ⟨bm35.cat 12 _ rfl, bm38.cat 12 _ rfl⟩, h38.st { x with state := 2, code := m.code } { y with state := 2, code := m.code } (by omega) rfl (fun w' r => r.code m.code) fun w39 h39 f39 => ?_⟩
      have bm39 := bm38.off1 ngm f39
      refine ⟨⟨bm38.cat 11 _ rfl, bm39.cat 11 _ rfl⟩, h39.st { x with state := 2, code := m.code, back := m.value } { y with state := 2, code := m.code, back := m.value } (by omega) rfl (fun w' r => r.back m.value) fun w40 h40 f40 => ?_⟩
      have bm40 := bm39.off1 ngm f40
      refine newB fun g41 w42 b41 f42 h41 => ?_
      have h42 := h40.keep' f42
      have bm42 := bm40.keep' f42
      have z3540 : w35.heap.size ≤ w40.heap.size := Nat.le_trans f38.size (Nat.le_trans f39.size f40.size)
      have z35 := f35.size
      have lx := h.b.lt
      have F342 : Fr [gx] w w42 := ((((F3.tr (f4.tr (f23.tr f35))).any.tr f38).tr f39).tr f40).tr f42.any
      have nrg : ∀ k ∈ fbl rp, k ∉ [gx] := fun k hk hm => by have := nrx k hk; simp at hm; omega
      have hr42 := hr.keep F342 nrg
      have n41 : g41 ∉ al := h40.t.fresh h41
      refine ld_sl (bm42.cat 10 _ rfl) (copyIds hr42 (by omega) b41 fun p c w45 r45 n45 f45 => ?_)
      have h45 := h42.off n41 (by omega) (by omega) f45
      have bm45 := bm42.off1 (by omega) f45
      have z42 := f42.size
      have z45 := f45.size
      have np : ∀ k ∈ fbl p, w.heap.size ≤ k ∧ k ∉ al ∧ k ≠ gx ∧ k ≠ gm := fun k hk => by
        have hk2 : k = g41 ∨ w42.heap.size ≤ k := n45 k hk
        refine ⟨by omega, fun hm => ?_, by omega, by omega⟩
        have := t.lt k hm
        omega
      have lp45 := r45.lt
      refine stB h45.b (by rw [Cl.len]; omega) fun w47 b47 f47 => ?_
      have b47 : Blk w47 gx ({ x with state := 2, code := m.code, back := m.value, resultp := p, resultn := m.refs.length, resultc := c } : Cl).cells 50 := b47
      have t47 := h45.t.off h.nx f47
      have r47 := IdRow.off r45 (fun hm => (np _ hm).2.2.1 rfl) f47
      have bm47 := bm45.off1 ngm f47
      have F47 : Fr ft w w47 := h45.F.loc f47 h.wx
      have z47 := f47.size
      have tg : PC w47 g ft (al ++ fbl p) S := t47.grow (fun x hx => by simp [hx]) (fun x hx => by
        rcases List.mem_append.1 hx with hx | hx
        · exact t47.lt x hx
        · exact r47.lt x hx)
      have rg : CRel w47 ft (al ++ fbl p) { x with state := 2, code := m.code, back := m.value, resultp := p, resultn := m.refs.length, resultc := c } { y with state := 2, code := m.code, back := m.value, result := m.refs } :=
        CRel.res (y := { y with state := 2, code := m.code, back := m.value }) (x := { x with state := 2, code := m.code, back := m.value }) ((h45.r.off h.nx f47).mono (fun k _ hn => hn) (fun k hk _ => by simp [hk])) hl r47 (fun k hk => ⟨fun hm => (np k hk).2.1 (t.sub k hm), by simp [hk]⟩)
      refine ld_Cl (s := { x with state := 2, code := m.code, back := m.value, resultp := p, resultn := m.refs.length, resultc := c }) b47.cat (put_spec tg rg ?_)
      intro ft' al' w64 t64 f64 e64 e65
      have z47w := F47.size
      have ngf : gm ∉ ft := fun hm => nm (t.sub gm hm)
      have bm64 := bm47.keep f64 ngf
      have F64 := F47.tr f64
      refine ⟨rfl, newB fun g65 w66 b65 f66 h65 => ld_sl ((bm64.keep' f66).cat 10 _ rfl) ?_⟩
      have hr66 : IdRow w66 rp rc m.refs := ((hr42.keep f45 (fun k hk hm => by have := nrx k hk; simp at hm; omega)).keep f47 nrg).keep (f64.tr f66.any) nr
      refine copyIds hr66 (by omega) b65 fun p2 c2 w69 r69 n69 f69 => ?_
      have z64 := f64.size
      have t69 := (t64.keep' f66).off (t64.fresh h65) f69
      have np2 : ∀ k ∈ fbl p2, w64.heap.size ≤ k := fun k hk => by
        have hk2 : k = g65 ∨ w66.heap.size ≤ k := n69 k hk
        have := f66.size
        omega
      refine hK p2 c2 ft' al' w69 r69 (fun k hk => ⟨by have := np2 k hk; omega, fun hm => by have := np2 k hk; have := t64.lt k hm; omega⟩) t69 ((F64.tr f66.any).loc f69 (by omega)) (fun k hk => (e64 k hk).imp id (fun h => by omega)) (fun k hk => ?_)
      rcases e65 k hk with h' | h'
      · rcases List.mem_append.1 h' with h' | h'
        · exact .inl h'
        · exact .inr (np k h').1
      · exact .inr (by omega)
    · rw [if_neg (by rw [← es]; exact n1), if_pos (by rw [← es]; exact h4)] at hK
      refine drawn fun w71 f71 _ => ?_
      have h71 := h.keep' f71
      obtain ⟨e1, e2, _⟩ := r.facts
      obtain ⟨lp, lc', gt, rt, lm', t'⟩ := id h71.t
      refine ld_ptr (t'.blk.cat 25 _ rfl) (ld_int (h71.b.cat 0 _ rfl) (ld_int (h71.b.cat 1 _ rfl) (key_spec fun w77 f77 => ⟨_, rfl, ⟨t'.blk.cat 25 _ rfl, (t'.blk.keep' f77).cat 25 _ rfl⟩, ?_⟩)))
      rw [show keyOf x.to x.num = keyOf y.to y.num by rw [e1, e2]]
      refine drop_spec (t'.keep' f77) fun b => ?_
      intro ft' al' w80 t80 f80 e80 e81
      have h77 := h71.keep' f77
      have z77 := h77.F.size
      exact ⟨_, rfl, hK Option.none 0 ft' al' w80 Own.nil (by simp [fbl]) t80 (h77.F.tr f80) (fun k hk => (e80 k hk).imp id (fun h => by omega)) (fun k hk => (e81 k hk).imp id (fun h => by omega))⟩
    · rw [if_neg (by rw [← es]; exact n1), if_neg (by rw [← es]; exact n4), if_pos (by rw [← es]; exact h3)] at hK
      exact hK.none h.t h.F
    · rw [if_neg (by rw [← es]; exact n1), if_neg (by rw [← es]; exact n4), if_neg (by rw [← es]; exact n3)] at hK
      exact hK.none h.t h.F
/-- calls in a row, their lists new: entry by entry -/
structure Ar (W w : World) (xs : List Cl) (L : List (Int × Cp)) : Prop where
  len : xs.length = L.length
  el : ∀ (i : Nat) (x : Cl), xs[i]? = some x → ∃ f : Int × Cp, L[i]? = some f ∧ CallA W w x f.2 ∧ f.2.refs.length ≤ 8796093022208 ∧ f.2.result.length ≤ 8796093022208
theorem CallA.keep (h : CallA W w x y) (f : Fr F w w') (hF : ∀ k ∈ F, k < W.heap.size) : CallA W w' x y := by
  obtain ⟨rp, rc, sp, sc, e1, r1, r2, n1, n2⟩ := h
  exact ⟨rp, rc, sp, sc, e1, r1.keep f (fun k hk hm => by have := n1 k hk; have := hF k hm; omega), r2.keep f (fun k hk hm => by have := n2 k hk; have := hF k hm; omega), n1, n2⟩
theorem own_ne {e1 e2 : TypeId} {z1 z2 n1 c1 n2 c2 : Nat} {p1 p2 : Option Addr} {xs1 xs2 : List Value} (h1 : Own e1 z1 w p1 n1 c1 xs1) (h2 : Own e2 z2 w p2 n2 c2 xs2) (he : e1 ≠ e2) : ∀ k ∈ fbl p1, k ∉ fbl p2 := by
  intro k k1 k2
  cases p1 with
  | none => simp [fbl] at k1
  | some a1 =>
    cases p2 with
    | none => simp [fbl] at k2
    | some a2 =>
      obtain ⟨g1, cur1, rfl, b1, _⟩ := Own.blk h1
      obtain ⟨g2, cur2, rfl, b2, _⟩ := Own.blk h2
      simp [fbl, at0] at k1 k2
      subst k1; subst k2
      unfold Blk at b1 b2
      rw [b1] at b2
      simp at b2
      exact he b2.2
theorem CallA.off {p : Option Addr} {n c : Nat} {xs : List Value} (h : CallA W w x y) (o : Own 50 15 w p n c xs) (f : Fr (fbl p) w w') : CallA W w' x y := by
  obtain ⟨rp, rc, sp, sc, e1, r1, r2, n1, n2⟩ := h
  exact ⟨rp, rc, sp, sc, e1, r1.keep f (own_ne r1 o (by decide)), r2.keep f (own_ne r2 o (by decide)), n1, n2⟩
theorem PC.lens (t : PC w g ft al S) {f : Int × Cp} (h : f ∈ S.l) : f.2.refs.length ≤ 8796093022208 ∧ f.2.result.length ≤ 8796093022208 := by
  obtain ⟨lp, lc, gt, rt, lm, t⟩ := t
  obtain ⟨i, hi⟩ := List.getElem?_of_mem h
  have hl := (List.getElem?_eq_some_iff.1 hi).1
  have hl2 : i < lm.length := by rw [t.rel.len]; exact hl
  obtain ⟨f', h1, _, h3⟩ := t.rel.el i _ (List.getElem?_eq_getElem hl2)
  rw [hi] at h1
  injection h1 with h1
  subst h1
  exact ⟨h3.lr, h3.ls⟩
theorem all_l0 (t0 : PC W g ft al S) {kp : Option Addr} {kc : Nat} (hk : Cells W kp ((keys S.l).map (Value.int .u64)))
    (hQ : ∀ p c xs w', Own 50 15 w' p S.l.length c (xs.flatMap Cl.cells) → Ar W w' xs S.l → Fr [] W w' → (∀ x ∈ fbl p, W.heap.size ≤ x) → Q (.slice p S.l.length c) w') :
    ∀ (f i : Nat) (w : World) (p : Option Addr) (c : Nat) (xs : List Cl), S.l.length - i < f → i ≤ S.l.length → Fr [] W w → Own 50 15 w p i c (xs.flatMap Cl.cells) → Ar W w xs (S.l.take i) → (∀ x ∈ fbl p, W.heap.size ≤ x) → X28.l0 Q f (some (at0 g 0)) p i c kp S.l.length kc (S.l.length : Int) (i : Int) w
  | 0, i, w, p, c, xs, hf, _, _, _, _, _ => by omega
  | f + 1, i, w, p, c, xs, hf, hi, F, o, ar, hp => by
    rw [X28.l0]
    simp only [optP_some]
    have hsz := t0.size
    refine bc_dec (fun h1 => ⟨⟨by omega, by omega⟩, ?_⟩) (fun h1 => ?_)
    · have hlt : i < S.l.length := by omega
      have he := List.getElem?_eq_getElem hlt
      have htake : S.l.take (i + 1) = S.l.take i ++ [S.l[i]] := List.take_succ_eq_append_getElem hlt
      have hmem : S.l[i] ∈ S.l := List.getElem_mem hlt
      generalize S.l[i] = e at he htake hmem
      have hge : get ilt S.l e.1 = some e.2 := (get_iff ilt_lin t0.sorted).2 hmem
      obtain ⟨a, ha, hx⟩ := (hk.keep' F) i (.int .u64 e.1) (by rw [List.getElem?_map, keysG_get, he]; rfl)
      obtain ⟨lp, lc, gt, rt, lm, t'⟩ := t0.keep' F
      refine opt_some ha (ld_int (by rw [Int.toNat_natCast, Nat.mul_one]; exact hx) (ld_ptr (t'.blk.cat 25 _ rfl) (rowsGet t'.tab t'.rel (fun hn => by rw [hge] at hn; cases hn) (fun x y hy r w6 f6 => ?_))))
      rw [hge] at hy
      injection hy with hy
      subst hy
      refine ⟨_, _, _, _, _, _, _, _, _, _, _, _, _, _, _, _, _, _, _, _, rfl, newB fun gx w24 b24 f24 h24 => stAllB (vs := x.cells) b24 rfl fun w25 b25 f25 => ?_⟩
      have z0 := F.size
      have z6 := f6.size
      have F25 : Fr [] w w25 := (f6.tr f24).loc f25 (by omega)
      have hgx : gx ∉ al := fun hm => by have := t0.lt gx hm; omega
      have r25 := ((r.keep' f6).keep' f24).off hgx f25
      obtain ⟨rp, rc, sp, sc, hxe, q1, q2, _, _⟩ := r25.ex
      subst hxe
      refine ld_Cl (s := e.2.cl rp rc sp sc) b25.cat (twin_spec q1 q2 r.lr r.ls fun rp' rc' sp' sc' w42 m1 m2 f42 n1 n2 => ⟨_, _, _, _, _, _, _, _, _, _, _, _, _, _, _, _, _, _, _, rfl, newB fun g58 w59 b59 f59 h59 => ?_⟩)
      have b59 : Blk w59 g58 (e.2.cl rp' rc' sp' sc').cells 50 := b59
      have F59 : Fr [] w w59 := F25.tr (f42.tr f59)
      have z25 := F25.size
      have o59 := o.keep' F59
      refine app_step rowT55 (W := W) o59 (cells_one b59) (Cl.len _) some_ne (Cl.one _) (by omega) (by omega) hp (F.tr F59) ?_
      intro p' c' w61 o61 n61 f61 g61
      have ei : IntKind.wrap .i64 ((i : Int) + 1) = ((i + 1 : Nat) : Int) := by rw [i64w ((i : Int) + 1) (by omega) (by omega)]; omega
      rw [ei]
      have cn : CallA W w61 (e.2.cl rp' rc' sp' sc') e.2 := CallA.off ⟨rp', rc', sp', sc', rfl, m1.keep' f59, m2.keep' f59, fun k hk => by have := n1 k hk; omega, fun k hk => by have := n2 k hk; omega⟩ o59 g61
      have hxl : xs.length = i := by rw [ar.len, List.length_take]; omega
      refine all_l0 t0 hk hQ f (i + 1) w61 p' c' (xs ++ [e.2.cl rp' rc' sp' sc']) (by omega) (by omega) f61 (by rw [List.flatMap_append]; simpa using o61) ⟨by rw [htake]; simp [hxl]; omega, fun j z hz => ?_⟩ n61
      rw [htake]
      have htl : (S.l.take i).length = i := by rw [List.length_take]; omega
      by_cases hj : j < i
      · rw [List.getElem?_append_left (by omega)] at hz
        rw [List.getElem?_append_left (by omega)]
        obtain ⟨f0, q1, q2, q3⟩ := ar.el j z hz
        exact ⟨f0, q1, CallA.off (q2.keep F59 (by simp)) o59 g61, q3⟩
      · rw [List.getElem?_append_right (by omega), hxl] at hz
        rw [List.getElem?_append_right (by omega), htl]
        have hj0 : j - i = 0 := by
          have := (List.getElem?_eq_some_iff.1 hz).1
          simp at this
          exact this
        rw [hj0] at hz ⊢
        simp only [List.getElem?_cons_zero, Option.some.injEq] at hz
        subst hz
        exact ⟨e, rfl, cn, r.lr, r.ls⟩
    · have : i = S.l.length := by omega
      subst this
      rw [List.take_length] at ar
      exact hQ p c xs w o ar F hp
theorem all_spec (t : PC w g ft al S) (hQ : ∀ p c xs w', Own 50 15 w' p S.l.length c (xs.flatMap Cl.cells) → Ar w w' xs S.l → Fr [] w w' → (∀ x ∈ fbl p, w.heap.size ≤ x) → Q (.slice p S.l.length c) w') : CallR Tryz.prog 28 #[.pointer (some (at0 g 0))] w Q := by
  apply X28.sound
  unfold X28.f
  simp only [optP_some]
  obtain ⟨lp, lc, gt, rt, lm, t'⟩ := id t
  have hkl := t'.rel.keys
  have hll := t'.rel.len
  refine ld_ptr (t'.blk.cat 25 _ rfl) (keys_CB t'.tab fun p c w4 o4 f4 n4 => ⟨_, _, _, rfl, S.l.length + 1, ?_⟩)
  rw [hkl] at o4
  rw [hll]
  have z4 := f4.size
  refine all_l0 (t.keep' f4) o4.cells (fun p' c' xs w' o' a' f' n' => hQ p' c' xs w' o' ⟨a'.len, fun i x hx => ?_⟩ (f4.tr f') (fun x hx => by have := n' x hx; omega)) _ 0 w4 none 0 [] (by omega) (by omega) (Fr.refl _) Own.nil ⟨by simp, by simp⟩ (by simp [fbl])
  obtain ⟨f0, q1, q2, q3⟩ := a'.el i x hx
  obtain ⟨rp, rc, sp, sc, e1, r1, r2, n1, n2⟩ := q2
  exact ⟨f0, q1, ⟨rp, rc, sp, sc, e1, r1, r2, fun k hk => by have := n1 k hk; omega, fun k hk => by have := n2 k hk; omega⟩, q3⟩
end
end Go.Proofs.YtdgoalhnkegbmaaGreatX
namespace Go.Proofs.YtdgoalhnkegbmaaGreatX
open Go.RowKit
set_option linter.unusedVariables false
set_option linter.unusedSimpArgs false
set_option maxRecDepth 100000
def inB (n most : Int) : Bool := if n ≥ 1 then decide (n ≤ most) else false
theorem apin_spec {a b : Int} {w : World} {Q : Value → World → Prop} (hQ : Q (.bool (inB a b)) w) : CallR Tryz.prog 35 #[.int .i64 a, .int .i64 b] w Q := by
  apply X35.sound
  unfold X35.f
  unfold inB at hQ
  exact bc_dec (fun h => by rw [if_pos h] at hQ; exact hQ) (fun h => by rw [if_neg h] at hQ; exact hQ)
def configOf (r : Raw) : Cfg :=
  { nodes := 2 + r.nodes % 3, mutators := 1 + r.mutators % 3, slots := 2 + r.slots % 4, cel := 16 * (1 + r.cel % 8), objects := 2 + r.objects % 14, stubs := 2 + r.stubs % 10, calls := 1 + r.calls % 6, window := 1 + r.window % 4,
    grey := 1 + r.grey % 8, bag := 4 + r.bag % 60, inbox := 1 + r.inbox % 4, unit := 4 + r.unit % 20, drift := r.drift % ((4 + r.unit % 20) / 2), lease := (4 + r.unit % 20) * (40 + r.lease % 200), wait := 1 + r.wait % 30,
    most := 1 + r.wait % 30 + r.most % 60, patience := (4 + r.unit % 20) * (1 + r.patience % 60), suspect := 1 + r.suspect % 4, trace := 1 + r.suspect % 4 + 1 + r.trace % 4, work := 1 + r.work % 12, start := Int.tmod r.start 1000, last := Int.tmod r.last 1000 }
section
variable {w w' W : World} {Q : Value → World → Prop} {g1 g3 g22 : Nat} {r : Raw}
theorem pick_spec {n m : Int} {w : World} {Q : Value → World → Prop} (hm : 0 < m) (hb : m ≤ 9223372036854775807) (h : Q (.int .i64 (n % m)) w) : CallR Tryz.prog 10 #[.int .i64 n, .int .i64 m] w Q := by
  apply X10.sound
  have h2 := Int.emod_nonneg n (by omega : m ≠ 0)
  have h3 := Int.emod_lt_of_pos n hm
  have ht := tmod_pick n m hm
  unfold X10.f
  refine ⟨by omega, bc_dec (fun hlt => ?_) (fun hge => ?_)⟩
  · rw [if_pos hlt] at ht
    rw [ht, i64w _ (by omega) (by omega)]; exact h
  · rw [if_neg hge] at ht
    rw [ht]; exact h
theorem md {n m : Int} (hm : 0 < m) : 0 ≤ n % m ∧ n % m < m := ⟨Int.emod_nonneg _ (by omega), Int.emod_lt_of_pos _ hm⟩
theorem mul_rng {a b A B : Int} (h1 : 0 ≤ a) (h2 : a ≤ A) (h3 : 0 ≤ b) (h4 : b ≤ B) : 0 ≤ a * b ∧ a * b ≤ A * B := ⟨Int.mul_nonneg h1 h3, Int.mul_le_mul h2 h4 h3 (Int.le_trans h1 h2)⟩
theorem wadd {b n m : Int} (h0 : 0 < m) (h1 : 0 ≤ b) (h2 : b + m ≤ 9223372036854775807) : IntKind.wrap .i64 (b + n % m) = b + n % m := by have := md (n := n) h0; exact i64w _ (by omega) (by omega)
theorem waddu {b n m : Int} (h0 : 0 < m) (h1 : 0 ≤ b) (h2 : b + m ≤ 9223372036854775807) : IntKind.wrap .u64 (b + n % m) = b + n % m := by have := md (n := n) h0; exact u64w _ (by omega) (by omega)
theorem wmodu {n m : Int} (h0 : 0 < m) (h2 : m ≤ 9223372036854775807) : IntKind.wrap .u64 (n % m) = n % m := by have := md (n := n) h0; exact u64w _ (by omega) (by omega)
theorem half_pos (u : Int) : 0 < (4 + u % 20) / 2 ∧ (4 + u % 20) / 2 ≤ 9223372036854775807 := by have := md (n := u) (m := 20) (by omega); omega
theorem half_eq (u : Int) : IntKind.wrap .i64 (Int.tdiv (IntKind.wrap .i64 (4 + u % 20)) 2) = (4 + u % 20) / 2 := by
  have := md (n := u) (m := 20) (by omega)
  rw [i64w (4 + u % 20) (by omega) (by omega), Int.tdiv_eq_ediv_of_nonneg (by omega), i64w _ (by omega) (by omega)]
theorem wmul (u l : Int) {b m : Int} (h0 : 0 < m) (h1 : 0 ≤ b) (h2 : b + m ≤ 1000) : IntKind.wrap .u64 ((4 + u % 20) * (b + l % m)) = (4 + u % 20) * (b + l % m) := by
  have := md (n := u) (m := 20) (by omega)
  have := md (n := l) h0
  have := mul_rng (a := 4 + u % 20) (b := b + l % m) (A := 23) (B := 1000) (by omega) (by omega) (by omega) (by omega)
  exact u64w _ (by omega) (by omega)
theorem wthree (a b : Int) : IntKind.wrap .u64 (1 + a % 30 + b % 60) = 1 + a % 30 + b % 60 := by
  have := md (n := a) (m := 30) (by omega)
  have := md (n := b) (m := 60) (by omega)
  exact u64w _ (by omega) (by omega)
theorem wfour (a b : Int) : IntKind.wrap .i64 (IntKind.wrap .i64 (1 + a % 4 + 1) + b % 4) = 1 + a % 4 + 1 + b % 4 := by
  have := md (n := a) (m := 4) (by omega)
  have := md (n := b) (m := 4) (by omega)
  rw [i64w (1 + a % 4 + 1) (by omega) (by omega), i64w _ (by omega) (by omega)]
def cfg4 (r : Raw) : List Value := [.int .i64 (2 + r.nodes % 3), .int .i64 (1 + r.mutators % 3), .int .i64 (2 + r.slots % 4), .int .i64 (16 * (1 + r.cel % 8)), .int .i64 0, .int .i64 0, .int .i64 0, .int .i64 0, .int .i64 0, .int .i64 0, .int .i64 0, .int .u64 0, .int .u64 0, .int .u64 0, .int .u64 0, .int .u64 0, .int .u64 0, .int .i64 0, .int .i64 0, .int .i64 0, .int .u64 0, .int .u64 0]
theorem config_j0 (b1 : Blk w g1 r.cells 24) (b3 : Blk w g3 (cfg4 r) 27) {old : List Value} (b2 : Blk w g22 old 27) (ho : old.length = 22) (n1 : g1 ≠ g3) (n2 : g22 ≠ g3) (F : Fr [] W w) (h3 : W.heap.size ≤ g3) (h2 : W.heap.size ≤ g22) (hQ : ∀ w', Fr [] W w' → Q (configOf r).val w') : X4.j0 Q (at0 g1 0) (at0 g22 0) (at0 g3 0) w := by
  unfold X4.j0
  have b3 : Blk w g3 [.int .i64 (2 + r.nodes % 3), .int .i64 (1 + r.mutators % 3), .int .i64 (2 + r.slots % 4), .int .i64 (16 * (1 + r.cel % 8)), .int .i64 (0), .int .i64 (0), .int .i64 (0), .int .i64 (0), .int .i64 (0), .int .i64 (0), .int .i64 (0), .int .u64 (0), .int .u64 (0), .int .u64 (0), .int .u64 (0), .int .u64 (0), .int .u64 (0), .int .i64 (0), .int .i64 (0), .int .i64 (0), .int .u64 (0), .int .u64 (0)] 27 := b3
  refine ld_int (b1.cat 4 _ rfl) (pick_spec (by decide) (by decide) ⟨_, rfl, ?_⟩)
  rw [wadd (by decide) (by decide) (by decide)]
  refine stB b3 (by simp only [List.length_cons, List.length_nil]; omega) fun x1 b3' f' => ?_
  replace F := F.loc f' h3
  replace b1 := b1.off1 n1 f'
  replace b2 := b2.off1 n2 f'
  clear f'
  have b4 : Blk x1 g3 [.int .i64 (2 + r.nodes % 3), .int .i64 (1 + r.mutators % 3), .int .i64 (2 + r.slots % 4), .int .i64 (16 * (1 + r.cel % 8)), .int .i64 (2 + r.objects % 14), .int .i64 (0), .int .i64 (0), .int .i64 (0), .int .i64 (0), .int .i64 (0), .int .i64 (0), .int .u64 (0), .int .u64 (0), .int .u64 (0), .int .u64 (0), .int .u64 (0), .int .u64 (0), .int .i64 (0), .int .i64 (0), .int .i64 (0), .int .u64 (0), .int .u64 (0)] 27 := b3'
  clear b3'
  replace b3 := b4
  clear b4
  refine ld_int (b1.cat 5 _ rfl) (pick_spec (by decide) (by decide) ⟨_, rfl, ?_⟩)
  rw [wadd (by decide) (by decide) (by decide)]
  refine stB b3 (by simp only [List.length_cons, List.length_nil]; omega) fun x2 b3' f' => ?_
  replace F := F.loc f' h3
  replace b1 := b1.off1 n1 f'
  replace b2 := b2.off1 n2 f'
  clear f'
  have b4 : Blk x2 g3 [.int .i64 (2 + r.nodes % 3), .int .i64 (1 + r.mutators % 3), .int .i64 (2 + r.slots % 4), .int .i64 (16 * (1 + r.cel % 8)), .int .i64 (2 + r.objects % 14), .int .i64 (2 + r.stubs % 10), .int .i64 (0), .int .i64 (0), .int .i64 (0), .int .i64 (0), .int .i64 (0), .int .u64 (0), .int .u64 (0), .int .u64 (0), .int .u64 (0), .int .u64 (0), .int .u64 (0), .int .i64 (0), .int .i64 (0), .int .i64 (0), .int .u64 (0), .int .u64 (0)] 27 := b3'
  clear b3'
  replace b3 := b4
  clear b4
  refine ld_int (b1.cat 6 _ rfl) (pick_spec (by decide) (by decide) ⟨_, rfl, ?_⟩)
  rw [wadd (by decide) (by decide) (by decide)]
  refine stB b3 (by simp only [List.length_cons, List.length_nil]; omega) fun x3 b3' f' => ?_
  replace F := F.loc f' h3
  replace b1 := b1.off1 n1 f'
  replace b2 := b2.off1 n2 f'
  clear f'
  have b4 : Blk x3 g3 [.int .i64 (2 + r.nodes % 3), .int .i64 (1 + r.mutators % 3), .int .i64 (2 + r.slots % 4), .int .i64 (16 * (1 + r.cel % 8)), .int .i64 (2 + r.objects % 14), .int .i64 (2 + r.stubs % 10), .int .i64 (1 + r.calls % 6), .int .i64 (0), .int .i64 (0), .int .i64 (0), .int .i64 (0), .int .u64 (0), .int .u64 (0), .int .u64 (0), .int .u64 (0), .int .u64 (0), .int .u64 (0), .int .i64 (0), .int .i64 (0), .int .i64 (0), .int .u64 (0), .int .u64 (0)] 27 := b3'
  clear b3'
  replace b3 := b4
  clear b4
  refine ld_int (b1.cat 7 _ rfl) (pick_spec (by decide) (by decide) ⟨_, rfl, ?_⟩)
  rw [wadd (by decide) (by decide) (by decide)]
  refine stB b3 (by simp only [List.length_cons, List.length_nil]; omega) fun x4 b3' f' => ?_
  replace F := F.loc f' h3
  replace b1 := b1.off1 n1 f'
  replace b2 := b2.off1 n2 f'
  clear f'
  have b4 : Blk x4 g3 [.int .i64 (2 + r.nodes % 3), .int .i64 (1 + r.mutators % 3), .int .i64 (2 + r.slots % 4), .int .i64 (16 * (1 + r.cel % 8)), .int .i64 (2 + r.objects % 14), .int .i64 (2 + r.stubs % 10), .int .i64 (1 + r.calls % 6), .int .i64 (1 + r.window % 4), .int .i64 (0), .int .i64 (0), .int .i64 (0), .int .u64 (0), .int .u64 (0), .int .u64 (0), .int .u64 (0), .int .u64 (0), .int .u64 (0), .int .i64 (0), .int .i64 (0), .int .i64 (0), .int .u64 (0), .int .u64 (0)] 27 := b3'
  clear b3'
  replace b3 := b4
  clear b4
  refine ld_int (b1.cat 8 _ rfl) (pick_spec (by decide) (by decide) ⟨_, rfl, ?_⟩)
  rw [wadd (by decide) (by decide) (by decide)]
  refine stB b3 (by simp only [List.length_cons, List.length_nil]; omega) fun x5 b3' f' => ?_
  replace F := F.loc f' h3
  replace b1 := b1.off1 n1 f'
  replace b2 := b2.off1 n2 f'
  clear f'
  have b4 : Blk x5 g3 [.int .i64 (2 + r.nodes % 3), .int .i64 (1 + r.mutators % 3), .int .i64 (2 + r.slots % 4), .int .i64 (16 * (1 + r.cel % 8)), .int .i64 (2 + r.objects % 14), .int .i64 (2 + r.stubs % 10), .int .i64 (1 + r.calls % 6), .int .i64 (1 + r.window % 4), .int .i64 (1 + r.grey % 8), .int .i64 (0), .int .i64 (0), .int .u64 (0), .int .u64 (0), .int .u64 (0), .int .u64 (0), .int .u64 (0), .int .u64 (0), .int .i64 (0), .int .i64 (0), .int .i64 (0), .int .u64 (0), .int .u64 (0)] 27 := b3'
  clear b3'
  replace b3 := b4
  clear b4
  refine ld_int (b1.cat 9 _ rfl) (pick_spec (by decide) (by decide) ⟨_, rfl, ?_⟩)
  rw [wadd (by decide) (by decide) (by decide)]
  refine stB b3 (by simp only [List.length_cons, List.length_nil]; omega) fun x6 b3' f' => ?_
  replace F := F.loc f' h3
  replace b1 := b1.off1 n1 f'
  replace b2 := b2.off1 n2 f'
  clear f'
  have b4 : Blk x6 g3 [.int .i64 (2 + r.nodes % 3), .int .i64 (1 + r.mutators % 3), .int .i64 (2 + r.slots % 4), .int .i64 (16 * (1 + r.cel % 8)), .int .i64 (2 + r.objects % 14), .int .i64 (2 + r.stubs % 10), .int .i64 (1 + r.calls % 6), .int .i64 (1 + r.window % 4), .int .i64 (1 + r.grey % 8), .int .i64 (4 + r.bag % 60), .int .i64 (0), .int .u64 (0), .int .u64 (0), .int .u64 (0), .int .u64 (0), .int .u64 (0), .int .u64 (0), .int .i64 (0), .int .i64 (0), .int .i64 (0), .int .u64 (0), .int .u64 (0)] 27 := b3'
  clear b3'
  replace b3 := b4
  clear b4
  refine ld_int (b1.cat 10 _ rfl) (pick_spec (by decide) (by decide) ⟨_, rfl, ?_⟩)
  rw [wadd (by decide) (by decide) (by decide)]
  refine stB b3 (by simp only [List.length_cons, List.length_nil]; omega) fun x7 b3' f' => ?_
  replace F := F.loc f' h3
  replace b1 := b1.off1 n1 f'
  replace b2 := b2.off1 n2 f'
  clear f'
  have b4 : Blk x7 g3 [.int .i64 (2 + r.nodes % 3), .int .i64 (1 + r.mutators % 3), .int .i64 (2 + r.slots % 4), .int .i64 (16 * (1 + r.cel % 8)), .int .i64 (2 + r.objects % 14), .int .i64 (2 + r.stubs % 10), .int .i64 (1 + r.calls % 6), .int .i64 (1 + r.window % 4), .int .i64 (1 + r.grey % 8), .int .i64 (4 + r.bag % 60), .int .i64 (1 + r.inbox % 4), .int .u64 (0), .int .u64 (0), .int .u64 (0), .int .u64 (0), .int .u64 (0), .int .u64 (0), .int .i64 (0), .int .i64 (0), .int .i64 (0), .int .u64 (0), .int .u64 (0)] 27 := b3'
  clear b3'
  replace b3 := b4
  clear b4
  refine ld_int (b1.cat 11 _ rfl) (pick_spec (by decide) (by decide) ⟨_, rfl, ?_⟩)
  rw [wadd (by decide) (by decide) (by decide)]
  rw [waddu (by decide) (by decide) (by decide)]
  refine stB b3 (by simp only [List.length_cons, List.length_nil]; omega) fun x8 b3' f' => ?_
  replace F := F.loc f' h3
  replace b1 := b1.off1 n1 f'
  replace b2 := b2.off1 n2 f'
  clear f'
  have b4 : Blk x8 g3 [.int .i64 (2 + r.nodes % 3), .int .i64 (1 + r.mutators % 3), .int .i64 (2 + r.slots % 4), .int .i64 (16 * (1 + r.cel % 8)), .int .i64 (2 + r.objects % 14), .int .i64 (2 + r.stubs % 10), .int .i64 (1 + r.calls % 6), .int .i64 (1 + r.window % 4), .int .i64 (1 + r.grey % 8), .int .i64 (4 + r.bag % 60), .int .i64 (1 + r.inbox % 4), .int .u64 (4 + r.unit % 20), .int .u64 (0), .int .u64 (0), .int .u64 (0), .int .u64 (0), .int .u64 (0), .int .i64 (0), .int .i64 (0), .int .i64 (0), .int .u64 (0), .int .u64 (0)] 27 := b3'
  clear b3'
  replace b3 := b4
  clear b4
  refine ld_int (b1.cat 12 _ rfl) (ld_int (b3.cat 11 _ rfl) ⟨by decide, ?_⟩)
  rw [half_eq]
  refine pick_spec (half_pos _).1 (half_pos _).2 ⟨_, rfl, ?_⟩
  rw [wmodu (half_pos _).1 (half_pos _).2]
  refine stB b3 (by simp only [List.length_cons, List.length_nil]; omega) fun x9 b3' f' => ?_
  replace F := F.loc f' h3
  replace b1 := b1.off1 n1 f'
  replace b2 := b2.off1 n2 f'
  clear f'
  have b4 : Blk x9 g3 [.int .i64 (2 + r.nodes % 3), .int .i64 (1 + r.mutators % 3), .int .i64 (2 + r.slots % 4), .int .i64 (16 * (1 + r.cel % 8)), .int .i64 (2 + r.objects % 14), .int .i64 (2 + r.stubs % 10), .int .i64 (1 + r.calls % 6), .int .i64 (1 + r.window % 4), .int .i64 (1 + r.grey % 8), .int .i64 (4 + r.bag % 60), .int .i64 (1 + r.inbox % 4), .int .u64 (4 + r.unit % 20), .int .u64 (r.drift % ((4 + r.unit % 20) / 2)), .int .u64 (0), .int .u64 (0), .int .u64 (0), .int .u64 (0), .int .i64 (0), .int .i64 (0), .int .i64 (0), .int .u64 (0), .int .u64 (0)] 27 := b3'
  clear b3'
  replace b3 := b4
  clear b4
  refine drawn fun x10 f' _ => ?_
  replace F := F.tr f'
  replace b1 := b1.keep' f'
  replace b2 := b2.keep' f'
  replace b3 := b3.keep' f'
  clear f'
  refine ld_int (b3.cat 11 _ rfl) (ld_int (b1.cat 13 _ rfl) (pick_spec (by decide) (by decide) ⟨_, rfl, ⟨b3.cat 11 _ rfl, b3.cat 11 _ rfl⟩, ?_⟩))
  rw [wadd (by decide) (by decide) (by decide)]
  rw [waddu (by decide) (by decide) (by decide)]
  rw [wmul _ _ (by decide) (by decide) (by decide)]
  refine stB b3 (by simp only [List.length_cons, List.length_nil]; omega) fun x11 b3' f' => ?_
  replace F := F.loc f' h3
  replace b1 := b1.off1 n1 f'
  replace b2 := b2.off1 n2 f'
  clear f'
  have b4 : Blk x11 g3 [.int .i64 (2 + r.nodes % 3), .int .i64 (1 + r.mutators % 3), .int .i64 (2 + r.slots % 4), .int .i64 (16 * (1 + r.cel % 8)), .int .i64 (2 + r.objects % 14), .int .i64 (2 + r.stubs % 10), .int .i64 (1 + r.calls % 6), .int .i64 (1 + r.window % 4), .int .i64 (1 + r.grey % 8), .int .i64 (4 + r.bag % 60), .int .i64 (1 + r.inbox % 4), .int .u64 (4 + r.unit % 20), .int .u64 (r.drift % ((4 + r.unit % 20) / 2)), .int .u64 ((4 + r.unit % 20) * (40 + r.lease % 200)), .int .u64 (0), .int .u64 (0), .int .u64 (0), .int .i64 (0), .int .i64 (0), .int .i64 (0), .int .u64 (0), .int .u64 (0)] 27 := b3'
  clear b3'
  replace b3 := b4
  clear b4
  refine ld_int (b1.cat 14 _ rfl) (pick_spec (by decide) (by decide) ⟨_, rfl, ?_⟩)
  rw [wadd (by decide) (by decide) (by decide)]
  rw [waddu (by decide) (by decide) (by decide)]
  refine stB b3 (by simp only [List.length_cons, List.length_nil]; omega) fun x12 b3' f' => ?_
  replace F := F.loc f' h3
  replace b1 := b1.off1 n1 f'
  replace b2 := b2.off1 n2 f'
  clear f'
  have b4 : Blk x12 g3 [.int .i64 (2 + r.nodes % 3), .int .i64 (1 + r.mutators % 3), .int .i64 (2 + r.slots % 4), .int .i64 (16 * (1 + r.cel % 8)), .int .i64 (2 + r.objects % 14), .int .i64 (2 + r.stubs % 10), .int .i64 (1 + r.calls % 6), .int .i64 (1 + r.window % 4), .int .i64 (1 + r.grey % 8), .int .i64 (4 + r.bag % 60), .int .i64 (1 + r.inbox % 4), .int .u64 (4 + r.unit % 20), .int .u64 (r.drift % ((4 + r.unit % 20) / 2)), .int .u64 ((4 + r.unit % 20) * (40 + r.lease % 200)), .int .u64 (1 + r.wait % 30), .int .u64 (0), .int .u64 (0), .int .i64 (0), .int .i64 (0), .int .i64 (0), .int .u64 (0), .int .u64 (0)] 27 := b3'
  clear b3'
  replace b3 := b4
  clear b4
  refine drawn fun x13 f' _ => ?_
  replace F := F.tr f'
  replace b1 := b1.keep' f'
  replace b2 := b2.keep' f'
  replace b3 := b3.keep' f'
  clear f'
  refine ld_int (b3.cat 14 _ rfl) (ld_int (b1.cat 15 _ rfl) (pick_spec (by decide) (by decide) ⟨_, rfl, ⟨b3.cat 14 _ rfl, b3.cat 14 _ rfl⟩, ?_⟩))
  rw [wmodu (by decide) (by decide), wthree]
  refine stB b3 (by simp only [List.length_cons, List.length_nil]; omega) fun x14 b3' f' => ?_
  replace F := F.loc f' h3
  replace b1 := b1.off1 n1 f'
  replace b2 := b2.off1 n2 f'
  clear f'
  have b4 : Blk x14 g3 [.int .i64 (2 + r.nodes % 3), .int .i64 (1 + r.mutators % 3), .int .i64 (2 + r.slots % 4), .int .i64 (16 * (1 + r.cel % 8)), .int .i64 (2 + r.objects % 14), .int .i64 (2 + r.stubs % 10), .int .i64 (1 + r.calls % 6), .int .i64 (1 + r.window % 4), .int .i64 (1 + r.grey % 8), .int .i64 (4 + r.bag % 60), .int .i64 (1 + r.inbox % 4), .int .u64 (4 + r.unit % 20), .int .u64 (r.drift % ((4 + r.unit % 20) / 2)), .int .u64 ((4 + r.unit % 20) * (40 + r.lease % 200)), .int .u64 (1 + r.wait % 30), .int .u64 (1 + r.wait % 30 + r.most % 60), .int .u64 (0), .int .i64 (0), .int .i64 (0), .int .i64 (0), .int .u64 (0), .int .u64 (0)] 27 := b3'
  clear b3'
  replace b3 := b4
  clear b4
  refine drawn fun x15 f' _ => ?_
  replace F := F.tr f'
  replace b1 := b1.keep' f'
  replace b2 := b2.keep' f'
  replace b3 := b3.keep' f'
  clear f'
  refine ld_int (b3.cat 11 _ rfl) (ld_int (b1.cat 16 _ rfl) (pick_spec (by decide) (by decide) ⟨_, rfl, ⟨b3.cat 11 _ rfl, b3.cat 11 _ rfl⟩, ?_⟩))
  rw [wadd (by decide) (by decide) (by decide)]
  rw [waddu (by decide) (by decide) (by decide)]
  rw [wmul _ _ (by decide) (by decide) (by decide)]
  refine stB b3 (by simp only [List.length_cons, List.length_nil]; omega) fun x16 b3' f' => ?_
  replace F := F.loc f' h3
  replace b1 := b1.off1 n1 f'
  replace b2 := b2.off1 n2 f'
  clear f'
  have b4 : Blk x16 g3 [.int .i64 (2 + r.nodes % 3), .int .i64 (1 + r.mutators % 3), .int .i64 (2 + r.slots % 4), .int .i64 (16 * (1 + r.cel % 8)), .int .i64 (2 + r.objects % 14), .int .i64 (2 + r.stubs % 10), .int .i64 (1 + r.calls % 6), .int .i64 (1 + r.window % 4), .int .i64 (1 + r.grey % 8), .int .i64 (4 + r.bag % 60), .int .i64 (1 + r.inbox % 4), .int .u64 (4 + r.unit % 20), .int .u64 (r.drift % ((4 + r.unit % 20) / 2)), .int .u64 ((4 + r.unit % 20) * (40 + r.lease % 200)), .int .u64 (1 + r.wait % 30), .int .u64 (1 + r.wait % 30 + r.most % 60), .int .u64 ((4 + r.unit % 20) * (1 + r.patience % 60)), .int .i64 (0), .int .i64 (0), .int .i64 (0), .int .u64 (0), .int .u64 (0)] 27 := b3'
  clear b3'
  replace b3 := b4
  clear b4
  refine ld_int (b1.cat 17 _ rfl) (pick_spec (by decide) (by decide) ⟨_, rfl, ?_⟩)
  rw [wadd (by decide) (by decide) (by decide)]
  refine stB b3 (by simp only [List.length_cons, List.length_nil]; omega) fun x17 b3' f' => ?_
  replace F := F.loc f' h3
  replace b1 := b1.off1 n1 f'
  replace b2 := b2.off1 n2 f'
  clear f'
  have b4 : Blk x17 g3 [.int .i64 (2 + r.nodes % 3), .int .i64 (1 + r.mutators % 3), .int .i64 (2 + r.slots % 4), .int .i64 (16 * (1 + r.cel % 8)), .int .i64 (2 + r.objects % 14), .int .i64 (2 + r.stubs % 10), .int .i64 (1 + r.calls % 6), .int .i64 (1 + r.window % 4), .int .i64 (1 + r.grey % 8), .int .i64 (4 + r.bag % 60), .int .i64 (1 + r.inbox % 4), .int .u64 (4 + r.unit % 20), .int .u64 (r.drift % ((4 + r.unit % 20) / 2)), .int .u64 ((4 + r.unit % 20) * (40 + r.lease % 200)), .int .u64 (1 + r.wait % 30), .int .u64 (1 + r.wait % 30 + r.most % 60), .int .u64 ((4 + r.unit % 20) * (1 + r.patience % 60)), .int .i64 (1 + r.suspect % 4), .int .i64 (0), .int .i64 (0), .int .u64 (0), .int .u64 (0)] 27 := b3'
  clear b3'
  replace b3 := b4
  clear b4
  refine drawn fun x18 f' _ => ?_
  replace F := F.tr f'
  replace b1 := b1.keep' f'
  replace b2 := b2.keep' f'
  replace b3 := b3.keep' f'
  clear f'
  refine ld_int (b3.cat 17 _ rfl) (ld_int (b1.cat 18 _ rfl) (pick_spec (by decide) (by decide) ⟨_, rfl, ⟨b3.cat 17 _ rfl, b3.cat 17 _ rfl⟩, ?_⟩))
  rw [wfour]
  refine stB b3 (by simp only [List.length_cons, List.length_nil]; omega) fun x19 b3' f' => ?_
  replace F := F.loc f' h3
  replace b1 := b1.off1 n1 f'
  replace b2 := b2.off1 n2 f'
  clear f'
  have b4 : Blk x19 g3 [.int .i64 (2 + r.nodes % 3), .int .i64 (1 + r.mutators % 3), .int .i64 (2 + r.slots % 4), .int .i64 (16 * (1 + r.cel % 8)), .int .i64 (2 + r.objects % 14), .int .i64 (2 + r.stubs % 10), .int .i64 (1 + r.calls % 6), .int .i64 (1 + r.window % 4), .int .i64 (1 + r.grey % 8), .int .i64 (4 + r.bag % 60), .int .i64 (1 + r.inbox % 4), .int .u64 (4 + r.unit % 20), .int .u64 (r.drift % ((4 + r.unit % 20) / 2)), .int .u64 ((4 + r.unit % 20) * (40 + r.lease % 200)), .int .u64 (1 + r.wait % 30), .int .u64 (1 + r.wait % 30 + r.most % 60), .int .u64 ((4 + r.unit % 20) * (1 + r.patience % 60)), .int .i64 (1 + r.suspect % 4), .int .i64 (1 + r.suspect % 4 + 1 + r.trace % 4), .int .i64 (0), .int .u64 (0), .int .u64 (0)] 27 := b3'
  clear b3'
  replace b3 := b4
  clear b4
  refine ld_int (b1.cat 19 _ rfl) (pick_spec (by decide) (by decide) ⟨_, rfl, ?_⟩)
  rw [wadd (by decide) (by decide) (by decide)]
  refine stB b3 (by simp only [List.length_cons, List.length_nil]; omega) fun x20 b3' f' => ?_
  replace F := F.loc f' h3
  replace b1 := b1.off1 n1 f'
  replace b2 := b2.off1 n2 f'
  clear f'
  have b4 : Blk x20 g3 [.int .i64 (2 + r.nodes % 3), .int .i64 (1 + r.mutators % 3), .int .i64 (2 + r.slots % 4), .int .i64 (16 * (1 + r.cel % 8)), .int .i64 (2 + r.objects % 14), .int .i64 (2 + r.stubs % 10), .int .i64 (1 + r.calls % 6), .int .i64 (1 + r.window % 4), .int .i64 (1 + r.grey % 8), .int .i64 (4 + r.bag % 60), .int .i64 (1 + r.inbox % 4), .int .u64 (4 + r.unit % 20), .int .u64 (r.drift % ((4 + r.unit % 20) / 2)), .int .u64 ((4 + r.unit % 20) * (40 + r.lease % 200)), .int .u64 (1 + r.wait % 30), .int .u64 (1 + r.wait % 30 + r.most % 60), .int .u64 ((4 + r.unit % 20) * (1 + r.patience % 60)), .int .i64 (1 + r.suspect % 4), .int .i64 (1 + r.suspect % 4 + 1 + r.trace % 4), .int .i64 (1 + r.work % 12), .int .u64 (0), .int .u64 (0)] 27 := b3'
  clear b3'
  replace b3 := b4
  clear b4
  refine ld_int (b1.cat 20 _ rfl) ⟨by decide, ?_⟩
  refine stB b3 (by simp only [List.length_cons, List.length_nil]; omega) fun x21 b3' f' => ?_
  replace F := F.loc f' h3
  replace b1 := b1.off1 n1 f'
  replace b2 := b2.off1 n2 f'
  clear f'
  have b4 : Blk x21 g3 [.int .i64 (2 + r.nodes % 3), .int .i64 (1 + r.mutators % 3), .int .i64 (2 + r.slots % 4), .int .i64 (16 * (1 + r.cel % 8)), .int .i64 (2 + r.objects % 14), .int .i64 (2 + r.stubs % 10), .int .i64 (1 + r.calls % 6), .int .i64 (1 + r.window % 4), .int .i64 (1 + r.grey % 8), .int .i64 (4 + r.bag % 60), .int .i64 (1 + r.inbox % 4), .int .u64 (4 + r.unit % 20), .int .u64 (r.drift % ((4 + r.unit % 20) / 2)), .int .u64 ((4 + r.unit % 20) * (40 + r.lease % 200)), .int .u64 (1 + r.wait % 30), .int .u64 (1 + r.wait % 30 + r.most % 60), .int .u64 ((4 + r.unit % 20) * (1 + r.patience % 60)), .int .i64 (1 + r.suspect % 4), .int .i64 (1 + r.suspect % 4 + 1 + r.trace % 4), .int .i64 (1 + r.work % 12), .int .u64 (Int.tmod r.start 1000), .int .u64 (0)] 27 := b3'
  clear b3'
  replace b3 := b4
  clear b4
  refine ld_int (b1.cat 21 _ rfl) ⟨by decide, ?_⟩
  refine stB b3 (by simp only [List.length_cons, List.length_nil]; omega) fun x22 b3' f' => ?_
  replace F := F.loc f' h3
  replace b1 := b1.off1 n1 f'
  replace b2 := b2.off1 n2 f'
  clear f'
  have b4 : Blk x22 g3 [.int .i64 (2 + r.nodes % 3), .int .i64 (1 + r.mutators % 3), .int .i64 (2 + r.slots % 4), .int .i64 (16 * (1 + r.cel % 8)), .int .i64 (2 + r.objects % 14), .int .i64 (2 + r.stubs % 10), .int .i64 (1 + r.calls % 6), .int .i64 (1 + r.window % 4), .int .i64 (1 + r.grey % 8), .int .i64 (4 + r.bag % 60), .int .i64 (1 + r.inbox % 4), .int .u64 (4 + r.unit % 20), .int .u64 (r.drift % ((4 + r.unit % 20) / 2)), .int .u64 ((4 + r.unit % 20) * (40 + r.lease % 200)), .int .u64 (1 + r.wait % 30), .int .u64 (1 + r.wait % 30 + r.most % 60), .int .u64 ((4 + r.unit % 20) * (1 + r.patience % 60)), .int .i64 (1 + r.suspect % 4), .int .i64 (1 + r.suspect % 4 + 1 + r.trace % 4), .int .i64 (1 + r.work % 12), .int .u64 (Int.tmod r.start 1000), .int .u64 (Int.tmod r.last 1000)] 27 := b3'
  clear b3'
  replace b3 := b4
  clear b4
  refine ld_Cfg (s := configOf r) b3.cat (stAllB (vs := (configOf r).cells) b2 ho.symm fun wz bz fz => ld_Cfg (s := configOf r) bz.cat (hQ _ (F.loc fz h2)))
theorem config_spec (hQ : ∀ w', Fr [] w w' → Q (configOf r).val w') : CallR Tryz.prog 4 #[r.val] w Q := by
  apply X4.sound
  unfold X4.f
  refine newB fun g1 w2 b1 f2 h1 => newB fun g3 w4 b3 f4 h3 => drawn fun w5 f5 _ => ?_
  have b1 : Blk w5 g1 r.cells 24 := b1.keep' (f4.tr f5)
  have b3 := b3.keep' f5
  have F := (f2.tr f4).tr f5
  have s2 := f2.size
  have l1 := b1.lt
  have l3 := b3.lt
  have m0 := md (n := r.nodes) (m := 3) (by omega)
  have m1 := md (n := r.mutators) (m := 3) (by omega)
  have m2 := md (n := r.slots) (m := 4) (by omega)
  have m3 := md (n := r.cel) (m := 8) (by omega)
  have e0 : IntKind.wrap .i64 (2 + r.nodes % 3) = 2 + r.nodes % 3 := i64w _ (by omega) (by omega)
  have e1 : IntKind.wrap .i64 (1 + r.mutators % 3) = 1 + r.mutators % 3 := i64w _ (by omega) (by omega)
  have e2 : IntKind.wrap .i64 (2 + r.slots % 4) = 2 + r.slots % 4 := i64w _ (by omega) (by omega)
  have e3 : IntKind.wrap .i64 (16 * IntKind.wrap .i64 (1 + r.cel % 8)) = 16 * (1 + r.cel % 8) := by rw [i64w (1 + r.cel % 8) (by omega) (by omega), i64w _ (by omega) (by omega)]
  have fin : ∀ {g22 : Nat} {w23 : World} {old : List Value}, Blk w23 g22 old 27 → old.length = 22 → Fr [] w5 w23 → w5.heap.size ≤ g22 → stAll w23 (at0 g22 0) (cfg4 r) fun w24 => X4.j0 Q (at0 g1 0) (at0 g3 0) (at0 g22 0) w24 := by
    intro g22 w23 old b ho f h
    refine stAllB b ho.symm fun w24 b24 f24 => ?_
    have z := F.size
    exact config_j0 (W := w) ((b1.keep' f).off1 (by omega) f24) b24 ((b3.keep' f).off1 (by omega) f24) rfl (by omega) (by omega) ((F.tr f).loc f24 (by omega)) (by omega) (by omega) hQ
  refine ⟨?_, ?_, ?_, ?_, ?_⟩
  · (repeat (first | refine ld_int (b1.cat _ _ rfl) ?_ | refine pick_spec (by omega) (by omega) ⟨_, rfl, ?_⟩ | refine ⟨⟨b1.cat _ _ rfl, b1.cat _ _ rfl⟩, ?_⟩))
    refine newB fun g22 w23 b22 f23 h23 => ?_
    have b1' := b1.keep' f23
    (repeat (first | refine ⟨⟨b1.cat _ _ rfl, b1'.cat _ _ rfl⟩, ?_⟩ | refine pick_spec (by omega) (by omega) ⟨_, rfl, ?_⟩ | refine ⟨⟨b1'.cat _ _ rfl, b1'.cat _ _ rfl⟩, ?_⟩))
    rw [e0, e1, e2, e3]
    exact fin b22 rfl f23 h23
  · (repeat (first | refine ld_int (b1.cat _ _ rfl) ?_ | refine pick_spec (by omega) (by omega) ⟨_, rfl, ?_⟩ | refine ⟨⟨b1.cat _ _ rfl, b1.cat _ _ rfl⟩, ?_⟩))
    refine newB fun g22 w23 b22 f23 h23 => ?_
    have b1' := b1.keep' f23
    (repeat (first | refine ⟨⟨b1.cat _ _ rfl, b1'.cat _ _ rfl⟩, ?_⟩ | refine pick_spec (by omega) (by omega) ⟨_, rfl, ?_⟩ | refine ⟨⟨b1'.cat _ _ rfl, b1'.cat _ _ rfl⟩, ?_⟩))
    rw [e0, e1, e2, e3]
    exact fin b22 rfl f23 h23
  · (repeat (first | refine ld_int (b1.cat _ _ rfl) ?_ | refine pick_spec (by omega) (by omega) ⟨_, rfl, ?_⟩ | refine ⟨⟨b1.cat _ _ rfl, b1.cat _ _ rfl⟩, ?_⟩))
    refine newB fun g22 w23 b22 f23 h23 => ?_
    have b1' := b1.keep' f23
    (repeat (first | refine ⟨⟨b1.cat _ _ rfl, b1'.cat _ _ rfl⟩, ?_⟩ | refine pick_spec (by omega) (by omega) ⟨_, rfl, ?_⟩ | refine ⟨⟨b1'.cat _ _ rfl, b1'.cat _ _ rfl⟩, ?_⟩))
    rw [e0, e1, e2, e3]
    exact fin b22 rfl f23 h23
  · (repeat (first | refine ld_int (b1.cat _ _ rfl) ?_ | refine pick_spec (by omega) (by omega) ⟨_, rfl, ?_⟩ | refine ⟨⟨b1.cat _ _ rfl, b1.cat _ _ rfl⟩, ?_⟩))
    refine newB fun g22 w23 b22 f23 h23 => ?_
    have b1' := b1.keep' f23
    (repeat (first | refine ⟨⟨b1.cat _ _ rfl, b1'.cat _ _ rfl⟩, ?_⟩ | refine pick_spec (by omega) (by omega) ⟨_, rfl, ?_⟩ | refine ⟨⟨b1'.cat _ _ rfl, b1'.cat _ _ rfl⟩, ?_⟩))
    rw [e0, e1, e2, e3]
    exact fin b22 rfl f23 h23
  · (repeat (first | refine ld_int (b1.cat _ _ rfl) ?_ | refine pick_spec (by omega) (by omega) ⟨_, rfl, ?_⟩ | refine ⟨⟨b1.cat _ _ rfl, b1.cat _ _ rfl⟩, ?_⟩))
    refine newB fun g22 w23 b22 f23 h23 => ?_
    have b1' := b1.keep' f23
    (repeat (first | refine ⟨⟨b1.cat _ _ rfl, b1'.cat _ _ rfl⟩, ?_⟩ | refine pick_spec (by omega) (by omega) ⟨_, rfl, ?_⟩ | refine ⟨⟨b1'.cat _ _ rfl, b1'.cat _ _ rfl⟩, ?_⟩))
    rw [e0, e1, e2, e3]
    exact fin b22 rfl f23 h23
end
def mayA (c : Cfg) : Bool := inB c.nodes 64 && inB c.mutators 4 && inB c.slots 8 && inB c.cel 4096 && (Int.tmod c.cel 16 == 0)
def mayC (c : Cfg) : Bool := inB c.objects 64 && inB c.stubs 64 && inB c.calls 16 && inB c.window 8 && inB c.grey 64 && inB c.bag 256 && inB c.inbox 16
def mayD (c : Cfg) : Bool := decide (c.unit ≥ 1) && decide (c.unit ≤ 1048576) && decide (c.drift < c.unit) && decide (c.lease ≤ 4294967295) && decide (IntKind.wrap .u64 (c.lease * IntKind.wrap .u64 (c.unit - c.drift)) ≥ IntKind.wrap .u64 (8 * IntKind.wrap .u64 (c.unit + c.drift)))
def mayE (c : Cfg) : Bool := decide (c.wait ≥ 1) && decide (c.wait ≤ c.most) && decide (c.most ≤ 4294967295) && decide (c.patience ≥ 1) && decide (c.patience ≤ 4294967295)
def mayF (c : Cfg) : Bool := inB c.suspect 38 && decide (c.trace > c.suspect) && decide (c.trace < 40) && inB c.work 64 && decide (c.start ≤ 4611686018427387904) && decide (c.last ≤ 72057594037927935)
def mayB (c : Cfg) : Bool := mayA c && mayC c && mayD c && mayE c && mayF c
section
variable {w w' W : World} {Q : Value → World → Prop} {g gt : Nat} {ft : List Nat} {c : Cfg}
theorem may_j0 {a b d e : Bool} (hb : Blk w g c.cells 27) (ha : a = mayA c) (hc : b = mayC c) (hd : d = mayD c) (he : e = mayE c) (hQ : Q (.bool (mayB c)) w) : X11.j0 Q (at0 g 0) a b d e w := by
  unfold X11.j0
  have no : mayB c = false → Q (.bool false) w := fun h => by rw [h] at hQ; exact hQ
  unfold mayB at *
  rw [← ha, ← hc, ← hd, ← he] at *
  refine bc_bool (fun h1 => bc_bool (fun h2 => bc_bool (fun h3 => bc_bool (fun h4 => ?_) (fun h => no (by simp [h]))) (fun h => no (by simp [h]))) (fun h => no (by simp [h]))) (fun h => no (by simp [h]))
  unfold mayF at *
  refine ld_int (hb.cat 17 _ rfl) (apin_spec ⟨_, rfl, bc_bool (fun h5 => ?_) (fun h => no (by simp [h]))⟩)
  refine ld_int (hb.cat 18 _ rfl) (ld_int (hb.cat 17 _ rfl) (bc_dec (fun h6 => ?_) (fun h => no (by simp [h]))))
  refine ld_int (hb.cat 18 _ rfl) (bc_dec (fun h7 => ?_) (fun h => no (by simp [h])))
  refine ld_int (hb.cat 19 _ rfl) (apin_spec ⟨_, rfl, bc_bool (fun h8 => ?_) (fun h => no (by simp [h]))⟩)
  refine ld_int (hb.cat 20 _ rfl) (bc_dec (fun h9 => ?_) (fun h => no (by simp [h])))
  refine ld_int (hb.cat 21 _ rfl) ?_
  have h6' : c.trace > c.suspect := h6
  simpa [h1, h2, h3, h4, h5, h6', h7, h8, h9] using hQ
theorem may_j1 {a b d : Bool} (hb : Blk w g c.cells 27) (ha : a = mayA c) (hc : b = mayC c) (hd : d = mayD c) (hQ : Q (.bool (mayB c)) w) : X11.j1 Q (at0 g 0) a b d w := by
  unfold X11.j1
  have no : mayE c = false → X11.j0 Q (at0 g 0) a b d false w := fun h => may_j0 hb ha hc hd h.symm hQ
  unfold mayE at no
  refine ld_int (hb.cat 14 _ rfl) (bc_dec (fun h1 => ?_) (fun h => no (by simp [h])))
  refine ld_int (hb.cat 14 _ rfl) (ld_int (hb.cat 15 _ rfl) (bc_dec (fun h2 => ?_) (fun h => no (by simp [h]))))
  refine ld_int (hb.cat 15 _ rfl) (bc_dec (fun h3 => ?_) (fun h => no (by simp [h])))
  refine ld_int (hb.cat 16 _ rfl) (bc_dec (fun h4 => ?_) (fun h => no (by simp [h])))
  exact ld_int (hb.cat 16 _ rfl) (may_j0 hb ha hc hd (by simp [mayE, h1, h2, h3, h4]) hQ)
theorem may_j2 {a b : Bool} (hb : Blk w g c.cells 27) (ha : a = mayA c) (hc : b = mayC c) (hQ : Q (.bool (mayB c)) w) : X11.j2 Q (at0 g 0) a b w := by
  unfold X11.j2
  have no : mayD c = false → X11.j1 Q (at0 g 0) a b false w := fun h => may_j1 hb ha hc h.symm hQ
  unfold mayD at no
  refine ld_int (hb.cat 11 _ rfl) (bc_dec (fun h1 => ?_) (fun h => no (by simp [h])))
  refine ld_int (hb.cat 11 _ rfl) (bc_dec (fun h2 => ?_) (fun h => no (by simp [h])))
  refine ld_int (hb.cat 12 _ rfl) (ld_int (hb.cat 11 _ rfl) (bc_dec (fun h3 => ?_) (fun h => no (by simp [h]))))
  refine ld_int (hb.cat 13 _ rfl) (bc_dec (fun h4 => ?_) (fun h => no (by simp [h])))
  exact ld_int (hb.cat 13 _ rfl) (ld_int (hb.cat 11 _ rfl) (ld_int (hb.cat 12 _ rfl) (ld_int (hb.cat 11 _ rfl) (ld_int (hb.cat 12 _ rfl) (may_j1 hb ha hc (by simp [mayD, h1, h2, h3, h4]) hQ)))))
theorem may_j3 {a : Bool} (hb : Blk w g c.cells 27) (ha : a = mayA c) (hQ : Q (.bool (mayB c)) w) : X11.j3 Q (at0 g 0) a w := by
  unfold X11.j3
  have no : mayC c = false → X11.j2 Q (at0 g 0) a false w := fun h => may_j2 hb ha h.symm hQ
  unfold mayC at no
  refine ld_int (hb.cat 4 _ rfl) (apin_spec ⟨_, rfl, bc_bool (fun h1 => ?_) (fun h => no (by simp [h]))⟩)
  refine ld_int (hb.cat 5 _ rfl) (apin_spec ⟨_, rfl, bc_bool (fun h2 => ?_) (fun h => no (by simp [h]))⟩)
  refine ld_int (hb.cat 6 _ rfl) (apin_spec ⟨_, rfl, bc_bool (fun h3 => ?_) (fun h => no (by simp [h]))⟩)
  refine ld_int (hb.cat 7 _ rfl) (apin_spec ⟨_, rfl, bc_bool (fun h4 => ?_) (fun h => no (by simp [h]))⟩)
  refine ld_int (hb.cat 8 _ rfl) (apin_spec ⟨_, rfl, bc_bool (fun h5 => ?_) (fun h => no (by simp [h]))⟩)
  refine ld_int (hb.cat 9 _ rfl) (apin_spec ⟨_, rfl, bc_bool (fun h6 => ?_) (fun h => no (by simp [h]))⟩)
  exact ld_int (hb.cat 10 _ rfl) (apin_spec ⟨_, rfl, may_j2 hb ha (by simp [mayC, h1, h2, h3, h4, h5, h6]) hQ⟩)
theorem may_spec (hQ : ∀ w', Fr [] w w' → Q (.bool (mayB c)) w') : CallR Tryz.prog 11 #[c.val] w Q := by
  apply X11.sound
  unfold X11.f
  refine newB fun g w2 hb f2 _ => ?_
  have hb : Blk w2 g c.cells 27 := hb
  have no : mayA c = false → X11.j3 Q (at0 g 0) false w2 := fun h => may_j3 hb h.symm (hQ _ f2)
  unfold mayA at no
  refine ld_int (hb.cat 0 _ rfl) (apin_spec ⟨_, rfl, bc_bool (fun h1 => ?_) (fun h => no (by simp [h]))⟩)
  refine ld_int (hb.cat 1 _ rfl) (apin_spec ⟨_, rfl, bc_bool (fun h2 => ?_) (fun h => no (by simp [h]))⟩)
  refine ld_int (hb.cat 2 _ rfl) (apin_spec ⟨_, rfl, bc_bool (fun h3 => ?_) (fun h => no (by simp [h]))⟩)
  refine ld_int (hb.cat 3 _ rfl) (apin_spec ⟨_, rfl, bc_bool (fun h4 => ?_) (fun h => no (by simp [h]))⟩)
  exact ld_int (hb.cat 3 _ rfl) ⟨by omega, may_j3 hb (by simp [mayA, h1, h2, h3, h4]) (hQ _ f2)⟩
theorem may_nodes (h : mayB c = true) : 1 ≤ c.nodes ∧ c.nodes ≤ 64 := by
  simp only [mayB, mayA, Bool.and_eq_true] at h
  have := h.1.1.1.1.1.1.1.1
  unfold inB at this
  split at this
  · simp at this; omega
  · cases this
theorem may_wait (h : mayB c = true) : 1 ≤ c.wait ∧ c.wait ≤ c.most ∧ c.most ≤ 4294967295 := by
  simp only [mayB, mayE, Bool.and_eq_true, decide_eq_true_eq] at h
  exact ⟨h.1.2.1.1.1.1, h.1.2.1.1.1.2, h.1.2.1.1.2⟩
end
structure RawW (r : Raw) : Prop where
  s0 : 0 ≤ r.start
  l0 : 0 ≤ r.last
theorem inB_of {n most : Int} (h1 : 1 ≤ n) (h2 : n ≤ most) : inB n most = true := by unfold inB; rw [if_pos h1, decide_eq_true h2]
theorem drift_half (r : Raw) : 0 ≤ (configOf r).drift ∧ 2 * (configOf r).drift + 2 ≤ (configOf r).unit ∧ 4 ≤ (configOf r).unit ∧ (configOf r).unit ≤ 23 := by
  have m := md (n := r.unit) (m := 20) (by omega)
  have d := md (n := r.drift) (m := (4 + r.unit % 20) / 2) (by omega)
  show 0 ≤ r.drift % ((4 + r.unit % 20) / 2) ∧ 2 * (r.drift % ((4 + r.unit % 20) / 2)) + 2 ≤ 4 + r.unit % 20 ∧ 4 ≤ 4 + r.unit % 20 ∧ 4 + r.unit % 20 ≤ 23
  omega
theorem lease_rng (r : Raw) : 160 ≤ (configOf r).lease ∧ (configOf r).lease ≤ 5497 := by
  have m := md (n := r.unit) (m := 20) (by omega)
  have d := md (n := r.lease) (m := 200) (by omega)
  have h1 := Int.mul_le_mul (a := 4) (b := 40) (c := 4 + r.unit % 20) (d := 40 + r.lease % 200) (by omega) (by omega) (by omega) (by omega)
  have h2 := Int.mul_le_mul (a := 4 + r.unit % 20) (b := 40 + r.lease % 200) (c := 23) (d := 239) (by omega) (by omega) (by omega) (by omega)
  show 160 ≤ (4 + r.unit % 20) * (40 + r.lease % 200) ∧ (4 + r.unit % 20) * (40 + r.lease % 200) ≤ 5497
  omega
theorem may_config {r : Raw} (hr : RawW r) : mayB (configOf r) = true := by
  have dh := drift_half r
  have ls := lease_rng r
  have hA : mayA (configOf r) = true := by
    have a0 := md (n := r.nodes) (m := 3) (by omega)
    have a1 := md (n := r.mutators) (m := 3) (by omega)
    have a2 := md (n := r.slots) (m := 4) (by omega)
    have a3 := md (n := r.cel) (m := 8) (by omega)
    unfold mayA configOf
    simp only
    rw [inB_of (by omega) (by omega), inB_of (by omega) (by omega), inB_of (by omega) (by omega), inB_of (by omega) (by omega), Int.tmod_eq_emod_of_nonneg (by omega), show 16 * (1 + r.cel % 8) % 16 = 0 by omega]
    rfl
  have hC : mayC (configOf r) = true := by
    have a0 := md (n := r.objects) (m := 14) (by omega)
    have a1 := md (n := r.stubs) (m := 10) (by omega)
    have a2 := md (n := r.calls) (m := 6) (by omega)
    have a3 := md (n := r.window) (m := 4) (by omega)
    have a4 := md (n := r.grey) (m := 8) (by omega)
    have a5 := md (n := r.bag) (m := 60) (by omega)
    have a6 := md (n := r.inbox) (m := 4) (by omega)
    unfold mayC configOf
    simp only
    rw [inB_of (by omega) (by omega), inB_of (by omega) (by omega), inB_of (by omega) (by omega), inB_of (by omega) (by omega), inB_of (by omega) (by omega), inB_of (by omega) (by omega), inB_of (by omega) (by omega)]
    rfl
  have hD : mayD (configOf r) = true := by
    have p1 := mul_rng (a := (configOf r).lease) (b := (configOf r).unit - (configOf r).drift) (A := 5497) (B := 23) (by omega) (by omega) (by omega) (by omega)
    have p2 := Int.mul_le_mul_of_nonneg_right (a := 160) (b := (configOf r).lease) (c := (configOf r).unit - (configOf r).drift) (by omega) (by omega)
    unfold mayD
    rw [u64w ((configOf r).unit - (configOf r).drift) (by omega) (by omega), u64w ((configOf r).unit + (configOf r).drift) (by omega) (by omega), u64w ((configOf r).lease * _) (by omega) (by omega), u64w (8 * _) (by omega) (by omega)]
    rw [decide_eq_true (by omega), decide_eq_true (by omega), decide_eq_true (by omega), decide_eq_true (by omega), decide_eq_true (by omega)]
    rfl
  have hE : mayE (configOf r) = true := by
    have a0 := md (n := r.wait) (m := 30) (by omega)
    have a1 := md (n := r.most) (m := 60) (by omega)
    have a2 := md (n := r.unit) (m := 20) (by omega)
    have a3 := md (n := r.patience) (m := 60) (by omega)
    have h1 := Int.mul_le_mul (a := 4) (b := 1) (c := 4 + r.unit % 20) (d := 1 + r.patience % 60) (by omega) (by omega) (by omega) (by omega)
    have h2 := Int.mul_le_mul (a := 4 + r.unit % 20) (b := 1 + r.patience % 60) (c := 23) (d := 60) (by omega) (by omega) (by omega) (by omega)
    unfold mayE configOf
    simp only
    rw [decide_eq_true (by omega), decide_eq_true (by omega), decide_eq_true (by omega), decide_eq_true (by omega), decide_eq_true (by omega)]
    rfl
  have hF : mayF (configOf r) = true := by
    have a0 := md (n := r.suspect) (m := 4) (by omega)
    have a1 := md (n := r.trace) (m := 4) (by omega)
    have a2 := md (n := r.work) (m := 12) (by omega)
    have s1 : Int.tmod r.start 1000 < 1000 := by rw [Int.tmod_eq_emod_of_nonneg hr.s0]; exact Int.emod_lt_of_pos _ (by omega)
    have s2 : Int.tmod r.last 1000 < 1000 := by rw [Int.tmod_eq_emod_of_nonneg hr.l0]; exact Int.emod_lt_of_pos _ (by omega)
    unfold mayF configOf
    simp only
    rw [inB_of (by omega) (by omega), decide_eq_true (by omega), decide_eq_true (by omega), inB_of (by omega) (by omega), decide_eq_true (by omega), decide_eq_true (by omega)]
    rfl
  unfold mayB
  rw [hA, hC, hD, hE, hF]
  rfl
end Go.Proofs.YtdgoalhnkegbmaaGreatX
namespace Go.Proofs.YtdgoalhnkegbmaaGreatX
open Go.RowKit
set_option linter.unusedVariables false
set_option linter.unusedSimpArgs false
set_option maxRecDepth 100000
def newC (c : Cfg) (node last : Int) : Cs := ⟨c, node, last, List.replicate (c.nodes + 1).toNat last, 0, []⟩
def newOk (c : Cfg) (node last : Int) : Prop := mayB c = true ∧ ¬ node < 1 ∧ ¬ node > c.nodes ∧ ¬ last > 72057594037927935
theorem may_calls {c : Cfg} (h : mayB c = true) : 1 ≤ c.calls ∧ c.calls ≤ 16 ∧ 1 ≤ c.window ∧ c.window ≤ 8 := by
  simp only [mayB, mayC, Bool.and_eq_true] at h
  have h1 := h.1.1.1.2.1.1.1.1.2
  have h2 := h.1.1.1.2.1.1.1.2
  unfold inB at h1 h2
  split at h1
  · split at h2
    · simp at h1 h2; omega
    · cases h2
  · cases h1
theorem makeU {w : World} {n : Nat} {K : Value → World → Prop} (hn : n ≤ 100000) (hK : ∀ p w', Own 22 1 w' (some p) n n (List.replicate n (Value.int .u64 0)) → Fr [] w w' → w.heap.size ≤ p.block → K (.slice (some p) n n) w') :
    RunR Tryz.prog (Instr.makeSlice 51 (.int .i64 (n : Int)) (.int .i64 (n : Int))) w K := by
  have hi : Tryz.prog.info? 22 = some Tryz.t22 := by kernel_rfl
  have hz : Tryz.t22.zero = some (Value.int .u64 0) := by kernel_rfl
  have hby : Tryz.t22.bytes = 8 := by kernel_rfl
  have hsz : Tryz.t22.size = 1 := by kernel_rfl
  have hu : Tryz.prog.underlying 51 = some (.slice 22) := by kernel_rfl
  have hmx : n ≤ maxLen := by simp only [maxLen]; omega
  obtain ⟨w', hr, ho, hg⟩ := run_make_full (P := Tryz.prog) w 0 51 22 Tryz.t22 (Value.int .u64 0) 1 hu hi hz hsz .i64 .i64 n (by rw [hby]; omega) hmx (Nat.zero_le _)
  refine ⟨_, _, hr, hK _ w' ?_ (Fr.grown hg (fun k hk => by cases hk)) (Nat.le_refl _)⟩
  have e : (madeCells (Value.int .u64 0).cells (n * 1)).toList = List.replicate n (Value.int .u64 0) := by
    rw [Nat.mul_one]
    exact toList_madeCells_one _ _
  rw [e] at ho
  exact ho
section
variable {w w' W : World} {Q : Value → World → Prop} {g gs gx gt : Nat} {ft al : List Nat} {S : Cs} {c : Cfg} {node last : Int}
theorem new_l0 {lp : Option Addr} {lc n : Nat} (hn : n ≤ 100000) (hgl : g ∉ fbl lp)
    (hK : ∀ w', Blk w' g (c.cells ++ [.int .i64 node, .int .u64 last, .slice lp n lc, .pointer (some (at0 gt 0)), .int .u64 0]) 53 → Own 22 1 w' lp n lc ((List.replicate n last).map (Value.int .u64)) → Fr (fbl lp) W w' → Q (.tuple #[.pointer (some (at0 g 0)), .int .i64 0]) w') :
    ∀ (f i : Nat) (w : World) (vs : List Int), n - i < f → i ≤ n → vs.length = n → (∀ j, j < i → vs[j]? = some last) → Blk w g (c.cells ++ [.int .i64 node, .int .u64 last, .slice lp n lc, .pointer (some (at0 gt 0)), .int .u64 0]) 53 → Own 22 1 w lp n lc (vs.map (Value.int .u64)) → Fr (fbl lp) W w → X5.l0 Q f last (at0 g 0) (n : Int) (i : Int) w
  | 0, i, w, vs, hf, _, _, _, _, _, _ => by omega
  | f + 1, i, w, vs, hf, hi, hv, hs, b, o, F => by
    rw [X5.l0]
    refine bc_dec (fun h1 => ld_sl (b.cat 24 _ rfl) ⟨⟨by omega, by omega⟩, ?_⟩) (fun h1 => ?_)
    · cases lp with
      | none => have := o.none_c.1; omega
      | some a =>
        have hlt : i < (vs.map (Value.int .u64)).length := by simp; omega
        refine opt_some rfl ?_
        rw [Int.toNat_natCast, Nat.mul_one]
        have f1 : Fr (fbl (some a)) w (w.setCell (a.add i) (.int .u64 last)) := Fr.setCell (by rw [add_block]; simp [fbl]) _
        refine ⟨o.storeOk hlt, ?_⟩
        rw [i64w ((i : Int) + 1) (by omega) (by omega), show (i : Int) + 1 = ((i + 1 : Nat) : Int) by omega]
        refine new_l0 hn hgl hK f (i + 1) _ (vs.set i last) (by omega) (by omega) (by simp [hv]) (fun j hj => ?_) (b.keep f1 hgl) ?_ (F.tr f1)
        · rw [List.getElem?_set]
          by_cases h : i = j
          · rw [if_pos h, if_pos (by omega)]
          · rw [if_neg h]; exact hs j (by omega)
        · have := o.set hlt (.int .u64 last)
          rw [List.map_set]
          exact this
    · have hin : i = n := by omega
      subst hin
      have : vs = List.replicate i last := by
        apply List.ext_getElem?
        intro j
        by_cases hj : j < i
        · rw [hs j hj, List.getElem?_replicate, if_pos hj]
        · rw [List.getElem?_eq_none (by omega), List.getElem?_replicate, if_neg hj]
      rw [this] at o
      exact hK w b o F
theorem new_spec (h0 : 0 ≤ c.drift) (hbad : ¬ newOk c node last → ∀ w', Fr [] w w' → Q (.tuple #[.pointer none, .int .i64 1]) w')
    (hK : newOk c node last → ∀ g ft al w', PC w' g ft al (newC c node last) → Fr [] w w' → (∀ x ∈ al, w.heap.size ≤ x) → Q (.tuple #[.pointer (some (at0 g 0)), .int .i64 0]) w') :
    CallR Tryz.prog 5 #[c.val, .int .i64 node, .int .u64 last] w Q := by
  apply X5.sound
  unfold X5.f
  refine newB fun g1 w2 b f2 _ => ?_
  have b : Blk w2 g1 c.cells 27 := b
  refine ld_Cfg (s := c) b.cat (may_spec fun w26 f26 => ⟨_, rfl, ?_⟩)
  have F := f2.tr f26
  have b26 := b.keep' f26
  refine bc_bool (fun h => hbad (fun hn => by rw [hn.1] at h; cases h) _ F) (fun h => bc_dec (fun h1 => hbad (fun hn => hn.2.1 h1) _ F) (fun h1 => ld_int (b26.cat 0 _ rfl) (bc_dec (fun h2 => hbad (fun hn => hn.2.2.1 h2) _ F) (fun h2 => bc_dec (fun h3 => hbad (fun hn => hn.2.2.2 h3) _ F) (fun h3 => ?_)))))
  have hm : mayB c = true := by simpa using h
  have hs := may_calls hm
  have hn := may_nodes hm
  unfold X5.j1
  refine ld_int (b26.cat 6 _ rfl) (new_CB (fun hb => by omega) fun _ _ w3 t3 f3 => ⟨_, _, rfl, bc_ne (fun h => absurd rfl h) (fun _ => drawn fun w6 f6 _ => ?_)⟩)
  have b6 := b26.keep' (f3.tr f6)
  have F6 := F.tr (f3.tr f6)
  refine ld_Cfg (s := c) b6.cat (ld_int (b6.cat 0 _ rfl) ?_)
  have en : IntKind.wrap .i64 (c.nodes + 1) = (((c.nodes + 1).toNat : Nat) : Int) := by rw [i64w _ (by omega) (by omega)]; omega
  rw [en]
  refine makeU (by omega) fun p w31 o31 f31 hp => ⟨_, _, _, rfl, ⟨b6.cat, (b6.keep' f31).cat⟩, newB fun g w34 b34 f34 h34 => ?_⟩
  have z := F.size
  have z3 := f3.size
  have z6 := f6.size
  have z31 := f31.size
  have F34 := F6.tr (f31.tr f34)
  have hlp := o31.lt
  have hpb : p.block < w31.heap.size := hlp _ (by simp [fbl])
  have b34 : Blk w34 g (c.cells ++ [.int .i64 node, .int .u64 last, .slice (some p) (c.nodes + 1).toNat (c.nodes + 1).toNat, .pointer (some (at0 w26.heap.size 0)), .int .u64 0]) 53 := b34
  have t34 := (t3.keep' f6).keep' (f31.tr f34)
  refine ld_sl (b34.cat 24 _ rfl) ⟨(c.nodes + 1).toNat + 1, ?_⟩
  have hgp : g ∉ fbl (some p) := fun hm => by simp [fbl] at hm; omega
  refine new_l0 (W := w34) (c := c) (gt := w26.heap.size) (by omega) hgp (fun w' bw ow Fw => ?_) _ 0 w34 (List.replicate (c.nodes + 1).toNat 0) (by omega) (by omega) (by simp) (fun j hj => by omega) b34 (by rw [List.map_replicate]; exact o31.keep' f34) (Fr.refl _)
  have z34 := f34.size
  have zw := Fw.size
  have lt3 : w26.heap.size < w3.heap.size := t3.lt _ (by simp)
  have lg := b34.lt
  have nrt : ∀ x ∈ [w26.heap.size], x ∉ fbl (some p) := fun x hx hm => by simp [fbl] at hx hm; omega
  have Fall : Fr [] w w' := F34.trans Fw (fun x hx => by simp [fbl] at hx; exact .inr (by omega))
  have tw := t34.keep Fw nrt
  refine hK ⟨hm, h1, h2, h3⟩ g (g :: (fbl (some p) ++ [w26.heap.size])) (g :: (fbl (some p) ++ [w26.heap.size])) w' ⟨some p, (c.nodes + 1).toNat, w26.heap.size, [w26.heap.size], [], ⟨?_, ?_, tw, ⟨rfl, fun i e he => by simp at he⟩, rfl, hgp, fun hx => ?_, fun x hx hm => nrt x hm hx, fun x hx => hx, fun x hx => ?_, ?_⟩⟩ Fall (fun x hx => ?_)
  · unfold ccells newC
    simp only [List.length_replicate]
    exact bw
  · unfold newC
    simp only [List.length_replicate]
    exact ow
  · simp at hx; omega
  · simp [fbl] at hx; omega
  · unfold newC
    simp only [List.length_replicate]
    omega
  · simp [fbl] at hx; omega
theorem right_ask {y : Cp} {fl : Int} (h1 : 1 ≤ S.node ∧ S.node ≤ 64) (h2 : 1 ≤ y.to ∧ y.to ≤ 64) (h3 : S.node ≠ y.to) (h4 : okSerial y.num) (h5 : 1 ≤ fl ∧ fl ≤ y.num) (h6 : 1 ≤ y.op ∧ y.op ≤ 6) (h7 : 0 ≤ y.field ∧ y.field ≤ 63)
    (h8 : okID (y.tn, y.ts)) (h9 : noID (y.tn, y.ts) ↔ (y.op = 1 ∨ y.op = 6)) (h10 : (∀ x ∈ y.refs, okID x) ∧ y.refs.length ≤ 2) : Right (askM S y fl) := by
  have k : (askM S y fl).kind = 1 := rfl
  refine ⟨by rw [k]; decide, h1, h2, h3, fun i hi => ?_⟩
  unfold okF
  rw [k]
  match i, hi with
  | 0, _ => rw [if_pos (by decide)]; exact h4
  | 1, _ => rw [if_pos (by decide)]; exact h5
  | 2, _ => rw [if_neg (by decide)]; rfl
  | 3, _ => rw [if_pos (by decide)]; exact h6
  | 4, _ => rw [if_pos (by decide)]; exact h7
  | 5, _ => rw [if_pos (by decide)]; exact ⟨h8, by unfold aimsNone; rw [k]; simp; exact h9⟩
  | 6, _ => rw [if_neg (by decide)]; rfl
  | 7, _ => rw [if_neg (by decide)]; rfl
  | 8, _ => rw [if_neg (by decide)]; rfl
  | 9, _ => rw [if_neg (by decide)]; rfl
  | 10, _ => rw [if_neg (by decide)]; rfl
  | 11, _ => rw [if_pos (by decide)]; trivial
  | 12, _ => rw [if_pos (by decide)]; exact h10
  | 13, _ => rw [if_neg (by decide)]; rfl
  | 14, _ => rw [if_neg (by decide)]; rfl
end
end Go.Proofs.YtdgoalhnkegbmaaGreatX
namespace Go.Proofs.YtdgoalhnkegbmaaGreatX
open Go.ChangeShapes Go.WideShapes Go.RowKit
set_option linter.unusedVariables false
/-- n levels of what these cells of type t hold, and the reading d of them. -/
def Lies {H : Type} (P : Program) (w : World) : Nat → TypeId → List Value → DataW H → Prop
  | 0, _, _, _ => True
  | n + 1, t, cs, d => match P.underlying t with
    | some (.int k) => ∃ x, cs = [.int k x] ∧ d = .lit (.int k x) ∧ (Lit.int k x).wf = true
    | some .bool => ∃ b, cs = [.bool b] ∧ d = .lit (.bool b)
    | some .string => ∃ s : ByteArray, cs = [.string s] ∧ d = .lit (.string s.data.toList) ∧ s.size ≤ maxLen
    | some (.slice e) => (cs = [.slice none 0 0] ∧ d = .nil) ∨ ∃ (a : Addr) (len cap : Nat) (elems rest : List (DataW H)), cs = [.slice (some a) len cap] ∧ d = .slice elems rest ∧ len ≤ cap ∧ cap ≤ maxLen ∧ elems.length = len ∧
        ∀ i y, elems[i]? = some y → ∃ cs' : List Value, cs'.length = P.cellsOf e ∧ (∀ j u, cs'[j]? = some u → w.cell? (a.add (i * P.cellsOf e + j)) = some u) ∧ Lies P w n e cs' y
    | some (.struct fs) => cs.length = P.cellsOf t ∧ ∃ ds : List (DataW H), d = .agg ds ∧ ds.length = fs.size ∧ ∀ (i : Nat) (f : Field) (y : DataW H), fs[i]? = some f → ds[i]? = some y → Lies P w n f.type ((cs.drop f.offset).take (P.cellsOf f.type)) y
    | _ => True
theorem lies_of_trod {H : Type} {enc : TypeId × Value → H} {P : Program} {w : World} {base : Nat} {spare : Nat → Bool} {held : Bool} : ∀ (n m : Nat) (t : TypeId) (cs : List Value) (x : DataW H × List MemPlace),
    DataW.trod enc P w base spare held m t cs = some x → Lies P w n t cs x.1
  | 0, _, _, _, _, _ => trivial
  | n + 1, m, t, cs, x, h => by
    unfold Lies
    split
    · rename_i k hu
      obtain ⟨y, rfl, hx, hw⟩ := DataW.trod_int hu h
      exact ⟨y, rfl, by rw [hx], hw⟩
    · rename_i hu
      obtain ⟨b, rfl, hx⟩ := DataW.trod_bool hu h
      exact ⟨b, rfl, by rw [hx]⟩
    · rename_i hu
      obtain ⟨s, rfl, hx, hs⟩ := DataW.trod_string hu h
      exact ⟨s, rfl, by rw [hx], hs⟩
    · rename_i e hu
      rcases DataW.trod_slice hu h with ⟨h1, h2⟩ | ⟨a, len, cap, elems, rest, n', _, rfl, hx, _, hl, hm, hlen, hel, _, _⟩
      · exact .inl ⟨h1, by rw [h2]⟩
      · refine .inr ⟨a, len, cap, _, _, rfl, by rw [hx], hl, hm, by simpa using hlen, fun i y hy => ?_⟩
        rw [List.getElem?_map] at hy
        have hlt : i < len := by
          cases he : elems[i]? with
          | none => rw [he] at hy; cases hy
          | some z => have := (List.getElem?_eq_some_iff.1 he).1; omega
        have hi := hel i hlt
        cases he : elems[i]? with
        | none => rw [he] at hy; cases hy
        | some z =>
          rw [he] at hy hi
          simp at hy
          subst hy
          obtain ⟨cs', h1, h2⟩ := Option.bind_eq_some_iff.1 hi
          obtain ⟨_, hcl, hcell⟩ := World.cells?_some h1
          refine ⟨cs', hcl, fun j u hj => ?_, lies_of_trod n n' e cs' z h2⟩
          have hjl : j < P.cellsOf e := by rw [← hcl]; exact (List.getElem?_eq_some_iff.1 hj).1
          have := hcell j hjl
          rw [add_add] at this
          rw [this, hj]
    · rename_i fs hu
      obtain ⟨xs, n', _, hx, hcl, hxl, hf⟩ := DataW.trod_struct hu h
      refine ⟨hcl, xs.map (·.1), by rw [hx], by simpa using hxl, fun i f y hfi hy => ?_⟩
      rw [List.getElem?_map] at hy
      have hi := hf i f hfi
      cases he : xs[i]? with
      | none => rw [he] at hy; cases hy
      | some z =>
        rw [he] at hy hi
        simp at hy
        subst hy
        exact lies_of_trod n n' _ _ z hi
    · trivial
/-- One thing for each element. -/
theorem list_of {α β : Type} {R : Nat → α → β → Prop} : ∀ (l : List α) (k : Nat), (∀ i y, l[i]? = some y → ∃ z, R (k + i) y z) → ∃ zs : List β, zs.length = l.length ∧ ∀ i y z, l[i]? = some y → zs[i]? = some z → R (k + i) y z
  | [], k, _ => ⟨[], rfl, by simp⟩
  | a :: l, k, h => by
    obtain ⟨z, hz⟩ := h 0 a rfl
    obtain ⟨zs, hl, hr⟩ := list_of l (k + 1) (fun i y hy => by
      have := h (i + 1) y (by simpa using hy)
      rwa [show k + (i + 1) = k + 1 + i by omega] at this)
    refine ⟨z :: zs, by simp [hl], fun i y z' hy hz' => ?_⟩
    cases i with
    | zero => simp at hy hz'; subst hy; subst hz'; exact hz
    | succ i =>
      have := hr i y z' (by simpa using hy) (by simpa using hz')
      rwa [show k + 1 + i = k + (i + 1) by omega] at this
section
variable {H : Type} {P : Program} {w : World} {n : Nat} {t : TypeId} {cs : List Value} {d : DataW H}
theorem lies_int {k : IntKind} (hu : P.underlying t = some (.int k)) (h : Lies P w (n + 1) t cs d) : ∃ x, cs = [.int k x] ∧ d = .lit (.int k x) ∧ (Lit.int k x).wf = true := by
  unfold Lies at h; rw [hu] at h; exact h
theorem lies_bool (hu : P.underlying t = some .bool) (h : Lies P w (n + 1) t cs d) : ∃ b, cs = [.bool b] ∧ d = .lit (.bool b) := by
  unfold Lies at h; rw [hu] at h; exact h
theorem lies_slice {e : TypeId} (hu : P.underlying t = some (.slice e)) (h : Lies P w (n + 1) t cs d) : (cs = [.slice none 0 0] ∧ d = .nil) ∨ ∃ (a : Addr) (len cap : Nat) (elems rest : List (DataW H)), cs = [.slice (some a) len cap] ∧ d = .slice elems rest ∧ len ≤ cap ∧ cap ≤ maxLen ∧ elems.length = len ∧
        ∀ i y, elems[i]? = some y → ∃ cs' : List Value, cs'.length = P.cellsOf e ∧ (∀ j u, cs'[j]? = some u → w.cell? (a.add (i * P.cellsOf e + j)) = some u) ∧ Lies P w n e cs' y := by
  unfold Lies at h; rw [hu] at h; exact h
theorem lies_struct {fs : Array Field} (hu : P.underlying t = some (.struct fs)) (h : Lies P w (n + 1) t cs d) : cs.length = P.cellsOf t ∧ ∃ ds : List (DataW H), d = .agg ds ∧ ds.length = fs.size ∧
    ∀ (i : Nat) (f : Field) (y : DataW H), fs[i]? = some f → ds[i]? = some y → Lies P w n f.type ((cs.drop f.offset).take (P.cellsOf f.type)) y := by
  unfold Lies at h; rw [hu] at h; exact h
end
end Go.Proofs.YtdgoalhnkegbmaaGreatX
namespace Go.Proofs.YtdgoalhnkegbmaaGreatX
set_option linter.unusedVariables false
section
variable {H : Type} {P : Program} {ts : List TypeId} {ds : List (DataW H)} {t e : TypeId} {d : DataW H}
/-- an argument's weights are what a machine holds -/
def SizedD (P : Program) (t : TypeId) (d : DataW H) : Prop := (d.weights P t).all (· ≤ reachBytes) = true
theorem sized_at : ∀ {ts : List TypeId} {ds : List (DataW H)} {j : Nat}, (DataW.weightsEach P ts ds).all (· ≤ reachBytes) = true → ts[j]? = some t → ds[j]? = some d → SizedD P t d
  | [], _, j, h, ht, _ => by simp at ht
  | _ :: _, [], j, h, _, hd => by simp at hd
  | t' :: ts, d' :: ds, j, h, ht, hd => by
    rw [DataW.weightsEach, List.all_append, Bool.and_eq_true] at h
    cases j with
    | zero => simp at ht hd; subst ht; subst hd; exact h.1
    | succ j => exact sized_at h.2 (by simpa using ht) (by simpa using hd)
theorem sized_field {fs : Array Field} {parts : List (DataW H)} {i : Nat} {f : Field} {y : DataW H} (hu : P.underlying t = some (.struct fs)) (h : SizedD P t (.agg parts)) (hf : fs[i]? = some f) (hy : parts[i]? = some y) : SizedD P f.type y := by
  unfold SizedD at h
  simp only [DataW.weights, hu] at h
  exact sized_at (j := i) h (by simp [hf]) hy
theorem sized_len {elems spare : List (DataW H)} (hu : P.underlying t = some (.slice e)) (h : SizedD P t (.slice elems spare)) : (elems.length + spare.length) * P.bytesOf e ≤ 140737488351232 := by
  unfold SizedD at h
  simp only [DataW.weights, hu, List.all_cons, Bool.and_eq_true, decide_eq_true_eq] at h
  exact h.1
theorem sized_all {y : DataW H} : ∀ {elems : List (DataW H)}, (DataW.weightsAll P e elems).all (· ≤ reachBytes) = true → y ∈ elems → SizedD P e y
  | [], _, hm => by cases hm
  | a :: l, h, hm => by
    rw [DataW.weightsAll, List.all_append, Bool.and_eq_true] at h
    rcases List.mem_cons.1 hm with rfl | hm
    · exact h.1
    · exact sized_all h.2 hm
theorem sized_elem {elems spare : List (DataW H)} {y : DataW H} (hu : P.underlying t = some (.slice e)) (h : SizedD P t (.slice elems spare)) (hm : y ∈ elems) : SizedD P e y := by
  unfold SizedD at h
  simp only [DataW.weights, hu, List.all_cons, List.all_append, Bool.and_eq_true] at h
  exact sized_all h.2.1 hm
end
end Go.Proofs.YtdgoalhnkegbmaaGreatX
namespace Go.Proofs.YtdgoalhnkegbmaaGreatX
open Go.RowKit
set_option linter.unusedVariables false
set_option linter.unusedSimpArgs false
set_option maxRecDepth 100000
theorem Raw_of_lies {H : Type} {w : World} {n : Nat} {cs : List Value} {d : DataW H} (h : Lies Tryz.prog w (n + 2) 24 cs d) : ∃ x : Raw, cs = x.cells ∧ (Lit.int .u64 x.start).wf = true ∧ (Lit.int .u64 x.last).wf = true := by
  obtain ⟨hl, ds, hds, hdl, hf⟩ := lies_struct Tryz.underlying24 h
  rw [show Tryz.prog.cellsOf 24 = 22 by kernel_rfl] at hl
  match cs, hl with
  | [c0, c1, c2, c3, c4, c5, c6, c7, c8, c9, c10, c11, c12, c13, c14, c15, c16, c17, c18, c19, c20, c21], _ =>
  match ds, hdl with
  | [d0, d1, d2, d3, d4, d5, d6, d7, d8, d9, d10, d11, d12, d13, d14, d15, d16, d17, d18, d19, d20, d21], _ =>
  have g0 := hf 0 { name := "Nodes", type := 3, offset := 0, embedded := false, tag := "", pkgPath := "", byteOffset := 0 } d0 rfl rfl
  have g1 := hf 1 { name := "Mutators", type := 3, offset := 1, embedded := false, tag := "", pkgPath := "", byteOffset := 8 } d1 rfl rfl
  have g2 := hf 2 { name := "Slots", type := 3, offset := 2, embedded := false, tag := "", pkgPath := "", byteOffset := 16 } d2 rfl rfl
  have g3 := hf 3 { name := "Cells", type := 3, offset := 3, embedded := false, tag := "", pkgPath := "", byteOffset := 24 } d3 rfl rfl
  have g4 := hf 4 { name := "Objects", type := 3, offset := 4, embedded := false, tag := "", pkgPath := "", byteOffset := 32 } d4 rfl rfl
  have g5 := hf 5 { name := "Stubs", type := 3, offset := 5, embedded := false, tag := "", pkgPath := "", byteOffset := 40 } d5 rfl rfl
  have g6 := hf 6 { name := "Calls", type := 3, offset := 6, embedded := false, tag := "", pkgPath := "", byteOffset := 48 } d6 rfl rfl
  have g7 := hf 7 { name := "Window", type := 3, offset := 7, embedded := false, tag := "", pkgPath := "", byteOffset := 56 } d7 rfl rfl
  have g8 := hf 8 { name := "Grey", type := 3, offset := 8, embedded := false, tag := "", pkgPath := "", byteOffset := 64 } d8 rfl rfl
  have g9 := hf 9 { name := "Bag", type := 3, offset := 9, embedded := false, tag := "", pkgPath := "", byteOffset := 72 } d9 rfl rfl
  have g10 := hf 10 { name := "Inbox", type := 3, offset := 10, embedded := false, tag := "", pkgPath := "", byteOffset := 80 } d10 rfl rfl
  have g11 := hf 11 { name := "Unit", type := 3, offset := 11, embedded := false, tag := "", pkgPath := "", byteOffset := 88 } d11 rfl rfl
  have g12 := hf 12 { name := "Drift", type := 3, offset := 12, embedded := false, tag := "", pkgPath := "", byteOffset := 96 } d12 rfl rfl
  have g13 := hf 13 { name := "Lease", type := 3, offset := 13, embedded := false, tag := "", pkgPath := "", byteOffset := 104 } d13 rfl rfl
  have g14 := hf 14 { name := "Wait", type := 3, offset := 14, embedded := false, tag := "", pkgPath := "", byteOffset := 112 } d14 rfl rfl
  have g15 := hf 15 { name := "Most", type := 3, offset := 15, embedded := false, tag := "", pkgPath := "", byteOffset := 120 } d15 rfl rfl
  have g16 := hf 16 { name := "Patience", type := 3, offset := 16, embedded := false, tag := "", pkgPath := "", byteOffset := 128 } d16 rfl rfl
  have g17 := hf 17 { name := "Suspect", type := 3, offset := 17, embedded := false, tag := "", pkgPath := "", byteOffset := 136 } d17 rfl rfl
  have g18 := hf 18 { name := "Trace", type := 3, offset := 18, embedded := false, tag := "", pkgPath := "", byteOffset := 144 } d18 rfl rfl
  have g19 := hf 19 { name := "Work", type := 3, offset := 19, embedded := false, tag := "", pkgPath := "", byteOffset := 152 } d19 rfl rfl
  have g20 := hf 20 { name := "Start", type := 22, offset := 20, embedded := false, tag := "", pkgPath := "", byteOffset := 160 } d20 rfl rfl
  have g21 := hf 21 { name := "Last", type := 22, offset := 21, embedded := false, tag := "", pkgPath := "", byteOffset := 168 } d21 rfl rfl
  simp only [show Tryz.prog.cellsOf 3 = 1 by kernel_rfl, show Tryz.prog.cellsOf 22 = 1 by kernel_rfl, List.drop_zero, List.drop_succ_cons, List.take_succ_cons, List.take_zero] at g0 g1 g2 g3 g4 g5 g6 g7 g8 g9 g10 g11 g12 g13 g14 g15 g16 g17 g18 g19 g20 g21
  obtain ⟨x0, e0, _, w0⟩ := lies_int Tryz.underlying3 g0
  obtain ⟨x1, e1, _, w1⟩ := lies_int Tryz.underlying3 g1
  obtain ⟨x2, e2, _, w2⟩ := lies_int Tryz.underlying3 g2
  obtain ⟨x3, e3, _, w3⟩ := lies_int Tryz.underlying3 g3
  obtain ⟨x4, e4, _, w4⟩ := lies_int Tryz.underlying3 g4
  obtain ⟨x5, e5, _, w5⟩ := lies_int Tryz.underlying3 g5
  obtain ⟨x6, e6, _, w6⟩ := lies_int Tryz.underlying3 g6
  obtain ⟨x7, e7, _, w7⟩ := lies_int Tryz.underlying3 g7
  obtain ⟨x8, e8, _, w8⟩ := lies_int Tryz.underlying3 g8
  obtain ⟨x9, e9, _, w9⟩ := lies_int Tryz.underlying3 g9
  obtain ⟨x10, e10, _, w10⟩ := lies_int Tryz.underlying3 g10
  obtain ⟨x11, e11, _, w11⟩ := lies_int Tryz.underlying3 g11
  obtain ⟨x12, e12, _, w12⟩ := lies_int Tryz.underlying3 g12
  obtain ⟨x13, e13, _, w13⟩ := lies_int Tryz.underlying3 g13
  obtain ⟨x14, e14, _, w14⟩ := lies_int Tryz.underlying3 g14
  obtain ⟨x15, e15, _, w15⟩ := lies_int Tryz.underlying3 g15
  obtain ⟨x16, e16, _, w16⟩ := lies_int Tryz.underlying3 g16
  obtain ⟨x17, e17, _, w17⟩ := lies_int Tryz.underlying3 g17
  obtain ⟨x18, e18, _, w18⟩ := lies_int Tryz.underlying3 g18
  obtain ⟨x19, e19, _, w19⟩ := lies_int Tryz.underlying3 g19
  obtain ⟨x20, e20, _, w20⟩ := lies_int Tryz.underlying22 g20
  obtain ⟨x21, e21, _, w21⟩ := lies_int Tryz.underlying22 g21
  simp only [List.cons.injEq, and_true] at e0 e1 e2 e3 e4 e5 e6 e7 e8 e9 e10 e11 e12 e13 e14 e15 e16 e17 e18 e19 e20 e21
  subst e0 e1 e2 e3 e4 e5 e6 e7 e8 e9 e10 e11 e12 e13 e14 e15 e16 e17 e18 e19 e20 e21
  exact ⟨⟨x0, x1, x2, x3, x4, x5, x6, x7, x8, x9, x10, x11, x12, x13, x14, x15, x16, x17, x18, x19, x20, x21⟩, rfl, w20, w21⟩
theorem Idn_of_lies {H : Type} {w : World} {n : Nat} {cs : List Value} {d : DataW H} (h : Lies Tryz.prog w (n + 2) 37 cs d) : ∃ x : Idn, cs = x.cells ∧ (Lit.int .u64 x.sr).wf = true := by
  obtain ⟨hl, ds, hds, hdl, hf⟩ := lies_struct Tryz.underlying37 h
  rw [show Tryz.prog.cellsOf 37 = 2 by kernel_rfl] at hl
  match cs, hl with
  | [c0, c1], _ =>
  match ds, hdl with
  | [d0, d1], _ =>
  have g0 := hf 0 { name := "Node", type := 3, offset := 0, embedded := false, tag := "", pkgPath := "", byteOffset := 0 } d0 rfl rfl
  have g1 := hf 1 { name := "Serial", type := 22, offset := 1, embedded := false, tag := "", pkgPath := "", byteOffset := 8 } d1 rfl rfl
  simp only [show Tryz.prog.cellsOf 3 = 1 by kernel_rfl, show Tryz.prog.cellsOf 22 = 1 by kernel_rfl, List.drop_zero, List.drop_succ_cons, List.take_succ_cons, List.take_zero] at g0 g1
  obtain ⟨x0, e0, _, w0⟩ := lies_int Tryz.underlying3 g0
  obtain ⟨x1, e1, _, w1⟩ := lies_int Tryz.underlying22 g1
  simp only [List.cons.injEq, and_true] at e0 e1
  subst e0 e1
  exact ⟨⟨x0, x1⟩, rfl, w1⟩
end Go.Proofs.YtdgoalhnkegbmaaGreatX
namespace Go.Proofs.YtdgoalhnkegbmaaGreatX
open Go.RowKit
set_option linter.unusedVariables false
set_option maxRecDepth 100000
/-! ### mooring/mooringlaw20.known: function 7 -/
def X7.j0 (Q : Value → World → Prop) (t2 : Option Addr) (t4 : Addr) (w : World) : Prop := ldI .i64 w (t4.add 0) fun x1 => ldI .u64 w (t4.add 1) fun x2 => CallR Tryz.prog 13 #[.pointer t2, .int .i64 (2 : Int), .int .i64 (4 : Int), .int .i64 (0 : Int), .agg #[.int .i64 x1, .int .u64 x2], .int .u64 (0 : Int), .slice none 0 0, .int .u64 (10 : Int)] w fun v3 w4 => ∃ (y5 : Int) (y6 : Int), v3 = .tuple #[.int .u64 y5, .int .i64 y6] ∧ ldI .i64 w4 (t4.add 0) fun x7 => ldI .u64 w4 (t4.add 1) fun x8 => CallR Tryz.prog 13 #[.pointer t2, .int .i64 (2 : Int), .int .i64 (4 : Int), .int .i64 (0 : Int), .agg #[.int .i64 x7, .int .u64 x8], .int .u64 (0 : Int), .slice none 0 0, .int .u64 (10 : Int)] w4 fun v9 w10 => ∃ (y11 : Int) (y12 : Int), v9 = .tuple #[.int .u64 y11, .int .i64 y12] ∧ ldI .i64 w10 (t4.add 0) fun x13 => ldI .u64 w10 (t4.add 1) fun x14 => CallR Tryz.prog 13 #[.pointer t2, .int .i64 (2 : Int), .int .i64 (4 : Int), .int .i64 (0 : Int), .agg #[.int .i64 x13, .int .u64 x14], .int .u64 (0 : Int), .slice none 0 0, .int .u64 (10 : Int)] w10 fun v15 w16 => ∃ (y17 : Int) (y18 : Int), v15 = .tuple #[.int .u64 y17, .int .i64 y18] ∧ CallR Tryz.prog 14 #[.pointer t2, .int .u64 (10 : Int)] w16 fun v19 w20 => ∃ (y21 : Int) (y22 : Int) (y23 : Int) (y24 : Int) (y25 : Int) (y26 : Int) (y27p : Option Addr) (y27n y27c : Nat) (y28 : Int) (y29 : Int) (y30 : Int) (y31p : Option Addr) (y31n y31c : Nat) (y32 : Int) (y33 : Int) (y34 : Int) (y35 : Int) (y36 : Int) (y37 : Int) (y38 : Int) (y39 : Int) (y40 : Int) (y41 : Int) (y42 : Int) (y43 : Int) (y44 : Int) (y45 : Int) (y46p : Option Addr) (y46n y46c : Nat) (y47 : Int) (y48 : Int) (y49 : Int) (y50 : Int) (y51 : Int) (y52 : Int) (y53 : Int) (y54p : Option Addr) (y54n y54c : Nat) (y55 : Bool), v19 = .tuple #[.agg #[.int .i64 y21, .int .u64 y22, .int .i64 y23, .int .i64 y24, .int .i64 y25, .int .u64 y26, .slice y27p y27n y27c, .int .u64 y28, .int .i64 y29, .int .i64 y30, .slice y31p y31n y31c, .int .u64 y32, .int .u64 y33, .int .u64 y34, .int .u64 y35], .agg #[.int .i64 y36, .int .i64 y37, .int .i64 y38, .int .u64 y39, .int .u64 y40, .int .i64 y41, .int .i64 y42, .int .i64 y43, .int .i64 y44, .int .u64 y45, .slice y46p y46n y46c, .int .u64 y47, .int .i64 y48, .int .u64 y49, .int .i64 y50, .int .u64 y51, .int .i64 y52, .int .u64 y53, .slice y54p y54n y54c], .bool y55] ∧ newK w20 #[.int .i64 (0 : Int), .int .u64 (0 : Int), .int .i64 (0 : Int), .int .i64 (0 : Int), .int .i64 (0 : Int), .int .u64 (0 : Int), .slice none 0 0, .int .u64 (0 : Int), .int .i64 (0 : Int), .int .i64 (0 : Int), .slice none 0 0, .int .u64 (0 : Int), .int .u64 (0 : Int), .int .u64 (0 : Int), .int .u64 (0 : Int)] 50 fun g56 w57 => newK w57 #[.int .i64 (0 : Int), .int .i64 (0 : Int), .int .i64 (0 : Int), .int .u64 (0 : Int), .int .u64 (0 : Int), .int .i64 (0 : Int), .int .i64 (0 : Int), .int .i64 (0 : Int), .int .i64 (0 : Int), .int .u64 (0 : Int), .slice none 0 0, .int .u64 (0 : Int), .int .i64 (0 : Int), .int .u64 (0 : Int), .int .i64 (0 : Int), .int .u64 (0 : Int), .int .i64 (0 : Int), .int .u64 (0 : Int), .slice none 0 0] 63 fun g58 w59 => stAll w59 g56 [.int .i64 y21, .int .u64 y22, .int .i64 y23, .int .i64 y24, .int .i64 y25, .int .u64 y26, .slice y27p y27n y27c, .int .u64 y28, .int .i64 y29, .int .i64 y30, .slice y31p y31n y31c, .int .u64 y32, .int .u64 y33, .int .u64 y34, .int .u64 y35] fun w60 => stAll w60 g58 [.int .i64 y36, .int .i64 y37, .int .i64 y38, .int .u64 y39, .int .u64 y40, .int .i64 y41, .int .i64 y42, .int .i64 y43, .int .i64 y44, .int .u64 y45, .slice y46p y46n y46c, .int .u64 y47, .int .i64 y48, .int .u64 y49, .int .i64 y50, .int .u64 y51, .int .i64 y52, .int .u64 y53, .slice y54p y54n y54c] fun w61 => CallR Tryz.prog 15 #[.pointer t2, .agg #[.int .i64 (2 : Int), .int .i64 (2 : Int), .int .i64 (1 : Int), .int .u64 (1 : Int), .int .u64 (0 : Int), .int .i64 (0 : Int), .int .i64 (0 : Int), .int .i64 (0 : Int), .int .i64 (0 : Int), .int .u64 (0 : Int), .slice none 0 0, .int .u64 (7 : Int), .int .i64 (0 : Int), .int .u64 (0 : Int), .int .i64 (0 : Int), .int .u64 (0 : Int), .int .i64 (0 : Int), .int .u64 (0 : Int), .slice none 0 0]] w61 fun v62 w63 => ∃ (y64p : Option Addr) (y64n y64c : Nat) (y65 : Bool), v62 = .tuple #[.slice y64p y64n y64c, .bool y65] ∧ CallR Tryz.prog 16 #[.pointer t2, .int .i64 (2 : Int), .int .u64 (1 : Int), .int .i64 (0 : Int)] w63 fun v66 w67 => ∃ (y68 : Bool), v66 = .bool y68 ∧ CallR Tryz.prog 17 #[.pointer t2, .int .i64 (2 : Int), .int .u64 (1 : Int), .int .u64 (11 : Int)] w67 fun v69 w70 => ∃ (y71 : Int) (y72 : Int) (y73 : Int) (y74 : Int) (y75 : Int) (y76 : Int) (y77p : Option Addr) (y77n y77c : Nat) (y78 : Int) (y79 : Int) (y80 : Int) (y81p : Option Addr) (y81n y81c : Nat) (y82 : Int) (y83 : Int) (y84 : Int) (y85 : Int) (y86 : Bool) (y87 : Int), v69 = .tuple #[.agg #[.int .i64 y71, .int .u64 y72, .int .i64 y73, .int .i64 y74, .int .i64 y75, .int .u64 y76, .slice y77p y77n y77c, .int .u64 y78, .int .i64 y79, .int .i64 y80, .slice y81p y81n y81c, .int .u64 y82, .int .u64 y83, .int .u64 y84, .int .u64 y85], .bool y86, .int .i64 y87] ∧ newK w70 #[.int .i64 (0 : Int), .int .u64 (0 : Int), .int .i64 (0 : Int), .int .i64 (0 : Int), .int .i64 (0 : Int), .int .u64 (0 : Int), .slice none 0 0, .int .u64 (0 : Int), .int .i64 (0 : Int), .int .i64 (0 : Int), .slice none 0 0, .int .u64 (0 : Int), .int .u64 (0 : Int), .int .u64 (0 : Int), .int .u64 (0 : Int)] 50 fun g88 w89 => stAll w89 g88 [.int .i64 y71, .int .u64 y72, .int .i64 y73, .int .i64 y74, .int .i64 y75, .int .u64 y76, .slice y77p y77n y77c, .int .u64 y78, .int .i64 y79, .int .i64 y80, .slice y81p y81n y81c, .int .u64 y82, .int .u64 y83, .int .u64 y84, .int .u64 y85] fun w90 => bcase (y5 == (1 : Int)) (bcase (y11 == (2 : Int)) (bcase (y18 == (6 : Int)) (bcase y55 (ldI .i64 w90 (g58.add 0) fun x91 => bcase (x91 == (1 : Int)) (ldI .u64 w90 (g58.add 3) fun x92 => bcase (x92 == (1 : Int)) (ldI .u64 w90 (g58.add 4) fun x93 => bcase (x93 == (1 : Int)) (bcase (((y64n : Nat) : Int) == (0 : Int)) (bcase (!y65) (bcase y68 (ldI .u64 w90 (g88.add 11) fun x94 => bcase (x94 == (7 : Int)) (Q (.bool (y87 == (0 : Int))) w90) (Q (.bool false) w90)) (Q (.bool false) w90)) (Q (.bool false) w90)) (Q (.bool false) w90)) (Q (.bool false) w90)) (Q (.bool false) w90)) (Q (.bool false) w90)) (Q (.bool false) w90)) (Q (.bool false) w90)) (Q (.bool false) w90)) (Q (.bool false) w90)
def X7.f (w : World) (Q : Value → World → Prop) : Prop := CallR Tryz.prog 4 #[.agg #[.int .i64 (0 : Int), .int .i64 (0 : Int), .int .i64 (0 : Int), .int .i64 (0 : Int), .int .i64 (0 : Int), .int .i64 (0 : Int), .int .i64 (3 : Int), .int .i64 (1 : Int), .int .i64 (0 : Int), .int .i64 (0 : Int), .int .i64 (0 : Int), .int .i64 (0 : Int), .int .i64 (0 : Int), .int .i64 (0 : Int), .int .i64 (0 : Int), .int .i64 (0 : Int), .int .i64 (0 : Int), .int .i64 (0 : Int), .int .i64 (0 : Int), .int .i64 (0 : Int), .int .u64 (0 : Int), .int .u64 (0 : Int)]] w fun v1 w2 => ∃ (y3 : Int) (y4 : Int) (y5 : Int) (y6 : Int) (y7 : Int) (y8 : Int) (y9 : Int) (y10 : Int) (y11 : Int) (y12 : Int) (y13 : Int) (y14 : Int) (y15 : Int) (y16 : Int) (y17 : Int) (y18 : Int) (y19 : Int) (y20 : Int) (y21 : Int) (y22 : Int) (y23 : Int) (y24 : Int), v1 = .agg #[.int .i64 y3, .int .i64 y4, .int .i64 y5, .int .i64 y6, .int .i64 y7, .int .i64 y8, .int .i64 y9, .int .i64 y10, .int .i64 y11, .int .i64 y12, .int .i64 y13, .int .u64 y14, .int .u64 y15, .int .u64 y16, .int .u64 y17, .int .u64 y18, .int .u64 y19, .int .i64 y20, .int .i64 y21, .int .i64 y22, .int .u64 y23, .int .u64 y24] ∧ newK w2 #[.int .i64 (0 : Int), .int .i64 (0 : Int), .int .i64 (0 : Int), .int .i64 (0 : Int), .int .i64 (0 : Int), .int .i64 (0 : Int), .int .i64 (0 : Int), .int .i64 (0 : Int), .int .i64 (0 : Int), .int .i64 (0 : Int), .int .i64 (0 : Int), .int .u64 (0 : Int), .int .u64 (0 : Int), .int .u64 (0 : Int), .int .u64 (0 : Int), .int .u64 (0 : Int), .int .u64 (0 : Int), .int .i64 (0 : Int), .int .i64 (0 : Int), .int .i64 (0 : Int), .int .u64 (0 : Int), .int .u64 (0 : Int)] 27 fun g25 w26 => stAll w26 g25 [.int .i64 y3, .int .i64 y4, .int .i64 y5, .int .i64 y6, .int .i64 y7, .int .i64 y8, .int .i64 y9, .int .i64 y10, .int .i64 y11, .int .i64 y12, .int .i64 y13, .int .u64 y14, .int .u64 y15, .int .u64 y16, .int .u64 y17, .int .u64 y18, .int .u64 y19, .int .i64 y20, .int .i64 y21, .int .i64 y22, .int .u64 y23, .int .u64 y24] fun w27 => ldI .i64 w27 (g25.add 0) fun x28 => ldI .i64 w27 (g25.add 1) fun x29 => ldI .i64 w27 (g25.add 2) fun x30 => ldI .i64 w27 (g25.add 3) fun x31 => ldI .i64 w27 (g25.add 4) fun x32 => ldI .i64 w27 (g25.add 5) fun x33 => ldI .i64 w27 (g25.add 6) fun x34 => ldI .i64 w27 (g25.add 7) fun x35 => ldI .i64 w27 (g25.add 8) fun x36 => ldI .i64 w27 (g25.add 9) fun x37 => ldI .i64 w27 (g25.add 10) fun x38 => ldI .u64 w27 (g25.add 11) fun x39 => ldI .u64 w27 (g25.add 12) fun x40 => ldI .u64 w27 (g25.add 13) fun x41 => ldI .u64 w27 (g25.add 14) fun x42 => ldI .u64 w27 (g25.add 15) fun x43 => ldI .u64 w27 (g25.add 16) fun x44 => ldI .i64 w27 (g25.add 17) fun x45 => ldI .i64 w27 (g25.add 18) fun x46 => ldI .i64 w27 (g25.add 19) fun x47 => ldI .u64 w27 (g25.add 20) fun x48 => ldI .u64 w27 (g25.add 21) fun x49 => CallR Tryz.prog 5 #[.agg #[.int .i64 x28, .int .i64 x29, .int .i64 x30, .int .i64 x31, .int .i64 x32, .int .i64 x33, .int .i64 x34, .int .i64 x35, .int .i64 x36, .int .i64 x37, .int .i64 x38, .int .u64 x39, .int .u64 x40, .int .u64 x41, .int .u64 x42, .int .u64 x43, .int .u64 x44, .int .i64 x45, .int .i64 x46, .int .i64 x47, .int .u64 x48, .int .u64 x49], .int .i64 (1 : Int), .int .u64 (0 : Int)] w27 fun v50 w51 => ∃ (y52 : Option Addr) (y53 : Int), v50 = .tuple #[.pointer y52, .int .i64 y53] ∧ newK w51 #[.int .i64 (0 : Int), .int .u64 (0 : Int)] 37 fun g54 w55 => stAll w55 g54 [.int .i64 (2 : Int), .int .u64 (5 : Int)] fun w56 => bcase (y53 != (0 : Int)) (Q (.bool false) w56) (bcase (Option.isNone y52) (Q (.bool false) w56) (X7.j0 Q y52 g54 w56))
def X7.S (Q : Value → World → Prop) : Segs
  | 0, φ, ρ, w => qP (ρ 2) fun t2 => qA (ρ 4) fun t4 => X7.j0 Q t2 t4 w
  | _, _, _, _ => False
noncomputable def X7.an : Ann := (.seq .leaf (.seq .leaf (.seq .leaf (.seq .leaf (.seq (.seq .leaf (.cond (.seq .leaf .leaf) .leaf)) (.join 0 (.seq .leaf (.seq .leaf (.seq .leaf (.seq .leaf (.seq .leaf (.seq .leaf (.seq .leaf (.seq .leaf .leaf))))))))))))))
noncomputable def X7.c : Code := Tryz.f7.body.getD .skip
theorem X7.v (Q : Value → World → Prop) : V Tryz.prog (X7.S Q) X7.an X7.c (retC Tryz.prog Tryz.f7 Q) := ⟨trivial, ⟨trivial, ⟨trivial, ⟨trivial, ⟨⟨trivial, ⟨⟨trivial, trivial⟩, trivial⟩⟩, ⟨(by
    intro φ ρ w h
    simp only [X7.S] at h
    obtain ⟨t2, e2, h⟩ := qP_elim h
    obtain ⟨t4, e4, h⟩ := qA_elim h
    exact ⟨((Env.nil.put (some 2) (.pointer t2)).put (some 4) (.pointer (some t4))), Env.le_put e4 (Env.le_put e2 (Env.le_nil _)), Eq.mp (by kernel_rfl) h⟩), ⟨trivial, ⟨trivial, ⟨trivial, ⟨trivial, ⟨trivial, ⟨trivial, ⟨trivial, ⟨trivial, trivial⟩⟩⟩⟩⟩⟩⟩⟩⟩⟩⟩⟩⟩⟩
theorem X7.sound (w : World) (Q : Value → World → Prop) (h : X7.f  w Q) : CallR Tryz.prog 7 #[] w Q :=
  fn_sound noGr mixed Tryz.func7 (c := X7.c) (an := X7.an) (S := X7.S Q) (φ := fun _ => 0) (args := []) (by kernel_rfl) (by kernel_rfl) (by kernel_rfl) (X7.v Q) (Eq.mp (by kernel_rfl) h)
end Go.Proofs.YtdgoalhnkegbmaaGreatX
namespace Go.Proofs.YtdgoalhnkegbmaaGreatX
open Go.RowKit
set_option linter.unusedVariables false
set_option linter.unusedSimpArgs false
set_option maxRecDepth 100000
/-- the table among what is new since W -/
structure PL (W w : World) (g : Nat) (ft al : List Nat) (S : Cs) : Prop where
  t : PC w g ft al S
  new : ∀ x ∈ al, W.heap.size ≤ x
  F : Fr [] W w
section
variable {w w' W : World} {Q : Value → World → Prop} {g gs gx : Nat} {ft al ft' al' : List Nat} {S S' : Cs} {c : Cfg} {node last : Int}
theorem PL.keep' (h : PL W w g ft al S) (f : Fr [] w w') : PL W w' g ft al S := ⟨h.t.keep' f, h.new, h.F.tr f⟩
theorem PL.next (h : PL W w g ft al S) (t' : PC w' g ft' al' S') (f : Fr ft w w') (e : ∀ x ∈ al', x ∈ al ∨ w.heap.size ≤ x) : PL W w' g ft' al' S' := by
  have := h.F.size
  refine ⟨t', fun x hx => ?_, h.F.trans f (fun x hx => .inr (h.new x (h.t.sub x hx)))⟩
  rcases e x hx with h' | h'
  · exact h.new x h'
  · omega
theorem PL.off (h : PL W w g ft al S) {x : Nat} (hx : x ∉ al) (hw : W.heap.size ≤ x) (f : Fr [x] w w') : PL W w' g ft al S := ⟨h.t.off hx f, h.new, h.F.loc f hw⟩
theorem newL (hr : newOk c node last) (h0 : 0 ≤ c.drift) (hK : ∀ g ft al w', PL w w' g ft al (newC c node last) → Q (.tuple #[.pointer (some (at0 g 0)), .int .i64 0]) w') : CallR Tryz.prog 5 #[c.val, .int .i64 node, .int .u64 last] w Q :=
  new_spec h0 (fun h => absurd hr h) fun _ g ft al w' t f n => hK g ft al w' ⟨t, n, f⟩
abbrev rK : Raw := ⟨0, 0, 0, 0, 0, 0, 3, 1, 0, 0, 0, 0, 0, 0, 0, 0, 0, 0, 0, 0, 0, 0⟩
theorem bc_eqt' {a b : Int} {A B : Prop} (h : a = b) (x : A) : bcase (a == b) A B := bc_eq (fun _ => x) (fun hn => absurd h hn)
def k0 : Cs := newC (configOf rK) 1 0
def k1 : Cs := (beginS k0 true 2 4 0 2 5 0 [] 10).1
def k2 : Cs := (beginS k1 true 2 4 0 2 5 0 [] 10).1
def k3 : Cs := (beginS k2 true 2 4 0 2 5 0 [] 10).1
def k4 : Cs := (stepC k3 10).1
def k5 : Cs := (replyC k4 2 1 2 1 0 7 []).1
def k6 : Cs := (settleC k5 2 1 0).1
theorem kn1 : (beginS k0 true 2 4 0 2 5 0 [] 10).2.1 = 1 := by decide +kernel
theorem kn2 : (beginS k1 true 2 4 0 2 5 0 [] 10).2.1 = 2 := by decide +kernel
theorem kn3 : (beginS k2 true 2 4 0 2 5 0 [] 10).2.2 = 6 := by decide +kernel
theorem kn4 : (stepC k3 10).2.2 = true := by decide +kernel
theorem kn4m : (stepM k3 10).kind = 1 ∧ (stepM k3 10).call = 1 ∧ (stepM k3 10).floor = 1 := by decide +kernel
theorem kn5 : (replyC k4 2 1 2 1 0 7 []).2.1.length = 0 ∧ (replyC k4 2 1 2 1 0 7 []).2.2 = false := by decide +kernel
theorem kn6 : (settleC k5 2 1 0).2 = true := by decide +kernel
theorem kn7 : (awaitC k6 2 1 11).2.1.back = 7 ∧ (awaitC k6 2 1 11).2.2.2 = 0 := by decide +kernel
theorem kR {S : Cs} (h : S.node = 1) : true = true ↔ Right (askM S (newY 2 4 0 2 5 0 [] 10) 1) := by
  refine ⟨fun _ => right_ask (by omega) (by show 1 ≤ (2 : Int) ∧ (2 : Int) ≤ 64; omega) (by show S.node ≠ 2; omega) (by show okSerial 1; unfold okSerial; omega) (by show (1 : Int) ≤ 1 ∧ (1 : Int) ≤ 1; omega) (by show 1 ≤ (4 : Int) ∧ (4 : Int) ≤ 6; omega) (by show 0 ≤ (0 : Int) ∧ (0 : Int) ≤ 63; omega) ?_ ?_ ⟨fun x hx => (by cases hx), by show 0 ≤ 2; omega⟩, fun _ => rfl⟩
  · show okID (2, 5)
    unfold okID okSerial
    exact .inr ⟨by decide, by decide⟩
  · show noID (2, 5) ↔ _
    unfold noID
    constructor
    · intro h; exact absurd h.1 (by decide)
    · rintro (h | h)
      · exact absurd h (by show ¬ (4 : Int) = 1; decide)
      · exact absurd h (by show ¬ (4 : Int) = 6; decide)
theorem n1 : k1.node = 1 := by decide +kernel
theorem n2 : k2.node = 1 := by decide +kernel
theorem k_ok : newOk (configOf rK) 1 0 := ⟨may_config ⟨by decide, by decide⟩, by decide, by decide, by decide⟩
theorem known_j0 (h : PL W w g ft al k0) (bx : Blk w gx (idcs 2 5) 37) (hx : gx ∉ al) (hxW : W.heap.size ≤ gx) (hQ : ∀ w', Fr [] W w' → Q (.bool true) w') : X7.j0 Q (some (at0 g 0)) (at0 gx 0) w := by
  have out : ∀ {w : World} {al al' : List Nat} {x : Nat}, x ∉ al → x < w.heap.size → (∀ x ∈ al', x ∈ al ∨ w.heap.size ≤ x) → x ∉ al' := fun h1 h2 e hm => by
    rcases e _ hm with h' | h'
    · exact h1 h'
    · omega
  unfold X7.j0
  refine ld_int (bx.cat 0 _ rfl) (ld_int (bx.cat 1 _ rfl) (begin_spec (S := k0) (refs := []) (rp := none) (rc := 0) h.t Own.nil (by simp) (kR rfl) ?_))
  intro ft1 al1 w4 t4 f4 e4 a4
  have h4 : PL W w4 g ft1 al1 k1 := h.next t4 f4 a4
  have bx4 := bx.keep f4 (fun hm => hx (h.t.sub _ hm))
  have hx4 := out hx bx.lt a4
  refine ⟨_, _, rfl, ld_int (bx4.cat 0 _ rfl) (ld_int (bx4.cat 1 _ rfl) (begin_spec (S := k1) (refs := []) (rp := none) (rc := 0) h4.t Own.nil (by simp) (kR n1) ?_))⟩
  intro ft2 al2 w10 t10 f10 e10 a10
  have h10 : PL W w10 g ft2 al2 k2 := h4.next t10 f10 a10
  have bx10 := bx4.keep f10 (fun hm => hx4 (h4.t.sub _ hm))
  have hx10 := out hx4 bx4.lt a10
  refine ⟨_, _, rfl, ld_int (bx10.cat 0 _ rfl) (ld_int (bx10.cat 1 _ rfl) (begin_spec (S := k2) (refs := []) (rp := none) (rc := 0) h10.t Own.nil (by simp) (kR n2) ?_))⟩
  intro ft3 al3 w16 t16 f16 e16 a16
  have h16 : PL W w16 g ft3 al3 k3 := h10.next t16 f16 a16
  refine ⟨_, _, rfl, step_spec (S := k3) h16.t ?_⟩
  intro x mp mc ft4 al4 w20 c20 m20 n20 t20 f20 e20 a20
  have h20 : PL W w20 g ft4 al4 k4 := h16.next t20 f20 a20
  rw [kn4]
  refine ⟨_, _, _, _, _, _, _, _, _, _, _, _, _, _, _, _, _, _, _, _, _, _, _, _, _, _, _, _, _, _, _, _, _, _, _, _, _, _, _, _, _, _, _, rfl, newB fun g56 w57 b56 f57 h57 => newB fun g58 w59 b58 f59 h59 => stAllB (vs := x.cells) (b56.keep' f59) rfl fun w60 b60 f60 => ?_⟩
  have l56 := b56.lt
  refine stAllB (vs := (stepM k3 10).cells mp mc none 0) (b58.off1 (by omega) f60) rfl fun w61 b61 f61 => ?_
  have z20 := h20.F.size
  have z57 := f57.size
  have nn56 : g56 ∉ al4 := h20.t.fresh h57
  have nn58 : g58 ∉ al4 := fun hm => by have := h20.t.lt g58 hm; omega
  have h61 : PL W w61 g ft4 al4 k4 := (((h20.keep' f57).keep' f59).off nn56 (by omega) f60).off nn58 (by omega) f61
  refine reply_spec' (S := k4) (m := ⟨2, 2, 1, 1, 0, 0, 0, 0, 0, 0, [], 7, 0, 0, 0, 0, 0, 0, []⟩) (rp := none) (rc := 0) (lc := 0) h61.t Own.nil (by simp) (by simp [fbl]) ?_
  intro tp tc ft5 al5 w63 r63 n63 t63 f63 e63 a63
  have h63 : PL W w63 g ft5 al5 k5 := h61.next t63 f63 a63
  have l58 := b61.lt
  have b63 := b61.keep f63 (fun hm => nn58 (h61.t.sub _ hm))
  have nn58' := out nn58 l58 a63
  refine ⟨_, _, _, _, rfl, settle_spec (S := k5) h63.t ?_⟩
  intro ft6 al6 w67 t67 f67 e67 a67
  have h67 : PL W w67 g ft6 al6 k6 := h63.next t67 f67 a67
  have l58' := b63.lt
  have b67 := b63.keep f67 (fun hm => nn58' (h63.t.sub _ hm))
  have nn58'' := out nn58' l58' a67
  rw [kn6]
  refine ⟨_, rfl, await_spec (S := k6) h67.t ?_⟩
  intro y ft7 al7 w70 c70 t70 f70 e70 a70
  have l58'' := b67.lt
  have b70 := b67.keep f70 (fun hm => nn58'' (h67.t.sub _ hm))
  have h70 := h67.next t70 f70 a70
  refine ⟨_, _, _, _, _, _, _, _, _, _, _, _, _, _, _, _, _, _, _, _, _, rfl, newB fun g88 w89 b88 f89 h89 => stAllB (vs := y.cells) b88 rfl fun w90 b90 f90 => ?_⟩
  have l70 := b70.lt
  have b58 := (b70.keep' f89).off1 (by omega) f90
  obtain ⟨rp, rc, sp, sc, hy, _⟩ := c70
  have z70 := h70.F.size
  have F90 : Fr [] W w90 := (h70.F.tr f89).loc f90 (by omega)
  have eb : y.back = 7 := by rw [hy]; exact kn7.1
  refine bc_eqt' kn1 (bc_eqt' kn2 (bc_eqt' kn3 (bc_bool (fun _ => ?_) (fun e => by cases e))))
  refine ld_int (b58.cat 0 _ rfl) (bc_eqt' kn4m.1 (ld_int (b58.cat 3 _ rfl) (bc_eqt' kn4m.2.1 (ld_int (b58.cat 4 _ rfl) (bc_eqt' kn4m.2.2 (bc_eqt' (by show (((replyC k4 2 1 2 1 0 7 []).2.1.length : Nat) : Int) = 0; rw [kn5.1]; rfl) ?_))))))
  refine bc_bool (fun _ => ?_) (fun e => ?_)
  · refine bc_bool (fun _ => ld_int (b90.cat 11 _ rfl) (bc_eqt' eb ?_)) (fun e => by cases e)
    have := hQ w90 F90
    rw [kn7.2]
    exact this
  · have e2 : (replyC k4 2 1 2 1 0 7 []).2.2 = true := by
      have h : (!(replyC k4 2 1 2 1 0 7 []).2.2) = false := e
      simpa using h
    rw [kn5.2] at e2; cases e2
theorem known_spec (hQ : ∀ w', Fr [] w w' → Q (.bool true) w') : CallR Tryz.prog 7 #[] w Q := by
  refine X7.sound _ _ ?_
  unfold X7.f
  refine config_spec (r := rK) fun w2 f2 => ⟨_, _, _, _, _, _, _, _, _, _, _, _, _, _, _, _, _, _, _, _, _, _, rfl, newB fun g25 w26 b25 f26 h26 => stAllB (vs := (configOf rK).cells) b25 rfl fun w27 b27 f27 => ?_⟩
  have z2 := f2.size
  have F27 : Fr [] w w27 := (f2.tr f26).loc f27 (by omega)
  refine ld_Cfg (s := configOf rK) b27.cat (newL k_ok (drift_half rK).1 fun g ft al w51 p => ⟨_, _, rfl, newB fun gx w55 bx f55 hx => stAllB (vs := idcs 2 5) bx rfl fun w56 b56 f56 => bc_ne (fun h => absurd rfl h) (fun _ => bc_bool (fun h => by cases h) (fun _ => ?_))⟩)
  have z := p.F.size
  have nx := p.t.fresh hx
  exact known_j0 (W := w27) ((p.keep' f55).off nx (by omega) f56) b56 nx (by omega) (fun w' f' => hQ w' (F27.tr f'))
end
end Go.Proofs.YtdgoalhnkegbmaaGreatX
namespace Go.Proofs.YtdgoalhnkegbmaaGreatX
open Go.RowKit
set_option linter.unusedVariables false
set_option linter.unusedSimpArgs false
set_option maxRecDepth 100000
theorem keyOf_eq {nd sr : Int} (h0 : 0 ≤ nd) (h1 : nd < 256) (h2 : 0 ≤ sr) (h3 : sr < 72057594037927936) : keyOf nd sr = nd * 72057594037927936 + sr := by
  obtain ⟨n, rfl⟩ : ∃ n : Nat, nd = (n : Int) := ⟨nd.toNat, by omega⟩
  obtain ⟨s, rfl⟩ : ∃ s : Nat, sr = (s : Int) := ⟨sr.toNat, by omega⟩
  unfold keyOf
  rw [u64w (n : Int) (by omega) (by omega)]
  have hN : n * 72057594037927936 < 18446744073709551616 := by omega
  have e1 : iShl .u64 (n : Int) 56 = ((n * 72057594037927936 : Nat) : Int) := by
    unfold iShl
    have e : min (56 : Int).toNat IntKind.u64.bits = 56 := by decide
    rw [e]
    have e2 : (n : Int) * 2 ^ 56 = ((n * 72057594037927936 : Nat) : Int) := by
      rw [show (2 : Int) ^ 56 = 72057594037927936 by decide +kernel]; omega
    rw [e2]
    exact u64w _ (by omega) (by omega)
  rw [e1]
  have a1 : (BitVec.ofInt 64 ((n * 72057594037927936 : Nat) : Int)).toNat = n * 72057594037927936 := by rw [BitVec.toNat_ofInt]; omega
  have a2 : (BitVec.ofInt 64 (s : Int)).toNat = s := by rw [BitVec.toNat_ofInt]; omega
  unfold iOr
  change IntKind.wrap .u64 ((BitVec.ofInt 64 ((n * 72057594037927936 : Nat) : Int) ||| BitVec.ofInt 64 (s : Int)).toNat : Int) = _
  rw [BitVec.toNat_or, a1, a2]
  have e3 : n * 72057594037927936 ||| s = n * 72057594037927936 + s := by
    have hs : s < 2 ^ 56 := by rw [show (2 : Nat) ^ 56 = 72057594037927936 by decide +kernel]; omega
    have := Nat.two_pow_add_eq_or_of_lt hs n
    rw [show (2 : Nat) ^ 56 = 72057594037927936 by decide +kernel, Nat.mul_comm] at this
    exact this.symm
  rw [e3, u64w _ (by omega) (by omega)]
  omega
theorem key_shr {nd sr : Int} (h0 : 0 ≤ nd) (h1 : nd < 256) (h2 : 0 ≤ sr) (h3 : sr < 72057594037927936) : IntKind.wrap .i64 (iShr .u64 (keyOf nd sr) 56) = nd := by
  rw [keyOf_eq h0 h1 h2 h3]
  unfold iShr
  have e : min (56 : Int).toNat IntKind.u64.bits = 56 := by decide
  rw [e, show (2 : Int) ^ 56 = 72057594037927936 by decide +kernel, Int.fdiv_eq_ediv_of_nonneg _ (by omega)]
  rw [show (nd * 72057594037927936 + sr) / 72057594037927936 = nd by omega]
  exact i64w _ (by omega) (by omega)
theorem key_and {nd sr : Int} (h0 : 0 ≤ nd) (h1 : nd < 256) (h2 : 0 ≤ sr) (h3 : sr < 72057594037927936) : iAnd .u64 (keyOf nd sr) 72057594037927935 = sr := by
  rw [keyOf_eq h0 h1 h2 h3]
  obtain ⟨n, rfl⟩ : ∃ n : Nat, nd = (n : Int) := ⟨nd.toNat, by omega⟩
  obtain ⟨s, rfl⟩ : ∃ s : Nat, sr = (s : Int) := ⟨sr.toNat, by omega⟩
  unfold iAnd
  have a1 : (BitVec.ofInt 64 ((n : Int) * 72057594037927936 + (s : Int))).toNat = n * 72057594037927936 + s := by rw [BitVec.toNat_ofInt]; omega
  have a2 : (BitVec.ofInt 64 (72057594037927935 : Int)).toNat = 2 ^ 56 - 1 := by rw [BitVec.toNat_ofInt]; decide +kernel
  change IntKind.wrap .u64 ((BitVec.ofInt 64 ((n : Int) * 72057594037927936 + (s : Int)) &&& BitVec.ofInt 64 (72057594037927935 : Int)).toNat : Int) = _
  rw [BitVec.toNat_and, a1, a2, Nat.and_two_pow_sub_one_eq_mod, show (2 : Nat) ^ 56 = 72057594037927936 by decide +kernel]
  rw [show (n * 72057594037927936 + s) % 72057594037927936 = s by omega]
  exact u64w _ (by omega) (by omega)
/-- calls to one node alone, their numbers one behind the other -/
theorem raw_open {H : Type} {W : World} {cs : Array Value} {d : DataW H} (h : Lies Tryz.prog W 6 24 cs.toList d) : ∃ r : Raw, cs = r.cells.toArray ∧ RawW r := by
  obtain ⟨r, hr, w1, w2⟩ := Raw_of_lies (n := 4) h
  exact ⟨r, by apply Array.ext'; exact hr, ⟨(u64b w1).1, (u64b w2).1⟩⟩
theorem conf_rng (r : Raw) : 2 ≤ (configOf r).nodes ∧ (configOf r).nodes ≤ 4 ∧ 1 ≤ (configOf r).calls ∧ (configOf r).calls ≤ 6 ∧ 1 ≤ (configOf r).window ∧ (configOf r).window ≤ 4 := by
  have a0 := md (n := r.nodes) (m := 3) (by omega)
  have a1 := md (n := r.calls) (m := 6) (by omega)
  have a2 := md (n := r.window) (m := 4) (by omega)
  show 2 ≤ 2 + r.nodes % 3 ∧ 2 + r.nodes % 3 ≤ 4 ∧ 1 ≤ 1 + r.calls % 6 ∧ 1 + r.calls % 6 ≤ 6 ∧ 1 ≤ 1 + r.window % 4 ∧ 1 + r.window % 4 ≤ 4
  omega
end Go.Proofs.YtdgoalhnkegbmaaGreatX
namespace Go.Proofs.YtdgoalhnkegbmaaGreatX
open Go.RowKit
set_option linter.unusedVariables false
set_option linter.unusedSimpArgs false
set_option maxRecDepth 100000
abbrev nzI (x : Int × Int) : Bool := !noneB x.1 x.2
theorem take_one {α : Type} {l : List α} {i : Nat} {x : α} (h : l[i]? = some x) : l.take (i + 1) = l.take i ++ [x] := by
  obtain ⟨hl, rfl⟩ := List.getElem?_eq_some_iff.1 h
  exact List.take_succ_eq_append_getElem hl
theorem ids_at {w : World} {p : Option Addr} {l : List (Int × Int)} (hc : Cells w p (l.flatMap idc)) {i : Nat} {x : Int × Int} (h : l[i]? = some x) : ∃ a, p = some a ∧ w.cell? ((a.add (Int.toNat (i : Int) * 2)).add 0) = some (.int .i64 x.1) ∧ w.cell? ((a.add (Int.toNat (i : Int) * 2)).add 1) = some (.int .u64 x.2) := by
  rw [Int.toNat_natCast]
  obtain ⟨a, ha, h0⟩ := hc (i * 2 + 0) _ (flat_get (Z := 2) (fun _ => rfl) l h (j := 0) rfl)
  obtain ⟨a', ha', h1⟩ := hc (i * 2 + 1) _ (flat_get (Z := 2) (fun _ => rfl) l h (j := 1) rfl)
  rw [ha] at ha'
  injection ha' with ha'
  subst ha'
  exact ⟨a, ha, by rw [add_add]; exact h0, by rw [add_add]; exact h1⟩
section
variable {w w' W W0 W1 : World} {Q : Value → World → Prop} {g gs gx gz gm gt1 g1 g3 : Nat} {ft al ft' al' F : List Nat} {S S' : Cs} {k to num now fl e : Int} {x z : Cl} {y : Cp} {refs A B : List (Int × Int)} {rp sp p q : Option Addr} {rc sc c d : Nat} {m : Msg}
/-- rows of IDs: are they alike -/
theorem ids_l0 (hp : Cells W p (A.flatMap idc)) (hq : Cells W q (B.flatMap idc)) (hl : A.length = B.length) (hn : A.length ≤ 9000000000000) (hQ : ∀ w', Fr [] W w' → Q (.bool (decide (A = B))) w') :
    ∀ (f i : Nat) (w : World), A.length - i < f → i ≤ A.length → A.take i = B.take i → Fr [] W w → X22.l0 Q f p A.length c q B.length d (i : Int) w
  | 0, i, w, hf, _, _, _ => by omega
  | f + 1, i, w, hf, hi, he, F => by
    rw [X22.l0]
    refine bc_dec (fun h1 => drawn fun w1 f1 _ => ?_) (fun h1 => ?_)
    · have hia : i < A.length := by omega
      have ea := List.getElem?_eq_getElem hia
      have eb := List.getElem?_eq_getElem (hl ▸ hia : i < B.length)
      generalize A[i] = a at ea
      generalize B[i] = b at eb
      have F1 := F.tr f1
      obtain ⟨pa, hpa, a0, a1⟩ := ids_at (hp.keep' F1) ea
      obtain ⟨pb, hpb, b0, b1⟩ := ids_at (hq.keep' F1) eb
      refine ⟨⟨by omega, by omega⟩, opt_some hpa (ld_int a0 (ld_int a1 ⟨⟨by omega, by omega⟩, opt_some hpb (ld_int b0 (ld_int b1 ⟨isS37, bc_bool (fun h => ?_) (fun h => ?_)⟩))⟩))⟩
      · have hne : ¬ A = B := by
          intro hab
          subst hab
          rw [ea] at eb
          injection eb with eb
          subst eb
          simp at h
        have := hQ w1 F1
        rw [decide_eq_false hne] at this
        exact this
      · have hab : a = b := by
          simp at h
          exact Prod.ext h.1 h.2
        rw [i64w ((i : Int) + 1) (by omega) (by omega), show (i : Int) + 1 = ((i + 1 : Nat) : Int) by omega]
        exact ids_l0 hp hq hl hn hQ f (i + 1) w1 (by omega) (by omega) (by rw [take_one ea, take_one eb, he, hab]) F1
    · have hi' : i = A.length := by omega
      have hab : A = B := by
        rw [hi', List.take_length, hl, List.take_length] at he
        exact he
      have := hQ w F
      rw [decide_eq_true hab] at this
      exact this
theorem ids_spec (hp : Cells w p (A.flatMap idc)) (hq : Cells w q (B.flatMap idc)) (hn : A.length ≤ 9000000000000) (hQ : ∀ w', Fr [] w w' → Q (.bool (decide (A = B))) w') : CallR Tryz.prog 22 #[.slice p A.length c, .slice q B.length d] w Q := by
  apply X22.sound
  unfold X22.f
  refine bc_ne (fun h => ?_) (fun h => ⟨A.length + 1, ids_l0 hp hq (by omega) hn hQ _ 0 w (by omega) (by omega) rfl (Fr.refl _)⟩)
  have := hQ w (Fr.refl _)
  rw [decide_eq_false (fun he => h (by rw [he]))] at this
  exact this
/-- Held, one call's IDs -/
theorem held_l1 {b0 : Option Addr → Nat → Nat → Option Addr → Nat → Nat → Int → Int → World → Prop} {tp : Option Addr} {tn tc : Nat} {t11 t12 : Int} {l : List (Int × Int)} (hn : A.length + l.length ≤ 50000000)
    (hB : ∀ op oc w', IdRow w' op oc (A ++ l.filter nzI) → (∀ k ∈ fbl op, W1.heap.size ≤ k) → Fr [] W1 w' → b0 op (A ++ l.filter nzI).length oc tp tn tc t11 (IntKind.wrap .i64 (t12 + 1)) w') :
    ∀ (f i : Nat) (w : World) (op : Option Addr) (oc : Nat) (acc : List (Int × Int)), l.length - i < f → i ≤ l.length → acc = A ++ (l.take i).filter nzI → IdRow w rp rc l → (∀ k ∈ fbl rp, k ∉ fbl op) → IdRow w op oc acc → (∀ k ∈ fbl op, W1.heap.size ≤ k) → Fr [] W1 w →
    X29.l1 Q b0 f op acc.length oc tp tn tc t11 t12 rp l.length rc (l.length : Int) (i : Int) w
  | 0, i, w, op, oc, acc, hf, _, _, _, _, _, _, _ => by omega
  | f + 1, i, w, op, oc, acc, hf, hi, ha, hr, hd, ho, hw, F => by
    rw [X29.l1]
    have hal : acc.length ≤ A.length + i := by
      have := List.length_filter_le nzI (l.take i)
      rw [ha, List.length_append]
      rw [List.length_take] at this
      omega
    refine bc_dec (fun h1 => ⟨⟨by omega, by omega⟩, ?_⟩) (fun h1 => ?_)
    · have hlt : i < l.length := by omega
      have ex := List.getElem?_eq_getElem hlt
      generalize l[i] = v at ex
      obtain ⟨pa, hpa, a0, a1⟩ := ids_at hr.cells ex
      refine opt_some hpa (ld_int a0 (ld_int a1 (newB fun g4 w5 b5 f5 h5 => stAllB (vs := idc v) b5 rfl fun w6 b6 f6 => ?_)))
      have z0 := F.size
      have z5 := f5.size
      have z6 := f6.size
      have lr := hr.lt
      have lo := ho.lt
      have r6 : IdRow w6 rp rc l := IdRow.off (hr.keep' f5) (fun hm => by have := lr g4 hm; omega) f6
      have o6 : IdRow w6 op oc acc := IdRow.off (ho.keep' f5) (fun hm => by have := lo g4 hm; omega) f6
      have F6 : Fr [] W1 w6 := (F.tr f5).loc f6 (by omega)
      rw [i64w ((i : Int) + 1) (by omega) (by omega), show (i : Int) + 1 = ((i + 1 : Nat) : Int) by omega]
      refine ld_int (b6.cat 0 _ rfl) (ld_int (b6.cat 1 _ rfl) ⟨isS37, bc_bool (fun h => ?_) (fun h => ?_)⟩)
      · have hv : nzI v = true := by
          unfold nzI noneB
          rw [Bool.and_true] at h
          exact h
        refine ld_int (b6.cat 0 _ rfl) (ld_int (b6.cat 1 _ rfl) (newB fun g11 w12 b12 f12 h12 => ?_))
        have b12 : Blk w12 g11 (idc v) 37 := b12
        have r12 := r6.keep' f12
        have o12 := o6.keep' f12
        have lr12 := r12.lt
        refine app_own rowT38 o12 (cells_one b12) (by rfl) some_ne (by intro u hu; simp at hu; rcases hu with rfl | rfl <;> rfl) (by simp only [maxLen]; omega) (by omega) ?_
        intro p' c' w' o' f' e'
        refine ⟨p', _, c', rfl, ?_⟩
        have z12 := f12.size
        have eacc : (acc ++ [v]).length = acc.length + 1 := by simp
        have := held_l1 hn hB f (i + 1) w' p' c' (acc ++ [v]) (by omega) (by omega) (by rw [take_one ex, List.filter_append, ← List.append_assoc, ← ha]; simp [List.filter, hv]) (r12.keep f' hd)
          (fun k hk hm => by
            rcases e' k hm with h' | h'
            · exact hd k hk h'
            · have := lr12 k hk; omega)
          (by unfold IdRow; rw [eacc, List.flatMap_append]; simpa using o')
          (fun k hk => by
            rcases e' k hk with h' | h'
            · exact hw k h'
            · omega)
          ((F6.tr f12).trans f' (fun k hk => .inr (hw k hk)))
        rw [eacc] at this
        exact this
      · have hv : nzI v = false := by
          unfold nzI noneB
          rw [Bool.and_true] at h
          exact h
        exact held_l1 hn hB f (i + 1) w6 op oc acc (by omega) (by omega) (by rw [take_one ex, List.filter_append, ← List.append_assoc, ← ha]; simp [List.filter, hv]) r6 hd o6 hw F6
    · have hi' : i = l.length := by omega
      subst hi'
      rw [List.take_length] at ha
      subst ha
      exact hB op oc w ho hw F
/-- one call of All's answer -/
theorem Ar.at_ {xs : List Cl} {L : List (Int × Cp)} (h : Ar W0 W1 xs L) {i : Nat} {f : Int × Cp} (hi : L[i]? = some f) : ∃ x, xs[i]? = some x ∧ CallA W0 W1 x f.2 ∧ f.2.refs.length ≤ 8796093022208 ∧ f.2.result.length ≤ 8796093022208 := by
  have hl := (List.getElem?_eq_some_iff.1 hi).1
  have hxl : i < xs.length := by rw [h.len]; exact hl
  have hx := List.getElem?_eq_getElem hxl
  generalize xs[i] = x at hx
  obtain ⟨f', h1, h2⟩ := h.el i x hx
  rw [hi] at h1
  injection h1 with h1
  subst h1
  exact ⟨x, hx, h2⟩
theorem heldOf_le {y : Cp} (h1 : y.refs.length ≤ 1048576) (h2 : y.result.length ≤ 1048576) : (heldOf y).length ≤ 1048577 := by
  unfold heldOf
  refine Nat.le_trans (List.length_filter_le _ _) ?_
  split
  · simp; omega
  · omega
def heldL (L : List (Int × Cp)) : List (Int × Int) := L.flatMap fun e => heldOf e.2
theorem heldL_le : ∀ {L : List (Int × Cp)}, (∀ f ∈ L, f.2.refs.length ≤ 1048576 ∧ f.2.result.length ≤ 1048576) → (heldL L).length ≤ L.length * 1048577
  | [], _ => by simp [heldL]
  | e :: L, h => by
    have h1 := heldL_le (L := L) fun f hf => h f (by simp [hf])
    have h2 := h e (by simp)
    have h3 := heldOf_le h2.1 h2.2
    unfold heldL at h1 ⊢
    rw [List.flatMap_cons, List.length_append, List.length_cons, Nat.succ_mul]
    omega
theorem held_l0 {L : List (Int × Cp)} {ap : Option Addr} {ac n : Nat} {xs : List Cl} (hs : ∀ f ∈ L, f.2.refs.length ≤ 1048576 ∧ f.2.result.length ≤ 1048576) (hn : L.length = n) (hn2 : n ≤ 16) (oa : Own 50 15 W1 ap n ac (xs.flatMap Cl.cells)) (ar : Ar W0 W1 xs L)
    (hQ : ∀ p c w', IdRow w' p c (heldL L) → (∀ k ∈ fbl p, W1.heap.size ≤ k) → Fr [] W1 w' → Q (.slice p (heldL L).length c) w') :
    ∀ (f i : Nat) (w : World) (op : Option Addr) (oc : Nat), n - i < f → i ≤ n → IdRow w op oc (heldL (L.take i)) → (∀ k ∈ fbl op, W1.heap.size ≤ k) → Fr [] W1 w →
      X29.l0 Q f op (heldL (L.take i)).length oc ap n ac (n : Int) (i : Int) w
  | 0, i, w, op, oc, hf, _, _, _, _ => by omega
  | f + 1, i, w, op, oc, hf, hi, ho, hw, F => by
    rw [X29.l0]
    refine bc_dec (fun h1 => ⟨⟨by omega, by omega⟩, ?_⟩) (fun h1 => ?_)
    · have hlt : i < L.length := by omega
      have ef := List.getElem?_eq_getElem hlt
      generalize L[i] = e at ef
      obtain ⟨x, ex, ca, _, _⟩ := ar.at_ ef
      obtain ⟨q1, q2⟩ := hs e (List.mem_of_getElem? ef)
      have hxl : xs.length = n := by rw [ar.len, hn]
      obtain ⟨a, ha, hx⟩ := own_at (fun _ => Cl.len _) oa hxl ex
      have hle : (heldL (L.take i)).length ≤ 16777232 := by
        have h0 := heldL_le (L := L.take i) fun f hf => hs f (List.mem_of_mem_take hf)
        rw [List.length_take] at h0
        exact Nat.le_trans h0 (Nat.le_trans (Nat.mul_le_mul_right 1048577 (show min i L.length ≤ 16 by omega)) (by decide))
      have htk : heldL (L.take (i + 1)) = heldL (L.take i) ++ heldOf e.2 := by
        unfold heldL
        rw [take_one ef, List.flatMap_append]
        simp
      have hx' : At w (a.add (Int.toNat (i : Int) * 15)) x.cells := by rw [Int.toNat_natCast]; exact fun j u hu => F.cell' (hx j u hu)
      refine opt_some ha (ld_Cl (s := x) hx' (newB fun g17 w18 b18 f18 h18 => stAllB (vs := x.cells) b18 rfl fun w19 b19 f19 => ?_))
      have z0 := F.size
      have z18 := f18.size
      have lo := ho.lt
      have F19 : Fr [] W1 w19 := (F.tr f18).loc f19 (by omega)
      have o19 : IdRow w19 op oc (heldL (L.take i)) := IdRow.off (ho.keep' f18) (fun hm => by have := lo g17 hm; omega) f19
      obtain ⟨rp, rc, sp, sc, hxe, r1, r2, n1, n2⟩ := ca
      subst hxe
      have l1 := r1.lt
      have l2 := r2.lt
      have hi64 : IntKind.wrap .i64 ((i : Int) + 1) = ((i + 1 : Nat) : Int) := by rw [i64w ((i : Int) + 1) (by omega) (by omega)]; omega
      have rest : ∀ op' oc' w', IdRow w' op' oc' (heldL (L.take i) ++ heldOf e.2) → (∀ k ∈ fbl op', W1.heap.size ≤ k) → Fr [] W1 w' → X29.l0 Q f op' (heldL (L.take i) ++ heldOf e.2).length oc' ap n ac (n : Int) (IntKind.wrap .i64 ((i : Int) + 1)) w' := by
        intro op' oc' w' o' n' f'
        rw [hi64, ← htk]
        exact held_l0 hs hn hn2 oa ar hQ f (i + 1) w' op' oc' (by omega) (by omega) (by rw [htk]; exact o') n' f'
      refine ld_sl (b19.cat 10 _ rfl) (ld_Cl (s := e.2.cl rp rc sp sc) b19.cat (open_spec fun w37 f37 => ⟨_, rfl, ?_⟩))
      have b37 := b19.keep' f37
      have o37 := o19.keep' f37
      have F37 := F19.tr f37
      have eo : decide ((e.2.cl rp rc sp sc).state = 1 ∨ (e.2.cl rp rc sp sc).state = 4) = openB e.2 := rfl
      rw [eo]
      have hho : ∀ b, openB e.2 = b → heldOf e.2 = (if b then (e.2.tn, e.2.ts) :: e.2.refs else e.2.result).filter nzI := fun b h => by subst h; rfl
      refine bc_bool (fun h => ?_) (fun h => ?_)
      · rw [hho _ h, if_pos rfl] at rest
        have ids : ∀ j u, ([.int .i64 e.2.tn, .int .u64 e.2.ts] : List Value)[j]? = some u → w37.cell? (((at0 g17 0).add 4).add j) = some u := fun j u hj => by
          refine b37.cat.sub 4 j ?_
          match j, hj with
          | 0, hj => exact hj
          | 1, hj => exact hj
        refine ld_int (ids 0 _ rfl) (ld_int (ids 1 _ rfl) (newB fun g41 w42 b41 f42 h41 => ?_))
        have b41 : Blk w42 g41 (idc (e.2.tn, e.2.ts)) 37 := b41
        have og : IdRow w42 (some (at0 g41 0)) 1 [(e.2.tn, e.2.ts)] := by
          unfold IdRow
          exact own_blk b41 rfl (Nat.le_refl _) (by simp [maxLen]) rfl
        have z37 := f37.size
        have z42 := f42.size
        have z19 := f19.size
        have lo37 := o37.lt
        have r42 := r1.keep' (F37.tr f42)
        refine ld_sl (a := rp) (n := e.2.refs.length) (c := rc) ((b37.keep' f42).cat 6 _ rfl) (app_own rowT38 og r42.cells r42.len (fun hh => by subst hh; exact r42.none_c.2.1) (idc_one _) (by simp only [maxLen]; omega) (by omega) ?_)
        intro p' c' w45 o45 f45 e45
        have o45 : IdRow w45 p' c' ((e.2.tn, e.2.ts) :: e.2.refs) := by
          unfold IdRow
          rw [List.length_cons, List.flatMap_cons, Nat.add_comm]
          simpa using o45
        have oo45 : IdRow w45 op oc (heldL (L.take i)) := (o37.keep' f42).keep f45 (fun k hk hm => by
          have := lo37 k hk
          simp [fbl, at0] at hm
          omega)
        have F45 : Fr [] W1 w45 := (F37.tr f42).trans f45 (fun k hk => .inr (by simp [fbl, at0] at hk; omega))
        refine ⟨p', _, c', rfl, e.2.refs.length + 2, ?_⟩
        have hlen : 1 + e.2.refs.length = ((e.2.tn, e.2.ts) :: e.2.refs).length := by rw [List.length_cons, Nat.add_comm]
        rw [hlen]
        refine held_l1 (W1 := W1) (A := heldL (L.take i)) (l := (e.2.tn, e.2.ts) :: e.2.refs) (by rw [List.length_cons]; omega) rest _ 0 w45 op oc _ (by rw [List.length_cons]; omega) (by omega) (by simp) o45 (fun k hk hm => ?_) oo45 hw F45
        have hk2 := lo37 k hm
        rcases e45 k hk with h' | h'
        · simp [fbl, at0] at h'; omega
        · omega
      · rw [hho _ h, if_neg (by simp)] at rest
        have r37 := r2.keep' F37
        unfold X29.j2
        refine ⟨e.2.result.length + 1, held_l1 (W1 := W1) (A := heldL (L.take i)) (l := e.2.result) (by omega) rest _ 0 w37 op oc _ (by omega) (by omega) (by simp) r37 (fun k hk hm => ?_) o37 hw F37⟩
        have := l2 k hk
        have := hw k hm
        omega
    · have hi' : i = L.length := by omega
      rw [hi', List.take_length] at ho ⊢
      exact hQ op oc w ho hw F
theorem held_spec (t : PC w g ft al S) (hs : ∀ f ∈ S.l, f.2.refs.length ≤ 1048576 ∧ f.2.result.length ≤ 1048576) (hc : S.c.calls ≤ 16) (hQ : ∀ p c w', IdRow w' p c (heldC S) → (∀ k ∈ fbl p, w.heap.size ≤ k) → Fr [] w w' → Q (.slice p (heldC S).length c) w') : CallR Tryz.prog 29 #[.pointer (some (at0 g 0))] w Q := by
  apply X29.sound
  unfold X29.f
  have hz := t.size
  refine all_spec t fun p c xs w2 o2 a2 f2 n2 => ⟨_, _, _, rfl, S.l.length + 1, ?_⟩
  have z2 := f2.size
  exact held_l0 (L := S.l) hs rfl (by omega) o2 a2 (fun p' c' w' r' n' f' => hQ p' c' w' r' (fun k hk => by have := n' k hk; omega) (f2.tr f')) _ 0 w2 none 0 (by omega) (by omega) Own.nil (by simp [fbl]) (Fr.refl _)
/-- Pinned -/
def pinY (v : Int × Int) (y : Cp) (z : Int × Int) : Prop := openB y = true ∧ z = v ∧ nzI z = true
theorem pin_l1 {b0 : Addr → Option Addr → Nat → Nat → Int → Int → World → Prop} {v : Int × Int} {tp : Option Addr} {tn tc : Nat} {t11 t12 : Int} {l : List (Int × Int)} (hl : l.length ≤ 9000000000000) (hr : Cells W rp (l.flatMap idc)) (bv : Blk W g1 (idc v) 37) (bx : Blk W gx x.cells 50)
    (hx : x.state = y.state) (hT : (∃ z ∈ l, pinY v y z) → ∀ w', Fr [] W w' → Q (.bool true) w') (hF : (∀ z ∈ l, ¬ pinY v y z) → ∀ w', Fr [] W w' → b0 (at0 g1 0) tp tn tc t11 (IntKind.wrap .i64 (t12 + 1)) w') :
    ∀ (f i : Nat) (w : World), l.length - i < f → i ≤ l.length → (∀ z ∈ l.take i, ¬ pinY v y z) → Fr [] W w → X33.l1 Q b0 f (at0 g1 0) (at0 gx 0) tp tn tc t11 t12 rp l.length rc (l.length : Int) (i : Int) w
  | 0, i, w, hf, _, _, _ => by omega
  | f + 1, i, w, hf, hi, hno, F => by
    rw [X33.l1]
    refine bc_dec (fun h1 => ⟨⟨by omega, by omega⟩, ?_⟩) (fun h1 => ?_)
    · have hlt : i < l.length := by omega
      have ex := List.getElem?_eq_getElem hlt
      generalize l[i] = u at ex
      obtain ⟨pa, hpa, a0, a1⟩ := ids_at (hr.keep' F) ex
      refine opt_some hpa (ld_int a0 (ld_int a1 (newB fun g4 w5 b5 f5 h5 => stAllB (vs := idc u) b5 rfl fun w6 b6 f6 => ?_)))
      have z0 := F.size
      have F6 : Fr [] W w6 := (F.tr f5).loc f6 (by omega)
      have hi64 : IntKind.wrap .i64 ((i : Int) + 1) = ((i + 1 : Nat) : Int) := by rw [i64w ((i : Int) + 1) (by omega) (by omega)]; omega
      refine ld_Cl (s := x) (bx.keep' F6).cat (open_spec fun w23 f23 => ⟨_, rfl, ?_⟩)
      have F23 := F6.tr f23
      have b23 := b6.keep' f23
      have eo : decide (x.state = 1 ∨ x.state = 4) = openB y := by rw [hx]; rfl
      rw [eo, hi64]
      have go : ¬ pinY v y u → ∀ w', Fr [] W w' → X33.l1 Q b0 f (at0 g1 0) (at0 gx 0) tp tn tc t11 t12 rp l.length rc (l.length : Int) ((i + 1 : Nat) : Int) w' := fun hn w' f' => by
        refine pin_l1 hl hr bv bx hx hT hF f (i + 1) w' (by omega) (by omega) (fun z hz => ?_) f'
        rw [take_one ex] at hz
        rcases List.mem_append.1 hz with hz | hz
        · exact hno z hz
        · simp at hz; subst hz; exact hn
      refine bc_bool (fun h => ?_) (fun h => go (fun hp => by rw [hp.1] at h; cases h) w23 F23)
      refine ld_int (b23.cat 0 _ rfl) (ld_int (b23.cat 1 _ rfl) (ld_int ((bv.keep' F23).cat 0 _ rfl) (ld_int ((bv.keep' F23).cat 1 _ rfl) ⟨isS37, bc_bool (fun h2 => ?_) (fun h2 => go (fun hp => ?_) w23 F23)⟩)))
      · have e2 : u = v := by
          simp at h2
          exact Prod.ext h2.1 h2.2
        refine ld_int (b23.cat 0 _ rfl) (ld_int (b23.cat 1 _ rfl) ⟨isS37, bc_bool (fun h3 => ?_) (fun h3 => go (fun hp => ?_) w23 F23)⟩)
        · exact hT ⟨u, List.mem_of_getElem? ex, h, e2, by unfold nzI noneB; rw [Bool.and_true] at h3; exact h3⟩ w23 F23
        · have := hp.2.2
          unfold nzI noneB at this
          rw [Bool.and_true] at h3
          rw [h3] at this
          cases this
      · have := hp.2.1
        subst this
        simp at h2
    · have hi' : i = l.length := by omega
      subst hi'
      rw [List.take_length] at hno
      exact hF hno w F
theorem pin_l0 {v : Int × Int} {L : List (Int × Cp)} {ap : Option Addr} {ac n : Nat} {xs : List Cl} (hn : L.length = n) (hn2 : n ≤ 4096) (bv : Blk W1 g1 (idc v) 37) (oa : Own 50 15 W1 ap n ac (xs.flatMap Cl.cells)) (ar : Ar W0 W1 xs L)
    (hT : (∃ e ∈ L, ∃ z ∈ e.2.refs, pinY v e.2 z) → ∀ w', Fr [] W1 w' → Q (.bool true) w') (hF : (∀ e ∈ L, ∀ z ∈ e.2.refs, ¬ pinY v e.2 z) → ∀ w', Fr [] W1 w' → Q (.bool false) w') :
    ∀ (f i : Nat) (w : World), n - i < f → i ≤ n → (∀ e ∈ L.take i, ∀ z ∈ e.2.refs, ¬ pinY v e.2 z) → Fr [] W1 w → X33.l0 Q f (at0 g1 0) ap n ac (n : Int) (i : Int) w
  | 0, i, w, hf, _, _, _ => by omega
  | f + 1, i, w, hf, hi, hno, F => by
    rw [X33.l0]
    refine bc_dec (fun h1 => ⟨⟨by omega, by omega⟩, ?_⟩) (fun h1 => ?_)
    · have hlt : i < L.length := by omega
      have ef := List.getElem?_eq_getElem hlt
      generalize L[i] = e at ef
      obtain ⟨x, ex, ca, q1, q2⟩ := ar.at_ ef
      have hxl : xs.length = n := by rw [ar.len, hn]
      obtain ⟨a, ha, hx⟩ := own_at (fun _ => Cl.len _) oa hxl ex
      have hx' : At w (a.add (Int.toNat (i : Int) * 15)) x.cells := by rw [Int.toNat_natCast]; exact fun j u hu => F.cell' (hx j u hu)
      refine opt_some ha (ld_Cl (s := x) hx' (newB fun g17 w18 b18 f18 h18 => stAllB (vs := x.cells) b18 rfl fun w19 b19 f19 => ?_))
      have z0 := F.size
      have F19 : Fr [] W1 w19 := (F.tr f18).loc f19 (by omega)
      obtain ⟨rp, rc, sp, sc, hxe, r1, r2, n1, n2⟩ := ca
      subst hxe
      have hi64 : IntKind.wrap .i64 ((i : Int) + 1) = ((i + 1 : Nat) : Int) := by rw [i64w ((i : Int) + 1) (by omega) (by omega)]; omega
      refine ld_sl (a := rp) (n := e.2.refs.length) (c := rc) (b19.cat 6 _ rfl) ⟨e.2.refs.length + 1, ?_⟩
      refine pin_l1 (W := w19) (y := e.2) (v := v) (by omega) (r1.keep' F19).cells (bv.keep' F19) b19 rfl (fun ⟨z, hz, hp⟩ w' f' => hT ⟨e, List.mem_of_getElem? ef, z, hz, hp⟩ w' (F19.tr f')) (fun hn' w' f' => ?_) _ 0 w19 (by omega) (by omega) (by simp) (Fr.refl _)
      rw [hi64]
      refine pin_l0 hn hn2 bv oa ar hT hF f (i + 1) w' (by omega) (by omega) (fun e' he z hz => ?_) (F19.tr f')
      rw [take_one ef] at he
      rcases List.mem_append.1 he with he | he
      · exact hno e' he z hz
      · simp at he; subst he; exact hn' z hz
    · have hi' : i = L.length := by omega
      subst hi'
      rw [List.take_length] at hno
      exact hF hno w F
theorem pinned_spec {tn ts : Int} (t : PC w g ft al S) (hQ : ∀ w', Fr [] w w' → Q (.bool (pinnedC S (tn, ts))) w') : CallR Tryz.prog 33 #[.pointer (some (at0 g 0)), .agg #[.int .i64 tn, .int .u64 ts]] w Q := by
  apply X33.sound
  unfold X33.f
  have hz := t.size
  refine newB fun g1 w1 b1 f1 h1 => all_spec (t.keep' f1) fun p c xs w2 o2 a2 f2 n2 => ⟨_, _, _, rfl, S.l.length + 1, ?_⟩
  have b1 : Blk w1 g1 (idc (tn, ts)) 37 := b1
  refine pin_l0 (v := (tn, ts)) (L := S.l) rfl (by omega) (b1.keep' f2) o2 a2 ?_ ?_ _ 0 w2 (by omega) (by omega) (by simp) (Fr.refl _)
  · rintro ⟨e, he, z, hz, hp⟩ w' f'
    have : pinnedC S (tn, ts) = true := by
      unfold pinnedC
      refine List.any_eq_true.2 ⟨e, he, ?_⟩
      rw [hp.1, Bool.true_and]
      refine List.any_eq_true.2 ⟨z, hz, ?_⟩
      rw [decide_eq_true hp.2.1, Bool.true_and]
      exact hp.2.2
    rw [← this]
    exact hQ w' (f1.tr (f2.tr f'))
  · intro hno w' f'
    have : pinnedC S (tn, ts) = false := by
      refine Bool.eq_false_iff.2 fun ht => ?_
      unfold pinnedC at ht
      obtain ⟨e, he, h2⟩ := List.any_eq_true.1 ht
      rw [Bool.and_eq_true] at h2
      obtain ⟨z, hz, h3⟩ := List.any_eq_true.1 h2.2
      rw [Bool.and_eq_true] at h3
      exact hno e he z hz ⟨h2.1, of_decide_eq_true h3.1, h3.2⟩
    rw [← this]
    exact hQ w' (f1.tr (f2.tr f'))
end
end Go.Proofs.YtdgoalhnkegbmaaGreatX
namespace Go.Proofs.YtdgoalhnkegbmaaGreatX
open Go.RowKit
set_option linter.unusedVariables false
set_option linter.unusedSimpArgs false
set_option maxRecDepth 100000
/-- the table with one call alone -/
def y1 : Cp := ⟨2, 1, 3, 0, 2, 3, [(1, 7)], 0, 1, 0, [], 0, 0, 0, 0⟩
abbrev y4 : Cp := { y1 with state := 4 }
end Go.Proofs.YtdgoalhnkegbmaaGreatX
namespace Go.Proofs.YtdgoalhnkegbmaaGreatX
open Go.RowKit
set_option linter.unusedVariables false
set_option linter.unusedSimpArgs false
set_option maxRecDepth 100000
section
variable {w w' W : World} {Q : Value → World → Prop} {g gs gx ga gb gc k : Nat} {ft al ft' al' : List Nat} {S S' : Cs} {C c : Cfg} {lat : List Int} {last e : Int} {y : Cp} {v : Int × Int} {want refs : List (Int × Int)} {tp : Option Addr} {tc : Nat} {rf : Bool} {ts bn bs cn cs : Int}
variable {b v : Int × Int}
theorem hR {S : Cs} (h : S.node = 1) (h1 : okID (2, ts)) (h2 : okID b) (h3 : 1 ≤ ts) : true = true ↔ Right (askM S (newY 2 3 0 2 ts 0 [b] 0) 1) := by
  refine ⟨fun _ => right_ask (by omega) (by show 1 ≤ (2 : Int) ∧ (2 : Int) ≤ 64; omega) (by show S.node ≠ 2; omega) (by show okSerial 1; unfold okSerial; omega) (by show (1 : Int) ≤ 1 ∧ (1 : Int) ≤ 1; omega) (by show 1 ≤ (3 : Int) ∧ (3 : Int) ≤ 6; omega) (by show 0 ≤ (0 : Int) ∧ (0 : Int) ≤ 63; omega) h1 ?_ ⟨fun x hx => ?_, by show 1 ≤ 2; omega⟩, fun _ => rfl⟩
  · show noID (2, ts) ↔ _
    unfold noID
    constructor
    · intro h; exact absurd h.1 (show ¬ (2 : Int) = 0 by decide)
    · rintro (h | h)
      · exact absurd h (by show ¬ (3 : Int) = 1; decide)
      · exact absurd h (by show ¬ (3 : Int) = 6; decide)
  · have hx' : x ∈ [b] := hx
    simp at hx'
    subst hx'
    exact h2
end
end Go.Proofs.YtdgoalhnkegbmaaGreatX
namespace Go.Proofs.YtdgoalhnkegbmaaGreatX
open Go.RowKit
set_option linter.unusedVariables false
set_option linter.unusedSimpArgs false
set_option maxRecDepth 100000
structure Sq where
  what : Int
  to : Int
  op : Int
  field : Int
  num : Int
  n : Int
  tn : Int
  ts : Int
  refs : List (Int × Int)
  near : Bool
def Sq.cells (x : Sq) (p : Option Addr) (c : Nat) : List Value := [.int .i64 x.what, .int .i64 x.to, .int .i64 x.op, .int .i64 x.field, .int .u64 x.num, .int .u64 x.n, .int .i64 x.tn, .int .u64 x.ts, .slice p x.refs.length c, .bool x.near]
structure SqW (x : Sq) : Prop where
  num : 0 ≤ x.num ∧ x.num ≤ 18446744073709551615
  n : 0 ≤ x.n ∧ x.n ≤ 18446744073709551615
  ts : 0 ≤ x.ts ∧ x.ts ≤ 18446744073709551615
  refs : ∀ z ∈ x.refs, 0 ≤ z.2 ∧ z.2 ≤ 18446744073709551615
  len : x.refs.length * 16 ≤ 140737488351232
theorem id_of_lies {H : Type} {w : World} {n : Nat} {cs : List Value} {d : DataW H} (h : Lies Tryz.prog w (n + 2) 37 cs d) : ∃ x : Int × Int, cs = idc x ∧ (Lit.int .u64 x.2).wf = true := by
  obtain ⟨x, hx, w1⟩ := Idn_of_lies h
  exact ⟨(x.nd, x.sr), hx, w1⟩
theorem cells_ids {w : World} {a : Addr} {l : List (Int × Int)} (h : ∀ i x, l[i]? = some x → w.cell? (a.add (i * 2)) = some (.int .i64 x.1) ∧ w.cell? (a.add (i * 2 + 1)) = some (.int .u64 x.2)) : Cells w (some a) (l.flatMap idc) := by
  intro j u hj
  refine ⟨a, rfl, ?_⟩
  have hlen : (l.flatMap idc).length = l.length * 2 := flat_length idc_len l
  have hjl := (List.getElem?_eq_some_iff.1 hj).1
  have hi : j / 2 < l.length := by omega
  have hg := List.getElem?_eq_getElem hi
  obtain ⟨h1, h2⟩ := h _ _ hg
  by_cases e : j % 2 = 0
  · have := flat_get idc_len l hg (j := 0) rfl
    rw [show j / 2 * 2 + 0 = j by omega, hj] at this
    injection this with this
    subst this
    rw [show j / 2 * 2 = j by omega] at h1
    exact h1
  · have := flat_get idc_len l hg (j := 1) rfl
    rw [show j / 2 * 2 + 1 = j by omega, hj] at this
    injection this with this
    subst this
    rw [show j / 2 * 2 + 1 = j by omega] at h2
    exact h2
/-- how long a reading's list is; a step's -/
def lenD {H : Type} : DataW H → Nat
  | .slice elems _ => elems.length
  | _ => 0
def refsD {H : Type} : DataW H → Nat
  | .agg parts => match parts[7]? with
    | some d => lenD d
    | none => 0
  | _ => 0
theorem refs_of_lies {H : Type} {w : World} {n : Nat} {cs : List Value} {d : DataW H} (h : Lies Tryz.prog w (n + 3) 38 cs d) (hs : SizedD Tryz.prog 38 d) :
    ∃ (p : Option Addr) (c : Nat) (l : List (Int × Int)), cs = [.slice p l.length c] ∧ Cells w p (l.flatMap idc) ∧ (p = none → c = 0) ∧ l.length * 16 ≤ 140737488351232 ∧ (∀ z ∈ l, (Lit.int .u64 z.2).wf = true) ∧ l.length ≤ c ∧ l.length ≤ lenD d := by
  rcases lies_slice (P := Tryz.prog) (e := 37) Tryz.underlying38 h with ⟨h1, h2⟩ | ⟨a, len, cap, elems, rest, h1, h2, hl, hm, hlen, hel⟩
  · exact ⟨none, 0, [], h1, fun j u hj => by simp at hj, fun _ => rfl, by simp, fun z hz => (by cases hz), by simp, by simp⟩
  · subst h2
    have hz := sized_len Tryz.underlying38 hs
    rw [show Tryz.prog.bytesOf 37 = 16 by kernel_rfl] at hz
    obtain ⟨l, hbl, hb⟩ := list_of (R := fun i (y : DataW H) (x : Int × Int) => (w.cell? (a.add (i * 2)) = some (.int .i64 x.1) ∧ w.cell? (a.add (i * 2 + 1)) = some (.int .u64 x.2)) ∧ (Lit.int .u64 x.2).wf = true) elems 0 (fun i y hy => by
      obtain ⟨cs', hcl, hcell, hly⟩ := hel i y hy
      obtain ⟨x, rfl, hw⟩ := id_of_lies hly
      rw [show Tryz.prog.cellsOf 37 = 2 by kernel_rfl] at hcell
      exact ⟨x, ⟨by simpa using hcell 0 _ rfl, by simpa using hcell 1 _ rfl⟩, hw⟩)
    have get : ∀ i x, l[i]? = some x → (w.cell? (a.add (i * 2)) = some (.int .i64 x.1) ∧ w.cell? (a.add (i * 2 + 1)) = some (.int .u64 x.2)) ∧ (Lit.int .u64 x.2).wf = true := fun i x hi => by
      have hlt : i < elems.length := by have := (List.getElem?_eq_some_iff.1 hi).1; omega
      have := hb i _ x (List.getElem?_eq_getElem hlt) hi
      rwa [Nat.zero_add] at this
    refine ⟨some a, cap, l, by rw [h1]; congr 2; omega, cells_ids fun i x hi => (get i x hi).1, (fun h => by cases h), by omega, fun z hz => ?_, by omega, by show l.length ≤ elems.length; omega⟩
    obtain ⟨i, hi⟩ := List.getElem?_of_mem hz
    exact (get i z hi).2
theorem step_of_lies {H : Type} {w : World} {n : Nat} {cs : List Value} {d : DataW H} (h : Lies Tryz.prog w (n + 4) 40 cs d) (hs : SizedD Tryz.prog 40 d) :
    ∃ x p c, cs = Sq.cells x p c ∧ Cells w p (x.refs.flatMap idc) ∧ (p = none → c = 0) ∧ SqW x ∧ x.refs.length ≤ c ∧ x.refs.length ≤ refsD d := by
  obtain ⟨hl, ds, hds, hdl, hf⟩ := lies_struct Tryz.underlying40 h
  rw [show Tryz.prog.cellsOf 40 = 10 by kernel_rfl] at hl
  subst hds
  match cs, hl with
  | [c0, c1, c2, c3, c4, c5, c6, c7, c8, c9], _ =>
  match ds, hdl with
  | [d0, d1, d2, d3, d4, d5, d6, d7, d8], _ =>
  have g0 := hf 0 { name := "What", type := 3, offset := 0, embedded := false, tag := "", pkgPath := "", byteOffset := 0 } d0 rfl rfl
  have g1 := hf 1 { name := "To", type := 3, offset := 1, embedded := false, tag := "", pkgPath := "", byteOffset := 8 } d1 rfl rfl
  have g2 := hf 2 { name := "Op", type := 3, offset := 2, embedded := false, tag := "", pkgPath := "", byteOffset := 16 } d2 rfl rfl
  have g3 := hf 3 { name := "Field", type := 3, offset := 3, embedded := false, tag := "", pkgPath := "", byteOffset := 24 } d3 rfl rfl
  have g4 := hf 4 { name := "Num", type := 22, offset := 4, embedded := false, tag := "", pkgPath := "", byteOffset := 32 } d4 rfl rfl
  have g5 := hf 5 { name := "N", type := 22, offset := 5, embedded := false, tag := "", pkgPath := "", byteOffset := 40 } d5 rfl rfl
  have g6 := hf 6 { name := "Target", type := 37, offset := 6, embedded := false, tag := "", pkgPath := "", byteOffset := 48 } d6 rfl rfl
  have g7 := hf 7 { name := "Refs", type := 38, offset := 8, embedded := false, tag := "", pkgPath := "", byteOffset := 64 } d7 rfl rfl
  have g8 := hf 8 { name := "Near", type := 4, offset := 9, embedded := false, tag := "", pkgPath := "", byteOffset := 88 } d8 rfl rfl
  have s7 : SizedD Tryz.prog 38 d7 := sized_field (i := 7) Tryz.underlying40 hs (f := { name := "Refs", type := 38, offset := 8, embedded := false, tag := "", pkgPath := "", byteOffset := 64 }) rfl rfl
  simp only [show Tryz.prog.cellsOf 3 = 1 by kernel_rfl, show Tryz.prog.cellsOf 22 = 1 by kernel_rfl, show Tryz.prog.cellsOf 37 = 2 by kernel_rfl, show Tryz.prog.cellsOf 38 = 1 by kernel_rfl, show Tryz.prog.cellsOf 4 = 1 by kernel_rfl, List.drop_zero, List.drop_succ_cons, List.take_succ_cons, List.take_zero] at g0 g1 g2 g3 g4 g5 g6 g7 g8
  obtain ⟨x0, e0, _, w0⟩ := lies_int Tryz.underlying3 g0
  obtain ⟨x1, e1, _, w1⟩ := lies_int Tryz.underlying3 g1
  obtain ⟨x2, e2, _, w2⟩ := lies_int Tryz.underlying3 g2
  obtain ⟨x3, e3, _, w3⟩ := lies_int Tryz.underlying3 g3
  obtain ⟨x4, e4, _, w4⟩ := lies_int Tryz.underlying22 g4
  obtain ⟨x5, e5, _, w5⟩ := lies_int Tryz.underlying22 g5
  obtain ⟨x6, e6, w6⟩ := id_of_lies g6
  obtain ⟨rp, rc, x7, e7, r1, r2, r3, r4, r5, r6⟩ := refs_of_lies g7 s7
  obtain ⟨x8, e8, _⟩ := lies_bool Tryz.underlying4 g8
  simp only [idc, List.cons.injEq, and_true] at e0 e1 e2 e3 e4 e5 e6 e7 e8
  obtain ⟨e6, e6'⟩ := e6
  subst e0 e1 e2 e3 e4 e5 e6 e7 e8 e6'
  exact ⟨⟨x0, x1, x2, x3, x4, x5, x6.1, x6.2, x7, x8⟩, rp, rc, rfl, r1, r2, ⟨u64b w4, u64b w5, u64b w6, fun z hz => u64b (r4 z hz), r3⟩, r5, r6⟩
abbrev Sq.val (x : Sq) (p : Option Addr) (c : Nat) : Value := .agg #[.int .i64 x.what, .int .i64 x.to, .int .i64 x.op, .int .i64 x.field, .int .u64 x.num, .int .u64 x.n, .int .i64 x.tn, .int .u64 x.ts, .slice p x.refs.length c, .bool x.near]
def argTo (C : Cfg) (x : Sq) : Int := 1 + x.to % (C.nodes + 1)
def argOp (x : Sq) : Int := 1 + x.op % 6
def argTg (C : Cfg) (x : Sq) : Int × Int := if argOp x = 1 ∨ argOp x = 6 then (0, 0) else (argTo C x, 1 + Int.tmod x.num 4)
def argRef (z : Int × Int) : Int × Int := (1 + z.1 % 3, 1 + Int.tmod z.2 5)
def argRefs (x : Sq) : List (Int × Int) := (x.refs.take 2).map argRef
section
variable {w w' W : World} {Q : Value → World → Prop} {g1 g3 g5 g28 : Nat} {C : Cfg} {x : Sq} {rp p : Option Addr} {rc c : Nat} {tg : Int × Int} {to op : Int}
theorem tmod_rng {n m : Int} (h : 0 ≤ n) (hm : 0 < m) : 0 ≤ Int.tmod n m ∧ Int.tmod n m < m := by
  rw [Int.tmod_eq_emod_of_nonneg h]
  exact md hm
theorem args_out {o : List Value} {pn : Nat} (b3 : Blk w g3 (x.cells rp rc) 40) (b5 : Blk w g5 o 37) (ho : o.length = 2) (b28 : Blk w g28 (idc tg) 37) 
    (hQ : ∀ w', Fr [g5] w w' → Q (.tuple #[.int .i64 to, .int .i64 op, .int .i64 (x.field % 64), .agg #[.int .i64 tg.1, .int .u64 tg.2], .slice p pn c]) w') :
    drewK w fun w2 => ldI .i64 w2 ((at0 g3 0).add 3) fun x3 => CallR Tryz.prog 10 #[.int .i64 x3, .int .i64 (64 : Int)] w2 fun v4 w5 => ∃ (y6 : Int), v4 = .int .i64 y6 ∧ ldI .i64 w5 ((at0 g28 0).add 0) fun x7 => ldI .u64 w5 ((at0 g28 0).add 1) fun x8 => ((∀ j u, ([.int .i64 x7, .int .u64 x8] : List Value)[j]? = some u → World.cell? w2 ((at0 g28 0).add j) = some u) ∧ (∀ j u, ([.int .i64 x7, .int .u64 x8] : List Value)[j]? = some u → World.cell? w5 ((at0 g28 0).add j) = some u)) ∧ stAll w5 (at0 g5 0) [.int .i64 x7, .int .u64 x8] fun w9 => ldI .i64 w9 ((at0 g5 0).add 0) fun x10 => ldI .u64 w9 ((at0 g5 0).add 1) fun x11 => Q (.tuple #[.int .i64 to, .int .i64 op, .int .i64 y6, .agg #[.int .i64 x10, .int .u64 x11], .slice p pn c]) w9 := by
  refine drawn fun w2 f2 _ => ?_
  have b3 := b3.keep' f2
  have b5 := b5.keep' f2
  have b28 := b28.keep' f2
  refine ld_int (b3.cat 3 _ rfl) (pick_spec (by omega) (by omega) ⟨_, rfl, ld_int (b28.cat 0 _ rfl) (ld_int (b28.cat 1 _ rfl) ⟨⟨b28.cat, b28.cat⟩, stAllB (vs := idc tg) b5 (by rw [ho]; rfl) fun w9 b9 f9 => ?_⟩)⟩)
  exact ld_int (b9.cat 0 _ rfl) (ld_int (b9.cat 1 _ rfl) (hQ w9 ((f2.any).tr f9)))
theorem args_l0 {o : List Value} (hw : SqW x) (b3 : Blk W g3 (x.cells rp rc) 40) (b5 : Blk W g5 o 37) (ho : o.length = 2) (b28 : Blk W g28 (idc tg) 37) (hc : Cells W rp (x.refs.flatMap idc))
    (hQ : ∀ p c w', IdRow w' p c (argRefs x) → (∀ k ∈ fbl p, W.heap.size ≤ k) → Fr [g5] W w' → Q (.tuple #[.int .i64 to, .int .i64 op, .int .i64 (x.field % 64), .agg #[.int .i64 tg.1, .int .u64 tg.2], .slice p (argRefs x).length c]) w') :
    ∀ (f i : Nat) (w : World) (p : Option Addr) (c : Nat), 3 - i < f → i ≤ 2 → i ≤ x.refs.length → IdRow w p c ((x.refs.take i).map argRef) → (∀ k ∈ fbl p, W.heap.size ≤ k) → Fr [] W w → X25.l0 Q f (at0 g3 0) (at0 g5 0) to op (at0 g28 0) p ((x.refs.take i).map argRef).length c (i : Int) w
  | 0, i, w, p, c, hf, hi, _, _, _, _ => by omega
  | f + 1, i, w, p, c, hf, hi, hl, hr, hn, F => by
    rw [X25.l0]
    have l5 := b5.lt
    have out : x.refs.take i = x.refs.take 2 → ∀ {Z : Prop}, ((∀ w', Fr [g5] w w' → Q (.tuple #[.int .i64 to, .int .i64 op, .int .i64 (x.field % 64), .agg #[.int .i64 tg.1, .int .u64 tg.2], .slice p ((x.refs.take i).map argRef).length c]) w') → Z) → Z := fun he Z hz => hz fun w' f' => by
      rw [he] at hr ⊢
      refine hQ p c w' (IdRow.off hr (fun hm => by have := hn g5 hm; omega) f') hn (F.any.tr f')
    refine ld_sl (a := rp) (n := x.refs.length) (c := rc) ((b3.keep' F).cat 8 _ rfl) (bc_dec (fun h1 => bc_dec (fun h2 => ?_) (fun h2 => ?_)) (fun h1 => ?_))
    · unfold X25.j1
      refine drawn fun w1 f1 _ => ?_
      have F1 := F.tr f1
      have hlt : i < x.refs.length := by omega
      have ez := List.getElem?_eq_getElem hlt
      have hzm := hw.refs _ (List.getElem_mem hlt)
      generalize x.refs[i] = z at ez hzm
      obtain ⟨pa, hpa, a0, a1⟩ := ids_at (hc.keep' F1) ez
      have hm3 := md (n := z.1) (m := 3) (by omega)
      have hm5 := tmod_rng (m := 5) hzm.1 (by omega)
      have b31 := b3.keep' F1
      have e1 : IntKind.wrap .i64 (1 + z.1 % 3) = 1 + z.1 % 3 := i64w _ (by omega) (by omega)
      have e2 : IntKind.wrap .u64 (1 + Int.tmod z.2 5) = 1 + Int.tmod z.2 5 := u64w _ (by omega) (by omega)
      refine ld_sl (a := rp) (n := x.refs.length) (c := rc) (b31.cat 8 _ rfl) ⟨⟨by omega, by omega⟩, opt_some hpa (ld_int a0 (pick_spec (by omega) (by omega) ⟨_, rfl, ?_⟩))⟩
      refine ld_sl (a := rp) (n := x.refs.length) (c := rc) (b31.cat 8 _ rfl) ⟨⟨b31.cat 8 _ rfl, b31.cat 8 _ rfl⟩, ⟨by omega, by omega⟩, opt_some hpa (ld_int a1 ⟨⟨a1, a1⟩, by omega, ?_⟩)⟩
      rw [e1, e2]
      refine newB fun g11 w12 b11 f12 h11 => ?_
      have b11 : Blk w12 g11 (idc (argRef z)) 37 := b11
      have hlen : ((x.refs.take i).map argRef).length = i := by rw [List.length_map, List.length_take]; omega
      have r12 := (hr.keep' f1).keep' f12
      refine app_own rowT38 r12 (cells_one b11) (by rfl) some_ne (by intro u hu; simp at hu; rcases hu with rfl | rfl <;> rfl) (by simp only [maxLen]; omega) (by omega) ?_
      intro p' c' w' o' f' e'
      refine ⟨p', _, c', rfl, ?_⟩
      have z0 := F.size
      have z1 := f1.size
      have z12 := f12.size
      have etk : (x.refs.take (i + 1)).map argRef = (x.refs.take i).map argRef ++ [argRef z] := by rw [take_one ez, List.map_append]; rfl
      have elen : ((x.refs.take (i + 1)).map argRef).length = ((x.refs.take i).map argRef).length + 1 := by rw [etk]; simp
      rw [i64w ((i : Int) + 1) (by omega) (by omega), show (i : Int) + 1 = ((i + 1 : Nat) : Int) by omega, ← elen]
      have hn' : ∀ k ∈ fbl p', W.heap.size ≤ k := fun k hk => by
        rcases e' k hk with h' | h'
        · exact hn k h'
        · omega
      refine args_l0 hw b3 b5 ho b28 hc hQ f (i + 1) w' p' c' (by omega) (by omega) (by omega) ?_ hn' ((F1.tr f12).trans f' (fun k hk => .inr (hn k hk)))
      unfold IdRow
      rw [elen, etk, List.flatMap_append]
      simpa using o'
    · have hi2 : i = 2 := by omega
      subst hi2
      refine out rfl fun hz => args_out (b3.keep' F) (b5.keep' F) ho (b28.keep' F) hz
    · refine out ?_ fun hz => args_out (b3.keep' F) (b5.keep' F) ho (b28.keep' F) hz
      rw [List.take_of_length_le (by omega), List.take_of_length_le (by omega)]
theorem args_spec (hw : SqW x) (hn : 1 ≤ C.nodes ∧ C.nodes ≤ 64) (hc : Cells w rp (x.refs.flatMap idc)) (hx : x.near = true)
    (hQ : ∀ p c w', IdRow w' p c (argRefs x) → (∀ k ∈ fbl p, w.heap.size ≤ k) → Fr [] w w' → Q (.tuple #[.int .i64 (argTo C x), .int .i64 (argOp x), .int .i64 (x.field % 64), .agg #[.int .i64 (argTg C x).1, .int .u64 (argTg C x).2], .slice p (argRefs x).length c]) w') :
    CallR Tryz.prog 25 #[C.val, x.val rp rc] w Q := by
  apply X25.sound
  unfold X25.f
  refine newB fun g1 w2 b1 f2 h1 => newB fun g3 w4 b3 f4 h3 => newB fun g5 w6 b5 f6 h5 => ?_
  have b1 : Blk w6 g1 C.cells 27 := b1.keep' (f4.tr f6)
  have b3 : Blk w6 g3 (x.cells rp rc) 40 := b3.keep' f6
  have F6 := f2.tr (f4.tr f6)
  have z2 := f2.size
  have z4 := f4.size
  have z6 := f6.size
  refine ld_bool (b3.cat 9 _ rfl) (bc_bool (fun h => by rw [hx] at h; cases h) (fun _ => ?_))
  have hm := md (n := x.to) (m := C.nodes + 1) (by omega)
  have hm6 := md (n := x.op) (m := 6) (by omega)
  have hm4 := tmod_rng (m := 4) hw.num.1 (by omega)
  have en : IntKind.wrap .i64 (C.nodes + 1) = C.nodes + 1 := i64w _ (by omega) (by omega)
  have e1 : IntKind.wrap .i64 (1 + x.to % (C.nodes + 1)) = argTo C x := i64w _ (by omega) (by omega)
  have e2 : IntKind.wrap .i64 (1 + x.op % 6) = argOp x := i64w _ (by omega) (by omega)
  have e3 : IntKind.wrap .u64 (1 + Int.tmod x.num 4) = 1 + Int.tmod x.num 4 := u64w _ (by omega) (by omega)
  refine ld_int (b3.cat 1 _ rfl) (ld_int (b1.cat 0 _ rfl) ?_)
  rw [en]
  refine pick_spec (by omega) (by omega) ⟨_, rfl, ld_int (b3.cat 2 _ rfl) (pick_spec (by omega) (by omega) ⟨_, rfl, ld_int (b3.cat 4 _ rfl) ⟨by omega, newB fun g28 w29 b28 f29 h28 => ?_⟩⟩)⟩
  rw [e1, e2, e3]
  have z29 := f29.size
  have l3 := b3.lt
  have l5 := b5.lt
  have go : ∀ {w30 : World} {tg : Int × Int}, argTg C x = tg → Blk w30 g28 (idc tg) 37 → Fr [g28] w29 w30 → X25.j2 Q (at0 g3 0) (at0 g5 0) (argTo C x) (argOp x) (at0 g28 0) w30 := by
    intro w30 tg et b30 f30
    unfold X25.j2
    have F30 : Fr [] w w30 := (F6.tr f29).loc f30 (by omega)
    have z30 := F30.size
    refine ⟨4, args_l0 (W := w30) (x := x) (rp := rp) (rc := rc) hw ((b3.keep' f29).off1 (by omega) f30) ((b5.keep' f29).off1 (by omega) f30) rfl b30 (hc.keep' F30) (fun p c w' r' n' f' => ?_) _ 0 w30 none 0 (by omega) (by omega) (by omega) Own.nil (by simp [fbl]) (Fr.refl _)⟩
    rw [← et]
    exact hQ p c w' r' (fun k hk => by have := n' k hk; omega) (F30.loc f' (by omega))
  refine stAllB (vs := idc (argTo C x, 1 + Int.tmod x.num 4)) b28 rfl fun w30 b30 f30 => ?_
  refine bc_eq (fun h1 => ?_) (fun n1 => bc_eq (fun h6 => ?_) (fun n6 => ?_))
  · refine stAllB (vs := idc (0, 0)) b30 rfl fun w31 b31 f31 => go ?_ b31 (f30.tr f31)
    unfold argTg
    rw [if_pos (.inl h1)]
  · refine stAllB (vs := idc (0, 0)) b30 rfl fun w31 b31 f31 => go ?_ b31 (f30.tr f31)
    unfold argTg
    rw [if_pos (.inr h6)]
  · refine go ?_ b30 f30
    unfold argTg
    rw [if_neg (fun h => h.elim n1 n6)]
end
end Go.Proofs.YtdgoalhnkegbmaaGreatX
namespace Go.Proofs.YtdgoalhnkegbmaaGreatX
open Go.RowKit
set_option linter.unusedVariables false
set_option linter.unusedSimpArgs false
set_option maxRecDepth 100000
section
variable {w w' w2 W W1 : World} {Q : Value → World → Prop} {g gs gx k : Nat} {ft al ft' al' al2 F : List Nat} {S S' : Cs} {C : Cfg} {p : Option Addr} {c : Nat} {l : List (Int × Int)} {cs : List Value} {e : TypeId} {now last to : Int} {lat : List Int} {y z : Cp} {m : Msg}
/-- what lies beside the table stays -/
theorem PL.base (h : PL W1 w g ft al S) (F : Fr [] W W1) : PL W w g ft al S := ⟨h.t, fun x hx => by have := h.new x hx; have := F.size; omega, F.tr h.F⟩
variable {x : Sq} {gc gt k2 : Nat} {rp rp0 : Option Addr} {rc rc0 : Nat} {times tn ts : Int}
theorem ld_Sq {w : World} {a : Addr} {x : Sq} {p : Option Addr} {c : Nat} {K : Int → Int → Int → Int → Int → Int → Int → Int → Option Addr → Nat → Nat → Bool → Prop} (h : At w a (x.cells p c)) (hk : K x.what x.to x.op x.field x.num x.n x.tn x.ts p x.refs.length c x.near) :
    ldI .i64 w (a.add 0) fun x0 => ldI .i64 w (a.add 1) fun x1 => ldI .i64 w (a.add 2) fun x2 => ldI .i64 w (a.add 3) fun x3 => ldI .u64 w (a.add 4) fun x4 => ldI .u64 w (a.add 5) fun x5 => ldI .i64 w (a.add 6) fun x6 => ldI .u64 w (a.add 7) fun x7 => ldSl w (a.add 8) fun x8p x8n x8c => ldB w (a.add 9) fun x9 => K x0 x1 x2 x3 x4 x5 x6 x7 x8p x8n x8c x9 :=
  ld_int (h 0 _ rfl) (ld_int (h 1 _ rfl) (ld_int (h 2 _ rfl) (ld_int (h 3 _ rfl) (ld_int (h 4 _ rfl) (ld_int (h 5 _ rfl) (ld_int (h 6 _ rfl) (ld_int (h 7 _ rfl) (ld_sl (h 8 _ rfl) (ld_bool (h 9 _ rfl) hk)))))))))
end
end Go.Proofs.YtdgoalhnkegbmaaGreatX
