/- What is begun: the steps as they are handed in, and args. -/
import Derived.Test.YtdgoalhnkegbmaaL20KnownR
namespace Go.Proofs.YtdgoalhnkegbmaaX
open Go.RowKit
set_option linter.unusedVariables false
set_option linter.unusedSimpArgs false
set_option maxRecDepth 100000
structure Sq where
  what : Int
  to : Int
  op : Int
  field : Int
  num : Int
  n : Int
  tn : Int
  ts : Int
  refs : List (Int × Int)
  near : Bool
def Sq.cells (x : Sq) (p : Option Addr) (c : Nat) : List Value := [.int .i64 x.what, .int .i64 x.to, .int .i64 x.op, .int .i64 x.field, .int .u64 x.num, .int .u64 x.n, .int .i64 x.tn, .int .u64 x.ts, .slice p x.refs.length c, .bool x.near]
structure SqW (x : Sq) : Prop where
  num : 0 ≤ x.num ∧ x.num ≤ 18446744073709551615
  n : 0 ≤ x.n ∧ x.n ≤ 18446744073709551615
  ts : 0 ≤ x.ts ∧ x.ts ≤ 18446744073709551615
  refs : ∀ z ∈ x.refs, 0 ≤ z.2 ∧ z.2 ≤ 18446744073709551615
  len : x.refs.length * 16 ≤ 140737488351232
theorem id_of_lies {H : Type} {w : World} {n : Nat} {cs : List Value} {d : DataW H} (h : Lies Try.prog w (n + 2) 26 cs d) : ∃ x : Int × Int, cs = idc x ∧ (Lit.int .u64 x.2).wf = true := by
  obtain ⟨x, hx, w1⟩ := Idn_of_lies h
  exact ⟨(x.nd, x.sr), hx, w1⟩
theorem cells_ids {w : World} {a : Addr} {l : List (Int × Int)} (h : ∀ i x, l[i]? = some x → w.cell? (a.add (i * 2)) = some (.int .i64 x.1) ∧ w.cell? (a.add (i * 2 + 1)) = some (.int .u64 x.2)) : Cells w (some a) (l.flatMap idc) := by
  intro j u hj
  refine ⟨a, rfl, ?_⟩
  have hlen : (l.flatMap idc).length = l.length * 2 := flat_length idc_len l
  have hjl := (List.getElem?_eq_some_iff.1 hj).1
  have hi : j / 2 < l.length := by omega
  have hg := List.getElem?_eq_getElem hi
  obtain ⟨h1, h2⟩ := h _ _ hg
  by_cases e : j % 2 = 0
  · have := flat_get idc_len l hg (j := 0) rfl
    rw [show j / 2 * 2 + 0 = j by omega, hj] at this
    injection this with this
    subst this
    rw [show j / 2 * 2 = j by omega] at h1
    exact h1
  · have := flat_get idc_len l hg (j := 1) rfl
    rw [show j / 2 * 2 + 1 = j by omega, hj] at this
    injection this with this
    subst this
    rw [show j / 2 * 2 + 1 = j by omega] at h2
    exact h2
theorem refs_of_lies {H : Type} {w : World} {n : Nat} {cs : List Value} {d : DataW H} (h : Lies Try.prog w (n + 3) 27 cs d) (hs : SizedD Try.prog 27 d) :
    ∃ (p : Option Addr) (c : Nat) (l : List (Int × Int)), cs = [.slice p l.length c] ∧ Cells w p (l.flatMap idc) ∧ (p = none → c = 0) ∧ l.length * 16 ≤ 140737488351232 ∧ ∀ z ∈ l, (Lit.int .u64 z.2).wf = true := by
  rcases lies_slice (P := Try.prog) (e := 26) Try.underlying27 h with ⟨h1, h2⟩ | ⟨a, len, cap, elems, rest, h1, h2, hl, hm, hlen, hel⟩
  · exact ⟨none, 0, [], h1, fun j u hj => by simp at hj, fun _ => rfl, by simp, fun z hz => by cases hz⟩
  · subst h2
    have hz := sized_len Try.underlying27 hs
    rw [show Try.prog.bytesOf 26 = 16 by kernel_rfl] at hz
    obtain ⟨l, hbl, hb⟩ := list_of (R := fun i (y : DataW H) (x : Int × Int) => (w.cell? (a.add (i * 2)) = some (.int .i64 x.1) ∧ w.cell? (a.add (i * 2 + 1)) = some (.int .u64 x.2)) ∧ (Lit.int .u64 x.2).wf = true) elems 0 (fun i y hy => by
      obtain ⟨cs', hcl, hcell, hly⟩ := hel i y hy
      obtain ⟨x, rfl, hw⟩ := id_of_lies hly
      rw [show Try.prog.cellsOf 26 = 2 by kernel_rfl] at hcell
      exact ⟨x, ⟨by simpa using hcell 0 _ rfl, by simpa using hcell 1 _ rfl⟩, hw⟩)
    have get : ∀ i x, l[i]? = some x → (w.cell? (a.add (i * 2)) = some (.int .i64 x.1) ∧ w.cell? (a.add (i * 2 + 1)) = some (.int .u64 x.2)) ∧ (Lit.int .u64 x.2).wf = true := fun i x hi => by
      have hlt : i < elems.length := by have := (List.getElem?_eq_some_iff.1 hi).1; omega
      have := hb i _ x (List.getElem?_eq_getElem hlt) hi
      rwa [Nat.zero_add] at this
    refine ⟨some a, cap, l, by rw [h1]; congr 2; omega, cells_ids fun i x hi => (get i x hi).1, (fun h => by cases h), by omega, fun z hz => ?_⟩
    obtain ⟨i, hi⟩ := List.getElem?_of_mem hz
    exact (get i z hi).2
theorem step_of_lies {H : Type} {w : World} {n : Nat} {cs : List Value} {d : DataW H} (h : Lies Try.prog w (n + 4) 29 cs d) (hs : SizedD Try.prog 29 d) :
    ∃ x p c, cs = Sq.cells x p c ∧ Cells w p (x.refs.flatMap idc) ∧ (p = none → c = 0) ∧ SqW x := by
  obtain ⟨hl, ds, hds, hdl, hf⟩ := lies_struct Try.underlying29 h
  rw [show Try.prog.cellsOf 29 = 10 by kernel_rfl] at hl
  subst hds
  match cs, hl with
  | [c0, c1, c2, c3, c4, c5, c6, c7, c8, c9], _ =>
  match ds, hdl with
  | [d0, d1, d2, d3, d4, d5, d6, d7, d8], _ =>
  have g0 := hf 0 { name := "What", type := 3, offset := 0, embedded := false, tag := "", pkgPath := "", byteOffset := 0 } d0 rfl rfl
  have g1 := hf 1 { name := "To", type := 3, offset := 1, embedded := false, tag := "", pkgPath := "", byteOffset := 8 } d1 rfl rfl
  have g2 := hf 2 { name := "Op", type := 3, offset := 2, embedded := false, tag := "", pkgPath := "", byteOffset := 16 } d2 rfl rfl
  have g3 := hf 3 { name := "Field", type := 3, offset := 3, embedded := false, tag := "", pkgPath := "", byteOffset := 24 } d3 rfl rfl
  have g4 := hf 4 { name := "Num", type := 22, offset := 4, embedded := false, tag := "", pkgPath := "", byteOffset := 32 } d4 rfl rfl
  have g5 := hf 5 { name := "N", type := 22, offset := 5, embedded := false, tag := "", pkgPath := "", byteOffset := 40 } d5 rfl rfl
  have g6 := hf 6 { name := "Target", type := 26, offset := 6, embedded := false, tag := "", pkgPath := "", byteOffset := 48 } d6 rfl rfl
  have g7 := hf 7 { name := "Refs", type := 27, offset := 8, embedded := false, tag := "", pkgPath := "", byteOffset := 64 } d7 rfl rfl
  have g8 := hf 8 { name := "Near", type := 4, offset := 9, embedded := false, tag := "", pkgPath := "", byteOffset := 88 } d8 rfl rfl
  have s7 : SizedD Try.prog 27 d7 := sized_field (i := 7) Try.underlying29 hs (f := { name := "Refs", type := 27, offset := 8, embedded := false, tag := "", pkgPath := "", byteOffset := 64 }) rfl rfl
  simp only [show Try.prog.cellsOf 3 = 1 by kernel_rfl, show Try.prog.cellsOf 22 = 1 by kernel_rfl, show Try.prog.cellsOf 26 = 2 by kernel_rfl, show Try.prog.cellsOf 27 = 1 by kernel_rfl, show Try.prog.cellsOf 4 = 1 by kernel_rfl, List.drop_zero, List.drop_succ_cons, List.take_succ_cons, List.take_zero] at g0 g1 g2 g3 g4 g5 g6 g7 g8
  obtain ⟨x0, e0, _, w0⟩ := lies_int Try.underlying3 g0
  obtain ⟨x1, e1, _, w1⟩ := lies_int Try.underlying3 g1
  obtain ⟨x2, e2, _, w2⟩ := lies_int Try.underlying3 g2
  obtain ⟨x3, e3, _, w3⟩ := lies_int Try.underlying3 g3
  obtain ⟨x4, e4, _, w4⟩ := lies_int Try.underlying22 g4
  obtain ⟨x5, e5, _, w5⟩ := lies_int Try.underlying22 g5
  obtain ⟨x6, e6, w6⟩ := id_of_lies g6
  obtain ⟨rp, rc, x7, e7, r1, r2, r3, r4⟩ := refs_of_lies g7 s7
  obtain ⟨x8, e8, _⟩ := lies_bool Try.underlying4 g8
  simp only [idc, List.cons.injEq, and_true] at e0 e1 e2 e3 e4 e5 e6 e7 e8
  obtain ⟨e6, e6'⟩ := e6
  subst e0 e1 e2 e3 e4 e5 e6 e7 e8 e6'
  exact ⟨⟨x0, x1, x2, x3, x4, x5, x6.1, x6.2, x7, x8⟩, rp, rc, rfl, r1, r2, ⟨u64b w4, u64b w5, u64b w6, fun z hz => u64b (r4 z hz), r3⟩⟩
abbrev Sq.val (x : Sq) (p : Option Addr) (c : Nat) : Value := .agg #[.int .i64 x.what, .int .i64 x.to, .int .i64 x.op, .int .i64 x.field, .int .u64 x.num, .int .u64 x.n, .int .i64 x.tn, .int .u64 x.ts, .slice p x.refs.length c, .bool x.near]
def argTo (C : Cfg) (x : Sq) : Int := 1 + x.to % (C.nodes + 1)
def argOp (x : Sq) : Int := 1 + x.op % 6
def argTg (C : Cfg) (x : Sq) : Int × Int := if argOp x = 1 ∨ argOp x = 6 then (0, 0) else (argTo C x, 1 + Int.tmod x.num 4)
def argRef (z : Int × Int) : Int × Int := (1 + z.1 % 3, 1 + Int.tmod z.2 5)
def argRefs (x : Sq) : List (Int × Int) := (x.refs.take 2).map argRef
section
variable {w w' W : World} {Q : Value → World → Prop} {g1 g3 g5 g28 : Nat} {C : Cfg} {x : Sq} {rp p : Option Addr} {rc c : Nat} {tg : Int × Int} {to op : Int}
theorem tmod_rng {n m : Int} (h : 0 ≤ n) (hm : 0 < m) : 0 ≤ Int.tmod n m ∧ Int.tmod n m < m := by
  rw [Int.tmod_eq_emod_of_nonneg h]
  exact md hm
theorem args_out {o : List Value} {pn : Nat} (b3 : Blk w g3 (x.cells rp rc) 29) (b5 : Blk w g5 o 26) (ho : o.length = 2) (b28 : Blk w g28 (idc tg) 26) 
    (hQ : ∀ w', Fr [g5] w w' → Q (.tuple #[.int .i64 to, .int .i64 op, .int .i64 (x.field % 64), .agg #[.int .i64 tg.1, .int .u64 tg.2], .slice p pn c]) w') :
    drewK w fun w2 => ldI .i64 w2 ((at0 g3 0).add 3) fun x3 => CallR Try.prog 12 #[.int .i64 x3, .int .i64 (64 : Int)] w2 fun v4 w5 => ∃ (y6 : Int), v4 = .int .i64 y6 ∧ ldI .i64 w5 ((at0 g28 0).add 0) fun x7 => ldI .u64 w5 ((at0 g28 0).add 1) fun x8 => ((∀ j u, ([.int .i64 x7, .int .u64 x8] : List Value)[j]? = some u → World.cell? w2 ((at0 g28 0).add j) = some u) ∧ (∀ j u, ([.int .i64 x7, .int .u64 x8] : List Value)[j]? = some u → World.cell? w5 ((at0 g28 0).add j) = some u)) ∧ stAll w5 (at0 g5 0) [.int .i64 x7, .int .u64 x8] fun w9 => ldI .i64 w9 ((at0 g5 0).add 0) fun x10 => ldI .u64 w9 ((at0 g5 0).add 1) fun x11 => Q (.tuple #[.int .i64 to, .int .i64 op, .int .i64 y6, .agg #[.int .i64 x10, .int .u64 x11], .slice p pn c]) w9 := by
  refine drawn fun w2 f2 _ => ?_
  have b3 := b3.keep' f2
  have b5 := b5.keep' f2
  have b28 := b28.keep' f2
  refine ld_int (b3.cat 3 _ rfl) (pick_spec (by omega) (by omega) ⟨_, rfl, ld_int (b28.cat 0 _ rfl) (ld_int (b28.cat 1 _ rfl) ⟨⟨b28.cat, b28.cat⟩, stAllB (vs := idc tg) b5 (by rw [ho]; rfl) fun w9 b9 f9 => ?_⟩)⟩)
  exact ld_int (b9.cat 0 _ rfl) (ld_int (b9.cat 1 _ rfl) (hQ w9 ((f2.any).tr f9)))
theorem argRefs_take (i : Nat) : ((x.refs.take 2).map argRef).take i = (x.refs.take (min i 2)).map argRef := by
  rw [← List.map_take, List.take_take]
theorem args_l0 {o : List Value} (hw : SqW x) (b3 : Blk W g3 (x.cells rp rc) 29) (b5 : Blk W g5 o 26) (ho : o.length = 2) (b28 : Blk W g28 (idc tg) 26) (hc : Cells W rp (x.refs.flatMap idc))
    (hQ : ∀ p c w', IdRow w' p c (argRefs x) → (∀ k ∈ fbl p, W.heap.size ≤ k) → Fr [g5] W w' → Q (.tuple #[.int .i64 to, .int .i64 op, .int .i64 (x.field % 64), .agg #[.int .i64 tg.1, .int .u64 tg.2], .slice p (argRefs x).length c]) w') :
    ∀ (f i : Nat) (w : World) (p : Option Addr) (c : Nat), 3 - i < f → i ≤ 2 → i ≤ x.refs.length → IdRow w p c ((x.refs.take i).map argRef) → (∀ k ∈ fbl p, W.heap.size ≤ k) → Fr [] W w → X13.l0 Q f (at0 g3 0) (at0 g5 0) to op (at0 g28 0) p ((x.refs.take i).map argRef).length c (i : Int) w
  | 0, i, w, p, c, hf, hi, _, _, _, _ => by omega
  | f + 1, i, w, p, c, hf, hi, hl, hr, hn, F => by
    rw [X13.l0]
    have l5 := b5.lt
    have out : x.refs.take i = x.refs.take 2 → ∀ {Z : Prop}, ((∀ w', Fr [g5] w w' → Q (.tuple #[.int .i64 to, .int .i64 op, .int .i64 (x.field % 64), .agg #[.int .i64 tg.1, .int .u64 tg.2], .slice p ((x.refs.take i).map argRef).length c]) w') → Z) → Z := fun he Z hz => hz fun w' f' => by
      rw [he] at hr ⊢
      refine hQ p c w' (IdRow.off hr (fun hm => by have := hn g5 hm; omega) f') hn (F.any.tr f')
    refine ld_sl (a := rp) (n := x.refs.length) (c := rc) ((b3.keep' F).cat 8 _ rfl) (bc_dec (fun h1 => bc_dec (fun h2 => ?_) (fun h2 => ?_)) (fun h1 => ?_))
    · unfold X13.j1
      refine drawn fun w1 f1 _ => ?_
      have F1 := F.tr f1
      have hlt : i < x.refs.length := by omega
      have ez := List.getElem?_eq_getElem hlt
      have hzm := hw.refs _ (List.getElem_mem hlt)
      generalize x.refs[i] = z at ez hzm
      obtain ⟨pa, hpa, a0, a1⟩ := ids_at (hc.keep' F1) ez
      have hm3 := md (n := z.1) (m := 3) (by omega)
      have hm5 := tmod_rng (m := 5) hzm.1 (by omega)
      have b31 := b3.keep' F1
      have e1 : IntKind.wrap .i64 (1 + z.1 % 3) = 1 + z.1 % 3 := i64w _ (by omega) (by omega)
      have e2 : IntKind.wrap .u64 (1 + Int.tmod z.2 5) = 1 + Int.tmod z.2 5 := u64w _ (by omega) (by omega)
      refine ld_sl (a := rp) (n := x.refs.length) (c := rc) (b31.cat 8 _ rfl) ⟨⟨by omega, by omega⟩, opt_some hpa (ld_int a0 (pick_spec (by omega) (by omega) ⟨_, rfl, ?_⟩))⟩
      refine ld_sl (a := rp) (n := x.refs.length) (c := rc) (b31.cat 8 _ rfl) ⟨⟨b31.cat 8 _ rfl, b31.cat 8 _ rfl⟩, ⟨by omega, by omega⟩, opt_some hpa (ld_int a1 ⟨⟨a1, a1⟩, by omega, ?_⟩)⟩
      rw [e1, e2]
      refine newB fun g11 w12 b11 f12 h11 => ?_
      have b11 : Blk w12 g11 (idc (argRef z)) 26 := b11
      have hlen : ((x.refs.take i).map argRef).length = i := by rw [List.length_map, List.length_take]; omega
      have r12 := (hr.keep' f1).keep' f12
      refine app_own rowT27 r12 (cells_one b11) (by rfl) some_ne (by intro u hu; simp at hu; rcases hu with rfl | rfl <;> rfl) (by simp only [maxLen]; omega) (by omega) ?_
      intro p' c' w' o' f' e'
      refine ⟨p', _, c', rfl, ?_⟩
      have z0 := F.size
      have z1 := f1.size
      have z12 := f12.size
      have etk : (x.refs.take (i + 1)).map argRef = (x.refs.take i).map argRef ++ [argRef z] := by rw [take_one ez, List.map_append]; rfl
      have elen : ((x.refs.take (i + 1)).map argRef).length = ((x.refs.take i).map argRef).length + 1 := by rw [etk]; simp
      rw [i64w ((i : Int) + 1) (by omega) (by omega), show (i : Int) + 1 = ((i + 1 : Nat) : Int) by omega, ← elen]
      have hn' : ∀ k ∈ fbl p', W.heap.size ≤ k := fun k hk => by
        rcases e' k hk with h' | h'
        · exact hn k h'
        · omega
      refine args_l0 hw b3 b5 ho b28 hc hQ f (i + 1) w' p' c' (by omega) (by omega) (by omega) ?_ hn' ((F1.tr f12).trans f' (fun k hk => .inr (hn k hk)))
      unfold IdRow
      rw [elen, etk, List.flatMap_append]
      simpa using o'
    · have hi2 : i = 2 := by omega
      subst hi2
      refine out rfl fun hz => args_out (b3.keep' F) (b5.keep' F) ho (b28.keep' F) hz
    · refine out ?_ fun hz => args_out (b3.keep' F) (b5.keep' F) ho (b28.keep' F) hz
      rw [List.take_of_length_le (by omega), List.take_of_length_le (by omega)]
theorem args_spec (hw : SqW x) (hn : 1 ≤ C.nodes ∧ C.nodes ≤ 64) (hc : Cells w rp (x.refs.flatMap idc)) (hx : x.near = true)
    (hQ : ∀ p c w', IdRow w' p c (argRefs x) → (∀ k ∈ fbl p, w.heap.size ≤ k) → Fr [] w w' → Q (.tuple #[.int .i64 (argTo C x), .int .i64 (argOp x), .int .i64 (x.field % 64), .agg #[.int .i64 (argTg C x).1, .int .u64 (argTg C x).2], .slice p (argRefs x).length c]) w') :
    CallR Try.prog 13 #[C.val, x.val rp rc] w Q := by
  apply X13.sound
  unfold X13.f
  refine newB fun g1 w2 b1 f2 h1 => newB fun g3 w4 b3 f4 h3 => newB fun g5 w6 b5 f6 h5 => ?_
  have b1 : Blk w6 g1 C.cells 31 := b1.keep' (f4.tr f6)
  have b3 : Blk w6 g3 (x.cells rp rc) 29 := b3.keep' f6
  have F6 := f2.tr (f4.tr f6)
  have z2 := f2.size
  have z4 := f4.size
  have z6 := f6.size
  refine ld_bool (b3.cat 9 _ rfl) (bc_bool (fun h => by rw [hx] at h; cases h) (fun _ => ?_))
  have hm := md (n := x.to) (m := C.nodes + 1) (by omega)
  have hm6 := md (n := x.op) (m := 6) (by omega)
  have hm4 := tmod_rng (m := 4) hw.num.1 (by omega)
  have en : IntKind.wrap .i64 (C.nodes + 1) = C.nodes + 1 := i64w _ (by omega) (by omega)
  have e1 : IntKind.wrap .i64 (1 + x.to % (C.nodes + 1)) = argTo C x := i64w _ (by omega) (by omega)
  have e2 : IntKind.wrap .i64 (1 + x.op % 6) = argOp x := i64w _ (by omega) (by omega)
  have e3 : IntKind.wrap .u64 (1 + Int.tmod x.num 4) = 1 + Int.tmod x.num 4 := u64w _ (by omega) (by omega)
  refine ld_int (b3.cat 1 _ rfl) (ld_int (b1.cat 0 _ rfl) ?_)
  rw [en]
  refine pick_spec (by omega) (by omega) ⟨_, rfl, ld_int (b3.cat 2 _ rfl) (pick_spec (by omega) (by omega) ⟨_, rfl, ld_int (b3.cat 4 _ rfl) ⟨by omega, newB fun g28 w29 b28 f29 h28 => ?_⟩⟩)⟩
  rw [e1, e2, e3]
  have z29 := f29.size
  have l3 := b3.lt
  have l5 := b5.lt
  have go : ∀ {w30 : World} {tg : Int × Int}, argTg C x = tg → Blk w30 g28 (idc tg) 26 → Fr [g28] w29 w30 → X13.j2 Q (at0 g3 0) (at0 g5 0) (argTo C x) (argOp x) (at0 g28 0) w30 := by
    intro w30 tg et b30 f30
    unfold X13.j2
    have F30 : Fr [] w w30 := (F6.tr f29).loc f30 (by omega)
    have z30 := F30.size
    refine ⟨4, args_l0 (W := w30) (x := x) (rp := rp) (rc := rc) hw ((b3.keep' f29).off1 (by omega) f30) ((b5.keep' f29).off1 (by omega) f30) rfl b30 (hc.keep' F30) (fun p c w' r' n' f' => ?_) _ 0 w30 none 0 (by omega) (by omega) (by omega) Own.nil (by simp [fbl]) (Fr.refl _)⟩
    rw [← et]
    exact hQ p c w' r' (fun k hk => by have := n' k hk; omega) (F30.loc f' (by omega))
  refine stAllB (vs := idc (argTo C x, 1 + Int.tmod x.num 4)) b28 rfl fun w30 b30 f30 => ?_
  refine bc_eq (fun h1 => ?_) (fun n1 => bc_eq (fun h6 => ?_) (fun n6 => ?_))
  · refine stAllB (vs := idc (0, 0)) b30 rfl fun w31 b31 f31 => go ?_ b31 (f30.tr f31)
    unfold argTg
    rw [if_pos (.inl h1)]
  · refine stAllB (vs := idc (0, 0)) b30 rfl fun w31 b31 f31 => go ?_ b31 (f30.tr f31)
    unfold argTg
    rw [if_pos (.inr h6)]
  · refine go ?_ b30 f30
    unfold argTg
    rw [if_neg (fun h => h.elim n1 n6)]
end
end Go.Proofs.YtdgoalhnkegbmaaX
