/- A yard: an owner with five objects, and the document's. -/
import Derived.Test.YtnjmkhhaodgpbaaL19RH
import Derived.Test.YtnjmkhhaodgpbaaL19Config
namespace Go.Proofs.YtnjmkhhaodgpbaaX
open Go.RowKit
set_option linter.unusedVariables false
set_option linter.unusedSimpArgs false
set_option maxRecDepth 100000
def objs (n : Nat) : List (Int × Int) := (List.range n).map fun (k : Nat) => ((k : Int) + 1, 0)
theorem objs_succ (n : Nat) : objs (n + 1) = objs n ++ [((n : Int) + 1, 0)] := by
  unfold objs
  rw [List.range_succ, List.map_append]
  rfl
theorem objs_len (n : Nat) : (objs n).length = n := by simp [objs]
theorem makeO_objs {n : Nat} (h : n < 12) : makeO (n : Int) (objs n) = (((n + 1 : Nat) : Int), objs (n + 1), ((n + 1 : Nat) : Int), 0) := by
  unfold makeO
  rw [objs_len, if_neg (by omega), if_neg (by omega), objs_succ]
  simp
def sc0 (c : Cfg) (node : Int) : Sc := ⟨c, node, 5, objs 5, [], [], 0⟩
def rscells (c : Cfg) (h : Nat) (most : Int) (kp : Option Addr) (kn kc : Nat) (vp : Option Addr) (vn vc : Nat) (bp : Option Addr) (bn bc : Nat) (cur : Int) : List Value := c.cells ++ [.pointer (some (at0 h 0)), .int .i64 most, .slice kp kn kc, .slice vp vn vc, .slice bp bn bc, .int .u64 cur]
section
variable {w w' W : World} {Q : Value → World → Prop} {x : HB} {xr : RHB} {fh fr F : List Nat} {node last s d : Int} {c : Cfg} {os : List (Int × Int)}
theorem snew_bad {a : Option Addr} (h : mayB c = false) (hQ : ∀ w', Fr [] w w' → Q (.tuple #[.pointer none, .int .i64 1]) w') : CallR Try.prog 19 #[c.val, .pointer a] w Q := by
  apply X19.sound
  unfold X19.f
  refine newB fun g1 w2 b2 f2 h2 => drawn fun w3 f3 _ => ?_
  have b2 : Blk w2 g1 c.cells 26 := b2
  refine ld_Cfg (s := c) (b2.keep' f3).cat (may_spec (c := c) fun w27 f27 => ⟨_, rfl, ?_⟩)
  rw [h]
  exact hQ _ (f2.tr (f3.tr f27))
theorem snew_nil (h : mayB c = true) (hQ : ∀ w', Fr [] w w' → Q (.tuple #[.pointer none, .int .i64 1]) w') : CallR Try.prog 19 #[c.val, .pointer none] w Q := by
  apply X19.sound
  unfold X19.f
  refine newB fun g1 w2 b2 f2 h2 => drawn fun w3 f3 _ => ?_
  have b2 : Blk w2 g1 c.cells 26 := b2
  refine ld_Cfg (s := c) (b2.keep' f3).cat (may_spec (c := c) fun w27 f27 => ⟨_, rfl, ?_⟩)
  rw [h]
  exact hQ _ (f2.tr (f3.tr f27))
theorem snew_spec (h : mayB c = true) (t : PH w x fh node last os) (hn : node ≤ c.nodes) (hQ : ∀ g ft w', PS w' g x ft ⟨c, node, last, os, [], [], 0⟩ → Fr [] w w' → (∀ y ∈ ft, y ∈ fh ∨ w.heap.size ≤ y) → Q (.tuple #[.pointer (some (at0 g 0)), .int .i64 0]) w') :
    CallR Try.prog 19 #[c.val, .pointer (some (at0 x.h 0))] w Q := by
  apply X19.sound
  unfold X19.f
  refine newB fun g1 w2 b2 f2 h2 => drawn fun w3 f3 _ => ?_
  have b2 : Blk w2 g1 c.cells 26 := b2
  refine ld_Cfg (s := c) (b2.keep' f3).cat (may_spec (c := c) fun w27 f27 => ⟨_, rfl, ?_⟩)
  rw [h]
  have b27 := b2.keep' (f3.tr f27)
  have F27 := f2.tr (f3.tr f27)
  refine bc_bool (fun e => by cases e) (fun _ => bc_bool (fun e => by cases e) (fun _ => node_spec (t.keep' F27) ⟨_, rfl, ld_int (b27.cat 0 _ rfl) ⟨⟨b27.cat 0 _ rfl, b27.cat 0 _ rfl⟩, bc_neg (by omega) ?_⟩⟩))
  unfold X19.j0
  refine new_SC (fun hh => by omega) (fun _ _ w5 T5 f5 => ⟨_, _, rfl, bc_ne (fun e => absurd rfl e) (fun _ => ?_)⟩)
  refine ld_Cfg (s := c) (b27.keep' f5).cat (newMU fun bm w28 M28 f28 h28 => newB fun g w30 B30 f30 h30 => ?_)
  have z27 := F27.size
  have z5 := f5.size
  have z28 := f28.size
  have l5 := T5.lt _ (List.mem_singleton.2 rfl)
  have lt := t.lt
  have l28 := M28.lt
  have F30 := F27.tr (f5.tr (f28.tr f30))
  refine hQ g _ w30 ⟨fh, _, bm, _, B30, t.keep' F30, T5.keep' (f28.tr f30), M28.keep' f30, ⟨List.Pairwise.nil, by simp, by simp, by simp, by simp⟩, rfl, by omega, by simp; omega, fun hm => by have := lt _ hm; omega, by simp; omega, fun hm => by have := lt _ hm; omega, fun y hy hm => by have := lt _ hm; simp at hy; omega⟩ F30 (fun y hy => ?_)
  rcases List.mem_cons.1 hy with rfl | hy
  · exact .inr (by omega)
  rcases List.mem_cons.1 hy with rfl | hy
  · exact .inr (by omega)
  rcases List.mem_append.1 hy with hy | hy
  · simp at hy
    exact .inr (by omega)
  · exact .inl hy
theorem rsnew_spec (h : mayB c = true) (t : PR w xr fr node last os) (hn : node ≤ c.nodes) (hQ : ∀ g w', Blk w' g (rscells c xr.h 1048576 none 0 0 none 0 0 none 0 0 0) 115 → Fr [] w w' → w.heap.size ≤ g → Q (.pointer (some (at0 g 0))) w') :
    CallR Try.prog 29 #[c.val, .pointer (some (at0 xr.h 0))] w Q := by
  apply X29.sound
  unfold X29.f
  refine newB fun g1 w2 b2 f2 h2 => drawn fun w3 f3 _ => ?_
  have b2 : Blk w2 g1 c.cells 26 := b2
  refine ld_Cfg (s := c) (b2.keep' f3).cat (may_spec (c := c) fun w27 f27 => ⟨_, rfl, ?_⟩)
  rw [h]
  have b27 := b2.keep' (f3.tr f27)
  have F27 := f2.tr (f3.tr f27)
  obtain ⟨ts, os, lp, lc, t, e⟩ := t.keep' F27
  refine bc_bool (fun e => by cases e) (fun _ => bc_bool (fun e => by cases e) (fun _ => opt_some rfl (ld_int (t.c0 0 rfl) (ld_int (b27.cat 0 _ rfl) (bc_neg (by omega) ?_)))))
  refine ld_Cfg (s := c) b27.cat (newB fun g w55 B55 f55 h55 => ?_)
  have z27 := F27.size
  have e23 : (((at0 g 0).add 23).add 0) = (at0 g 0).add 23 := by rw [add_add]
  rw [e23]
  refine stB (i := 23) B55 (show 23 < 28 by omega) fun w56 B56 f56 => ?_
  exact hQ g w56 B56 ((F27.tr f55).trans f56 (fun y hy => .inr (by simp at hy; omega))) (by omega)
theorem yard_l0 {g2 : Nat} (hmay : mayB c = true) (hn1 : 1 ≤ node) (hn2 : node ≤ c.nodes) 
    (hQ : ∀ g x ft gr xr fr w', PS w' g x ft (sc0 c node) → PR w' xr fr node 5 (objs 5) → Blk w' gr (rscells c xr.h 1048576 none 0 0 none 0 0 none 0 0 0) 115 → (∀ y ∈ ft, y ∉ fr) → gr ∉ ft → gr ∉ fr → Fr [] W w' → (∀ y ∈ ft, W.heap.size ≤ y) → (∀ y ∈ fr, W.heap.size ≤ y) → W.heap.size ≤ gr → Q (.tuple #[.pointer (some (at0 g 0)), .pointer (some (at0 x.h 0)), .pointer (some (at0 gr 0))]) w') :
    ∀ (f i : Nat) (fh fr : List Nat) (w : World), 5 - i < f → i ≤ 5 → PH w x fh node (i : Int) (objs i) → PR w xr fr node (i : Int) (objs i) → Blk w g2 c.cells 26 → g2 ∉ fh → g2 ∉ fr → (∀ y ∈ fh, y ∉ fr) → Fr [] W w → (∀ y ∈ fh, W.heap.size ≤ y) → (∀ y ∈ fr, W.heap.size ≤ y) → X8.l0 Q f (at0 g2 0) (some (at0 x.h 0)) (some (at0 xr.h 0)) (i : Int) w
  | 0, i, fh, fr, w, hf, _, _, _, _, _, _, _, _, _, _ => absurd hf (Nat.not_lt_zero _)
  | f + 1, i, fh, fr, w, hf, hi, P, R, B, n1, n2, dj, F, nf, nr => by
    rw [X8.l0]
    refine bc_dec (fun hlt => ?_) (fun hge => ?_)
    · have hi5 : i < 5 := by omega
      have ei : IntKind.wrap .i64 ((i : Int) + 1) = ((i + 1 : Nat) : Int) := by rw [i64w ((i : Int) + 1) (by omega) (by omega)]; omega
      have mo := makeO_objs (n := i) (by omega)
      have z := F.size
      refine make_spec P ?_
      rw [mo]
      intro fh2 w2 P2 f2 e2
      refine ⟨_, _, rfl, rmake_spec (R.keep f2 (fun y hy hm => dj y hm hy)) ?_⟩
      rw [mo]
      intro fr6 w6 R6 f6 e6
      refine ⟨_, _, rfl, ?_⟩
      rw [ei]
      have z2 := f2.size
      have lh := P.lt
      have lr := R.lt
      have lb := B.lt
      have dj2 : ∀ y ∈ fh2, y ∉ fr := fun y hy hm => by
        rcases e2 y hy with h | h
        · exact dj y h hm
        · have := lr y hm
          omega
      have lh2 := P2.lt
      refine yard_l0 hmay hn1 hn2 hQ f (i + 1) fh2 fr6 w6 (by omega) (by omega) (P2.keep f6 dj2) R6 ((B.keep f2 n1).keep f6 n2) (fun hm => ?_) (fun hm => ?_) (fun y hy hm => ?_) ?_ (fun y hy => ?_) (fun y hy => ?_)
      · rcases e2 _ hm with h | h
        · exact n1 h
        · omega
      · rcases e6 _ hm with h | h
        · exact n2 h
        · omega
      · rcases e6 _ hm with h | h
        · exact dj2 y hy h
        · have := lh2 y hy
          omega
      · exact (F.trans f2 (fun y hy => .inr (nf y hy))).trans f6 (fun y hy => .inr (nr y hy))
      · rcases e2 y hy with h | h
        · exact nf y h
        · omega
      · rcases e6 y hy with h | h
        · exact nr y h
        · omega
    · have hi5 : i = 5 := by omega
      subst hi5
      have z := F.size
      have lh := P.lt
      have lr := R.lt
      refine ld_Cfg (s := c) B.cat (snew_spec hmay P hn2 fun g ft w32 P32 f32 e32 => ⟨_, _, rfl, bc_ne (fun e => absurd rfl e) (fun _ => bc_bool (fun e => by cases e) (fun _ => ?_))⟩)
      have R32 := R.keep' f32
      refine ld_Cfg (s := c) (B.keep' f32).cat (rsnew_spec hmay R32 hn2 fun gr w58 B58 f58 h58 => ⟨_, rfl, ?_⟩)
      have z32 := f32.size
      have l32 := P32.lt
      refine hQ g x ft gr xr fr w58 (P32.keep' f58) (R32.keep' f58) B58 (fun y hy hm => ?_) (fun hm => by have := l32 _ hm; omega) (fun hm => by have := lr _ hm; omega) (F.tr (f32.tr f58)) (fun y hy => ?_) nr (by omega)
      · rcases e32 y hy with h | h
        · exact dj y h hm
        · have := lr y hm
          omega
      · rcases e32 y hy with h | h
        · exact nf y h
        · omega
theorem yard_spec (hmay : mayB c = true) (hn1 : 1 ≤ node) (hn3 : node ≤ 64) (hn2 : node ≤ c.nodes)
    (hQ : ∀ g x ft gr xr fr w', PS w' g x ft (sc0 c node) → PR w' xr fr node 5 (objs 5) → Blk w' gr (rscells c xr.h 1048576 none 0 0 none 0 0 none 0 0 0) 115 → (∀ y ∈ ft, y ∉ fr) → gr ∉ ft → gr ∉ fr → Fr [] W w' → (∀ y ∈ ft, W.heap.size ≤ y) → (∀ y ∈ fr, W.heap.size ≤ y) → W.heap.size ≤ gr → Q (.tuple #[.pointer (some (at0 g 0)), .pointer (some (at0 x.h 0)), .pointer (some (at0 gr 0))]) w') :
    CallR Try.prog 8 #[c.val, .int .i64 node] W Q := by
  apply X8.sound
  unfold X8.f
  refine newB fun g1 w2 b2 f2 h2 => heapNew_spec hn1 hn3 fun x fh w4 P4 f4 e4 => ⟨_, _, rfl, rnew_spec hn1 hn3 fun xr fr w8 R8 f8 e8 => ⟨_, rfl, bc_ne (fun e => absurd rfl e) (fun _ => bc_bool (fun e => by cases e) (fun _ => bc_bool (fun e => by cases e) (fun _ => ?_)))⟩⟩
  have b2 : Blk w2 g1 c.cells 26 := b2
  have z2 := f2.size
  have z4 := f4.size
  have lb := b2.lt
  have lh := P4.lt
  unfold X8.j1
  exact ⟨6, yard_l0 hmay hn1 hn2 hQ 6 0 fh fr w8 (by omega) (by omega) (P4.keep' f8) R8 (b2.keep' (f4.tr f8)) (fun hm => by have := e4 _ hm; omega) (fun hm => by have := e8 _ hm; omega) (fun y hy hm => by have := e8 _ hm; have := lh y hy; omega) (f2.tr (f4.tr f8)) (fun y hy => by have := e4 y hy; omega) (fun y hy => by have := e8 y hy; omega)⟩
end
end Go.Proofs.YtnjmkhhaodgpbaaX
