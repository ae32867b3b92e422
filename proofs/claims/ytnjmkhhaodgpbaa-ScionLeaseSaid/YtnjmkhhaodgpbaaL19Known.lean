/- Calls on a yard; chapter 19's example. -/
import Derived.Test.YtnjmkhhaodgpbaaL19Msg
namespace Go.Proofs.YtnjmkhhaodgpbaaX
open Go.RowKit
set_option linter.unusedVariables false
set_option linter.unusedSimpArgs false
set_option maxRecDepth 100000
/-- a yard that was made since a world; what a law has laid beside it -/
structure ST (W w : World) (g : Nat) (x : HB) (ft : List Nat) (S : Sc) (L : List Nat) : Prop where
  P : PS w g x ft S
  F : Fr [] W w
  nf : ∀ y ∈ ft, W.heap.size ≤ y
  L : ∀ b ∈ L, W.heap.size ≤ b ∧ b < w.heap.size ∧ b ∉ ft
section
variable {w w' W : World} {Q : Value → World → Prop} {g gt bm : Nat} {x : HB} {ft ft' fh F L : List Nat} {S S' : Sc} {s d now k : Int} {r : Scn} {m : Msg} {b : Nat} {pin : Bool} {cs vs : List Value} {e : TypeId}
theorem ST.next (h : ST W w g x ft S L) (P : PS w' g x ft' S') (f : Fr ft w w') (e : ∀ y ∈ ft', y ∈ ft ∨ w.heap.size ≤ y) : ST W w' g x ft' S' L := by
  have z := h.F.size
  have z2 := f.size
  refine ⟨P, h.F.trans f (fun y hy => .inr (h.nf y hy)), fun y hy => ?_, fun b hb => ?_⟩
  · rcases e y hy with h' | h'
    · exact h.nf y h'
    · omega
  · obtain ⟨h1, h2, h3⟩ := h.L b hb
    refine ⟨h1, by omega, fun hm => ?_⟩
    rcases e b hm with h' | h'
    · exact h3 h'
    · omega
theorem ST.keep (h : ST W w g x ft S L) (f : Fr [] w w') : ST W w' g x ft S L := ⟨h.P.keep' f, h.F.tr f, h.nf, fun b hb => by obtain ⟨h1, h2, h3⟩ := h.L b hb; have := f.size; exact ⟨h1, by omega, h3⟩⟩
theorem ST.loc (h : ST W w g x ft S L) (f : Fr [b] w w') (hb : b ∈ L) : ST W w' g x ft S L := by
  obtain ⟨h1, h2, h3⟩ := h.L b hb
  exact ⟨h.P.keep f (fun y hy hm => h3 (by simp at hm; rwa [← hm])), h.F.trans f (fun y hy => .inr (by simp at hy; omega)), h.nf, fun c hc => by obtain ⟨h1, h2, h3⟩ := h.L c hc; have := f.size; exact ⟨h1, by omega, h3⟩⟩
theorem ST.add (h : ST W w g x ft S L) (B : Blk w b cs e) (h1 : W.heap.size ≤ b) (h2 : b ∉ ft) : ST W w g x ft S (b :: L) := ⟨h.P, h.F, h.nf, fun c hc => by
  rcases List.mem_cons.1 hc with rfl | hc
  · exact ⟨h1, B.lt, h2⟩
  · exact h.L c hc⟩
/-- a local block that is made and written -/
theorem ST.new (h : ST W w g x ft S L) {w2 w3 : World} (f : Fr [] w w2) (hg : w.heap.size ≤ b) (B : Blk w3 b vs e) (f3 : Fr [b] w2 w3) : ST W w3 g x ft S (b :: L) ∧ Fr [] w w3 := by
  have F3 : Fr [] w w3 := f.trans f3 (fun y hy => .inr (by simp at hy; omega))
  refine ⟨(h.keep F3).add B (by have := h.F.size; omega) (fun hm => by have := h.P.lt b hm; omega), F3⟩
theorem ST.off (h : ST W w g x ft S L) (hb : b ∈ L) : b ∉ ft := (h.L b hb).2.2
theorem ST.mono {L' : List Nat} (h : ST W w g x ft S L) (hs : ∀ y ∈ L', y ∈ L) : ST W w g x ft S L' := ⟨h.P, h.F, h.nf, fun b hb => h.L b (hs b hb)⟩
def GoS (W w : World) (g : Nat) (x : HB) (ft : List Nat) (S' : Sc) (L : List Nat) (v : Value) (Q : Value → World → Prop) : Prop := ∀ ft' w', ST W w' g x ft' S' L → Fr ft w w' → Q v w'
theorem dirtyL (h : ST W w g x ft S L) (hl : m.refs = [] ∧ m.list = []) (hm : mineS S m 4) (ho : hasO S.os m.ts = true) {r : Msg} {a b : Bool} (he : askedS S m pin now = (S', r, a, b)) (hQ : GoS W w g x ft S' L (res3 r a b) Q) :
    CallR Try.prog 11 #[.pointer (some (at0 g 0)), msgV m none 0 none 0, .bool pin, .int .u64 now] w Q := by
  refine dirty_spec h.P (MM_nil hl.1 hl.2) ?_
  unfold dirtyS
  rw [if_pos hm, if_pos ho, he]
  intro ft' w' P f e
  exact hQ ft' w' (h.next P f e) f
theorem dirtyN (h : ST W w g x ft S L) (hl : m.refs = [] ∧ m.list = []) (hm : mineS S m 4) (ho : hasO S.os m.ts = false) (hQ : GoS W w g x ft S L (res3 (toldM m 4) false true) Q) :
    CallR Try.prog 11 #[.pointer (some (at0 g 0)), msgV m none 0 none 0, .bool pin, .int .u64 now] w Q := by
  refine dirty_spec h.P (MM_nil hl.1 hl.2) ?_
  unfold dirtyS
  rw [if_pos hm, if_neg (by rw [ho]; decide)]
  intro ft' w' P f e
  exact hQ ft' w' (h.next P f e) f
theorem cleanL (h : ST W w g x ft S L) (hl : m.refs = [] ∧ m.list = []) (hm : mineS S m 6) {r : Msg} {b : Bool} (he : cleanR S m = (S', r, b)) (hQ : GoS W w g x ft S' L (res2 r b) Q) :
    CallR Try.prog 14 #[.pointer (some (at0 g 0)), msgV m none 0 none 0] w Q := by
  refine clean_spec h.P (MM_nil hl.1 hl.2) ?_
  unfold cleanS
  rw [if_pos hm, he]
  intro ft' w' P f e
  exact hQ ft' w' (h.next P f e) f
theorem stepL (h : ST W w g x ft S L) {b : Bool} (he : stepS S now = (S', r, b)) (hQ : GoS W w g x ft S' L (.tuple #[r.val, .bool b]) Q) : CallR Try.prog 18 #[.pointer (some (at0 g 0)), .int .u64 now] w Q := by
  refine step_spec h.P ?_
  rw [he]
  intro ft' w' P f e
  exact hQ ft' w' (h.next P f e) f
theorem buryL (h : ST W w g x ft S L) (h0 : 0 ≤ s) (h1 : s ≤ 18446744073709551615) {b : Bool} (he : buryS S s = (S', b)) (hQ : GoS W w g x ft S' L (.bool b) Q) : CallR Try.prog 20 #[.pointer (some (at0 g 0)), .int .u64 s] w Q := by
  refine bury_spec h.P h0 h1 ?_
  rw [he]
  intro ft' w' P f e
  exact hQ ft' w' (h.next P f e) f
theorem raiseL (h : ST W w g x ft S L) (h0 : 0 ≤ s) (h1 : s ≤ 18446744073709551615) {b : Bool} (he : raiseS S s = (S', b)) (hQ : GoS W w g x ft S' L (.bool b) Q) : CallR Try.prog 22 #[.pointer (some (at0 g 0)), .int .u64 s] w Q := by
  refine raise_spec h.P h0 h1 ?_
  rw [he]
  intro ft' w' P f e
  exact hQ ft' w' (h.next P f e) f
theorem forgetL (h : ST W w g x ft S L) (h0 : 0 ≤ s) (h1 : s ≤ 18446744073709551615) (he : forgetS S s = S') (hQ : GoS W w g x ft S' L (.tuple #[]) Q) : CallR Try.prog 24 #[.pointer (some (at0 g 0)), .int .u64 s] w Q := by
  refine forget_spec h.P h0 h1 ?_
  rw [he]
  intro ft' w' P f e
  exact hQ ft' w' (h.next P f e) f
theorem freeL (h : ST W w g x ft S L) (h0 : 0 ≤ s) (h1 : s ≤ 18446744073709551615) (he : { S with os := freeO S.os s } = S') (hQ : GoS W w g x ft S' L (.int .i64 (if hasO S.os s then 0 else 5)) Q) : CallR Try.prog 23 #[.pointer (some (at0 x.h 0)), .int .u64 s] w Q := by
  have h' := h
  obtain ⟨fh, gt, bm, rt, P⟩ := h.P
  refine free_spec' P.heap h0 h1 ?_
  intro fh' w' P' f' e'
  obtain ⟨t2, f2, e2⟩ := P.heap' P' f' e'
  subst he
  exact hQ _ w' (h'.next ⟨_, _, _, _, t2⟩ f2 e2) f2
theorem inL (h : ST W w g x ft S L) (h0 : 0 ≤ s) (h1 : s ≤ 18446744073709551615) {d : Int} (he : inO S.os s = d) (hQ : ∀ w', ST W w' g x ft S L → Fr [] w w' → Q (.int .i64 d) w') : CallR Try.prog 16 #[.pointer (some (at0 x.h 0)), .int .u64 s] w Q := by
  subst he
  exact inS_spec h.P h0 h1 fun w' f => hQ w' (h.keep f) f
theorem dmsgL (h : ST W w g x ft S L) {f t s q v d : Int} (hQ : ∀ w', ST W w' g x ft S L → Fr [] w w' → Q (msgV (dmsg f t s q v d) none 0 none 0) w') : CallR Try.prog 12 #[.int .i64 f, .int .i64 t, .int .u64 s, .int .u64 q, .int .i64 v, .int .i64 d] w Q := dmsg_spec fun w' f => hQ w' (h.keep f) f
theorem yardL {c : Cfg} {node : Int} (hmay : mayB c = true) (hn1 : 1 ≤ node) (hn3 : node ≤ 64) (hn2 : node ≤ c.nodes) (hQ : ∀ g x ft gr w', ST W w' g x ft (sc0 c node) [] → Fr [] W w' → Q (.tuple #[.pointer (some (at0 g 0)), .pointer (some (at0 x.h 0)), .pointer (some (at0 gr 0))]) w') :
    CallR Try.prog 8 #[c.val, .int .i64 node] W Q :=
  yard_spec hmay hn1 hn3 hn2 fun g x ft gr xr fr w' P R B d1 d2 d3 F n1 n2 n3 => hQ g x ft gr w' ⟨P, F, n1, by simp⟩ F
theorem mine_d {f s q v d : Int} (hn : 1 ≤ S.node ∧ S.node ≤ 64) (hf : 1 ≤ f ∧ f ≤ S.c.nodes) (hc : S.c.nodes ≤ 64) (hne : f ≠ S.node) (hs : okSerial s) (hq : okSerial q) (hv : 1 ≤ v ∧ v ≤ 64) (hd : 1 ≤ d ∧ d ≤ 40) {t : Int} (ht : t = S.node) : mineS S (dmsg f t s q v d) 4 := by
  subst ht
  exact ⟨rfl, right_dmsg ⟨hf.1, by omega⟩ hn hne hs hq hv hd, rfl, hf.2, rfl⟩
theorem mine_c {f s q : Int} (hn : 1 ≤ S.node ∧ S.node ≤ 64) (hf : 1 ≤ f ∧ f ≤ S.c.nodes) (hc : S.c.nodes ≤ 64) (hne : f ≠ S.node) (hs : okSerial s) (hq : okSerial q) {t : Int} (ht : t = S.node) : mineS S (cmsg f t s q) 6 := by
  subst ht
  exact ⟨rfl, right_cmsg ⟨hf.1, by omega⟩ hn hne hs hq, rfl, hf.2, rfl⟩
theorem okS {n : Int} (h1 : 1 ≤ n) (h2 : n ≤ 72057594037927935) : okSerial n := ⟨h1, h2⟩
def rawN (n : Int) : Raw := ⟨n, 0, 0, 0, 0, 0, 0, 0, 0, 0, 0, 0, 0, 0, 0, 0, 0, 0, 0, 0, 0, 0⟩
theorem rawN_ok (n : Int) : RawW (rawN n) := ⟨Int.le_refl 0, Int.le_refl 0⟩
theorem conf_nodes (r : Raw) : 2 ≤ (configOf r).nodes ∧ (configOf r).nodes ≤ 4 := by
  have a0 := md (n := r.nodes) (m := 3) (by omega)
  show 2 ≤ 2 + r.nodes % 3 ∧ 2 + r.nodes % 3 ≤ 4
  omega
theorem known_spec (hQ : ∀ w', Fr [] W w' → Q (.bool true) w') : CallR Try.prog 9 #[] W Q := by
  apply X9.sound
  unfold X9.f
  have cn := conf_nodes (rawN 0)
  refine config_spec (r := rawN 0) fun w2 f2 => ⟨_, _, _, _, _, _, _, _, _, _, _, _, _, _, _, _, _, _, _, _, _, _, rfl, ?_⟩
  have hmay := may_config (rawN_ok 0)
  generalize hc : configOf (rawN 0) = c at *
  refine yardL (c := c) hmay (by omega) (by omega) (by omega) fun g x ft gr w26 T26 f26 => ⟨_, _, _, rfl, bc_bool (fun e => by cases e) (fun _ => ?_)⟩
  have hn : ∀ {S : Sc}, S.node = 2 → 1 ≤ S.node ∧ S.node ≤ 64 := fun h => by omega
  refine dmsgL T26 fun w31 T31 f31 => ⟨_, _, _, _, _, _, _, _, _, _, _, _, _, _, _, _, _, _, _, _, _, _, _, rfl, ?_⟩
  refine dirtyL T31 ⟨rfl, rfl⟩ (mine_d ⟨by show (1 : Int) ≤ 2; omega, by show (2 : Int) ≤ 64; omega⟩ ⟨by omega, by show (1 : Int) ≤ c.nodes; omega⟩ (by show c.nodes ≤ 64; omega) (by show (1 : Int) ≠ 2; omega) (okS (by omega) (by omega)) (okS (by omega) (by omega)) ⟨by omega, by omega⟩ ⟨by omega, by omega⟩ rfl) (by rfl)
    (show askedS (sc0 c 2) (dmsg 1 2 5 1 2 3) false 10 = (⟨c, 2, 5, objs 5, [(641, ⟨5, 1, false, 1, 10, 3⟩)], [], 0⟩, toldM (dmsg 1 2 5 1 2 3) 4, false, true) by kernel_rfl) fun ft1 w52 T52 f52 => ⟨_, _, _, _, _, _, _, _, _, _, _, _, _, _, _, _, _, _, _, _, _, _, _, _, _, rfl, newB fun g74 w75 b75 f75 h75 => ?_⟩
  refine stAllB (vs := (toldM (dmsg 1 2 5 1 2 3) 4).cells none 0 none 0) b75 rfl fun w76 b76 f76 => ?_
  obtain ⟨T76, F76⟩ := T52.new f75 h75 b76 f76
  refine dmsgL T76 fun w78 T78 f78 => ⟨_, _, _, _, _, _, _, _, _, _, _, _, _, _, _, _, _, _, _, _, _, _, _, rfl, ?_⟩
  have c78 := b76.keep' f78
  refine dirtyL T78 ⟨rfl, rfl⟩ (mine_d ⟨by show (1 : Int) ≤ 2; omega, by show (2 : Int) ≤ 64; omega⟩ ⟨by omega, by show (1 : Int) ≤ c.nodes; omega⟩ (by show c.nodes ≤ 64; omega) (by show (1 : Int) ≠ 2; omega) (okS (by omega) (by omega)) (okS (by omega) (by omega)) ⟨by omega, by omega⟩ ⟨by omega, by omega⟩ rfl) (by rfl)
    (show askedS ⟨c, 2, 5, objs 5, [(641, ⟨5, 1, false, 1, 10, 3⟩)], [], 0⟩ (dmsg 1 2 5 2 2 3) true 10 = (⟨c, 2, 5, [(1, 0), (2, 0), (3, 0), (4, 0), (5, 3)], [(641, ⟨5, 1, true, 2, 10, 3⟩)], [], 0⟩, toldM (dmsg 1 2 5 2 2 3) 0, true, true) by kernel_rfl) fun ft2 w99 T99 f99 => ⟨_, _, _, _, _, _, _, _, _, _, _, _, _, _, _, _, _, _, _, _, _, _, _, _, _, rfl, newB fun g121 w122 b122 f122 h122 => ?_⟩
  have c99 := c78.keep f99 (T78.off (by simp))
  refine stAllB (vs := (toldM (dmsg 1 2 5 2 2 3) 0).cells none 0 none 0) b122 rfl fun w123 b123 f123 => ?_
  obtain ⟨T123, F123⟩ := T99.new f122 h122 b123 f123
  have c123 := c99.keep' F123
  refine inL T123 (by omega) (by omega) (d := 3) (by rfl) fun w125 T125 f125 => ⟨_, rfl, ?_⟩
  have d125 := b123.keep' f125
  have c125 := c123.keep' f125
  refine cleanL (m := cmsg 1 2 5 3) T125 ⟨rfl, rfl⟩ (mine_c ⟨by show (1 : Int) ≤ 2; omega, by show (2 : Int) ≤ 64; omega⟩ ⟨by omega, by show (1 : Int) ≤ c.nodes; omega⟩ (by show c.nodes ≤ 64; omega) (by show (1 : Int) ≠ 2; omega) (okS (by omega) (by omega)) (okS (by omega) (by omega)) rfl)
    (show cleanR ⟨c, 2, 5, [(1, 0), (2, 0), (3, 0), (4, 0), (5, 3)], [(641, ⟨5, 1, true, 2, 10, 3⟩)], [], 0⟩ (cmsg 1 2 5 3) = (⟨c, 2, 5, objs 5, [(641, ⟨5, 1, false, 3, 10, 3⟩)], [], 0⟩, cleanedM (cmsg 1 2 5 3), true) by kernel_rfl) fun ft3 w128 T128 f128 => ⟨_, _, _, _, _, _, _, _, _, _, _, _, _, _, _, _, _, _, _, _, _, _, _, _, rfl, newB fun g149 w150 b150 f150 h150 => ?_⟩
  have c128 := c125.keep f128 (T125.off (by simp))
  have d128 := d125.keep f128 (T125.off (by simp))
  refine stAllB (vs := (cleanedM (cmsg 1 2 5 3)).cells none 0 none 0) b150 rfl fun w151 b151 f151 => ?_
  obtain ⟨T151, F151⟩ := T128.new f150 h150 b151 f151
  have c151 := c128.keep' F151
  have d151 := d128.keep' F151
  refine ld_int (c151.cat 12 _ rfl) (bc_eqt' rfl (bc_bool (fun _ => bc_bool (fun _ => ?_) (fun e => by cases e)) (fun e => by cases e)))
  refine ld_int (d151.cat 12 _ rfl) (bc_eqt' rfl (ld_int (d151.cat 0 _ rfl) (bc_eqt' rfl (ld_int (d151.cat 15 _ rfl) (bc_eqt' rfl (bc_bool (fun _ => bc_bool (fun _ => bc_eqt' rfl (bc_bool (fun _ => ?_) (fun e => by cases e))) (fun e => by cases e)) (fun e => by cases e)))))))
  refine ld_int (b151.cat 0 _ rfl) (bc_eqt' rfl (inL T151 (by omega) (by omega) (d := 0) (by rfl) fun w158 T158 f158 => ⟨_, rfl, ?_⟩))
  exact hQ w158 (f2.tr T158.F)
end
end Go.Proofs.YtnjmkhhaodgpbaaX
