/- What is asked of an object that is gone; what is older than what came. -/
import Derived.Test.YtnjmkhhaodgpbaaL19KnownR
import Derived.Test.YtnjmkhhaodgpbaaMLies
namespace Go.Proofs.YtnjmkhhaodgpbaaX
open Go.RowKit
set_option linter.unusedVariables false
set_option linter.unusedSimpArgs false
set_option maxRecDepth 100000
section
variable {w w' W : World} {Q : Value → World → Prop} {g : Nat} {x : HB} {ft F L : List Nat} {S S' : Sc}
theorem raw_open {H : Type} {W : World} {cs : Array Value} {d : DataW H} (h : Lies Try.prog W 6 24 cs.toList d) : ∃ r : Raw, cs = r.cells.toArray ∧ RawW r := by
  obtain ⟨r, hr, w1, w2⟩ := Raw_of_lies (n := 4) h
  exact ⟨r, by apply Array.ext'; exact hr, ⟨(u64b w1).1, (u64b w2).1⟩⟩
theorem allL (h : ST W w g x ft S L) {l : List Scn} (he : allS S = l) (hQ : ∀ p c w', ST W w' g x ft S (fbl p ++ L) → Fr [] w w' → Own 53 6 w' p l.length c (sq l) → Q (.slice p l.length c) w') : CallR Try.prog 13 #[.pointer (some (at0 g 0))] w Q := by
  subst he
  refine all_spec h.P fun p c w' o f hp => hQ p c w' ((h.keep f).addL fun b hb => ⟨?_, o.lt b hb, fun hm => ?_⟩) f o
  · have := hp b hb
    have := h.F.size
    omega
  · have := hp b hb
    have := h.P.lt b hm
    omega
/-- a law's opening: its config, a yard of node 1, the example -/
theorem scionFreed_row {H : Type} {cs : Array Value} {d : DataW H} (h : Lies Try.prog W 6 24 cs.toList d) (hs : SizedD Try.prog 24 d) (seq : Int) (hw : (Lit.int .u64 seq).wf = true) (pinned : Bool) :
    CallR Try.prog 6 #[.agg cs, .int .u64 seq, .bool pinned] W fun v w' => v = .bool true ∧ Fr [] W w' := by
  obtain ⟨r, rfl, hr⟩ := raw_open h
  obtain ⟨q0, q1⟩ := u64b hw
  apply X6.sound
  unfold X6.f
  refine newB fun g1 w2 b f2 _ => ?_
  have b : Blk w2 g1 r.cells 24 := b
  have cn := conf_nodes r
  have hmay := may_config hr
  refine ld_Raw (s := r) b.cat (config_spec (r := r) fun w26 f26 => ⟨_, _, _, _, _, _, _, _, _, _, _, _, _, _, _, _, _, _, _, _, _, _, rfl, newB fun gc w50 bc f50 h50 => stAllB (vs := (configOf r).cells) bc rfl fun w51 b51 f51 => ?_⟩)
  generalize hc : configOf r = c at *
  have F26 := f2.tr f26
  have F51 : Fr [] W w51 := (F26.tr f50).trans f51 (fun y hy => .inr (by have := F26.size; simp at hy; omega))
  refine ld_Cfg (s := c) b51.cat (yardL (c := c) (W := w51) hmay (by omega) (by omega) (by omega) fun g x ft gr w75 T75 f75 => ⟨_, _, _, rfl, known_spec fun w80 f80 => ⟨_, rfl, bc_bool (fun e => by cases e) (fun _ => bc_bool (fun e => by cases e) (fun _ => ?_))⟩⟩)
  have T80 := T75.keep f80
  unfold X6.j0
  have hq : IntKind.wrap .u64 (1 + Int.tmod seq 72057594037927935) = 1 + seq % 72057594037927935 := by
    rw [Int.tmod_eq_emod_of_nonneg q0, u64w _ (by omega) (by omega)]
  rw [hq]
  have hq1 : 1 ≤ 1 + seq % 72057594037927935 ∧ 1 + seq % 72057594037927935 ≤ 72057594037927935 := by omega
  generalize 1 + seq % 72057594037927935 = q at *
  refine dmsgL T80 fun w2 T2 f2 => ⟨_, _, _, _, _, _, _, _, _, _, _, _, _, _, _, _, _, _, _, _, _, _, _, rfl, ?_⟩
  refine dirtyL T2 ⟨rfl, rfl⟩ (mine_d ⟨by show (1 : Int) ≤ 1; omega, by show (1 : Int) ≤ 64; omega⟩ ⟨by omega, by show (2 : Int) ≤ c.nodes; omega⟩ (by show c.nodes ≤ 64; omega) (by show (2 : Int) ≠ 1; omega) (okS (by omega) (by omega)) (okS (by omega) (by omega)) ⟨by omega, by omega⟩ ⟨by omega, by omega⟩ rfl) (by rfl) (show askedS (sc0 c 1) (dmsg 2 1 4 1 1 3) true 0 = ((⟨c, 1, 5, [(1, 0), (2, 0), (3, 0), (4, 3), (5, 0)], [(514, ⟨4, 2, true, 1, 0, 3⟩)], [], 0⟩ : Sc), toldM (dmsg 2 1 4 1 1 3) 0, true, true) by kernel_rfl) fun ft1 w23 T23 f23 => ⟨_, _, _, _, _, _, _, _, _, _, _, _, _, _, _, _, _, _, _, _, _, _, _, _, _, rfl, ?_⟩
  refine freeL T23 (by omega) (by omega) (show _ = (⟨c, 1, 5, [(1, 0), (2, 0), (3, 0), (5, 0)], [(514, ⟨4, 2, true, 1, 0, 3⟩)], [], 0⟩ : Sc) by kernel_rfl) fun ft2 w46 T46 f46 => ⟨_, rfl, ?_⟩
  refine forgetL T46 (by omega) (by omega) (show forgetS (⟨c, 1, 5, [(1, 0), (2, 0), (3, 0), (5, 0)], [(514, ⟨4, 2, true, 1, 0, 3⟩)], [], 0⟩ : Sc) 4 = (⟨c, 1, 5, [(1, 0), (2, 0), (3, 0), (5, 0)], [], [], 0⟩ : Sc) by kernel_rfl) fun ft3 w49 T49 f49 => ⟨rfl, by omega, ?_⟩
  refine dmsgL T49 fun w51 T51 f51 => ⟨_, _, _, _, _, _, _, _, _, _, _, _, _, _, _, _, _, _, _, _, _, _, _, rfl, ?_⟩
  refine dirtyN T51 ⟨rfl, rfl⟩ (mine_d ⟨by show (1 : Int) ≤ 1; omega, by show (1 : Int) ≤ 64; omega⟩ ⟨by omega, by show (2 : Int) ≤ c.nodes; omega⟩ (by show c.nodes ≤ 64; omega) (by show (2 : Int) ≠ 1; omega) (okS (by omega) (by omega)) (okS (by omega) (by omega)) ⟨by omega, by omega⟩ ⟨by omega, by omega⟩ rfl) (by rfl) fun ft4 w72 T72 f72 => ⟨_, _, _, _, _, _, _, _, _, _, _, _, _, _, _, _, _, _, _, _, _, _, _, _, _, rfl, newB fun g94 w95 b95 f95 h95 => ?_⟩
  refine stAllB (vs := (toldM (dmsg 2 1 4 q 1 3) 4).cells none 0 none 0) b95 rfl fun w96 b96 f96 => ?_
  obtain ⟨T96, F96⟩ := T72.new f95 h95 b96 f96
  refine cleanL (m := cmsg 2 1 4 q) T96 ⟨rfl, rfl⟩ (mine_c ⟨by show (1 : Int) ≤ 1; omega, by show (1 : Int) ≤ 64; omega⟩ ⟨by omega, by show (2 : Int) ≤ c.nodes; omega⟩ (by show c.nodes ≤ 64; omega) (by show (2 : Int) ≠ 1; omega) (okS (by omega) (by omega)) (okS (by omega) (by omega)) rfl) (show cleanR (⟨c, 1, 5, [(1, 0), (2, 0), (3, 0), (5, 0)], [], [], 0⟩ : Sc) (cmsg 2 1 4 q) = ((⟨c, 1, 5, [(1, 0), (2, 0), (3, 0), (5, 0)], [], [], 0⟩ : Sc), cleanedM (cmsg 2 1 4 q), true) by kernel_rfl) fun ft5 w98 T98 f98 => ⟨_, _, _, _, _, _, _, _, _, _, _, _, _, _, _, _, _, _, _, _, _, _, _, _, rfl, newB fun g119 w120 b120 f120 h120 => ?_⟩
  have c98 := b96.keep f98 (T96.off (by simp))
  refine stAllB (vs := (cleanedM (cmsg 2 1 4 q)).cells none 0 none 0) b120 rfl fun w121 b121 f121 => ?_
  obtain ⟨T121, F121⟩ := T98.new f120 h120 b121 f121
  have c121 := c98.keep' F121
  refine ld_int (c121.cat 12 _ rfl) (bc_eqt' rfl (bc_bool (fun _ => bc_bool (fun _ => bc_bool (fun _ => ?_) (fun e => by cases e)) (fun e => by cases e)) (fun e => by cases e)))
  refine ld_int (b121.cat 0 _ rfl) (bc_eqt' rfl (allL T121 (l := []) (by rfl) fun p pc w125 T125 f125 o125 => ⟨_, _, _, rfl, bc_eqt' rfl ?_⟩))
  refine buryL T125 (by omega) (by omega) (show buryS (⟨c, 1, 5, [(1, 0), (2, 0), (3, 0), (5, 0)], [], [], 0⟩ : Sc) 4 = ((⟨c, 1, 5, [(1, 0), (2, 0), (3, 0), (5, 0)], [], [], 0⟩ : Sc), false) by kernel_rfl) fun ft6 w128 T128 f128 => ⟨_, rfl, bc_bool (fun _ => ?_) (fun e => by cases e)⟩
  exact holdersL T128 (by omega) (by omega) (l := []) (by rfl) fun p2 pc2 w131 T131 f131 o131 => ⟨_, _, _, rfl, rfl, F51.tr T131.F⟩
theorem stale_j0 {c : Cfg} {q o d : Int} (cn : 2 ≤ c.nodes ∧ c.nodes ≤ 4) (hq : 2 ≤ q ∧ q ≤ 1001) (ho : 1 ≤ o ∧ o < q) (hd : 1 ≤ d ∧ d ≤ 40) (T : ST W w g x ft (⟨c, 1, 5, [(1, 0), (2, 0), (3, 0), (4, 0), (5, 0)], [(386, ⟨3, 2, false, q + 1, 7, d⟩)], [], 0⟩ : Sc) L) (hQ : ∀ w', Fr [] W w' → Q (.bool true) w') :
    X3.j0 Q q o d (some (at0 g 0)) (some (at0 x.h 0)) w := by
  unfold X3.j0
  refine cleanL (m := cmsg 2 1 5 q) T ⟨rfl, rfl⟩ (mine_c ⟨by show (1 : Int) ≤ 1; omega, by show (1 : Int) ≤ 64; omega⟩ ⟨by omega, by show (2 : Int) ≤ c.nodes; omega⟩ (by show c.nodes ≤ 64; omega) (by show (2 : Int) ≠ 1; omega) (okS (by omega) (by omega)) (okS (by omega) (by omega)) rfl) (show cleanR (⟨c, 1, 5, [(1, 0), (2, 0), (3, 0), (4, 0), (5, 0)], [(386, ⟨3, 2, false, q + 1, 7, d⟩)], [], 0⟩ : Sc) (cmsg 2 1 5 q) = ((⟨c, 1, 5, [(1, 0), (2, 0), (3, 0), (4, 0), (5, 0)], [(386, ⟨3, 2, false, q + 1, 7, d⟩), (642, ⟨5, 2, false, q, 0, 0⟩)], [], 0⟩ : Sc), cleanedM (cmsg 2 1 5 q), true) by kernel_rfl) fun ft1 w2 T2 f2 => ⟨_, _, _, _, _, _, _, _, _, _, _, _, _, _, _, _, _, _, _, _, _, _, _, _, rfl, ?_⟩
  refine dmsgL T2 fun w24 T24 f24 => ⟨_, _, _, _, _, _, _, _, _, _, _, _, _, _, _, _, _, _, _, _, _, _, _, rfl, ?_⟩
  have hg : get ilt (⟨c, 1, 5, [(1, 0), (2, 0), (3, 0), (4, 0), (5, 0)], [(386, ⟨3, 2, false, q + 1, 7, d⟩), (642, ⟨5, 2, false, q, 0, 0⟩)], [], 0⟩ : Sc).rows (keyS 5 2) = some ⟨5, 2, false, q, 0, 0⟩ := by kernel_rfl
  refine dirtyL T24 ⟨rfl, rfl⟩ (mine_d ⟨by show (1 : Int) ≤ 1; omega, by show (1 : Int) ≤ 64; omega⟩ ⟨by omega, by show (2 : Int) ≤ c.nodes; omega⟩ (by show c.nodes ≤ 64; omega) (by show (2 : Int) ≠ 1; omega) (okS (by omega) (by omega)) (okS (by omega) (by omega)) ⟨by omega, by omega⟩ ⟨by omega, by omega⟩ rfl) (by rfl) (show askedS (⟨c, 1, 5, [(1, 0), (2, 0), (3, 0), (4, 0), (5, 0)], [(386, ⟨3, 2, false, q + 1, 7, d⟩), (642, ⟨5, 2, false, q, 0, 0⟩)], [], 0⟩ : Sc) (dmsg 2 1 5 o 1 d) true 9 = ((⟨c, 1, 5, [(1, 0), (2, 0), (3, 0), (4, 0), (5, 0)], [(386, ⟨3, 2, false, q + 1, 7, d⟩), (642, ⟨5, 2, false, q, 0, 0⟩)], [], 0⟩ : Sc), msgZ, false, false) by
    unfold askedS
    rw [show get ilt (⟨c, 1, 5, [(1, 0), (2, 0), (3, 0), (4, 0), (5, 0)], [(386, ⟨3, 2, false, q + 1, 7, d⟩), (642, ⟨5, 2, false, q, 0, 0⟩)], [], 0⟩ : Sc).rows (keyS (dmsg 2 1 5 o 1 d).ts (dmsg 2 1 5 o 1 d).frm) = some ⟨5, 2, false, q, 0, 0⟩ from hg]
    simp only []
    rw [if_pos (show q > o by omega)]) fun ft4 w45 T45 f45 => ⟨_, _, _, _, _, _, _, _, _, _, _, _, _, _, _, _, _, _, _, _, _, _, _, _, _, rfl, bc_bool (fun _ => bc_bool (fun _ => bc_bool (fun _ => ?_) (fun e => by cases e)) (fun e => by cases e)) (fun e => by cases e)⟩
  exact inL T45 (by omega) (by omega) (d := 0) (by rfl) fun w68 T68 f68 => ⟨_, rfl, hQ w68 T68.F⟩
theorem stale_j1 {c : Cfg} {q o d : Int} (cn : 2 ≤ c.nodes ∧ c.nodes ≤ 4) (hq : 2 ≤ q ∧ q ≤ 1001) (ho : 1 ≤ o ∧ o < q) (hd : 1 ≤ d ∧ d ≤ 40) (T : ST W w g x ft (⟨c, 1, 5, [(1, 0), (2, 0), (3, d), (4, 0), (5, 0)], [(386, ⟨3, 2, true, q, 7, d⟩)], [], 0⟩ : Sc) L) (hQ : ∀ w', Fr [] W w' → Q (.bool true) w') :
    X3.j1 Q q o d (some (at0 g 0)) (some (at0 x.h 0)) w := by
  unfold X3.j1
  rw [u64w (q + 1) (by omega) (by omega)]
  have hg : get ilt (⟨c, 1, 5, [(1, 0), (2, 0), (3, d), (4, 0), (5, 0)], [(386, ⟨3, 2, true, q, 7, d⟩)], [], 0⟩ : Sc).rows (keyS 3 2) = some ⟨3, 2, true, q, 7, d⟩ := by kernel_rfl
  have hp : putS (⟨c, 1, 5, [(1, 0), (2, 0), (3, d), (4, 0), (5, 0)], [(386, ⟨3, 2, true, q, 7, d⟩)], [], 0⟩ : Sc) ⟨3, 2, false, q + 1, 7, d⟩ = (⟨c, 1, 5, [(1, 0), (2, 0), (3, 0), (4, 0), (5, 0)], [(386, ⟨3, 2, false, q + 1, 7, d⟩)], [], 0⟩ : Sc) := by kernel_rfl
  refine cleanL (m := cmsg 2 1 3 (q + 1)) T ⟨rfl, rfl⟩ (mine_c ⟨by show (1 : Int) ≤ 1; omega, by show (1 : Int) ≤ 64; omega⟩ ⟨by omega, by show (2 : Int) ≤ c.nodes; omega⟩ (by show c.nodes ≤ 64; omega) (by show (2 : Int) ≠ 1; omega) (okS (by omega) (by omega)) (okS (by omega) (by omega)) rfl) (show cleanR (⟨c, 1, 5, [(1, 0), (2, 0), (3, d), (4, 0), (5, 0)], [(386, ⟨3, 2, true, q, 7, d⟩)], [], 0⟩ : Sc) (cmsg 2 1 3 (q + 1)) = ((⟨c, 1, 5, [(1, 0), (2, 0), (3, 0), (4, 0), (5, 0)], [(386, ⟨3, 2, false, q + 1, 7, d⟩)], [], 0⟩ : Sc), cleanedM (cmsg 2 1 3 (q + 1)), true) by
    unfold cleanR
    rw [show get ilt (⟨c, 1, 5, [(1, 0), (2, 0), (3, d), (4, 0), (5, 0)], [(386, ⟨3, 2, true, q, 7, d⟩)], [], 0⟩ : Sc).rows (keyS (cmsg 2 1 3 (q + 1)).ts (cmsg 2 1 3 (q + 1)).frm) = some ⟨3, 2, true, q, 7, d⟩ from hg]
    simp only []
    rw [if_neg (show ¬ q > q + 1 by omega), hp]) fun ft1 w2 T2 f2 => ⟨_, _, _, _, _, _, _, _, _, _, _, _, _, _, _, _, _, _, _, _, _, _, _, _, rfl, ?_⟩
  refine dmsgL T2 fun w24 T24 f24 => ⟨_, _, _, _, _, _, _, _, _, _, _, _, _, _, _, _, _, _, _, _, _, _, _, rfl, ?_⟩
  have hg2 : get ilt (⟨c, 1, 5, [(1, 0), (2, 0), (3, 0), (4, 0), (5, 0)], [(386, ⟨3, 2, false, q + 1, 7, d⟩)], [], 0⟩ : Sc).rows (keyS 3 2) = some ⟨3, 2, false, q + 1, 7, d⟩ := by kernel_rfl
  refine dirtyL T24 ⟨rfl, rfl⟩ (mine_d ⟨by show (1 : Int) ≤ 1; omega, by show (1 : Int) ≤ 64; omega⟩ ⟨by omega, by show (2 : Int) ≤ c.nodes; omega⟩ (by show c.nodes ≤ 64; omega) (by show (2 : Int) ≠ 1; omega) (okS (by omega) (by omega)) (okS (by omega) (by omega)) ⟨by omega, by omega⟩ ⟨by omega, by omega⟩ rfl) (by rfl) (show askedS (⟨c, 1, 5, [(1, 0), (2, 0), (3, 0), (4, 0), (5, 0)], [(386, ⟨3, 2, false, q + 1, 7, d⟩)], [], 0⟩ : Sc) (dmsg 2 1 3 q 1 1) true 9 = ((⟨c, 1, 5, [(1, 0), (2, 0), (3, 0), (4, 0), (5, 0)], [(386, ⟨3, 2, false, q + 1, 7, d⟩)], [], 0⟩ : Sc), msgZ, false, false) by
    unfold askedS
    rw [show get ilt (⟨c, 1, 5, [(1, 0), (2, 0), (3, 0), (4, 0), (5, 0)], [(386, ⟨3, 2, false, q + 1, 7, d⟩)], [], 0⟩ : Sc).rows (keyS (dmsg 2 1 3 q 1 1).ts (dmsg 2 1 3 q 1 1).frm) = some ⟨3, 2, false, q + 1, 7, d⟩ from hg2]
    simp only []
    rw [if_pos (show q + 1 > q by omega)]) fun ft4 w45 T45 f45 => ⟨_, _, _, _, _, _, _, _, _, _, _, _, _, _, _, _, _, _, _, _, _, _, _, _, _, rfl, bc_bool (fun e => by cases e) (fun _ => bc_bool (fun e => by cases e) (fun _ => ?_))⟩
  refine inL T45 (by omega) (by omega) (d := 0) (by rfl) fun w68 T68 f68 => ⟨_, rfl, bc_ne (fun e => absurd rfl e) (fun _ => ?_)⟩
  exact holdersL T68 (by omega) (by omega) (l := []) (by rfl) fun p2 pc2 w71 T71 f71 o71 => ⟨_, _, _, rfl, bc_ne (fun e => absurd rfl e) (fun _ => stale_j0 cn hq ho hd T71 hQ)⟩
theorem scionStale_row {H : Type} {cs : Array Value} {d0 : DataW H} (h : Lies Try.prog W 6 24 cs.toList d0) (hs : SizedD Try.prog 24 d0) (seq : Int) (hw : (Lit.int .u64 seq).wf = true) (older : Int) (hw2 : (Lit.int .u64 older).wf = true) (dist : Int) (hw3 : (Lit.int .i64 dist).wf = true) :
    CallR Try.prog 3 #[.agg cs, .int .u64 seq, .int .u64 older, .int .i64 dist] W fun v w' => v = .bool true ∧ Fr [] W w' := by
  obtain ⟨r, rfl, hr⟩ := raw_open h
  obtain ⟨q0, q1⟩ := u64b hw
  obtain ⟨o0, o1⟩ := u64b hw2
  apply X3.sound
  unfold X3.f
  refine newB fun g1 w2 b f2 _ => ?_
  have b : Blk w2 g1 r.cells 24 := b
  have cn := conf_nodes r
  have hmay := may_config hr
  refine ld_Raw (s := r) b.cat (config_spec (r := r) fun w26 f26 => ⟨_, _, _, _, _, _, _, _, _, _, _, _, _, _, _, _, _, _, _, _, _, _, rfl, newB fun gc w50 bc f50 h50 => stAllB (vs := (configOf r).cells) bc rfl fun w51 b51 f51 => ?_⟩)
  generalize hc : configOf r = c at *
  have F26 := f2.tr f26
  have F51 : Fr [] W w51 := (F26.tr f50).trans f51 (fun y hy => .inr (by have := F26.size; simp at hy; omega))
  refine ld_Cfg (s := c) b51.cat (yardL (c := c) (W := w51) hmay (by omega) (by omega) (by omega) fun g x ft gr w75 T75 f75 => ⟨_, _, _, rfl, known_spec fun w80 f80 => ⟨_, rfl, bc_bool (fun e => by cases e) (fun _ => bc_bool (fun e => by cases e) (fun _ => ?_))⟩⟩)
  have T80 := T75.keep f80
  unfold X3.j2
  have hq : IntKind.wrap .u64 (2 + Int.tmod seq 1000) = 2 + seq % 1000 := by
    rw [Int.tmod_eq_emod_of_nonneg q0, u64w _ (by omega) (by omega)]
  rw [hq]
  have hq1 : 2 ≤ 2 + seq % 1000 ∧ 2 + seq % 1000 ≤ 1001 := by omega
  generalize 2 + seq % 1000 = q at *
  rw [u64w (q - 1) (by omega) (by omega)]
  have ho : IntKind.wrap .u64 (1 + Int.tmod older (q - 1)) = 1 + older % (q - 1) := by
    have h1 := Int.emod_nonneg older (show q - 1 ≠ 0 by omega)
    have h2 := Int.emod_lt_of_pos older (show 0 < q - 1 by omega)
    rw [Int.tmod_eq_emod_of_nonneg o0, u64w _ (by omega) (by omega)]
  rw [ho]
  have ho1 : 1 ≤ 1 + older % (q - 1) ∧ 1 + older % (q - 1) < q := by
    have h1 := Int.emod_nonneg older (show q - 1 ≠ 0 by omega)
    have h2 := Int.emod_lt_of_pos older (show 0 < q - 1 by omega)
    omega
  generalize 1 + older % (q - 1) = o at *
  refine ⟨by omega, by omega, pick_spec (by omega) (by omega) ⟨_, rfl, ?_⟩⟩
  have hd0 : IntKind.wrap .i64 (1 + dist % 40) = 1 + dist % 40 := by rw [i64w _ (by omega) (by omega)]
  rw [hd0]
  have hd : 1 ≤ 1 + dist % 40 ∧ 1 + dist % 40 ≤ 40 := by omega
  generalize 1 + dist % 40 = d at *
  refine dmsgL T80 fun w5 T5 f5 => ⟨_, _, _, _, _, _, _, _, _, _, _, _, _, _, _, _, _, _, _, _, _, _, _, rfl, ?_⟩
  refine dirtyL T5 ⟨rfl, rfl⟩ (mine_d ⟨by show (1 : Int) ≤ 1; omega, by show (1 : Int) ≤ 64; omega⟩ ⟨by omega, by show (2 : Int) ≤ c.nodes; omega⟩ (by show c.nodes ≤ 64; omega) (by show (2 : Int) ≠ 1; omega) (okS (by omega) (by omega)) (okS (by omega) (by omega)) ⟨by omega, by omega⟩ ⟨by omega, by omega⟩ rfl) (by rfl) (show askedS (sc0 c 1) (dmsg 2 1 3 q 1 d) true 7 = ((⟨c, 1, 5, [(1, 0), (2, 0), (3, d), (4, 0), (5, 0)], [(386, ⟨3, 2, true, q, 7, d⟩)], [], 0⟩ : Sc), toldM (dmsg 2 1 3 q 1 d) 0, true, true) by kernel_rfl) fun ft1 w26 T26 f26 => ⟨_, _, _, _, _, _, _, _, _, _, _, _, _, _, _, _, _, _, _, _, _, _, _, _, _, rfl, newB fun g48 w49 b49 f49 h49 => ?_⟩
  refine stAllB (vs := (toldM (dmsg 2 1 3 q 1 d) 0).cells none 0 none 0) b49 rfl fun w50 b50 f50 => ?_
  obtain ⟨T50, F50⟩ := T26.new f49 h49 b50 f50
  refine allL T50 (l := [⟨3, 2, true, q, 7, d⟩]) (by rfl) fun p pc w52 T52 f52 o52 => ⟨_, _, _, rfl, ?_⟩
  refine dmsgL T52 fun w55 T55 f55 => ⟨_, _, _, _, _, _, _, _, _, _, _, _, _, _, _, _, _, _, _, _, _, _, _, rfl, ?_⟩
  have o55 := o52.keep' f55
  have hg : get ilt (⟨c, 1, 5, [(1, 0), (2, 0), (3, d), (4, 0), (5, 0)], [(386, ⟨3, 2, true, q, 7, d⟩)], [], 0⟩ : Sc).rows (keyS 3 2) = some ⟨3, 2, true, q, 7, d⟩ := by kernel_rfl
  refine dirtyL T55 ⟨rfl, rfl⟩ (mine_d ⟨by show (1 : Int) ≤ 1; omega, by show (1 : Int) ≤ 64; omega⟩ ⟨by omega, by show (2 : Int) ≤ c.nodes; omega⟩ (by show c.nodes ≤ 64; omega) (by show (2 : Int) ≠ 1; omega) (okS (by omega) (by omega)) (okS (by omega) (by omega)) ⟨by omega, by omega⟩ ⟨by omega, by omega⟩ rfl) (by rfl) (show askedS (⟨c, 1, 5, [(1, 0), (2, 0), (3, d), (4, 0), (5, 0)], [(386, ⟨3, 2, true, q, 7, d⟩)], [], 0⟩ : Sc) (dmsg 2 1 3 o 1 1) true 9 = ((⟨c, 1, 5, [(1, 0), (2, 0), (3, d), (4, 0), (5, 0)], [(386, ⟨3, 2, true, q, 7, d⟩)], [], 0⟩ : Sc), msgZ, false, false) by
    unfold askedS
    rw [show get ilt (⟨c, 1, 5, [(1, 0), (2, 0), (3, d), (4, 0), (5, 0)], [(386, ⟨3, 2, true, q, 7, d⟩)], [], 0⟩ : Sc).rows (keyS (dmsg 2 1 3 o 1 1).ts (dmsg 2 1 3 o 1 1).frm) = some ⟨3, 2, true, q, 7, d⟩ from hg]
    simp only []
    rw [if_pos (show q > o by omega)]) fun ft4 w76 T76 f76 => ⟨_, _, _, _, _, _, _, _, _, _, _, _, _, _, _, _, _, _, _, _, _, _, _, _, _, rfl, newB fun g98 w99 b99 f99 h99 => ?_⟩
  have o76 := o55.keep f76 (fun y hy => T55.off (by simp [hy]))
  refine stAllB (vs := msgZ.cells none 0 none 0) b99 rfl fun w100 b100 f100 => ?_
  obtain ⟨T100, F100⟩ := T76.new f99 h99 b100 f100
  have o100 := o76.keep' F100
  refine cleanL (m := cmsg 2 1 3 o) T100 ⟨rfl, rfl⟩ (mine_c ⟨by show (1 : Int) ≤ 1; omega, by show (1 : Int) ≤ 64; omega⟩ ⟨by omega, by show (2 : Int) ≤ c.nodes; omega⟩ (by show c.nodes ≤ 64; omega) (by show (2 : Int) ≠ 1; omega) (okS (by omega) (by omega)) (okS (by omega) (by omega)) rfl) (show cleanR (⟨c, 1, 5, [(1, 0), (2, 0), (3, d), (4, 0), (5, 0)], [(386, ⟨3, 2, true, q, 7, d⟩)], [], 0⟩ : Sc) (cmsg 2 1 3 o) = ((⟨c, 1, 5, [(1, 0), (2, 0), (3, d), (4, 0), (5, 0)], [(386, ⟨3, 2, true, q, 7, d⟩)], [], 0⟩ : Sc), msgZ, false) by
    unfold cleanR
    rw [show get ilt (⟨c, 1, 5, [(1, 0), (2, 0), (3, d), (4, 0), (5, 0)], [(386, ⟨3, 2, true, q, 7, d⟩)], [], 0⟩ : Sc).rows (keyS (cmsg 2 1 3 o).ts (cmsg 2 1 3 o).frm) = some ⟨3, 2, true, q, 7, d⟩ from hg]
    simp only []
    rw [if_pos (show q > o by omega)]) fun ft5 w102 T102 f102 => ⟨_, _, _, _, _, _, _, _, _, _, _, _, _, _, _, _, _, _, _, _, _, _, _, _, rfl, newB fun g123 w124 b124 f124 h124 => ?_⟩
  have o102 := o100.keep f102 (fun y hy => T100.off (by simp [hy]))
  refine stAllB (vs := msgZ.cells none 0 none 0) b124 rfl fun w125 b125 f125 => ?_
  obtain ⟨T125, F125⟩ := T102.new f124 h124 b125 f125
  have o125 := o102.keep' F125
  refine bc_bool (fun e => by cases e) (fun _ => bc_bool (fun e => by cases e) (fun _ => bc_bool (fun e => by cases e) (fun _ => bc_bool (fun e => by cases e) (fun _ => ?_))))
  refine allL T125 (l := [⟨3, 2, true, q, 7, d⟩]) (by rfl) fun p2 pc2 w127 T127 f127 o127 => ⟨_, _, _, rfl, ?_⟩
  have o127' := o125.keep' f127
  refine scions_spec (l1 := [⟨3, 2, true, q, 7, d⟩]) (l2 := [⟨3, 2, true, q, 7, d⟩]) o127.cells o127'.cells (by simp) fun w130 f130 => ⟨_, rfl, bc_bool (fun e => by simp at e) (fun _ => ?_)⟩
  have T130 := T127.keep f130
  refine inL T130 (by omega) (by omega) (d := d) (by rfl) fun w133 T133 f133 => ⟨_, rfl, bc_ne (fun e => absurd rfl e) (fun _ => ?_)⟩
  exact stale_j1 cn hq1 ho1 hd T133 fun w' f' => ⟨rfl, F51.tr f'⟩
end
end Go.Proofs.YtnjmkhhaodgpbaaX
