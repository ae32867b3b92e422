/- Who asks again in time stays a holder. -/
import Derived.Test.YtnjmkhhaodgpbaaL19Known
import Derived.Test.YtnjmkhhaodgpbaaMLies
namespace Go.Proofs.YtnjmkhhaodgpbaaX
open Go.RowKit
set_option linter.unusedVariables false
set_option linter.unusedSimpArgs false
set_option maxRecDepth 100000
section
variable {w w' W : World} {Q : Value → World → Prop} {g : Nat} {x : HB} {ft F L : List Nat} {S S' : Sc}
theorem ST.addL {L' : List Nat} (h : ST W w g x ft S L) (hs : ∀ b ∈ L', W.heap.size ≤ b ∧ b < w.heap.size ∧ b ∉ ft) : ST W w g x ft S (L' ++ L) := ⟨h.P, h.F, h.nf, fun c hc => by
  rcases List.mem_append.1 hc with hc | hc
  · exact hs c hc
  · exact h.L c hc⟩
theorem holdersL (h : ST W w g x ft S L) {s : Int} (h0 : 0 ≤ s) (h1 : s ≤ 18446744073709551615) {l : List Int} (he : holdS S s = l) (hQ : ∀ p c w', ST W w' g x ft S (fbl p ++ L) → Fr [] w w' → Own 22 1 w' p l.length c (l.map (Value.int .u64)) → Q (.slice p l.length c) w') : CallR Try.prog 17 #[.pointer (some (at0 g 0)), .int .u64 s] w Q := by
  subst he
  refine holders_spec h.P h0 h1 fun p c w' o f hp => hQ p c w' ((h.keep f).addL fun b hb => ⟨?_, o.lt b hb, fun hm => ?_⟩) f o
  · have := hp b hb
    have := h.F.size
    omega
  · have := hp b hb
    have := h.P.lt b hm
    omega
theorem raw_open {H : Type} {W : World} {cs : Array Value} {d : DataW H} (h : Lies Try.prog W 6 24 cs.toList d) : ∃ r : Raw, cs = r.cells.toArray ∧ RawW r := by
  obtain ⟨r, hr, w1, w2⟩ := Raw_of_lies (n := 4) h
  exact ⟨r, by apply Array.ext'; exact hr, ⟨(u64b w1).1, (u64b w2).1⟩⟩
end
section
variable {w w' W : World} {Q : Value → World → Prop} {g gc : Nat} {x : HB} {ft F L : List Nat} {S S' : Sc} {c : Cfg} {r : Scn} {n j now t2 i : Int} {k : Nat}
abbrev dj (j : Int) : Msg := dmsg (2 + j) 1 2 1 1 (2 + j)
def StS (S : Sc) : Prop := S.c.nodes = 4 ∧ S.node = 1 ∧ hasO S.os 2 = true
theorem gk {ft' : List Nat} (T : ST W w g x ft S L) (hg : gc ∈ L) (B : Blk w gc c.cells 26) (f : Fr ft w w') : Blk w' gc c.cells 26 := B.keep f (T.off hg)
theorem l0_it (hj : 0 ≤ j ∧ j ≤ 2 ∧ j < n) (T : ST W w g x ft S L) (hg : gc ∈ L) (B : Blk w gc c.cells 26) (hS : StS S) (he : askedS S (dj j) true 0 = (S', toldM (dj j) 0, true, true))
    (hK : ∀ ft' w', ST W w' g x ft' S' L → Blk w' gc c.cells 26 → X4.l0 Q k t2 (at0 gc 0) (some (at0 g 0)) (some (at0 x.h 0)) n (j + 1) w') : X4.l0 Q (k + 1) t2 (at0 gc 0) (some (at0 g 0)) (some (at0 x.h 0)) n j w := by
  rw [X4.l0]
  rw [i64w (2 + j) (by omega) (by omega), i64w (j + 1) (by omega) (by omega)]
  refine bc_pos (by omega) (dmsgL T fun w2 T2 f2 => ⟨_, _, _, _, _, _, _, _, _, _, _, _, _, _, _, _, _, _, _, _, _, _, _, rfl, ?_⟩)
  refine dirtyL T2 ⟨rfl, rfl⟩ (mine_d (by rw [hS.2.1]; omega) ⟨by omega, by rw [hS.1]; omega⟩ (by rw [hS.1]; omega) (by rw [hS.2.1]; omega) (okS (by omega) (by omega)) (okS (by omega) (by omega)) ⟨by omega, by omega⟩ ⟨by omega, by omega⟩ hS.2.1.symm) hS.2.2 he fun ft1 w23 T23 f23 => ⟨_, _, _, _, _, _, _, _, _, _, _, _, _, _, _, _, _, _, _, _, _, _, _, _, _, rfl, newB fun g45 w46 b46 f46 h46 => ?_⟩
  have B23 := gk (ft' := ft) T2 hg (B.keep' f2) f23
  refine stAllB (vs := (toldM (dj j) 0).cells none 0 none 0) b46 rfl fun w47 b47 f47 => bc_bool (fun e => by cases e) (fun _ => ?_)
  obtain ⟨T47, F47⟩ := T23.new f46 h46 b47 f47
  exact hK ft1 w47 (T47.mono fun y hy => by simp [hy]) (B23.keep' F47)
theorem l3_it {b1 : Int → Addr → Option Addr → Option Addr → Int → Int → Int → World → Prop} (hj : 0 ≤ j ∧ j ≤ 2 ∧ j < n) (T : ST W w g x ft S L) (hg : gc ∈ L) (B : Blk w gc c.cells 26) (hS : StS S) (he : askedS S (dj j) false now = (S', toldM (dj j) 0, false, true))
    (hK : ∀ ft' w', ST W w' g x ft' S' L → Blk w' gc c.cells 26 → X4.l3 Q b1 k t2 (at0 gc 0) (some (at0 g 0)) (some (at0 x.h 0)) n now i (j + 1) w') : X4.l3 Q b1 (k + 1) t2 (at0 gc 0) (some (at0 g 0)) (some (at0 x.h 0)) n now i j w := by
  rw [X4.l3]
  rw [i64w (2 + j) (by omega) (by omega), i64w (j + 1) (by omega) (by omega)]
  refine bc_pos (by omega) (dmsgL T fun w2 T2 f2 => ⟨_, _, _, _, _, _, _, _, _, _, _, _, _, _, _, _, _, _, _, _, _, _, _, rfl, ?_⟩)
  refine dirtyL T2 ⟨rfl, rfl⟩ (mine_d (by rw [hS.2.1]; omega) ⟨by omega, by rw [hS.1]; omega⟩ (by rw [hS.1]; omega) (by rw [hS.2.1]; omega) (okS (by omega) (by omega)) (okS (by omega) (by omega)) ⟨by omega, by omega⟩ ⟨by omega, by omega⟩ hS.2.1.symm) hS.2.2 he fun ft1 w23 T23 f23 => ⟨_, _, _, _, _, _, _, _, _, _, _, _, _, _, _, _, _, _, _, _, _, _, _, _, _, rfl, newB fun g45 w46 b46 f46 h46 => ?_⟩
  have B23 := gk (ft' := ft) T2 hg (B.keep' f2) f23
  refine stAllB (vs := (toldM (dj j) 0).cells none 0 none 0) b46 rfl fun w47 b47 f47 => bc_bool (fun e => by cases e) (fun _ => ld_int (b47.cat 12 _ rfl) (bc_ne (fun e => absurd rfl e) (fun _ => ?_)))
  obtain ⟨T47, F47⟩ := T23.new f46 h46 b47 f47
  exact hK ft1 w47 (T47.mono fun y hy => by simp [hy]) (B23.keep' F47)
theorem l2_it {b1 : Int → Addr → Option Addr → Option Addr → Int → Int → Int → World → Prop} (hj : 0 ≤ j ∧ j ≤ 2 ∧ j < n) (T : ST W w g x ft S L) (hg : gc ∈ L) (B : Blk w gc c.cells 26) (he : stepS S now = (S', scnZ, false))
    (hK : ∀ ft' w', ST W w' g x ft' S' L → Blk w' gc c.cells 26 → X4.l2 Q b1 k t2 (at0 gc 0) (some (at0 g 0)) (some (at0 x.h 0)) n now i (j + 1) w') : X4.l2 Q b1 (k + 1) t2 (at0 gc 0) (some (at0 g 0)) (some (at0 x.h 0)) n now i j w := by
  rw [X4.l2]
  rw [i64w (j + 1) (by omega) (by omega)]
  refine bc_pos (by omega) (stepL T he fun ft1 w2 T2 f2 => ⟨_, _, _, _, _, _, _, rfl, newB fun g10 w11 b11 f11 h11 => ?_⟩)
  have B2 := gk (ft' := ft) T hg B f2
  refine stAllB (vs := scnZ.cells) b11 rfl fun w12 b12 f12 => bc_bool (fun e => by cases e) (fun _ => ?_)
  obtain ⟨T12, F12⟩ := T2.new f11 h11 b12 f12
  exact hK ft1 w12 (T12.mono fun y hy => by simp [hy]) (B2.keep' F12)
theorem l4_it (hj : 0 ≤ j ∧ j ≤ 2 ∧ j < n) (T : ST W w g x ft S L) (he : stepS S now = (S', r, true))
    (hK : ∀ ft' w', ST W w' g x ft' S' L → X4.l4 Q k (some (at0 g 0)) (some (at0 x.h 0)) n now (j + 1) w') : X4.l4 Q (k + 1) (some (at0 g 0)) (some (at0 x.h 0)) n now j w := by
  rw [X4.l4]
  rw [i64w (j + 1) (by omega) (by omega)]
  refine bc_pos (by omega) (stepL T he fun ft1 w2 T2 f2 => ⟨_, _, _, _, _, _, _, rfl, newB fun g10 w11 b11 f11 h11 => ?_⟩)
  refine stAllB (vs := r.cells) b11 rfl fun w12 b12 f12 => bc_bool (fun e => by cases e) (fun _ => ?_)
  obtain ⟨T12, F12⟩ := T2.new f11 h11 b12 f12
  exact hK ft1 w12 (T12.mono fun y hy => by simp [hy])
theorem l4_end (hj : ¬ j < n) (T : ST W w g x ft S L) (hS : StS S) (he : askedS S (dj 0) true now = (S, toldM (dj 0) 4, false, true)) (hh : holdS S 2 = []) (hi : inO S.os 2 = 0) (hQ : ∀ w', Fr [] W w' → Q (.bool true) w') :
    X4.l4 Q (k + 1) (some (at0 g 0)) (some (at0 x.h 0)) n now j w := by
  rw [X4.l4]
  refine bc_neg hj (dmsgL T fun w2 T2 f2 => ⟨_, _, _, _, _, _, _, _, _, _, _, _, _, _, _, _, _, _, _, _, _, _, _, rfl, ?_⟩)
  refine dirtyL (m := dmsg 2 1 2 1 1 2) T2 ⟨rfl, rfl⟩ (mine_d (by rw [hS.2.1]; omega) ⟨by omega, by rw [hS.1]; omega⟩ (by rw [hS.1]; omega) (by rw [hS.2.1]; omega) (okS (by omega) (by omega)) (okS (by omega) (by omega)) ⟨by omega, by omega⟩ ⟨by omega, by omega⟩ hS.2.1.symm) hS.2.2 he fun ft1 w35 T35 f35 => ⟨_, _, _, _, _, _, _, _, _, _, _, _, _, _, _, _, _, _, _, _, _, _, _, _, _, rfl, newB fun g57 w58 b58 f58 h58 => ?_⟩
  refine stAllB (vs := (toldM (dj 0) 4).cells none 0 none 0) b58 rfl fun w59 b59 f59 => ?_
  obtain ⟨T59, F59⟩ := T35.new f58 h58 b59 f59
  refine holdersL T59 (by omega) (by omega) (l := []) hh fun p pc w61 T61 f61 o61 => ⟨_, _, _, rfl, bc_eqt' rfl ?_⟩
  refine inL T61 (by omega) (by omega) (d := 0) hi fun w64 T64 f64 => ⟨_, rfl, bc_eqt' rfl (bc_bool (fun _ => bc_bool (fun _ => ld_int ((b59.keep' (f61.tr f64)).cat 12 _ rfl) (hQ w64 T64.F)) (fun e => by cases e)) (fun e => by cases e))⟩
theorem step_no {k : Int} (h1 : after ilt S.rows S.cur = some k) (h2 : get ilt S.rows k = some r) (h3 : pastB r.at_ S.c.lease now = false) : stepS S now = ({ S with cur := k }, scnZ, false) := by
  unfold stepS
  rw [h1]
  simp only []
  rw [h2]
  simp only []
  rw [if_neg (fun h => by rw [h3] at h; cases h.2)]
theorem step_yes {k : Int} (h1 : after ilt S.rows S.cur = some k) (h2 : get ilt S.rows k = some r) (hp : r.present = true) (h3 : pastB r.at_ S.c.lease now = true) : stepS S now = (putS { S with cur := k } { r with present := false }, { r with present := false }, true) := by
  unfold stepS
  rw [h1]
  simp only []
  rw [h2]
  simp only []
  rw [if_pos ⟨hp, h3⟩]
theorem past_no {a l : Int} (h0 : 0 ≤ a) (h1 : 160 ≤ l) (h2 : l ≤ 10000) (h3 : a ≤ 100000) : pastB a l (a + l - 1) = false := by
  unfold pastB
  rw [if_pos (by omega), u64w _ (by omega) (by omega), decide_eq_false (by omega)]
theorem past_yes {a l : Int} (h0 : 0 ≤ a) (h1 : 160 ≤ l) (h2 : l ≤ 10000) (h3 : a ≤ 100000) : pastB a l (a + l) = true := by
  unfold pastB
  rw [if_pos (by omega), u64w _ (by omega) (by omega), decide_eq_true (by omega)]
theorem lease1_l1 {c : Cfg} (hn : c.nodes = 4) (h1 : 160 ≤ c.lease) (h2 : c.lease ≤ 10000) (hg : gc ∈ L) (hQ : ∀ w', Fr [] W w' → Q (.bool true) w') : ∀ (f : Nat) (i : Nat) (now cur : Int) (ft : List Nat) (w : World), 6 - i < f → i ≤ 5 → 0 ≤ now → now ≤ 10000 * (i : Int) → (cur = 0 ∨ cur = 258) → (i : Int) ≤ t2 % 6 → ST W w g x ft (⟨c, 1, 5, [(1, 0), (2, 2), (3, 0), (4, 0), (5, 0)], [(258, ⟨2, 2, true, 1, now, 2⟩)], [], cur⟩ : Sc) L → Blk w gc c.cells 26 →
    X4.l1 Q f t2 (at0 gc 0) (some (at0 g 0)) (some (at0 x.h 0)) 1 now (i : Int) w
  | 0, i, now, cur, ft, w, hf, _, _, _, _, _, _, _ => absurd hf (Nat.not_lt_zero _)
  | f + 1, i, now, cur, ft, w, hf, hi, h3, h4, hc, hi6, T, B => by
    rw [X4.l1]
    have e1 : IntKind.wrap .u64 (IntKind.wrap .u64 (now + c.lease) - 1) = now + c.lease - 1 := by rw [u64w (now + c.lease) (by omega) (by omega), u64w _ (by omega) (by omega)]
    have ei : IntKind.wrap .i64 ((i : Int) + 1) = ((i + 1 : Nat) : Int) := by rw [i64w ((i : Int) + 1) (by omega) (by omega)]; omega
    refine pick_spec (by omega) (by omega) ⟨_, rfl, bc_dec (fun hlt => ?_) (fun hge => ?_)⟩
    · refine ld_int (B.cat 13 _ rfl) ?_
      rw [e1]
      have hi5 : i < 5 := by omega
      have hp := past_no (a := now) h3 h1 h2 (by omega)
      refine ⟨2, ?_⟩
      refine l2_it (j := 0) (by omega) T hg B (show stepS (⟨c, 1, 5, [(1, 0), (2, 2), (3, 0), (4, 0), (5, 0)], [(258, ⟨2, 2, true, 1, now, 2⟩)], [], cur⟩ : Sc) (now + c.lease - 1) = ((⟨c, 1, 5, [(1, 0), (2, 2), (3, 0), (4, 0), (5, 0)], [(258, ⟨2, 2, true, 1, now, 2⟩)], [], 258⟩ : Sc), scnZ, false) from step_no (k := 258) (r := ⟨2, 2, true, 1, now, 2⟩) (by rcases hc with rfl | rfl <;> kernel_rfl) (by kernel_rfl) hp) fun ft w T B => ?_
      rw [X4.l2]
      refine bc_neg (by omega) ⟨2, ?_⟩
      refine l3_it (j := 0) (by omega) T hg B ⟨hn, rfl, rfl⟩ (show askedS (⟨c, 1, 5, [(1, 0), (2, 2), (3, 0), (4, 0), (5, 0)], [(258, ⟨2, 2, true, 1, now, 2⟩)], [], 258⟩ : Sc) (dj 0) false (now + c.lease - 1) = ((⟨c, 1, 5, [(1, 0), (2, 2), (3, 0), (4, 0), (5, 0)], [(258, ⟨2, 2, true, 1, (now + c.lease - 1), 2⟩)], [], 258⟩ : Sc), toldM (dj 0) 0, false, true) by kernel_rfl) fun ft w T B => ?_
      rw [X4.l3]
      refine bc_neg (by omega) ?_
      rw [ei]
      exact lease1_l1 hn h1 h2 hg hQ f (i + 1) (now + c.lease - 1) 258 ft w (by omega) (by omega) (by omega) (by omega) (.inr rfl) (by omega) T B
    · refine holdersL T (by omega) (by omega) (l := [2]) (by rfl) fun p pc w T f7 o7 => ⟨_, _, _, rfl, bc_ne (fun e => absurd rfl e) (fun _ => ?_)⟩
      refine inL T (by omega) (by omega) (d := 2) (by rfl) fun w T f10 => ⟨_, rfl, bc_ne (fun e => absurd rfl e) (fun _ => ?_)⟩
      have B := B.keep' (f7.tr f10)
      unfold X4.j5
      refine ld_int (B.cat 13 _ rfl) ⟨2, ?_⟩
      rw [u64w (now + c.lease) (by omega) (by omega)]
      have hp := past_yes (a := now) h3 h1 h2 (by omega)
      refine l4_it (j := 0) (by omega) T (show stepS (⟨c, 1, 5, [(1, 0), (2, 2), (3, 0), (4, 0), (5, 0)], [(258, ⟨2, 2, true, 1, now, 2⟩)], [], cur⟩ : Sc) (now + c.lease) = ((⟨c, 1, 5, [(1, 0), (2, 0), (3, 0), (4, 0), (5, 0)], [(258, ⟨2, 2, false, 1, now, 2⟩)], [], 258⟩ : Sc), ⟨2, 2, false, 1, now, 2⟩, true) from (step_yes (k := 258) (r := ⟨2, 2, true, 1, now, 2⟩) (by rcases hc with rfl | rfl <;> kernel_rfl) (by kernel_rfl) rfl hp).trans (by kernel_rfl)) fun ft w T => ?_
      exact l4_end (by omega) T ⟨hn, rfl, rfl⟩ (show askedS (⟨c, 1, 5, [(1, 0), (2, 0), (3, 0), (4, 0), (5, 0)], [(258, ⟨2, 2, false, 1, now, 2⟩)], [], 258⟩ : Sc) (dj 0) true (now + c.lease) = ((⟨c, 1, 5, [(1, 0), (2, 0), (3, 0), (4, 0), (5, 0)], [(258, ⟨2, 2, false, 1, now, 2⟩)], [], 258⟩ : Sc), toldM (dj 0) 4, false, true) by kernel_rfl) (by rfl) (by rfl) hQ
theorem lease1 {c : Cfg} (hn : c.nodes = 4) (h1 : 160 ≤ c.lease) (h2 : c.lease ≤ 10000) (T : ST W w g x ft (sc0 c 1) L) (hg : gc ∈ L) (B : Blk w gc c.cells 26) (hQ : ∀ w', Fr [] W w' → Q (.bool true) w') : X4.l0 Q 2 t2 (at0 gc 0) (some (at0 g 0)) (some (at0 x.h 0)) (IntKind.wrap .i64 (1 + 0)) 0 w := by
  rw [show IntKind.wrap .i64 (1 + 0) = 1 by decide +kernel]
  refine l0_it (j := 0) (by omega) T hg B ⟨hn, rfl, rfl⟩ (show askedS (sc0 c 1) (dj 0) true 0 = ((⟨c, 1, 5, [(1, 0), (2, 2), (3, 0), (4, 0), (5, 0)], [(258, ⟨2, 2, true, 1, 0, 2⟩)], [], 0⟩ : Sc), toldM (dj 0) 0, true, true) by kernel_rfl) fun ft w T B => ?_
  rw [X4.l0]
  refine bc_neg (by omega) ⟨7, ?_⟩
  have hr := Int.emod_nonneg t2 (show (6 : Int) ≠ 0 by omega)
  exact lease1_l1 hn h1 h2 hg hQ 7 0 0 0 ft w (by omega) (by omega) (by omega) (by omega) (.inl rfl) (by omega) T B
theorem lease2_l1 {c : Cfg} (hn : c.nodes = 4) (h1 : 160 ≤ c.lease) (h2 : c.lease ≤ 10000) (hg : gc ∈ L) (hQ : ∀ w', Fr [] W w' → Q (.bool true) w') : ∀ (f : Nat) (i : Nat) (now cur : Int) (ft : List Nat) (w : World), 6 - i < f → i ≤ 5 → 0 ≤ now → now ≤ 10000 * (i : Int) → (cur = 0 ∨ cur = 259) → (i : Int) ≤ t2 % 6 → ST W w g x ft (⟨c, 1, 5, [(1, 0), (2, 2), (3, 0), (4, 0), (5, 0)], [(258, ⟨2, 2, true, 1, now, 2⟩), (259, ⟨2, 3, true, 1, now, 3⟩)], [], cur⟩ : Sc) L → Blk w gc c.cells 26 →
    X4.l1 Q f t2 (at0 gc 0) (some (at0 g 0)) (some (at0 x.h 0)) 2 now (i : Int) w
  | 0, i, now, cur, ft, w, hf, _, _, _, _, _, _, _ => absurd hf (Nat.not_lt_zero _)
  | f + 1, i, now, cur, ft, w, hf, hi, h3, h4, hc, hi6, T, B => by
    rw [X4.l1]
    have e1 : IntKind.wrap .u64 (IntKind.wrap .u64 (now + c.lease) - 1) = now + c.lease - 1 := by rw [u64w (now + c.lease) (by omega) (by omega), u64w _ (by omega) (by omega)]
    have ei : IntKind.wrap .i64 ((i : Int) + 1) = ((i + 1 : Nat) : Int) := by rw [i64w ((i : Int) + 1) (by omega) (by omega)]; omega
    refine pick_spec (by omega) (by omega) ⟨_, rfl, bc_dec (fun hlt => ?_) (fun hge => ?_)⟩
    · refine ld_int (B.cat 13 _ rfl) ?_
      rw [e1]
      have hi5 : i < 5 := by omega
      have hp := past_no (a := now) h3 h1 h2 (by omega)
      refine ⟨3, ?_⟩
      refine l2_it (j := 0) (by omega) T hg B (show stepS (⟨c, 1, 5, [(1, 0), (2, 2), (3, 0), (4, 0), (5, 0)], [(258, ⟨2, 2, true, 1, now, 2⟩), (259, ⟨2, 3, true, 1, now, 3⟩)], [], cur⟩ : Sc) (now + c.lease - 1) = ((⟨c, 1, 5, [(1, 0), (2, 2), (3, 0), (4, 0), (5, 0)], [(258, ⟨2, 2, true, 1, now, 2⟩), (259, ⟨2, 3, true, 1, now, 3⟩)], [], 258⟩ : Sc), scnZ, false) from step_no (k := 258) (r := ⟨2, 2, true, 1, now, 2⟩) (by rcases hc with rfl | rfl <;> kernel_rfl) (by kernel_rfl) hp) fun ft w T B => ?_
      refine l2_it (j := 1) (by omega) T hg B (show stepS (⟨c, 1, 5, [(1, 0), (2, 2), (3, 0), (4, 0), (5, 0)], [(258, ⟨2, 2, true, 1, now, 2⟩), (259, ⟨2, 3, true, 1, now, 3⟩)], [], 258⟩ : Sc) (now + c.lease - 1) = ((⟨c, 1, 5, [(1, 0), (2, 2), (3, 0), (4, 0), (5, 0)], [(258, ⟨2, 2, true, 1, now, 2⟩), (259, ⟨2, 3, true, 1, now, 3⟩)], [], 259⟩ : Sc), scnZ, false) from step_no (k := 259) (r := ⟨2, 3, true, 1, now, 3⟩) (by kernel_rfl) (by kernel_rfl) hp) fun ft w T B => ?_
      rw [X4.l2]
      refine bc_neg (by omega) ⟨3, ?_⟩
      refine l3_it (j := 0) (by omega) T hg B ⟨hn, rfl, rfl⟩ (show askedS (⟨c, 1, 5, [(1, 0), (2, 2), (3, 0), (4, 0), (5, 0)], [(258, ⟨2, 2, true, 1, now, 2⟩), (259, ⟨2, 3, true, 1, now, 3⟩)], [], 259⟩ : Sc) (dj 0) false (now + c.lease - 1) = ((⟨c, 1, 5, [(1, 0), (2, 2), (3, 0), (4, 0), (5, 0)], [(258, ⟨2, 2, true, 1, (now + c.lease - 1), 2⟩), (259, ⟨2, 3, true, 1, now, 3⟩)], [], 259⟩ : Sc), toldM (dj 0) 0, false, true) by kernel_rfl) fun ft w T B => ?_
      refine l3_it (j := 1) (by omega) T hg B ⟨hn, rfl, rfl⟩ (show askedS (⟨c, 1, 5, [(1, 0), (2, 2), (3, 0), (4, 0), (5, 0)], [(258, ⟨2, 2, true, 1, (now + c.lease - 1), 2⟩), (259, ⟨2, 3, true, 1, now, 3⟩)], [], 259⟩ : Sc) (dj 1) false (now + c.lease - 1) = ((⟨c, 1, 5, [(1, 0), (2, 2), (3, 0), (4, 0), (5, 0)], [(258, ⟨2, 2, true, 1, (now + c.lease - 1), 2⟩), (259, ⟨2, 3, true, 1, (now + c.lease - 1), 3⟩)], [], 259⟩ : Sc), toldM (dj 1) 0, false, true) by kernel_rfl) fun ft w T B => ?_
      rw [X4.l3]
      refine bc_neg (by omega) ?_
      rw [ei]
      exact lease2_l1 hn h1 h2 hg hQ f (i + 1) (now + c.lease - 1) 259 ft w (by omega) (by omega) (by omega) (by omega) (.inr rfl) (by omega) T B
    · refine holdersL T (by omega) (by omega) (l := [2, 3]) (by rfl) fun p pc w T f7 o7 => ⟨_, _, _, rfl, bc_ne (fun e => absurd rfl e) (fun _ => ?_)⟩
      refine inL T (by omega) (by omega) (d := 2) (by rfl) fun w T f10 => ⟨_, rfl, bc_ne (fun e => absurd rfl e) (fun _ => ?_)⟩
      have B := B.keep' (f7.tr f10)
      unfold X4.j5
      refine ld_int (B.cat 13 _ rfl) ⟨3, ?_⟩
      rw [u64w (now + c.lease) (by omega) (by omega)]
      have hp := past_yes (a := now) h3 h1 h2 (by omega)
      refine l4_it (j := 0) (by omega) T (show stepS (⟨c, 1, 5, [(1, 0), (2, 2), (3, 0), (4, 0), (5, 0)], [(258, ⟨2, 2, true, 1, now, 2⟩), (259, ⟨2, 3, true, 1, now, 3⟩)], [], cur⟩ : Sc) (now + c.lease) = ((⟨c, 1, 5, [(1, 0), (2, 3), (3, 0), (4, 0), (5, 0)], [(258, ⟨2, 2, false, 1, now, 2⟩), (259, ⟨2, 3, true, 1, now, 3⟩)], [], 258⟩ : Sc), ⟨2, 2, false, 1, now, 2⟩, true) from (step_yes (k := 258) (r := ⟨2, 2, true, 1, now, 2⟩) (by rcases hc with rfl | rfl <;> kernel_rfl) (by kernel_rfl) rfl hp).trans (by kernel_rfl)) fun ft w T => ?_
      refine l4_it (j := 1) (by omega) T (show stepS (⟨c, 1, 5, [(1, 0), (2, 3), (3, 0), (4, 0), (5, 0)], [(258, ⟨2, 2, false, 1, now, 2⟩), (259, ⟨2, 3, true, 1, now, 3⟩)], [], 258⟩ : Sc) (now + c.lease) = ((⟨c, 1, 5, [(1, 0), (2, 0), (3, 0), (4, 0), (5, 0)], [(258, ⟨2, 2, false, 1, now, 2⟩), (259, ⟨2, 3, false, 1, now, 3⟩)], [], 259⟩ : Sc), ⟨2, 3, false, 1, now, 3⟩, true) from (step_yes (k := 259) (r := ⟨2, 3, true, 1, now, 3⟩) (by kernel_rfl) (by kernel_rfl) rfl hp).trans (by kernel_rfl)) fun ft w T => ?_
      exact l4_end (by omega) T ⟨hn, rfl, rfl⟩ (show askedS (⟨c, 1, 5, [(1, 0), (2, 0), (3, 0), (4, 0), (5, 0)], [(258, ⟨2, 2, false, 1, now, 2⟩), (259, ⟨2, 3, false, 1, now, 3⟩)], [], 259⟩ : Sc) (dj 0) true (now + c.lease) = ((⟨c, 1, 5, [(1, 0), (2, 0), (3, 0), (4, 0), (5, 0)], [(258, ⟨2, 2, false, 1, now, 2⟩), (259, ⟨2, 3, false, 1, now, 3⟩)], [], 259⟩ : Sc), toldM (dj 0) 4, false, true) by kernel_rfl) (by rfl) (by rfl) hQ
theorem lease2 {c : Cfg} (hn : c.nodes = 4) (h1 : 160 ≤ c.lease) (h2 : c.lease ≤ 10000) (T : ST W w g x ft (sc0 c 1) L) (hg : gc ∈ L) (B : Blk w gc c.cells 26) (hQ : ∀ w', Fr [] W w' → Q (.bool true) w') : X4.l0 Q 3 t2 (at0 gc 0) (some (at0 g 0)) (some (at0 x.h 0)) (IntKind.wrap .i64 (1 + 1)) 0 w := by
  rw [show IntKind.wrap .i64 (1 + 1) = 2 by decide +kernel]
  refine l0_it (j := 0) (by omega) T hg B ⟨hn, rfl, rfl⟩ (show askedS (sc0 c 1) (dj 0) true 0 = ((⟨c, 1, 5, [(1, 0), (2, 2), (3, 0), (4, 0), (5, 0)], [(258, ⟨2, 2, true, 1, 0, 2⟩)], [], 0⟩ : Sc), toldM (dj 0) 0, true, true) by kernel_rfl) fun ft w T B => ?_
  refine l0_it (j := 1) (by omega) T hg B ⟨hn, rfl, rfl⟩ (show askedS (⟨c, 1, 5, [(1, 0), (2, 2), (3, 0), (4, 0), (5, 0)], [(258, ⟨2, 2, true, 1, 0, 2⟩)], [], 0⟩ : Sc) (dj 1) true 0 = ((⟨c, 1, 5, [(1, 0), (2, 2), (3, 0), (4, 0), (5, 0)], [(258, ⟨2, 2, true, 1, 0, 2⟩), (259, ⟨2, 3, true, 1, 0, 3⟩)], [], 0⟩ : Sc), toldM (dj 1) 0, true, true) by kernel_rfl) fun ft w T B => ?_
  rw [X4.l0]
  refine bc_neg (by omega) ⟨7, ?_⟩
  have hr := Int.emod_nonneg t2 (show (6 : Int) ≠ 0 by omega)
  exact lease2_l1 hn h1 h2 hg hQ 7 0 0 0 ft w (by omega) (by omega) (by omega) (by omega) (.inl rfl) (by omega) T B
theorem lease3_l1 {c : Cfg} (hn : c.nodes = 4) (h1 : 160 ≤ c.lease) (h2 : c.lease ≤ 10000) (hg : gc ∈ L) (hQ : ∀ w', Fr [] W w' → Q (.bool true) w') : ∀ (f : Nat) (i : Nat) (now cur : Int) (ft : List Nat) (w : World), 6 - i < f → i ≤ 5 → 0 ≤ now → now ≤ 10000 * (i : Int) → (cur = 0 ∨ cur = 260) → (i : Int) ≤ t2 % 6 → ST W w g x ft (⟨c, 1, 5, [(1, 0), (2, 2), (3, 0), (4, 0), (5, 0)], [(258, ⟨2, 2, true, 1, now, 2⟩), (259, ⟨2, 3, true, 1, now, 3⟩), (260, ⟨2, 4, true, 1, now, 4⟩)], [], cur⟩ : Sc) L → Blk w gc c.cells 26 →
    X4.l1 Q f t2 (at0 gc 0) (some (at0 g 0)) (some (at0 x.h 0)) 3 now (i : Int) w
  | 0, i, now, cur, ft, w, hf, _, _, _, _, _, _, _ => absurd hf (Nat.not_lt_zero _)
  | f + 1, i, now, cur, ft, w, hf, hi, h3, h4, hc, hi6, T, B => by
    rw [X4.l1]
    have e1 : IntKind.wrap .u64 (IntKind.wrap .u64 (now + c.lease) - 1) = now + c.lease - 1 := by rw [u64w (now + c.lease) (by omega) (by omega), u64w _ (by omega) (by omega)]
    have ei : IntKind.wrap .i64 ((i : Int) + 1) = ((i + 1 : Nat) : Int) := by rw [i64w ((i : Int) + 1) (by omega) (by omega)]; omega
    refine pick_spec (by omega) (by omega) ⟨_, rfl, bc_dec (fun hlt => ?_) (fun hge => ?_)⟩
    · refine ld_int (B.cat 13 _ rfl) ?_
      rw [e1]
      have hi5 : i < 5 := by omega
      have hp := past_no (a := now) h3 h1 h2 (by omega)
      refine ⟨4, ?_⟩
      refine l2_it (j := 0) (by omega) T hg B (show stepS (⟨c, 1, 5, [(1, 0), (2, 2), (3, 0), (4, 0), (5, 0)], [(258, ⟨2, 2, true, 1, now, 2⟩), (259, ⟨2, 3, true, 1, now, 3⟩), (260, ⟨2, 4, true, 1, now, 4⟩)], [], cur⟩ : Sc) (now + c.lease - 1) = ((⟨c, 1, 5, [(1, 0), (2, 2), (3, 0), (4, 0), (5, 0)], [(258, ⟨2, 2, true, 1, now, 2⟩), (259, ⟨2, 3, true, 1, now, 3⟩), (260, ⟨2, 4, true, 1, now, 4⟩)], [], 258⟩ : Sc), scnZ, false) from step_no (k := 258) (r := ⟨2, 2, true, 1, now, 2⟩) (by rcases hc with rfl | rfl <;> kernel_rfl) (by kernel_rfl) hp) fun ft w T B => ?_
      refine l2_it (j := 1) (by omega) T hg B (show stepS (⟨c, 1, 5, [(1, 0), (2, 2), (3, 0), (4, 0), (5, 0)], [(258, ⟨2, 2, true, 1, now, 2⟩), (259, ⟨2, 3, true, 1, now, 3⟩), (260, ⟨2, 4, true, 1, now, 4⟩)], [], 258⟩ : Sc) (now + c.lease - 1) = ((⟨c, 1, 5, [(1, 0), (2, 2), (3, 0), (4, 0), (5, 0)], [(258, ⟨2, 2, true, 1, now, 2⟩), (259, ⟨2, 3, true, 1, now, 3⟩), (260, ⟨2, 4, true, 1, now, 4⟩)], [], 259⟩ : Sc), scnZ, false) from step_no (k := 259) (r := ⟨2, 3, true, 1, now, 3⟩) (by kernel_rfl) (by kernel_rfl) hp) fun ft w T B => ?_
      refine l2_it (j := 2) (by omega) T hg B (show stepS (⟨c, 1, 5, [(1, 0), (2, 2), (3, 0), (4, 0), (5, 0)], [(258, ⟨2, 2, true, 1, now, 2⟩), (259, ⟨2, 3, true, 1, now, 3⟩), (260, ⟨2, 4, true, 1, now, 4⟩)], [], 259⟩ : Sc) (now + c.lease - 1) = ((⟨c, 1, 5, [(1, 0), (2, 2), (3, 0), (4, 0), (5, 0)], [(258, ⟨2, 2, true, 1, now, 2⟩), (259, ⟨2, 3, true, 1, now, 3⟩), (260, ⟨2, 4, true, 1, now, 4⟩)], [], 260⟩ : Sc), scnZ, false) from step_no (k := 260) (r := ⟨2, 4, true, 1, now, 4⟩) (by kernel_rfl) (by kernel_rfl) hp) fun ft w T B => ?_
      rw [X4.l2]
      refine bc_neg (by omega) ⟨4, ?_⟩
      refine l3_it (j := 0) (by omega) T hg B ⟨hn, rfl, rfl⟩ (show askedS (⟨c, 1, 5, [(1, 0), (2, 2), (3, 0), (4, 0), (5, 0)], [(258, ⟨2, 2, true, 1, now, 2⟩), (259, ⟨2, 3, true, 1, now, 3⟩), (260, ⟨2, 4, true, 1, now, 4⟩)], [], 260⟩ : Sc) (dj 0) false (now + c.lease - 1) = ((⟨c, 1, 5, [(1, 0), (2, 2), (3, 0), (4, 0), (5, 0)], [(258, ⟨2, 2, true, 1, (now + c.lease - 1), 2⟩), (259, ⟨2, 3, true, 1, now, 3⟩), (260, ⟨2, 4, true, 1, now, 4⟩)], [], 260⟩ : Sc), toldM (dj 0) 0, false, true) by kernel_rfl) fun ft w T B => ?_
      refine l3_it (j := 1) (by omega) T hg B ⟨hn, rfl, rfl⟩ (show askedS (⟨c, 1, 5, [(1, 0), (2, 2), (3, 0), (4, 0), (5, 0)], [(258, ⟨2, 2, true, 1, (now + c.lease - 1), 2⟩), (259, ⟨2, 3, true, 1, now, 3⟩), (260, ⟨2, 4, true, 1, now, 4⟩)], [], 260⟩ : Sc) (dj 1) false (now + c.lease - 1) = ((⟨c, 1, 5, [(1, 0), (2, 2), (3, 0), (4, 0), (5, 0)], [(258, ⟨2, 2, true, 1, (now + c.lease - 1), 2⟩), (259, ⟨2, 3, true, 1, (now + c.lease - 1), 3⟩), (260, ⟨2, 4, true, 1, now, 4⟩)], [], 260⟩ : Sc), toldM (dj 1) 0, false, true) by kernel_rfl) fun ft w T B => ?_
      refine l3_it (j := 2) (by omega) T hg B ⟨hn, rfl, rfl⟩ (show askedS (⟨c, 1, 5, [(1, 0), (2, 2), (3, 0), (4, 0), (5, 0)], [(258, ⟨2, 2, true, 1, (now + c.lease - 1), 2⟩), (259, ⟨2, 3, true, 1, (now + c.lease - 1), 3⟩), (260, ⟨2, 4, true, 1, now, 4⟩)], [], 260⟩ : Sc) (dj 2) false (now + c.lease - 1) = ((⟨c, 1, 5, [(1, 0), (2, 2), (3, 0), (4, 0), (5, 0)], [(258, ⟨2, 2, true, 1, (now + c.lease - 1), 2⟩), (259, ⟨2, 3, true, 1, (now + c.lease - 1), 3⟩), (260, ⟨2, 4, true, 1, (now + c.lease - 1), 4⟩)], [], 260⟩ : Sc), toldM (dj 2) 0, false, true) by kernel_rfl) fun ft w T B => ?_
      rw [X4.l3]
      refine bc_neg (by omega) ?_
      rw [ei]
      exact lease3_l1 hn h1 h2 hg hQ f (i + 1) (now + c.lease - 1) 260 ft w (by omega) (by omega) (by omega) (by omega) (.inr rfl) (by omega) T B
    · refine holdersL T (by omega) (by omega) (l := [2, 3, 4]) (by rfl) fun p pc w T f7 o7 => ⟨_, _, _, rfl, bc_ne (fun e => absurd rfl e) (fun _ => ?_)⟩
      refine inL T (by omega) (by omega) (d := 2) (by rfl) fun w T f10 => ⟨_, rfl, bc_ne (fun e => absurd rfl e) (fun _ => ?_)⟩
      have B := B.keep' (f7.tr f10)
      unfold X4.j5
      refine ld_int (B.cat 13 _ rfl) ⟨4, ?_⟩
      rw [u64w (now + c.lease) (by omega) (by omega)]
      have hp := past_yes (a := now) h3 h1 h2 (by omega)
      refine l4_it (j := 0) (by omega) T (show stepS (⟨c, 1, 5, [(1, 0), (2, 2), (3, 0), (4, 0), (5, 0)], [(258, ⟨2, 2, true, 1, now, 2⟩), (259, ⟨2, 3, true, 1, now, 3⟩), (260, ⟨2, 4, true, 1, now, 4⟩)], [], cur⟩ : Sc) (now + c.lease) = ((⟨c, 1, 5, [(1, 0), (2, 3), (3, 0), (4, 0), (5, 0)], [(258, ⟨2, 2, false, 1, now, 2⟩), (259, ⟨2, 3, true, 1, now, 3⟩), (260, ⟨2, 4, true, 1, now, 4⟩)], [], 258⟩ : Sc), ⟨2, 2, false, 1, now, 2⟩, true) from (step_yes (k := 258) (r := ⟨2, 2, true, 1, now, 2⟩) (by rcases hc with rfl | rfl <;> kernel_rfl) (by kernel_rfl) rfl hp).trans (by kernel_rfl)) fun ft w T => ?_
      refine l4_it (j := 1) (by omega) T (show stepS (⟨c, 1, 5, [(1, 0), (2, 3), (3, 0), (4, 0), (5, 0)], [(258, ⟨2, 2, false, 1, now, 2⟩), (259, ⟨2, 3, true, 1, now, 3⟩), (260, ⟨2, 4, true, 1, now, 4⟩)], [], 258⟩ : Sc) (now + c.lease) = ((⟨c, 1, 5, [(1, 0), (2, 4), (3, 0), (4, 0), (5, 0)], [(258, ⟨2, 2, false, 1, now, 2⟩), (259, ⟨2, 3, false, 1, now, 3⟩), (260, ⟨2, 4, true, 1, now, 4⟩)], [], 259⟩ : Sc), ⟨2, 3, false, 1, now, 3⟩, true) from (step_yes (k := 259) (r := ⟨2, 3, true, 1, now, 3⟩) (by kernel_rfl) (by kernel_rfl) rfl hp).trans (by kernel_rfl)) fun ft w T => ?_
      refine l4_it (j := 2) (by omega) T (show stepS (⟨c, 1, 5, [(1, 0), (2, 4), (3, 0), (4, 0), (5, 0)], [(258, ⟨2, 2, false, 1, now, 2⟩), (259, ⟨2, 3, false, 1, now, 3⟩), (260, ⟨2, 4, true, 1, now, 4⟩)], [], 259⟩ : Sc) (now + c.lease) = ((⟨c, 1, 5, [(1, 0), (2, 0), (3, 0), (4, 0), (5, 0)], [(258, ⟨2, 2, false, 1, now, 2⟩), (259, ⟨2, 3, false, 1, now, 3⟩), (260, ⟨2, 4, false, 1, now, 4⟩)], [], 260⟩ : Sc), ⟨2, 4, false, 1, now, 4⟩, true) from (step_yes (k := 260) (r := ⟨2, 4, true, 1, now, 4⟩) (by kernel_rfl) (by kernel_rfl) rfl hp).trans (by kernel_rfl)) fun ft w T => ?_
      exact l4_end (by omega) T ⟨hn, rfl, rfl⟩ (show askedS (⟨c, 1, 5, [(1, 0), (2, 0), (3, 0), (4, 0), (5, 0)], [(258, ⟨2, 2, false, 1, now, 2⟩), (259, ⟨2, 3, false, 1, now, 3⟩), (260, ⟨2, 4, false, 1, now, 4⟩)], [], 260⟩ : Sc) (dj 0) true (now + c.lease) = ((⟨c, 1, 5, [(1, 0), (2, 0), (3, 0), (4, 0), (5, 0)], [(258, ⟨2, 2, false, 1, now, 2⟩), (259, ⟨2, 3, false, 1, now, 3⟩), (260, ⟨2, 4, false, 1, now, 4⟩)], [], 260⟩ : Sc), toldM (dj 0) 4, false, true) by kernel_rfl) (by rfl) (by rfl) hQ
theorem lease3 {c : Cfg} (hn : c.nodes = 4) (h1 : 160 ≤ c.lease) (h2 : c.lease ≤ 10000) (T : ST W w g x ft (sc0 c 1) L) (hg : gc ∈ L) (B : Blk w gc c.cells 26) (hQ : ∀ w', Fr [] W w' → Q (.bool true) w') : X4.l0 Q 4 t2 (at0 gc 0) (some (at0 g 0)) (some (at0 x.h 0)) (IntKind.wrap .i64 (1 + 2)) 0 w := by
  rw [show IntKind.wrap .i64 (1 + 2) = 3 by decide +kernel]
  refine l0_it (j := 0) (by omega) T hg B ⟨hn, rfl, rfl⟩ (show askedS (sc0 c 1) (dj 0) true 0 = ((⟨c, 1, 5, [(1, 0), (2, 2), (3, 0), (4, 0), (5, 0)], [(258, ⟨2, 2, true, 1, 0, 2⟩)], [], 0⟩ : Sc), toldM (dj 0) 0, true, true) by kernel_rfl) fun ft w T B => ?_
  refine l0_it (j := 1) (by omega) T hg B ⟨hn, rfl, rfl⟩ (show askedS (⟨c, 1, 5, [(1, 0), (2, 2), (3, 0), (4, 0), (5, 0)], [(258, ⟨2, 2, true, 1, 0, 2⟩)], [], 0⟩ : Sc) (dj 1) true 0 = ((⟨c, 1, 5, [(1, 0), (2, 2), (3, 0), (4, 0), (5, 0)], [(258, ⟨2, 2, true, 1, 0, 2⟩), (259, ⟨2, 3, true, 1, 0, 3⟩)], [], 0⟩ : Sc), toldM (dj 1) 0, true, true) by kernel_rfl) fun ft w T B => ?_
  refine l0_it (j := 2) (by omega) T hg B ⟨hn, rfl, rfl⟩ (show askedS (⟨c, 1, 5, [(1, 0), (2, 2), (3, 0), (4, 0), (5, 0)], [(258, ⟨2, 2, true, 1, 0, 2⟩), (259, ⟨2, 3, true, 1, 0, 3⟩)], [], 0⟩ : Sc) (dj 2) true 0 = ((⟨c, 1, 5, [(1, 0), (2, 2), (3, 0), (4, 0), (5, 0)], [(258, ⟨2, 2, true, 1, 0, 2⟩), (259, ⟨2, 3, true, 1, 0, 3⟩), (260, ⟨2, 4, true, 1, 0, 4⟩)], [], 0⟩ : Sc), toldM (dj 2) 0, true, true) by kernel_rfl) fun ft w T B => ?_
  rw [X4.l0]
  refine bc_neg (by omega) ⟨7, ?_⟩
  have hr := Int.emod_nonneg t2 (show (6 : Int) ≠ 0 by omega)
  exact lease3_l1 hn h1 h2 hg hQ 7 0 0 0 ft w (by omega) (by omega) (by omega) (by omega) (.inl rfl) (by omega) T B

theorem conf_lease (r : Raw) : 160 ≤ (configOf r).lease ∧ (configOf r).lease ≤ 10000 := by
  show 160 ≤ (4 + r.unit % 20) * (40 + r.lease % 200) ∧ (4 + r.unit % 20) * (40 + r.lease % 200) ≤ 10000
  have a := md (n := r.unit) (m := 20) (by omega)
  have b := md (n := r.lease) (m := 200) (by omega)
  generalize r.unit % 20 = u at *
  generalize r.lease % 200 = l at *
  have h1 := mulb (a := 4) (b := 40) (c := 4 + u) (d := 40 + l) (by omega) (by omega) (by omega) (by omega)
  have h2 := mulb (a := 4 + u) (b := 40 + l) (c := 23) (d := 239) (by omega) (by omega) (by omega) (by omega)
  omega
theorem may_four {c : Cfg} (h : mayB c = true) : mayB { c with nodes := 4 } = true := by
  unfold mayB mayA at *
  simp only [Bool.and_eq_true] at h ⊢
  obtain ⟨⟨⟨⟨⟨⟨⟨⟨h1, h2⟩, h3⟩, h4⟩, h5⟩, h6⟩, h7⟩, h8⟩, h9⟩ := h
  exact ⟨⟨⟨⟨⟨⟨⟨⟨by decide, h2⟩, h3⟩, h4⟩, h5⟩, h6⟩, h7⟩, h8⟩, h9⟩
theorem scionLease_row {H : Type} {cs : Array Value} {d0 : DataW H} (h : Lies Try.prog W 6 24 cs.toList d0) (hs : SizedD Try.prog 24 d0) (holders : Int) (hw : (Lit.int .i64 holders).wf = true) (rounds : Int) (hw2 : (Lit.int .i64 rounds).wf = true) :
    CallR Try.prog 4 #[.agg cs, .int .i64 holders, .int .i64 rounds] W fun v w' => v = .bool true ∧ Fr [] W w' := by
  obtain ⟨r, rfl, hr⟩ := raw_open h
  apply X4.sound
  unfold X4.f
  refine newB fun g1 w2 b f2 _ => ?_
  have b : Blk w2 g1 r.cells 24 := b
  have hmay := may_four (may_config hr)
  have hl := conf_lease r
  refine ld_Raw (s := r) b.cat (config_spec (r := r) fun w26 f26 => ⟨_, _, _, _, _, _, _, _, _, _, _, _, _, _, _, _, _, _, _, _, _, _, rfl, newB fun gc w50 bc f50 h50 => stAllB (vs := (configOf r).cells) bc rfl fun w51 b51 f51 => stB (i := 0) b51 (show 0 < 22 by omega) fun w52 b52 f52 => ?_⟩)
  have b52 : Blk w52 gc (Cfg.cells { configOf r with nodes := 4 }) 26 := b52
  have hl' : 160 ≤ ({ configOf r with nodes := 4 } : Cfg).lease ∧ ({ configOf r with nodes := 4 } : Cfg).lease ≤ 10000 := hl
  have hn4 : ({ configOf r with nodes := 4 } : Cfg).nodes = 4 := rfl
  generalize ({ configOf r with nodes := 4 } : Cfg) = c at *
  have F26 := f2.tr f26
  have z26 := F26.size
  have z50 := f50.size
  have z51 := f51.size
  have F52 : Fr [] W w52 := ((F26.tr f50).trans f51 (fun y hy => .inr (by simp at hy; omega))).trans f52 (fun y hy => .inr (by simp at hy; omega))
  refine ld_Cfg (s := c) b52.cat (yard_spec (c := c) (W := w52) hmay (by omega) (by omega) (by omega) fun g x ft gr xr fr w75 P R BR d1 d2 d3 F n1 n2 n3 => ⟨_, _, _, rfl, known_spec fun w80 f80 => ⟨_, rfl, bc_bool (fun e => by cases e) (fun _ => bc_bool (fun e => by cases e) (fun _ => ?_))⟩⟩)
  have z52 := F52.size
  have zz := F.size
  have lb := b52.lt
  have T75 : ST W w75 g x ft (sc0 c 1) [gc] := ⟨P, F52.tr F, fun y hy => by have := n1 y hy; omega, fun y hy => by
    have hy := List.mem_singleton.1 hy
    subst hy
    exact ⟨by omega, by omega, fun hm => by have := n1 _ hm; omega⟩⟩
  have T80 := T75.keep f80
  have b80 := b52.keep' (F.tr f80)
  unfold X4.j6
  refine pick_spec (by omega) (by omega) ⟨_, rfl, ?_⟩
  have h3 : holders % 3 = 0 ∨ holders % 3 = 1 ∨ holders % 3 = 2 := by omega
  rcases h3 with h3 | h3 | h3 <;> rw [h3]
  · exact ⟨2, lease1 hn4 hl'.1 hl'.2 T80 (by simp) b80 fun w' f' => ⟨rfl, f'⟩⟩
  · exact ⟨3, lease2 hn4 hl'.1 hl'.2 T80 (by simp) b80 fun w' f' => ⟨rfl, f'⟩⟩
  · exact ⟨4, lease3 hn4 hl'.1 hl'.2 T80 (by simp) b80 fun w' f' => ⟨rfl, f'⟩⟩
end
end Go.Proofs.YtnjmkhhaodgpbaaX
