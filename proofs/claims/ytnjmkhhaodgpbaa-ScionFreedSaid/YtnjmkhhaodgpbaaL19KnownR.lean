/- Chapter 19's examples. -/
import Derived.Test.YtnjmkhhaodgpbaaL19Known
namespace Go.Proofs.YtnjmkhhaodgpbaaX
open Go.RowKit
set_option linter.unusedVariables false
set_option linter.unusedSimpArgs false
set_option maxRecDepth 100000
section
variable {w w' W : World} {Q : Value → World → Prop} {g : Nat} {x : HB} {ft F L : List Nat} {S S' : Sc}
theorem ST.addL {L' : List Nat} (h : ST W w g x ft S L) (hs : ∀ b ∈ L', W.heap.size ≤ b ∧ b < w.heap.size ∧ b ∉ ft) : ST W w g x ft S (L' ++ L) := ⟨h.P, h.F, h.nf, fun c hc => by
  rcases List.mem_append.1 hc with hc | hc
  · exact hs c hc
  · exact h.L c hc⟩
theorem holdersL (h : ST W w g x ft S L) {s : Int} (h0 : 0 ≤ s) (h1 : s ≤ 18446744073709551615) {l : List Int} (he : holdS S s = l) (hQ : ∀ p c w', ST W w' g x ft S (fbl p ++ L) → Fr [] w w' → Own 22 1 w' p l.length c (l.map (Value.int .u64)) → Q (.slice p l.length c) w') : CallR Try.prog 17 #[.pointer (some (at0 g 0)), .int .u64 s] w Q := by
  subst he
  refine holders_spec h.P h0 h1 fun p c w' o f hp => hQ p c w' ((h.keep f).addL fun b hb => ⟨?_, o.lt b hb, fun hm => ?_⟩) f o
  · have := hp b hb
    have := h.F.size
    omega
  · have := hp b hb
    have := h.P.lt b hm
    omega
theorem buriedL (h : ST W w g x ft S L) {s : Int} (h0 : 0 ≤ s) (h1 : s ≤ 18446744073709551615) {b : Bool} (he : decide (s ∈ S.bur) = b) (hQ : Q (.bool b) w) : CallR Try.prog 21 #[.pointer (some (at0 g 0)), .int .u64 s] w Q := by
  subst he
  exact buried_spec h.P h0 h1 hQ
theorem k_j0 {c : Cfg} (cn : c.nodes = 4) {p : Option Addr} {pc : Nat} (T : ST W w g x ft (⟨c, 2, 5, [(1, 0), (2, 0), (3, 0), (4, 0), (5, 3)], [(641, ⟨5, 1, true, 2, 10, 3⟩), (643, ⟨5, 3, true, 9, 10, 4⟩)], [], 0⟩ : Sc) (fbl p ++ L)) (o : Own 22 1 w p 2 pc [.int .u64 1, .int .u64 3]) (hQ : ∀ w', Fr [] W w' → Q (.bool true) w') :
    X5.j0 Q (some (at0 g 0)) (some (at0 x.h 0)) true true p 2 pc true true w := by
  unfold X5.j0
  refine cleanL (m := cmsg 1 2 5 3) T ⟨rfl, rfl⟩ (mine_c ⟨by show (1 : Int) ≤ 2; omega, by show (2 : Int) ≤ 64; omega⟩ ⟨by omega, by show (1 : Int) ≤ c.nodes; omega⟩ (by show c.nodes ≤ 64; omega) (by show (1 : Int) ≠ 2; omega) (okS (by omega) (by omega)) (okS (by omega) (by omega)) rfl) (show cleanR (⟨c, 2, 5, [(1, 0), (2, 0), (3, 0), (4, 0), (5, 3)], [(641, ⟨5, 1, true, 2, 10, 3⟩), (643, ⟨5, 3, true, 9, 10, 4⟩)], [], 0⟩ : Sc) (cmsg 1 2 5 3) = ((⟨c, 2, 5, [(1, 0), (2, 0), (3, 0), (4, 0), (5, 4)], [(641, ⟨5, 1, false, 3, 10, 3⟩), (643, ⟨5, 3, true, 9, 10, 4⟩)], [], 0⟩ : Sc), cleanedM (cmsg 1 2 5 3), true) by kernel_rfl) fun ft3 w2 T2 f2 => ⟨_, _, _, _, _, _, _, _, _, _, _, _, _, _, _, _, _, _, _, _, _, _, _, _, rfl, ?_⟩
  have o2 := o.keep f2 (fun y hy => T.off (by simp [hy]))
  refine dmsgL T2 fun w24 T24 f24 => ⟨_, _, _, _, _, _, _, _, _, _, _, _, _, _, _, _, _, _, _, _, _, _, _, rfl, ?_⟩
  have o24 := o2.keep' f24
  refine dirtyL T24 ⟨rfl, rfl⟩ (mine_d ⟨by show (1 : Int) ≤ 2; omega, by show (2 : Int) ≤ 64; omega⟩ ⟨by omega, by show (4 : Int) ≤ c.nodes; omega⟩ (by show c.nodes ≤ 64; omega) (by show (4 : Int) ≠ 2; omega) (okS (by omega) (by omega)) (okS (by omega) (by omega)) ⟨by omega, by omega⟩ ⟨by omega, by omega⟩ rfl) (by rfl) (show askedS (⟨c, 2, 5, [(1, 0), (2, 0), (3, 0), (4, 0), (5, 4)], [(641, ⟨5, 1, false, 3, 10, 3⟩), (643, ⟨5, 3, true, 9, 10, 4⟩)], [], 0⟩ : Sc) (dmsg 4 2 5 9 1 4) false 10 = ((⟨c, 2, 5, [(1, 0), (2, 0), (3, 0), (4, 0), (5, 4)], [(641, ⟨5, 1, false, 3, 10, 3⟩), (643, ⟨5, 3, true, 9, 10, 4⟩), (644, ⟨5, 4, false, 9, 10, 4⟩)], [], 0⟩ : Sc), toldM (dmsg 4 2 5 9 1 4) 4, false, true) by kernel_rfl) fun ft4 w45 T45 f45 => ⟨_, _, _, _, _, _, _, _, _, _, _, _, _, _, _, _, _, _, _, _, _, _, _, _, _, rfl, newB fun g67 w68 b68 f68 h68 => ?_⟩
  have o45 := o24.keep f45 (fun y hy => T24.off (by simp [hy]))
  refine stAllB (vs := (toldM (dmsg 4 2 5 9 1 4) 4).cells none 0 none 0) b68 rfl fun w69 b69 f69 => ?_
  obtain ⟨T69, F69⟩ := T45.new f68 h68 b69 f69
  have o69 := o45.keep' F69
  refine dmsgL T69 fun w71 T71 f71 => ⟨_, _, _, _, _, _, _, _, _, _, _, _, _, _, _, _, _, _, _, _, _, _, _, rfl, ?_⟩
  have o71 := o69.keep' f71
  refine dirtyL T71 ⟨rfl, rfl⟩ (mine_d ⟨by show (1 : Int) ≤ 2; omega, by show (2 : Int) ≤ 64; omega⟩ ⟨by omega, by show (1 : Int) ≤ c.nodes; omega⟩ (by show c.nodes ≤ 64; omega) (by show (1 : Int) ≠ 2; omega) (okS (by omega) (by omega)) (okS (by omega) (by omega)) ⟨by omega, by omega⟩ ⟨by omega, by omega⟩ rfl) (by rfl) (show askedS (⟨c, 2, 5, [(1, 0), (2, 0), (3, 0), (4, 0), (5, 4)], [(641, ⟨5, 1, false, 3, 10, 3⟩), (643, ⟨5, 3, true, 9, 10, 4⟩), (644, ⟨5, 4, false, 9, 10, 4⟩)], [], 0⟩ : Sc) (dmsg 1 2 5 2 2 3) true 10 = ((⟨c, 2, 5, [(1, 0), (2, 0), (3, 0), (4, 0), (5, 4)], [(641, ⟨5, 1, false, 3, 10, 3⟩), (643, ⟨5, 3, true, 9, 10, 4⟩), (644, ⟨5, 4, false, 9, 10, 4⟩)], [], 0⟩ : Sc), msgZ, false, false) by kernel_rfl) fun ft5 w92 T92 f92 => ⟨_, _, _, _, _, _, _, _, _, _, _, _, _, _, _, _, _, _, _, _, _, _, _, _, _, rfl, newB fun g114 w115 b115 f115 h115 => ?_⟩
  have o92 := o71.keep f92 (fun y hy => T71.off (by simp [hy]))
  refine stAllB (vs := msgZ.cells none 0 none 0) b115 rfl fun w116 b116 f116 => ?_
  obtain ⟨T116, F116⟩ := T92.new f115 h115 b116 f116
  have o116 := o92.keep' F116
  refine stepL T116 (show stepS (⟨c, 2, 5, [(1, 0), (2, 0), (3, 0), (4, 0), (5, 4)], [(641, ⟨5, 1, false, 3, 10, 3⟩), (643, ⟨5, 3, true, 9, 10, 4⟩), (644, ⟨5, 4, false, 9, 10, 4⟩)], [], 0⟩ : Sc) 10 = ((⟨c, 2, 5, [(1, 0), (2, 0), (3, 0), (4, 0), (5, 4)], [(641, ⟨5, 1, false, 3, 10, 3⟩), (643, ⟨5, 3, true, 9, 10, 4⟩), (644, ⟨5, 4, false, 9, 10, 4⟩)], [], 641⟩ : Sc), scnZ, false) by kernel_rfl) fun ft6 w118 T118 f118 => ⟨_, _, _, _, _, _, _, rfl, newB fun g126 w127 b127 f127 h127 => ?_⟩
  have o118 := o116.keep f118 (fun y hy => T116.off (by simp [hy]))
  refine stAllB (vs := scnZ.cells) b127 rfl fun w128 b128 f128 => ?_
  obtain ⟨T128, F128⟩ := T118.new f127 h127 b128 f128
  have o128 := o118.keep' F128
  obtain ⟨a, ha, h1⟩ := o128.cells 0 (.int .u64 1) rfl
  obtain ⟨a', ha', h3⟩ := o128.cells 1 (.int .u64 3) rfl
  refine bc_bool (fun _ => bc_bool (fun _ => bc_eqt' rfl ⟨⟨by omega, by omega⟩, opt_some ha (ld_int h1 (bc_eqt' rfl ⟨⟨by omega, by omega⟩, opt_some ha' (ld_int h3 (bc_eqt' rfl ?_))⟩))⟩) (fun e => by cases e)) (fun e => by cases e)
  refine bc_bool (fun _ => bc_bool (fun _ => bc_bool (fun _ => bc_bool (fun _ => bc_bool (fun _ => bc_bool (fun _ => ?_) (fun e => by cases e)) (fun e => by cases e)) (fun e => by cases e)) (fun e => by cases e)) (fun e => by cases e)) (fun e => by cases e)
  exact inL T128 (by omega) (by omega) (d := 4) (by rfl) fun w134 T134 f134 => ⟨_, rfl, hQ w134 T134.F⟩
theorem k_j1 {c : Cfg} (cn : c.nodes = 4) {p : Option Addr} {pc : Nat} (T : ST W w g x ft (⟨c, 2, 5, [(1, 0), (2, 0), (3, 0), (4, 0), (5, 0)], [(641, ⟨5, 1, true, 2, 10, 3⟩), (643, ⟨5, 3, true, 9, 10, 4⟩)], [5], 0⟩ : Sc) (fbl p ++ L)) (o : Own 22 1 w p 2 pc [.int .u64 1, .int .u64 3]) (hQ : ∀ w', Fr [] W w' → Q (.bool true) w') :
    X5.j1 Q (some (at0 g 0)) (some (at0 x.h 0)) true true p 2 pc true w := by
  unfold X5.j1
  refine raiseL T (by omega) (by omega) (show raiseS (⟨c, 2, 5, [(1, 0), (2, 0), (3, 0), (4, 0), (5, 0)], [(641, ⟨5, 1, true, 2, 10, 3⟩), (643, ⟨5, 3, true, 9, 10, 4⟩)], [5], 0⟩ : Sc) 5 = ((⟨c, 2, 5, [(1, 0), (2, 0), (3, 0), (4, 0), (5, 3)], [(641, ⟨5, 1, true, 2, 10, 3⟩), (643, ⟨5, 3, true, 9, 10, 4⟩)], [], 0⟩ : Sc), true) by kernel_rfl) fun ft3 w2 T2 f2 => ⟨_, rfl, bc_bool (fun _ => ?_) (fun e => by cases e)⟩
  have o2 := o.keep f2 (fun y hy => T.off (by simp [hy]))
  refine raiseL T2 (by omega) (by omega) (show raiseS (⟨c, 2, 5, [(1, 0), (2, 0), (3, 0), (4, 0), (5, 3)], [(641, ⟨5, 1, true, 2, 10, 3⟩), (643, ⟨5, 3, true, 9, 10, 4⟩)], [], 0⟩ : Sc) 5 = ((⟨c, 2, 5, [(1, 0), (2, 0), (3, 0), (4, 0), (5, 3)], [(641, ⟨5, 1, true, 2, 10, 3⟩), (643, ⟨5, 3, true, 9, 10, 4⟩)], [], 0⟩ : Sc), false) by kernel_rfl) fun ft4 w5 T5 f5 => ⟨_, rfl, bc_bool (fun _ => ?_) (fun e => by cases e)⟩
  have o5 := o2.keep f5 (fun y hy => T2.off (by simp [hy]))
  exact inL T5 (by omega) (by omega) (d := 3) (by rfl) fun w8 T8 f8 => ⟨_, rfl, k_j0 cn T8 (o5.keep' f8) hQ⟩
theorem scionKnown_row : CallR Try.prog 5 #[] W fun v w' => v = .bool true ∧ Fr [] W w' := by
  apply X5.sound
  unfold X5.f
  have cn4 : (configOf (rawN 2)).nodes = 4 := by rfl
  refine config_spec (r := rawN 2) fun w2 f2 => ⟨_, _, _, _, _, _, _, _, _, _, _, _, _, _, _, _, _, _, _, _, _, _, rfl, newB fun g25 w26 b26 f26 h26 => ?_⟩
  have hmay := may_config (rawN_ok 2)
  generalize hc : configOf (rawN 2) = c at *
  refine stAllB (vs := c.cells) b26 rfl fun w27 b27 f27 => ld_Cfg (s := c) b27.cat ?_
  have z2 := f2.size
  have F27 : Fr [] W w27 := (f2.tr f26).trans f27 (fun y hy => .inr (by simp at hy; omega))
  refine yardL (c := c) (W := w27) hmay (by omega) (by omega) (by omega) fun g x ft gr w51 T51 f51 => ⟨_, _, _, rfl, ?_⟩
  refine ld_Cfg (s := c) (b27.keep' f51).cat (snew_nil hmay fun w78 f78 => ⟨_, _, rfl, ?_⟩)
  refine snew_bad (c := ⟨0, 0, 0, 0, 0, 0, 0, 0, 0, 0, 0, 0, 0, 0, 0, 0, 0, 0, 0, 0, 0, 0⟩) (by decide) fun w82 f82 => ⟨_, _, rfl, known_spec fun w86 f86 => ⟨_, rfl, ?_⟩⟩
  have T86 := T51.keep (f78.tr (f82.tr f86))
  refine bc_bool (fun e => by cases e) (fun _ => bc_bool (fun e => by cases e) (fun _ => bc_ne (fun e => absurd rfl e) (fun _ => bc_ne (fun e => absurd rfl e) (fun _ => ?_))))
  unfold X5.j2
  refine dmsgL T86 fun w1 T1 f1 => ⟨_, _, _, _, _, _, _, _, _, _, _, _, _, _, _, _, _, _, _, _, _, _, _, rfl, ?_⟩
  refine dirtyL T1 ⟨rfl, rfl⟩ (mine_d ⟨by show (1 : Int) ≤ 2; omega, by show (2 : Int) ≤ 64; omega⟩ ⟨by omega, by show (1 : Int) ≤ c.nodes; omega⟩ (by show c.nodes ≤ 64; omega) (by show (1 : Int) ≠ 2; omega) (okS (by omega) (by omega)) (okS (by omega) (by omega)) ⟨by omega, by omega⟩ ⟨by omega, by omega⟩ rfl) (by rfl) (show askedS (sc0 c 2) (dmsg 1 2 5 2 2 3) true 10 = ((⟨c, 2, 5, [(1, 0), (2, 0), (3, 0), (4, 0), (5, 3)], [(641, ⟨5, 1, true, 2, 10, 3⟩)], [], 0⟩ : Sc), toldM (dmsg 1 2 5 2 2 3) 0, true, true) by kernel_rfl) fun ft1 w23 T23 f23 => ⟨_, _, _, _, _, _, _, _, _, _, _, _, _, _, _, _, _, _, _, _, _, _, _, _, _, rfl, ?_⟩
  refine dmsgL T23 fun w46 T46 f46 => ⟨_, _, _, _, _, _, _, _, _, _, _, _, _, _, _, _, _, _, _, _, _, _, _, rfl, ?_⟩
  refine dirtyL T46 ⟨rfl, rfl⟩ (mine_d ⟨by show (1 : Int) ≤ 2; omega, by show (2 : Int) ≤ 64; omega⟩ ⟨by omega, by show (3 : Int) ≤ c.nodes; omega⟩ (by show c.nodes ≤ 64; omega) (by show (3 : Int) ≠ 2; omega) (okS (by omega) (by omega)) (okS (by omega) (by omega)) ⟨by omega, by omega⟩ ⟨by omega, by omega⟩ rfl) (by rfl) (show askedS (⟨c, 2, 5, [(1, 0), (2, 0), (3, 0), (4, 0), (5, 3)], [(641, ⟨5, 1, true, 2, 10, 3⟩)], [], 0⟩ : Sc) (dmsg 3 2 5 9 1 4) false 10 = ((⟨c, 2, 5, [(1, 0), (2, 0), (3, 0), (4, 0), (5, 3)], [(641, ⟨5, 1, true, 2, 10, 3⟩), (643, ⟨5, 3, true, 9, 10, 4⟩)], [], 0⟩ : Sc), toldM (dmsg 3 2 5 9 1 4) 0, true, true) by kernel_rfl) fun ft2 w67 T67 f67 => ⟨_, _, _, _, _, _, _, _, _, _, _, _, _, _, _, _, _, _, _, _, _, _, _, _, _, rfl, newB fun g89 w90 b90 f90 h90 => ?_⟩
  refine stAllB (vs := (toldM (dmsg 3 2 5 9 1 4) 0).cells none 0 none 0) b90 rfl fun w91 b91 f91 => ?_
  obtain ⟨T91, F91⟩ := T67.new f90 h90 b91 f91
  refine holdersL T91 (by omega) (by omega) (show holdS (⟨c, 2, 5, [(1, 0), (2, 0), (3, 0), (4, 0), (5, 3)], [(641, ⟨5, 1, true, 2, 10, 3⟩), (643, ⟨5, 3, true, 9, 10, 4⟩)], [], 0⟩ : Sc) 5 = [1, 3] by rfl) fun p pc w93 T93 f93 o93 => ⟨_, _, _, rfl, ?_⟩
  refine buryL T93 (by omega) (by omega) (show buryS (⟨c, 2, 5, [(1, 0), (2, 0), (3, 0), (4, 0), (5, 3)], [(641, ⟨5, 1, true, 2, 10, 3⟩), (643, ⟨5, 3, true, 9, 10, 4⟩)], [], 0⟩ : Sc) 5 = ((⟨c, 2, 5, [(1, 0), (2, 0), (3, 0), (4, 0), (5, 0)], [(641, ⟨5, 1, true, 2, 10, 3⟩), (643, ⟨5, 3, true, 9, 10, 4⟩)], [5], 0⟩ : Sc), true) by kernel_rfl) fun ft3 w96 T96 f96 => ⟨_, rfl, bc_bool (fun _ => ?_) (fun e => by cases e)⟩
  have o96 := o93.keep f96 (fun y hy => T93.off (by simp [hy]))
  refine buriedL T96 (by omega) (by omega) (b := true) (by rfl) ⟨_, rfl, bc_bool (fun _ => ?_) (fun e => by cases e)⟩
  refine buryL T96 (by omega) (by omega) (show buryS (⟨c, 2, 5, [(1, 0), (2, 0), (3, 0), (4, 0), (5, 0)], [(641, ⟨5, 1, true, 2, 10, 3⟩), (643, ⟨5, 3, true, 9, 10, 4⟩)], [5], 0⟩ : Sc) 5 = ((⟨c, 2, 5, [(1, 0), (2, 0), (3, 0), (4, 0), (5, 0)], [(641, ⟨5, 1, true, 2, 10, 3⟩), (643, ⟨5, 3, true, 9, 10, 4⟩)], [5], 0⟩ : Sc), false) by kernel_rfl) fun ft4 w102 T102 f102 => ⟨_, rfl, bc_bool (fun _ => ?_) (fun e => by cases e)⟩
  have o102 := o96.keep f102 (fun y hy => T96.off (by simp [hy]))
  exact inL T102 (by omega) (by omega) (d := 0) (by rfl) fun w105 T105 f105 => ⟨_, rfl, k_j1 cn4 T105 (o102.keep' f105) fun w' f' => ⟨rfl, F27.tr f'⟩⟩
end
end Go.Proofs.YtnjmkhhaodgpbaaX
