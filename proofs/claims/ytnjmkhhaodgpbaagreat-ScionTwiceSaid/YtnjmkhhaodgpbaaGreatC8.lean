/- Part 8. -/
import Derived.Test.YtnjmkhhaodgpbaaGreatC7
set_option linter.unusedVariables false
set_option linter.unusedSimpArgs false
namespace Go.Proofs.YtnjmkhhaodgpbaaGreatX
open Go.RowKit
set_option maxRecDepth 100000
section
variable {V W w w' w2 w3 : World} {Q : QT} {g gr gc g3 g39 g44 g93 : Nat} {x : HB} {xr : RHB} {ft fr L : List Nat} {S R S' : Sc} {C : Cfg} {now : Int} {l : List Stp} {ip : Option Addr} {cap n : Nat} {st : Stp} {rp lp : Option Addr} {rc lc : Nat} {m : Msg}
theorem tw_j1 {o1 o2 : List Value} {F S_ Q_ : Int} (u : P2 ⟨V, []⟩ w g x ft gr xr fr S R L) (hV : SV n S) (hn : n < 4096) (hl : ∀ b ∈ [g3, g39, g44, g93], b ∈ L) (b3 : Blk w g3 (st.cells rp rc lp lc) 43) (hw : StpW st) {f v d q : Int} (b39 : Blk w g39 ((dmsg F 1 S_ q v d).cells none 0 none 0) 41)
    (b44 : Blk w g44 o1 41) (h44 : o1.length = 19) (b93 : Blk w g93 o2 41) (h93 : o2.length = 19) (ne : g39 ≠ g44 ∧ g39 ≠ g93 ∧ g44 ≠ g93) (hQ : ∀ w', Fr [] V w' → Q (.bool true) w') :
    X6.j1 Q (at0 g3 0) (some (at0 g 0)) F (at0 g39 0) (at0 g44 0) (at0 g93 0) w := by
  unfold X6.j1
  have c8 : w.cell? (((at0 g39 0).add 8).add 0) = some (.int .i64 1) := by rw [add_add]; exact b39.cat 8 _ rfl
  have c9 : w.cell? (((at0 g39 0).add 8).add 1) = some (.int .u64 S_) := by rw [add_add]; exact b39.cat 9 _ rfl
  obtain ⟨n1, n2, n3⟩ := ne
  refine ld_int c8 (ld_int c9 (ld_int (b3.cat 6 _ rfl) ⟨by omega, ?_⟩))
  generalize IntKind.wrap .u64 (1 + Int.tmod st.n 12) = sq_
  refine stAllB (vs := (cmsg F 1 S_ sq_).cells none 0 none 0) b39 rfl fun w4 b4 f4 => ?_
  have u4 := u.loc f4 (hl g39 (by simp))
  have d44 := b44.off1 n1.symm f4
  have d93 := b93.off1 n2.symm f4
  obtain ⟨a, ok, S1, S2, h1, h2, h3⟩ := clean_twice (m := cmsg F 1 S_ sq_) hV (by have := hV.rl; omega)
  have nil := cleanS_nil (m := cmsg F 1 S_ sq_) (S := S)
  have hV1 := hV.clean (m := cmsg F 1 S_ sq_)
  rw [h1] at nil hV1
  refine ld_msgA b4 (clean_spec u4.P (MM_nil rfl rfl) ?_)
  rw [h1]
  intro ft2 w25 P2' f25 e25
  refine ⟨_, _, _, _, _, _, _, _, _, _, _, _, _, _, _, _, _, _, _, _, _, _, _, _, rfl, ?_⟩
  have u25 := u4.nextT P2' f25 e25
  have k4 : ∀ b ∈ [g3, g39, g44, g93], b ∉ ft := fun b hb hm => u4.off (hl b hb) (List.mem_append.2 (.inl hm))
  have e39 := b4.keep f25 (k4 _ (by simp))
  have e44 := d44.keep f25 (k4 _ (by simp))
  have e93 := d93.keep f25 (k4 _ (by simp))
  refine stAllB (vs := a.cells none 0 none 0) e44 (by rw [h44]; rfl) fun w46 b46 f46 => ?_
  have u46 := u25.loc f46 (hl g44 (by simp))
  have i39 := e39.off1 n1 f46
  have i93 := e93.off1 n3.symm f46
  refine all_spec u46.P fun p1 c1 w48 o48 f48 k48 => ⟨_, _, _, rfl, ?_⟩
  have u48 := u46.keep f48
  refine ld_msgA (i39.keep' f48) (clean_spec u48.P (MM_nil rfl rfl) ?_)
  rw [h2]
  intro ft3 w70 P3 f70 e70
  refine ⟨_, _, _, _, _, _, _, _, _, _, _, _, _, _, _, _, _, _, _, _, _, _, _, _, rfl, ?_⟩
  have u70 := u48.nextT P3 f70 e70
  have k48' : ∀ b ∈ [g3, g39, g44, g93], b ∉ ft2 := fun b hb hm => u48.off (hl b hb) (List.mem_append.2 (.inl hm))
  have j44 := (b46.keep' f48).keep f70 (k48' _ (by simp))
  have j93 := (i93.keep' f48).keep f70 (k48' _ (by simp))
  have lft := u46.P.lt
  have o70 := o48.keep f70 (fun y hy hm => by have := k48 y hy; have := lft y hm; omega)
  refine stAllB (vs := a.cells none 0 none 0) j93 (by rw [h93]; rfl) fun w91 b91 f91 => ?_
  have u91 := u70.loc f91 (hl g93 (by simp))
  have m44 := j44.off1 n3 f91
  have nfb : ∀ y ∈ fbl p1, y ∉ [g93] := fun y hy hm => by
    have := k48 y hy
    have := (u46.L g93 (hl g93 (by simp))).2.1
    simp at hm
    omega
  have o91 := o70.keep f91 nfb
  refine bc_bool (fun _ => ?_) (fun e => by simp at e)
  refine ld_msgA m44 (ld_msgA b91 (same_refl nil.1 nil.2 fun w131 f131 => ⟨_, rfl, bc_bool (fun _ => ?_) (fun e => by cases e)⟩))
  have u131 := u91.keep f131
  refine all_spec u131.P fun p2 c2 w134 o134 f134 k134 => ⟨_, _, _, rfl, ?_⟩
  have hrl : (allS S2).length ≤ 4096 := by
    have : S1.rows.length ≤ n + 1 := hV1.rl
    rw [h3]
    unfold allS
    rw [List.length_map]
    omega
  refine scions_spec o134.cells ((o91.keep' f131).keep' f134).cells hrl fun w137 f137 => ⟨_, rfl, ?_⟩
  rw [decide_eq_true h3]
  exact hQ w137 ((u131.keep f134).keep f137).F
theorem tw_j2 {F S_ q v d : Int} (u : P2 ⟨V, []⟩ w g x ft gr xr fr S R L) (hV : SV n S) (hn : n + 2 < 4096) (hl : ∀ b ∈ [g3, g39], b ∈ L) (b3 : Blk w g3 (st.cells rp rc lp lc) 43) (hw : StpW st) (b39 : Blk w g39 ((dmsg F 1 S_ q v d).cells none 0 none 0) 41) (hQ : ∀ w', Fr [] V w' → Q (.bool true) w') :
    X6.j2 Q (at0 g3 0) (some (at0 g 0)) F (at0 g39 0) w := by
  unfold X6.j2
  obtain ⟨a, ok, S1, S2, h1, h2, h3, h4, h5⟩ := dirty_twice (m := dmsg F 1 S_ q v d) (pin := st.pinned) (now := 500) hV (by have := hV.rl; omega)
  have nil := dirtyS_nil (m := dmsg F 1 S_ q v d) (S := S) (pin := st.pinned) (now := 500)
  have hV1 := hV.dirty (m := dmsg F 1 S_ q v d) (pin := st.pinned) (now := 500)
  rw [h2] at nil
  rw [h1] at hV1
  have hV2 := hV1.dirty (m := dmsg F 1 S_ q v d) (pin := !st.pinned) (now := 500)
  rw [h4] at hV2
  refine ld_msgA b39 (ld_bool (x := st.pinned) (b3.cat 7 _ rfl) (dirty_spec u.P (MM_nil rfl rfl) ?_))
  rw [h1, h2, h3]
  intro ft2 w22 P2' f22 e22
  refine ⟨_, _, _, _, _, _, _, _, _, _, _, _, _, _, _, _, _, _, _, _, _, _, _, _, _, rfl, ?_⟩
  have u22 := u.nextT P2' f22 e22
  have k0 : ∀ b ∈ [g3, g39], b ∉ ft := fun b hb hm => u.off (hl b hb) (List.mem_append.2 (.inl hm))
  have c3 := b3.keep f22 (k0 _ (by simp))
  have c39 := b39.keep f22 (k0 _ (by simp))
  refine newB fun g44 w45 b45 f45 h45 => stAllB (vs := a.cells none 0 none 0) b45 rfl fun w46 b46 f46 => ?_
  obtain ⟨u46, F46⟩ := u22.new f45 h45 b46 f46
  refine all_spec u46.P fun p1 c1 w48 o48 f48 k48 => ⟨_, _, _, rfl, ?_⟩
  have u48 := u46.keep f48
  have d3 := (c3.keep' F46).keep' f48
  have d39 := (c39.keep' F46).keep' f48
  refine ld_msgA d39 (ld_bool (x := st.pinned) (d3.cat 7 _ rfl) (dirty_spec u48.P (MM_nil rfl rfl) ?_))
  rw [h4]
  intro ft3 w71 P3 f71 e71
  refine ⟨_, _, _, _, _, _, _, _, _, _, _, _, _, _, _, _, _, _, _, _, _, _, _, _, _, rfl, ?_⟩
  have u71 := u48.nextT P3 f71 e71
  have lft := u46.P.lt
  have o71 := o48.keep f71 (fun y hy hm => by have := k48 y hy; have := lft y hm; omega)
  have k1 : ∀ b ∈ g44 :: [g3, g39], b ∉ ft2 := fun b hb hm => u48.off (b := b) (by
    rcases List.mem_cons.1 hb with rfl | hb
    · simp
    · simp [hl b hb]) (List.mem_append.2 (.inl hm))
  have i3 := d3.keep f71 (k1 _ (by simp))
  have i39 := d39.keep f71 (k1 _ (by simp))
  have i44 := (b46.keep' f48).keep f71 (k1 _ (by simp))
  refine newB fun g93 w94 b94 f94 h94 => stAllB (vs := a.cells none 0 none 0) b94 rfl fun w95 b95 f95 => ?_
  obtain ⟨u95, F95⟩ := u71.new f94 h94 b95 f95
  refine bc_bool (fun e => by cases e) (fun _ => bc_bool (fun e => by simp at e) (fun _ => ?_))
  have m44 := i44.keep' F95
  refine ld_msgA m44 (ld_msgA b95 (same_refl nil.1 nil.2 fun w135 f135 => ⟨_, rfl, bc_bool (fun e => by cases e) (fun _ => ?_)⟩))
  have u135 := u95.keep f135
  refine all_spec u135.P fun p2 c2 w138 o138 f138 k138 => ⟨_, _, _, rfl, ?_⟩
  have hrl : (allS S2).length ≤ 4096 := by
    have : S2.rows.length ≤ n + 1 + 1 := hV2.rl
    unfold allS
    rw [List.length_map]
    omega
  have u138 := u135.keep f138
  refine scions_spec o138.cells (((o71.keep' F95).keep' f135).keep' f138).cells hrl fun w141 f141 => ⟨_, rfl, bc_bool (fun e => by rw [decide_eq_true h5] at e; cases e) (fun _ => ?_)⟩
  have G := (f135.tr f138).tr f141
  have l3 := i3.lt
  have l39 := i39.lt
  have l44 := i44.lt
  have ne1 : g39 ≠ g44 := by have := c39.lt; omega
  exact tw_j1 (st := st) (f := F) (S_ := S_) (Q_ := q) (u138.keep f141) hV2 (by omega) (fun b hb => by
    simp at hb
    rcases hb with rfl | rfl | rfl | rfl
    · simp [hl]
    · simp [hl]
    · simp
    · simp) ((i3.keep' F95).keep' G) hw ((i39.keep' F95).keep' G) (m44.keep' G) rfl (b95.keep' G) rfl ⟨ne1, by omega, by omega⟩ hQ
theorem tw_j3 (u : P2 ⟨V, []⟩ w g x ft gr xr fr S R L) (hV : SV n S) (hn : n + 2 < 4096) (hc : 2 ≤ C.nodes ∧ C.nodes ≤ 4) (h3 : g3 ∈ L) (hgc : gc ∈ L) (b3 : Blk w g3 (st.cells rp rc lp lc) 43) (bc : Blk w gc C.cells 27) (hw : StpW st) (hQ : ∀ w', Fr [] V w' → Q (.bool true) w') :
    X6.j3 Q (at0 g3 0) (at0 gc 0) (some (at0 g 0)) w := by
  unfold X6.j3
  refine ld_int (b3.cat 1 _ rfl) (ld_int (bc.cat 0 _ rfl) ?_)
  rw [i64w (C.nodes - 1) (by omega) (by omega)]
  refine pick_spec (by omega) (by omega) ⟨_, rfl, drawn fun w6 f6 _ => ?_⟩
  have u6 := u.keep f6
  have b6 := b3.keep' f6
  have k6 := bc.keep' f6
  have fin : ∀ {w' : World} {g39 : Nat} {F S_ q v d : Int}, Fr [] w6 w' → w6.heap.size ≤ g39 → Blk w' g39 ((dmsg F 1 S_ q v d).cells none 0 none 0) 41 → X6.j2 Q (at0 g3 0) (some (at0 g 0)) F (at0 g39 0) w' := by
    intro w' g39 F S_ q v d f hg B
    refine tw_j2 (L := g39 :: L) (st := st) (u6.new1 f hg B) hV hn (fun b hb => ?_) (b6.keep' f) hw B hQ
    simp at hb
    rcases hb with rfl | rfl
    · simp [h3]
    · simp
  refine ⟨?_, ?_, ?_, ?_⟩
  · refine ld_int (b6.cat 4 _ rfl) ⟨by omega, ld_int (b6.cat 5 _ rfl) ⟨by omega, ld_int (b6.cat 2 _ rfl) (ld_int (k6.cat 0 _ rfl) (pick_spec (by omega) (by omega) ⟨_, rfl, ⟨b6.cat 5 _ rfl, b6.cat 5 _ rfl⟩, ⟨b6.cat 4 _ rfl, b6.cat 4 _ rfl⟩, ld_int (b6.cat 3 _ rfl) ⟨⟨b6.cat 3 _ rfl, b6.cat 3 _ rfl⟩, pick_spec (by omega) (by omega) ⟨_, rfl, ⟨b6.cat 5 _ rfl, b6.cat 5 _ rfl⟩, ⟨b6.cat 4 _ rfl, b6.cat 4 _ rfl⟩, ?_⟩⟩⟩))⟩⟩
    refine dmsg_spec fun w19 f19 => ⟨_, _, _, _, _, _, _, _, _, _, _, _, _, _, _, _, _, _, _, _, _, _, _, rfl, newB fun g39 w40 b40 f40 h40 => ?_⟩
    have b19 := b6.keep' f19
    have k19 := k6.keep' f19
    have b40' := b19.keep' f40
    have k40 := k19.keep' f40
    have z := f19.size
    refine ⟨⟨b19.cat 3 _ rfl, b40'.cat 3 _ rfl⟩, ⟨k19.cat 0 _ rfl, k40.cat 0 _ rfl⟩, ⟨b19.cat 2 _ rfl, b40'.cat 2 _ rfl⟩, ⟨b19.cat 5 _ rfl, b40'.cat 5 _ rfl⟩, ⟨b19.cat 4 _ rfl, b40'.cat 4 _ rfl⟩, stAllB (vs := Msg.cells (dmsg _ _ _ _ _ _) none 0 none 0) b40 rfl fun w41 b41 f41 => ?_⟩
    exact fin ((f19.tr f40).trans f41 (fun y hy => .inr (by simp at hy; omega))) (by omega) b41
  · refine ld_int (b6.cat 4 _ rfl) ⟨by omega, ld_int (b6.cat 5 _ rfl) ⟨by omega, ld_int (b6.cat 2 _ rfl) (ld_int (k6.cat 0 _ rfl) (pick_spec (by omega) (by omega) ⟨_, rfl, ⟨b6.cat 5 _ rfl, b6.cat 5 _ rfl⟩, ⟨b6.cat 4 _ rfl, b6.cat 4 _ rfl⟩, ld_int (b6.cat 3 _ rfl) ⟨⟨b6.cat 3 _ rfl, b6.cat 3 _ rfl⟩, pick_spec (by omega) (by omega) ⟨_, rfl, ⟨b6.cat 5 _ rfl, b6.cat 5 _ rfl⟩, ⟨b6.cat 4 _ rfl, b6.cat 4 _ rfl⟩, newB fun g39 w40 b40 f40 h40 => ?_⟩⟩⟩))⟩⟩
    have b40' := b6.keep' f40
    have k40 := k6.keep' f40
    refine ⟨⟨b6.cat 3 _ rfl, b40'.cat 3 _ rfl⟩, ⟨k6.cat 0 _ rfl, k40.cat 0 _ rfl⟩, ⟨b6.cat 2 _ rfl, b40'.cat 2 _ rfl⟩, ⟨b6.cat 5 _ rfl, b40'.cat 5 _ rfl⟩, ⟨b6.cat 4 _ rfl, b40'.cat 4 _ rfl⟩, ?_⟩
    refine dmsg_spec fun w19 f19 => ⟨_, _, _, _, _, _, _, _, _, _, _, _, _, _, _, _, _, _, _, _, _, _, _, rfl, stAllB (vs := Msg.cells (dmsg _ _ _ _ _ _) none 0 none 0) (b40.keep' f19) rfl fun w41 b41 f41 => ?_⟩
    exact fin ((f40.tr f19).trans f41 (fun y hy => .inr (by simp at hy; omega))) h40 b41
  · refine ld_int (b6.cat 4 _ rfl) ⟨by omega, ld_int (b6.cat 5 _ rfl) ⟨by omega, ld_int (b6.cat 2 _ rfl) (ld_int (k6.cat 0 _ rfl) (pick_spec (by omega) (by omega) ⟨_, rfl, ⟨b6.cat 5 _ rfl, b6.cat 5 _ rfl⟩, ⟨b6.cat 4 _ rfl, b6.cat 4 _ rfl⟩, ld_int (b6.cat 3 _ rfl) ⟨⟨b6.cat 3 _ rfl, b6.cat 3 _ rfl⟩, newB fun g39 w40 b40 f40 h40 => ?_⟩⟩))⟩⟩
    have b40' := b6.keep' f40
    have k40 := k6.keep' f40
    refine ⟨⟨b6.cat 3 _ rfl, b40'.cat 3 _ rfl⟩, ⟨k6.cat 0 _ rfl, k40.cat 0 _ rfl⟩, ⟨b6.cat 2 _ rfl, b40'.cat 2 _ rfl⟩, ⟨b6.cat 5 _ rfl, b40'.cat 5 _ rfl⟩, ⟨b6.cat 4 _ rfl, b40'.cat 4 _ rfl⟩, pick_spec (by omega) (by omega) ⟨_, rfl, ⟨b40'.cat 5 _ rfl, b40'.cat 5 _ rfl⟩, ⟨b40'.cat 4 _ rfl, b40'.cat 4 _ rfl⟩, ?_⟩⟩
    refine dmsg_spec fun w19 f19 => ⟨_, _, _, _, _, _, _, _, _, _, _, _, _, _, _, _, _, _, _, _, _, _, _, rfl, stAllB (vs := Msg.cells (dmsg _ _ _ _ _ _) none 0 none 0) (b40.keep' f19) rfl fun w41 b41 f41 => ?_⟩
    exact fin ((f40.tr f19).trans f41 (fun y hy => .inr (by simp at hy; omega))) h40 b41
  · refine ld_int (b6.cat 4 _ rfl) ⟨by omega, ld_int (b6.cat 5 _ rfl) ⟨by omega, ld_int (b6.cat 2 _ rfl) (ld_int (k6.cat 0 _ rfl) (ld_int (b6.cat 3 _ rfl) (newB fun g39 w40 b40 f40 h40 => ?_)))⟩⟩
    have b40' := b6.keep' f40
    have k40 := k6.keep' f40
    refine ⟨⟨b6.cat 3 _ rfl, b40'.cat 3 _ rfl⟩, ⟨k6.cat 0 _ rfl, k40.cat 0 _ rfl⟩, ⟨b6.cat 2 _ rfl, b40'.cat 2 _ rfl⟩, ⟨b6.cat 5 _ rfl, b40'.cat 5 _ rfl⟩, ⟨b6.cat 4 _ rfl, b40'.cat 4 _ rfl⟩, pick_spec (by omega) (by omega) ⟨_, rfl, ⟨b40'.cat 3 _ rfl, b40'.cat 3 _ rfl⟩, ⟨b40'.cat 5 _ rfl, b40'.cat 5 _ rfl⟩, ⟨b40'.cat 4 _ rfl, b40'.cat 4 _ rfl⟩, pick_spec (by omega) (by omega) ⟨_, rfl, ⟨b40'.cat 5 _ rfl, b40'.cat 5 _ rfl⟩, ⟨b40'.cat 4 _ rfl, b40'.cat 4 _ rfl⟩, ?_⟩⟩⟩
    refine dmsg_spec fun w19 f19 => ⟨_, _, _, _, _, _, _, _, _, _, _, _, _, _, _, _, _, _, _, _, _, _, _, rfl, stAllB (vs := Msg.cells (dmsg _ _ _ _ _ _) none 0 none 0) (b40.keep' f19) rfl fun w41 b41 f41 => ?_⟩
    exact fin ((f40.tr f19).trans f41 (fun y hy => .inr (by simp at hy; omega))) h40 b41
theorem tw_l0 (hst : StepsAt V ip l) (hc : 2 ≤ C.nodes ∧ C.nodes ≤ 4) (hll : l.length ≤ 140737488351232) (hw : StpW st) (hQ : ∀ w', Fr [] V w' → Q (.bool true) w') :
    ∀ (f i : Nat) (ft fr : List Nat) (S : Sc) (w : World), 80 - i < f → i ≤ 80 → P2 ⟨V, []⟩ w g x ft gr xr fr S S [gc, g3] → SV (5 + i) S → S.c = C → Blk w gc C.cells 27 → Blk w g3 (st.cells rp rc lp lc) 43 →
      X6.l0 Q f ip l.length cap (at0 g3 0) (at0 gc 0) (some (at0 g 0)) (some (at0 x.h 0)) (some (at0 gr 0)) (i : Int) w
  | 0, i, ft, fr, S, w, hf, _, _, _, _, _, _ => absurd hf (Nat.not_lt_zero _)
  | f + 1, i, ft, fr, S, w, hf, hi, u, hV, hC, bc, b3 => by
    rw [X6.l0]
    have ei : IntKind.wrap .i64 ((i : Int) + 1) = ((i + 1 : Nat) : Int) := by rw [i64w ((i : Int) + 1) (by omega) (by omega)]; omega
    have out : X6.j3 Q (at0 g3 0) (at0 gc 0) (some (at0 g 0)) w := tw_j3 (st := st) u hV (by omega) hc (by simp) (by simp) b3 bc hw hQ
    refine bc_dec (fun h1 => bc_dec (fun h2 => ?_) (fun _ => out)) (fun _ => out)
    have hlt : i < l.length := by omega
    have hg := List.getElem?_eq_getElem hlt
    have hm := List.getElem_mem hlt
    generalize l[i] = sx at *
    obtain ⟨p, rp', rc', lp', lc', hp, hat, hMM⟩ := hst.at_ i sx hg
    have hat := hat.keep' u.F
    have hw' := hst.wf sx hm
    rw [Int.toNat_natCast, ei]
    refine ⟨⟨by omega, by omega⟩, opt_some hp (ld_Stp hat ?_)⟩
    refine play_spec u hV (by omega) (by rw [hC]; omega) hw' hMM fun ft2 fr2 w2 u2 f2 => ⟨_, rfl, ?_⟩
    exact tw_l0 hst hc hll hw hQ f (i + 1) ft2 fr2 _ w2 (by omega) (by omega) u2 (hV.play hw') (by rw [play_node.2, hC]) (bc.keep f2 (u.off (by simp))) (b3.keep f2 (u.off (by simp)))
theorem scionTwice_row {H : Type} {cs xs : Array Value} {d d2 d3 : DataW H} (h : Lies Tryz.prog V 6 24 cs.toList d) (hs : SizedD Tryz.prog 24 d) {ip : Option Addr} {n cap : Nat} (h2 : Lies Tryz.prog V 6 25 [.slice ip n cap] d2) (hs2 : SizedD Tryz.prog 25 d2) (h3 : Lies Tryz.prog V 6 43 xs.toList d3) (hs3 : SizedD Tryz.prog 43 d3) :
    CallR Tryz.prog 6 #[.agg cs, .slice ip n cap, .agg xs] V fun v w' => v = .bool true ∧ Fr [] V w' := by
  obtain ⟨r, rfl, hr⟩ := raw_open' h
  obtain ⟨l, rfl, hst, hll⟩ := steps_of_lies h2 hs2
  obtain ⟨st, rp, rc, lp, lc, hxs, hMM, hw⟩ := step_of_lies (n := 1) h3 hs3
  obtain rfl : xs = (st.cells rp rc lp lc).toArray := by apply Array.ext'; exact hxs
  apply X6.sound
  unfold X6.f
  refine newB fun g1 w2 b f2 h2 => newB fun g3 w4 b3 f4 h4 => ?_
  have b : Blk w2 g1 r.cells 24 := b
  have b3 : Blk w4 g3 (st.cells rp rc lp lc) 43 := b3
  have b := b.keep' f4
  have cn := conf_nodes r
  have hmay := may_config hr
  refine ld_Raw (s := r) b.cat (config_spec (r := r) fun w26 f26 => ⟨_, _, _, _, _, _, _, _, _, _, _, _, _, _, _, _, _, _, _, _, _, _, rfl, newB fun gc w50 bc f50 h50 => stAllB (vs := (configOf r).cells) bc rfl fun w51 b51 f51 => ?_⟩)
  generalize hc : configOf r = c at *
  have F26 := (f2.tr f4).tr f26
  have z26 := F26.size
  have z2 := f2.size
  have F51 : Fr [] V w51 := (F26.tr f50).trans f51 (fun y hy => .inr (by simp at hy; omega))
  have G51 : Fr [] w4 w51 := (f26.tr f50).trans f51 (fun y hy => .inr (by simp at hy; have := f26.size; omega))
  have d51 := b3.keep' G51
  refine ld_Cfg (s := c) b51.cat ?_
  refine yard_spec (c := c) (W := w51) hmay (by omega) (by omega) (by omega) fun g x ft gr xr fr w80 P R Bk d1 d2 d3 F m1 m2 m3 => ⟨_, _, _, rfl, ?_⟩
  have u80 := two_of_yard (L := [gc, g3]) F51 P R Bk d1 d2 d3 F m1 m2 m3 (fun b hb => by
    simp at hb
    rcases hb with rfl | rfl
    · exact ⟨by omega, b51.lt⟩
    · exact ⟨by omega, d51.lt⟩)
  refine known_spec fun w85 f85 => ⟨_, rfl, bc_bool (fun e => by cases e) (fun _ => bc_bool (fun e => by cases e) (fun _ => ?_))⟩
  unfold X6.j4
  exact ⟨81, tw_l0 (C := c) (st := st) hst cn hll hw (fun w' f' => ⟨rfl, f'⟩) 81 0 ft (gr :: fr) _ w85 (by omega) (by omega) (u80.keep f85) SV.sc0 rfl ((b51.keep' F).keep' f85) ((d51.keep' F).keep' f85)⟩
end
end Go.Proofs.YtnjmkhhaodgpbaaGreatX
