/- What the claim needs of the calculus and of the walks, part 6: L20Numbers. -/
import Derived.Test.YtdgoalhnkegbmaaC5
namespace Go.Proofs.YtdgoalhnkegbmaaX
open Go.RowKit
set_option linter.unusedVariables false
set_option linter.unusedSimpArgs false
set_option maxRecDepth 100000
/-- a row of numbers beside the tables -/
structure SU (W : Base) (w : World) (al ar : List Nat) (p : Option Addr) (c : Nat) (vs : List Int) : Prop where
  r : Own 22 1 w p vs.length c (vs.map (Value.int .u64))
  o : ∀ k ∈ fbl p, Out W al ar k
section
/-- two rows of other kinds lie apart -/
theorem own_blk_ne {e1 e2 : TypeId} {z n c g : Nat} {p : Option Addr} {xs cs : List Value} {w : World} (h : Own e1 z w p n c xs) (b : Blk w g cs e2) (he : e1 ≠ e2) : g ∉ fbl p := fun hm => by
  cases p with
  | none => cases hm
  | some a =>
    obtain ⟨k, cur, rfl, hb, _⟩ := Own.blk h
    simp [fbl, at0] at hm
    subst hm
    unfold Blk at hb b
    rw [hb] at b
    injection b with b
    injection b with _ b
    exact he b
variable {V : World} {W : Base} {w w' w2 : World} {Q : Value → World → Prop} {g h x0 gs gt gm gc : Nat} {ft al ft' al' fr ar fr' ar' al2 ar2 X : List Nat} {S S' R R' : Cs} {p ip lp : Option Addr} {c rc B cap lc n : Nat} {l : List Sq} {vs : List Int} {C : Cfg} {x : Sq} {now to v : Int}
theorem T2.su (t : T2 w al ar w' al' ar') (s : SU W w al ar p c vs) : SU W w' al' ar' p c vs := ⟨s.r.keep t.f (fun k hk => (s.o k hk).non), fun k hk => t.out (s.o k hk) (s.r.lt k hk)⟩
theorem SU.keep' (s : SU W w al ar p c vs) (f : Fr [] w w') : SU W w' al ar p c vs := ⟨s.r.keep' f, s.o⟩
theorem SU.at_ (s : SU W w al ar p c vs) {i : Nat} (hi : i < vs.length) : ∃ a, p = some a ∧ w.cell? (a.add (i * 1)) = some (.int .u64 ((vs[i]?).getD 0)) := by
  have hg := List.getElem?_eq_getElem hi
  obtain ⟨a, ha, hv⟩ := s.r.cells i (.int .u64 vs[i]) (by rw [List.getElem?_map, hg]; rfl)
  exact ⟨a, ha, by rw [Nat.mul_one, hg]; exact hv⟩
theorem SU.st (s : SU W w al ar p c vs) {i : Nat} (hi : i < vs.length) {K : World → Prop} (hK : ∀ w', SU W w' al ar p c (vs.set i v) → Fr (fbl p) w w' → K w') : optP p fun a => stK w (a.add (i * 1)) (.int .u64 v) K := by
  obtain ⟨a, rfl, _⟩ := s.at_ hi
  refine opt_some rfl ?_
  rw [Nat.mul_one]
  refine ⟨s.r.storeOk (by simpa using hi), hK _ ⟨?_, s.o⟩ (Fr.setCell (by rw [add_block]; simp [fbl]) _)⟩
  have := s.r.set (i := i) (by simpa using hi) (.int .u64 v)
  rw [List.length_set, List.map_set]
  exact this
/-- the check behind each step: no more calls than may be -/
theorem all_check {K : World → Prop} {t1p t9p : Option Addr} (q : P2 W w g ft al S h fr ar S) (bc : OB W w al ar gc S.c.cells 31) (hK : ∀ w', P2 W w' g ft al S h fr ar S → Fr [] w w' → K w') :
    drewK w fun w89 => CallR Try.prog 22 #[.pointer (some (at0 g 0))] w89 fun v90 w91 => ∃ (y92p : Option Addr) (y92n y92c : Nat), v90 = .slice y92p y92n y92c ∧ ldI .i64 w91 ((at0 gc 0).add 6) fun x93 => (World.cell? w89 ((at0 gc 0).add 6) = some (.int .i64 x93) ∧ World.cell? w91 ((at0 gc 0).add 6) = some (.int .i64 x93)) ∧ bcase (decide (((y92n : Nat) : Int) > x93)) (Q (.bool false) w91) (K w91) := by
  refine drawn fun w1 f1 _ => ?_
  have q1 := q.keep' f1
  have bc1 := bc.keep' f1
  have hs := q.t.size
  refine all_spec q1.t fun p c xs w2 o2 a2 f2 n2 => ⟨_, _, _, rfl, ld_int ((bc1.keep' f2).b.cat 6 _ rfl) ⟨⟨bc1.b.cat 6 _ rfl, (bc1.keep' f2).b.cat 6 _ rfl⟩, bc_dec (fun hh => ?_) (fun _ => hK w2 (q1.keep' f2) (f1.tr f2))⟩⟩
  have hh : ((S.l.length : Nat) : Int) > S.c.calls := hh
  omega
theorem num_l1 (hst : StepsAt V ip l) (hwin : 1 ≤ C.window ∧ C.window ≤ 4096) (hQ : ∀ w', Fr [] V w' → Q (.bool true) w') :
    ∀ (f i : Nat) (w : World) (ft al fr ar : List Nat) (S : Cs), 200 - i < f → i ≤ 200 → P2 ⟨V, []⟩ w g ft al S h fr ar S → SI S → S.c = C → OB ⟨V, []⟩ w al ar gc C.cells 31 → SU ⟨V, []⟩ w al ar lp lc S.latest → S.latest.length = n →
      X4.l1 Q f ip l.length cap (at0 gc 0) (some (at0 g 0)) (some (at0 h 0)) lp n lc (i : Int) w := by
  intro f
  induction f with
  | zero => intro i w ft al fr ar S hf; exact absurd hf (Nat.not_lt_zero _)
  | succ f ih =>
    intro i w ft al fr ar S hf hi q I hc bc su hlat
    rw [X4.l1]
    refine bc_dec (fun h1 => bc_dec (fun h2 => ?_) (fun h2 => hQ w q.F)) (fun h1 => hQ w q.F)
    have hlt : i < l.length := by omega
    have hg := List.getElem?_eq_getElem hlt
    generalize l[i] = x0 at hg
    obtain ⟨a, rp, rc, ha, hat, hcl, h0, hle⟩ := hst.at_ i x0 hg
    have hwf := hst.wf x0 (List.mem_of_getElem? hg)
    have ei : IntKind.wrap .i64 ((i : Int) + 1) = ((i + 1 : Nat) : Int) := by rw [i64w ((i : Int) + 1) (by omega) (by omega)]; omega
    have eu : IntKind.wrap .u64 (i : Int) = i := u64w _ (by omega) (by omega)
    unfold X4.j2
    rw [ei, eu]
    refine ⟨⟨by omega, by omega⟩, opt_some ha ?_⟩
    rw [Int.toNat_natCast]
    refine ld_Sq (x := x0) (p := rp) (c := rc) (hat.keep' q.F) (newB fun g12 w13 b12 f13 h12 => stAllB (vs := x0.cells rp rc) b12 rfl fun w14 b14 f14 => stB b14 (by show 9 < 10; omega) fun w15 b15 f15 => ?_)
    generalize hx : ({ x0 with near := true } : Sq) = x
    have b15 : Blk w15 g12 (x.cells rp rc) 29 := by rw [← hx]; exact b15
    have hw : SqW x := by rw [← hx]; exact ⟨hwf.num, hwf.n, hwf.ts, hwf.refs, hwf.len⟩
    have hnear : x.near = true := by rw [← hx]
    have hrf : x.refs = x0.refs := by rw [← hx]
    have o12 := q.new h12
    have f2 : Fr [g12] w13 w15 := f14.tr f15
    have T : T2 w al ar w15 al ar := T2.off h12 f13 f2
    have q15 := (q.keep' f13).off o12 f2
    have bs15 : OB ⟨V, []⟩ w15 al ar g12 (x.cells rp rc) 29 := ⟨b15, o12⟩
    have bc15 := T.ob bc
    have su15 := T.su su
    have hlen := hwf.len
    have ri15 : RowIn w15 al ar rp rc x.refs := RowIn.of_arg q15 (by rw [hrf]; exact hcl) h0 (by rw [hrf]; exact hle) (by rw [hrf]; omega)
    have rest : ∀ {w2 : World} {ft2 al2 fr2 ar2 : List Nat} {S2 : Cs}, P2 ⟨V, []⟩ w2 g ft2 al2 S2 h fr2 ar2 S2 → SI S2 → S2.c = C → OB ⟨V, []⟩ w2 al2 ar2 gc C.cells 31 → SU ⟨V, []⟩ w2 al2 ar2 lp lc S2.latest → S2.latest.length = n →
        drewK w2 fun w89 => CallR Try.prog 22 #[.pointer (some (at0 g 0))] w89 fun v90 w91 => ∃ (y92p : Option Addr) (y92n y92c : Nat), v90 = .slice y92p y92n y92c ∧ ldI .i64 w91 ((at0 gc 0).add 6) fun x93 => (World.cell? w89 ((at0 gc 0).add 6) = some (.int .i64 x93) ∧ World.cell? w91 ((at0 gc 0).add 6) = some (.int .i64 x93)) ∧ bcase (decide (((y92n : Nat) : Int) > x93)) (Q (.bool false) w91) (X4.l1 Q f ip l.length cap (at0 gc 0) (some (at0 g 0)) (some (at0 h 0)) lp n lc ((i + 1 : Nat) : Int) w91) := by
      intro w2 ft2 al2 fr2 ar2 S2 q2 I2 hc2 bc2 su2 hl2
      refine all_check (t1p := none) (t9p := none) q2 (by rw [hc2]; exact bc2) fun w' q' f' => ?_
      exact ih (i + 1) w' ft2 al2 fr2 ar2 S2 (by omega) (by omega) q' I2 hc2 (bc2.keep' f') (su2.keep' f') hl2
    refine ld_int (b15.cat 0 _ rfl) (pick_spec (by omega) (by omega) ⟨_, rfl, bc_dec (fun hlow => ?_) (fun hhigh => ?_)⟩)
    · -- a call is begun
      have hnd := I.nodes
      refine ld_Cfg (s := C) bc15.b.cat (ld_Sq (x := x) (p := rp) (c := rc) b15.cat (args_spec (C := C) hw (by rw [← hc]; exact hnd) ri15.cells hnear fun rp2 rc2 w53 r53 n53 f53 => ⟨_, _, _, _, _, _, _, _, rfl, newB fun g60 w61 b60 f61 h60 => stAllB (vs := idc (argTg C x)) b60 rfl fun w62 b62 f62 => ?_⟩))
      have hl2 : (argRefs x).length ≤ 2 := by unfold argRefs; rw [List.length_map, List.length_take]; omega
      have q53 := q15.keep' f53
      have o60 := q53.new h60
      have T62 : T2 w53 al ar w62 al ar := T2.off h60 f61 f62
      have q62 := (q53.keep' f61).off o60 f62
      have sr62 : SR ⟨V, []⟩ w62 al ar rp2 rc2 (argRefs x) := T62.sr (q15.srN r53 n53)
      have bs62 := T62.ob (bs15.keep' f53)
      have bc62 := T62.ob (bc15.keep' f53)
      have su62 := T62.su (su15.keep' f53)
      have bt62 : OB ⟨V, []⟩ w62 al ar g60 (idc (argTg C x)) 26 := ⟨b62, o60⟩
      obtain ⟨r, hR⟩ := right_dec (Right (askM S (newY (argTo C x) (argOp x) (x.field % 64) (argTg C x).1 (argTg C x).2 x.n (argRefs x) i) 1))
      refine ld_int (b62.cat 0 _ rfl) (ld_int (b62.cat 1 _ rfl) (ld_int (bs62.b.cat 5 _ rfl) (begin_spec q62.t sr62.r (by omega) hR ?_)))
      intro ft' al' w67 t67 f67 e67 a67
      obtain ⟨q67, T67⟩ := q62.nextT t67 f67 a67
      have bt67 := T67.ob bt62
      have bs67 := T67.ob bs62
      have sr67 := T67.sr sr62
      have ri67 := RowIn.of_sr sr67 (by omega)
      refine ⟨_, _, rfl, ld_int (bt67.b.cat 0 _ rfl) (ld_int (bt67.b.cat 1 _ rfl) (ld_int (bs67.b.cat 5 _ rfl) (rbegin_spec q67.r I (ri67.stays q67.r.sub) ri67.nil ri67.le (by omega) hR ?_)))⟩
      intro fr' ar' w74 r74 f74 e74 a74
      obtain ⟨q74, T74⟩ := q67.nextR r74 f74 a74
      have T := T67.tr T74
      have bc74 := T.ob bc62
      have su74 := T.su su62
      have I74 : SI (beginS S r (argTo C x) (argOp x) (x.field % 64) (argTg C x).1 (argTg C x).2 x.n (argRefs x) i).1 := I.begin (fun hr => by
        have hh := right_to (hR.1 hr)
        exact ⟨hh.1, fun e => hh.2.2 e.symm⟩)
      refine ⟨_, _, rfl, ?_⟩
      by_cases hb1 : argTo C x > S.c.nodes ∨ r = false ∨ (noneB (argTg C x).1 (argTg C x).2 = false ∧ (argTg C x).1 ≠ argTo C x)
      · have eb : beginS S r (argTo C x) (argOp x) (x.field % 64) (argTg C x).1 (argTg C x).2 x.n (argRefs x) i = (S, 0, 1) := by unfold beginS; rw [if_pos hb1]
        rw [eb] at q74 ⊢
        exact bc_eq (fun e => by cases e) (fun _ => rest q74 I hc bc74 su74 hlat)
      by_cases hb2 : (S.l.length : Int) ≥ S.c.calls ∨ IntKind.wrap .u64 (IntKind.wrap .u64 (latestOf S (argTo C x) + 1) - floorC S (argTo C x)) ≥ IntKind.wrap .u64 S.c.window
      · have eb : beginS S r (argTo C x) (argOp x) (x.field % 64) (argTg C x).1 (argTg C x).2 x.n (argRefs x) i = (S, 0, 6) := by unfold beginS; rw [if_neg hb1, if_pos hb2]
        rw [eb] at q74 ⊢
        exact bc_eq (fun e => by cases e) (fun _ => rest q74 I hc bc74 su74 hlat)
      by_cases hb3 : latestOf S (argTo C x) = 72057594037927935
      · have eb : beginS S r (argTo C x) (argOp x) (x.field % 64) (argTg C x).1 (argTg C x).2 x.n (argRefs x) i = (S, 0, 7) := by unfold beginS; rw [if_neg hb1, if_neg hb2, if_pos hb3]
        rw [eb] at q74 ⊢
        exact bc_eq (fun e => by cases e) (fun _ => rest q74 I hc bc74 su74 hlat)
      have eb : beginS S r (argTo C x) (argOp x) (x.field % 64) (argTg C x).1 (argTg C x).2 x.n (argRefs x) i = (putC { S with latest := S.latest.set (argTo C x).toNat (IntKind.wrap .u64 (latestOf S (argTo C x) + 1)) } ⟨argTo C x, IntKind.wrap .u64 (latestOf S (argTo C x) + 1), argOp x, x.field % 64, (argTg C x).1, (argTg C x).2, argRefs x, x.n, 1, 0, [], 0, i, 0, i⟩, IntKind.wrap .u64 (latestOf S (argTo C x) + 1), 0) := by unfold beginS; rw [if_neg hb1, if_neg hb2, if_neg hb3]
      have hlst := I.latest (to := argTo C x)
      have en : IntKind.wrap .u64 (latestOf S (argTo C x) + 1) = latestOf S (argTo C x) + 1 := u64w _ (by omega) (by omega)
      rw [en] at eb hb2
      rw [eb] at q74 I74 ⊢
      have hrt : r = true := by
        cases r with
        | true => rfl
        | false => exact absurd (.inr (.inl rfl)) hb1
      have hnode := right_to (hR.1 hrt)
      have hto1 : 1 ≤ argTo C x := hnode.1
      have hto2 : argTo C x ≤ S.c.nodes := by
        by_cases hh : argTo C x > S.c.nodes
        · exact absurd (.inl hh) hb1
        · omega
      have ho : otherB S (argTo C x) = true := other_of hto1 hto2 (fun e => hnode.2.2 e.symm)
      have hll := I.ll
      have hltn : (argTo C x).toNat < S.latest.length := by omega
      generalize hy : (⟨argTo C x, latestOf S (argTo C x) + 1, argOp x, x.field % 64, (argTg C x).1, (argTg C x).2, argRefs x, x.n, 1, 0, [], 0, i, 0, i⟩ : Cp) = y at q74 I74 ⊢
      have hfl := begin_floor (y := y) I ho rfl hb3 (by rw [hc]; exact hwin) (by rw [← hy]) (by rw [← hy]) hb2 I74
      dsimp only at q74 I74 hfl ⊢
      generalize hS2 : putC { S with latest := S.latest.set (argTo C x).toNat (latestOf S (argTo C x) + 1) } y = S2 at q74 I74 hfl ⊢
      have hc2 : S2.c = C := by rw [← hS2]; exact hc
      have hlat2 : S2.latest = S.latest.set (argTo C x).toNat (latestOf S (argTo C x) + 1) := by rw [← hS2]; rfl
      refine bc_eq (fun _ => drawn fun w77 f77 _ => ?_) (fun e => absurd rfl e)
      have q77 := q74.keep' f77
      have bc77 := bc74.keep' f77
      have su77 := su74.keep' f77
      obtain ⟨a9, ha9, hv9⟩ := su77.at_ hltn
      have hv9 : w77.cell? (a9.add ((argTo C x).toNat * 1)) = some (.int .u64 (latestOf S (argTo C x))) := hv9
      refine ⟨⟨by omega, by omega⟩, opt_some ha9 (ld_int hv9 ?_)⟩
      rw [en]
      refine bc_ne (fun e => absurd rfl e) (fun _ => floor_spec q77.t fun w81 f81 => ⟨_, rfl, bc_dec (fun e => absurd e (by omega)) (fun _ => ?_)⟩)
      have q81 := q77.keep' f81
      have bc81 := bc77.keep' f81
      refine floor_spec q81.t fun w84 f84 => ⟨_, rfl, ?_⟩
      have q84 := q81.keep' f84
      have bc84 := bc81.keep' f84
      have su84 := (su77.keep' f81).keep' f84
      have ewin : IntKind.wrap .u64 C.window = C.window := u64w _ (by omega) (by omega)
      have hfl2 : latestOf S (argTo C x) + 1 - floorC S2 (argTo C x) < C.window := by have := hfl.2; rw [hc] at this; exact this
      refine ld_int (bc84.b.cat 7 _ rfl) ⟨⟨bc81.b.cat 7 _ rfl, bc84.b.cat 7 _ rfl⟩, bc_dec (fun e => ?_) (fun _ => ⟨⟨by omega, by omega⟩, ?_⟩)⟩
      · exfalso
        have e : IntKind.wrap .u64 (latestOf S (argTo C x) + 1 - floorC S2 (argTo C x)) ≥ IntKind.wrap .u64 C.window := e
        rw [ewin, u64w _ (by omega) (by omega)] at e
        omega
      · refine su84.st hltn fun w88 su88 f88 => ?_
        have hfo : ∀ k ∈ fbl lp, Out ⟨V, []⟩ al' ar' k := su84.o
        have q88 := q84.offL hfo f88
        have hgcl : gc ∉ fbl lp := own_blk_ne su84.r bc84.b (by decide)
        have bc88 : OB ⟨V, []⟩ w88 al' ar' gc C.cells 31 := ⟨bc84.b.keep f88 hgcl, bc84.o⟩
        rw [← hlat2] at su88
        exact rest q88 I74 hc2 bc88 su88 (by rw [hlat2, List.length_set]; exact hlat)
    · -- any other call
      refine ld_Sq (x := x) (p := rp) (c := rc) b15.cat (play_specT (now := (i : Int)) hw q15 I ri15 fun S2 ft2 al2 fr2 ar2 w2 q2 T2' pt => ⟨_, rfl, ?_⟩)
      have hl2 := pt.lat (by omega)
      exact rest q2 pt.i (pt.c.trans hc) (T2'.ob bc15) (by rw [hl2]; exact T2'.su su15) (by rw [hl2]; exact hlat)
theorem num_l0 (hst : StepsAt V ip l) (hwin : 1 ≤ C.window ∧ C.window ≤ 4096) (hN : n ≤ 100) (hQ : ∀ w', Fr [] V w' → Q (.bool true) w') (I : SI S) (hc : S.c = C) (hlat : S.latest = List.replicate n C.last) :
    ∀ (f j : Nat) (w : World) (vs : List Int), n - j < f → j ≤ n → vs.length = n → (∀ t, t < j → vs[t]? = some C.last) → P2 ⟨V, []⟩ w g ft al S h fr ar S → OB ⟨V, []⟩ w al ar gc C.cells 31 → SU ⟨V, []⟩ w al ar lp lc vs →
      X4.l0 Q f ip l.length cap (at0 gc 0) (some (at0 g 0)) (some (at0 h 0)) lp n lc (j : Int) w := by
  intro f
  induction f with
  | zero => intro j w vs hf; exact absurd hf (Nat.not_lt_zero _)
  | succ f ih =>
    intro j w vs hf hj hv hs q bc su
    rw [X4.l0]
    refine bc_dec (fun h1 => ld_int (bc.b.cat 21 _ rfl) ⟨⟨by omega, by omega⟩, ?_⟩) (fun h1 => ?_)
    · rw [Int.toNat_natCast, i64w ((j : Int) + 1) (by omega) (by omega), show (j : Int) + 1 = ((j + 1 : Nat) : Int) by omega]
      refine su.st (by omega) fun w' su' f' => ?_
      refine ih (j + 1) w' (vs.set j C.last) (by omega) (by omega) (by simp [hv]) (fun t ht => ?_) (q.offL su.o f') ⟨bc.b.keep f' (own_blk_ne su.r bc.b (by decide)), bc.o⟩ su'
      rw [List.getElem?_set]
      by_cases h : j = t
      · rw [if_pos h, if_pos (by omega)]
      · rw [if_neg h]; exact hs t (by omega)
    · have hjn : j = n := by omega
      subst hjn
      have hvs : vs = S.latest := by
        rw [hlat]
        apply List.ext_getElem?
        intro t
        by_cases ht : t < j
        · rw [hs t ht, List.getElem?_replicate, if_pos ht]
        · rw [List.getElem?_eq_none (by omega), List.getElem?_replicate, if_neg ht]
      rw [hvs] at su
      exact ⟨201, num_l1 hst hwin hQ _ 0 w ft al fr ar S (by omega) (by omega) q I hc bc su (by rw [hlat, List.length_replicate])⟩
theorem callerNumbers_row {H : Type} {cs : Array Value} {d d2 : DataW H} (hd : Lies Try.prog V 6 24 cs.toList d) (hs : SizedD Try.prog 24 d) {ip : Option Addr} {n cap : Nat} (h2 : Lies Try.prog V 6 54 [.slice ip n cap] d2) (hs2 : SizedD Try.prog 54 d2) :
    CallR Try.prog 4 #[.agg cs, .slice ip n cap] V fun v w' => v = .bool true ∧ Fr [] V w' := by
  obtain ⟨r, rfl, hr⟩ := raw_open hd
  obtain ⟨l, rfl, hst⟩ := steps_of_lies h2 hs2
  apply X4.sound
  unfold X4.f
  have cr := conf_rng r
  have dr := (drift_half r).1
  have lr : 0 ≤ (configOf r).last ∧ (configOf r).last < 1000 := tmod_rng hr.l0 (by omega)
  refine newB fun g1 w2 b f2 _ => ?_
  have b : Blk w2 g1 r.cells 24 := b
  refine ld_Raw (s := r) b.cat (config_spec (r := r) fun w26 f26 => ⟨_, _, _, _, _, _, _, _, _, _, _, _, _, _, _, _, _, _, _, _, _, _, rfl, newB fun gc w50 bc f50 h50 => stAllB (vs := (configOf r).cells) bc rfl fun w51 b51 f51 => ?_⟩)
  have F26 := f2.tr f26
  have z26 := F26.size
  have F51 : Fr [] V w51 := (F26.tr f50).loc f51 (by omega)
  have l51 := b51.lt
  have hok : newOk (configOf r) 1 (configOf r).last := conf_ok hr _ (by omega)
  refine ld_Cfg (s := configOf r) b51.cat (ld_int (b51.cat 21 _ rfl) (newL hok dr fun g ft al w76 p => ⟨_, _, rfl, ?_⟩))
  have b76 := b51.keep' p.F
  refine ld_Cfg (s := configOf r) b76.cat (ld_int (b76.cat 21 _ rfl) (rnew_spec (fun hn => absurd hok hn) fun _ h w103 pr f103 nr => ⟨_, rfl, known_spec fun w106 f106 => ⟨_, rfl, bc_bool (fun h => by cases h) (fun _ => bc_ne (fun h => absurd rfl h) (fun _ => bc_bool (fun h => by cases h) (fun _ => ?_)))⟩⟩))
  have z103 := p.F.size
  have q := (two_new (p.base F51) f103 pr nr).keep' f106
  have bc106 : OB ⟨V, []⟩ w106 al [h] gc (configOf r).cells 31 := ⟨(b76.keep' f103).keep' f106, fun hm => by have := p.new gc hm; omega, fun hm => by simp at hm; omega, by show V.heap.size ≤ gc; omega⟩
  unfold X4.j3
  have en : IntKind.wrap .i64 ((configOf r).nodes + 1) = (((configOf r).nodes + 1).toNat : Nat) := by rw [i64w _ (by omega) (by omega)]; omega
  refine ld_int (bc106.b.cat 0 _ rfl) ?_
  rw [show IntKind.wrap .i64 ((configOf r).nodes + 1) = (((configOf r).nodes + 1).toNat : Nat) from en]
  refine makeU (by omega) fun a w3 o3 f3 n3 => ⟨_, _, _, rfl, ((configOf r).nodes + 1).toNat + 1, ?_⟩
  refine num_l0 (C := configOf r) (S := newC (configOf r) 1 (configOf r).last) hst (by omega) (by omega) (fun w' f' => ⟨rfl, f'⟩) (SI.new hok dr lr.1) rfl rfl _ 0 w3 (List.replicate ((configOf r).nodes + 1).toNat 0) (by omega) (by omega) (by simp) (fun t ht => by omega) (q.keep' f3) (bc106.keep' f3) ⟨?_, fun k hk => ?_⟩
  · rw [List.length_replicate, List.map_replicate]
    exact o3
  · simp [fbl] at hk
    exact q.new (by omega)
end
end Go.Proofs.YtdgoalhnkegbmaaX
