/- StubLapsed: the walk. -/
import Derived.Test.YtglininpmfgggaaL18Lapsed
namespace Go.Proofs.YtglininpmfgggaaX
open Go.RowKit
set_option linter.unusedVariables false
set_option linter.unusedSimpArgs false
set_option maxRecDepth 100000
section
variable {w w' W : World} {Q : Value → World → Prop} {g gt gc gx : Nat} {ft ft' : List Nat} {S S' : Sn} {c : Cfg} {sp now : Int}
/-- the table, and the ID in a block of its own -/
structure LpC (W w : World) (g gt : Nat) (ft : List Nat) (S : Sn) (gx : Nat) (nd sr : Int) : Prop where
  p : PL W w g gt ft S
  bx : Blk w gx (idcs nd sr) 40
  nx : gx ∉ g :: ft
theorem LpC.keep' {nd sr : Int} (h : LpC W w g gt ft S gx nd sr) (f : Fr [] w w') : LpC W w' g gt ft S gx nd sr := ⟨h.p.keep' f, h.bx.keep' f, h.nx⟩
theorem out_next {w : World} {g : Nat} {ft ft' : List Nat} {x : Nat} (h1 : x ∉ g :: ft) (h2 : x < w.heap.size) (e : ∀ x ∈ ft', x ∈ ft ∨ w.heap.size ≤ x) : x ∉ g :: ft' := fun hm => by
  rcases List.mem_cons.1 hm with rfl | hm
  · exact h1 (by simp)
  · rcases e x hm with h' | h'
    · exact h1 (by simp [h'])
    · omega
theorem LpC.next {nd sr : Int} (h : LpC W w g gt ft S gx nd sr) (t' : PTa w' g gt ft' S') (f : Fr (g :: ft) w w') (e : ∀ x ∈ ft', x ∈ ft ∨ w.heap.size ≤ x) : LpC W w' g gt ft' S' gx nd sr :=
  ⟨h.p.next t' f e, h.bx.keep f h.nx, out_next h.nx h.bx.lt e⟩
theorem lap_l0 {ip : Option Addr} {cap : Nat} {l : List Stp} (hS : StepsAt W ip l) (bc : Blk W gc c.cells 24) (hc : 2 ≤ c.nodes) (hc4 : c.nodes ≤ 4) (hs : 1 ≤ sp) (hs2 : sp ≤ 126431) (hQ : ∀ w', Fr [] W w' → Q (.bool true) w') :
    ∀ (f i : Nat) (w : World) (ft : List Nat) (S : Sn) (now : Int), 100 - i < f → i ≤ 100 → LpC W w g gt ft S gx 2 5 → LapI c sp S → 10 + sp ≤ now → now ≤ 10 + sp + 100 * i → X6.l0 Q f ip l.length cap (at0 gc 0) (some (at0 g 0)) (at0 gx 0) now (i : Int) w
  | 0, i, w, ft, S, now, hf, _, _, _, _, _ => by omega
  | f + 1, i, w, ft, S, now, hf, hi, h, I, hn, hm => by
    rw [X6.l0]
    have fin : ldI .i64 w ((at0 gx 0).add 0) fun x1 => ldI .u64 w ((at0 gx 0).add 1) fun x2 => CallR Try.prog 23 #[.pointer (some (at0 g 0)), .agg #[.int .i64 x1, .int .u64 x2], .int .u64 now] w fun v3 w4 => ∃ (y5 : Int), v3 = .int .i64 y5 ∧ Q (.bool (y5 != (2 : Int))) w4 := by
      refine ld_int (h.bx.cat 0 _ rfl) (ld_int (h.bx.cat 1 _ rfl) (state_spec h.p.t fun w4 f4 => ⟨_, rfl, ?_⟩))
      rw [lap_state I hs hn (by omega)]
      exact hQ w4 (h.p.F.tr f4)
    refine bc_dec (fun h1 => bc_dec (fun h2 => ?_) (fun h2 => fin)) (fun h1 => fin)
    have hlt : i < l.length := by omega
    have hg := List.getElem?_eq_getElem hlt
    generalize l[i] = x at hg
    obtain ⟨a, ha, hat⟩ := hS.at_ i x hg
    have hwf := hS.wf x (List.mem_of_getElem? hg)
    have hn0 := u64b hwf.2.2
    have hq0 := u64b hwf.2.1
    have ei : IntKind.wrap .i64 ((i : Int) + 1) = ((i + 1 : Nat) : Int) := by rw [i64w ((i : Int) + 1) (by omega) (by omega)]; omega
    have hrec : ∀ w' ft' S' now', LpC W w' g gt ft' S' gx 2 5 → LapI c sp S' → 10 + sp ≤ now' → now' ≤ 10 + sp + 100 * ((i + 1 : Nat) : Int) → X6.l0 Q f ip l.length cap (at0 gc 0) (some (at0 g 0)) (at0 gx 0) now' (IntKind.wrap .i64 ((i : Int) + 1)) w' := fun w' ft' S' now' h' I' b1 b2 => by
      rw [ei]
      exact lap_l0 hS bc hc hc4 hs hs2 hQ f (i + 1) w' ft' S' now' (by omega) (by omega) h' I' b1 b2
    unfold X6.j2
    refine ld_int (h.bx.cat 0 _ rfl) (ld_int (h.bx.cat 1 _ rfl) (state_spec h.p.t fun w4 f4 => ⟨_, rfl, ?_⟩))
    rw [lap_state I hs hn (by omega)]
    have h4 := h.keep' f4
    refine bc_eq (fun hh => absurd hh (by decide)) (fun _ => bc_ne (fun hh => absurd rfl hh) (fun _ => ?_))
    unfold X6.j1
    have at4 := hat.keep' h4.p.F
    refine ⟨⟨by omega, by omega⟩, opt_some ha (ld_int (by rw [Int.toNat_natCast]; exact at4 0 _ rfl) (pick_spec (by decide) (by decide) ⟨_, rfl, bc_eq (fun e0 => ?_) (fun e0 => bc_eq (fun e1 => ?_) (fun e1 => bc_eq (fun e2 => ?_) (fun e2 => bc_eq (fun e3 => ?_) (fun e3 => bc_eq (fun e4 => ?_) (fun e4 => ?_)))))⟩))⟩
    · refine drawn fun w6 f6 _ => ?_
      have h6 := h4.keep' f6
      have at6 := at4.keep' f6
      have bc6 := bc.keep' h6.p.F
      refine ld_int (h6.bx.cat 0 _ rfl) (ld_int (h6.bx.cat 1 _ rfl) ⟨⟨by omega, by omega⟩, opt_some ha (ld_int (by rw [Int.toNat_natCast]; exact at6 1 _ rfl) (ld_int (bc6.cat 0 _ rfl) (pick_spec (by omega) (by omega) ⟨_, rfl, ⟨h6.bx.cat, h6.bx.cat⟩, want_spec h6.p.t ?_⟩)))⟩)
      intro ft16 w16 t16 f16 e16
      have h16 := h6.next t16 f16 e16
      have I16 := lap_want' (now := now) (v := IntKind.wrap .i64 (1 + x.a % c.nodes)) I hs hn (by omega)
      refine ⟨_, _, rfl, ld_int (h16.bx.cat 0 _ rfl) (ld_int (h16.bx.cat 1 _ rfl) (state_spec h16.p.t fun w22 f22 => ⟨_, rfl, ?_⟩))⟩
      rw [lap_state I16 hs hn (by omega)]
      exact bc_eq (fun hh => absurd hh (by decide)) (fun _ => hrec w22 ft16 _ now (h16.keep' f22) I16 hn (by omega))
    · refine step_spec h4.p.t ?_
      intro ft25 w25 t25 f25 e25
      exact ⟨_, _, _, _, _, _, _, _, _, _, _, _, _, _, _, _, _, _, _, _, _, _, _, _, rfl, hrec w25 ft25 _ now (h4.next t25 f25 e25) (lap_step I) hn (by omega)⟩
    · refine drawn fun w6 f6 _ => ?_
      have h6 := h4.keep' f6
      have at6 := at4.keep' f6
      refine ld_int (h6.bx.cat 0 _ rfl) (ld_int (h6.bx.cat 1 _ rfl) ⟨⟨by omega, by omega⟩, opt_some ha (ld_int (by rw [Int.toNat_natCast]; exact at6 6 _ rfl) ⟨by decide, told_spec (m := ⟨5, 2, 1, 0, 0, 0, 0, 0, 2, 5, none, 0, 0, 0, 0, 1, 0, IntKind.wrap .u64 (now - Int.tmod x.n 9), 0, 0, none, 0, 0⟩) h6.p.t ?_⟩)⟩)
      intro ft25 w25 t25 f25 e25
      exact ⟨_, rfl, hrec w25 ft25 _ now (h6.next t25 f25 e25) (lap_told I hs hn (by omega) rfl rfl rfl) hn (by omega)⟩
    · refine drawn fun w6 f6 _ => ?_
      have h6 := h4.keep' f6
      have at6 := at4.keep' f6
      refine ld_int (h6.bx.cat 0 _ rfl) (ld_int (h6.bx.cat 1 _ rfl) ⟨⟨by omega, by omega⟩, opt_some ha (ld_int (by rw [Int.toNat_natCast]; exact at6 5 _ rfl) ⟨by decide, told_spec (m := ⟨5, 2, 1, 0, 0, 0, 0, 0, 2, 5, none, 0, 0, 0, 0, IntKind.wrap .u64 (1 + Int.tmod x.seq 3), 0, now, 0, 0, none, 0, 0⟩) h6.p.t ?_⟩)⟩)
      intro ft25 w25 t25 f25 e25
      exact ⟨_, rfl, hrec w25 ft25 _ now (h6.next t25 f25 e25) (lap_told I hs hn (by omega) rfl rfl rfl) hn (by omega)⟩
    · refine ld_int (h4.bx.cat 0 _ rfl) (ld_int (h4.bx.cat 1 _ rfl) (newB fun go w65 bo f65 h65 => ?_))
      have h65' := h4.keep' f65
      have bo : Blk w65 go (⟨2, 5, 3⟩ : Otr).cells 64 := bo
      refine report_spec (o := [⟨2, 5, 3⟩]) (op := some (at0 go 0)) (oc := 1) h65'.p.t (lap_wf I) (by decide) (fun y hy => by simp at hy; subst hy; exact ⟨by decide, by decide⟩) (by simp) (fun j y hj => ?_) ?_
      · cases j with
        | zero => simp at hj; subst hj; exact ⟨_, rfl, by rw [Nat.zero_mul, add_at]; exact bo.cat⟩
        | succ j => simp at hj
      · intro ft25 w25 t25 f25 e25
        exact ⟨rfl, hrec w25 ft25 _ now (h65'.next t25 f25 e25) (lap_report I) hn (by omega)⟩
    · refine ⟨⟨by omega, by omega⟩, opt_some ha (ld_int (by rw [Int.toNat_natCast]; exact at4 6 _ rfl) ⟨by decide, ?_⟩)⟩
      have t1 : Int.tmod x.n 100 = x.n % 100 := Int.tmod_eq_emod_of_nonneg hn0.1
      rw [t1, u64w _ (by omega) (by omega)]
      exact hrec w4 ft S _ h4 I (by omega) (by omega)
theorem stubLapsed_row {H : Type} {cs : Array Value} {d d2 : DataW H} (h : Lies Try.prog W 6 34 cs.toList d) (hs : SizedD Try.prog 34 d) {ip : Option Addr} {n cap : Nat} (h2 : Lies Try.prog W 6 56 [.slice ip n cap] d2) (_ : n * 64 ≤ 140737488351232) :
    CallR Try.prog 6 #[.agg cs, .slice ip n cap] W fun v w' => v = .bool true ∧ Fr [] W w' := by
  obtain ⟨r, rfl, hr0⟩ := raw_open h
  obtain ⟨l, rfl, hst⟩ := steps_of_lies h2
  apply X6.sound
  unfold X6.f
  have cr := conf_rng r
  have sr := span_rng r
  refine newB fun g1 w2 b f2 _ => ?_
  have b : Blk w2 g1 r.cells 34 := b
  refine ld_Raw (s := r) b.cat (config_spec (r := r) fun w26 f26 => ⟨_, _, _, _, _, _, _, _, _, _, _, _, _, _, _, _, _, _, _, _, _, _, rfl, newB fun gc w50 bc f50 h50 => stAllB (vs := (configOf r).cells) bc rfl fun w51 b51 f51 => ?_⟩)
  have F26 := f2.tr f26
  have F51 : Fr [] W w51 := (F26.tr f50).loc f51 (by have := F26.size; omega)
  refine ld_Cfg (s := configOf r) b51.cat (newL (conf_ok hr0 0 (by omega) (by omega)) (drift_half r).1 fun g gt ft w75 p => ⟨_, _, rfl, known_spec fun w79 f79 => ⟨_, rfl, bc_bool (fun h => by cases h) (fun _ => bc_ne (fun h => absurd rfl h) (fun _ => bc_bool (fun h => by cases h) (fun _ => ?_)))⟩⟩)
  unfold X6.j3
  have p79 := p.keep' f79
  obtain ⟨i1, i2⟩ := lap_init (seq := 0) (c := configOf r) (by omega) (by omega) sr.1
  refine newB fun gx wa bx fa ha => stAllB (vs := idcs 2 5) bx rfl fun wb bxb fb => ?_
  have pa := p79.keep' fa
  have nx := p79.fresh ha
  have z := p79.F.size
  have L : LpC w51 wb g gt ft (newS (configOf r) 1 0) gx 2 5 := ⟨pa.off nx (by omega) fb, bxb, nx⟩
  refine ld_int (L.bx.cat 0 _ rfl) (ld_int (L.bx.cat 1 _ rfl) (want_spec L.p.t ?_))
  intro ft7 w7 t7 f7 e7
  have L7 := L.next t7 f7 e7
  refine ⟨_, _, rfl, ld_int (L7.bx.cat 0 _ rfl) (ld_int (L7.bx.cat 1 _ rfl) (told_spec (m := kM) L7.p.t ?_))⟩
  intro ft13 w13 t13 f13 e13
  have L13 := L7.next t13 f13 e13
  rw [i1]
  refine ⟨_, rfl, bc_bool (fun h => by cases h) (fun _ => ld_Cfg (s := configOf r) (b51.keep' L13.p.F).cat (rspan_spec (may_config hr0) (drift_half r).1 fun w38 f38 => ⟨_, rfl, ?_⟩))⟩
  rw [u64w (10 + _) (by omega) (by omega)]
  refine ⟨101, lap_l0 (W := w51) (hst.keep' F51) b51 (by omega) (by omega) sr.1 sr.2 (fun w' f' => ⟨rfl, F51.tr f'⟩) _ 0 w38 ft13 _ _ (by omega) (by omega) (L13.keep' f38) i2 (by omega) (by omega)⟩
end
end Go.Proofs.YtglininpmfgggaaX
