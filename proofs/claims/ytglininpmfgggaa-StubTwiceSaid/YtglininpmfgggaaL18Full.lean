/- StubFull: as many stubs as may be, and no more. -/
import Derived.Test.YtglininpmfgggaaL18Any
namespace Go.Proofs.YtglininpmfgggaaX
open Go.RowKit
set_option linter.unusedVariables false
set_option linter.unusedSimpArgs false
set_option maxRecDepth 100000
theorem keyOf_eq {nd sr : Int} (h0 : 0 ≤ nd) (h1 : nd < 256) (h2 : 0 ≤ sr) (h3 : sr < 72057594037927936) : keyOf nd sr = nd * 72057594037927936 + sr := by
  obtain ⟨n, rfl⟩ : ∃ n : Nat, nd = (n : Int) := ⟨nd.toNat, by omega⟩
  obtain ⟨s, rfl⟩ : ∃ s : Nat, sr = (s : Int) := ⟨sr.toNat, by omega⟩
  unfold keyOf
  rw [u64w (n : Int) (by omega) (by omega)]
  have hN : n * 72057594037927936 < 18446744073709551616 := by omega
  have e1 : iShl .u64 (n : Int) 56 = ((n * 72057594037927936 : Nat) : Int) := by
    unfold iShl
    have e : min (56 : Int).toNat IntKind.u64.bits = 56 := by decide
    rw [e]
    have e2 : (n : Int) * 2 ^ 56 = ((n * 72057594037927936 : Nat) : Int) := by
      rw [show (2 : Int) ^ 56 = 72057594037927936 by decide +kernel]; omega
    rw [e2]
    exact u64w _ (by omega) (by omega)
  rw [e1]
  have a1 : (BitVec.ofInt 64 ((n * 72057594037927936 : Nat) : Int)).toNat = n * 72057594037927936 := by rw [BitVec.toNat_ofInt]; omega
  have a2 : (BitVec.ofInt 64 (s : Int)).toNat = s := by rw [BitVec.toNat_ofInt]; omega
  unfold iOr
  change IntKind.wrap .u64 ((BitVec.ofInt 64 ((n * 72057594037927936 : Nat) : Int) ||| BitVec.ofInt 64 (s : Int)).toNat : Int) = _
  rw [BitVec.toNat_or, a1, a2]
  have e3 : n * 72057594037927936 ||| s = n * 72057594037927936 + s := by
    have hs : s < 2 ^ 56 := by rw [show (2 : Nat) ^ 56 = 72057594037927936 by decide +kernel]; omega
    have := Nat.two_pow_add_eq_or_of_lt hs n
    rw [show (2 : Nat) ^ 56 = 72057594037927936 by decide +kernel, Nat.mul_comm] at this
    exact this.symm
  rw [e3, u64w _ (by omega) (by omega)]
  omega
/-- so many stubs, of node 2, all asking -/
structure FullI (c : Cfg) (s0 : Int) (S : Sn) (i : Nat) : Prop where
  c : S.c = c
  node : S.node = 1
  seq : S.seq = s0 + i
  len : S.l.length = i
  all : ∀ e ∈ S.l, ∃ j : Nat, 1 ≤ j ∧ j ≤ i ∧ e.1 = keyOf 2 j ∧ e.2.state = 1
  one : 1 ≤ i → ∃ s, (keyOf 2 1, s) ∈ S.l ∧ s.state = 1
  srt : Srt ilt (keys S.l)
theorem key2_inj {i j : Nat} (hi : i < 72057594037927936) (hj : j < 72057594037927936) (h : keyOf 2 i = keyOf 2 j) : i = j := by
  rw [keyOf_eq (by omega) (by omega) (by omega) (by omega), keyOf_eq (by omega) (by omega) (by omega) (by omega)] at h
  omega
theorem full_no {c : Cfg} {s0 : Int} {S : Sn} {i k : Nat} (h : FullI c s0 S i) (hi : i < k) (hk : k < 72057594037927936) : get ilt S.l (keyOf 2 k) = none := by
  refine (get_none ilt_lin h.srt).2 fun hm => ?_
  obtain ⟨e, he, h2⟩ := List.mem_map.1 hm
  obtain ⟨j, h3, h4, h5, _⟩ := h.all e he
  have := key2_inj (by omega) hk (h5.symm.trans h2)
  omega
theorem far2 {S : Sn} {k : Nat} (hc : 2 ≤ S.c.nodes) (hn : S.node = 1) (h1 : 1 ≤ k) (h2 : k ≤ 72057594037927935) : farB S 2 k = true := by
  unfold farB
  rw [if_pos (by omega), if_pos hc, if_pos (by omega), if_pos (by omega), decide_eq_true (by omega)]
theorem full_step {c : Cfg} {s0 : Int} {S : Sn} {i : Nat} {now : Int} (h : FullI c s0 S i) (hc : 2 ≤ c.nodes) (hi : (i : Int) < c.stubs) (hs0 : 0 ≤ s0) (hs : s0 + i < 72057594037927935) (hst : c.stubs ≤ 64) :
    (wantS S 2 ((i + 1 : Nat) : Int) 2 now).2 = (1, 0) ∧ FullI c s0 (wantS S 2 ((i + 1 : Nat) : Int) 2 now).1 (i + 1) := by
  have hg := full_no (k := i + 1) h (by omega) (by omega)
  have hcn : 2 ≤ S.c.nodes := by rw [h.c]; exact hc
  have hw : wantS S 2 ((i + 1 : Nat) : Int) 2 now = freshS S 2 ((i + 1 : Nat) : Int) 2 now := by
    unfold wantS
    rw [if_neg (by rw [far2 hcn h.node (by omega) (by omega)]; simp; omega), hg]
    simp only
    rw [if_neg (by rw [h.len, h.c]; omega)]
  have hseq := h.seq
  have hw2 : wantS S 2 ((i + 1 : Nat) : Int) 2 now = (putS { S with seq := S.seq + 1 } ⟨2, ((i + 1 : Nat) : Int), 1, S.seq + 1, 2, now, now, 0, 1⟩, 1, 0) := by
    rw [hw]
    unfold freshS
    rw [if_neg (by omega), u64w (S.seq + 1) (by omega) (by omega)]
  rw [hw2]
  refine ⟨rfl, ?_⟩
  have hno : has ilt S.l (keyOf 2 ((i + 1 : Nat) : Int)) = false := by
    cases hh : has ilt S.l (keyOf 2 ((i + 1 : Nat) : Int)) with
    | false => rfl
    | true => exact absurd ((has_iff ilt_lin h.srt).1 hh) ((get_none ilt_lin h.srt).1 hg)
  have hpf : putF S.c.stubs S.l (keyOf 2 ((i + 1 : Nat) : Int)) ⟨2, ((i + 1 : Nat) : Int), 1, S.seq + 1, 2, now, now, 0, 1⟩ = put ilt S.l (keyOf 2 ((i + 1 : Nat) : Int)) ⟨2, ((i + 1 : Nat) : Int), 1, S.seq + 1, 2, now, now, 0, 1⟩ := by
    unfold putF
    rw [if_pos (.inr (by rw [h.len, h.c]; omega))]
  have hmem := fun e => mem_put ilt_lin h.srt (k := keyOf 2 ((i + 1 : Nat) : Int)) (v := (⟨2, ((i + 1 : Nat) : Int), 1, S.seq + 1, 2, now, now, 0, 1⟩ : Stb)) (e := e)
  refine ⟨h.c, h.node, ?_, ?_, ?_, ?_, ?_⟩
  · show S.seq + 1 = _; omega
  · show (putF S.c.stubs S.l _ _).length = _
    rw [hpf, put_length, if_neg (by rw [hno]; exact Bool.false_ne_true), h.len]
  · intro e he
    have he : e ∈ putF S.c.stubs S.l (keyOf 2 ((i + 1 : Nat) : Int)) ⟨2, ((i + 1 : Nat) : Int), 1, S.seq + 1, 2, now, now, 0, 1⟩ := he
    rw [hpf] at he
    rcases (hmem e).1 he with rfl | ⟨_, he⟩
    · exact ⟨i + 1, by omega, by omega, rfl, rfl⟩
    · obtain ⟨j, h1, h2, h3⟩ := h.all e he
      exact ⟨j, h1, by omega, h3⟩
  · intro _
    show ∃ s, (keyOf 2 1, s) ∈ putF S.c.stubs S.l (keyOf 2 ((i + 1 : Nat) : Int)) ⟨2, ((i + 1 : Nat) : Int), 1, S.seq + 1, 2, now, now, 0, 1⟩ ∧ _
    rw [hpf]
    by_cases h0 : i = 0
    · subst h0
      exact ⟨_, (hmem _).2 (.inl rfl), rfl⟩
    · obtain ⟨s, h1, h2⟩ := h.one (by omega)
      refine ⟨s, (hmem _).2 (.inr ⟨fun hk => ?_, h1⟩), h2⟩
      have := key2_inj (i := 1) (j := i + 1) (by omega) (by omega) hk
      omega
  · exact putF_srt h.srt
theorem full_new (c : Cfg) (seq : Int) : FullI c seq (newS c 1 seq) 0 := ⟨rfl, rfl, by show seq = seq + ((0 : Nat) : Int); omega, rfl, fun e he => (by cases he), fun h => by omega, List.Pairwise.nil⟩
section
variable {w w' W : World} {Q : Value → World → Prop} {g gt : Nat} {ft ft' : List Nat} {S S' : Sn} {c : Cfg}
theorem full_l1 {left : Nat} (hc : 2 ≤ c.nodes) (hl : (left : Int) < c.stubs) (hst : c.stubs ≤ 64) (hQ : ∀ w', Fr [] W w' → Q (.bool true) w') :
    ∀ (f i : Nat) (w : World) (ft : List Nat) (S : Sn), left - i < f → i ≤ left → PL W w g gt ft S → FullI c (72057594037927935 - left) S i → X5.l1 Q f (left : Int) 6 1 0 (some (at0 g 0)) (i : Int) w
  | 0, i, w, ft, S, hf, _, _, _ => by omega
  | f + 1, i, w, ft, S, hf, hi, p, h => by
    rw [X5.l1]
    refine bc_dec (fun h1 => ?_) (fun h1 => ?_)
    · have e1 : IntKind.wrap .u64 (IntKind.wrap .i64 ((i : Int) + 1)) = ((i + 1 : Nat) : Int) := by rw [i64w _ (by omega) (by omega), u64w _ (by omega) (by omega)]; omega
      rw [e1]
      obtain ⟨q1, q2⟩ := full_step (now := 5) h hc (by omega) (by omega) (by omega) hst
      refine want_spec p.t ?_
      rw [q1]
      intro ft' w2 t2 f2 e2
      refine ⟨_, _, rfl, bc_ne (fun h => absurd rfl h) (fun _ => ?_)⟩
      rw [i64w ((i : Int) + 1) (by omega) (by omega), show (i : Int) + 1 = ((i + 1 : Nat) : Int) by omega]
      exact full_l1 hc hl hst hQ f (i + 1) w2 ft' _ (by omega) (by omega) (p.next t2 f2 e2) q2
    · have hi' : i = left := by omega
      subst hi'
      have hw : wantS S 2 999 2 5 = (S, 0, 7) := by
        have hcn : 2 ≤ S.c.nodes := by rw [h.c]; exact hc
        have hg := full_no (k := 999) h (by omega) (by omega)
        unfold wantS
        rw [if_neg (by rw [show (999 : Int) = ((999 : Nat) : Int) from rfl, far2 hcn h.node (by omega) (by omega)]; simp; omega)]
        rw [show keyOf 2 999 = keyOf 2 ((999 : Nat) : Int) from rfl, hg]
        simp only
        rw [if_neg (by rw [h.len, h.c]; omega)]
        unfold freshS
        rw [if_pos (by have := h.seq; omega)]
      refine want_spec p.t ?_
      rw [hw]
      intro ft' w6 t6 f6 e6
      have p6 := p.next t6 f6 e6
      refine ⟨_, _, rfl, bc_eqt' rfl (bc_eqt' rfl (bc_eqt' rfl (bc_eqt' rfl ?_)))⟩
      refine seq_spec t6 ⟨_, rfl, bc_eqt' (by have := h.seq; show S.seq = _; omega) ?_⟩
      refine all_spec t6 fun p' c' w13 o13 f13 n13 => ⟨_, _, _, rfl, ?_⟩
      have := hQ w13 (p6.F.tr f13)
      rw [h.len]
      simpa using this
theorem full_l0 {left : Int} {gc : Nat} (hc : 2 ≤ c.nodes) (hcs : 1 ≤ c.stubs) (hst : c.stubs ≤ 64) (hok : ∀ s : Int, 0 ≤ s → s ≤ 72057594037927935 → newOk c 1 s) (hd : 0 ≤ c.drift) (bc : Blk W gc c.cells 24) (hQ : ∀ w', Fr [] W w' → Q (.bool true) w') :
    ∀ (f i : Nat) (w : World) (ft : List Nat) (S : Sn), c.stubs.toNat - i < f → i ≤ c.stubs.toNat → PL W w g gt ft S → FullI c 0 S i → X5.l0 Q f left (at0 gc 0) (some (at0 g 0)) (i : Int) w
  | 0, i, w, ft, S, hf, _, _, _ => by omega
  | f + 1, i, w, ft, S, hf, hi, p, h => by
    rw [X5.l0]
    have bw := bc.keep' p.F
    refine ld_int (bw.cat 5 _ rfl) (bc_dec (fun h1 => ?_) (fun h1 => ?_))
    · have e1 : IntKind.wrap .u64 (IntKind.wrap .i64 ((i : Int) + 1)) = ((i + 1 : Nat) : Int) := by rw [i64w _ (by omega) (by omega), u64w _ (by omega) (by omega)]; omega
      rw [e1]
      obtain ⟨q1, q2⟩ := full_step (now := 5) h hc h1 (by omega) (by omega) hst
      refine want_spec p.t ?_
      rw [q1]
      intro ft' w2 t2 f2 e2
      refine ⟨_, _, rfl, bc_ne (fun h => absurd rfl h) (fun _ => bc_ne (fun h => absurd rfl h) (fun _ => ?_))⟩
      rw [i64w ((i : Int) + 1) (by omega) (by omega), show (i : Int) + 1 = ((i + 1 : Nat) : Int) by omega]
      exact full_l0 hc hcs hst hok hd bc hQ f (i + 1) w2 ft' _ (by omega) (by omega) (p.next t2 f2 e2) q2
    · have hcn : 2 ≤ S.c.nodes := by rw [h.c]; exact hc
      have hw : wantS S 2 1000 2 5 = (S, 0, 6) := by
        have hg := full_no (k := 1000) h (by omega) (by omega)
        unfold wantS
        rw [if_neg (by rw [show (1000 : Int) = ((1000 : Nat) : Int) from rfl, far2 hcn h.node (by omega) (by omega)]; simp; omega)]
        rw [show keyOf 2 1000 = keyOf 2 ((1000 : Nat) : Int) from rfl, hg]
        simp only
        rw [if_pos (by rw [h.len, h.c]; omega)]
      have hw2 : wantS S 2 1 2 9 = (S, 1, 0) := by
        obtain ⟨s, hm, hs1⟩ := h.one (by omega)
        unfold wantS
        rw [if_neg (by rw [show (1 : Int) = ((1 : Nat) : Int) from rfl, far2 hcn h.node (by omega) (by omega)]; simp; omega)]
        rw [(get_iff ilt_lin h.srt).2 hm]
        simp only
        have hl : lapsedB S s 9 = false := by unfold lapsedB; rw [if_neg (by omega)]
        rw [if_pos (by omega), hl, hs1]
        rfl
      refine want_spec p.t ?_
      rw [hw]
      intro ft' w2 t2 f2 e2
      have p2 := p.next t2 f2 e2
      refine ⟨_, _, rfl, want_spec p2.t ?_⟩
      rw [hw2]
      intro ft3 w3 t3 f3 e3
      have p3 := p2.next t3 f3 e3
      have b3 := bc.keep' p3.F
      refine ⟨_, _, rfl, ld_int (b3.cat 5 _ rfl) (pick_spec (by omega) (by omega) ⟨_, rfl, ?_⟩)⟩
      have hm := md (n := left) (m := c.stubs) (by omega)
      generalize left % c.stubs = lf at hm
      obtain ⟨k, rfl⟩ : ∃ k : Nat, lf = (k : Int) := ⟨lf.toNat, by omega⟩
      have e4 : IntKind.wrap .u64 (72057594037927935 - IntKind.wrap .u64 (k : Int)) = 72057594037927935 - k := by rw [u64w (k : Int) (by omega) (by omega), u64w _ (by omega) (by omega)]
      rw [e4]
      refine ld_Cfg (s := c) b3.cat (newL (hok _ (by omega) (by omega)) hd fun g' gt' ft4 w41 p4 => ⟨_, _, rfl, bc_ne (fun h => absurd rfl h) (fun _ => bc_bool (fun h => by cases h) (fun _ => ?_))⟩)
      refine ⟨k + 1, full_l1 (W := w3) hc hm.2 hst (fun w' f' => hQ w' (p3.F.tr f')) _ 0 w41 ft4 _ (by omega) (by omega) p4 (full_new c _)⟩
theorem raw_open {H : Type} {cs : Array Value} {d : DataW H} (h : Lies Try.prog W 6 34 cs.toList d) : ∃ r : Raw, cs = r.cells.toArray ∧ RawW r := by
  obtain ⟨r, hr, w1, w2⟩ := Raw_of_lies (n := 4) h
  exact ⟨r, by apply Array.ext'; exact hr, ⟨(u64b w1).1, (u64b w2).1⟩⟩
theorem conf_rng (r : Raw) : 2 ≤ (configOf r).nodes ∧ (configOf r).nodes ≤ 4 ∧ 2 ≤ (configOf r).stubs ∧ (configOf r).stubs ≤ 11 := by
  have a0 := md (n := r.nodes) (m := 3) (by omega)
  have a1 := md (n := r.stubs) (m := 10) (by omega)
  show 2 ≤ 2 + r.nodes % 3 ∧ 2 + r.nodes % 3 ≤ 4 ∧ 2 ≤ 2 + r.stubs % 10 ∧ 2 + r.stubs % 10 ≤ 11
  omega
theorem conf_ok {r : Raw} (hr : RawW r) (s : Int) (h0 : 0 ≤ s) (h1 : s ≤ 72057594037927935) : newOk (configOf r) 1 s := ⟨may_config hr, by omega, by have := conf_rng r; omega, by omega⟩
theorem stubFull_row {H : Type} {cs : Array Value} {d : DataW H} (h : Lies Try.prog W 6 34 cs.toList d) (hs : SizedD Try.prog 34 d) (left : Int) (_ : (Lit.int .i64 left).wf = true) :
    CallR Try.prog 5 #[.agg cs, .int .i64 left] W fun v w' => v = .bool true ∧ Fr [] W w' := by
  obtain ⟨r, rfl, hr⟩ := raw_open h
  apply X5.sound
  unfold X5.f
  have cr := conf_rng r
  refine newB fun g1 w2 b f2 _ => ?_
  have b : Blk w2 g1 r.cells 34 := b
  refine ld_Raw (s := r) b.cat (config_spec (r := r) fun w26 f26 => ⟨_, _, _, _, _, _, _, _, _, _, _, _, _, _, _, _, _, _, _, _, _, _, rfl, newB fun gc w50 bc f50 h50 => stAllB (vs := (configOf r).cells) bc rfl fun w51 b51 f51 => ?_⟩)
  have F26 := f2.tr f26
  have F51 : Fr [] W w51 := (F26.tr f50).loc f51 (by have := F26.size; omega)
  refine ld_Cfg (s := configOf r) b51.cat (newL (conf_ok hr 0 (by omega) (by omega)) (drift_half r).1 fun g gt ft w75 p => ⟨_, _, rfl, known_spec fun w79 f79 => ⟨_, rfl, bc_bool (fun h => by cases h) (fun _ => bc_ne (fun h => absurd rfl h) (fun _ => bc_bool (fun h => by cases h) (fun _ => ?_)))⟩⟩)
  refine ⟨(configOf r).stubs.toNat + 1, full_l0 (W := w51) (by omega) (by omega) (by omega) (conf_ok hr) (drift_half r).1 b51 (fun w' f' => ⟨rfl, F51.tr f'⟩) _ 0 w79 ft _ (by omega) (by omega) (p.keep' f79) (full_new _ _)⟩
end
end Go.Proofs.YtglininpmfgggaaX
