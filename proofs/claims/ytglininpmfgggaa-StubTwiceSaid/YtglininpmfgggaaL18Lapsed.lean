/- StubLapsed. -/
import Derived.Test.YtglininpmfgggaaL18KnownR
import Derived.Test.YtglininpmfgggaaL18Turn
namespace Go.Proofs.YtglininpmfgggaaX
open Go.RowKit
set_option linter.unusedVariables false
set_option linter.unusedSimpArgs false
set_option maxRecDepth 100000
/-- the steps handed in, as they lie -/
structure StepsAt (W : World) (a : Option Addr) (l : List Stp) : Prop where
  at_ : ∀ i x, l[i]? = some x → ∃ p, a = some p ∧ At W (p.add (i * 8)) x.cells
  wf : ∀ x ∈ l, (Lit.int .u64 x.sr).wf = true ∧ (Lit.int .u64 x.seq).wf = true ∧ (Lit.int .u64 x.n).wf = true
theorem StepsAt.keep' {W w : World} {a : Option Addr} {l : List Stp} (h : StepsAt W a l) (f : Fr [] W w) : StepsAt w a l := ⟨fun i x hx => by
  obtain ⟨p, hp, ha⟩ := h.at_ i x hx
  exact ⟨p, hp, ha.keep' f⟩, h.wf⟩
theorem steps_of_lies {H : Type} {W : World} {a : Option Addr} {len cap : Nat} {d : DataW H} (h : Lies Try.prog W 6 56 [.slice a len cap] d) : ∃ l : List Stp, l.length = len ∧ StepsAt W a l := by
  rcases lies_slice Try.underlying56 h with ⟨h1, h2⟩ | ⟨p, n, c, elems, rest, h1, h2, hl, hm, hlen, hel⟩
  · simp only [List.cons.injEq, Value.slice.injEq, and_true] at h1
    obtain ⟨rfl, rfl, rfl⟩ := h1
    exact ⟨[], rfl, ⟨fun i x hx => by simp at hx, fun x hx => by cases hx⟩⟩
  · simp only [List.cons.injEq, Value.slice.injEq, and_true] at h1
    obtain ⟨rfl, rfl, rfl⟩ := h1
    have hc : Try.prog.cellsOf 61 = 8 := by kernel_rfl
    obtain ⟨l, hll, hx⟩ := list_of (R := fun i (y : DataW H) (x : Stp) => At W (p.add (i * 8)) x.cells ∧ (Lit.int .u64 x.sr).wf = true ∧ (Lit.int .u64 x.seq).wf = true ∧ (Lit.int .u64 x.n).wf = true) elems 0 (fun i y hy => by
      obtain ⟨cs', hcl, hcell, hly⟩ := hel i y hy
      obtain ⟨x, hxc, w1, w2, w3⟩ := Stp_of_lies (n := 2) hly
      refine ⟨x, fun j u hj => ?_, w1, w2, w3⟩
      rw [Nat.zero_add, add_add]
      have := hcell j u (by rw [hxc]; exact hj)
      rw [hc] at this
      exact this)
    have get : ∀ i x, l[i]? = some x → At W (p.add (i * 8)) x.cells ∧ (Lit.int .u64 x.sr).wf = true ∧ (Lit.int .u64 x.seq).wf = true ∧ (Lit.int .u64 x.n).wf = true := fun i x hi => by
      have hlt : i < elems.length := by have := (List.getElem?_eq_some_iff.1 hi).1; omega
      have := hx i _ x (List.getElem?_eq_getElem hlt) hi
      rwa [Nat.zero_add] at this
    refine ⟨l, by omega, fun i x hi => ⟨p, rfl, (get i x hi).1⟩, fun x hm => ?_⟩
    obtain ⟨i, hi⟩ := List.getElem?_of_mem hm
    exact (get i x hi).2
theorem span_rng (r : Raw) : 1 ≤ holdN (configOf r).lease (configOf r).unit (configOf r).drift ∧ holdN (configOf r).lease (configOf r).unit (configOf r).drift ≤ 126431 := by
  have dh := drift_half r
  have ls := lease_rng r
  generalize (configOf r).lease = L at *
  generalize (configOf r).unit = U at *
  generalize (configOf r).drift = D at *
  have p1 := mul_rng (a := L) (b := U - D) (A := 5497) (B := 23) (by omega) (by omega) (by omega) (by omega)
  have p2 := Int.mul_le_mul_of_nonneg_right (a := 160) (b := L) (c := U - D) (by omega) (by omega)
  unfold holdN
  rw [u64w (U - D) (by omega) (by omega), u64w (U + D) (by omega) (by omega), u64w (L * _) (by omega) (by omega), Int.tdiv_eq_ediv_of_nonneg (by omega)]
  have h1 : 1 ≤ L * (U - D) / (U + D) := Int.le_ediv_of_mul_le (by omega) (by omega)
  have h2 : L * (U - D) / (U + D) ≤ L * (U - D) := Int.ediv_le_self _ (by omega)
  rw [u64w _ (by omega) (by omega)]
  omega
structure LapI (c : Cfg) (sp : Int) (S : Sn) : Prop where
  c : S.c = c
  node : S.node = 1
  span : S.span = sp
  l : ∃ s : Stb, S.l = [(keyOf 2 5, s)] ∧ s.nd = 2 ∧ s.sr = 5 ∧ ((s.state = 2 ∧ s.at_ = 10) ∨ s.state = 4)
section
variable {c : Cfg} {sp now : Int} {S : Sn} {s : Stb}
theorem srt1 {k : Int} {s : Stb} : Srt ilt (keys [(k, s)]) := by simp [keys, Srt]
theorem get1 {k : Int} {s : Stb} : get ilt [(k, s)] k = some s := get_at (p := 0) (e := (k, s)) srt1 rfl
theorem putF1 {m k : Int} {s s' : Stb} : putF m [(k, s)] k s' = [(k, s')] := putF_at (p := 0) srt1 rfl
theorem lap_live (hs : 1 ≤ sp) (hn : 10 + sp ≤ now) (hm : now ≤ 1000000) : liveB 10 sp now = false := by
  unfold liveB
  rw [if_pos (by omega), u64w _ (by omega) (by omega), decide_eq_false (by omega)]
theorem lap_state (h : LapI c sp S) (hs : 1 ≤ sp) (hn : 10 + sp ≤ now) (hm : now ≤ 1000000) : stateS S 2 5 now = 4 := by
  obtain ⟨s, hl, h1, h2, h3⟩ := h.l
  unfold stateS getS
  rw [hl, get1]
  simp only
  rw [if_pos ⟨h1, h2⟩]
  simp only
  unfold lapsedB
  rcases h3 with ⟨h3, h4⟩ | h3
  · rw [if_pos h3, h4, h.span, lap_live hs hn hm]; rfl
  · rw [if_neg (show ¬ s.state = 2 by omega)]; exact h3
theorem lap_put (h : LapI c sp S) (h1 : s.nd = 2) (h2 : s.sr = 5) (h3 : (s.state = 2 ∧ s.at_ = 10) ∨ s.state = 4) : LapI c sp (putS S s) := by
  obtain ⟨s0, hl, _⟩ := h.l
  refine ⟨h.c, h.node, h.span, s, ?_, h1, h2, h3⟩
  show putF S.c.stubs S.l (keyOf s.nd s.sr) s = _
  rw [h1, h2, hl, putF1]
theorem lap_last (h : LapI c sp S) (k : Int) : LapI c sp { S with last := k } := ⟨h.c, h.node, h.span, h.l⟩
theorem lap_want {v : Int} (h : LapI c sp S) : LapI c sp (wantS S 2 5 v now).1 ∨ True := .inr trivial
theorem lap_want' {v : Int} (h : LapI c sp S) (hs : 1 ≤ sp) (hn : 10 + sp ≤ now) (hm : now ≤ 1000000) : LapI c sp (wantS S 2 5 v now).1 := by
  obtain ⟨s, hl, h1, h2, h3⟩ := h.l
  unfold wantS
  split
  · exact h
  · rw [hl, get1]
    simp only
    rw [if_pos (by omega)]
    split
    · exact lap_put h h1 h2 (.inr rfl)
    · exact h
theorem lap_step (h : LapI c sp S) : LapI c sp (stepS S now).1 := by
  obtain ⟨s, hl, h1, h2, h3⟩ := h.l
  unfold stepS
  cases ha : after ilt S.l S.last with
  | none => exact h
  | some k =>
    simp only
    obtain ⟨p, hp, hk⟩ := after_some (l := S.l) (by rw [hl]; simp) S.last
    rw [ha, hl] at hk
    have hp0 : p = 0 := by rw [hl] at hp; simpa using hp
    subst hp0
    have : k = keyOf 2 5 := by simpa [keys] using hk
    subst this
    have hg : get ilt S.l (keyOf 2 5) = some s := by rw [hl, get1]
    rw [hg]
    simp only [Option.getD_some]
    refine lap_put (lap_last h _) ?_ ?_ ?_
    · unfold turnS; split; · exact h1
      split; · exact h1
      split; · exact h1
      split <;> exact h1
    · unfold turnS; split; · exact h2
      split; · exact h2
      split; · exact h2
      split <;> exact h2
    · unfold turnS
      rw [if_neg (by omega)]
      split
      · exact .inr rfl
      · split
        · rename_i hh; rcases h3 with h3 | h3
          · exact .inl h3
          · omega
        · rw [if_neg (by omega)]; exact h3
theorem lap_told {m : Msg} (h : LapI c sp S) (hs : 1 ≤ sp) (hn : 10 + sp ≤ now) (hm : now ≤ 1000000) (e1 : m.tn = 2) (e2 : m.ts = 5) (e3 : m.code = 0) : LapI c sp (toldS S m now).1 := by
  obtain ⟨s, hl, h1, h2, h3⟩ := h.l
  unfold toldS getS
  rw [e1, e2, hl, get1]
  simp only
  rw [if_pos ⟨h1, h2⟩]
  simp only
  split
  · exact h
  · rename_i hh
    have hs2 : s.state = 2 ∧ s.at_ = 10 := by
      rcases h3 with h3 | h3
      · exact h3
      · exact absurd (.inr (.inl ⟨by omega, by omega⟩)) hh
    have hlp : lapsedB S s now = true := by
      unfold lapsedB; rw [if_pos hs2.1, hs2.2, h.span, lap_live hs hn hm]; rfl
    have ht : tellS S m s now = s := by
      unfold tellS
      rw [if_neg (by simp [e3]; omega), if_pos hlp]
    rw [ht]
    exact lap_put h h1 h2 h3
theorem lap_report {r : Int} (h : LapI c sp S) : LapI c sp (reportS S [⟨2, 5, r⟩] now) := by
  obtain ⟨s, hl, h1, h2, h3⟩ := h.l
  unfold reportS
  rw [hl]
  show LapI c sp (repE S [⟨2, 5, r⟩] now (keyOf 2 5))
  unfold repE repS
  rw [hl, get1]
  simp only [Option.getD_some]
  have hf : findO [⟨2, 5, r⟩] s.nd s.sr = some r := by unfold findO; simp [h1, h2]
  rw [hf]
  exact lap_put h h1 h2 h3
theorem lap_wf (h : LapI c sp S) : IdWs S := fun e he => by
  obtain ⟨s, hl, h1, h2, _⟩ := h.l
  rw [hl] at he
  simp at he
  subst he
  exact ⟨by rw [h1]; decide, by rw [h2]; decide⟩
theorem lap_init {seq : Int} (hc : 2 ≤ c.nodes) (hst : 1 ≤ c.stubs) (hsp : 1 ≤ holdN c.lease c.unit c.drift) :
    (toldS (wantS (newS c 1 0) 2 5 2 10).1 kM 10).2 = true ∧ LapI c (holdN c.lease c.unit c.drift) (toldS (wantS (newS c 1 0) 2 5 2 10).1 kM 10).1 := by
  have hw : wantS (newS c 1 0) 2 5 2 10 = (⟨c, 1, 1, holdN c.lease c.unit c.drift, 0, [(keyOf 2 5, ⟨2, 5, 1, 1, 2, 10, 10, 0, 1⟩)]⟩, 1, 0) := by
    unfold wantS
    have hf : farB (newS c 1 0) 2 5 = true := by
      unfold farB
      rw [if_pos (by decide), if_pos (show (2 : Int) ≤ (newS c 1 0).c.nodes from hc), if_pos (show (2 : Int) ≠ (newS c 1 0).node from (by decide : (2 : Int) ≠ 1)), if_pos (by decide)]; decide
    rw [if_neg (by rw [hf]; show ¬ (true = false ∨ (2 : Int) < 1 ∨ 2 > c.nodes); simp; omega)]
    have hg : get ilt (newS c 1 0).l (keyOf 2 5) = none := rfl
    rw [hg]
    simp only
    rw [if_neg (show ¬ (((newS c 1 0).l.length : Int) ≥ (newS c 1 0).c.stubs) from (by simp; omega : ¬ (((([] : List (Int × Stb)).length : Nat) : Int) ≥ c.stubs)))]
    unfold freshS
    rw [if_neg (show ¬ (newS c 1 0).seq = 72057594037927935 from (by decide : ¬ (0 : Int) = 72057594037927935))]
    unfold putS
    have hp : putF c.stubs [] (keyOf 2 5) ⟨2, 5, 1, 1, 2, 10, 10, 0, 1⟩ = [(keyOf 2 5, ⟨2, 5, 1, 1, 2, 10, 10, 0, 1⟩)] := by
      unfold putF
      rw [if_pos (.inr (by simp; omega))]
      rfl
    show (({ c := c, node := 1, seq := IntKind.wrap .u64 (0 + 1), span := holdN c.lease c.unit c.drift, last := 0, l := putF c.stubs [] (keyOf 2 5) ⟨2, 5, 1, IntKind.wrap .u64 (0 + 1), 2, 10, 10, 0, 1⟩ } : Sn), (1 : Int), (0 : Int)) = _
    rw [show IntKind.wrap .u64 ((0 : Int) + 1) = 1 by decide, hp]
  rw [hw]
  simp only
  have ht : toldS ⟨c, 1, 1, holdN c.lease c.unit c.drift, 0, [(keyOf 2 5, ⟨2, 5, 1, 1, 2, 10, 10, 0, 1⟩)]⟩ kM 10 = (⟨c, 1, 1, holdN c.lease c.unit c.drift, 0, [(keyOf 2 5, ⟨2, 5, 2, 1, 2, 10, 10, 0, 1⟩)]⟩, true) := by
    have hgs : getS ⟨c, 1, 1, holdN c.lease c.unit c.drift, 0, [(keyOf 2 5, ⟨2, 5, 1, 1, 2, 10, 10, 0, 1⟩)]⟩ kM.tn kM.ts = some ⟨2, 5, 1, 1, 2, 10, 10, 0, 1⟩ := by
      unfold getS
      show (match get ilt [(keyOf 2 5, (⟨2, 5, 1, 1, 2, 10, 10, 0, 1⟩ : Stb))] (keyOf 2 5) with | some (s : Stb) => (if s.nd = 2 ∧ s.sr = 5 then some s else none : Option Stb) | none => none) = _
      rw [get1]
      simp
    unfold toldS
    rw [hgs]
    simp only
    have hl : liveB 10 (holdN c.lease c.unit c.drift) 10 = true := by
      unfold liveB
      rw [if_pos (by omega), Int.sub_self, show IntKind.wrap .u64 0 = 0 by decide, decide_eq_true (by omega)]
    have hh : heardB ⟨c, 1, 1, holdN c.lease c.unit c.drift, 0, [(keyOf 2 5, ⟨2, 5, 1, 1, 2, 10, 10, 0, 1⟩)]⟩ kM 5 ⟨2, 5, 1, 1, 2, 10, 10, 0, 1⟩ = true := by
      unfold heardB; rfl
    rw [if_neg (by rw [hh]; simp)]
    have htl : tellS ⟨c, 1, 1, holdN c.lease c.unit c.drift, 0, [(keyOf 2 5, ⟨2, 5, 1, 1, 2, 10, 10, 0, 1⟩)]⟩ kM ⟨2, 5, 1, 1, 2, 10, 10, 0, 1⟩ 10 = ⟨2, 5, 2, 1, 2, 10, 10, 0, 1⟩ := by
      unfold tellS
      rw [if_neg (by simp [hl]), if_neg (by unfold lapsedB; simp), if_pos rfl]
    rw [htl]
    have : putS ⟨c, 1, 1, holdN c.lease c.unit c.drift, 0, [(keyOf 2 5, ⟨2, 5, 1, 1, 2, 10, 10, 0, 1⟩)]⟩ ⟨2, 5, 2, 1, 2, 10, 10, 0, 1⟩ = ⟨c, 1, 1, holdN c.lease c.unit c.drift, 0, [(keyOf 2 5, ⟨2, 5, 2, 1, 2, 10, 10, 0, 1⟩)]⟩ := by
      unfold putS
      simp only
      rw [putF1]
    rw [this]
    simp
  rw [ht]
  exact ⟨rfl, rfl, rfl, rfl, _, rfl, rfl, rfl, .inl ⟨rfl, rfl⟩⟩
end
end Go.Proofs.YtglininpmfgggaaX
namespace Go.Proofs.YtglininpmfgggaaX
open Go.RowKit
set_option linter.unusedVariables false
set_option linter.unusedSimpArgs false
set_option maxRecDepth 100000
section
variable {w w' W : World} {Q : Value → World → Prop} {g gt gc gx : Nat} {ft ft' : List Nat} {S S' : Sn} {c : Cfg} {sp now : Int}
/-- the table, and the ID in a block of its own -/
structure LpC (W w : World) (g gt : Nat) (ft : List Nat) (S : Sn) (gx : Nat) (nd sr : Int) : Prop where
  p : PL W w g gt ft S
  bx : Blk w gx (idcs nd sr) 40
  nx : gx ∉ g :: ft
theorem LpC.keep' {nd sr : Int} (h : LpC W w g gt ft S gx nd sr) (f : Fr [] w w') : LpC W w' g gt ft S gx nd sr := ⟨h.p.keep' f, h.bx.keep' f, h.nx⟩
theorem out_next {w : World} {g : Nat} {ft ft' : List Nat} {x : Nat} (h1 : x ∉ g :: ft) (h2 : x < w.heap.size) (e : ∀ x ∈ ft', x ∈ ft ∨ w.heap.size ≤ x) : x ∉ g :: ft' := fun hm => by
  rcases List.mem_cons.1 hm with rfl | hm
  · exact h1 (by simp)
  · rcases e x hm with h' | h'
    · exact h1 (by simp [h'])
    · omega
theorem LpC.next {nd sr : Int} (h : LpC W w g gt ft S gx nd sr) (t' : PTa w' g gt ft' S') (f : Fr (g :: ft) w w') (e : ∀ x ∈ ft', x ∈ ft ∨ w.heap.size ≤ x) : LpC W w' g gt ft' S' gx nd sr :=
  ⟨h.p.next t' f e, h.bx.keep f h.nx, out_next h.nx h.bx.lt e⟩
theorem lap_l0 {ip : Option Addr} {cap : Nat} {l : List Stp} (hS : StepsAt W ip l) (bc : Blk W gc c.cells 24) (hc : 2 ≤ c.nodes) (hc4 : c.nodes ≤ 4) (hs : 1 ≤ sp) (hs2 : sp ≤ 126431) (hQ : ∀ w', Fr [] W w' → Q (.bool true) w') :
    ∀ (f i : Nat) (w : World) (ft : List Nat) (S : Sn) (now : Int), 100 - i < f → i ≤ 100 → LpC W w g gt ft S gx 2 5 → LapI c sp S → 10 + sp ≤ now → now ≤ 10 + sp + 100 * i → X6.l0 Q f ip l.length cap (at0 gc 0) (some (at0 g 0)) (at0 gx 0) now (i : Int) w
  | 0, i, w, ft, S, now, hf, _, _, _, _, _ => by omega
  | f + 1, i, w, ft, S, now, hf, hi, h, I, hn, hm => by
    rw [X6.l0]
    have fin : ldI .i64 w ((at0 gx 0).add 0) fun x1 => ldI .u64 w ((at0 gx 0).add 1) fun x2 => CallR Try.prog 23 #[.pointer (some (at0 g 0)), .agg #[.int .i64 x1, .int .u64 x2], .int .u64 now] w fun v3 w4 => ∃ (y5 : Int), v3 = .int .i64 y5 ∧ Q (.bool (y5 != (2 : Int))) w4 := by
      refine ld_int (h.bx.cat 0 _ rfl) (ld_int (h.bx.cat 1 _ rfl) (state_spec h.p.t fun w4 f4 => ⟨_, rfl, ?_⟩))
      rw [lap_state I hs hn (by omega)]
      exact hQ w4 (h.p.F.tr f4)
    refine bc_dec (fun h1 => bc_dec (fun h2 => ?_) (fun h2 => fin)) (fun h1 => fin)
    have hlt : i < l.length := by omega
    have hg := List.getElem?_eq_getElem hlt
    generalize l[i] = x at hg
    obtain ⟨a, ha, hat⟩ := hS.at_ i x hg
    have hwf := hS.wf x (List.mem_of_getElem? hg)
    have hn0 := u64b hwf.2.2
    have hq0 := u64b hwf.2.1
    have ei : IntKind.wrap .i64 ((i : Int) + 1) = ((i + 1 : Nat) : Int) := by rw [i64w ((i : Int) + 1) (by omega) (by omega)]; omega
    have hrec : ∀ w' ft' S' now', LpC W w' g gt ft' S' gx 2 5 → LapI c sp S' → 10 + sp ≤ now' → now' ≤ 10 + sp + 100 * ((i + 1 : Nat) : Int) → X6.l0 Q f ip l.length cap (at0 gc 0) (some (at0 g 0)) (at0 gx 0) now' (IntKind.wrap .i64 ((i : Int) + 1)) w' := fun w' ft' S' now' h' I' b1 b2 => by
      rw [ei]
      exact lap_l0 hS bc hc hc4 hs hs2 hQ f (i + 1) w' ft' S' now' (by omega) (by omega) h' I' b1 b2
    unfold X6.j2
    refine ld_int (h.bx.cat 0 _ rfl) (ld_int (h.bx.cat 1 _ rfl) (state_spec h.p.t fun w4 f4 => ⟨_, rfl, ?_⟩))
    rw [lap_state I hs hn (by omega)]
    have h4 := h.keep' f4
    refine bc_eq (fun hh => absurd hh (by decide)) (fun _ => bc_ne (fun hh => absurd rfl hh) (fun _ => ?_))
    unfold X6.j1
    have at4 := hat.keep' h4.p.F
    refine ⟨⟨by omega, by omega⟩, opt_some ha (ld_int (by rw [Int.toNat_natCast]; exact at4 0 _ rfl) (pick_spec (by decide) (by decide) ⟨_, rfl, bc_eq (fun e0 => ?_) (fun e0 => bc_eq (fun e1 => ?_) (fun e1 => bc_eq (fun e2 => ?_) (fun e2 => bc_eq (fun e3 => ?_) (fun e3 => bc_eq (fun e4 => ?_) (fun e4 => ?_)))))⟩))⟩
    · refine drawn fun w6 f6 _ => ?_
      have h6 := h4.keep' f6
      have at6 := at4.keep' f6
      have bc6 := bc.keep' h6.p.F
      refine ld_int (h6.bx.cat 0 _ rfl) (ld_int (h6.bx.cat 1 _ rfl) ⟨⟨by omega, by omega⟩, opt_some ha (ld_int (by rw [Int.toNat_natCast]; exact at6 1 _ rfl) (ld_int (bc6.cat 0 _ rfl) (pick_spec (by omega) (by omega) ⟨_, rfl, ⟨h6.bx.cat, h6.bx.cat⟩, want_spec h6.p.t ?_⟩)))⟩)
      intro ft16 w16 t16 f16 e16
      have h16 := h6.next t16 f16 e16
      have I16 := lap_want' (now := now) (v := IntKind.wrap .i64 (1 + x.a % c.nodes)) I hs hn (by omega)
      refine ⟨_, _, rfl, ld_int (h16.bx.cat 0 _ rfl) (ld_int (h16.bx.cat 1 _ rfl) (state_spec h16.p.t fun w22 f22 => ⟨_, rfl, ?_⟩))⟩
      rw [lap_state I16 hs hn (by omega)]
      exact bc_eq (fun hh => absurd hh (by decide)) (fun _ => hrec w22 ft16 _ now (h16.keep' f22) I16 hn (by omega))
    · refine step_spec h4.p.t ?_
      intro ft25 w25 t25 f25 e25
      exact ⟨_, _, _, _, _, _, _, _, _, _, _, _, _, _, _, _, _, _, _, _, _, _, _, _, rfl, hrec w25 ft25 _ now (h4.next t25 f25 e25) (lap_step I) hn (by omega)⟩
    · refine drawn fun w6 f6 _ => ?_
      have h6 := h4.keep' f6
      have at6 := at4.keep' f6
      refine ld_int (h6.bx.cat 0 _ rfl) (ld_int (h6.bx.cat 1 _ rfl) ⟨⟨by omega, by omega⟩, opt_some ha (ld_int (by rw [Int.toNat_natCast]; exact at6 6 _ rfl) ⟨by decide, told_spec (m := ⟨5, 2, 1, 0, 0, 0, 0, 0, 2, 5, none, 0, 0, 0, 0, 1, 0, IntKind.wrap .u64 (now - Int.tmod x.n 9), 0, 0, none, 0, 0⟩) h6.p.t ?_⟩)⟩)
      intro ft25 w25 t25 f25 e25
      exact ⟨_, rfl, hrec w25 ft25 _ now (h6.next t25 f25 e25) (lap_told I hs hn (by omega) rfl rfl rfl) hn (by omega)⟩
    · refine drawn fun w6 f6 _ => ?_
      have h6 := h4.keep' f6
      have at6 := at4.keep' f6
      refine ld_int (h6.bx.cat 0 _ rfl) (ld_int (h6.bx.cat 1 _ rfl) ⟨⟨by omega, by omega⟩, opt_some ha (ld_int (by rw [Int.toNat_natCast]; exact at6 5 _ rfl) ⟨by decide, told_spec (m := ⟨5, 2, 1, 0, 0, 0, 0, 0, 2, 5, none, 0, 0, 0, 0, IntKind.wrap .u64 (1 + Int.tmod x.seq 3), 0, now, 0, 0, none, 0, 0⟩) h6.p.t ?_⟩)⟩)
      intro ft25 w25 t25 f25 e25
      exact ⟨_, rfl, hrec w25 ft25 _ now (h6.next t25 f25 e25) (lap_told I hs hn (by omega) rfl rfl rfl) hn (by omega)⟩
    · refine ld_int (h4.bx.cat 0 _ rfl) (ld_int (h4.bx.cat 1 _ rfl) (newB fun go w65 bo f65 h65 => ?_))
      have h65' := h4.keep' f65
      have bo : Blk w65 go (⟨2, 5, 3⟩ : Otr).cells 64 := bo
      refine report_spec (o := [⟨2, 5, 3⟩]) (op := some (at0 go 0)) (oc := 1) h65'.p.t (lap_wf I) (by decide) (fun y hy => by simp at hy; subst hy; exact ⟨by decide, by decide⟩) (by simp) (fun j y hj => ?_) ?_
      · cases j with
        | zero => simp at hj; subst hj; exact ⟨_, rfl, by rw [Nat.zero_mul, add_at]; exact bo.cat⟩
        | succ j => simp at hj
      · intro ft25 w25 t25 f25 e25
        exact ⟨rfl, hrec w25 ft25 _ now (h65'.next t25 f25 e25) (lap_report I) hn (by omega)⟩
    · refine ⟨⟨by omega, by omega⟩, opt_some ha (ld_int (by rw [Int.toNat_natCast]; exact at4 6 _ rfl) ⟨by decide, ?_⟩)⟩
      have t1 : Int.tmod x.n 100 = x.n % 100 := Int.tmod_eq_emod_of_nonneg hn0.1
      rw [t1, u64w _ (by omega) (by omega)]
      exact hrec w4 ft S _ h4 I (by omega) (by omega)
theorem stubLapsed_row {H : Type} {cs : Array Value} {d d2 : DataW H} (h : Lies Try.prog W 6 34 cs.toList d) (hs : SizedD Try.prog 34 d) {ip : Option Addr} {n cap : Nat} (h2 : Lies Try.prog W 6 56 [.slice ip n cap] d2) (_ : n * 64 ≤ 140737488351232) :
    CallR Try.prog 6 #[.agg cs, .slice ip n cap] W fun v w' => v = .bool true ∧ Fr [] W w' := by
  obtain ⟨r, rfl, hr0⟩ := raw_open h
  obtain ⟨l, rfl, hst⟩ := steps_of_lies h2
  apply X6.sound
  unfold X6.f
  have cr := conf_rng r
  have sr := span_rng r
  refine newB fun g1 w2 b f2 _ => ?_
  have b : Blk w2 g1 r.cells 34 := b
  refine ld_Raw (s := r) b.cat (config_spec (r := r) fun w26 f26 => ⟨_, _, _, _, _, _, _, _, _, _, _, _, _, _, _, _, _, _, _, _, _, _, rfl, newB fun gc w50 bc f50 h50 => stAllB (vs := (configOf r).cells) bc rfl fun w51 b51 f51 => ?_⟩)
  have F26 := f2.tr f26
  have F51 : Fr [] W w51 := (F26.tr f50).loc f51 (by have := F26.size; omega)
  refine ld_Cfg (s := configOf r) b51.cat (newL (conf_ok hr0 0 (by omega) (by omega)) (drift_half r).1 fun g gt ft w75 p => ⟨_, _, rfl, known_spec fun w79 f79 => ⟨_, rfl, bc_bool (fun h => by cases h) (fun _ => bc_ne (fun h => absurd rfl h) (fun _ => bc_bool (fun h => by cases h) (fun _ => ?_)))⟩⟩)
  unfold X6.j3
  have p79 := p.keep' f79
  obtain ⟨i1, i2⟩ := lap_init (seq := 0) (c := configOf r) (by omega) (by omega) sr.1
  refine newB fun gx wa bx fa ha => stAllB (vs := idcs 2 5) bx rfl fun wb bxb fb => ?_
  have pa := p79.keep' fa
  have nx := p79.fresh ha
  have z := p79.F.size
  have L : LpC w51 wb g gt ft (newS (configOf r) 1 0) gx 2 5 := ⟨pa.off nx (by omega) fb, bxb, nx⟩
  refine ld_int (L.bx.cat 0 _ rfl) (ld_int (L.bx.cat 1 _ rfl) (want_spec L.p.t ?_))
  intro ft7 w7 t7 f7 e7
  have L7 := L.next t7 f7 e7
  refine ⟨_, _, rfl, ld_int (L7.bx.cat 0 _ rfl) (ld_int (L7.bx.cat 1 _ rfl) (told_spec (m := kM) L7.p.t ?_))⟩
  intro ft13 w13 t13 f13 e13
  have L13 := L7.next t13 f13 e13
  rw [i1]
  refine ⟨_, rfl, bc_bool (fun h => by cases h) (fun _ => ld_Cfg (s := configOf r) (b51.keep' L13.p.F).cat (rspan_spec (may_config hr0) (drift_half r).1 fun w38 f38 => ⟨_, rfl, ?_⟩))⟩
  rw [u64w (10 + _) (by omega) (by omega)]
  refine ⟨101, lap_l0 (W := w51) (hst.keep' F51) b51 (by omega) (by omega) sr.1 sr.2 (fun w' f' => ⟨rfl, F51.tr f'⟩) _ 0 w38 ft13 _ _ (by omega) (by omega) (L13.keep' f38) i2 (by omega) (by omega)⟩
end
end Go.Proofs.YtglininpmfgggaaX
