/- StubLapsed: a stub that is lapsed never holds again, whatever comes. -/
import Derived.Test.YtglininpmfgggaaL18KnownR
import Derived.Test.YtglininpmfgggaaL18Turn
namespace Go.Proofs.YtglininpmfgggaaX
open Go.RowKit
set_option linter.unusedVariables false
set_option linter.unusedSimpArgs false
set_option maxRecDepth 100000
/-- the steps handed in, as they lie -/
structure StepsAt (W : World) (a : Option Addr) (l : List Stp) : Prop where
  at_ : ∀ i x, l[i]? = some x → ∃ p, a = some p ∧ At W (p.add (i * 8)) x.cells
  wf : ∀ x ∈ l, (Lit.int .u64 x.sr).wf = true ∧ (Lit.int .u64 x.seq).wf = true ∧ (Lit.int .u64 x.n).wf = true
theorem StepsAt.keep' {W w : World} {a : Option Addr} {l : List Stp} (h : StepsAt W a l) (f : Fr [] W w) : StepsAt w a l := ⟨fun i x hx => by
  obtain ⟨p, hp, ha⟩ := h.at_ i x hx
  exact ⟨p, hp, ha.keep' f⟩, h.wf⟩
theorem steps_of_lies {H : Type} {W : World} {a : Option Addr} {len cap : Nat} {d : DataW H} (h : Lies Try.prog W 6 56 [.slice a len cap] d) : ∃ l : List Stp, l.length = len ∧ StepsAt W a l := by
  rcases lies_slice Try.underlying56 h with ⟨h1, h2⟩ | ⟨p, n, c, elems, rest, h1, h2, hl, hm, hlen, hel⟩
  · simp only [List.cons.injEq, Value.slice.injEq, and_true] at h1
    obtain ⟨rfl, rfl, rfl⟩ := h1
    exact ⟨[], rfl, ⟨fun i x hx => by simp at hx, fun x hx => by cases hx⟩⟩
  · simp only [List.cons.injEq, Value.slice.injEq, and_true] at h1
    obtain ⟨rfl, rfl, rfl⟩ := h1
    have hc : Try.prog.cellsOf 61 = 8 := by kernel_rfl
    obtain ⟨l, hll, hx⟩ := list_of (R := fun i (y : DataW H) (x : Stp) => At W (p.add (i * 8)) x.cells ∧ (Lit.int .u64 x.sr).wf = true ∧ (Lit.int .u64 x.seq).wf = true ∧ (Lit.int .u64 x.n).wf = true) elems 0 (fun i y hy => by
      obtain ⟨cs', hcl, hcell, hly⟩ := hel i y hy
      obtain ⟨x, hxc, w1, w2, w3⟩ := Stp_of_lies (n := 2) hly
      refine ⟨x, fun j u hj => ?_, w1, w2, w3⟩
      rw [Nat.zero_add, add_add]
      have := hcell j u (by rw [hxc]; exact hj)
      rw [hc] at this
      exact this)
    have get : ∀ i x, l[i]? = some x → At W (p.add (i * 8)) x.cells ∧ (Lit.int .u64 x.sr).wf = true ∧ (Lit.int .u64 x.seq).wf = true ∧ (Lit.int .u64 x.n).wf = true := fun i x hi => by
      have hlt : i < elems.length := by have := (List.getElem?_eq_some_iff.1 hi).1; omega
      have := hx i _ x (List.getElem?_eq_getElem hlt) hi
      rwa [Nat.zero_add] at this
    refine ⟨l, by omega, fun i x hi => ⟨p, rfl, (get i x hi).1⟩, fun x hm => ?_⟩
    obtain ⟨i, hi⟩ := List.getElem?_of_mem hm
    exact (get i x hi).2
theorem span_rng (r : Raw) : 1 ≤ holdN (configOf r).lease (configOf r).unit (configOf r).drift ∧ holdN (configOf r).lease (configOf r).unit (configOf r).drift ≤ 126431 := by
  have dh := drift_half r
  have ls := lease_rng r
  generalize (configOf r).lease = L at *
  generalize (configOf r).unit = U at *
  generalize (configOf r).drift = D at *
  have p1 := mul_rng (a := L) (b := U - D) (A := 5497) (B := 23) (by omega) (by omega) (by omega) (by omega)
  have p2 := Int.mul_le_mul_of_nonneg_right (a := 160) (b := L) (c := U - D) (by omega) (by omega)
  unfold holdN
  rw [u64w (U - D) (by omega) (by omega), u64w (U + D) (by omega) (by omega), u64w (L * _) (by omega) (by omega), Int.tdiv_eq_ediv_of_nonneg (by omega)]
  have h1 : 1 ≤ L * (U - D) / (U + D) := Int.le_ediv_of_mul_le (by omega) (by omega)
  have h2 : L * (U - D) / (U + D) ≤ L * (U - D) := Int.ediv_le_self _ (by omega)
  rw [u64w _ (by omega) (by omega)]
  omega
structure LapI (c : Cfg) (sp : Int) (S : Sn) : Prop where
  c : S.c = c
  node : S.node = 1
  span : S.span = sp
  l : ∃ s : Stb, S.l = [(keyOf 2 5, s)] ∧ s.nd = 2 ∧ s.sr = 5 ∧ ((s.state = 2 ∧ s.at_ = 10) ∨ s.state = 4)
section
variable {c : Cfg} {sp now : Int} {S : Sn} {s : Stb}
theorem srt1 {k : Int} {s : Stb} : Srt ilt (keys [(k, s)]) := by simp [keys, Srt]
theorem get1 {k : Int} {s : Stb} : get ilt [(k, s)] k = some s := get_at (p := 0) (e := (k, s)) srt1 rfl
theorem putF1 {m k : Int} {s s' : Stb} : putF m [(k, s)] k s' = [(k, s')] := putF_at (p := 0) srt1 rfl
theorem lap_live (hs : 1 ≤ sp) (hn : 10 + sp ≤ now) (hm : now ≤ 1000000) : liveB 10 sp now = false := by
  unfold liveB
  rw [if_pos (by omega), u64w _ (by omega) (by omega), decide_eq_false (by omega)]
theorem lap_state (h : LapI c sp S) (hs : 1 ≤ sp) (hn : 10 + sp ≤ now) (hm : now ≤ 1000000) : stateS S 2 5 now = 4 := by
  obtain ⟨s, hl, h1, h2, h3⟩ := h.l
  unfold stateS getS
  rw [hl, get1]
  simp only
  rw [if_pos ⟨h1, h2⟩]
  simp only
  unfold lapsedB
  rcases h3 with ⟨h3, h4⟩ | h3
  · rw [if_pos h3, h4, h.span, lap_live hs hn hm]; rfl
  · rw [if_neg (show ¬ s.state = 2 by omega)]; exact h3
theorem lap_put (h : LapI c sp S) (h1 : s.nd = 2) (h2 : s.sr = 5) (h3 : (s.state = 2 ∧ s.at_ = 10) ∨ s.state = 4) : LapI c sp (putS S s) := by
  obtain ⟨s0, hl, _⟩ := h.l
  refine ⟨h.c, h.node, h.span, s, ?_, h1, h2, h3⟩
  show putF S.c.stubs S.l (keyOf s.nd s.sr) s = _
  rw [h1, h2, hl, putF1]
theorem lap_last (h : LapI c sp S) (k : Int) : LapI c sp { S with last := k } := ⟨h.c, h.node, h.span, h.l⟩
theorem lap_want {v : Int} (h : LapI c sp S) : LapI c sp (wantS S 2 5 v now).1 ∨ True := .inr trivial
theorem lap_want' {v : Int} (h : LapI c sp S) (hs : 1 ≤ sp) (hn : 10 + sp ≤ now) (hm : now ≤ 1000000) : LapI c sp (wantS S 2 5 v now).1 := by
  obtain ⟨s, hl, h1, h2, h3⟩ := h.l
  unfold wantS
  split
  · exact h
  · rw [hl, get1]
    simp only
    rw [if_pos (by omega)]
    split
    · exact lap_put h h1 h2 (.inr rfl)
    · exact h
theorem lap_step (h : LapI c sp S) : LapI c sp (stepS S now).1 := by
  obtain ⟨s, hl, h1, h2, h3⟩ := h.l
  unfold stepS
  cases ha : after ilt S.l S.last with
  | none => exact h
  | some k =>
    simp only
    obtain ⟨p, hp, hk⟩ := after_some (l := S.l) (by rw [hl]; simp) S.last
    rw [ha, hl] at hk
    have hp0 : p = 0 := by rw [hl] at hp; simpa using hp
    subst hp0
    have : k = keyOf 2 5 := by simpa [keys] using hk
    subst this
    have hg : get ilt S.l (keyOf 2 5) = some s := by rw [hl, get1]
    rw [hg]
    simp only [Option.getD_some]
    refine lap_put (lap_last h _) ?_ ?_ ?_
    · unfold turnS; split; · exact h1
      split; · exact h1
      split; · exact h1
      split <;> exact h1
    · unfold turnS; split; · exact h2
      split; · exact h2
      split; · exact h2
      split <;> exact h2
    · unfold turnS
      rw [if_neg (by omega)]
      split
      · exact .inr rfl
      · split
        · rename_i hh; rcases h3 with h3 | h3
          · exact .inl h3
          · omega
        · rw [if_neg (by omega)]; exact h3
theorem lap_told {m : Msg} (h : LapI c sp S) (hs : 1 ≤ sp) (hn : 10 + sp ≤ now) (hm : now ≤ 1000000) (e1 : m.tn = 2) (e2 : m.ts = 5) (e3 : m.code = 0) : LapI c sp (toldS S m now).1 := by
  obtain ⟨s, hl, h1, h2, h3⟩ := h.l
  unfold toldS getS
  rw [e1, e2, hl, get1]
  simp only
  rw [if_pos ⟨h1, h2⟩]
  simp only
  split
  · exact h
  · rename_i hh
    have hs2 : s.state = 2 ∧ s.at_ = 10 := by
      rcases h3 with h3 | h3
      · exact h3
      · exact absurd (.inr (.inl ⟨by omega, by omega⟩)) hh
    have hlp : lapsedB S s now = true := by
      unfold lapsedB; rw [if_pos hs2.1, hs2.2, h.span, lap_live hs hn hm]; rfl
    have ht : tellS S m s now = s := by
      unfold tellS
      rw [if_neg (by simp [e3]; omega), if_pos hlp]
    rw [ht]
    exact lap_put h h1 h2 h3
theorem lap_report {r : Int} (h : LapI c sp S) : LapI c sp (reportS S [⟨2, 5, r⟩] now) := by
  obtain ⟨s, hl, h1, h2, h3⟩ := h.l
  unfold reportS
  rw [hl]
  show LapI c sp (repE S [⟨2, 5, r⟩] now (keyOf 2 5))
  unfold repE repS
  rw [hl, get1]
  simp only [Option.getD_some]
  have hf : findO [⟨2, 5, r⟩] s.nd s.sr = some r := by unfold findO; simp [h1, h2]
  rw [hf]
  exact lap_put h h1 h2 h3
theorem lap_wf (h : LapI c sp S) : IdWs S := fun e he => by
  obtain ⟨s, hl, h1, h2, _⟩ := h.l
  rw [hl] at he
  simp at he
  subst he
  exact ⟨by rw [h1]; decide, by rw [h2]; decide⟩
theorem lap_init {seq : Int} (hc : 2 ≤ c.nodes) (hst : 1 ≤ c.stubs) (hsp : 1 ≤ holdN c.lease c.unit c.drift) :
    (toldS (wantS (newS c 1 0) 2 5 2 10).1 kM 10).2 = true ∧ LapI c (holdN c.lease c.unit c.drift) (toldS (wantS (newS c 1 0) 2 5 2 10).1 kM 10).1 := by
  have hw : wantS (newS c 1 0) 2 5 2 10 = (⟨c, 1, 1, holdN c.lease c.unit c.drift, 0, [(keyOf 2 5, ⟨2, 5, 1, 1, 2, 10, 10, 0, 1⟩)]⟩, 1, 0) := by
    unfold wantS
    have hf : farB (newS c 1 0) 2 5 = true := by
      unfold farB
      rw [if_pos (by decide), if_pos (show (2 : Int) ≤ (newS c 1 0).c.nodes from hc), if_pos (show (2 : Int) ≠ (newS c 1 0).node from (by decide : (2 : Int) ≠ 1)), if_pos (by decide)]; decide
    rw [if_neg (by rw [hf]; show ¬ (true = false ∨ (2 : Int) < 1 ∨ 2 > c.nodes); simp; omega)]
    have hg : get ilt (newS c 1 0).l (keyOf 2 5) = none := rfl
    rw [hg]
    simp only
    rw [if_neg (show ¬ (((newS c 1 0).l.length : Int) ≥ (newS c 1 0).c.stubs) from (by simp; omega : ¬ (((([] : List (Int × Stb)).length : Nat) : Int) ≥ c.stubs)))]
    unfold freshS
    rw [if_neg (show ¬ (newS c 1 0).seq = 72057594037927935 from (by decide : ¬ (0 : Int) = 72057594037927935))]
    unfold putS
    have hp : putF c.stubs [] (keyOf 2 5) ⟨2, 5, 1, 1, 2, 10, 10, 0, 1⟩ = [(keyOf 2 5, ⟨2, 5, 1, 1, 2, 10, 10, 0, 1⟩)] := by
      unfold putF
      rw [if_pos (.inr (by simp; omega))]
      rfl
    show (({ c := c, node := 1, seq := IntKind.wrap .u64 (0 + 1), span := holdN c.lease c.unit c.drift, last := 0, l := putF c.stubs [] (keyOf 2 5) ⟨2, 5, 1, IntKind.wrap .u64 (0 + 1), 2, 10, 10, 0, 1⟩ } : Sn), (1 : Int), (0 : Int)) = _
    rw [show IntKind.wrap .u64 ((0 : Int) + 1) = 1 by decide, hp]
  rw [hw]
  simp only
  have ht : toldS ⟨c, 1, 1, holdN c.lease c.unit c.drift, 0, [(keyOf 2 5, ⟨2, 5, 1, 1, 2, 10, 10, 0, 1⟩)]⟩ kM 10 = (⟨c, 1, 1, holdN c.lease c.unit c.drift, 0, [(keyOf 2 5, ⟨2, 5, 2, 1, 2, 10, 10, 0, 1⟩)]⟩, true) := by
    have hgs : getS ⟨c, 1, 1, holdN c.lease c.unit c.drift, 0, [(keyOf 2 5, ⟨2, 5, 1, 1, 2, 10, 10, 0, 1⟩)]⟩ kM.tn kM.ts = some ⟨2, 5, 1, 1, 2, 10, 10, 0, 1⟩ := by
      unfold getS
      show (match get ilt [(keyOf 2 5, (⟨2, 5, 1, 1, 2, 10, 10, 0, 1⟩ : Stb))] (keyOf 2 5) with | some (s : Stb) => (if s.nd = 2 ∧ s.sr = 5 then some s else none : Option Stb) | none => none) = _
      rw [get1]
      simp
    unfold toldS
    rw [hgs]
    simp only
    have hl : liveB 10 (holdN c.lease c.unit c.drift) 10 = true := by
      unfold liveB
      rw [if_pos (by omega), Int.sub_self, show IntKind.wrap .u64 0 = 0 by decide, decide_eq_true (by omega)]
    have hh : heardB ⟨c, 1, 1, holdN c.lease c.unit c.drift, 0, [(keyOf 2 5, ⟨2, 5, 1, 1, 2, 10, 10, 0, 1⟩)]⟩ kM 5 ⟨2, 5, 1, 1, 2, 10, 10, 0, 1⟩ = true := by
      unfold heardB; rfl
    rw [if_neg (by rw [hh]; simp)]
    have htl : tellS ⟨c, 1, 1, holdN c.lease c.unit c.drift, 0, [(keyOf 2 5, ⟨2, 5, 1, 1, 2, 10, 10, 0, 1⟩)]⟩ kM ⟨2, 5, 1, 1, 2, 10, 10, 0, 1⟩ 10 = ⟨2, 5, 2, 1, 2, 10, 10, 0, 1⟩ := by
      unfold tellS
      rw [if_neg (by simp [hl]), if_neg (by unfold lapsedB; simp), if_pos rfl]
    rw [htl]
    have : putS ⟨c, 1, 1, holdN c.lease c.unit c.drift, 0, [(keyOf 2 5, ⟨2, 5, 1, 1, 2, 10, 10, 0, 1⟩)]⟩ ⟨2, 5, 2, 1, 2, 10, 10, 0, 1⟩ = ⟨c, 1, 1, holdN c.lease c.unit c.drift, 0, [(keyOf 2 5, ⟨2, 5, 2, 1, 2, 10, 10, 0, 1⟩)]⟩ := by
      unfold putS
      simp only
      rw [putF1]
    rw [this]
    simp
  rw [ht]
  exact ⟨rfl, rfl, rfl, rfl, _, rfl, rfl, rfl, .inl ⟨rfl, rfl⟩⟩
end
end Go.Proofs.YtglininpmfgggaaX
