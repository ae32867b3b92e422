/- The document's table of stubs, and a step on both. -/
import Derived.Test.YtglininpmfgggaaL18Report
import Derived.Test.YtglininpmfgggaaL18TurnP
import Derived.Test.YtglininpmfgggaaL18KnownR
import Derived.Test.YtglininpmfgggaaL18Any
import Derived.Test.YtglininpmfgggaaL18Lapsed
namespace Go.Proofs.YtglininpmfgggaaX
open Go.RowKit
set_option linter.unusedVariables false
set_option linter.unusedSimpArgs false
set_option maxRecDepth 100000
theorem u64p (x : Int) : 0 ≤ IntKind.wrap .u64 x := by
  have : IntKind.wrap .u64 x = x % 18446744073709551616 := by unfold IntKind.wrap; rfl
  omega
/-- what stays so, of a table of stubs -/
structure SI (S : Sn) : Prop where
  may : mayB S.c = true
  dr : 0 ≤ S.c.drift
  span : S.span = holdN S.c.lease S.c.unit S.c.drift
  seq0 : 0 ≤ S.seq
  seq1 : S.seq ≤ 72057594037927935
  ent : ∀ e ∈ S.l, e.1 = keyOf e.2.nd e.2.sr ∧ IdW e.2 ∧ 1 ≤ e.2.state ∧ e.2.state ≤ 4 ∧ 0 ≤ e.2.wait
  srt : Srt ilt (keys S.l)
/-- a stub that may be put -/
structure StW (s : Stb) : Prop where
  id : IdW s
  s1 : 1 ≤ s.state
  s4 : s.state ≤ 4
  wt : 0 ≤ s.wait
theorem SI.put {S : Sn} {s : Stb} (h : SI S) (w : StW s) : SI (putS S s) := ⟨h.may, h.dr, h.span, h.seq0, h.seq1, fun e he => by
  rcases putF_mem h.srt he with rfl | he
  · exact ⟨rfl, w.id, w.s1, w.s4, w.wt⟩
  · exact h.ent e he, putF_srt h.srt⟩
theorem SI.drop {S : Sn} {k : Int} (h : SI S) : SI { S with l := drp ilt S.l k } := ⟨h.may, h.dr, h.span, h.seq0, h.seq1, fun e he => h.ent e ((mem_drp ilt_lin h.srt).1 he).2, drp_srt ilt_lin h.srt⟩
theorem SI.last {S : Sn} {k : Int} (h : SI S) : SI { S with last := k } := ⟨h.may, h.dr, h.span, h.seq0, h.seq1, h.ent, h.srt⟩
theorem SI.seqn {S : Sn} (h : SI S) (hn : S.seq ≠ 72057594037927935) : SI { S with seq := IntKind.wrap .u64 (S.seq + 1) } := by
  have h0 := h.seq0
  have h1 := h.seq1
  have e : IntKind.wrap .u64 (S.seq + 1) = S.seq + 1 := u64w _ (by omega) (by omega)
  refine ⟨h.may, h.dr, h.span, ?_, ?_, h.ent, h.srt⟩
  · show 0 ≤ IntKind.wrap .u64 (S.seq + 1); omega
  · show IntKind.wrap .u64 (S.seq + 1) ≤ _; omega
theorem SI.geti {S : Sn} {k : Int} {s : Stb} (h : SI S) (hg : get ilt S.l k = some s) : k = keyOf s.nd s.sr ∧ StW s := by
  obtain ⟨e1, e2, e3, e4, e5⟩ := h.ent _ ((get_iff ilt_lin h.srt).1 hg)
  exact ⟨e1, e2, e3, e4, e5⟩
theorem SI.getS {S : Sn} {nd sr : Int} {s : Stb} (h : SI S) (hg : getS S nd sr = some s) : StW s ∧ s.nd = nd ∧ s.sr = sr ∧ get ilt S.l (keyOf nd sr) = some s := by
  unfold YtglininpmfgggaaX.getS at hg
  cases hk : YtglininpmfgggaaX.get ilt S.l (keyOf nd sr) with
  | none => rw [hk] at hg; cases hg
  | some s' =>
    rw [hk] at hg
    simp only at hg
    split at hg
    · rename_i hh
      injection hg with hg
      subst hg
      exact ⟨(h.geti hk).2, hh.1, hh.2, rfl⟩
    · cases hg
theorem wait_pos {S : Sn} {s : Stb} (h : SI S) (w : 0 ≤ s.wait) : 0 ≤ waitN s.wait S.c.wait S.c.most := by
  have := may_wait h.may
  unfold waitN
  split
  · unfold min2; split <;> omega
  · split
    · omega
    · exact u64p _
theorem turn_wf {S : Sn} {s : Stb} {now : Int} (h : SI S) (w : StW s) : StW (turnS S s now).1 ∧ (turnS S s now).1.nd = s.nd ∧ (turnS S s now).1.sr = s.sr := by
  unfold turnS
  split
  · exact ⟨⟨⟨w.id.nd, w.id.sr⟩, w.s1, w.s4, wait_pos h w.wt⟩, rfl, rfl⟩
  · split
    · exact ⟨⟨⟨w.id.nd, w.id.sr⟩, (by decide : (1 : Int) ≤ 4), (by decide : (4 : Int) ≤ 4), w.wt⟩, rfl, rfl⟩
    · split
      · exact ⟨⟨⟨w.id.nd, w.id.sr⟩, w.s1, w.s4, w.wt⟩, rfl, rfl⟩
      · split
        · exact ⟨⟨⟨w.id.nd, w.id.sr⟩, w.s1, w.s4, wait_pos h w.wt⟩, rfl, rfl⟩
        · exact ⟨w, rfl, rfl⟩
theorem SI.step {S : Sn} {now : Int} (h : SI S) : SI (stepS S now).1 := by
  unfold stepS
  cases ha : after ilt S.l S.last with
  | none => exact h
  | some k =>
    simp only
    cases hg : YtglininpmfgggaaX.get ilt S.l k with
    | some s => exact h.last.put (turn_wf h (h.geti hg).2).1
    | none =>
      exfalso
      by_cases hn : 0 < S.l.length
      · obtain ⟨p, hp, hk⟩ := after_some hn S.last
        rw [ha] at hk
        exact (get_none ilt_lin h.srt).1 hg (List.mem_of_getElem? hk.symm)
      · rw [after_none (by omega)] at ha; cases ha
theorem SI.fresh {S : Sn} {nd sr v now : Int} (h : SI S) (w1 : (Lit.int .i64 nd).wf = true) (w2 : (Lit.int .u64 sr).wf = true) : SI (freshS S nd sr v now).1 := by
  unfold freshS
  split
  · exact h
  · rename_i hn
    exact (h.seqn hn).put ⟨⟨w1, w2⟩, (by decide : (1 : Int) ≤ 1), (by decide : (1 : Int) ≤ 4), (by decide : (0 : Int) ≤ 0)⟩
theorem SI.want {S : Sn} {nd sr v now : Int} (h : SI S) (w1 : (Lit.int .i64 nd).wf = true) (w2 : (Lit.int .u64 sr).wf = true) : SI (wantS S nd sr v now).1 := by
  unfold wantS
  split
  · exact h
  · cases hg : YtglininpmfgggaaX.get ilt S.l (keyOf nd sr) with
    | none =>
      simp only
      split
      · exact h
      · exact h.fresh w1 w2
    | some s =>
      have hs := (h.geti hg).2
      simp only
      split
      · split
        · exact h.put ⟨⟨hs.id.nd, hs.id.sr⟩, (by decide : (1 : Int) ≤ 4), (by decide : (4 : Int) ≤ 4), hs.wt⟩
        · exact h
      · exact h.fresh w1 w2
theorem tell_wf {S : Sn} {m : Msg} {s : Stb} {now : Int} (w : StW s) : StW (tellS S m s now) ∧ (tellS S m s now).nd = s.nd ∧ (tellS S m s now).sr = s.sr := by
  unfold tellS
  split
  · exact ⟨⟨⟨w.id.nd, w.id.sr⟩, (by decide : (1 : Int) ≤ 4), (by decide : (4 : Int) ≤ 4), w.wt⟩, rfl, rfl⟩
  · split
    · exact ⟨w, rfl, rfl⟩
    · split
      · exact ⟨⟨⟨w.id.nd, w.id.sr⟩, (by decide : (1 : Int) ≤ 2), (by decide : (2 : Int) ≤ 4), w.wt⟩, rfl, rfl⟩
      · exact ⟨⟨⟨w.id.nd, w.id.sr⟩, w.s1, w.s4, w.wt⟩, rfl, rfl⟩
theorem SI.told {S : Sn} {m : Msg} {now : Int} (h : SI S) : SI (toldS S m now).1 := by
  unfold toldS
  cases hg : YtglininpmfgggaaX.getS S m.tn m.ts with
  | none => exact h
  | some s =>
    simp only
    split
    · exact h
    · exact h.put (tell_wf (h.getS hg).1).1
theorem SI.cleaned {S : Sn} {m : Msg} (h : SI S) : SI (cleanedS S m).1 := by
  unfold cleanedS
  cases hg : YtglininpmfgggaaX.getS S m.tn m.ts with
  | none => exact h
  | some s =>
    simp only
    split
    · exact h
    · exact h.drop
theorem SI.rep {S : Sn} {o : List Otr} {now k : Int} {s : Stb} (h : SI S) (w : StW s) : SI (repS S o now k s) := by
  unfold repS
  cases findO o s.nd s.sr with
  | some r => exact h.put ⟨⟨w.id.nd, w.id.sr⟩, w.s1, w.s4, w.wt⟩
  | none =>
    simp only
    split
    · exact h.put w
    · split
      · exact h.drop
      · rename_i hh
        exact (h.seqn (fun hx => hh (.inr (.inr hx)))).put ⟨⟨w.id.nd, w.id.sr⟩, by show (1 : Int) ≤ 3; decide, by show (3 : Int) ≤ 4; decide, by show (0 : Int) ≤ 0; decide⟩
/-- the document's table -/
def PR (w : World) (g : Nat) (foot : List Nat) (S : Sn) : Prop := ∃ pk pv ck cv, PRa w g foot S pk pv ck cv
section
variable {w w' W : World} {Q : Value → World → Prop} {g gs gm g1 gx g9 : Nat} {ft ft' : List Nat} {S S' : Sn} {nd sr now k v : Int} {s s' : Stb} {m m' : Msg} {c : Cfg}
theorem PR.keep (t : PR w g ft S) {F : List Nat} (f : Fr F w w') (hd : ∀ x ∈ ft, x ∉ F) : PR w' g ft S := by
  obtain ⟨pk, pv, ck, cv, t⟩ := t
  exact ⟨pk, pv, ck, cv, RT_SB.keep t f hd⟩
theorem PR.keep' (t : PR w g ft S) (f : Fr [] w w') : PR w' g ft S := t.keep f (by simp)
theorem PR.lt (t : PR w g ft S) : ∀ x ∈ ft, x < w.heap.size := by
  obtain ⟨pk, pv, ck, cv, t⟩ := t
  exact RT_SB.lt t
theorem PR.off (t : PR w g ft S) {x : Nat} (hx : x ∉ ft) (f : Fr [x] w w') : PR w' g ft S := t.keep f (fun y hy hm => hx (by simp at hm; rwa [← hm]))
theorem PR.blk (t : PR w g ft S) : ∃ pk pv ck cv, Blk w g (rcells S pk pv ck cv) 71 := by
  obtain ⟨pk, pv, ck, cv, t⟩ := t
  exact ⟨pk, pv, ck, cv, t.blk⟩
theorem PR.gin (t : PR w g ft S) : g ∈ ft := by
  obtain ⟨pk, pv, ck, cv, t⟩ := t
  rw [RT_SB.ft t]; simp
theorem PR.cfg (t : PR w g ft S) : At w (at0 g 0) S.c.cells := by
  obtain ⟨pk, pv, ck, cv, b⟩ := t.blk
  exact b.off 0 rfl
theorem PR.cfg0 (t : PR w g ft S) : At w ((at0 g 0).add 0) S.c.cells := by rw [add_at]; exact t.cfg
theorem PR.node (t : PR w g ft S) : w.cell? ((at0 g 0).add 22) = some (.int .i64 S.node) := by
  obtain ⟨pk, pv, ck, cv, b⟩ := t.blk
  exact b.cat 22 _ rfl
theorem PR.seq (t : PR w g ft S) : w.cell? ((at0 g 0).add 23) = some (.int .u64 S.seq) := by
  obtain ⟨pk, pv, ck, cv, b⟩ := t.blk
  exact b.cat 23 _ rfl
theorem PR.last (t : PR w g ft S) : w.cell? ((at0 g 0).add 27) = some (.int .u64 S.last) := by
  obtain ⟨pk, pv, ck, cv, b⟩ := t.blk
  exact b.cat 27 _ rfl
theorem PR.stseq (t : PR w g ft S) {v : Int} {K : World → Prop} (hK : ∀ w', PR w' g ft { S with seq := v } → Fr ft w w' → K w') : stK w ((at0 g 0).add 23) (.int .u64 v) K := by
  have hg := t.gin
  obtain ⟨pk, pv, ck, cv, t⟩ := t
  exact RT_SB.st t (by show 23 < 28; omega) (by omega) (by omega) (by omega) fun w' t' f => hK w' ⟨pk, pv, ck, cv, t'⟩ (f.mono fun x hx => by simp at hx; rw [hx]; exact hg)
theorem PR.stlast (t : PR w g ft S) {v : Int} {K : World → Prop} (hK : ∀ w', PR w' g ft { S with last := v } → Fr ft w w' → K w') : stK w ((at0 g 0).add 27) (.int .u64 v) K := by
  have hg := t.gin
  obtain ⟨pk, pv, ck, cv, t⟩ := t
  exact RT_SB.st t (by show 27 < 28; omega) (by omega) (by omega) (by omega) fun w' t' f => hK w' ⟨pk, pv, ck, cv, t'⟩ (f.mono fun x hx => by simp at hx; rw [hx]; exact hg)
theorem PR.sorted (t : PR w g ft S) : Srt ilt (keys S.l) := by
  obtain ⟨pk, pv, ck, cv, t⟩ := t
  exact RT_SB.srt t
/-- what a call of the document's leaves behind -/
def AftR (w : World) (g : Nat) (ft : List Nat) (S' : Sn) (v : Value) (Q : Value → World → Prop) : Prop := ∀ ft' w', PR w' g ft' S' → Fr ft w w' → (∀ x ∈ ft', x ∈ ft ∨ w.heap.size ≤ x) → Q v w'
theorem AftR.same {v : Value} (h : AftR w g ft S v Q) (t : PR w g ft S) (f : Fr [] w w') : Q v w' := h ft w' (t.keep' f) f.any (fun x hx => .inl hx)
theorem AftR.next {v : Value} (h : AftR w g ft S v Q) (f : Fr ft w w') (e : ∀ x ∈ ft', x ∈ ft ∨ w.heap.size ≤ x) : AftR w' g ft' S v Q := fun ft2 w2 t2 f2 e2 => h ft2 w2 t2 (f.trans f2 e) (fun x hx => by
    have := f.size
    rcases e2 x hx with h' | h'
    · exact e x h'
    · exact .inr (by omega))
theorem rgetT (t : PR w g ft S) (hK : ∀ w', Fr [] w w' → Q (.tuple #[((get ilt S.l k).getD sZero).val, .bool (get ilt S.l k).isSome]) w') : CallR Try.prog 67 #[.pointer (some (at0 g 24)), .int .u64 k] w Q := by
  obtain ⟨pk, pv, ck, cv, t⟩ := t
  exact rget_SB t (fun hn w' f => by have := hK w' f; rw [hn] at this; exact this) (fun v hv w' f => by have := hK w' f; rw [hv] at this; exact this)
theorem rafterT (t : PR w g ft S) (hQ : Q (.tuple #[.int .u64 ((after ilt S.l k).getD 0), .bool (after ilt S.l k).isSome]) w) : CallR Try.prog 68 #[.pointer (some (at0 g 24)), .int .u64 k] w Q := by
  obtain ⟨pk, pv, ck, cv, t⟩ := t
  exact rafter_SB t hQ
theorem rputT (t : PR w g ft S) (hm : S.c.stubs ≤ 100000) (hK : ∀ b ft' w', PR w' g ft' { S with l := putF S.c.stubs S.l k s } → Fr ft w w' → (∀ x ∈ ft', x ∈ ft ∨ w.heap.size ≤ x) → Q (.bool b) w') : CallR Try.prog 73 #[.pointer (some (at0 g 24)), .int .u64 k, s.val] w Q := by
  obtain ⟨pk, pv, ck, cv, t⟩ := t
  refine rput_SB t hm (fun h1 h2 w' f => ?_) (fun h1 ft' pk' pv' ck' cv' w' t' f e => ?_)
  · have : putF S.c.stubs S.l k s = S.l := by unfold putF; rw [if_neg (by simp [h1]; omega)]
    exact hK false ft w' ⟨pk, pv, ck, cv, by rw [this]; exact RT_SB.keep' t f⟩ f.any (fun x hx => .inl hx)
  · have : putF S.c.stubs S.l k s = put ilt S.l k s := by unfold putF; rw [if_pos h1]
    exact hK true ft' w' ⟨pk', pv', ck', cv', by rw [this]; exact t'⟩ f e
theorem rdropT (t : PR w g ft S) (hK : ∀ ft' w', PR w' g ft' { S with l := drp ilt S.l k } → Fr ft w w' → (∀ x ∈ ft', x ∈ ft ∨ w.heap.size ≤ x) → Q (.bool (has ilt S.l k)) w') : CallR Try.prog 77 #[.pointer (some (at0 g 24)), .int .u64 k] w Q := by
  obtain ⟨pk, pv, ck, cv, t⟩ := t
  exact rdrop_SB t fun ft' pk' pv' ck' cv' w' t' f e => hK ft' w' ⟨pk', pv', ck', cv', t'⟩ f e
theorem rwait_spec {a b c : Int} (h0 : 0 ≤ a) (h1 : 0 ≤ c) (h2 : c ≤ 4294967295) (hQ : Q (.int .u64 (waitN a b c)) w) : CallR Try.prog 70 #[.int .u64 a, .int .u64 b, .int .u64 c] w Q := by
  apply X70.sound
  unfold X70.f
  unfold waitN at hQ
  refine bc_eq (fun h => by rw [if_pos h] at hQ; exact hQ) (fun h => ⟨by omega, ?_⟩)
  rw [if_neg h] at hQ
  refine bc_dec (fun h => by rw [if_pos h] at hQ; exact hQ) (fun h3 => ?_)
  rw [if_neg h3] at hQ
  rw [Int.tdiv_eq_ediv_of_nonneg h1, u64w (c / 2) (by omega) (by omega)] at h3
  have : min2 (IntKind.wrap .u64 (2 * a)) c = IntKind.wrap .u64 (2 * a) := by
    rw [u64w (2 * a) (by omega) (by omega)]
    unfold min2; split <;> omega
  rw [this]
  exact hQ
theorem revery_spec {a : Int} (hQ : Q (.int .u64 (everyN a)) w) : CallR Try.prog 72 #[.int .u64 a] w Q := by
  apply X72.sound
  refine ⟨by omega, ?_⟩
  have : max2 1 (IntKind.wrap .u64 (Int.tdiv a 4)) = everyN a := by
    unfold everyN max2
    split <;> split <;> omega
  rw [this]
  exact hQ
theorem ralive_spec (t : PR w g ft S) (h : SI S) (hQ : ∀ w', Fr [] w w' → Q (.bool (liveB s.at_ S.span now)) w') : CallR Try.prog 71 #[.pointer (some (at0 g 0)), s.val, .int .u64 now] w Q := by
  apply X71.sound
  unfold X71.f
  simp only [optP_some]
  refine newB fun g1 w2 b1 f2 h1 => drawn fun w3 f3 _ => ?_
  have b3 := b1.keep' f3
  have t3 := t.keep' (f2.tr f3)
  refine ld_int (b3.cat 5 _ rfl) (ld_Cfg (s := S.c) t3.cfg0 (rspan_spec h.may h.dr fun w29 f29 => ⟨_, rfl, ⟨b3.cat 5 _ rfl, (b3.keep' f29).cat 5 _ rfl⟩, rlive_spec ⟨_, rfl, ?_⟩⟩))
  rw [← h.span]
  exact hQ w29 ((f2.tr f3).tr f29)
end
end Go.Proofs.YtglininpmfgggaaX
namespace Go.Proofs.YtglininpmfgggaaX
open Go.RowKit
set_option linter.unusedVariables false
set_option linter.unusedSimpArgs false
set_option maxRecDepth 100000
section
variable {w w' W : World} {Q : Value → World → Prop} {g gs gm g1 gx g9 : Nat} {ft ft' : List Nat} {S S' : Sn} {nd sr now k v voucher : Int} {s s' : Stb} {m m' : Msg} {c : Cfg}
theorem rgetS_spec (t : PR w g ft S) (hQ : ∀ w', Fr [] w w' → Q (.tuple #[((getS S nd sr).getD sZero).val, .bool (getS S nd sr).isSome]) w') : CallR Try.prog 50 #[.pointer (some (at0 g 0)), .agg #[.int .i64 nd, .int .u64 sr]] w Q := by
  apply X50.sound
  unfold X50.f
  simp only [optP_some]
  rw [getS_eq] at hQ
  refine newB fun g1 w2 b1 f2 h1 => newB fun g3 w4 b3 f4 h3 => drawn fun w5 f5 _ => ?_
  have f05 := (f2.tr f4).tr f5
  have t5 := t.keep' f05
  have b1 := b1.keep' (f4.tr f5)
  have b3 := b3.keep' f5
  have s5 := f05.size
  have s2 := f2.size
  have l3 := b3.lt
  have l1 := b1.lt
  have tail : ∀ {w27 : World} {g25 : Nat} {e : TypeId} {ok : Bool} {s : Stb}, Blk w27 g25 s.cells 51 → Fr [] w5 w27 → ok = (get ilt S.l (keyOf nd sr)).isSome → s = (get ilt S.l (keyOf nd sr)).getD sZero →
      bcase (!ok) (stAll w27 (at0 g3 0) sZero.cells fun w28 => ldI .i64 w28 ((at0 g3 0).add 0) fun x29 => ldI .u64 w28 ((at0 g3 0).add 1) fun x30 => ldI .i64 w28 ((at0 g3 0).add 2) fun x31 => ldI .u64 w28 ((at0 g3 0).add 3) fun x32 => ldI .i64 w28 ((at0 g3 0).add 4) fun x33 => ldI .u64 w28 ((at0 g3 0).add 5) fun x34 => ldI .u64 w28 ((at0 g3 0).add 6) fun x35 => ldI .u64 w28 ((at0 g3 0).add 7) fun x36 => ldI .i64 w28 ((at0 g3 0).add 8) fun x37 => Q (.tuple #[.agg #[.int .i64 x29, .int .u64 x30, .int .i64 x31, .int .u64 x32, .int .i64 x33, .int .u64 x34, .int .u64 x35, .int .u64 x36, .int .i64 x37], .bool false]) w28)
        (ldI .i64 w27 (((at0 g25 0).add 0).add 0) fun x38 => ldI .u64 w27 (((at0 g25 0).add 0).add 1) fun x39 => ldI .i64 w27 ((at0 g1 0).add 0) fun x40 => ldI .u64 w27 ((at0 g1 0).add 1) fun x41 => isStruct Try.prog 40 ∧ bcase (!((x38 == x40) && ((x39 == x41) && true))) (stAll w27 (at0 g3 0) sZero.cells fun w42 => ldI .i64 w42 ((at0 g3 0).add 0) fun x29 => ldI .u64 w42 ((at0 g3 0).add 1) fun x30 => ldI .i64 w42 ((at0 g3 0).add 2) fun x31 => ldI .u64 w42 ((at0 g3 0).add 3) fun x32 => ldI .i64 w42 ((at0 g3 0).add 4) fun x33 => ldI .u64 w42 ((at0 g3 0).add 5) fun x34 => ldI .u64 w42 ((at0 g3 0).add 6) fun x35 => ldI .u64 w42 ((at0 g3 0).add 7) fun x36 => ldI .i64 w42 ((at0 g3 0).add 8) fun x37 => Q (.tuple #[.agg #[.int .i64 x29, .int .u64 x30, .int .i64 x31, .int .u64 x32, .int .i64 x33, .int .u64 x34, .int .u64 x35, .int .u64 x36, .int .i64 x37], .bool false]) w42)
          (ldI .i64 w27 ((at0 g25 0).add 0) fun x52 => ldI .u64 w27 ((at0 g25 0).add 1) fun x53 => ldI .i64 w27 ((at0 g25 0).add 2) fun x54 => ldI .u64 w27 ((at0 g25 0).add 3) fun x55 => ldI .i64 w27 ((at0 g25 0).add 4) fun x56 => ldI .u64 w27 ((at0 g25 0).add 5) fun x57 => ldI .u64 w27 ((at0 g25 0).add 6) fun x58 => ldI .u64 w27 ((at0 g25 0).add 7) fun x59 => ldI .i64 w27 ((at0 g25 0).add 8) fun x60 => stAll w27 (at0 g3 0) [.int .i64 x52, .int .u64 x53, .int .i64 x54, .int .u64 x55, .int .i64 x56, .int .u64 x57, .int .u64 x58, .int .u64 x59, .int .i64 x60] fun w61 => ldI .i64 w61 ((at0 g3 0).add 0) fun x29 => ldI .u64 w61 ((at0 g3 0).add 1) fun x30 => ldI .i64 w61 ((at0 g3 0).add 2) fun x31 => ldI .u64 w61 ((at0 g3 0).add 3) fun x32 => ldI .i64 w61 ((at0 g3 0).add 4) fun x33 => ldI .u64 w61 ((at0 g3 0).add 5) fun x34 => ldI .u64 w61 ((at0 g3 0).add 6) fun x35 => ldI .u64 w61 ((at0 g3 0).add 7) fun x36 => ldI .i64 w61 ((at0 g3 0).add 8) fun x37 => Q (.tuple #[.agg #[.int .i64 x29, .int .u64 x30, .int .i64 x31, .int .u64 x32, .int .i64 x33, .int .u64 x34, .int .u64 x35, .int .u64 x36, .int .i64 x37], .bool true]) w61)) := by
    intro w27 g25 e ok s b25 f27 hok hs
    have b3' := b3.keep' f27
    have b1' := b1.keep' f27
    have f027 := f05.tr f27
    refine bc_bool (fun h => stAllB b3' rfl fun w28 b28 f28 => ld_Stb (s := sZero) b28.cat ?_) (fun h => ?_)
    · have hq := hQ w28 (f027.loc f28 (by omega))
      rw [if_neg (by rw [← hok]; simp at h; simp [h])] at hq
      exact hq
    · have hok1 : ok = true := by simpa using h
      refine ld_int (b25.cat.sub 0 0 rfl) (ld_int (b25.cat.sub 0 1 rfl) (ld_int (b1'.cat 0 _ rfl) (ld_int (b1'.cat 1 _ rfl) ⟨isS40, bc_bool (fun h => stAllB b3' rfl fun w28 b28 f28 => ld_Stb (s := sZero) b28.cat ?_) (fun h => ?_)⟩)))
      · have hq := hQ w28 (f027.loc f28 (by omega))
        rw [if_neg (fun hh => by rw [← hs] at hh; simp [hh.2.1, hh.2.2] at h)] at hq
        exact hq
      · refine ld_Stb (s := s) b25.cat (stAllB b3' rfl fun w28 b28 f28 => ld_Stb (s := s) b28.cat ?_)
        have hq := hQ w28 (f027.loc f28 (by omega))
        rw [← hs, ← hok, if_pos (by simp at h; exact ⟨hok1, h.1, h.2⟩)] at hq
        exact hq
  rw [add_at]
  refine ⟨?_, ?_, ?_⟩
  · refine ld_int (b1.cat 0 _ rfl) (ld_int (b1.cat 1 _ rfl) (key_spec fun w11 f11 => ⟨_, rfl, ?_⟩))
    refine rgetT (t5.keep' f11) fun w14 f14 => ⟨_, _, _, _, _, _, _, _, _, _, rfl, newB fun g25 w26 b26 f26 h26 => ?_⟩
    have f514 := f11.tr f14
    have f526 := f514.tr f26
    refine ⟨⟨(b1.keep' f514).cat, (b1.keep' f526).cat⟩, stAllB (vs := ((get ilt S.l (keyOf nd sr)).getD sZero).cells) b26 rfl fun w27 b27 f27 => ?_⟩
    exact tail (e := 51) b27 (f526.loc f27 (by have := f514.size; omega)) rfl rfl
  · refine ld_int (b1.cat 0 _ rfl) (ld_int (b1.cat 1 _ rfl) (key_spec fun w11 f11 => ⟨_, rfl, ?_⟩))
    refine newB fun g25 w26 b26 f26 h26 => ?_
    have f526 := f11.tr f26
    refine ⟨⟨(b1.keep' f11).cat, (b1.keep' f526).cat⟩, rgetT (t5.keep' f526) fun w14 f14 => ⟨_, _, _, _, _, _, _, _, _, _, rfl, stAllB (vs := ((get ilt S.l (keyOf nd sr)).getD sZero).cells) (b26.keep' f14) rfl fun w27 b27 f27 => ?_⟩⟩
    exact tail (e := 51) b27 ((f526.tr f14).loc f27 (by have := f11.size; omega)) rfl rfl
  · refine ld_int (b1.cat 0 _ rfl) (ld_int (b1.cat 1 _ rfl) (newB fun g25 w26 b26 f26 h26 => ?_))
    refine ⟨⟨b1.cat, (b1.keep' f26).cat⟩, key_spec fun w11 f11 => ⟨_, rfl, ?_⟩⟩
    have f526 := f26.tr f11
    refine rgetT (t5.keep' f526) fun w14 f14 => ⟨_, _, _, _, _, _, _, _, _, _, rfl, stAllB (vs := ((get ilt S.l (keyOf nd sr)).getD sZero).cells) (b26.keep' (f11.tr f14)) rfl fun w27 b27 f27 => ?_⟩
    exact tail (e := 51) b27 ((f526.tr f14).loc f27 (by omega)) rfl rfl
theorem lap_of {S : Sn} {s : Stb} (h2 : s.state = 2) : lapsedB S s now = !liveB s.at_ S.span now := by unfold lapsedB; rw [if_pos h2]
theorem lap_not {S : Sn} {s : Stb} (h2 : ¬ s.state = 2) : lapsedB S s now = false := by unfold lapsedB; rw [if_neg h2]
theorem rstate_spec (t : PR w g ft S) (h : SI S) (hQ : ∀ w', Fr [] w w' → Q (.int .i64 (stateS S nd sr now)) w') : CallR Try.prog 58 #[.pointer (some (at0 g 0)), .agg #[.int .i64 nd, .int .u64 sr], .int .u64 now] w Q := by
  apply X58.sound
  unfold X58.f
  refine newB fun g1 w2 b1 f2 h1 => ld_int (b1.cat 0 _ rfl) (ld_int (b1.cat 1 _ rfl) (rgetS_spec (t.keep' f2) fun w6 f6 => ⟨_, _, _, _, _, _, _, _, _, _, rfl, newB fun g17 w18 b18 f18 h18 => stAllB (vs := ((getS S nd sr).getD sZero).cells) b18 rfl fun w19 b19 f19 => ?_⟩))
  have f06 := f2.tr f6
  have f19' := (f06.tr f18).loc f19 (by have := f06.size; omega)
  unfold stateS at hQ
  cases hg : getS S nd sr with
  | none =>
    rw [hg] at hQ b19
    exact bc_bool (fun _ => hQ _ f19') (fun h => by cases h)
  | some s =>
    rw [hg] at hQ b19
    simp only at hQ
    refine bc_bool (fun h => by cases h) (fun _ => ld_int (b19.cat 2 _ rfl) (bc_eq (fun e2 => ?_) (fun e2 => ld_int (b19.cat 2 _ rfl) ?_)))
    · rw [lap_of (s := s) e2] at hQ
      refine ld_Stb (s := s) b19.cat (ralive_spec (t.keep' f19') h fun w31 f31 => ⟨_, rfl, ?_⟩)
      have hq := hQ w31 (f19'.tr f31)
      refine bc_bool (fun hh => by rw [if_pos hh] at hq; exact hq) (fun hh => ld_int ((b19.keep' f31).cat 2 _ rfl) ?_)
      rw [if_neg (by simp at hh; simp [hh])] at hq
      exact hq
    · rw [lap_not (s := s) e2] at hQ
      exact hQ _ f19'
theorem none_spec (hQ : ∀ w', Fr [] w w' → Q (.bool (decide (nd = 0 ∧ sr = 0))) w') : CallR Try.prog 78 #[.agg #[.int .i64 nd, .int .u64 sr]] w Q := by
  apply X78.sound
  unfold X78.f
  refine newB fun g1 w2 b1 f2 h1 => ld_int (b1.cat 0 _ rfl) (bc_eq (fun h => ld_int (b1.cat 1 _ rfl) ?_) (fun h => ?_))
  · have := hQ w2 f2
    have e : decide (nd = 0 ∧ sr = 0) = (sr == 0) := by
      by_cases hs : sr = 0 <;> simp [h, hs]
    rw [e] at this
    exact this
  · have := hQ w2 f2
    rw [decide_eq_false (fun hh => h hh.1)] at this
    exact this
def idB (nd sr : Int) : Bool := if nd = 0 then sr == 0 else if nd ≥ 1 then if nd ≤ 64 then if sr ≥ 1 then decide (sr ≤ 72057594037927935) else false else false else false
theorem id_spec (hQ : ∀ w', Fr [] w w' → Q (.bool (idB nd sr)) w') : CallR Try.prog 79 #[.agg #[.int .i64 nd, .int .u64 sr]] w Q := by
  apply X79.sound
  unfold X79.f
  unfold idB at hQ
  refine newB fun g1 w2 b1 f2 h1 => ?_
  have hq := hQ w2 f2
  refine ld_int (b1.cat 0 _ rfl) (bc_eq (fun h => ld_int (b1.cat 1 _ rfl) (by rw [if_pos h] at hq; exact hq)) (fun h => ?_))
  rw [if_neg h] at hq
  refine ld_int (b1.cat 0 _ rfl) (bc_dec (fun h => ?_) (fun h => by rw [if_neg h] at hq; exact hq))
  rw [if_pos h] at hq
  refine ld_int (b1.cat 0 _ rfl) (bc_dec (fun h => ?_) (fun h => by rw [if_neg h] at hq; exact hq))
  rw [if_pos h] at hq
  refine ld_int (b1.cat 1 _ rfl) (bc_dec (fun h => ld_int (b1.cat 1 _ rfl) ?_) (fun h => by rw [if_neg h] at hq; exact hq))
  rw [if_pos h] at hq
  exact hq
/-- a new stub -/
theorem rwant_j1 (t : PR w g ft S) (h : SI S) (bx : Blk w gx (idcs nd sr) 40) (hx : gx ∉ ft)
    (hK : AftR w g ft (freshS S nd sr voucher now).1 (.tuple #[.int .i64 (freshS S nd sr voucher now).2.1, .int .i64 (freshS S nd sr voucher now).2.2]) Q) : X56.j1 Q (some (at0 g 0)) voucher now (at0 gx 0) w := by
  unfold X56.j1
  simp only [optP_some]
  have hs := may_stubs h.may
  have hq1 := h.seq1
  have hm := h.dr
  unfold freshS at hK
  refine ld_int t.seq (bc_dec (fun h1 => ?_) (fun h1 => ?_))
  · rw [if_pos (by omega)] at hK
    exact hK.same t (Fr.refl _)
  · rw [if_neg (by omega)] at hK
    refine ld_int t.seq (t.stseq fun w6 t6 f6 => drawn fun w7 f7 _ => ?_)
    have t7 := t6.keep' f7
    have b7 := (bx.keep f6 hx).keep' f7
    refine ld_int (b7.cat 0 _ rfl) (ld_int (b7.cat 1 _ rfl) (key_spec fun w12 f12 => ⟨_, rfl, ?_⟩))
    have t12 := t7.keep' f12
    have b12 := b7.keep' f12
    refine ld_int (b12.cat 0 _ rfl) (ld_int (b12.cat 1 _ rfl) ⟨⟨b7.cat, b12.cat⟩, ld_int t12.seq ⟨⟨t7.seq, t12.seq⟩, ?_⟩⟩)
    rw [add_at]
    refine rputT (s := ⟨nd, sr, 1, IntKind.wrap .u64 (S.seq + 1), voucher, now, now, 0, 1⟩) t12 (by show S.c.stubs ≤ _; omega) fun b ft' w19 t19 f19 e19 => ⟨_, rfl, ?_⟩
    have F := f6.tr (f7.tr f12).any
    have := F.size
    exact hK ft' w19 t19 (F.tr f19) (fun x hx => (e19 x hx).imp id (fun h => by omega))
theorem rwant_j0 {ok tt : Bool} (t : PR w g ft S) (h : SI S) (bx : Blk w gx (idcs nd sr) 40) (hx : gx ∉ ft) (bs : Blk w gs s.cells 51) (hs : gs ∉ ft) (hsx : gs ≠ gx) (ws : W.heap.size ≤ gs) (F : Fr ft W w)
    (hok : ok = (get ilt S.l (keyOf nd sr)).isSome) (hse : s = (get ilt S.l (keyOf nd sr)).getD sZero) (htt : tt = (ok && decide (s.state ≠ 3)))
    (hK : AftR W g ft (match get ilt S.l (keyOf nd sr) with
        | some s => if s.state ≠ 3 then (if lapsedB S s now then (putS S { s with state := 4 }, 4, 0) else (S, s.state, 0)) else freshS S nd sr voucher now
        | none => if (S.l.length : Int) ≥ S.c.stubs then (S, 0, 6) else freshS S nd sr voucher now).1
      (.tuple #[.int .i64 (match get ilt S.l (keyOf nd sr) with
        | some s => if s.state ≠ 3 then (if lapsedB S s now then (putS S { s with state := 4 }, 4, 0) else (S, s.state, 0)) else freshS S nd sr voucher now
        | none => if (S.l.length : Int) ≥ S.c.stubs then (S, 0, 6) else freshS S nd sr voucher now).2.1,
       .int .i64 (match get ilt S.l (keyOf nd sr) with
        | some s => if s.state ≠ 3 then (if lapsedB S s now then (putS S { s with state := 4 }, 4, 0) else (S, s.state, 0)) else freshS S nd sr voucher now
        | none => if (S.l.length : Int) ≥ S.c.stubs then (S, 0, 6) else freshS S nd sr voucher now).2.2]) Q) :
    X56.j0 Q (some (at0 g 0)) voucher now (at0 gx 0) (at0 gs 0) ok tt w := by
  unfold X56.j0
  simp only [optP_some]
  have hst := may_stubs h.may
  have done : ∀ {S' : Sn} {v : Value} {w2 : World}, AftR W g ft S' v Q → PR w2 g ft S' → Fr [] w w2 → Q v w2 := fun hk t2 f2 => hk ft _ t2 (F.tr f2.any) (fun x hx => .inl hx)
  cases hg : get ilt S.l (keyOf nd sr) with
  | none =>
    rw [hg] at hok hse hK
    subst hok; subst hse
    simp only at hK
    refine bc_bool (fun e => by rw [htt] at e; cases e) (fun _ => drawn fun w37 f37 _ => bc_bool (fun _ => ?_) (fun e => by cases e))
    have t37 := t.keep' f37
    obtain ⟨pk, pv, ck, cv, t'⟩ := id t37
    rw [add_at]
    refine ld_sl (by rw [add_at]; exact t'.blk.cell rfl) (ld_int (t37.cfg0 5 _ rfl) (bc_dec (fun hl => ?_) (fun hl => ?_)))
    · rw [if_pos hl] at hK
      exact done hK t37 f37
    · rw [if_neg hl] at hK
      exact rwant_j1 t37 h (bx.keep' f37) hx (hK.next (F.tr f37.any) (fun x hx => .inl hx))
  | some s1 =>
    rw [hg] at hok hse hK
    subst hok; subst hse
    simp only at hK bs
    have hgi := h.geti hg
    by_cases h3 : s.state = 3
    · rw [if_neg (by simp [h3])] at hK
      refine bc_bool (fun e => by rw [htt] at e; simp [h3] at e) (fun _ => drawn fun w37 f37 _ => bc_bool (fun e => by cases e) (fun _ => ?_))
      exact rwant_j1 (t.keep' f37) h (bx.keep' f37) hx (hK.next (F.tr f37.any) (fun x hx => .inl hx))
    · rw [if_pos h3] at hK
      have bs : Blk w gs s.cells 51 := bs
      refine bc_bool (fun _ => ld_int (bs.cat 2 _ rfl) (bc_eq (fun e2 => ?_) (fun e2 => ld_int (bs.cat 2 _ rfl) ?_))) (fun e => by rw [htt] at e; simp [h3] at e)
      · rw [lap_of e2] at hK
        refine ld_Stb (s := s) bs.cat (ralive_spec (s := s) t h fun w12 f12 => ⟨_, rfl, bc_bool (fun hl => ?_) (fun hl => ?_)⟩)
        · rw [hl] at hK
          simp only [if_true] at hK
          have t12 := t.keep' f12
          have bs12 := bs.keep' f12
          have bx12 := bx.keep' f12
          refine stB bs12 (by rw [s.len]; omega) fun w14 b14 f14 => drawn fun w15 f15 _ => ?_
          have b14 : Blk w14 gs ({ s with state := 4 } : Stb).cells 51 := b14
          have t15 := (t12.off hs f14).keep' f15
          have bx15 := (bx12.off1 hsx.symm f14).keep' f15
          have b15 := b14.keep' f15
          refine ld_int (bx15.cat 0 _ rfl) (ld_int (bx15.cat 1 _ rfl) (key_spec fun w20 f20 => ⟨_, rfl, ?_⟩))
          have b20 := b15.keep' f20
          refine ld_Stb (s := { s with state := 4 }) b20.cat ⟨⟨b15.cat, b20.cat⟩, ?_⟩
          rw [add_at]
          refine rputT (s := { s with state := 4 }) (t15.keep' f20) (by omega) fun b ft' w32 t32 f32 e32 => ⟨_, rfl, ?_⟩
          have F20 : Fr ft W w20 := ((F.tr f12.any).loc f14 ws).tr (f15.tr f20).any
          have z := F20.size
          have b32 : Blk w32 gs ({ s with state := 4 } : Stb).cells 51 := b20.keep f32 hs
          refine ld_int (b32.cat 2 _ rfl) ?_
          refine hK ft' w32 ?_ (F20.tr f32) (fun x hx => (e32 x hx).imp id (fun h => by omega))
          unfold putS
          simp only
          rw [← hgi.1]
          exact t32
        · rw [hl] at hK
          simp only [Bool.false_eq_true, if_false] at hK
          exact ld_int ((bs.keep' f12).cat 2 _ rfl) (done hK (t.keep' f12) f12)
      · rw [lap_not e2] at hK
        simp only [Bool.false_eq_true, if_false] at hK
        exact done hK t (Fr.refl _)
theorem rwant_spec (t : PR w g ft S) (h : SI S) (hK : AftR w g ft (wantS S nd sr voucher now).1 (.tuple #[.int .i64 (wantS S nd sr voucher now).2.1, .int .i64 (wantS S nd sr voucher now).2.2]) Q) :
    CallR Try.prog 56 #[.pointer (some (at0 g 0)), .agg #[.int .i64 nd, .int .u64 sr], .int .i64 voucher, .int .u64 now] w Q := by
  apply X56.sound
  unfold X56.f
  simp only [optP_some]
  have mn := may_nodes h.may
  unfold wantS at hK
  have hlt := t.lt
  refine newB fun gx wa bx fa ha => drawn fun wb fb _ => ?_
  have Fb := fa.tr fb
  have bxb := bx.keep' fb
  have tb := t.keep' Fb
  have nx : gx ∉ ft := fun hm => by have := hlt gx hm; omega
  have bad : (farB S nd sr = false ∨ voucher < 1 ∨ voucher > S.c.nodes) → ∀ w', Fr [] w w' → Q (.tuple #[.int .i64 0, .int .i64 1]) w' := fun hb w' f' => by
    rw [if_pos hb] at hK
    exact hK.same t f'
  refine ld_int (bxb.cat 0 _ rfl) (ld_int (bxb.cat 1 _ rfl) (none_spec fun w7 f7 => ⟨_, rfl, bc_bool (fun e => bad (.inl ?_) _ (Fb.tr f7)) (fun e => ?_)⟩))
  · simp at e
    unfold farB
    rw [if_neg (by omega)]
  have bx7 := bxb.keep' f7
  refine ld_int (bx7.cat 0 _ rfl) (ld_int (bx7.cat 1 _ rfl) (id_spec fun w12 f12 => ⟨_, rfl, bc_bool (fun e2 => bad (.inl ?_) _ ((Fb.tr f7).tr f12)) (fun e2 => ?_)⟩))
  · have e2 : idB nd sr = false := by simpa using e2
    unfold idB at e2
    unfold farB
    by_cases a1 : nd = 0
    · rw [if_neg (by omega)]
    · rw [if_neg a1] at e2
      by_cases a2 : nd ≥ 1
      · rw [if_pos a2] at e2 ⊢
        by_cases a3 : nd ≤ 64
        · rw [if_pos a3] at e2
          rw [e2]
          simp
        · rw [if_neg (by omega)]
      · rw [if_neg a2]
  have F12 := (Fb.tr f7).tr f12
  have bx12 := bx7.keep' f12
  have t12 := t.keep' F12
  refine ld_int (bx12.cat 0 _ rfl) (ld_int t12.node (bc_eq (fun e3 => bad (.inl ?_) _ F12) (fun e3 => ?_)))
  · unfold farB
    by_cases a2 : nd ≥ 1
    · rw [if_pos a2]
      by_cases a3 : nd ≤ S.c.nodes
      · rw [if_pos a3, if_neg (fun hn => hn e3)]
      · rw [if_neg a3]
    · rw [if_neg a2]
  refine ld_int (bx12.cat 0 _ rfl) (ld_int (t12.cfg0 0 _ rfl) (bc_dec (fun e4 => bad (.inl ?_) _ F12) (fun e4 => ?_)))
  · unfold farB
    by_cases a2 : nd ≥ 1
    · rw [if_pos a2, if_neg (by omega)]
    · rw [if_neg a2]
  refine bc_dec (fun e5 => bad (.inr (.inl e5)) _ F12) (fun e5 => ld_int (t12.cfg0 0 _ rfl) (bc_dec (fun e6 => bad (.inr (.inr e6)) _ F12) (fun e6 => ?_)))
  have hfar : farB S nd sr = true := by
    have e2 : idB nd sr = true := by simpa using e2
    unfold idB at e2
    have a1 : ¬ nd = 0 := fun h0 => by
      rw [if_pos h0] at e2
      simp at e e2
      exact e h0 e2
    rw [if_neg a1] at e2
    unfold farB
    by_cases a2 : nd ≥ 1
    · rw [if_pos a2] at e2 ⊢
      by_cases a3 : nd ≤ 64
      · rw [if_pos a3] at e2
        rw [if_pos (by omega), if_pos e3, e2]
      · rw [if_neg a3] at e2; cases e2
    · rw [if_neg a2] at e2; cases e2
  rw [if_neg (by rw [hfar]; simp; omega)] at hK
  unfold X56.j3
  refine drawn fun w13 f13 _ => ?_
  have F13 := F12.tr f13
  have t13 := t.keep' F13
  have bx13 := bx12.keep' f13
  have z13 := F13.size
  have l13 := bx13.lt
  have fin : ∀ {w22 : World} {gs : Nat}, Blk w22 gs ((get ilt S.l (keyOf nd sr)).getD sZero).cells 51 → Fr [] w13 w22 → w13.heap.size ≤ gs → X56.j2 Q (some (at0 g 0)) voucher now (at0 gx 0) (at0 gs 0) (get ilt S.l (keyOf nd sr)).isSome w22 := by
    intro w22 gs bs f22 hgs
    have F22 := F13.tr f22
    have t22 := t.keep' F22
    have bx22 := bx13.keep' f22
    have ns : gs ∉ ft := fun hm => by have := hlt gs hm; omega
    unfold X56.j2
    refine bc_bool (fun e => ld_int (bs.cat 2 _ rfl) ?_) (fun e => ?_)
    · refine rwant_j0 (W := w) t22 h bx22 nx bs ns (by omega) (by omega) F22.any rfl rfl ?_ hK
      rw [e, Bool.true_and]
      by_cases h3 : ((get ilt S.l (keyOf nd sr)).getD sZero).state = 3 <;> simp [h3]
    · exact rwant_j0 (W := w) t22 h bx22 nx bs ns (by omega) (by omega) F22.any rfl rfl (by rw [e]; rfl) hK
  simp only [optP_some]
  rw [add_at]
  refine ⟨?_, ?_, ?_⟩
  · refine ld_int (bx13.cat 0 _ rfl) (ld_int (bx13.cat 1 _ rfl) (key_spec fun w6 f6 => ⟨_, rfl, ?_⟩))
    refine rgetT (t13.keep' f6) fun w9 f9 => ⟨_, _, _, _, _, _, _, _, _, _, rfl, newB fun gs w21 b21 f21 h21 => ?_⟩
    have f69 := f6.tr f9
    have f621 := f69.tr f21
    have := f69.size
    refine ⟨⟨(bx13.keep' f69).cat, (bx13.keep' f621).cat⟩, stAllB (vs := ((get ilt S.l (keyOf nd sr)).getD sZero).cells) b21 rfl fun w22 b22 f22 => ?_⟩
    exact fin b22 (f621.loc f22 (by omega)) (by omega)
  · refine ld_int (bx13.cat 0 _ rfl) (ld_int (bx13.cat 1 _ rfl) (key_spec fun w6 f6 => ⟨_, rfl, newB fun gs w21 b21 f21 h21 => ?_⟩))
    have f621 := f6.tr f21
    have := f6.size
    refine ⟨⟨(bx13.keep' f6).cat, (bx13.keep' f621).cat⟩, rgetT (t13.keep' f621) fun w9 f9 => ⟨_, _, _, _, _, _, _, _, _, _, rfl, stAllB (vs := ((get ilt S.l (keyOf nd sr)).getD sZero).cells) (b21.keep' f9) rfl fun w22 b22 f22 => ?_⟩⟩
    exact fin b22 ((f621.tr f9).loc f22 (by omega)) (by omega)
  · refine ld_int (bx13.cat 0 _ rfl) (ld_int (bx13.cat 1 _ rfl) (newB fun gs w21 b21 f21 h21 => ?_))
    refine ⟨⟨bx13.cat, (bx13.keep' f21).cat⟩, key_spec fun w6 f6 => ⟨_, rfl, ?_⟩⟩
    have f621 := f21.tr f6
    refine rgetT (t13.keep' f621) fun w9 f9 => ⟨_, _, _, _, _, _, _, _, _, _, rfl, stAllB (vs := ((get ilt S.l (keyOf nd sr)).getD sZero).cells) (b21.keep' (f6.tr f9)) rfl fun w22 b22 f22 => ?_⟩
    exact fin b22 ((f621.tr f9).loc f22 (by omega)) (by omega)
end
end Go.Proofs.YtglininpmfgggaaX
namespace Go.Proofs.YtglininpmfgggaaX
open Go.RowKit
set_option linter.unusedVariables false
set_option linter.unusedSimpArgs false
set_option maxRecDepth 100000
def RStepEnd (Q : Value → World → Prop) (t4 t10 : Addr) (t11 : Bool) (v94 : Value) (w95 : World) : Prop := ∃ (y96 : Bool), v94 = .bool y96 ∧ bcase (!t11) (stAll w95 t4 [.int .i64 (0 : Int), .int .i64 (0 : Int), .int .i64 (0 : Int), .int .u64 (0 : Int), .int .u64 (0 : Int), .int .i64 (0 : Int), .int .i64 (0 : Int), .int .i64 (0 : Int), .int .i64 (0 : Int), .int .u64 (0 : Int), .slice none 0 0, .int .u64 (0 : Int), .int .i64 (0 : Int), .int .u64 (0 : Int), .int .i64 (0 : Int), .int .u64 (0 : Int), .int .i64 (0 : Int), .int .u64 (0 : Int), .slice none 0 0] fun w97 => ldI .i64 w97 (t4.add 0) fun x98 => ldI .i64 w97 (t4.add 1) fun x99 => ldI .i64 w97 (t4.add 2) fun x100 => ldI .u64 w97 (t4.add 3) fun x101 => ldI .u64 w97 (t4.add 4) fun x102 => ldI .i64 w97 (t4.add 5) fun x103 => ldI .i64 w97 (t4.add 6) fun x104 => ldI .i64 w97 (t4.add 7) fun x105 => ldI .i64 w97 (t4.add 8) fun x106 => ldI .u64 w97 (t4.add 9) fun x107 => ldSl w97 (t4.add 10) fun x108p x108n x108c => ldI .u64 w97 (t4.add 11) fun x109 => ldI .i64 w97 (t4.add 12) fun x110 => ldI .u64 w97 (t4.add 13) fun x111 => ldI .i64 w97 (t4.add 14) fun x112 => ldI .u64 w97 (t4.add 15) fun x113 => ldI .i64 w97 (t4.add 16) fun x114 => ldI .u64 w97 (t4.add 17) fun x115 => ldSl w97 (t4.add 18) fun x116p x116n x116c => Q (.tuple #[.agg #[.int .i64 x98, .int .i64 x99, .int .i64 x100, .int .u64 x101, .int .u64 x102, .int .i64 x103, .int .i64 x104, .int .i64 x105, .int .i64 x106, .int .u64 x107, .slice x108p x108n x108c, .int .u64 x109, .int .i64 x110, .int .u64 x111, .int .i64 x112, .int .u64 x113, .int .i64 x114, .int .u64 x115, .slice x116p x116n x116c], .bool false]) w97) (ldI .i64 w95 (t10.add 0) fun x117 => ldI .i64 w95 (t10.add 1) fun x118 => ldI .i64 w95 (t10.add 2) fun x119 => ldI .u64 w95 (t10.add 3) fun x120 => ldI .u64 w95 (t10.add 4) fun x121 => ldI .i64 w95 (t10.add 5) fun x122 => ldI .i64 w95 (t10.add 6) fun x123 => ldI .i64 w95 (t10.add 7) fun x124 => ldI .i64 w95 (t10.add 8) fun x125 => ldI .u64 w95 (t10.add 9) fun x126 => ldSl w95 (t10.add 10) fun x127p x127n x127c => ldI .u64 w95 (t10.add 11) fun x128 => ldI .i64 w95 (t10.add 12) fun x129 => ldI .u64 w95 (t10.add 13) fun x130 => ldI .i64 w95 (t10.add 14) fun x131 => ldI .u64 w95 (t10.add 15) fun x132 => ldI .i64 w95 (t10.add 16) fun x133 => ldI .u64 w95 (t10.add 17) fun x134 => ldSl w95 (t10.add 18) fun x135p x135n x135c => stAll w95 t4 [.int .i64 x117, .int .i64 x118, .int .i64 x119, .int .u64 x120, .int .u64 x121, .int .i64 x122, .int .i64 x123, .int .i64 x124, .int .i64 x125, .int .u64 x126, .slice x127p x127n x127c, .int .u64 x128, .int .i64 x129, .int .u64 x130, .int .i64 x131, .int .u64 x132, .int .i64 x133, .int .u64 x134, .slice x135p x135n x135c] fun w136 => ldI .i64 w136 (t4.add 0) fun x137 => ldI .i64 w136 (t4.add 1) fun x138 => ldI .i64 w136 (t4.add 2) fun x139 => ldI .u64 w136 (t4.add 3) fun x140 => ldI .u64 w136 (t4.add 4) fun x141 => ldI .i64 w136 (t4.add 5) fun x142 => ldI .i64 w136 (t4.add 6) fun x143 => ldI .i64 w136 (t4.add 7) fun x144 => ldI .i64 w136 (t4.add 8) fun x145 => ldI .u64 w136 (t4.add 9) fun x146 => ldSl w136 (t4.add 10) fun x147p x147n x147c => ldI .u64 w136 (t4.add 11) fun x148 => ldI .i64 w136 (t4.add 12) fun x149 => ldI .u64 w136 (t4.add 13) fun x150 => ldI .i64 w136 (t4.add 14) fun x151 => ldI .u64 w136 (t4.add 15) fun x152 => ldI .i64 w136 (t4.add 16) fun x153 => ldI .u64 w136 (t4.add 17) fun x154 => ldSl w136 (t4.add 18) fun x155p x155n x155c => Q (.tuple #[.agg #[.int .i64 x137, .int .i64 x138, .int .i64 x139, .int .u64 x140, .int .u64 x141, .int .i64 x142, .int .i64 x143, .int .i64 x144, .int .i64 x145, .int .u64 x146, .slice x147p x147n x147c, .int .u64 x148, .int .i64 x149, .int .u64 x150, .int .i64 x151, .int .u64 x152, .int .i64 x153, .int .u64 x154, .slice x155p x155n x155c], .bool true]) w136)
def RToldEnd (Q : Value → World → Prop) (t0 : Option Addr) (t7 g10 : Addr) (w63 : World) : Prop := drewK w63 fun w105 => optP t0 fun p106 => ldI .i64 w105 ((t7.add 0).add 0) fun x107 => ldI .u64 w105 ((t7.add 0).add 1) fun x108 => CallR Try.prog 30 #[.agg #[.int .i64 x107, .int .u64 x108]] w105 fun v109 w110 => ∃ (y111 : Int), v109 = .int .u64 y111 ∧ ldI .i64 w110 (t7.add 0) fun x112 => ldI .u64 w110 (t7.add 1) fun x113 => ldI .i64 w110 (t7.add 2) fun x114 => ldI .u64 w110 (t7.add 3) fun x115 => ldI .i64 w110 (t7.add 4) fun x116 => ldI .u64 w110 (t7.add 5) fun x117 => ldI .u64 w110 (t7.add 6) fun x118 => ldI .u64 w110 (t7.add 7) fun x119 => ldI .i64 w110 (t7.add 8) fun x120 => ((∀ j u, ([.int .i64 x112, .int .u64 x113, .int .i64 x114, .int .u64 x115, .int .i64 x116, .int .u64 x117, .int .u64 x118, .int .u64 x119, .int .i64 x120] : List Value)[j]? = some u → World.cell? w105 (t7.add j) = some u) ∧ (∀ j u, ([.int .i64 x112, .int .u64 x113, .int .i64 x114, .int .u64 x115, .int .i64 x116, .int .u64 x117, .int .u64 x118, .int .u64 x119, .int .i64 x120] : List Value)[j]? = some u → World.cell? w110 (t7.add j) = some u)) ∧ CallR Try.prog 73 #[.pointer (some (p106.add 24)), .int .u64 y111, .agg #[.int .i64 x112, .int .u64 x113, .int .i64 x114, .int .u64 x115, .int .i64 x116, .int .u64 x117, .int .u64 x118, .int .u64 x119, .int .i64 x120]] w110 fun v121 w122 => ∃ (y123 : Bool), v121 = .bool y123 ∧ ldI .i64 w122 (t7.add 0) fun x124 => ldI .u64 w122 (t7.add 1) fun x125 => ldI .i64 w122 (t7.add 2) fun x126 => ldI .u64 w122 (t7.add 3) fun x127 => ldI .i64 w122 (t7.add 4) fun x128 => ldI .u64 w122 (t7.add 5) fun x129 => ldI .u64 w122 (t7.add 6) fun x130 => ldI .u64 w122 (t7.add 7) fun x131 => ldI .i64 w122 (t7.add 8) fun x132 => ldI .i64 w122 (g10.add 0) fun x133 => ldI .u64 w122 (g10.add 1) fun x134 => ldI .i64 w122 (g10.add 2) fun x135 => ldI .u64 w122 (g10.add 3) fun x136 => ldI .i64 w122 (g10.add 4) fun x137 => ldI .u64 w122 (g10.add 5) fun x138 => ldI .u64 w122 (g10.add 6) fun x139 => ldI .u64 w122 (g10.add 7) fun x140 => ldI .i64 w122 (g10.add 8) fun x141 => isStruct Try.prog 51 ∧ Q (.bool (!(((x124 == x133) && ((x125 == x134) && true)) && ((x126 == x135) && ((x127 == x136) && ((x128 == x137) && ((x129 == x138) && ((x130 == x139) && ((x131 == x140) && ((x132 == x141) && true)))))))))) w122
section
variable {w w' W : World} {Q : Value → World → Prop} {g gs gm g1 gx g9 : Nat} {ft ft' : List Nat} {S S' : Sn} {nd sr now k v voucher : Int} {s s' : Stb} {m m' : Msg} {c : Cfg}
/-- a turn under way -/
structure StR (W w : World) (g : Nat) (ft : List Nat) (S : Sn) (s : Stb) (m : Msg) (gs gm g1 : Nat) : Prop where
  t : PR w g ft S
  bs : Blk w gs s.cells 51
  bm : Blk w gm m.cells 47
  b1 : Blk w g1 mZero.cells 47
  ns : gs ∉ ft
  nm : gm ∉ ft
  n1 : g1 ∉ ft
  sm : gs ≠ gm
  s1 : gs ≠ g1
  m1 : gm ≠ g1
  ws : W.heap.size ≤ gs
  wm : W.heap.size ≤ gm
  w1 : W.heap.size ≤ g1
  F : Fr ft W w
theorem StR.keep' (h : StR W w g ft S s m gs gm g1) (f : Fr [] w w') : StR W w' g ft S s m gs gm g1 :=
  ⟨h.t.keep' f, h.bs.keep' f, h.bm.keep' f, h.b1.keep' f, h.ns, h.nm, h.n1, h.sm, h.s1, h.m1, h.ws, h.wm, h.w1, h.F.tr f.any⟩
theorem StR.msg (h : StR W w g ft S s m gs gm g1) (m' : Msg) {K : World → Prop} (hK : ∀ w', StR W w' g ft S s m' gs gm g1 → K w') : stAll w (at0 gm 0) m'.cells K :=
  stAllB h.bm rfl fun w' b f => hK w' ⟨h.t.off h.nm f, h.bs.off1 h.sm f, b, h.b1.off1 h.m1.symm f, h.ns, h.nm, h.n1, h.sm, h.s1, h.m1, h.ws, h.wm, h.w1, h.F.loc f h.wm⟩
theorem StR.stub (h : StR W w g ft S s m gs gm g1) {i : Nat} {v : Value} (s' : Stb) (hi : i < 9) (he : s.cells.set i v = s'.cells) {K : World → Prop} (hK : ∀ w', StR W w' g ft S s' m gs gm g1 → K w') : stK w ((at0 gs 0).add i) v K :=
  stB h.bs (by rw [s.len]; exact hi) fun w' b f => hK w' ⟨h.t.off h.ns f, by rw [← he]; exact b, h.bm.off1 h.sm.symm f, h.b1.off1 h.s1.symm f, h.ns, h.nm, h.n1, h.sm, h.s1, h.m1, h.ws, h.wm, h.w1, h.F.loc f h.ws⟩
theorem rstep_end {t11 : Bool} (h : StR W w g ft S s m gs gm g1) (hi : SI S) (hK : AftR W g ft { S with l := putF S.c.stubs S.l k s } (.tuple #[(if t11 then m else mZero).val, .bool t11]) Q) :
    CallR Try.prog 73 #[.pointer (some (at0 g 24)), .int .u64 k, s.val] w (RStepEnd Q (at0 g1 0) (at0 gm 0) t11) := by
  have hst := may_stubs hi.may
  refine rputT (s := s) h.t (by omega) fun b ft' w95 t95 f95 e95 => ?_
  unfold RStepEnd
  have bm := h.bm.keep f95 h.nm
  have b1 := h.b1.keep f95 h.n1
  have hsz := h.F.size
  have l1 := h.b1.lt
  have n1' : g1 ∉ ft' := fun hm => by
    rcases e95 g1 hm with h' | h'
    · exact h.n1 h'
    · omega
  have fin : ∀ {w136 : World} {v : Value}, AftR W g ft { S with l := putF S.c.stubs S.l k s } v Q → Fr [g1] w95 w136 → Q v w136 := fun hk f => hk ft' _ (t95.off n1' f) ((h.F.tr f95).loc f h.w1) (fun x hx => (e95 x hx).imp id (fun h => by omega))
  refine ⟨_, rfl, ?_⟩
  cases t11 with
  | true => exact bc_bool (fun e => by cases e) (fun _ => ld_Msg (s := m) bm.cat (stAllB (vs := m.cells) b1 rfl fun w136 b136 f136 => ld_Msg (s := m) b136.cat (fin hK f136)))
  | false => exact bc_bool (fun _ => stAllB (vs := mZero.cells) b1 rfl fun w97 b97 f97 => ld_Msg (s := mZero) b97.cat (fin hK f97)) (fun e => by cases e)
theorem rstep_j1 {t11 : Bool} (h : StR W w g ft S s m gs gm g1) (hi : SI S) (hK : AftR W g ft { S with l := putF S.c.stubs S.l k s } (.tuple #[(if t11 then (if s.state = 3 then cleanM S s else m) else mZero).val, .bool t11]) Q) :
    X51.j1 Q (some (at0 g 0)) (at0 g1 0) k (at0 gs 0) (at0 gm 0) t11 w := by
  unfold X51.j1
  simp only [optP_some]
  refine ld_int (h.bs.cat 2 _ rfl) (bc_eq (fun e => ?_) (fun e => ?_))
  · rw [if_pos e] at hK
    refine drawn fun w2 f2 _ => ?_
    have h2 := h.keep' f2
    refine ld_int h2.t.node (ld_int (h2.bs.cat.sub 0 0 rfl) (ld_int (h2.bs.cat.sub 0 0 rfl) (ld_int (h2.bs.cat.sub 0 1 rfl) (ld_int (h2.bs.cat 3 _ rfl) (h2.msg (cleanM S s) fun w9 h9 => drawn fun w10 f10 _ => ?_)))))
    have h10 := h9.keep' f10
    rw [add_at g 0 24]
    exact ld_Stb (s := s) h10.bs.cat (rstep_end h10 hi hK)
  · rw [if_neg e] at hK
    refine drawn fun w2 f2 _ => ?_
    have h2 := h.keep' f2
    rw [add_at g 0 24]
    exact ld_Stb (s := s) h2.bs.cat (rstep_end h2 hi hK)
theorem rstep_j2 {t11 : Bool} (h : StR W w g ft S s m gs gm g1) (hi : SI S) (hK : AftR W g ft { S with l := putF S.c.stubs S.l k (if t11 then { s with sent := now } else s) } (.tuple #[(if t11 then (if s.state = 3 then cleanM S s else m) else mZero).val, .bool t11]) Q) :
    X51.j2 Q (some (at0 g 0)) now (at0 g1 0) k (at0 gs 0) (at0 gm 0) t11 w := by
  unfold X51.j2
  cases t11 with
  | true => exact bc_bool (fun _ => h.stub { s with sent := now } (by omega) rfl fun w1 h1 => rstep_j1 h1 hi hK) (fun e => by cases e)
  | false => exact bc_bool (fun e => by cases e) (fun _ => rstep_j1 h hi hK)
theorem rstep_j0 {t57 : Bool} (h : StR W w g ft S s (dirtyM S s now) gs gm g1) (hi : SI S) (hw : StW s) (h57 : t57 = decide (s.state = 1 ∨ s.state = 3))
    (hK : AftR W g ft { S with l := putF S.c.stubs S.l k (turnS S s now).1 } (.tuple #[(turnS S s now).2.val, .bool ((turnS S s now).2.kind != 0)]) Q) :
    X51.j0 Q (some (at0 g 0)) now (at0 g1 0) k (at0 gs 0) (at0 gm 0) false s.state t57 w := by
  unfold X51.j0
  simp only [optP_some]
  have mw := may_wait hi.may
  have h1 := hw.s1
  have h4 := hw.s4
  refine bc_bool (fun e => ?_) (fun e => ?_)
  · have hs : s.state = 1 ∨ s.state = 3 := by rw [e] at h57; simpa using h57.symm
    refine ld_int (h.bs.cat 6 _ rfl) (ld_int (h.bs.cat 7 _ rfl) (rpast_spec ⟨_, rfl, bc_bool (fun hp => drawn fun w6 f6 _ => ?_) (fun hp => ?_)⟩))
    · have h6 := h.keep' f6
      refine ld_int (h6.bs.cat 7 _ rfl) (ld_int (h6.t.cfg0 14 _ rfl) (ld_int (h6.t.cfg0 15 _ rfl) (rwait_spec hw.wt (by omega) (by omega) ⟨_, rfl, h6.stub { s with wait := waitN s.wait S.c.wait S.c.most } (by omega) rfl fun w15 h15 => ?_⟩)))
      rw [hp]
      refine rstep_j2 h15 hi ?_
      rcases hs with hs | hs
      · have ht : turnS S s now = (sentS S s now, dirtyM S s now) := by unfold turnS; rw [if_pos ⟨hs, hp⟩]
        rw [ht] at hK
        rw [if_neg (show ¬ ({ s with wait := waitN s.wait S.c.wait S.c.most } : Stb).state = 3 from (by omega : ¬ s.state = 3))]
        exact hK
      · have ht : turnS S s now = (sentS S s now, cleanM S s) := by
          unfold turnS; rw [if_neg (by omega), lap_not (by omega), if_neg (by simp), if_neg (by omega), if_pos ⟨hs, hp⟩]
        rw [ht] at hK
        rw [if_pos (show ({ s with wait := waitN s.wait S.c.wait S.c.most } : Stb).state = 3 from hs)]
        exact hK
    · rw [hp]
      have ht : turnS S s now = (s, mZero) := by
        unfold turnS
        rcases hs with hs | hs
        · rw [if_neg (by simp [hp]), lap_not (by omega), if_neg (by simp), if_neg (by omega), if_neg (by omega)]
        · rw [if_neg (by omega), lap_not (by omega), if_neg (by simp), if_neg (by omega), if_neg (by simp [hp])]
      rw [ht] at hK
      exact rstep_j2 h hi hK
  · have hs : ¬ (s.state = 1 ∨ s.state = 3) := by rw [e] at h57; simpa using h57.symm
    refine bc_eq (fun e2 => ?_) (fun e2 => ?_)
    · refine ld_Stb (s := s) h.bs.cat (ralive_spec (s := s) h.t hi fun w26 f26 => ⟨_, rfl, bc_bool (fun hl => ?_) (fun hl => drawn fun w29 f29 _ => ?_)⟩)
      · have ht : turnS S s now = ({ s with state := 4 }, mZero) := by
          unfold turnS; rw [if_neg (by omega), lap_of e2, if_pos hl]
        rw [ht] at hK
        exact (h.keep' f26).stub { s with state := 4 } (by omega) rfl fun w28 h28 => rstep_j2 h28 hi hK
      · have h29 := (h.keep' f26).keep' f29
        refine ld_int (h29.bs.cat 6 _ rfl) (ld_Cfg (s := S.c) h29.t.cfg0 (rspan_spec hi.may hi.dr fun w55 f55 => ⟨_, rfl, ⟨h29.bs.cat 6 _ rfl, (h29.keep' f55).bs.cat 6 _ rfl⟩, revery_spec ⟨_, rfl, ⟨(h29.keep' f55).bs.cat 6 _ rfl, (h29.keep' f55).bs.cat 6 _ rfl⟩, rpast_spec ⟨_, rfl, ?_⟩⟩⟩))
        rw [← hi.span]
        refine rstep_j2 (h29.keep' f55) hi ?_
        rw [if_neg (show ¬ s.state = 3 by omega)]
        have hl : lapsedB S s now = false := by rw [lap_of e2]; exact hl
        cases hp : pastB s.sent (everyN S.span) now with
        | true =>
          have ht : turnS S s now = ({ s with sent := now }, dirtyM S s now) := by
            unfold turnS; rw [if_neg (by omega), hl, if_neg (by simp), if_pos ⟨e2, hp⟩]
          rw [ht] at hK
          exact hK
        | false =>
          have ht : turnS S s now = (s, mZero) := by
            unfold turnS; rw [if_neg (by omega), hl, if_neg (by simp), if_neg (by simp [hp]), if_neg (by omega)]
          rw [ht] at hK
          exact hK
    · have ht : turnS S s now = (s, mZero) := by
        unfold turnS; rw [if_neg (by omega), lap_not e2, if_neg (by simp), if_neg (by omega), if_neg (by omega)]
      rw [ht] at hK
      exact rstep_j2 h hi hK
theorem rstep_spec (t : PR w g ft S) (hi : SI S) (hK : AftR w g ft (stepS S now).1 (.tuple #[(stepS S now).2.1.val, .bool (stepS S now).2.2]) Q) : CallR Try.prog 51 #[.pointer (some (at0 g 0)), .int .u64 now] w Q := by
  apply X51.sound
  unfold X51.f
  simp only [optP_some]
  have hlt := t.lt
  rw [add_at g 0 24]
  refine newB fun g1 w2 b1 f2 h1 => drawn fun w3 f3 _ => ?_
  have F3 := f2.tr f3
  have t3 := t.keep' F3
  have b1 := b1.keep' f3
  have s2 := f2.size
  have l1 := b1.lt
  unfold stepS at hK
  refine ld_int t3.last (rafterT t3 ⟨_, _, rfl, ?_⟩)
  cases ha : after ilt S.l S.last with
  | none =>
    rw [ha] at hK
    refine bc_bool (fun _ => stAllB (vs := mZero.cells) b1 rfl fun w12 b12 f12 => ld_Msg (s := mZero) b12.cat ?_) (fun h => by cases h)
    exact hK.same t (F3.loc f12 h1)
  | some k =>
    rw [ha] at hK
    simp only at hK
    have hsome : ∃ s, get ilt S.l k = some s := by
      by_cases hn : 0 < S.l.length
      · obtain ⟨p, hp, hk⟩ := after_some hn S.last
        rw [ha] at hk
        cases hg : get ilt S.l k with
        | some s => exact ⟨s, rfl⟩
        | none => exact absurd (List.mem_of_getElem? hk.symm) ((get_none ilt_lin hi.srt).1 hg)
      · rw [after_none (by omega)] at ha; cases ha
    obtain ⟨s, hg⟩ := hsome
    rw [hg] at hK
    simp only [Option.getD_some] at hK
    obtain ⟨hke, hsw⟩ := hi.geti hg
    refine bc_bool (fun h => by cases h) (fun _ => t3.stlast fun w33 t33 f33 => ?_)
    have F33 : Fr ft w w33 := F3.any.tr f33
    have n1 : g1 ∉ ft := fun hm => by have := hlt g1 hm; omega
    have b1 := b1.keep f33 n1
    refine rgetT t33 fun w37 f37 => ⟨_, _, _, _, _, _, _, _, _, _, rfl, ?_⟩
    have t37 := t33.keep' f37
    have b1 := b1.keep' f37
    have F37 := F33.tr f37.any
    have e0 : ((get ilt ({ S with last := (some k).getD 0 } : Sn).l ((some k).getD 0)).getD sZero) = s := by
      show (get ilt S.l k).getD sZero = s
      rw [hg]; rfl
    rw [e0]
    refine newB fun gs w49 b49 f49 h49 => stAllB (vs := s.cells) b49 rfl fun w50 b50 f50 => ?_
    have s37 := F37.size
    have s33 := f33.size
    have s7 := f37.size
    have ns : gs ∉ ft := fun hm => by have := hlt gs hm; omega
    have t50 := (t37.keep' f49).off ns f50
    have b1n : g1 ≠ gs := by omega
    have b1 := (b1.keep' f49).off1 b1n f50
    have F50 : Fr ft w w50 := (F37.tr f49.any).loc f50 (by omega)
    have z50 : w37.heap.size ≤ w50.heap.size := Nat.le_trans f49.size f50.size
    have ls := b50.lt
    refine drawn fun w51 f51 _ => ?_
    have t51 := t50.keep' f51
    have b51 := b50.keep' f51
    have b1 := b1.keep' f51
    have F51 := F50.tr f51.any
    have z51 := f51.size
    refine ld_int t51.node (ld_int (b51.cat.sub 0 0 rfl) (ld_int (b51.cat.sub 0 0 rfl) (ld_int (b51.cat.sub 0 1 rfl) (ld_int (b51.cat 3 _ rfl) (ld_int (b51.cat 4 _ rfl) (ld_int (b51.cat 8 _ rfl) (newB fun gm w59 bm f59 h59 => ?_)))))))
    have nm : gm ∉ ft := fun hm => by have := hlt gm hm; omega
    have t59 := t51.keep' f59
    have b59 := b51.keep' f59
    have ids : ∀ {w : World}, Blk w gs s.cells 51 → ∀ j u, ([.int .i64 s.nd, .int .u64 s.sr] : List Value)[j]? = some u → w.cell? (((at0 gs 0).add 0).add j) = some u := fun b j u hj => by
      refine b.cat.sub 0 j ?_
      match j, hj with
      | 0, hj => exact hj
      | 1, hj => exact hj
    refine ⟨⟨b51.cat 8 _ rfl, b59.cat 8 _ rfl⟩, ⟨b51.cat 4 _ rfl, b59.cat 4 _ rfl⟩, ⟨b51.cat 3 _ rfl, b59.cat 3 _ rfl⟩, ⟨ids b51, ids b59⟩, ⟨b51.cat.sub 0 0 rfl, b59.cat.sub 0 0 rfl⟩, ⟨t51.node, t59.node⟩, ?_⟩
    refine stAllB (vs := (dirtyM S s now).cells) bm rfl fun w60 bm60 f60 => ?_
    have lm := bm.lt
    have C : StR w w60 g ft { S with last := (some k).getD 0 } s (dirtyM S s now) gs gm g1 := ⟨t59.off nm f60, b59.off1 (by omega) f60, bm60, (b1.keep' f59).off1 (by have := b1.lt; omega) f60, ns, nm, n1, by omega, by omega, by have := b1.lt; omega, by omega, by omega, h1, (F51.tr f59.any).loc f60 (by omega)⟩
    have hK2 : AftR w g ft { ({ S with last := (some k).getD 0 } : Sn) with l := putF S.c.stubs S.l k (turnS S s now).1 } (.tuple #[(turnS S s now).2.val, .bool ((turnS S s now).2.kind != 0)]) Q := by
      have tw := turn_wf (now := now) hi hsw
      have : putS { S with last := k } (turnS S s now).1 = { ({ S with last := (some k).getD 0 } : Sn) with l := putF S.c.stubs S.l k (turnS S s now).1 } := by
        unfold putS
        rw [tw.2.1, tw.2.2, ← hke]
        rfl
      rw [this] at hK
      exact hK
    have hi2 : SI { S with last := (some k).getD 0 } := hi.last
    refine ld_int (C.bs.cat 2 _ rfl) (bc_eq (fun e1 => ?_) (fun e1 => ?_))
    · exact rstep_j0 C hi2 hsw (by simp [e1]) hK2
    · refine rstep_j0 C hi2 hsw ?_ hK2
      by_cases h3 : s.state = 3 <;> simp [e1, h3]
theorem rtold_end (t : PR w g ft S) (hi : SI S) (bs : Blk w gs s'.cells 51) (b9 : Blk w g9 s.cells 51) (ns : gs ∉ ft) (n9 : g9 ∉ ft) (F : Fr ft W w)
    (hK : AftR W g ft (putS S s') (.bool (decide (s' ≠ s))) Q) : RToldEnd Q (some (at0 g 0)) (at0 gs 0) (at0 g9 0) w := by
  unfold RToldEnd
  simp only [optP_some]
  have hst := may_stubs hi.may
  refine drawn fun w2 f2 _ => ?_
  have t2 := t.keep' f2
  have bs2 := bs.keep' f2
  refine ld_int (bs2.cat.sub 0 0 rfl) (ld_int (bs2.cat.sub 0 1 rfl) (key_spec fun w3 f3 => ⟨_, rfl, ?_⟩))
  have bs3 := bs2.keep' f3
  have F3 := f2.tr f3
  have z := F.size
  have z3 := F3.size
  rw [add_at g 0 24]
  refine ld_Stb (s := s') bs3.cat ⟨⟨bs2.cat, bs3.cat⟩, rputT (s := s') (t2.keep' f3) (by omega) fun b ft' w4 t4 f4 e4 => ⟨_, rfl, ?_⟩⟩
  refine ld_Stb (s := s') (bs3.keep f4 ns).cat (ld_Stb (s := s) ((b9.keep' F3).keep f4 n9).cat ⟨isS51, ?_⟩)
  rw [stb_ne s' s]
  exact hK ft' w4 t4 ((F.tr F3.any).tr f4) (fun x hx => (e4 x hx).imp id (fun h => by omega))
theorem rtold_j0 (t : PR w g ft S) (hi : SI S) (bm : Blk w gm m.cells 47) (bs : Blk w gs s.cells 51) (nm : gm ≠ gs) (ns : gs ∉ ft) (F : Fr ft W w) (ws : W.heap.size ≤ gs) (hs : s.state = 1 ∨ s.state = 2)
    (hK : AftR W g ft (putS S (tellS S m s now)) (.bool (decide (tellS S m s now ≠ s))) Q) : X53.j0 Q (some (at0 g 0)) now (at0 gm 0) (at0 gs 0) w := by
  unfold X53.j0
  simp only [optP_some]
  have hlt := t.lt
  have ls := bs.lt
  have lm := bm.lt
  have z := F.size
  refine ld_Stb (s := s) bs.cat (newB fun g9 w11 b9 f11 h11 => stAllB (vs := s.cells) b9 rfl fun w12 b12 f12 => ?_)
  have n9 : g9 ∉ ft := fun hm => by have := hlt g9 hm; omega
  have n9' : g9 ≠ gs := by omega
  have t12 := (t.keep' f11).off n9 f12
  have bm12 := (bm.keep' f11).off1 (by omega) f12
  have bs12 := (bs.keep' f11).off1 n9'.symm f12
  have F12 : Fr ft W w12 := (F.tr f11.any).loc f12 (by omega)
  unfold tellS at hK
  refine ld_int (bm12.cat 12 _ rfl) (bc_ne (fun hc => ?_) (fun hc => ?_))
  · rw [if_pos (.inl hc)] at hK
    refine stB bs12 (by rw [s.len]; omega) fun w14 b14 f14 => ?_
    exact rtold_end (s' := { s with state := 4 }) (t12.off ns f14) hi b14 (b12.off1 n9' f14) ns n9 (F12.loc f14 ws) hK
  · refine ld_int (bs12.cat 2 _ rfl) (bc_eq (fun e2 => ?_) (fun e2 => ?_))
    · rw [if_neg (by simp [hc, e2])] at hK
      refine ld_Stb (s := s) bs12.cat (ralive_spec (s := s) t12 hi fun w63 f63 => ⟨_, rfl, bc_bool (fun hl => ?_) (fun hl => ?_)⟩)
      · rw [lap_of e2, hl, if_neg (by simp), if_neg (by omega)] at hK
        have t63 := t12.keep' f63
        have bs63 := bs12.keep' f63
        have bm63 := bm12.keep' f63
        have b63 := b12.keep' f63
        refine ld_int (bs63.cat 5 _ rfl) (ld_int (bm63.cat 15 _ rfl) (stB bs63 (by rw [s.len]; omega) fun w67 b67 f67 => ?_))
        exact rtold_end (s' := { s with at_ := max2 s.at_ m.at_ }) (t63.off ns f67) hi b67 (b63.off1 n9' f67) ns n9 ((F12.tr f63.any).loc f67 ws) hK
      · rw [lap_of e2, hl, if_pos (by simp)] at hK
        exact rtold_end (s' := s) (t12.keep' f63) hi (bs12.keep' f63) (b12.keep' f63) ns n9 (F12.tr f63.any) hK
    · have e1 : s.state = 1 := by omega
      refine drawn fun w142 f142 _ => ?_
      have t142 := t12.keep' f142
      have bm142 := bm12.keep' f142
      refine ld_int (bm142.cat 15 _ rfl) (ld_Cfg (s := S.c) t142.cfg0 (rspan_spec hi.may hi.dr fun w168 f168 => ⟨_, rfl, ⟨bm142.cat 15 _ rfl, (bm142.keep' f168).cat 15 _ rfl⟩, rlive_spec ⟨_, rfl, ?_⟩⟩))
      rw [← hi.span]
      have f171 := f142.tr f168
      have t171 := t12.keep' f171
      have bs171 := bs12.keep' f171
      have bm171 := bm12.keep' f171
      have b171 := b12.keep' f171
      have F171 := F12.tr (f171.any (T := ft))
      refine bc_bool (fun hl => ?_) (fun hl => ?_)
      · rw [if_neg (by simp [hc, hl]), lap_not (by omega), if_neg (by simp), if_pos e1] at hK
        refine stB bs171 (by rw [s.len]; omega) fun w173 b173 f173 => ?_
        have bm173 := bm171.off1 nm f173
        refine ld_int (bm173.cat 15 _ rfl) (stB b173 (by rw [List.length_set, s.len]; omega) fun w175 b175 f175 => ?_)
        exact rtold_end (s' := { s with state := 2, at_ := m.at_ }) ((t171.off ns f173).off ns f175) hi b175 ((b171.off1 n9' f173).off1 n9' f175) ns n9 ((F171.loc f173 ws).loc f175 ws) hK
      · rw [if_pos (.inr ⟨e1, hl⟩)] at hK
        refine stB bs171 (by rw [s.len]; omega) fun w213 b213 f213 => ?_
        exact rtold_end (s' := { s with state := 4 }) (t171.off ns f213) hi b213 (b171.off1 n9' f213) ns n9 (F171.loc f213 ws) hK
theorem rtold_spec (t : PR w g ft S) (hi : SI S) (hK : AftR w g ft (toldS S m now).1 (.bool (toldS S m now).2) Q) : CallR Try.prog 53 #[.pointer (some (at0 g 0)), m.val, .int .u64 now] w Q := by
  apply X53.sound
  unfold X53.f
  simp only [optP_some]
  have hlt := t.lt
  refine newB fun gm w2 bm f2 hgm => ?_
  have bm : Blk w2 gm m.cells 47 := bm
  refine ld_int (bm.cat.sub 8 0 rfl) (ld_int (bm.cat.sub 8 1 rfl) (rgetS_spec (t.keep' f2) fun w6 f6 => ⟨_, _, _, _, _, _, _, _, _, _, rfl, newB fun gs w18 b18 f18 h18 => stAllB (vs := ((getS S m.tn m.ts).getD sZero).cells) b18 rfl fun w19 b19 f19 => drawn fun w20 f20 _ => ?_⟩))
  have F6 := f2.tr f6
  have z6 := F6.size
  have z2 := f6.size
  have lm := bm.lt
  have ns : gs ∉ ft := fun hm => by have := hlt gs hm; omega
  have nm : gm ≠ gs := by omega
  have F20 : Fr [] w w20 := ((F6.tr f18).loc f19 (by omega)).tr f20
  have t20 := t.keep' F20
  have bm20 := ((bm.keep' (f6.tr f18)).off1 nm f19).keep' f20
  have b20 := b19.keep' f20
  have no : (∀ s, getS S m.tn m.ts = some s → heardB S m 5 s = false ∨ (s.state ≠ 1 ∧ s.state ≠ 2) ∨ m.at_ > now) → Q (.bool false) w20 := fun hn => by
    unfold toldS at hK
    cases hg : getS S m.tn m.ts with
    | none => rw [hg] at hK; exact hK.same t F20
    | some s =>
      rw [hg] at hK
      simp only at hK
      rw [if_pos (hn s hg)] at hK
      exact hK.same t F20
  refine ld_int (bm20.cat 0 _ rfl) (bc_ne (fun e => no fun s _ => .inl (by unfold heardB; rw [if_neg e])) (fun e0 => bc_bool (fun e => no fun s hg => ?_) (fun e => ?_)))
  · rw [hg] at e; cases e
  have hsome : ∃ s, getS S m.tn m.ts = some s := by
    cases hg : getS S m.tn m.ts with
    | none => rw [hg] at e; cases e
    | some s => exact ⟨s, rfl⟩
  obtain ⟨s, hg⟩ := hsome
  rw [hg] at b20
  have b20 : Blk w20 gs s.cells 51 := b20
  have no' : (heardB S m 5 s = false ∨ (s.state ≠ 1 ∧ s.state ≠ 2) ∨ m.at_ > now) → Q (.bool false) w20 := fun hn => no fun s' hg' => by
    rw [hg] at hg'; injection hg' with hg'; subst hg'; exact hn
  refine ld_int (bm20.cat 1 _ rfl) (ld_int (bm20.cat.sub 8 0 rfl) (bc_ne (fun e => no' (.inl (by unfold heardB; rw [if_pos e0, if_neg e]))) (fun e1 => ?_)))
  refine ld_int (bm20.cat 2 _ rfl) (ld_int t20.node (bc_ne (fun e => no' (.inl (by unfold heardB; rw [if_pos e0, if_pos e1, if_neg e]))) (fun e2 => ?_)))
  refine ld_int (bm20.cat 13 _ rfl) (ld_int (b20.cat 3 _ rfl) (bc_ne (fun e => no' (.inl (by unfold heardB; rw [if_pos e0, if_pos e1, if_pos e2]; simpa using e))) (fun e3 => ?_)))
  have hh : heardB S m 5 s = true := by unfold heardB; rw [if_pos e0, if_pos e1, if_pos e2]; simpa using e3
  have fin : (s.state = 1 ∨ s.state = 2) → ldI .u64 w20 ((at0 gm 0).add 15) fun x31 => bcase (decide (x31 > now)) (Q (.bool false) w20) (X53.j0 Q (some (at0 g 0)) now (at0 gm 0) (at0 gs 0) w20) := fun hs => by
    refine ld_int (bm20.cat 15 _ rfl) (bc_dec (fun h2 => no' (.inr (.inr h2))) (fun h2 => ?_))
    unfold toldS at hK
    rw [hg] at hK
    simp only at hK
    rw [if_neg (by rw [hh]; rcases hs with hs | hs <;> simp [hs] <;> omega)] at hK
    exact rtold_j0 (s := s) (W := w) t20 hi bm20 b20 nm ns F20.any (by omega) hs hK
  refine ld_int (b20.cat 2 _ rfl) (bc_ne (fun n1 => ld_int (b20.cat 2 _ rfl) (bc_ne (fun n2 => no' (.inr (.inl ⟨n1, n2⟩))) (fun e2 => fin (.inr e2)))) (fun e1 => fin (.inl e1)))
theorem rcleaned_spec (t : PR w g ft S) (hi : SI S) (hK : AftR w g ft (cleanedS S m).1 (.bool (cleanedS S m).2) Q) : CallR Try.prog 54 #[.pointer (some (at0 g 0)), m.val] w Q := by
  apply X54.sound
  unfold X54.f
  simp only [optP_some]
  have hlt := t.lt
  refine newB fun gm w2 bm f2 hgm => ?_
  have bm : Blk w2 gm m.cells 47 := bm
  refine ld_int (bm.cat.sub 8 0 rfl) (ld_int (bm.cat.sub 8 1 rfl) (rgetS_spec (t.keep' f2) fun w6 f6 => ⟨_, _, _, _, _, _, _, _, _, _, rfl, newB fun gs w18 b18 f18 h18 => stAllB (vs := ((getS S m.tn m.ts).getD sZero).cells) b18 rfl fun w19 b19 f19 => drawn fun w20 f20 _ => ?_⟩))
  have F6 := f2.tr f6
  have z6 := F6.size
  have z2 := f6.size
  have lm := bm.lt
  have nm : gm ≠ gs := by omega
  have F20 : Fr [] w w20 := ((F6.tr f18).loc f19 (by omega)).tr f20
  have t20 := t.keep' F20
  have bm20 := ((bm.keep' (f6.tr f18)).off1 nm f19).keep' f20
  have b20 := b19.keep' f20
  have no : (∀ s, getS S m.tn m.ts = some s → heardB S m 7 s = false ∨ s.state ≠ 3) → Q (.bool false) w20 := fun hn => by
    unfold cleanedS at hK
    cases hg : getS S m.tn m.ts with
    | none => rw [hg] at hK; exact hK.same t F20
    | some s =>
      rw [hg] at hK
      simp only at hK
      rw [if_pos (hn s hg)] at hK
      exact hK.same t F20
  refine ld_int (bm20.cat 0 _ rfl) (bc_ne (fun e => no fun s _ => .inl (by unfold heardB; rw [if_neg e])) (fun e0 => bc_bool (fun e => no fun s hg => ?_) (fun e => ?_)))
  · rw [hg] at e; cases e
  have hsome : ∃ s, getS S m.tn m.ts = some s := by
    cases hg : getS S m.tn m.ts with
    | none => rw [hg] at e; cases e
    | some s => exact ⟨s, rfl⟩
  obtain ⟨s, hg⟩ := hsome
  rw [hg] at b20
  have b20 : Blk w20 gs s.cells 51 := b20
  have no' : (heardB S m 7 s = false ∨ s.state ≠ 3) → Q (.bool false) w20 := fun hn => no fun s' hg' => by
    rw [hg] at hg'; injection hg' with hg'; subst hg'; exact hn
  refine ld_int (bm20.cat 1 _ rfl) (ld_int (bm20.cat.sub 8 0 rfl) (bc_ne (fun e => no' (.inl (by unfold heardB; rw [if_pos e0, if_neg e]))) (fun e1 => ?_)))
  refine ld_int (bm20.cat 2 _ rfl) (ld_int t20.node (bc_ne (fun e => no' (.inl (by unfold heardB; rw [if_pos e0, if_pos e1, if_neg e]))) (fun e2 => ?_)))
  refine ld_int (bm20.cat 13 _ rfl) (ld_int (b20.cat 3 _ rfl) (bc_ne (fun e => no' (.inl (by unfold heardB; rw [if_pos e0, if_pos e1, if_pos e2]; simpa using e))) (fun e3 => ?_)))
  have hh : heardB S m 7 s = true := by unfold heardB; rw [if_pos e0, if_pos e1, if_pos e2]; simpa using e3
  refine ld_int (b20.cat 2 _ rfl) (bc_ne (fun n => no' (.inr n)) (fun e4 => drawn fun w30 f30 _ => ?_))
  unfold cleanedS at hK
  rw [hg] at hK
  simp only at hK
  rw [if_neg (by rw [hh]; simp [e4])] at hK
  have b30 := b20.keep' f30
  refine ld_int (b30.cat.sub 0 0 rfl) (ld_int (b30.cat.sub 0 1 rfl) (key_spec fun w35 f35 => ⟨_, rfl, ?_⟩))
  rw [add_at g 0 24]
  have F35 := F20.tr (f30.tr f35)
  have z35 := F35.size
  refine rdropT (t.keep' F35) fun ft' w38 t38 f38 e38 => ⟨_, rfl, ?_⟩
  exact hK ft' w38 t38 (F35.any.tr f38) (fun x hx => (e38 x hx).imp id (fun h => by omega))
end
end Go.Proofs.YtglininpmfgggaaX
namespace Go.Proofs.YtglininpmfgggaaX
open Go.RowKit
set_option linter.unusedVariables false
set_option linter.unusedSimpArgs false
set_option maxRecDepth 100000
theorem get_put_ne {S : Sn} {s : Stb} {k : Int} (hs : Srt ilt (keys S.l)) (hk : k ≠ keyOf s.nd s.sr) : get ilt (putS S s).l k = get ilt S.l k := by
  show get ilt (putF S.c.stubs S.l (keyOf s.nd s.sr) s) k = _
  unfold putF
  split
  · rw [get_put ilt_lin hs, if_neg hk]
  · rfl
theorem putS_same {S : Sn} {s : Stb} (hs : Srt ilt (keys S.l)) (hg : get ilt S.l (keyOf s.nd s.sr) = some s) : putS S s = S := by
  have hm := (get_iff ilt_lin hs).1 hg
  obtain ⟨p, hp⟩ := List.getElem?_of_mem hm
  have hk : (keys S.l)[p]? = some (keyOf s.nd s.sr) := by rw [keys_get, hp]; rfl
  unfold putS
  rw [putF_at hs hk, set_same hp]
theorem rep_get {S : Sn} {o : List Otr} {now k k' : Int} {s : Stb} (hs : Srt ilt (keys S.l)) (hk : k = keyOf s.nd s.sr) (hne : k' ≠ k) : get ilt (repS S o now k s).l k' = get ilt S.l k' := by
  unfold repS
  cases findO o s.nd s.sr with
  | some r => exact get_put_ne (s := { s with dist := min2 (IntKind.wrap .i64 (r + 1)) 40 }) hs (by rw [← hk]; exact hne)
  | none =>
    simp only
    split
    · exact get_put_ne (s := s) hs (by rw [← hk]; exact hne)
    · split
      · show get ilt (drp ilt S.l k) k' = _
        rw [get_drp ilt_lin hs, if_neg hne]
      · exact get_put_ne (S := { S with seq := IntKind.wrap .u64 (S.seq + 1) }) (s := { s with state := 3, seq := IntKind.wrap .u64 (S.seq + 1), sent := now, wait := 0 }) hs (by show k' ≠ keyOf s.nd s.sr; rw [← hk]; exact hne)
theorem SI.report_go {o : List Otr} {now : Int} : ∀ (ks : List Int) (S : Sn), SI S → (∀ k ∈ ks, ∃ s, get ilt S.l k = some s) → ks.Pairwise (fun a b => a ≠ b) → SI (ks.foldl (fun S k => repE S o now k) S)
  | [], S, h, _, _ => h
  | k :: ks, S, h, hg, hp => by
    obtain ⟨s, hs⟩ := hg k (by simp)
    have hgi := h.geti hs
    have he : repE S o now k = repS S o now k s := by unfold repE; rw [hs]; rfl
    rw [List.foldl_cons, he]
    obtain ⟨p1, p2⟩ := List.pairwise_cons.1 hp
    refine SI.report_go ks _ (h.rep hgi.2) (fun k' hk' => ?_) p2
    obtain ⟨s', hs'⟩ := hg k' (by simp [hk'])
    exact ⟨s', by rw [rep_get h.srt hgi.1 (p1 k' hk').symm]; exact hs'⟩
theorem keys_ne {l : List (Int × Stb)} (hs : Srt ilt (keys l)) : (keys l).Pairwise (fun a b => a ≠ b) := hs.imp (fun h e => by subst e; simp [ilt] at h)
theorem keys_some {l : List (Int × Stb)} (hs : Srt ilt (keys l)) {k : Int} (hk : k ∈ keys l) : ∃ s, get ilt l k = some s := by
  obtain ⟨e, he, rfl⟩ := List.mem_map.1 hk
  exact ⟨e.2, (get_iff ilt_lin hs).2 he⟩
theorem SI.report {S : Sn} {o : List Otr} {now : Int} (h : SI S) : SI (reportS S o now) :=
  SI.report_go (keys S.l) S h (fun k hk => keys_some h.srt hk) (keys_ne h.srt)
section
variable {w w' W : World} {Q : Value → World → Prop} {g gs gm g1 gx g9 : Nat} {ft ft' : List Nat} {S S' : Sn} {nd sr now k v voucher : Int} {s s' : Stb} {m m' : Msg} {c : Cfg} {o : List Otr} {op sp : Option Addr} {oc sc : Nat} {L : List (Int × Stb)}
theorem out_nextR {w : World} {ft ft' : List Nat} {x : Nat} (h1 : x ∉ ft) (h2 : x < w.heap.size) (e : ∀ x ∈ ft', x ∈ ft ∨ w.heap.size ≤ x) : x ∉ ft' := fun hm => by
  rcases e x hm with h' | h'
  · exact h1 h'
  · omega
structure RdC (w : World) (g : Nat) (ft : List Nat) (S : Sn) (sp : Option Addr) (sc : Nat) (L : List (Int × Stb)) (op : Option Addr) (oc : Nat) (o : List Otr) : Prop where
  t : PR w g ft S
  ok : Own 51 9 w sp L.length sc (L.flatMap vc_SB)
  oo : Own 64 3 w op o.length oc (o.flatMap Otr.cells)
  nk : ∀ x ∈ fbl sp, x ∉ ft
  no : ∀ x ∈ fbl op, x ∉ ft
theorem RdC.keep' (h : RdC w g ft S sp sc L op oc o) (f : Fr [] w w') : RdC w' g ft S sp sc L op oc o := ⟨h.t.keep' f, h.ok.keep' f, h.oo.keep' f, h.nk, h.no⟩
theorem RdC.next (h : RdC w g ft S sp sc L op oc o) (t' : PR w' g ft' S') (f : Fr ft w w') (e : ∀ x ∈ ft', x ∈ ft ∨ w.heap.size ≤ x) : RdC w' g ft' S' sp sc L op oc o :=
  ⟨t', h.ok.keep f h.nk, h.oo.keep f h.no, fun x hx => out_nextR (h.nk x hx) (h.ok.lt x hx) e, fun x hx => out_nextR (h.no x hx) (h.oo.lt x hx) e⟩
structure RdS (W w : World) (g : Nat) (ft : List Nat) (S : Sn) (sp : Option Addr) (sc : Nat) (L : List (Int × Stb)) (op : Option Addr) (oc : Nat) (o : List Otr) (gs : Nat) (s : Stb) : Prop where
  r : RdC w g ft S sp sc L op oc o
  bs : Blk w gs s.cells 51
  ns : gs ∉ ft
  nk : gs ∉ fbl sp
  no : gs ∉ fbl op
  F : Fr ft W w
  wg : W.heap.size ≤ gs
theorem RdS.keep' (h : RdS W w g ft S sp sc L op oc o gs s) (f : Fr [] w w') : RdS W w' g ft S sp sc L op oc o gs s := ⟨h.r.keep' f, h.bs.keep' f, h.ns, h.nk, h.no, h.F.tr f.any, h.wg⟩
theorem RdS.st (h : RdS W w g ft S sp sc L op oc o gs s) {i : Nat} {v : Value} (s' : Stb) (hi : i < 9) (he : s.cells.set i v = s'.cells) {K : World → Prop} (hK : ∀ w', RdS W w' g ft S sp sc L op oc o gs s' → K w') : stK w ((at0 gs 0).add i) v K :=
  stB h.bs (by rw [s.len]; exact hi) fun w' b' f => hK w' ⟨⟨h.r.t.off h.ns f, h.r.ok.keep f (fun x hx hm => h.nk (by simp at hm; rwa [← hm])), h.r.oo.keep f (fun x hx hm => h.no (by simp at hm; rwa [← hm])), h.r.nk, h.r.no⟩, by rw [← he]; exact b', h.ns, h.nk, h.no, h.F.loc f h.wg, h.wg⟩
def RepEnd (t0 : Option Addr) (t8 : Addr) (B : World → Prop) (w4 : World) : Prop := drewK w4 fun w4 => optP t0 fun p5 => ldI .i64 w4 ((t8.add 0).add 0) fun x6 => ldI .u64 w4 ((t8.add 0).add 1) fun x7 => CallR Try.prog 30 #[.agg #[.int .i64 x6, .int .u64 x7]] w4 fun v8 w9 => ∃ (y10 : Int), v8 = .int .u64 y10 ∧ ldI .i64 w9 (t8.add 0) fun x11 => ldI .u64 w9 (t8.add 1) fun x12 => ldI .i64 w9 (t8.add 2) fun x13 => ldI .u64 w9 (t8.add 3) fun x14 => ldI .i64 w9 (t8.add 4) fun x15 => ldI .u64 w9 (t8.add 5) fun x16 => ldI .u64 w9 (t8.add 6) fun x17 => ldI .u64 w9 (t8.add 7) fun x18 => ldI .i64 w9 (t8.add 8) fun x19 => ((∀ j u, ([.int .i64 x11, .int .u64 x12, .int .i64 x13, .int .u64 x14, .int .i64 x15, .int .u64 x16, .int .u64 x17, .int .u64 x18, .int .i64 x19] : List Value)[j]? = some u → World.cell? w4 (t8.add j) = some u) ∧ (∀ j u, ([.int .i64 x11, .int .u64 x12, .int .i64 x13, .int .u64 x14, .int .i64 x15, .int .u64 x16, .int .u64 x17, .int .u64 x18, .int .i64 x19] : List Value)[j]? = some u → World.cell? w9 (t8.add j) = some u)) ∧ CallR Try.prog 73 #[.pointer (some (p5.add 24)), .int .u64 y10, .agg #[.int .i64 x11, .int .u64 x12, .int .i64 x13, .int .u64 x14, .int .i64 x15, .int .u64 x16, .int .u64 x17, .int .u64 x18, .int .i64 x19]] w9 fun v20 w21 => ∃ (y22 : Bool), v20 = .bool y22 ∧ B w21
theorem rep_end (h : RdS W w g ft S sp sc L op oc o gs s) (hi : SI S) (hw : StW s) {G : Sn → Sn} (hK : AftR W g ft (G (putS S s)) (.tuple #[]) Q) {B : World → Prop}
    (hrec : ∀ w' ft', RdC w' g ft' (putS S s) sp sc L op oc o → SI (putS S s) → AftR w' g ft' (G (putS S s)) (.tuple #[]) Q → B w') : RepEnd (some (at0 g 0)) (at0 gs 0) B w := by
  unfold RepEnd
  simp only [optP_some]
  have hst := may_stubs hi.may
  refine drawn fun w2 f2 _ => ?_
  have h2 := h.keep' f2
  refine ld_int (h2.bs.cat.sub 0 0 rfl) (ld_int (h2.bs.cat.sub 0 1 rfl) (key_spec fun w3 f3 => ⟨_, rfl, ?_⟩))
  have h3 := h2.keep' f3
  rw [add_at g 0 24]
  refine ld_Stb (s := s) h3.bs.cat ⟨⟨h2.bs.cat, h3.bs.cat⟩, rputT (s := s) h3.r.t (by omega) fun b ft' w4 t4 f4 e4 => ⟨_, rfl, ?_⟩⟩
  have z := h3.F.size
  exact hrec w4 ft' (h3.r.next t4 f4 e4) (hi.put hw) (hK.next (h3.F.tr f4) (fun x hx => (e4 x hx).imp id (fun h => by omega)))
theorem rrep_j2 {b0 : Option Addr → Option Addr → Nat → Nat → Int → Option Addr → Nat → Nat → Int → World → Prop} {t7 : Int} {c : Bool} (h : RdS W w g ft S sp sc L op oc o gs s) (hi : SI S) (hw : StW s) (hk : k = keyOf s.nd s.sr) (hg : get ilt S.l k = some s) {G : Sn → Sn}
    (hc : (c = true → s.state ≠ 3 ∧ (s.state = 4 ∨ lapsedB S s now = true ∨ S.seq = 72057594037927935)) ∧ (c = false → s.state = 3 ∨ ¬ (s.state = 4 ∨ lapsedB S s now = true ∨ S.seq = 72057594037927935)))
    (hK : AftR W g ft (G (if s.state = 3 then putS S s else if s.state = 4 ∨ lapsedB S s now = true ∨ S.seq = 72057594037927935 then { S with l := drp ilt S.l k } else putS { S with seq := IntKind.wrap .u64 (S.seq + 1) } { s with state := 3, seq := IntKind.wrap .u64 (S.seq + 1), sent := now, wait := 0 })) (.tuple #[]) Q)
    (hrec : ∀ w' ft' S', RdC w' g ft' S' sp sc L op oc o → SI S' → AftR w' g ft' (G S') (.tuple #[]) Q → (∀ k', k' ≠ k → get ilt S'.l k' = get ilt S.l k') → b0 (some (at0 g 0)) op o.length oc now sp L.length sc (IntKind.wrap .i64 (t7 + 1)) w') :
    X55.j2 Q b0 (some (at0 g 0)) op o.length oc now sp L.length sc t7 (at0 gs 0) c w := by
  unfold X55.j2
  simp only [optP_some]
  have z := h.F.size
  refine bc_bool (fun e => ?_) (fun e => ?_)
  · obtain ⟨h3, h4⟩ := hc.1 e
    rw [if_neg h3, if_pos h4] at hK
    refine drawn fun w1 f1 _ => ?_
    have h1 := h.keep' f1
    refine ld_int (h1.bs.cat.sub 0 0 rfl) (ld_int (h1.bs.cat.sub 0 1 rfl) (key_spec fun w6 f6 => ⟨_, rfl, ?_⟩))
    have h6 := h1.keep' f6
    have z6 := h6.F.size
    rw [add_at g 0 24, ← hk]
    refine rdropT h6.r.t fun ft' w9 t9 f9 e9 => ⟨_, rfl, ?_⟩
    refine hrec w9 ft' _ (h6.r.next t9 f9 e9) hi.drop (hK.next (h6.F.tr f9) (fun x hx => (e9 x hx).imp id (fun h => by omega))) (fun k' hk' => ?_)
    show get ilt (drp ilt S.l k) k' = _
    rw [get_drp ilt_lin hi.srt, if_neg hk']
  · have hcf := hc.2 e
    refine ld_int (h.bs.cat 2 _ rfl) (bc_ne (fun h3 => ?_) (fun h3 => ?_))
    · have h4 : ¬ (s.state = 4 ∨ lapsedB S s now = true ∨ S.seq = 72057594037927935) := hcf.resolve_left h3
      rw [if_neg h3, if_neg h4] at hK
      have hne : S.seq ≠ 72057594037927935 := fun hx => h4 (.inr (.inr hx))
      refine ld_int h.r.t.seq (h.r.t.stseq fun w15 t15 f15 => ?_)
      have h15 : RdS W w15 g ft { S with seq := IntKind.wrap .u64 (S.seq + 1) } sp sc L op oc o gs s := ⟨h.r.next t15 f15 (fun x hx => .inl hx), h.bs.keep f15 h.ns, h.ns, h.nk, h.no, h.F.tr f15, h.wg⟩
      refine h15.st { s with state := 3 } (by omega) rfl fun w16 h16 => ld_int h16.r.t.seq ?_
      refine h16.st { s with state := 3, seq := IntKind.wrap .u64 (S.seq + 1) } (by omega) rfl fun w19 h19 => ?_
      refine h19.st { s with state := 3, seq := IntKind.wrap .u64 (S.seq + 1), sent := now } (by omega) rfl fun w20 h20 => ?_
      refine h20.st { s with state := 3, seq := IntKind.wrap .u64 (S.seq + 1), sent := now, wait := 0 } (by omega) rfl fun w21 h21 => ?_
      refine rep_end h21 (hi.seqn hne) ⟨⟨hw.id.nd, hw.id.sr⟩, (by decide : (1 : Int) ≤ 3), (by decide : (3 : Int) ≤ 4), (by decide : (0 : Int) ≤ 0)⟩ hK fun w' ft' r' i' k' => hrec w' ft' _ r' i' k' fun k2 hk2 => ?_
      exact get_put_ne (S := { S with seq := IntKind.wrap .u64 (S.seq + 1) }) (s := { s with state := 3, seq := IntKind.wrap .u64 (S.seq + 1), sent := now, wait := 0 }) hi.srt (by show k2 ≠ keyOf s.nd s.sr; rw [← hk]; exact hk2)
    · rw [if_pos h3, putS_same hi.srt (by rw [← hk]; exact hg)] at hK
      exact hrec w ft S h.r hi (hK.next h.F (fun x hx => .inl hx)) (fun _ _ => rfl)
theorem rrep_j3 {b0 : Option Addr → Option Addr → Nat → Nat → Int → Option Addr → Nat → Nat → Int → World → Prop} {t7 j : Int} {c : Bool} (h : RdS W w g ft S sp sc L op oc o gs s) (hi : SI S) (hw : StW s) (hk : k = keyOf s.nd s.sr) (hg : get ilt S.l k = some s) {G : Sn → Sn}
    (hc : c = decide (s.state = 4 ∨ lapsedB S s now = true)) (hro : ∀ x ∈ o, 0 ≤ x.rank ∧ x.rank ≤ 40)
    (hj : (j = -1 ∧ findO o s.nd s.sr = none) ∨ ∃ n : Nat, j = n ∧ ∃ x, o[n]? = some x ∧ findO o s.nd s.sr = some x.rank)
    (hK : AftR W g ft (G (repS S o now k s)) (.tuple #[]) Q)
    (hrec : ∀ w' ft' S', RdC w' g ft' S' sp sc L op oc o → SI S' → AftR w' g ft' (G S') (.tuple #[]) Q → (∀ k', k' ≠ k → get ilt S'.l k' = get ilt S.l k') → b0 (some (at0 g 0)) op o.length oc now sp L.length sc (IntKind.wrap .i64 (t7 + 1)) w') :
    X55.j3 Q b0 (some (at0 g 0)) op o.length oc now sp L.length sc t7 (at0 gs 0) j c w := by
  unfold X55.j3
  simp only [optP_some]
  unfold repS at hK
  have hq1 := hi.seq1
  rcases hj with ⟨rfl, hf⟩ | ⟨n, rfl, x, hx, hf⟩
  · rw [hf] at hK
    simp only at hK
    refine bc_dec (fun e => absurd e (by decide)) (fun _ => bc_bool (fun e => ?_) (fun e => ld_int (h.bs.cat 2 _ rfl) (bc_ne (fun h3 => ld_int h.r.t.seq ?_) (fun h3 => ?_))))
    · have hh : s.state = 4 ∨ lapsedB S s now = true := by rw [e] at hc; simpa using hc.symm
      have hn3 : s.state ≠ 3 := by
        rcases hh with hh | hh
        · omega
        · intro h3
          rw [lap_not (by omega)] at hh; cases hh
      exact rrep_j2 h hi hw hk hg ⟨fun _ => ⟨hn3, hh.imp id .inl⟩, fun hx => by cases hx⟩ hK hrec
    · have hh : ¬ (s.state = 4 ∨ lapsedB S s now = true) := by rw [e] at hc; simpa using hc.symm
      refine rrep_j2 h hi hw hk hg ⟨fun hx => ⟨h3, .inr (.inr ?_)⟩, fun hx => .inr ?_⟩ hK hrec
      · have := of_decide_eq_true hx; omega
      · have := of_decide_eq_false hx
        rintro (h' | h' | h')
        · exact hh (.inl h')
        · exact hh (.inr h')
        · omega
    · exact rrep_j2 h hi hw hk hg ⟨fun hx => (by cases hx), fun _ => .inl h3⟩ hK hrec
  · rw [hf] at hK
    simp only at hK
    have hlt := (List.getElem?_eq_some_iff.1 hx).1
    obtain ⟨a, ha, hat⟩ := own_at Otr.len h.r.oo rfl hx
    have hr := hro x (List.mem_of_getElem? hx)
    have e1 : max2 1 (min2 (IntKind.wrap .i64 (x.rank + 1)) 40) = min2 (IntKind.wrap .i64 (x.rank + 1)) 40 := by
      rw [i64w _ (by omega) (by omega)]
      unfold max2 min2
      split <;> split <;> omega
    refine bc_dec (fun _ => ⟨⟨by omega, by omega⟩, opt_some ha (ld_int (by rw [Int.toNat_natCast]; exact hat 2 _ rfl) ?_)⟩) (fun e => by omega)
    rw [e1]
    refine h.st { s with dist := min2 (IntKind.wrap .i64 (x.rank + 1)) 40 } (by omega) rfl fun w3 h3 => ?_
    refine rep_end h3 hi ⟨⟨hw.id.nd, hw.id.sr⟩, hw.s1, hw.s4, hw.wt⟩ hK fun w' ft' r' i' k' => hrec w' ft' _ r' i' k' fun k2 hk2 => ?_
    exact get_put_ne (s := { s with dist := min2 (IntKind.wrap .i64 (x.rank + 1)) 40 }) hi.srt (by show k2 ≠ keyOf s.nd s.sr; rw [← hk]; exact hk2)
theorem rrep_j4 {b0 : Option Addr → Option Addr → Nat → Nat → Int → Option Addr → Nat → Nat → Int → World → Prop} {t7 j : Int} (h : RdS W w g ft S sp sc L op oc o gs s) (hi : SI S) (hw : StW s) (hk : k = keyOf s.nd s.sr) (hg : get ilt S.l k = some s) {G : Sn → Sn}
    (hro : ∀ x ∈ o, 0 ≤ x.rank ∧ x.rank ≤ 40)
    (hj : (j = -1 ∧ findO o s.nd s.sr = none) ∨ ∃ n : Nat, j = n ∧ ∃ x, o[n]? = some x ∧ findO o s.nd s.sr = some x.rank)
    (hK : AftR W g ft (G (repS S o now k s)) (.tuple #[]) Q)
    (hrec : ∀ w' ft' S', RdC w' g ft' S' sp sc L op oc o → SI S' → AftR w' g ft' (G S') (.tuple #[]) Q → (∀ k', k' ≠ k → get ilt S'.l k' = get ilt S.l k') → b0 (some (at0 g 0)) op o.length oc now sp L.length sc (IntKind.wrap .i64 (t7 + 1)) w') :
    X55.j4 Q b0 (some (at0 g 0)) op o.length oc now sp L.length sc t7 (at0 gs 0) j w := by
  unfold X55.j4
  refine ld_int (h.bs.cat 2 _ rfl) (bc_eq (fun e4 => ?_) (fun e4 => ld_int (h.bs.cat 2 _ rfl) (bc_eq (fun e2 => ?_) (fun e2 => ?_))))
  · exact rrep_j3 h hi hw hk hg (by simp [e4]) hro hj hK hrec
  · refine ld_Stb (s := s) h.bs.cat (ralive_spec (s := s) h.r.t hi fun w13 f13 => ⟨_, rfl, ?_⟩)
    refine rrep_j3 (h.keep' f13) hi hw hk hg ?_ hro hj hK hrec
    rw [lap_of e2]
    simp [e4]
  · exact rrep_j3 h hi hw hk hg (by rw [lap_not e2]; simp [e4]) hro hj hK hrec
theorem rrep_l1 {b0 : Option Addr → Option Addr → Nat → Nat → Int → Option Addr → Nat → Nat → Int → World → Prop} {t7 : Int} (hol : o.length ≤ 4096) (hi : SI S) (hw : StW s) (hk : k = keyOf s.nd s.sr) (hg : get ilt S.l k = some s) {G : Sn → Sn}
    (hro : ∀ x ∈ o, 0 ≤ x.rank ∧ x.rank ≤ 40) (hK : AftR W g ft (G (repS S o now k s)) (.tuple #[]) Q)
    (hrec : ∀ w' ft' S', RdC w' g ft' S' sp sc L op oc o → SI S' → AftR w' g ft' (G S') (.tuple #[]) Q → (∀ k', k' ≠ k → get ilt S'.l k' = get ilt S.l k') → b0 (some (at0 g 0)) op o.length oc now sp L.length sc (IntKind.wrap .i64 (t7 + 1)) w') :
    ∀ (f i : Nat) (w : World), o.length - i < f → i ≤ o.length → RdS W w g ft S sp sc L op oc o gs s → (∀ x ∈ o.take i, ¬ (x.nd = s.nd ∧ x.sr = s.sr)) → X55.l1 Q b0 f (some (at0 g 0)) op o.length oc now sp L.length sc t7 (at0 gs 0) (-1) (i : Int) w
  | 0, i, w, hf, _, _, _ => by omega
  | f + 1, i, w, hf, hile, h, hno => by
    rw [X55.l1]
    refine bc_dec (fun h1 => bc_dec (fun _ => drawn fun w1 f1 _ => ⟨⟨by omega, by omega⟩, ?_⟩) (fun e => absurd (by decide) e)) (fun h1 => ?_)
    · have hlt : i < o.length := by omega
      have hx := List.getElem?_eq_getElem hlt
      have htake : o.take (i + 1) = o.take i ++ [o[i]] := List.take_succ_eq_append_getElem hlt
      have hdrop : o.drop i = o[i] :: o.drop (i + 1) := List.drop_eq_getElem_cons hlt
      generalize o[i] = x at hx htake hdrop
      have h2 := h.keep' f1
      obtain ⟨a, ha, hat⟩ := own_at Otr.len h2.r.oo rfl hx
      have ei : IntKind.wrap .i64 ((i : Int) + 1) = ((i + 1 : Nat) : Int) := by rw [i64w ((i : Int) + 1) (by omega) (by omega)]; omega
      refine opt_some ha (ld_int (by rw [Int.toNat_natCast]; exact hat.sub 0 0 rfl) (ld_int (by rw [Int.toNat_natCast]; exact hat.sub 0 1 rfl) (ld_int (h2.bs.cat.sub 0 0 rfl) (ld_int (h2.bs.cat.sub 0 1 rfl) ⟨isS40, bc_bool (fun e => ?_) (fun e => ?_)⟩))))
      · have hm : x.nd = s.nd ∧ x.sr = s.sr := by simpa using e
        have hfo : findO o s.nd s.sr = some x.rank := by
          unfold findO
          have : o = o.take i ++ (x :: o.drop (i + 1)) := by rw [← hdrop, List.take_append_drop]
          rw [this, List.find?_append, List.find?_eq_none.2 (fun y hy hd => hno y hy (of_decide_eq_true hd))]
          simp [hm]
        obtain ⟨f', rfl⟩ : ∃ f', f = f' + 1 := ⟨f - 1, by omega⟩
        rw [ei, X55.l1]
        have fin : X55.j4 Q b0 (some (at0 g 0)) op o.length oc now sp L.length sc t7 (at0 gs 0) (i : Int) w1 := rrep_j4 h2 hi hw hk hg hro (.inr ⟨i, rfl, x, hx, hfo⟩) hK hrec
        exact bc_dec (fun _ => bc_dec (fun e => by omega) (fun _ => fin)) (fun _ => fin)
      · rw [ei]
        refine rrep_l1 hol hi hw hk hg hro hK hrec f (i + 1) w1 (by omega) (by omega) h2 ?_
        rw [htake]
        intro y hy
        rcases List.mem_append.1 hy with hy | hy
        · exact hno y hy
        · simp at hy; subst hy
          intro hh; simp [hh.1, hh.2] at e
    · have : i = o.length := by omega
      subst this
      rw [List.take_length] at hno
      refine rrep_j4 h hi hw hk hg hro (.inl ⟨rfl, ?_⟩) hK hrec
      unfold findO
      rw [List.find?_eq_none.2 (fun y hy hd => hno y hy (of_decide_eq_true hd))]
      rfl
theorem rrep_l0 (hL : L.length ≤ 4096) (hol : o.length ≤ 4096) (hLs : Srt ilt (keys L)) (hro : ∀ x ∈ o, 0 ≤ x.rank ∧ x.rank ≤ 40) :
    ∀ (f i : Nat) (w : World) (ft : List Nat) (S : Sn), L.length - i < f → i ≤ L.length → RdC w g ft S sp sc L op oc o → SI S → (∀ j e, i ≤ j → L[j]? = some e → get ilt S.l e.1 = some e.2) → AftR w g ft (((keys L).drop i).foldl (fun S k => repE S o now k) S) (.tuple #[]) Q →
      X55.l0 Q f (some (at0 g 0)) op o.length oc now sp L.length sc (i : Int) w
  | 0, i, w, ft, S, hf, _, _, _, _, _ => by omega
  | f + 1, i, w, ft, S, hf, hile, h, hi, hcur, hK => by
    rw [X55.l0]
    refine bc_dec (fun h1 => ⟨⟨by omega, by omega⟩, ?_⟩) (fun h1 => ?_)
    · have hlt : i < L.length := by omega
      have he := List.getElem?_eq_getElem hlt
      have hkl : i < (keys L).length := by simp [keys]; exact hlt
      have hdrop : (keys L).drop i = (L[i]).1 :: (keys L).drop (i + 1) := by
        rw [List.drop_eq_getElem_cons hkl]; simp [keys]
      generalize L[i] = e at he hdrop
      have hge := hcur i e (Nat.le_refl _) he
      have hgi := hi.geti hge
      obtain ⟨a, ha, hat⟩ := own_at vc_len_SB h.ok rfl he
      have hat : At w (a.add (i * 9)) e.2.cells := hat
      have ei : IntKind.wrap .i64 ((i : Int) + 1) = ((i + 1 : Nat) : Int) := by rw [i64w ((i : Int) + 1) (by omega) (by omega)]; omega
      rw [hdrop, List.foldl_cons] at hK
      have hre : repE S o now e.1 = repS S o now e.1 e.2 := by unfold repE; rw [hge]; rfl
      rw [hre] at hK
      refine opt_some ha ?_
      rw [Int.toNat_natCast]
      refine ld_Stb (s := e.2) hat (newB fun gs w12 b12 f12 h12 => stAllB (vs := e.2.cells) b12 rfl fun w13 b13 f13 => ⟨o.length + 1, ?_⟩)
      have h12' := h.keep' f12
      have ns : gs ∉ ft := fun hm => by have := h.t.lt gs hm; omega
      have nk : gs ∉ fbl sp := fun hm => by have := h.ok.lt gs hm; omega
      have no : gs ∉ fbl op := fun hm => by have := h.oo.lt gs hm; omega
      have hS : RdS w w13 g ft S sp sc L op oc o gs e.2 := ⟨⟨h12'.t.off ns f13, h12'.ok.keep f13 (fun x hx hm => nk (by simp at hm; rwa [← hm])), h12'.oo.keep f13 (fun x hx hm => no (by simp at hm; rwa [← hm])), h.nk, h.no⟩, b13, ns, nk, no, (f12.loc f13 (by omega)).any, by omega⟩
      refine rrep_l1 (W := w) (S := S) (k := e.1) (G := fun S' => ((keys L).drop (i + 1)).foldl (fun S k => repE S o now k) S') hol hi hgi.2 hgi.1 hge hro hK (fun w' ft' S' r' i' k' hsame => ?_) _ 0 w13 (by omega) (by omega) hS (by simp)
      rw [ei]
      refine rrep_l0 hL hol hLs hro f (i + 1) w' ft' S' (by omega) (by omega) r' i' (fun j e' hj he' => ?_) k'
      rw [hsame e'.1 (fun hh => ?_)]
      · exact hcur j e' (by omega) he'
      · have a1 := (at_eq hLs (p := i) (k := e.1) (by rw [keys_get, he]; rfl)).2
        have a2 := (at_eq hLs (p := j) (k := e.1) (by rw [keys_get, he', ← hh]; rfl)).2
        omega
    · have : i = L.length := by omega
      subst this
      have hkl : (keys L).length = L.length := by simp [keys]
      rw [← hkl, List.drop_length] at hK
      exact hK.same h.t (Fr.refl _)
theorem PR.small (t : PR w g ft S) (hi : SI S) : S.l.length ≤ 100000 := by
  obtain ⟨pk, pv, ck, cv, t⟩ := t
  exact RT_SB.top t
theorem rreport_spec (t : PR w g ft S) (hi : SI S) (hsl : S.l.length ≤ 4096) (hol : o.length ≤ 4096) (hro : ∀ x ∈ o, 0 ≤ x.rank ∧ x.rank ≤ 40) (oo : Own 64 3 w op o.length oc (o.flatMap Otr.cells)) (no : ∀ x ∈ fbl op, x ∉ ft)
    (hK : AftR w g ft (reportS S o now) (.tuple #[]) Q) : CallR Try.prog 55 #[.pointer (some (at0 g 0)), .slice op o.length oc, .int .u64 now] w Q := by
  apply X55.sound
  unfold X55.f
  simp only [optP_some]
  refine newB fun g1 w2 b1 f2 h1 => ?_
  have t2 := t.keep' f2
  have o1 : Own 51 9 w2 (some (at0 g1 0)) 0 0 [] := own_blk b1 rfl (Nat.le_refl _) (by simp [maxLen]) rfl
  rw [add_at g 0 24]
  obtain ⟨pk, pv, ck, cv, t'⟩ := id t2
  refine ld_sl (RT_SB.v2 t') ?_
  have hvl := RT_SB.vl t'
  refine app_step rowT42 (W := w) o1 (RT_SB.vs t').cells (by rw [(RT_SB.vs t').len]) hvl.2 (fm_one_SB _) (by omega) (by omega) (fun x hx => by simp [fbl, at0] at hx; omega) f2 ?_
  intro p c w6 o6 n6 f6 _
  rw [Nat.zero_add, List.nil_append] at o6
  rw [Nat.zero_add]
  have F6 := f6
  have t6 := t.keep' F6
  have hC : RdC w6 g ft S p c S.l op oc o := ⟨t6, o6, oo.keep' F6, fun x hx hm => by have := n6 x hx; have := t.lt x hm; omega, no⟩
  refine ⟨S.l.length + 1, rrep_l0 hsl hol hi.srt hro _ 0 w6 ft S (by omega) (by omega) hC hi (fun j e _ he => get_at hi.srt he) ?_⟩
  rw [List.drop_zero]
  exact hK.next f6.any (fun x hx => .inl hx)
end
end Go.Proofs.YtglininpmfgggaaX
namespace Go.Proofs.YtglininpmfgggaaX
open Go.RowKit
set_option linter.unusedVariables false
set_option linter.unusedSimpArgs false
set_option maxRecDepth 100000
theorem far_wf {S : Sn} {nd sr : Int} (hm : mayB S.c = true) (h : farB S nd sr = true) : (Lit.int .i64 nd).wf = true ∧ (Lit.int .u64 sr).wf = true := by
  have mn := may_nodes hm
  unfold farB at h
  by_cases a1 : nd ≥ 1
  · rw [if_pos a1] at h
    by_cases a2 : nd ≤ S.c.nodes
    · rw [if_pos a2] at h
      by_cases a3 : nd ≠ S.node
      · rw [if_pos a3] at h
        by_cases a4 : sr ≥ 1
        · rw [if_pos a4] at h
          have a5 := of_decide_eq_true h
          refine ⟨?_, ?_⟩
          · unfold Lit.wf; simp only [Bool.and_eq_true, decide_eq_true_eq, show IntKind.i64.min = -9223372036854775808 by decide, show IntKind.i64.max = 9223372036854775807 by decide]; omega
          · unfold Lit.wf; simp only [Bool.and_eq_true, decide_eq_true_eq, show IntKind.u64.min = 0 by decide, show IntKind.u64.max = 18446744073709551615 by decide]; omega
        · rw [if_neg a4] at h; cases h
      · rw [if_neg a3] at h; cases h
    · rw [if_neg a2] at h; cases h
  · rw [if_neg a1] at h; cases h
theorem SI.wantW {S : Sn} {nd sr v now : Int} (h : SI S) : SI (wantS S nd sr v now).1 := by
  by_cases hf : farB S nd sr = true
  · obtain ⟨w1, w2⟩ := far_wf h.may hf
    exact h.want w1 w2
  · unfold wantS
    rw [if_pos (.inl (by simpa using hf))]
    exact h
inductive PlayR (S : Sn) : Sn → Prop
  | want (nd sr v now : Int) (h : 0 ≤ now) : PlayR S (wantS S nd sr v now).1
  | step (now : Int) : PlayR S (stepS S now).1
  | told (m : Msg) (now : Int) (h : 0 ≤ m.at_) : PlayR S (toldS S m now).1
  | cleaned (m : Msg) : PlayR S (cleanedS S m).1
  | report (o : List Otr) (now : Int) : PlayR S (reportS S o now)
theorem PlayR.si {S S' : Sn} (h : PlayR S S') (i : SI S) : SI S' := by
  cases h with
  | want => exact i.wantW
  | step => exact i.step
  | told => exact i.told
  | cleaned => exact i.cleaned
  | report => exact i.report
theorem rowT65 : RowT Try.prog 65 64 3 24 := ⟨by kernel_rfl, ⟨Try.t64, Value.agg #[.int .i64 0, .int .u64 0, .int .i64 0], by kernel_rfl, by kernel_rfl, by kernel_rfl, by kernel_rfl, by kernel_rfl⟩, by omega⟩
/-- the two tables: the program's at S1, the document's at S2 -/
structure Two (W w : World) (g gt : Nat) (ft : List Nat) (S1 : Sn) (gr : Nat) (fr : List Nat) (S2 : Sn) : Prop where
  p : PL W w g gt ft S1
  r : PR w gr fr S2
  rn : ∀ x ∈ fr, W.heap.size ≤ x
  d : ∀ x ∈ fr, x ∉ g :: ft
/-- a block of neither -/
structure Ob (w : World) (g : Nat) (ft fr : List Nat) (x : Nat) (cs : List Value) (e : TypeId) : Prop where
  b : Blk w x cs e
  n1 : x ∉ g :: ft
  n2 : x ∉ fr
section
variable {w w' W : World} {Q : Value → World → Prop} {g gt gr gs gm g1 gx g9 x y : Nat} {ft ft' fr fr' : List Nat} {S S' S1 S2 S1' S2' : Sn} {nd sr now k v voucher : Int} {s s' : Stb} {m m' : Msg} {c : Cfg} {o : List Otr} {op sp : Option Addr} {oc sc : Nat} {cs vs : List Value} {e : TypeId}
theorem Two.keep' (h : Two W w g gt ft S1 gr fr S2) (f : Fr [] w w') : Two W w' g gt ft S1 gr fr S2 := ⟨h.p.keep' f, h.r.keep' f, h.rn, h.d⟩
theorem Two.nextP (h : Two W w g gt ft S1 gr fr S2) (t' : PTa w' g gt ft' S1') (f : Fr (g :: ft) w w') (e : ∀ x ∈ ft', x ∈ ft ∨ w.heap.size ≤ x) : Two W w' g gt ft' S1' gr fr S2 :=
  ⟨h.p.next t' f e, h.r.keep f h.d, h.rn, fun x hx => out_next (h.d x hx) (h.r.lt x hx) e⟩
theorem Two.nextR (h : Two W w g gt ft S1 gr fr S2) (t' : PR w' gr fr' S2') (f : Fr fr w w') (e : ∀ x ∈ fr', x ∈ fr ∨ w.heap.size ≤ x) : Two W w' g gt ft S1 gr fr' S2' := by
  have z := h.p.F.size
  refine ⟨⟨h.p.t.keep f (fun x hx hm => h.d x hm hx), h.p.new, h.p.F.trans f (fun x hx => .inr (h.rn x hx))⟩, t', fun x hx => ?_, fun x hx hm => ?_⟩
  · rcases e x hx with h' | h'
    · exact h.rn x h'
    · omega
  · rcases e x hx with h' | h'
    · exact h.d x h' hm
    · have := h.p.t.lt x hm; omega
theorem Two.off (h : Two W w g gt ft S1 gr fr S2) (n1 : x ∉ g :: ft) (n2 : x ∉ fr) (hw : W.heap.size ≤ x) (f : Fr [x] w w') : Two W w' g gt ft S1 gr fr S2 := ⟨h.p.off n1 hw f, h.r.off n2 f, h.rn, h.d⟩
theorem Two.new1 (h : Two W w g gt ft S1 gr fr S2) (hx : w.heap.size ≤ x) : x ∉ g :: ft := h.p.fresh hx
theorem Two.new2 (h : Two W w g gt ft S1 gr fr S2) (hx : w.heap.size ≤ x) : x ∉ fr := fun hm => by have := h.r.lt x hm; omega
theorem Ob.keep' (h : Ob w g ft fr x cs e) (f : Fr [] w w') : Ob w' g ft fr x cs e := ⟨h.b.keep' f, h.n1, h.n2⟩
theorem Ob.nextP (h : Ob w g ft fr x cs e) (f : Fr (g :: ft) w w') (hn : ∀ x ∈ ft', x ∈ ft ∨ w.heap.size ≤ x) : Ob w' g ft' fr x cs e := ⟨h.b.keep f h.n1, out_next h.n1 h.b.lt hn, h.n2⟩
theorem Ob.nextR (h : Ob w g ft fr x cs e) (f : Fr fr w w') (hn : ∀ x ∈ fr', x ∈ fr ∨ w.heap.size ≤ x) : Ob w' g ft fr' x cs e := ⟨h.b.keep f h.n2, h.n1, out_nextR h.n2 h.b.lt hn⟩
theorem Ob.loc (h : Ob w g ft fr x cs e) (hy : x ≠ y) (f : Fr [y] w w') : Ob w' g ft fr x cs e := ⟨h.b.off1 hy f, h.n1, h.n2⟩
/-- a new block beside the two -/
theorem Two.blk (h : Two W w g gt ft S1 gr fr S2) {zs : Array Value} {K : Addr → World → Prop} (hl : vs.length = zs.size) (hK : ∀ x w', w.heap.size ≤ x → Two W w' g gt ft S1 gr fr S2 → Ob w' g ft fr x vs e → Fr [] w w' → K (at0 x 0) w') :
    newK w zs e fun x w2 => stAll w2 x vs fun w3 => K x w3 :=
  newB fun x w2 b f hx => stAllB (vs := vs) b (by simpa using hl) fun w3 b3 f3 => by
    have n1 := h.new1 hx
    have n2 := h.new2 hx
    have z := h.p.F.size
    exact hK x w3 hx ((h.keep' f).off n1 n2 (by omega) f3) ⟨b3, n1, n2⟩ (f.loc f3 hx)
theorem same_spec {kd fm to nd sr code seq vo at_ di : Int} (hQ : ∀ w', Fr [] w w' → Q (.bool true) w') :
    CallR Try.prog 52 #[(⟨kd, fm, to, 0, 0, 0, 0, 0, nd, sr, none, 0, 0, 0, code, seq, vo, at_, di, 0, none, 0, 0⟩ : Msg).val, (⟨kd, fm, to, 0, 0, 0, 0, 0, nd, sr, none, 0, 0, 0, code, seq, vo, at_, di, 0, none, 0, 0⟩ : Msg).val] w Q := by
  apply X52.sound
  unfold X52.f
  generalize hm : (⟨kd, fm, to, 0, 0, 0, 0, 0, nd, sr, none, 0, 0, 0, code, seq, vo, at_, di, 0, none, 0, 0⟩ : Msg) = m
  have hc : m.cells = (⟨kd, fm, to, 0, 0, 0, 0, 0, nd, sr, none, 0, 0, 0, code, seq, vo, at_, di, 0, none, 0, 0⟩ : Msg).cells := by rw [hm]
  refine newB fun g1 w2 b1 f2 h1 => newB fun g3 w4 b3 f4 h3 => ?_
  have F := f2.tr f4
  have b1 : Blk w4 g1 m.cells 47 := b1.keep' f4
  have b3 : Blk w4 g3 m.cells 47 := b3
  have eqr : ∀ {a : Int} {A B : Prop}, B → bcase (a != a) A B := fun hB => bc_ne (fun h => absurd rfl h) (fun _ => hB)
  refine ld_int (b1.cat 0 _ rfl) (ld_int (b3.cat 0 _ rfl) (eqr ?_))
  refine ld_int (b1.cat 1 _ rfl) (ld_int (b3.cat 1 _ rfl) (eqr ?_))
  refine ld_int (b1.cat 2 _ rfl) (ld_int (b3.cat 2 _ rfl) (eqr ?_))
  refine ld_int (b1.cat 3 _ rfl) (ld_int (b3.cat 3 _ rfl) (eqr ?_))
  refine ld_int (b1.cat 4 _ rfl) (ld_int (b3.cat 4 _ rfl) (eqr ?_))
  refine ld_int (b1.cat 5 _ rfl) (ld_int (b3.cat 5 _ rfl) (eqr ?_))
  refine ld_int (b1.cat 6 _ rfl) (ld_int (b3.cat 6 _ rfl) (eqr ?_))
  refine ld_int (b1.cat 7 _ rfl) (ld_int (b3.cat 7 _ rfl) (eqr ?_))
  refine ld_int (b1.cat.sub 8 0 rfl) (ld_int (b1.cat.sub 8 1 rfl) (ld_int (b3.cat.sub 8 0 rfl) (ld_int (b3.cat.sub 8 1 rfl) ⟨isS40, bc_bool (fun h => by simp at h) (fun _ => ?_)⟩)))
  refine ld_int (b1.cat 11 _ rfl) (ld_int (b3.cat 11 _ rfl) (eqr ?_))
  refine ld_int (b1.cat 12 _ rfl) (ld_int (b3.cat 12 _ rfl) (eqr ?_))
  unfold X52.j0
  refine ld_int (b1.cat 13 _ rfl) (ld_int (b3.cat 13 _ rfl) (bc_eqt' rfl ?_))
  refine ld_int (b1.cat 14 _ rfl) (ld_int (b3.cat 14 _ rfl) (bc_eqt' rfl ?_))
  refine ld_int (b1.cat 15 _ rfl) (ld_int (b3.cat 15 _ rfl) (bc_eqt' rfl ?_))
  refine ld_int (b1.cat 16 _ rfl) (ld_int (b3.cat 16 _ rfl) (bc_eqt' rfl ?_))
  refine ld_int (b1.cat 17 _ rfl) (ld_int (b3.cat 17 _ rfl) (bc_eqt' rfl ?_))
  subst hm
  refine ld_sl (b1.cat 10 _ rfl) (ld_sl (b3.cat 10 _ rfl) (X74.sound _ _ _ _ _ _ _ _ ?_))
  unfold X74.f
  refine bc_bool (fun h => by simp at h) (fun _ => ⟨1, ?_⟩)
  rw [X74.l0]
  refine bc_dec (fun h => absurd h (show ¬ (0 : Int) < ((0 : Nat) : Int) by decide)) (fun _ => ⟨_, rfl, bc_bool (fun _ => ?_) (fun h => by cases h)⟩)
  refine ld_sl (b1.cat 18 _ rfl) (ld_sl (b3.cat 18 _ rfl) (X75.sound _ _ _ _ _ _ _ _ ?_))
  unfold X75.f
  refine bc_bool (fun h => by simp at h) (fun _ => ⟨1, ?_⟩)
  rw [X75.l0]
  exact bc_dec (fun h => absurd h (show ¬ (0 : Int) < ((0 : Nat) : Int) by decide)) (fun _ => ⟨_, rfl, hQ _ F⟩)
theorem step_same (S : Sn) (now : Int) (hQ : ∀ w', Fr [] w w' → Q (.bool true) w') : CallR Try.prog 52 #[(stepS S now).2.1.val, (stepS S now).2.1.val] w Q := by
  have hz : CallR Try.prog 52 #[mZero.val, mZero.val] w Q := same_spec hQ
  unfold stepS
  cases after ilt S.l S.last with
  | none => exact hz
  | some k =>
    simp only
    unfold turnS
    split
    · exact same_spec hQ
    · split
      · exact hz
      · split
        · exact same_spec hQ
        · split
          · exact same_spec hQ
          · exact hz
theorem hstub_spec (hQ : ∀ w', Fr [] w w' → Q (.bool true) w') : CallR Try.prog 57 #[s.val, s.val] w Q := by
  apply X57.sound
  unfold X57.f
  refine newB fun g1 w2 b1 f2 h1 => newB fun g3 w4 b3 f4 h3 => ?_
  have F := f2.tr f4
  have b1 : Blk w4 g1 s.cells 51 := b1.keep' f4
  have b3 : Blk w4 g3 s.cells 51 := b3
  refine ld_int (b1.cat.sub 0 0 rfl) (ld_int (b1.cat.sub 0 1 rfl) (ld_int (b3.cat.sub 0 0 rfl) (ld_int (b3.cat.sub 0 1 rfl) ⟨isS40, bc_bool (fun _ => ?_) (fun h => by simp at h)⟩)))
  refine ld_int (b1.cat 2 _ rfl) (ld_int (b3.cat 2 _ rfl) (bc_eqt' rfl ?_))
  refine ld_int (b1.cat 3 _ rfl) (ld_int (b3.cat 3 _ rfl) (bc_eqt' rfl ?_))
  refine ld_int (b1.cat 4 _ rfl) (ld_int (b3.cat 4 _ rfl) (bc_eqt' rfl ?_))
  refine ld_int (b1.cat 5 _ rfl) (ld_int (b3.cat 5 _ rfl) (bc_eqt' rfl ?_))
  refine ld_int (b1.cat 6 _ rfl) (ld_int (b3.cat 6 _ rfl) (bc_eqt' rfl ?_))
  refine ld_int (b1.cat 7 _ rfl) (ld_int (b3.cat 7 _ rfl) (bc_eqt' rfl ?_))
  refine ld_int (b1.cat 8 _ rfl) (ld_int (b3.cat 8 _ rfl) ?_)
  rw [beq_self_eq_true]
  exact hQ _ F
theorem hstubs_l0 {ap bp : Option Addr} {ac bc n : Nat} {L : List (Int × Stb)} (hn : L.length = n) (hL : n ≤ 100000) (oa : Own 51 9 W ap n ac (L.flatMap vc_SB)) (ob : Own 51 9 W bp n bc (L.flatMap vc_SB)) (hQ : ∀ w', Fr [] W w' → Q (.bool true) w') :
    ∀ (f i : Nat) (w : World), n - i < f → i ≤ n → Fr [] W w → X26.l0 Q f ap n ac bp n bc (i : Int) w
  | 0, i, w, hf, _, _ => by omega
  | f + 1, i, w, hf, hi, F => by
    rw [X26.l0]
    refine bc_dec (fun h1 => drawn fun w1 f1 _ => ⟨⟨by omega, by omega⟩, ?_⟩) (fun h1 => hQ w F)
    have F1 := F.tr f1
    have he := List.getElem?_eq_getElem (show i < L.length by omega)
    generalize L[i] = e at he
    obtain ⟨a, ha, hat⟩ := own_at vc_len_SB (oa.keep' F1) hn he
    obtain ⟨b, hb, hbt⟩ := own_at vc_len_SB (ob.keep' F1) hn he
    have hat : At w1 (a.add (i * 9)) e.2.cells := hat
    have hbt : At w1 (b.add (i * 9)) e.2.cells := hbt
    refine opt_some ha ?_
    rw [Int.toNat_natCast]
    refine ld_Stb (s := e.2) hat ⟨⟨by omega, by omega⟩, opt_some hb ?_⟩
    refine ld_Stb (s := e.2) hbt (hstub_spec fun w23 f23 => ⟨_, rfl, bc_bool (fun h => by cases h) (fun _ => ?_)⟩)
    rw [i64w ((i : Int) + 1) (by omega) (by omega), show (i : Int) + 1 = ((i + 1 : Nat) : Int) by omega]
    exact hstubs_l0 hn hL oa ob hQ f (i + 1) w23 (by omega) (by omega) (F1.tr f23)
theorem hstubs_spec {ap bp : Option Addr} {ac bc n : Nat} {L : List (Int × Stb)} (hn : L.length = n) (hL : n ≤ 100000) (oa : Own 51 9 w ap n ac (L.flatMap vc_SB)) (ob : Own 51 9 w bp n bc (L.flatMap vc_SB)) (hQ : ∀ w', Fr [] w w' → Q (.bool true) w') :
    CallR Try.prog 26 #[.slice ap n ac, .slice bp n bc] w Q := by
  apply X26.sound
  unfold X26.f
  exact bc_bool (fun h => by simp at h) (fun _ => ⟨n + 1, hstubs_l0 hn hL oa ob hQ _ 0 w (by omega) (by omega) (Fr.refl _)⟩)
theorem samet_l0 (hn2 : 2 ≤ S.c.nodes) (hi : SI S) (hQ : ∀ w', Two W w' g gt ft S gr fr S → Q (.bool true) w') : ∀ (f i : Nat) (w : World), 20 - i < f → i ≤ 20 → Two W w g gt ft S gr fr S → X29.l0 Q f (some (at0 g 0)) (some (at0 gr 0)) now (i : Int) w
  | 0, i, w, hf, _, _ => by omega
  | f + 1, i, w, hf, hile, h => by
    rw [X29.l0]
    simp only [optP_some]
    have mn := may_nodes hi.may
    refine bc_dec (fun h1 => ?_) (fun h1 => hQ w h)
    refine ld_Cfg (s := S.c) h.r.cfg0 (near_spec hn2 (by omega) fun w25 f25 => ⟨_, _, rfl, ?_⟩)
    have h25 := h.keep' f25
    refine h25.blk (vs := idcs (nearN i S.c) (nearS i)) rfl fun gx w30 hx h30 x30 f30 => ?_
    refine ld_int (x30.b.cat 0 _ rfl) (ld_int (x30.b.cat 1 _ rfl) (get_spec h30.p.t fun w34 f34 => ⟨_, _, _, _, _, _, _, _, _, _, rfl, ?_⟩))
    have h34 := h30.keep' f34
    have x34 := x30.keep' f34
    refine h34.blk (vs := ((getS S (nearN i S.c) (nearS i)).getD sZero).cells) rfl fun ga w47 ha h47 a47 f47 => ?_
    have x47 := x34.keep' f47
    refine ld_int (x47.b.cat 0 _ rfl) (ld_int (x47.b.cat 1 _ rfl) (rgetS_spec h47.r fun w51 f51 => ⟨_, _, _, _, _, _, _, _, _, _, rfl, ?_⟩))
    have h51 := h47.keep' f51
    refine h51.blk (vs := ((getS S (nearN i S.c) (nearS i)).getD sZero).cells) rfl fun gb w64 hb h64 b64 f64 => drawn fun w65 f65 _ => ?_
    have f5165 := f51.tr (f64.tr f65)
    have h65 := h64.keep' f65
    have a65 := a47.keep' f5165
    have x65 := x47.keep' f5165
    have b65 := b64.keep' f65
    refine bc_bool (fun hh => by simp at hh) (fun _ => ?_)
    refine ld_Stb (s := (getS S (nearN i S.c) (nearS i)).getD sZero) a65.b.cat (ld_Stb (s := (getS S (nearN i S.c) (nearS i)).getD sZero) b65.b.cat (hstub_spec fun w85 f85 => ⟨_, rfl, bc_bool (fun hh => by cases hh) (fun _ => ?_)⟩))
    have h85 := h65.keep' f85
    have x85 := x65.keep' f85
    refine ld_int (x85.b.cat 0 _ rfl) (ld_int (x85.b.cat 1 _ rfl) (state_spec h85.p.t fun w90 f90 => ⟨_, rfl, ?_⟩))
    have h90 := h85.keep' f90
    have x90 := x85.keep' f90
    refine ld_int (x90.b.cat 0 _ rfl) (ld_int (x90.b.cat 1 _ rfl) ⟨⟨x85.b.cat, x90.b.cat⟩, rstate_spec h90.r hi fun w95 f95 => ⟨_, rfl, bc_ne (fun hh => absurd rfl hh) (fun _ => ?_)⟩⟩)
    rw [i64w ((i : Int) + 1) (by omega) (by omega), show (i : Int) + 1 = ((i + 1 : Nat) : Int) by omega]
    exact samet_l0 hn2 hi hQ f (i + 1) w95 (by omega) (by omega) (h90.keep' f95)
theorem samet_spec (hn2 : 2 ≤ S.c.nodes) (hi : SI S) (h : Two W w g gt ft S gr fr S) (hQ : ∀ w', Two W w' g gt ft S gr fr S → Q (.bool true) w') : CallR Try.prog 29 #[.pointer (some (at0 g 0)), .pointer (some (at0 gr 0)), .int .u64 now] w Q := by
  apply X29.sound
  unfold X29.f
  simp only [optP_some]
  have hsm := h.p.t.small
  refine all_spec h.p.t fun ap ac w2 oa f2 n2 => ⟨_, _, _, rfl, drawn fun w4 f4 _ => ?_⟩
  have h4 := h.keep' (f2.tr f4)
  obtain ⟨pk, pv, ck, cv, t'⟩ := id h4.r
  rw [add_at gr 0 24]
  refine ld_sl (RT_SB.v2 t') (hstubs_spec rfl (by omega) (oa.keep' f4) (RT_SB.vs t') fun w8 f8 => ⟨_, rfl, bc_bool (fun hh => by cases hh) (fun _ => ?_)⟩)
  have h8 := h4.keep' f8
  refine seq_spec h8.p.t ⟨_, rfl, ld_int h8.r.seq ⟨⟨h8.r.seq, h8.r.seq⟩, bc_ne (fun hh => absurd rfl hh) (fun _ => ?_)⟩⟩
  unfold X29.j1
  exact ⟨21, samet_l0 hn2 hi hQ _ 0 w8 (by omega) (by omega) h8⟩
end
end Go.Proofs.YtglininpmfgggaaX
namespace Go.Proofs.YtglininpmfgggaaX
open Go.RowKit
set_option linter.unusedVariables false
set_option linter.unusedSimpArgs false
set_option maxRecDepth 100000
theorem ids_oneS {S : Sn} (h : SI S) {i j : Nat} {x y : Int × Stb} (hi : S.l[i]? = some x) (hj : S.l[j]? = some y) (h1 : x.2.nd = y.2.nd) (h2 : x.2.sr = y.2.sr) : i = j := by
  have ex := (h.ent x (List.mem_of_getElem? hi)).1
  have ey := (h.ent y (List.mem_of_getElem? hj)).1
  have hk : x.1 = y.1 := by rw [ex, ey, h1, h2]
  have a1 := (at_eq h.srt (p := i) (k := x.1) (by rw [keys_get, hi]; rfl)).2
  have a2 := (at_eq h.srt (p := j) (k := x.1) (by rw [keys_get, hj, hk]; rfl)).2
  omega
/-- what a cycle has met: some of the stubs -/
structure Met (S : Sn) (i : Nat) (o : List Otr) : Prop where
  some : ∀ x ∈ o, ∃ j e, j < i ∧ S.l[j]? = some e ∧ x.nd = e.2.nd ∧ x.sr = e.2.sr
  rank : ∀ x ∈ o, 0 ≤ x.rank ∧ x.rank ≤ 40
  apart : o.Pairwise fun x y => ¬ (x.nd = y.nd ∧ x.sr = y.sr)
  len : o.length ≤ i
theorem Met.next {S : Sn} (hS : SI S) {i : Nat} {o : List Otr} {e : Int × Stb} {r : Int} (h : Met S i o) (he : S.l[i]? = .some e) (h0 : 0 ≤ r) (h1 : r ≤ 40) : Met S (i + 1) (o ++ [⟨e.2.nd, e.2.sr, r⟩]) := by
  refine ⟨fun x hx => ?_, fun x hx => ?_, ?_, by have := h.len; simp; omega⟩
  · rcases List.mem_append.1 hx with hx | hx
    · obtain ⟨j, e', h1, h2⟩ := h.some x hx
      exact ⟨j, e', by omega, h2⟩
    · simp at hx; subst hx
      exact ⟨i, e, by omega, he, rfl, rfl⟩
  · rcases List.mem_append.1 hx with hx | hx
    · exact h.rank x hx
    · simp at hx; subst hx; exact ⟨h0, h1⟩
  · rw [List.pairwise_append]
    refine ⟨h.apart, by simp, fun x hx y hy => ?_⟩
    simp at hy; subst hy
    obtain ⟨j, e', hj, hje, e1, e2⟩ := h.some x hx
    intro hh
    have := ids_oneS hS hje he (e1.symm.trans hh.1) (e2.symm.trans hh.2)
    omega
theorem Met.skip {S : Sn} {i : Nat} {o : List Otr} (h : Met S i o) : Met S (i + 1) o := ⟨fun x hx => by
  obtain ⟨j, e', h1, h2⟩ := h.some x hx
  exact ⟨j, e', by omega, h2⟩, h.rank, h.apart, by have := h.len; omega⟩
theorem Met.wf {S : Sn} (hS : SI S) {i : Nat} {o : List Otr} (h : Met S i o) : ∀ x ∈ o, OutW x := fun x hx => by
  obtain ⟨j, e, _, he, e1, e2⟩ := h.some x hx
  have := (hS.ent e (List.mem_of_getElem? he)).2.1
  exact ⟨by rw [e1]; exact this.nd, by rw [e2]; exact this.sr⟩
section
variable {w w' W : World} {Q : Value → World → Prop} {g gt gr gs gm g1 gx g9 gc x y : Nat} {ft ft' fr fr' : List Nat} {S S' S1 S2 S1' S2' : Sn} {nd sr now k v voucher : Int} {s s' : Stb} {m m' : Msg} {c : Cfg} {o : List Otr} {op sp : Option Addr} {oc sc : Nat} {cs vs : List Value} {e : TypeId} {X : Stp}
/-- the step's own blocks -/
structure PlC (w : World) (g : Nat) (ft fr : List Nat) (gs : Nat) (X : Stp) (gc : Nat) (c : Cfg) (gx : Nat) (nd sr : Int) : Prop where
  s : Ob w g ft fr gs X.cells 61
  c : Ob w g ft fr gc c.cells 24
  x : Ob w g ft fr gx (idcs nd sr) 40
theorem PlC.keep' (h : PlC w g ft fr gs X gc c gx nd sr) (f : Fr [] w w') : PlC w' g ft fr gs X gc c gx nd sr := ⟨h.s.keep' f, h.c.keep' f, h.x.keep' f⟩
theorem PlC.nextP (h : PlC w g ft fr gs X gc c gx nd sr) (f : Fr (g :: ft) w w') (hn : ∀ x ∈ ft', x ∈ ft ∨ w.heap.size ≤ x) : PlC w' g ft' fr gs X gc c gx nd sr := ⟨h.s.nextP f hn, h.c.nextP f hn, h.x.nextP f hn⟩
theorem PlC.nextR (h : PlC w g ft fr gs X gc c gx nd sr) (f : Fr fr w w') (hn : ∀ x ∈ fr', x ∈ fr ∨ w.heap.size ≤ x) : PlC w' g ft fr' gs X gc c gx nd sr := ⟨h.s.nextR f hn, h.c.nextR f hn, h.x.nextR f hn⟩
theorem play_j1 {t11 t14 t15 t20 : Int} (h15 : 0 ≤ t15) (h : Two W w g gt ft S gr fr S) (hi : SI S) (px : Ob w g ft fr gx (idcs nd sr) 40)
    (hQ : ∀ w' ft' fr' S', PlayR S S' → Two W w' g gt ft' S' gr fr' S' → Q (.bool true) w') : X25.j1 Q (some (at0 g 0)) (some (at0 gr 0)) now (at0 gx 0) t11 t14 t15 t20 w := by
  unfold X25.j1
  simp only [optP_some]
  refine drawn fun w1 f1 _ => ?_
  have h1 := h.keep' f1
  have x1 := px.keep' f1
  refine ld_int h1.r.node (ld_int (x1.b.cat 0 _ rfl) (ld_int (x1.b.cat 1 _ rfl) (newB fun gm w7 bm f7 hgm => ⟨⟨x1.b.cat, (x1.keep' f7).b.cat⟩, ⟨h1.r.node, (h1.keep' f7).r.node⟩, ?_⟩)))
  have n1 := h1.new1 hgm
  have n2 := h1.new2 hgm
  have z := h1.p.F.size
  refine stAllB (vs := (⟨5, t14, S.node, 0, 0, 0, 0, 0, nd, sr, none, 0, 0, 0, t20, t11, 0, t15, 0, 0, none, 0, 0⟩ : Msg).cells) bm rfl fun w8 b8 f8 => drawn fun w9 f9 _ => ?_
  have hma : 0 ≤ (⟨5, t14, S.node, 0, 0, 0, 0, 0, nd, sr, none, 0, 0, 0, t20, t11, 0, t15, 0, 0, none, 0, 0⟩ : Msg).at_ := h15
  generalize hm : (⟨5, t14, S.node, 0, 0, 0, 0, 0, nd, sr, none, 0, 0, 0, t20, t11, 0, t15, 0, 0, none, 0, 0⟩ : Msg) = m at *
  have h9 := ((h1.keep' f7).off n1 n2 (by omega) f8).keep' f9
  have m9 : Ob w9 g ft fr gm m.cells 47 := ⟨b8.keep' f9, n1, n2⟩
  refine ld_Msg (s := m) m9.b.cat (told_spec (m := m) h9.p.t ?_)
  intro ft' w30 t30 f30 e30
  have h30 := h9.nextP t30 f30 e30
  have m30 := m9.nextP f30 e30
  refine ⟨_, rfl, ld_Msg (s := m) m30.b.cat ⟨⟨m9.b.cat, m30.b.cat⟩, rtold_spec (m := m) h30.r hi ?_⟩⟩
  intro fr' w52 t52 f52 e52
  refine ⟨_, rfl, ?_⟩
  rw [beq_self_eq_true]
  exact hQ w52 ft' fr' _ (.told m now hma) (h30.nextR t52 f52 e52)
theorem play_j4 {t26 : Int} (hnow : 0 ≤ now) (h : Two W w g gt ft S gr fr S) (hi : SI S) (px : Ob w g ft fr gx (idcs nd sr) 40)
    (hQ : ∀ w' ft' fr' S', PlayR S S' → Two W w' g gt ft' S' gr fr' S' → Q (.bool true) w') : X25.j4 Q (some (at0 g 0)) (some (at0 gr 0)) now (at0 gx 0) t26 w := by
  unfold X25.j4
  refine ld_int (px.b.cat 0 _ rfl) (ld_int (px.b.cat 1 _ rfl) (want_spec h.p.t ?_))
  intro ft' w4 t4 f4 e4
  have h4 := h.nextP t4 f4 e4
  have x4 := px.nextP f4 e4
  refine ⟨_, _, rfl, ld_int (x4.b.cat 0 _ rfl) (ld_int (x4.b.cat 1 _ rfl) (rwant_spec h4.r hi ?_))⟩
  intro fr' w10 t10 f10 e10
  refine ⟨_, _, rfl, bc_eqt' rfl ?_⟩
  rw [beq_self_eq_true]
  exact hQ w10 ft' fr' _ (.want nd sr t26 now hnow) (h4.nextR t10 f10 e10)
theorem play_l0 {pk pv : Option Addr} {ck cv : Nat} (h0 : Two W w g gt ft S gr fr S) (hi : SI S) (hsl : S.l.length ≤ 4096) (t' : PRa w gr fr S pk pv ck cv) (ps : Ob w g ft fr gs X.cells 61)
    (hQ : ∀ w' ft' fr' S', PlayR S S' → Two W w' g gt ft' S' gr fr' S' → Q (.bool true) w') :
    ∀ (f i : Nat) (w2 : World) (o : List Otr) (op : Option Addr) (oc : Nat), S.l.length - i < f → i ≤ S.l.length → Fr [] w w2 → Met S i o → Own 64 3 w2 op o.length oc (o.flatMap Otr.cells) → (∀ x ∈ fbl op, w.heap.size ≤ x) →
      X25.l0 Q f (some (at0 g 0)) (some (at0 gr 0)) now (at0 gs 0) op o.length oc pv S.l.length cv (i : Int) w2
  | 0, i, w2, o, op, oc, hf, _, _, _, _, _ => by omega
  | f + 1, i, w2, o, op, oc, hf, hile, F, hm, oo, hop => by
    rw [X25.l0]
    have zF := F.size
    have ei : IntKind.wrap .i64 ((i : Int) + 1) = ((i + 1 : Nat) : Int) := by rw [i64w ((i : Int) + 1) (by omega) (by omega)]; omega
    have hol := hm.len
    refine bc_dec (fun h1 => ld_int ((ps.keep' F).b.cat 1 _ rfl) ⟨by omega, ?_, by omega, bc_eq (fun _ => drawn fun w3 f3 _ => ⟨⟨by omega, by omega⟩, ?_⟩) (fun _ => ?_)⟩) (fun h1 => ?_)
    · exact u64p _
    · have he := List.getElem?_eq_getElem (show i < S.l.length by omega)
      generalize S.l[i] = e at he
      have F3 := F.tr f3
      obtain ⟨a, ha, hat⟩ := own_at vc_len_SB ((RT_SB.vs t').keep' F3) rfl he
      have hat : At w3 (a.add (i * 9)) e.2.cells := hat
      have ids : ∀ {w : World}, At w (a.add (i * 9)) e.2.cells → ∀ j u, ([.int .i64 e.2.nd, .int .u64 e.2.sr] : List Value)[j]? = some u → w.cell? (((a.add (i * 9)).add 0).add j) = some u := fun b j u hj => by
        refine b.sub 0 j ?_
        match j, hj with
        | 0, hj => exact hj
        | 1, hj => exact hj
      refine opt_some ha ?_
      rw [Int.toNat_natCast]
      refine ld_int (hat.sub 0 0 rfl) (ld_int (hat.sub 0 1 rfl) (ld_int ((ps.keep' F3).b.cat 2 _ rfl) (pick_spec (by decide) (by decide) ⟨_, rfl, ⟨ids hat, ids hat⟩, newB fun go w11 bo f11 h11 => ?_⟩)))
      generalize hr : IntKind.wrap .i64 (X.b + (i : Int)) % 41 = r at *
      have hr0 : 0 ≤ r ∧ r ≤ 40 := by have := md (n := IntKind.wrap .i64 (X.b + (i : Int))) (m := 41) (by omega); omega
      have bo : Blk w11 go (⟨e.2.nd, e.2.sr, r⟩ : Otr).cells 64 := bo
      refine app_step rowT65 (W := w) (oo.keep' (f3.tr f11)) (cells_one bo) (Otr.len _) some_ne (Otr.one _) (by omega) (by omega) hop (F3.tr f11) ?_
      intro p' c' w13 o13 n13 f13 _
      rw [ei]
      have hl : (o ++ [(⟨e.2.nd, e.2.sr, r⟩ : Otr)]).length = o.length + 1 := by simp
      rw [← hl]
      refine play_l0 h0 hi hsl t' ps hQ f (i + 1) w13 (o ++ [⟨e.2.nd, e.2.sr, r⟩]) p' c' (by omega) (by omega) f13 (hm.next hi he hr0.1 hr0.2) ?_ n13
      rw [hl, List.flatMap_append]
      simpa using o13
    · rw [ei]
      exact play_l0 h0 hi hsl t' ps hQ f (i + 1) w2 o op oc (by omega) (by omega) F hm.skip oo hop
    · have h2 := h0.keep' F
      refine newB fun g15 w16 b15 f16 h15 => ?_
      have o15 : Own 64 3 w16 (some (at0 g15 0)) 0 0 [] := own_blk b15 rfl (Nat.le_refl _) (by simp [maxLen]) rfl
      have oo16 := oo.keep' f16
      have hnc : op = none → oc = 0 := fun h => by subst h; exact oo.none_c.2.1
      refine app_step rowT65 (W := w2) o15 oo16.cells oo16.len hnc (fun u hu => ?_) (by omega) (by omega) (fun x hx => by simp [fbl, at0] at hx; omega) f16 ?_
      · obtain ⟨x, hx, hxu⟩ := List.mem_flatMap.1 hu
        exact Otr.one x u hxu
      intro p c w18 o18 n18 f18 _
      rw [Nat.zero_add, List.nil_append] at o18
      rw [Nat.zero_add]
      have h18 := h2.keep' f18
      have ws : IdWs S := fun e he => (hi.ent e he).2.1
      refine report_spec (o := o) (op := p) (oc := c) h18.p.t ws (by omega) (hm.wf hi) hm.apart (fun j y hy => own_at Otr.len o18 rfl hy) ?_
      intro ft' w21 t21 f21 e21
      have h21 := h18.nextP t21 f21 e21
      have no1 : ∀ x ∈ fbl op, x ∉ g :: ft := fun x hx => h0.new1 (hop x hx)
      have no2 : ∀ x ∈ fbl op, x ∉ fr := fun x hx => h0.new2 (hop x hx)
      have oo21 := (oo.keep' f18).keep f21 no1
      refine ⟨rfl, rreport_spec (o := o) (op := op) (oc := oc) h21.r hi hsl (by omega) hm.rank oo21 no2 ?_⟩
      intro fr' w23 t23 f23 e23
      exact ⟨rfl, hQ w23 ft' fr' _ (.report o now) (h21.nextR t23 f23 e23)⟩
theorem play_j2 {t11 t14 t15 t75 : Int} {t99 : Bool} (hnow : 0 ≤ now) (h15 : 0 ≤ t15) (hn2 : 2 ≤ c.nodes) (hn64 : c.nodes ≤ 64) (h : Two W w g gt ft S gr fr S) (hi : SI S) (px : PlC w g ft fr gs X gc c gx nd sr)
    (hQ : ∀ w' ft' fr' S', PlayR S S' → Two W w' g gt ft' S' gr fr' S' → Q (.bool true) w') : X25.j2 Q (some (at0 g 0)) (some (at0 gr 0)) now (at0 gs 0) (at0 gc 0) (at0 gx 0) t11 t14 t15 t75 t99 w := by
  unfold X25.j2
  simp only [optP_some]
  refine bc_bool (fun _ => ld_int (px.s.b.cat 2 _ rfl) ⟨by omega, bc_eq (fun _ => play_j1 h15 h hi px.x hQ) (fun _ => play_j1 h15 h hi px.x hQ)⟩) (fun _ => bc_eq (fun _ => ?_) (fun _ => bc_eq (fun _ => ?_) (fun _ => ?_)))
  · refine drawn fun w1 f1 _ => ?_
    have h1 := h.keep' f1
    have x1 := px.x.keep' f1
    refine ld_int h1.r.node (ld_int (x1.b.cat 0 _ rfl) (ld_int (x1.b.cat 1 _ rfl) (newB fun gm w7 bm f7 hgm => ⟨⟨x1.b.cat, (x1.keep' f7).b.cat⟩, ⟨h1.r.node, (h1.keep' f7).r.node⟩, ?_⟩)))
    have n1 := h1.new1 hgm
    have n2 := h1.new2 hgm
    have z := h1.p.F.size
    refine stAllB (vs := (⟨7, t14, S.node, 0, 0, 0, 0, 0, nd, sr, none, 0, 0, 0, 0, t11, 0, 0, 0, 0, none, 0, 0⟩ : Msg).cells) bm rfl fun w8 b8 f8 => drawn fun w9 f9 _ => ?_
    generalize hm : (⟨7, t14, S.node, 0, 0, 0, 0, 0, nd, sr, none, 0, 0, 0, 0, t11, 0, 0, 0, 0, none, 0, 0⟩ : Msg) = m at *
    have h9 := ((h1.keep' f7).off n1 n2 (by omega) f8).keep' f9
    have m9 : Ob w9 g ft fr gm m.cells 47 := ⟨b8.keep' f9, n1, n2⟩
    refine ld_Msg (s := m) m9.b.cat (cleaned_spec (m := m) h9.p.t ?_)
    intro ft' w30 t30 f30 e30
    have h30 := h9.nextP t30 f30 e30
    have m30 := m9.nextP f30 e30
    refine ⟨_, rfl, ld_Msg (s := m) m30.b.cat ⟨⟨m9.b.cat, m30.b.cat⟩, rcleaned_spec (m := m) h30.r hi ?_⟩⟩
    intro fr' w52 t52 f52 e52
    refine ⟨_, rfl, ?_⟩
    rw [beq_self_eq_true]
    exact hQ w52 ft' fr' _ (.cleaned m) (h30.nextR t52 f52 e52)
  · obtain ⟨pk, pv, ck, cv, t'⟩ := id h.r
    rw [add_at gr 0 24]
    have hsm := h.p.t.small
    refine ld_sl (RT_SB.v2 t') ⟨S.l.length + 1, ?_⟩
    exact play_l0 h hi hsm t' px.s hQ _ 0 w [] none 0 (by omega) (by omega) (Fr.refl _) ⟨by simp, by simp, List.Pairwise.nil, by simp⟩ Own.nil (by simp [fbl])
  · refine ld_int (px.s.b.cat 2 _ rfl) (ld_bool (px.s.b.cat 7 _ rfl) (bc_bool (fun _ => ?_) (fun _ => play_j4 hnow h hi px.x hQ)))
    refine ld_int (px.s.b.cat 2 _ rfl) (ld_int (px.c.b.cat 0 _ rfl) (pick_spec (by omega) (by omega) ⟨_, rfl, play_j4 hnow h hi px.x hQ⟩))
theorem play_j3 {t11 t14 t15 t75 : Int} {t76 : Bool} (hnow : 0 ≤ now) (h15 : 0 ≤ t15) (hn2 : 2 ≤ c.nodes) (hn64 : c.nodes ≤ 64) (h : Two W w g gt ft S gr fr S) (hi : SI S) (px : PlC w g ft fr gs X gc c gx nd sr)
    (hQ : ∀ w' ft' fr' S', PlayR S S' → Two W w' g gt ft' S' gr fr' S' → Q (.bool true) w') : X25.j3 Q (some (at0 g 0)) (some (at0 gr 0)) now (at0 gs 0) (at0 gc 0) (at0 gx 0) t11 t14 t15 t75 t76 w := by
  unfold X25.j3
  refine bc_bool (fun _ => ?_) (fun _ => bc_eq (fun _ => play_j2 hnow h15 hn2 hn64 h hi px hQ) (fun _ => play_j2 hnow h15 hn2 hn64 h hi px hQ))
  refine step_spec h.p.t ?_
  intro ft' w2 t2 f2 e2
  have h2 := h.nextP t2 f2 e2
  refine ⟨_, _, _, _, _, _, _, _, _, _, _, _, _, _, _, _, _, _, _, _, _, _, _, _, rfl, ?_⟩
  refine h2.blk (vs := (stepS S now).2.1.cells) rfl fun ga w25 ha h25 a25 f25 => rstep_spec h25.r hi ?_
  intro fr' w27 t27 f27 e27
  have h27 := h25.nextR t27 f27 e27
  have a27 := a25.nextR f27 e27
  refine ⟨_, _, _, _, _, _, _, _, _, _, _, _, _, _, _, _, _, _, _, _, _, _, _, _, rfl, ?_⟩
  refine h27.blk (vs := (stepS S now).2.1.cells) rfl fun gb w50 hb h50 b50 f50 => ?_
  have a50 := a27.keep' f50
  refine bc_bool (fun _ => ?_) (fun hh => by simp at hh)
  refine ld_Msg (s := (stepS S now).2.1) a50.b.cat (ld_Msg (s := (stepS S now).2.1) b50.b.cat (step_same S now fun w90 f90 => ⟨_, rfl, ?_⟩))
  exact hQ w90 ft' fr' _ (.step now) (h50.keep' f90)
theorem play_j7 (hnow : 0 ≤ now) (hx0 : 0 ≤ X.n) (hn2 : 2 ≤ c.nodes) (hn64 : c.nodes ≤ 64) (h : Two W w g gt ft S gr fr S) (hi : SI S) (px : PlC w g ft fr gs X gc c gx nd sr)
    (hQ : ∀ w' ft' fr' S', PlayR S S' → Two W w' g gt ft' S' gr fr' S' → Q (.bool true) w') : X25.j7 Q (some (at0 g 0)) (some (at0 gr 0)) now (at0 gs 0) (at0 gc 0) (at0 gx 0) w := by
  unfold X25.j7
  refine ld_int (px.s.b.cat 5 _ rfl) (ld_int (px.x.b.cat 0 _ rfl) (ld_int (px.x.b.cat 1 _ rfl) (rgetS_spec h.r fun w5 f5 => ⟨_, _, _, _, _, _, _, _, _, _, rfl, ?_⟩)))
  have h5 := h.keep' f5
  have p5 := px.keep' f5
  refine h5.blk (vs := ((getS S nd sr).getD sZero).cells) rfl fun ga w18 ha h18 a18 f18 => ?_
  have p18 := p5.keep' f18
  have j5 : ∀ {a b c : Int}, 0 ≤ c → X25.j5 Q (some (at0 g 0)) (some (at0 gr 0)) now (at0 gs 0) (at0 gc 0) (at0 gx 0) a b c w18 := by
    intro a b c hc0
    unfold X25.j5
    refine ld_int (p18.s.b.cat 0 _ rfl) (pick_spec (by decide) (by decide) ⟨_, rfl, bc_eq (fun _ => play_j3 hnow hc0 hn2 hn64 h18 hi p18 hQ) (fun _ => play_j3 hnow hc0 hn2 hn64 h18 hi p18 hQ)⟩)
  have j6 : ∀ {a : Int}, X25.j6 Q (some (at0 g 0)) (some (at0 gr 0)) now (at0 gs 0) (at0 gc 0) (at0 gx 0) a w18 := by
    intro a
    unfold X25.j6
    refine ld_int (p18.s.b.cat 2 _ rfl) (ld_int (p18.s.b.cat 6 _ rfl) (ld_bool (p18.s.b.cat 7 _ rfl) (bc_bool (fun _ => ?_) (fun _ => j5 hx0))))
    exact ld_int (p18.x.b.cat 0 _ rfl) (ld_int (p18.s.b.cat 6 _ rfl) ⟨by omega, j5 (u64p _)⟩)
  refine ld_bool (p18.s.b.cat 7 _ rfl) (bc_bool (fun _ => bc_bool (fun _ => ld_int (a18.b.cat 3 _ rfl) j6) (fun _ => j6)) (fun _ => j6))
theorem play_spec (hnow : 0 ≤ now) (hx0 : 0 ≤ X.n) (hn2 : 2 ≤ S.c.nodes) (h : Two W w g gt ft S gr fr S) (hi : SI S)
    (hQ : ∀ w' ft' fr' S', PlayR S S' → Two W w' g gt ft' S' gr fr' S' → Q (.bool true) w') : CallR Try.prog 25 #[.pointer (some (at0 g 0)), .pointer (some (at0 gr 0)), X.val, .int .u64 now] w Q := by
  apply X25.sound
  unfold X25.f
  simp only [optP_some]
  have mn := may_nodes hi.may
  refine newB fun gs w2 bs f2 hgs => ?_
  have bs : Blk w2 gs X.cells 61 := bs
  have s2 : Ob w2 g ft fr gs X.cells 61 := ⟨bs, h.new1 hgs, h.new2 hgs⟩
  have h2 := h.keep' f2
  refine ld_Cfg (s := S.c) h2.r.cfg0 (h2.blk (vs := S.c.cells) rfl fun gc w28 hgc h28 c28 f28 => ?_)
  have s28 := s2.keep' f28
  refine ld_int (s28.b.cat.sub 3 0 rfl) (ld_int (s28.b.cat.sub 3 1 rfl) (newB fun gx w32 bx f32 hgx => stAllB (vs := idcs X.nd X.sr) bx rfl fun w33 bx33 f33 => ?_))
  have n1 := h28.new1 hgx
  have n2 := h28.new2 hgx
  have z := h28.p.F.size
  have f3233 : Fr [] w28 w33 := f32.loc f33 hgx
  have h33 := (h28.keep' f32).off n1 n2 (by omega) f33
  have s33 := s28.keep' f3233
  have c33 := c28.keep' f3233
  refine ld_bool (s33.b.cat 7 _ rfl) (bc_bool (fun _ => ?_) (fun _ => ?_))
  · refine ld_int (s33.b.cat 1 _ rfl) (ld_Cfg (s := S.c) c33.b.cat (near_spec hn2 (by omega) fun w59 f59 => ⟨_, _, rfl, stAllB (vs := idcs (nearN X.a S.c) (nearS X.a)) (bx33.keep' f59) rfl fun w62 b62 f62 => ?_⟩))
    have h59 := h33.keep' f59
    have h62 := h59.off n1 n2 (by omega) f62
    have l28 := c28.b.lt
    have l2 := s28.b.lt
    exact play_j7 hnow hx0 hn2 (by omega) h62 hi ⟨(s33.keep' f59).loc (by omega) f62, (c33.keep' f59).loc (by omega) f62, ⟨b62, n1, n2⟩⟩ hQ
  · exact play_j7 hnow hx0 hn2 (by omega) h33 hi ⟨s33, c33, ⟨bx33, n1, n2⟩⟩ hQ
end
end Go.Proofs.YtglininpmfgggaaX
