/- StubTwice: what is told again at once changes nothing that it did not change the first time. -/
import Derived.Test.YtglininpmfgggaaL18Plays
import Derived.Test.YtglininpmfgggaaMLiesM
namespace Go.Proofs.YtglininpmfgggaaX
open Go.RowKit
set_option linter.unusedVariables false
set_option linter.unusedSimpArgs false
set_option maxRecDepth 100000
theorem u64q (x : Int) : IntKind.wrap .u64 x ≤ 18446744073709551615 := by
  have : IntKind.wrap .u64 x = x % 18446744073709551616 := by unfold IntKind.wrap; rfl
  omega
def AtS (S : Sn) : Prop := ∀ e ∈ S.l, 0 ≤ e.2.at_
theorem ats_put {S : Sn} {s : Stb} (i : SI S) (h : AtS S) (hs : 0 ≤ s.at_) : AtS (putS S s) := fun e he => by
  rcases putF_mem i.srt he with rfl | he
  · exact hs
  · exact h e he
theorem ats_get {S : Sn} {k : Int} {s : Stb} (i : SI S) (h : AtS S) (hg : get ilt S.l k = some s) : 0 ≤ s.at_ := h _ ((get_iff ilt_lin i.srt).1 hg)
theorem ats_drop {S : Sn} {k : Int} (i : SI S) (h : AtS S) : AtS { S with l := drp ilt S.l k } := fun e he => h e ((mem_drp ilt_lin i.srt).1 he).2
theorem turn_at {S : Sn} {s : Stb} {now : Int} : (turnS S s now).1.at_ = s.at_ := by
  unfold turnS
  split
  · rfl
  · split
    · rfl
    · split
      · rfl
      · split <;> rfl
theorem ats_rep {k now : Int} {S : Sn} {o : List Otr} {s : Stb} (i : SI S) (h : AtS S) (hs : 0 ≤ s.at_) : AtS (repS S o now k s) := by
  unfold repS
  cases findO o s.nd s.sr with
  | some r => exact ats_put i h hs
  | none =>
    simp only
    split
    · exact ats_put i h hs
    · split
      · exact ats_drop i h
      · rename_i hn
        exact ats_put (S := { S with seq := IntKind.wrap .u64 (S.seq + 1) }) (i.seqn (fun hx => hn (.inr (.inr hx)))) h hs
theorem ats_report {now : Int} {o : List Otr} : ∀ (ks : List Int) (S : Sn), SI S → AtS S → (∀ k ∈ ks, ∃ s, get ilt S.l k = some s) → ks.Pairwise (fun a b => a ≠ b) → AtS (ks.foldl (fun S k => repE S o now k) S)
  | [], S, i, h, _, _ => h
  | k :: ks, S, i, h, hg, hp => by
    obtain ⟨s, hs⟩ := hg k (by simp)
    have hgi := i.geti hs
    have he : repE S o now k = repS S o now k s := by unfold repE; rw [hs]; rfl
    rw [List.foldl_cons, he]
    obtain ⟨p1, p2⟩ := List.pairwise_cons.1 hp
    exact ats_report ks _ (i.rep hgi.2) (ats_rep i h (ats_get i h hs)) (fun k' hk' => by
      obtain ⟨s', hs'⟩ := hg k' (by simp [hk'])
      exact ⟨s', by rw [rep_get i.srt hgi.1 (p1 k' hk').symm]; exact hs'⟩) p2
theorem max_pos {a b : Int} (h : 0 ≤ a) (h' : 0 ≤ b) : 0 ≤ max2 a b := by unfold max2; split <;> assumption
theorem ats_play {S S' : Sn} (p : PlayR S S') (i : SI S) (h : AtS S) : AtS S' := by
  have fresh : ∀ {nd sr v now : Int}, 0 ≤ now → AtS (freshS S nd sr v now).1 := by
    intro nd sr v now h0
    unfold freshS
    split
    · exact h
    · rename_i hn
      exact ats_put (S := { S with seq := IntKind.wrap .u64 (S.seq + 1) }) (s := ⟨nd, sr, 1, IntKind.wrap .u64 (S.seq + 1), v, now, now, 0, 1⟩) (i.seqn hn) h h0
  cases p with
  | want nd sr v now h0 =>
    unfold wantS
    split
    · exact h
    · cases hg : get ilt S.l (keyOf nd sr) with
      | none =>
        simp only
        split
        · exact h
        · exact fresh h0
      | some s =>
        simp only
        split
        · split
          · exact ats_put (s := { s with state := 4 }) i h (show 0 ≤ s.at_ from ats_get i h hg)
          · exact h
        · exact fresh h0
  | step now =>
    unfold stepS
    cases ha : after ilt S.l S.last with
    | none => exact h
    | some k =>
      simp only
      refine ats_put i.last h ?_
      rw [turn_at]
      cases hg : get ilt S.l k with
      | none => exact Int.le_refl _
      | some s => exact ats_get i h hg
  | told m now hm =>
    unfold toldS
    cases hg : getS S m.tn m.ts with
    | none => exact h
    | some s =>
      simp only
      split
      · exact h
      · obtain ⟨_, _, _, e3⟩ := i.getS hg
        have h0 := ats_get i h e3
        refine ats_put i h ?_
        unfold tellS
        split
        · exact h0
        · split
          · exact h0
          · split
            · exact hm
            · exact max_pos h0 hm
  | cleaned m =>
    unfold cleanedS
    cases hg : getS S m.tn m.ts with
    | none => exact h
    | some s =>
      simp only
      split
      · exact h
      · exact ats_drop i h
  | report o now => exact ats_report (keys S.l) S i h (fun k hk => keys_some i.srt hk) (keys_ne i.srt)
theorem live_max {a b span now : Int} (h0 : 0 ≤ a) (hn : now ≤ 18446744073709551615) (hb : b ≤ now) (h : liveB a span now = true) : liveB (max2 a b) span now = true := by
  unfold liveB at *
  by_cases h1 : now ≥ a
  · rw [if_pos h1] at h
    have h2 := of_decide_eq_true h
    rw [u64w (now - a) (by omega) (by omega)] at h2
    have hm : a ≤ max2 a b ∧ max2 a b ≤ now := by unfold max2; split <;> omega
    rw [if_pos (by omega), u64w (now - max2 a b) (by omega) (by omega), decide_eq_true (by omega)]
  · rw [if_neg h1] at h; cases h
theorem tell_idem {S : Sn} {m : Msg} {s : Stb} {now : Int} (h0 : 0 ≤ s.at_) (hn : now ≤ 18446744073709551615) (hm : m.at_ ≤ now) (h1 : s.state = 1 ∨ s.state = 2) (h2 : (tellS S m s now).state = 1 ∨ (tellS S m s now).state = 2) : tellS S m (tellS S m s now) now = tellS S m s now := by
  by_cases c1 : m.code ≠ 0 ∨ (s.state = 1 ∧ liveB m.at_ S.span now = false)
  · have : tellS S m s now = { s with state := 4 } := by unfold tellS; rw [if_pos c1]
    rw [this] at h2
    rcases h2 with h2 | h2 <;> exact absurd h2 (by show ¬ (4 : Int) = _; decide)
  · by_cases c2 : lapsedB S s now = true
    · have : tellS S m s now = s := by unfold tellS; rw [if_neg c1, if_pos c2]
      rw [this, this]
    · have hcode : ¬ m.code ≠ 0 := fun h => c1 (.inl h)
      by_cases c3 : s.state = 1
      · have : tellS S m s now = { s with state := 2, at_ := m.at_ } := by unfold tellS; rw [if_neg c1, if_neg c2, if_pos c3]
        have hl : liveB m.at_ S.span now = true := by
          cases hh : liveB m.at_ S.span now with
          | true => rfl
          | false => exact absurd (.inr ⟨c3, hh⟩) c1
        rw [this]
        unfold tellS
        rw [if_neg (by rintro (h | h); · exact hcode h
                       · exact absurd h.1 (by show ¬ (2 : Int) = 1; decide))]
        rw [if_neg (by rw [lap_of (s := { s with state := 2, at_ := m.at_ }) rfl]; show ¬ (!liveB m.at_ S.span now) = true; rw [hl]; simp)]
        rw [if_neg (by show ¬ (2 : Int) = 1; decide)]
        have : max2 m.at_ m.at_ = m.at_ := by unfold max2; split <;> rfl
        simp only [this]
      · have e2 : s.state = 2 := by omega
        have : tellS S m s now = { s with at_ := max2 s.at_ m.at_ } := by unfold tellS; rw [if_neg c1, if_neg c2, if_neg c3]
        have hl : liveB s.at_ S.span now = true := by
          rw [lap_of e2] at c2
          simpa using c2
        rw [this]
        unfold tellS
        rw [if_neg (by rintro (h | h); · exact hcode h
                       · exact absurd h.1 c3)]
        rw [if_neg (by rw [lap_of (s := { s with at_ := max2 s.at_ m.at_ }) e2]; show ¬ (!liveB (max2 s.at_ m.at_) S.span now) = true; rw [live_max h0 hn hm hl]; simp)]
        rw [if_neg c3]
        have : max2 (max2 s.at_ m.at_) m.at_ = max2 s.at_ m.at_ := by unfold max2; split <;> (try split) <;> omega
        simp only [this]
theorem get_put_eq {S : Sn} {s s0 : Stb} (hs : Srt ilt (keys S.l)) (hg : get ilt S.l (keyOf s.nd s.sr) = some s0) : get ilt (putS S s).l (keyOf s.nd s.sr) = some s := by
  have hh : has ilt S.l (keyOf s.nd s.sr) = true := by
    unfold get at hg
    split at hg
    · assumption
    · cases hg
  show get ilt (putF S.c.stubs S.l (keyOf s.nd s.sr) s) _ = _
  unfold putF
  rw [if_pos (.inl hh), get_put ilt_lin hs, if_pos rfl]
theorem told_twice {S : Sn} {m : Msg} {now : Int} (i : SI S) (h : AtS S) (hn : now ≤ 18446744073709551615) : (toldS (toldS S m now).1 m now).2 = false ∧ (toldS (toldS S m now).1 m now).1.l = (toldS S m now).1.l := by
  cases hg : getS S m.tn m.ts with
  | none =>
    have e : toldS S m now = (S, false) := by unfold toldS; rw [hg]
    rw [e]
    simp only
    rw [e]
    exact ⟨rfl, rfl⟩
  | some s =>
    by_cases hc : heardB S m 5 s = false ∨ (s.state ≠ 1 ∧ s.state ≠ 2) ∨ m.at_ > now
    · have e : toldS S m now = (S, false) := by unfold toldS; rw [hg]; simp only; rw [if_pos hc]
      rw [e]
      simp only
      rw [e]
      exact ⟨rfl, rfl⟩
    · obtain ⟨sw, e1, e2, e3⟩ := i.getS hg
      have h0 := ats_get i h e3
      have e : toldS S m now = (putS S (tellS S m s now), decide (tellS S m s now ≠ s)) := by unfold toldS; rw [hg]; simp only; rw [if_neg hc]
      rw [e]
      simp only
      obtain ⟨t1, t2, t3⟩ := tell_wf (S := S) (m := m) (now := now) sw
      generalize hs' : tellS S m s now = s' at *
      have hk : keyOf s'.nd s'.sr = keyOf m.tn m.ts := by rw [t2, t3, e1, e2]
      have hg1 : get ilt (putS S s').l (keyOf m.tn m.ts) = some s' := by
        have := get_put_eq (s := s') (s0 := s) i.srt (by rw [hk]; exact e3)
        rwa [hk] at this
      have hg2 : getS (putS S s') m.tn m.ts = some s' := by
        unfold getS
        rw [hg1]
        simp only
        rw [if_pos ⟨by rw [t2, e1], by rw [t3, e2]⟩]
      unfold toldS
      rw [hg2]
      simp only
      by_cases hc' : heardB (putS S s') m 5 s' = false ∨ (s'.state ≠ 1 ∧ s'.state ≠ 2) ∨ m.at_ > now
      · rw [if_pos hc']
        exact ⟨rfl, rfl⟩
      · rw [if_neg hc']
        have hid : tellS (putS S s') m s' now = s' := by
          show tellS S m s' now = s'
          rw [← hs']
          refine tell_idem h0 hn (by omega) (by omega) ?_
          rw [hs']
          omega
        rw [hid]
        refine ⟨by simp, ?_⟩
        rw [putS_same (i.put t1).srt (by rw [hk]; exact hg1)]
theorem cleaned_twice {S : Sn} {m : Msg} (i : SI S) : (cleanedS (cleanedS S m).1 m).2 = false ∧ (cleanedS (cleanedS S m).1 m).1.l = (cleanedS S m).1.l := by
  cases hg : getS S m.tn m.ts with
  | none =>
    have e : cleanedS S m = (S, false) := by unfold cleanedS; rw [hg]
    rw [e]
    simp only
    rw [e]
    exact ⟨rfl, rfl⟩
  | some s =>
    by_cases hc : heardB S m 7 s = false ∨ s.state ≠ 3
    · have e : cleanedS S m = (S, false) := by unfold cleanedS; rw [hg]; simp only; rw [if_pos hc]
      rw [e]
      simp only
      rw [e]
      exact ⟨rfl, rfl⟩
    · obtain ⟨sw, e1, e2, e3⟩ := i.getS hg
      have e : cleanedS S m = ({ S with l := drp ilt S.l (keyOf s.nd s.sr) }, has ilt S.l (keyOf s.nd s.sr)) := by unfold cleanedS; rw [hg]; simp only; rw [if_neg hc]
      rw [e]
      simp only
      have hn : getS { S with l := drp ilt S.l (keyOf s.nd s.sr) } m.tn m.ts = none := by
        unfold getS
        have : get ilt (drp ilt S.l (keyOf s.nd s.sr)) (keyOf m.tn m.ts) = none := by rw [get_drp ilt_lin i.srt, if_pos (by rw [e1, e2])]
        simp only [this]
      unfold cleanedS
      rw [hn]
      exact ⟨rfl, rfl⟩
section
variable {w w' W : World} {Q : Value → World → Prop} {g gt gr gs gm : Nat} {ft ft' fr fr' : List Nat} {S S' S1 S2 : Sn} {now : Int} {c : Cfg} {ip : Option Addr} {cap : Nat} {l : List Stp} {m : Msg}
structure TwC (W w : World) (g gt : Nat) (ft : List Nat) (S1 : Sn) (gr : Nat) (fr : List Nat) (S2 : Sn) (gm : Nat) (m : Msg) : Prop where
  t : Two W w g gt ft S1 gr fr S2
  b : Ob w g ft fr gm m.cells 47
  w : W.heap.size ≤ gm
theorem TwC.keep' (h : TwC W w g gt ft S1 gr fr S2 gm m) (f : Fr [] w w') : TwC W w' g gt ft S1 gr fr S2 gm m := ⟨h.t.keep' f, h.b.keep' f, h.w⟩
theorem TwC.nextP (h : TwC W w g gt ft S1 gr fr S2 gm m) (t' : PTa w' g gt ft' S') (f : Fr (g :: ft) w w') (e : ∀ x ∈ ft', x ∈ ft ∨ w.heap.size ≤ x) : TwC W w' g gt ft' S' gr fr S2 gm m := ⟨h.t.nextP t' f e, h.b.nextP f e, h.w⟩
theorem TwC.st (h : TwC W w g gt ft S1 gr fr S2 gm m) {i : Nat} {v : Value} (m' : Msg) (hi : i < 19) (he : m.cells.set i v = m'.cells) {K : World → Prop} (hK : ∀ w', TwC W w' g gt ft S1 gr fr S2 gm m' → Fr [gm] w w' → K w') : stK w ((at0 gm 0).add i) v K :=
  stB h.b.b (by rw [m.len]; exact hi) fun w' b f => hK w' ⟨h.t.off h.b.n1 h.b.n2 h.w f, ⟨by rw [← he]; exact b, h.b.n1, h.b.n2⟩, h.w⟩ f
theorem twice_j4 (h : TwC W w g gt ft S gr fr S2 gm m) (i : SI S) (hQ : ∀ w', Fr [] W w' → Q (.bool true) w') : X7.j4 Q (at0 gm 0) (some (at0 g 0)) w := by
  unfold X7.j4
  refine h.st { m with kind := 7 } (by omega) rfl fun w1 h1 f1 => ?_
  obtain ⟨c1, c2⟩ := cleaned_twice (m := { m with kind := 7 }) i
  refine ld_Msg (s := { m with kind := 7 }) h1.b.b.cat (cleaned_spec (m := { m with kind := 7 }) h1.t.p.t ?_)
  intro ft2 w2 t2 f2 e2
  have h2 := h1.nextP t2 f2 e2
  refine ⟨_, rfl, all_spec h2.t.p.t fun ap ac w3 oa f3 n3 => ⟨_, _, _, rfl, ?_⟩⟩
  have h3 := h2.keep' f3
  have na : ∀ x ∈ fbl ap, x ∉ g :: ft2 := fun x hx => h2.t.new1 (n3 x hx)
  refine ld_Msg (s := { m with kind := 7 }) h3.b.b.cat (cleaned_spec (m := { m with kind := 7 }) h3.t.p.t ?_)
  intro ft4 w4 t4 f4 e4
  have h4 := h3.nextP t4 f4 e4
  have oa4 := oa.keep f4 na
  rw [c1]
  refine ⟨_, rfl, bc_bool (fun _ => all_spec h4.t.p.t fun bp bc w5 ob f5 n5 => ⟨_, _, _, rfl, ?_⟩) (fun hh => by cases hh)⟩
  have hsm := h4.t.p.t.small
  rw [c2] at ob hsm ⊢
  refine hstubs_spec rfl (by omega) ob (oa4.keep' f5) fun w6 f6 => ⟨_, rfl, ?_⟩
  exact hQ w6 ((h4.t.p.F.tr f5).tr f6)
theorem twice_j5 (hn : now ≤ 18446744073709551615) (h : TwC W w g gt ft S gr fr S2 gm m) (i : SI S) (ha : AtS S) (hQ : ∀ w', Fr [] W w' → Q (.bool true) w') : X7.j5 Q (at0 gm 0) (some (at0 g 0)) now w := by
  unfold X7.j5
  refine h.st { m with kind := 5 } (by omega) rfl fun w1 h1 f1 => ?_
  obtain ⟨c1, c2⟩ := told_twice (m := { m with kind := 5 }) i ha hn
  refine ld_Msg (s := { m with kind := 5 }) h1.b.b.cat (told_spec (m := { m with kind := 5 }) h1.t.p.t ?_)
  intro ft2 w2 t2 f2 e2
  have h2 := h1.nextP t2 f2 e2
  refine ⟨_, rfl, all_spec h2.t.p.t fun ap ac w3 oa f3 n3 => ⟨_, _, _, rfl, ?_⟩⟩
  have h3 := h2.keep' f3
  have na : ∀ x ∈ fbl ap, x ∉ g :: ft2 := fun x hx => h2.t.new1 (n3 x hx)
  refine ld_Msg (s := { m with kind := 5 }) h3.b.b.cat (told_spec (m := { m with kind := 5 }) h3.t.p.t ?_)
  intro ft4 w4 t4 f4 e4
  have h4 := h3.nextP t4 f4 e4
  have oa4 := oa.keep f4 na
  have i2 : SI (toldS S { m with kind := 5 } now).1 := i.told
  have i4 : SI (toldS (toldS S { m with kind := 5 } now).1 { m with kind := 5 } now).1 := i2.told
  rw [c1]
  refine ⟨_, rfl, bc_bool (fun hh => by cases hh) (fun _ => all_spec h4.t.p.t fun bp bc w5 ob f5 n5 => ⟨_, _, _, rfl, ?_⟩)⟩
  have hsm := h4.t.p.t.small
  rw [c2] at ob hsm ⊢
  refine hstubs_spec rfl (by omega) ob (oa4.keep' f5) fun w6 f6 => ⟨_, rfl, bc_bool (fun hh => by cases hh) (fun _ => ?_)⟩
  exact twice_j4 ((h4.keep' f5).keep' f6) i4 hQ
theorem twice_j2 (hn : now ≤ 18446744073709551615) {s : Stb} (h : TwC W w g gt ft S gr fr S2 gm m) (b : Ob w g ft fr gs s.cells 51) (hne : gs ≠ gm) (i : SI S) (ha : AtS S) (hQ : ∀ w', Fr [] W w' → Q (.bool true) w') : X7.j2 Q (at0 gm 0) (some (at0 g 0)) now (at0 gs 0) w := by
  unfold X7.j2
  refine ld_int (b.b.cat.sub 0 0 rfl) (ld_int (b.b.cat.sub 0 1 rfl) ?_)
  rw [add_at gm 0 8]
  refine stAll_blk (o := 8) h.b.b (by rw [m.len]; show 8 + 2 ≤ 19; omega) fun w3 b3 f3 => ?_
  have h3 : TwC W w3 g gt ft S gr fr S2 gm { m with tn := s.nd, ts := s.sr } := ⟨h.t.off h.b.n1 h.b.n2 h.w f3, ⟨b3, h.b.n1, h.b.n2⟩, h.w⟩
  have s3 := b.loc hne f3
  refine ld_int (s3.b.cat.sub 0 0 rfl) (h3.st { m with tn := s.nd, ts := s.sr, frm := s.nd } (by omega) rfl fun w5 h5 f5 => ?_)
  have s5 := s3.loc hne f5
  refine ld_int (s5.b.cat 3 _ rfl) (h5.st { m with tn := s.nd, ts := s.sr, frm := s.nd, seq := s.seq } (by omega) rfl fun w7 h7 f7 => ?_)
  refine ld_int (h7.b.b.cat 15 _ rfl) ⟨by omega, h7.st { m with tn := s.nd, ts := s.sr, frm := s.nd, seq := s.seq, at_ := IntKind.wrap .u64 (now - min2 now (Int.tmod m.at_ 50)) } (by omega) rfl fun w9 h9 f9 => ?_⟩
  exact twice_j5 hn h9 i ha hQ
theorem twice_j3 {t73 : Bool} (hn : now ≤ 18446744073709551615) (h : TwC W w g gt ft S gr fr S gm m) (h73 : t73 = true → 0 < S.l.length) (i : SI S) (ha : AtS S) (hQ : ∀ w', Fr [] W w' → Q (.bool true) w') : X7.j3 Q (at0 gm 0) (some (at0 g 0)) (some (at0 gr 0)) now t73 w := by
  unfold X7.j3
  simp only [optP_some]
  refine bc_bool (fun e => drawn fun w1 f1 _ => ?_) (fun _ => twice_j5 hn h i ha hQ)
  have hl := h73 e
  have h1 := h.keep' f1
  have hsm := h.t.p.t.small
  rw [add_at gr 0 24]
  obtain ⟨pk, pv, ck, cv, t'⟩ := id h1.t.r
  have cV : ∀ {w2 : World}, Fr [] w1 w2 → w2.cell? ((at0 gr (0 + 24)).add 2) = some (.slice pv S.l.length cv) := fun f => RT_SB.v2 (RT_SB.keep' t' f)
  have hp := md (n := m.item) (m := (S.l.length : Int)) (by omega)
  have hy := List.getElem?_eq_getElem (show (m.item % (S.l.length : Int)).toNat < S.l.length by omega)
  generalize S.l[(m.item % (S.l.length : Int)).toNat] = y at hy
  have z1 := h1.t.p.F.size
  have atV : ∀ {w2 : World}, Fr [] w1 w2 → ∃ a, pv = some a ∧ At w2 (a.add ((m.item % (S.l.length : Int)).toNat * 9)) y.2.cells := fun f => own_at vc_len_SB (RT_SB.vs (RT_SB.keep' t' f)) rfl hy
  have fin : ∀ {w2 w3 : World} {gs : Nat}, Fr [] w1 w2 → w1.heap.size ≤ gs → gs < w2.heap.size → Blk w3 gs y.2.cells 51 → Fr [gs] w2 w3 → X7.j2 Q (at0 gm 0) (some (at0 g 0)) now (at0 gs 0) w3 := by
    intro w2 w3 gs f2 hgs hlt b3 f3
    have h2 := h1.keep' f2
    have n1 := h1.t.new1 hgs
    have n2 := h1.t.new2 hgs
    have lm := h1.b.b.lt
    have h3 : TwC W w3 g gt ft S gr fr S gm m := ⟨h2.t.off n1 n2 (by omega) f3, h2.b.loc (by omega) f3, h.w⟩
    exact twice_j2 hn h3 ⟨b3, n1, n2⟩ (by omega) i ha hQ
  obtain ⟨a, hpa, hat⟩ := atV (Fr.refl w1)
  have atA : ∀ {w2 : World}, Fr [] w1 w2 → At w2 (a.add ((m.item % (S.l.length : Int)).toNat * 9)) y.2.cells := fun f => hat.keep' f
  refine ⟨?_, ?_⟩
  · refine ld_sl (cV (Fr.refl _)) (ld_int (h1.b.b.cat 7 _ rfl) (ld_sl (cV (Fr.refl _)) (pick_spec (by omega) (by omega) ⟨_, rfl, ⟨cV (Fr.refl _), cV (Fr.refl _)⟩, ⟨by omega, by omega⟩, opt_some hpa ?_⟩)))
    refine ld_Stb (s := y.2) hat (newB fun gs w21 b21 f21 h21 => ⟨⟨hat, atA f21⟩, ⟨cV (Fr.refl _), cV f21⟩, ⟨h1.b.b.cat 7 _ rfl, (h1.keep' f21).b.b.cat 7 _ rfl⟩, ⟨cV (Fr.refl _), cV f21⟩, stAllB (vs := y.2.cells) b21 rfl fun w22 b22 f22 => ?_⟩)
    exact fin f21 h21 b21.lt b22 f22
  · refine ld_sl (cV (Fr.refl _)) (ld_int (h1.b.b.cat 7 _ rfl) (ld_sl (cV (Fr.refl _)) (newB fun gs w29 b29 f29 h29 => ⟨⟨cV (Fr.refl _), cV f29⟩, ⟨h1.b.b.cat 7 _ rfl, (h1.keep' f29).b.b.cat 7 _ rfl⟩, ⟨cV (Fr.refl _), cV f29⟩, ?_⟩)))
    refine pick_spec (by omega) (by omega) ⟨_, rfl, ⟨cV f29, cV f29⟩, ⟨by omega, by omega⟩, opt_some hpa ?_⟩
    refine ld_Stb (s := y.2) (atA f29) ⟨⟨hat, atA f29⟩, stAllB (vs := y.2.cells) b29 rfl fun w43 b43 f43 => ?_⟩
    exact fin f29 h29 b29.lt b43 f43
theorem twice_j6 (hn : now ≤ 18446744073709551615) (h : TwC W w g gt ft S gr fr S gm m) (i : SI S) (ha : AtS S) (hQ : ∀ w', Fr [] W w' → Q (.bool true) w') : X7.j6 Q (at0 gm 0) (some (at0 g 0)) (some (at0 gr 0)) now w := by
  unfold X7.j6
  simp only [optP_some]
  refine h.st { m with to := 1 } (by omega) rfl fun w1 h1 f1 => ?_
  rw [add_at gr 0 24]
  obtain ⟨pk, pv, ck, cv, t'⟩ := id h1.t.r
  refine ld_sl (RT_SB.v2 t') (bc_dec (fun hl => ld_int (h1.b.b.cat 7 _ rfl) ⟨by omega, twice_j3 hn h1 (fun _ => by omega) i ha hQ⟩) (fun hl => twice_j3 hn h1 (fun e => by cases e) i ha hQ))
theorem twice_l0 {W0 : World} (hS : StepsAt W ip l) (F0 : Fr [] W0 W) (bm : Blk W gm m.cells 47) (hgm : W0.heap.size ≤ gm) (hn2 : 2 ≤ c.nodes) (hQ : ∀ w', Fr [] W0 w' → Q (.bool true) w') :
    ∀ (f i : Nat) (w : World) (ft fr : List Nat) (S : Sn) (now : Int), 80 - i < f → i ≤ 80 → Two W w g gt ft S gr fr S → SI S → AtS S → S.c = c → 0 ≤ now → now ≤ 18446744073709551615 → X7.l0 Q f ip l.length cap (at0 gm 0) (some (at0 g 0)) (some (at0 gr 0)) now (i : Int) w
  | 0, i, w, ft, fr, S, now, hf, _, _, _, _, _, _, _ => by omega
  | f + 1, i, w, ft, fr, S, now, hf, hi, h, I, A, hc, hn0, hn1 => by
    rw [X7.l0]
    have zW := F0.size
    have lgm := bm.lt
    have fin : X7.j6 Q (at0 gm 0) (some (at0 g 0)) (some (at0 gr 0)) now w := by
      have h0 : Two W0 w g gt ft S gr fr S := ⟨⟨h.p.t, fun x hx => by have := h.p.new x hx; omega, F0.tr h.p.F⟩, h.r, fun x hx => by have := h.rn x hx; omega, h.d⟩
      exact twice_j6 hn1 ⟨h0, ⟨bm.keep' h.p.F, fun hm => by have := h.p.new gm hm; omega, fun hm => by have := h.rn gm hm; omega⟩, hgm⟩ I A hQ
    refine bc_dec (fun h1 => bc_dec (fun h2 => ?_) (fun h2 => fin)) (fun h1 => fin)
    have hlt : i < l.length := by omega
    have hg := List.getElem?_eq_getElem hlt
    generalize l[i] = x at hg
    obtain ⟨a, ha, hat⟩ := hS.at_ i x hg
    have hwf := hS.wf x (List.mem_of_getElem? hg)
    have hat := hat.keep' h.p.F
    unfold X7.j1
    refine ⟨⟨by omega, by omega⟩, opt_some ha (ld_int (by rw [Int.toNat_natCast]; exact hat 6 _ rfl) ⟨by omega, ⟨by omega, by omega⟩, opt_some ha ?_⟩)⟩
    rw [Int.toNat_natCast]
    refine ld_Stp (s := x) hat (play_spec (X := x) (u64p _) (u64b hwf.2.2).1 (by rw [hc]; exact hn2) h I fun w11 ft' fr' S' pr h11 => ⟨_, rfl, ?_⟩)
    rw [i64w ((i : Int) + 1) (by omega) (by omega), show (i : Int) + 1 = ((i + 1 : Nat) : Int) by omega]
    exact twice_l0 hS F0 bm hgm hn2 hQ f (i + 1) w11 ft' fr' S' _ (by omega) (by omega) h11 (pr.si I) (ats_play pr I A) (pr.cfg.trans hc) (u64p _) (u64q _)
theorem stubTwice_row {H : Type} {cs cm : Array Value} {d d2 d3 : DataW H} (h : Lies Try.prog W 6 34 cs.toList d) (hs : SizedD Try.prog 34 d) {ip : Option Addr} {n cap : Nat} (h2 : Lies Try.prog W 6 56 [.slice ip n cap] d2) (_ : n * 64 ≤ 140737488351232) (h3 : Lies Try.prog W 6 47 cm.toList d3) (_ : SizedD Try.prog 47 d3) :
    CallR Try.prog 7 #[.agg cs, .slice ip n cap, .agg cm] W fun v w' => v = .bool true ∧ Fr [] W w' := by
  obtain ⟨r, rfl, hr0⟩ := raw_open h
  obtain ⟨l, rfl, hst⟩ := steps_of_lies h2
  obtain ⟨m, hm, _⟩ := Msg_of_lies (n := 3) h3
  obtain rfl : cm = m.cells.toArray := by apply Array.ext'; exact hm
  apply X7.sound
  unfold X7.f
  have cr := conf_rng r
  have dr := (drift_half r).1
  refine newB fun g1 w2 b f2 hg1 => newB fun gm w4 bm f4 hgm => ?_
  have b : Blk w2 g1 r.cells 34 := b
  have b := b.keep' f4
  have bm : Blk w4 gm m.cells 47 := bm
  refine ld_Raw (s := r) b.cat (config_spec (r := r) fun w28 f28 => ⟨_, _, _, _, _, _, _, _, _, _, _, _, _, _, _, _, _, _, _, _, _, _, rfl, newB fun gc w52 bc f52 h52 => stAllB (vs := (configOf r).cells) bc rfl fun w53 b53 f53 => ?_⟩)
  have F4 := f2.tr f4
  have F28 := F4.tr f28
  have z2 := f2.size
  have z28 := F28.size
  have z428 := f28.size
  have lm := bm.lt
  have F53 : Fr [] W w53 := (F28.tr f52).loc f53 (by omega)
  have bm53 := (bm.keep' (f28.tr f52)).off1 (by omega) f53
  have hok : newOk (configOf r) 1 0 := conf_ok hr0 _ (by omega) (by omega)
  refine ld_Cfg (s := configOf r) b53.cat (newL hok dr fun g gt ft w77 p => ⟨_, _, rfl, ?_⟩)
  have b77 := b53.keep' p.F
  refine ld_Cfg (s := configOf r) b77.cat (rnew_spec dr (fun hn => absurd hok hn) fun _ gr fr w103 pr f103 nr => ⟨_, rfl, known_spec fun w106 f106 => ⟨_, rfl, bc_bool (fun h => by cases h) (fun _ => bc_ne (fun h => absurd rfl h) (fun _ => bc_bool (fun h => by cases h) (fun _ => ?_)))⟩⟩)
  have T := (two_new (node := 0) (seq := 0) p f103 pr nr).keep' f106
  unfold X7.j7
  refine ⟨81, twice_l0 (W := w53) (W0 := W) (c := configOf r) (hst.keep' F53) F53 bm53 (by omega) (by omega) (fun w' f' => ⟨rfl, f'⟩) _ 0 w106 ft fr _ _ (by omega) (by omega) T (si_new hok dr (by omega)) (fun e he => by cases he) rfl (by omega) (by omega)⟩
end
end Go.Proofs.YtglininpmfgggaaX
