/- StubNumbers: sequence numbers only rise; no two stubs have one. -/
import Derived.Test.YtglininpmfgggaaL18Plays
namespace Go.Proofs.YtglininpmfgggaaX
open Go.RowKit
set_option linter.unusedVariables false
set_option linter.unusedSimpArgs false
set_option maxRecDepth 100000
structure NumI (b : Int) (S : Sn) : Prop where
  low : b ≤ S.seq
  rng : ∀ e ∈ S.l, b < e.2.seq ∧ e.2.seq ≤ S.seq
  inj : ∀ e ∈ S.l, ∀ e' ∈ S.l, e.2.seq = e'.2.seq → e.1 = e'.1
  len : (S.l.length : Int) ≤ S.c.stubs
theorem mem_putF {most : Int} {l : List (Int × Stb)} {k : Int} {v : Stb} {e : Int × Stb} (hs : Srt ilt (keys l)) (he : e ∈ putF most l k v) : e = (k, v) ∨ (e.1 ≠ k ∧ e ∈ l) ∨ (e ∈ l ∧ has ilt l k = false ∧ ¬ (l.length : Int) < most) := by
  unfold putF at he
  split at he
  · rcases (mem_put ilt_lin hs).1 he with h | h
    · exact .inl h
    · exact .inr (.inl h)
  · rename_i hn
    refine .inr (.inr ⟨he, ?_, fun h => hn (.inr h)⟩)
    cases hh : has ilt l k with
    | false => rfl
    | true => exact absurd (.inl hh) hn
theorem putF_len {most : Int} {l : List (Int × Stb)} {k : Int} {v : Stb} (h : (l.length : Int) ≤ most) : ((putF most l k v).length : Int) ≤ most := by
  unfold putF
  split
  · rename_i hh
    rw [put_length]
    split
    · exact h
    · rename_i hn
      rcases hh with hh | hh
      · exact absurd hh hn
      · omega
  · exact h
theorem num_put {b : Int} {S : Sn} {s s0 : Stb} (i : SI S) (h : NumI b S) (hg : get ilt S.l (keyOf s.nd s.sr) = some s0) (hq : s.seq = s0.seq) : NumI b (putS S s) := by
  have hm := (get_iff ilt_lin i.srt).1 hg
  have hrep : ∀ e ∈ (putS S s).l, ∃ e0 ∈ S.l, e0.1 = e.1 ∧ e0.2.seq = e.2.seq := fun e he => by
    rcases mem_putF i.srt he with rfl | ⟨_, he⟩ | ⟨he, _⟩
    · exact ⟨_, hm, rfl, hq.symm⟩
    · exact ⟨e, he, rfl, rfl⟩
    · exact ⟨e, he, rfl, rfl⟩
  refine ⟨h.low, fun e he => ?_, fun e he e' he' hh => ?_, putF_len h.len⟩
  · obtain ⟨e0, h0, _, h2⟩ := hrep e he
    rw [← h2]; exact h.rng e0 h0
  · obtain ⟨e0, h0, h1, h2⟩ := hrep e he
    obtain ⟨e1, h0', h1', h2'⟩ := hrep e' he'
    rw [← h1, ← h1']
    exact h.inj e0 h0 e1 h0' (by rw [h2, h2', hh])
theorem num_fresh {b : Int} {S : Sn} {s : Stb} (i : SI S) (h : NumI b S) (hn : S.seq ≠ 72057594037927935) (hq : s.seq = IntKind.wrap .u64 (S.seq + 1)) : NumI b (putS { S with seq := IntKind.wrap .u64 (S.seq + 1) } s) ∧ S.seq ≤ IntKind.wrap .u64 (S.seq + 1) := by
  have s0 := i.seq0
  have s1 := i.seq1
  have e1 : IntKind.wrap .u64 (S.seq + 1) = S.seq + 1 := u64w _ (by omega) (by omega)
  have lw := h.low
  rw [e1] at hq ⊢
  refine ⟨⟨by show b ≤ S.seq + 1; omega, fun e he => ?_, fun e he e' he' hh => ?_, putF_len h.len⟩, by omega⟩
  · show b < e.2.seq ∧ e.2.seq ≤ S.seq + 1
    rcases mem_putF i.srt he with rfl | ⟨_, he⟩ | ⟨he, _⟩
    · simp only; omega
    · have := h.rng e he; omega
    · have := h.rng e he; omega
  · have cs : ∀ e ∈ (putS { S with seq := S.seq + 1 } s).l, e.1 = keyOf s.nd s.sr ∧ e.2.seq = S.seq + 1 ∨ e ∈ S.l ∧ e.2.seq ≤ S.seq := fun e he => by
      rcases mem_putF i.srt he with rfl | ⟨_, he⟩ | ⟨he, _⟩
      · exact .inl ⟨rfl, hq⟩
      · exact .inr ⟨he, (h.rng e he).2⟩
      · exact .inr ⟨he, (h.rng e he).2⟩
    rcases cs e he with ⟨h1, h2⟩ | ⟨h1, h2⟩
    · rcases cs e' he' with ⟨h3, h4⟩ | ⟨h3, h4⟩
      · rw [h1, h3]
      · omega
    · rcases cs e' he' with ⟨h3, h4⟩ | ⟨h3, h4⟩
      · omega
      · exact h.inj e h1 e' h3 hh
theorem num_drop {b k : Int} {S : Sn} (i : SI S) (h : NumI b S) : NumI b { S with l := drp ilt S.l k } := by
  have hm : ∀ e ∈ drp ilt S.l k, e ∈ S.l := fun e he => ((mem_drp ilt_lin i.srt).1 he).2
  refine ⟨h.low, fun e he => h.rng e (hm e he), fun e he e' he' => h.inj e (hm e he) e' (hm e' he'), ?_⟩
  have := h.len
  show ((drp ilt S.l k).length : Int) ≤ S.c.stubs
  rw [drp_length]
  split <;> omega
theorem num_rep {b k now : Int} {S : Sn} {o : List Otr} {s : Stb} (i : SI S) (h : NumI b S) (hg : get ilt S.l k = some s) (hk : k = keyOf s.nd s.sr) : NumI b (repS S o now k s) ∧ S.seq ≤ (repS S o now k s).seq := by
  have hg' : get ilt S.l (keyOf s.nd s.sr) = some s := by rw [← hk]; exact hg
  unfold repS
  cases findO o s.nd s.sr with
  | some r => exact ⟨num_put (s := { s with dist := min2 (IntKind.wrap .i64 (r + 1)) 40 }) i h hg' rfl, Int.le_refl _⟩
  | none =>
    simp only
    split
    · exact ⟨num_put i h hg' rfl, Int.le_refl _⟩
    · split
      · exact ⟨num_drop i h, Int.le_refl _⟩
      · rename_i hn
        exact num_fresh (s := { s with state := 3, seq := IntKind.wrap .u64 (S.seq + 1), sent := now, wait := 0 }) i h (fun hx => hn (.inr (.inr hx))) rfl
theorem num_report {b now : Int} {o : List Otr} : ∀ (ks : List Int) (S : Sn), SI S → NumI b S → (∀ k ∈ ks, ∃ s, get ilt S.l k = some s) → ks.Pairwise (fun a b => a ≠ b) →
    NumI b (ks.foldl (fun S k => repE S o now k) S) ∧ S.seq ≤ (ks.foldl (fun S k => repE S o now k) S).seq
  | [], S, i, h, _, _ => ⟨h, Int.le_refl _⟩
  | k :: ks, S, i, h, hg, hp => by
    obtain ⟨s, hs⟩ := hg k (by simp)
    have hgi := i.geti hs
    have he : repE S o now k = repS S o now k s := by unfold repE; rw [hs]; rfl
    rw [List.foldl_cons, he]
    obtain ⟨p1, p2⟩ := List.pairwise_cons.1 hp
    have n1 := num_rep (o := o) (now := now) i h hs hgi.1
    have n2 := num_report (o := o) (now := now) ks _ (i.rep hgi.2) n1.1 (fun k' hk' => by
      obtain ⟨s', hs'⟩ := hg k' (by simp [hk'])
      exact ⟨s', by rw [rep_get i.srt hgi.1 (p1 k' hk').symm]; exact hs'⟩) p2
    exact ⟨n2.1, Int.le_trans n1.2 n2.2⟩
theorem turn_seq {S : Sn} {s : Stb} {now : Int} : (turnS S s now).1.seq = s.seq := by
  unfold turnS
  split
  · rfl
  · split
    · rfl
    · split
      · rfl
      · split <;> rfl
theorem num_play {b : Int} {S S' : Sn} (p : PlayR S S') (i : SI S) (h : NumI b S) : NumI b S' ∧ S.seq ≤ S'.seq := by
  have fresh : ∀ {nd sr v now : Int}, NumI b (freshS S nd sr v now).1 ∧ S.seq ≤ (freshS S nd sr v now).1.seq := by
    intro nd sr v now
    unfold freshS
    split
    · exact ⟨h, Int.le_refl _⟩
    · rename_i hn
      exact num_fresh (s := ⟨nd, sr, 1, IntKind.wrap .u64 (S.seq + 1), v, now, now, 0, 1⟩) i h hn rfl
  cases p with
  | want nd sr v now =>
    unfold wantS
    split
    · exact ⟨h, Int.le_refl _⟩
    · cases hg : get ilt S.l (keyOf nd sr) with
      | none =>
        simp only
        split
        · exact ⟨h, Int.le_refl _⟩
        · exact fresh
      | some s =>
        have hk := (i.geti hg).1
        simp only
        split
        · split
          · exact ⟨num_put (s := { s with state := 4 }) (s0 := s) i h (by show get ilt S.l (keyOf s.nd s.sr) = _; rw [← hk]; exact hg) rfl, Int.le_refl _⟩
          · exact ⟨h, Int.le_refl _⟩
        · exact fresh
  | step now =>
    unfold stepS
    cases ha : after ilt S.l S.last with
    | none => exact ⟨h, Int.le_refl _⟩
    | some k =>
      simp only
      have hl : NumI b { S with last := k } := ⟨h.low, h.rng, h.inj, h.len⟩
      cases hg : get ilt S.l k with
      | none =>
        exfalso
        by_cases hn : 0 < S.l.length
        · obtain ⟨p, hp, hk⟩ := after_some hn S.last
          rw [ha] at hk
          exact (get_none ilt_lin i.srt).1 hg (List.mem_of_getElem? hk.symm)
        · rw [after_none (by omega)] at ha; cases ha
      | some s =>
        have hgi := i.geti hg
        have tw := turn_wf (now := now) i hgi.2
        exact ⟨num_put (s0 := s) i.last hl (by show get ilt S.l (keyOf (turnS S s now).1.nd (turnS S s now).1.sr) = some s; rw [tw.2.1, tw.2.2, ← hgi.1]; exact hg) turn_seq, Int.le_refl _⟩
  | told m now =>
    unfold toldS
    cases hg : getS S m.tn m.ts with
    | none => exact ⟨h, Int.le_refl _⟩
    | some s =>
      simp only
      split
      · exact ⟨h, Int.le_refl _⟩
      · obtain ⟨_, e1, e2, e3⟩ := i.getS hg
        have tw := tell_wf (S := S) (m := m) (now := now) (i.getS hg).1
        refine ⟨num_put (s0 := s) i h (by rw [tw.2.1, tw.2.2, e1, e2]; exact e3) ?_, Int.le_refl _⟩
        unfold tellS
        split
        · rfl
        · split
          · rfl
          · split <;> rfl
  | cleaned m =>
    unfold cleanedS
    cases hg : getS S m.tn m.ts with
    | none => exact ⟨h, Int.le_refl _⟩
    | some s =>
      simp only
      split
      · exact ⟨h, Int.le_refl _⟩
      · exact ⟨num_drop i h, Int.le_refl _⟩
  | report o now => exact num_report (keys S.l) S i h (fun k hk => keys_some i.srt hk) (keys_ne i.srt)
section
variable {w w' W : World} {Q : Value → World → Prop} {g gt gr gc : Nat} {ft ft' fr fr' : List Nat} {S S' : Sn} {now : Int} {c : Cfg} {ip ap : Option Addr} {cap ac : Nat} {l : List Stp}
theorem key_lt (i : SI S) {a b : Nat} {x y : Int × Stb} (ha : S.l[a]? = some x) (hb : S.l[b]? = some y) (hlt : b < a) : keyOf y.2.nd y.2.sr < keyOf x.2.nd x.2.sr := by
  have ex := (i.ent x (List.mem_of_getElem? ha)).1
  have ey := (i.ent y (List.mem_of_getElem? hb)).1
  have hs := i.srt
  unfold Srt at hs
  rw [List.pairwise_iff_getElem] at hs
  have ka : (keys S.l)[a]? = some x.1 := by rw [keys_get, ha]; rfl
  have kb : (keys S.l)[b]? = some y.1 := by rw [keys_get, hb]; rfl
  obtain ⟨l1, e1⟩ := List.getElem?_eq_some_iff.1 ka
  obtain ⟨l2, e2⟩ := List.getElem?_eq_some_iff.1 kb
  have := hs b a l2 l1 hlt
  rw [e1, e2] at this
  rw [← ex, ← ey]
  simpa [ilt] using this
/-- the table, and all its stubs in a row beside -/
structure NmC (W w : World) (g gt : Nat) (ft : List Nat) (S : Sn) (gr : Nat) (fr : List Nat) (ap : Option Addr) (ac : Nat) : Prop where
  t : Two W w g gt ft S gr fr S
  o : Own 51 9 w ap S.l.length ac (S.l.flatMap vc_SB)
theorem NmC.keep' (h : NmC W w g gt ft S gr fr ap ac) (f : Fr [] w w') : NmC W w' g gt ft S gr fr ap ac := ⟨h.t.keep' f, h.o.keep' f⟩
theorem nums_l2 {b0 : Option Addr → Nat → Nat → Addr → Option Addr → Option Addr → Int → Int → World → Prop} {b1 : Option Addr → Nat → Nat → Addr → Option Addr → Option Addr → Int → Int → Option Addr → Nat → Nat → Int → World → Prop} {n : Nat} {gcA : Addr} {p8 : Option Addr} {t9 t10 b : Int} {a : Nat}
    (i : SI S) (N : NumI b S) (hsl : S.l.length ≤ 4096) (ha : a < S.l.length)
    (hb : ∀ w', NmC W w' g gt ft S gr fr ap ac → b1 ip n cap gcA (some (at0 g 0)) p8 t9 t10 ap S.l.length ac (IntKind.wrap .i64 ((a : Int) + 1)) w') :
    ∀ (f j : Nat) (w : World), a - j < f → j ≤ a → NmC W w g gt ft S gr fr ap ac → X10.l2 Q b0 b1 f ip n cap gcA (some (at0 g 0)) p8 t9 t10 ap S.l.length ac (a : Int) (j : Int) w
  | 0, j, w, hf, _, _ => by omega
  | f + 1, j, w, hf, hj, h => by
    rw [X10.l2]
    refine bc_dec (fun h1 => drawn fun w1 f1 _ => ⟨⟨by omega, by omega⟩, ?_⟩) (fun h1 => ?_)
    · have h1' := h.keep' f1
      have hx := List.getElem?_eq_getElem ha
      have hy := List.getElem?_eq_getElem (show j < S.l.length by omega)
      generalize S.l[a] = x at hx
      generalize S.l[j] = y at hy
      obtain ⟨p, hp, hxt⟩ := own_at vc_len_SB h1'.o rfl hx
      obtain ⟨q, hq, hyt⟩ := own_at vc_len_SB h1'.o rfl hy
      have hxt : At w1 (p.add (a * 9)) x.2.cells := hxt
      have hyt : At w1 (q.add (j * 9)) y.2.cells := hyt
      have klt := key_lt i hx hy (by omega)
      have ids : ∀ {w : World} {z : Stb} {r : Addr}, At w r z.cells → ∀ j u, ([.int .i64 z.nd, .int .u64 z.sr] : List Value)[j]? = some u → w.cell? ((r.add 0).add j) = some u := fun b j u hj => by
        refine b.sub 0 j ?_
        match j, hj with
        | 0, hj => exact hj
        | 1, hj => exact hj
      refine opt_some hp (ld_int (by rw [Int.toNat_natCast]; exact hxt 3 _ rfl) ⟨⟨by omega, by omega⟩, opt_some hq (ld_int (by rw [Int.toNat_natCast]; exact hyt 3 _ rfl) (bc_eq (fun hh => ?_) (fun _ => ⟨⟨by omega, by omega⟩, opt_some hp ?_⟩)))⟩)
      · exfalso
        have e1 := N.inj x (List.mem_of_getElem? hx) y (List.mem_of_getElem? hy) hh
        have a1 := (at_eq i.srt (p := a) (k := x.1) (by rw [keys_get, hx]; rfl)).2
        have a2 := (at_eq i.srt (p := j) (k := x.1) (by rw [keys_get, hy, e1]; rfl)).2
        omega
      · refine ld_int (by rw [Int.toNat_natCast]; exact hxt.sub 0 0 rfl) (ld_int (by rw [Int.toNat_natCast]; exact hxt.sub 0 1 rfl) (key_spec fun w10 f10 => ⟨_, rfl, ⟨by omega, by omega⟩, opt_some hq ?_⟩))
        have hyt10 := hyt.keep' f10
        rw [Int.toNat_natCast]
        refine ld_int (hyt10.sub 0 0 rfl) (ld_int (hyt10.sub 0 1 rfl) ⟨⟨ids hyt, ids hyt10⟩, key_spec fun w16 f16 => ⟨_, rfl, bc_dec (fun hh => by omega) (fun _ => ?_)⟩⟩)
        rw [i64w ((j : Int) + 1) (by omega) (by omega), show (j : Int) + 1 = ((j + 1 : Nat) : Int) by omega]
        exact nums_l2 i N hsl ha hb f (j + 1) w16 (by omega) (by omega) (h1'.keep' (f10.tr f16))
    · exact hb w h
theorem nums_l1 {b0 : Option Addr → Nat → Nat → Addr → Option Addr → Option Addr → Int → Int → World → Prop} {n : Nat} {t9 t10 : Int} (bc : Blk W gc c.cells 24) (hc : S.c = c) (i : SI S) (N : NumI c.last S) (hsl : S.l.length ≤ 4096) (ht9 : t9 ≤ S.seq)
    (hb : ∀ w', NmC W w' g gt ft S gr fr ap ac → b0 ip n cap (at0 gc 0) (some (at0 g 0)) (some (at0 gr 0)) S.seq (IntKind.wrap .i64 (t10 + 1)) w') :
    ∀ (f a : Nat) (w : World), S.l.length - a < f → a ≤ S.l.length → NmC W w g gt ft S gr fr ap ac → X10.l1 Q b0 f ip n cap (at0 gc 0) (some (at0 g 0)) (some (at0 gr 0)) t9 t10 ap S.l.length ac (a : Int) w
  | 0, a, w, hf, _, _ => by omega
  | f + 1, a, w, hf, ha, h => by
    rw [X10.l1]
    refine bc_dec (fun h1 => drawn fun w1 f1 _ => ⟨⟨by omega, by omega⟩, ?_⟩) (fun h1 => ?_)
    · have h1' := h.keep' f1
      have hlt : a < S.l.length := by omega
      have hx := List.getElem?_eq_getElem hlt
      generalize S.l[a] = x at hx
      obtain ⟨p, hp, hxt⟩ := own_at vc_len_SB h1'.o rfl hx
      have hxt : At w1 (p.add (a * 9)) x.2.cells := hxt
      have hr := N.rng x (List.mem_of_getElem? hx)
      refine opt_some hp ?_
      rw [Int.toNat_natCast]
      refine ld_int (hxt 3 _ rfl) (seq_spec h1'.t.p.t ⟨_, rfl, ⟨hxt 3 _ rfl, hxt 3 _ rfl⟩, bc_dec (fun hh => by omega) (fun _ => ⟨⟨by omega, by omega⟩, opt_some hp ?_⟩)⟩)
      refine ld_int (hxt 3 _ rfl) (ld_int ((bc.keep' h1'.t.p.F).cat 21 _ rfl) (bc_dec (fun hh => by omega) (fun _ => ?_)))
      unfold X10.j3
      refine ⟨a + 1, nums_l2 i N hsl hlt (fun w' h' => ?_) _ 0 w1 (by omega) (by omega) h1'⟩
      rw [i64w ((a : Int) + 1) (by omega) (by omega), show (a : Int) + 1 = ((a + 1 : Nat) : Int) by omega]
      exact nums_l1 bc hc i N hsl ht9 hb f (a + 1) w' (by omega) (by omega) h'
    · have hln := N.len
      rw [hc] at hln
      refine seq_spec h.t.p.t ⟨_, rfl, bc_dec (fun hh => by omega) (fun _ => ld_int ((bc.keep' h.t.p.F).cat 5 _ rfl) (bc_dec (fun hh => by omega) (fun _ => seq_spec h.t.p.t ⟨_, rfl, hb w h⟩)))⟩
theorem nums_l0 (hS : StepsAt W ip l) (bc : Blk W gc c.cells 24) (hn2 : 2 ≤ c.nodes) (hQ : ∀ w', Fr [] W w' → Q (.bool true) w') :
    ∀ (f i : Nat) (w : World) (ft fr : List Nat) (S : Sn), 150 - i < f → i ≤ 150 → Two W w g gt ft S gr fr S → SI S → S.c = c → NumI c.last S → X10.l0 Q f ip l.length cap (at0 gc 0) (some (at0 g 0)) (some (at0 gr 0)) S.seq (i : Int) w
  | 0, i, w, ft, fr, S, hf, _, _, _, _, _ => by omega
  | f + 1, i, w, ft, fr, S, hf, hi, h, I, hc, N => by
    rw [X10.l0]
    refine bc_dec (fun h1 => bc_dec (fun h2 => ?_) (fun h2 => hQ w h.p.F)) (fun h1 => hQ w h.p.F)
    have hlt : i < l.length := by omega
    have hg := List.getElem?_eq_getElem hlt
    generalize l[i] = x at hg
    obtain ⟨a, ha, hat⟩ := hS.at_ i x hg
    unfold X10.j4
    refine ⟨⟨by omega, by omega⟩, opt_some ha ?_⟩
    rw [Int.toNat_natCast]
    refine ld_Stp (s := x) (hat.keep' h.p.F) (play_spec (X := x) (by rw [hc]; exact hn2) h I fun w11 ft' fr' S' pr h11 => ⟨_, rfl, ?_⟩)
    have I' := pr.si I
    have hc' : S'.c = c := pr.cfg.trans hc
    obtain ⟨N', hle⟩ := num_play pr I N
    have hsm := h11.p.t.small
    refine all_spec h11.p.t fun ap ac w14 o14 f14 n14 => ⟨_, _, _, rfl, S'.l.length + 1, ?_⟩
    refine nums_l1 bc hc' I' N' hsm hle (fun w' h' => ?_) _ 0 w14 (by omega) (by omega) ⟨h11.keep' f14, o14⟩
    rw [i64w ((i : Int) + 1) (by omega) (by omega), show (i : Int) + 1 = ((i + 1 : Nat) : Int) by omega]
    exact nums_l0 hS bc hn2 hQ f (i + 1) w' ft' fr' S' (by omega) (by omega) h'.t I' hc' N'
theorem last_rng {r : Raw} (hr : RawW r) : 0 ≤ (configOf r).last ∧ (configOf r).last < 1000 := by
  have h0 := hr.l0
  show 0 ≤ Int.tmod r.last 1000 ∧ Int.tmod r.last 1000 < 1000
  rw [Int.tmod_eq_emod_of_nonneg h0]
  omega
theorem stubNumbers_row {H : Type} {cs : Array Value} {d d2 : DataW H} (h : Lies Try.prog W 6 34 cs.toList d) (hs : SizedD Try.prog 34 d) {ip : Option Addr} {n cap : Nat} (h2 : Lies Try.prog W 6 56 [.slice ip n cap] d2) (_ : n * 64 ≤ 140737488351232) :
    CallR Try.prog 10 #[.agg cs, .slice ip n cap] W fun v w' => v = .bool true ∧ Fr [] W w' := by
  obtain ⟨r, rfl, hr0⟩ := raw_open h
  obtain ⟨l, rfl, hst⟩ := steps_of_lies h2
  apply X10.sound
  unfold X10.f
  have cr := conf_rng r
  have lr := last_rng hr0
  have dr := (drift_half r).1
  refine newB fun g1 w2 b f2 _ => ?_
  have b : Blk w2 g1 r.cells 34 := b
  refine ld_Raw (s := r) b.cat (config_spec (r := r) fun w26 f26 => ⟨_, _, _, _, _, _, _, _, _, _, _, _, _, _, _, _, _, _, _, _, _, _, rfl, newB fun gc w50 bc f50 h50 => stAllB (vs := (configOf r).cells) bc rfl fun w51 b51 f51 => ?_⟩)
  have F26 := f2.tr f26
  have F51 : Fr [] W w51 := (F26.tr f50).loc f51 (by have := F26.size; omega)
  have hok : newOk (configOf r) 1 (configOf r).last := conf_ok hr0 _ (by omega) (by omega)
  refine ld_Cfg (s := configOf r) b51.cat (ld_int (b51.cat 21 _ rfl) (newL hok dr fun g gt ft w75 p => ⟨_, _, rfl, ?_⟩))
  have b75 := b51.keep' p.F
  refine ld_Cfg (s := configOf r) b75.cat (ld_int (b75.cat 21 _ rfl) (rnew_spec dr (fun hn => absurd hok hn) fun _ gr fr w101 pr f101 nr => ⟨_, rfl, known_spec fun w104 f104 => ⟨_, rfl, bc_bool (fun h => by cases h) (fun _ => bc_ne (fun h => absurd rfl h) (fun _ => bc_bool (fun h => by cases h) (fun _ => ?_)))⟩⟩))
  have T := (two_new (node := 0) (seq := 0) p f101 pr nr).keep' f104
  unfold X10.j5
  refine seq_spec T.p.t ⟨_, rfl, 151, nums_l0 (W := w51) (hst.keep' F51) b51 (by omega) (fun w' f' => ⟨rfl, F51.tr f'⟩) _ 0 w104 ft fr _ (by omega) (by omega) T (si_new hok dr (by omega)) rfl ⟨Int.le_refl _, fun e he => (by cases he), fun e he => (by cases he), by show ((0 : Nat) : Int) ≤ (configOf r).stubs; omega⟩⟩
end
end Go.Proofs.YtglininpmfgggaaX
