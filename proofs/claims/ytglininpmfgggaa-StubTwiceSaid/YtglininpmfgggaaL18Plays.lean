/- StubPlays: any calls are answered as the document says. -/
import Derived.Test.YtglininpmfgggaaL18Ref
namespace Go.Proofs.YtglininpmfgggaaX
open Go.RowKit
set_option linter.unusedVariables false
set_option linter.unusedSimpArgs false
set_option maxRecDepth 100000
theorem rep_c {S : Sn} {o : List Otr} {now k : Int} {s : Stb} : (repS S o now k s).c = S.c := by
  unfold repS
  cases findO o s.nd s.sr with
  | some r => rfl
  | none =>
    simp only
    split
    · rfl
    · split <;> rfl
theorem report_c {o : List Otr} {now : Int} : ∀ (ks : List Int) (S : Sn), (ks.foldl (fun S k => repE S o now k) S).c = S.c
  | [], S => rfl
  | k :: ks, S => by rw [List.foldl_cons, report_c ks]; exact rep_c
theorem fresh_c {S : Sn} {nd sr v now : Int} : (freshS S nd sr v now).1.c = S.c := by unfold freshS; split <;> rfl
theorem PlayR.cfg {S S' : Sn} (h : PlayR S S') : S'.c = S.c := by
  cases h with
  | want nd sr v now _ =>
    unfold wantS
    split
    · rfl
    · cases get ilt S.l (keyOf nd sr) with
      | none => simp only; split; · rfl
                exact fresh_c
      | some s =>
        simp only
        split
        · split <;> rfl
        · exact fresh_c
  | step now =>
    unfold stepS
    cases after ilt S.l S.last <;> rfl
  | told m now _ =>
    unfold toldS
    cases getS S m.tn m.ts with
    | none => rfl
    | some s => simp only; split <;> rfl
  | cleaned m =>
    unfold cleanedS
    cases getS S m.tn m.ts with
    | none => rfl
    | some s => simp only; split <;> rfl
  | report o now => exact report_c _ _
theorem start_rng {r : Raw} (hr : RawW r) : 0 ≤ (configOf r).start := by
  have h0 := hr.s0
  show 0 ≤ Int.tmod r.start 1000
  rw [Int.tmod_eq_emod_of_nonneg h0]
  omega
theorem si_new {c : Cfg} {node seq : Int} (h : newOk c node seq) (h0 : 0 ≤ c.drift) (hs : 0 ≤ seq) : SI (newS c node seq) := ⟨h.1, h0, rfl, hs, by have := h.2.2.2; show seq ≤ _; omega, fun e he => (by cases he), List.Pairwise.nil⟩
section
variable {w w' W : World} {Q : Value → World → Prop} {g gt gr gc : Nat} {ft ft' fr fr' : List Nat} {S S' : Sn} {now : Int} {c : Cfg} {ip : Option Addr} {cap : Nat} {l : List Stp}
theorem two_new {node seq : Int} {foot : List Nat} (p : PL W w g gt ft S) (f : Fr [] w w') (r : PRa w' gr foot S none none 0 0) (hn : ∀ x ∈ foot, w.heap.size ≤ x) : Two W w' g gt ft S gr foot S := by
  have z := p.F.size
  exact ⟨p.keep' f, ⟨_, _, _, _, r⟩, fun x hx => by have := hn x hx; omega, fun x hx => p.fresh (hn x hx)⟩
theorem plays_l0 (hS : StepsAt W ip l) (bc : Blk W gc c.cells 24) (hn2 : 2 ≤ c.nodes) (hl : 0 ≤ c.lease) (hl2 : c.lease ≤ 4294967295) (hQ : ∀ w', Fr [] W w' → Q (.bool true) w') :
    ∀ (f i : Nat) (w : World) (ft fr : List Nat) (S : Sn) (now : Int), 200 - i < f → i ≤ 200 → Two W w g gt ft S gr fr S → SI S → S.c = c → 0 ≤ now → X9.l0 Q f ip l.length cap (at0 gc 0) (some (at0 g 0)) (some (at0 gr 0)) now (i : Int) w
  | 0, i, w, ft, fr, S, now, hf, _, _, _, _, _ => by omega
  | f + 1, i, w, ft, fr, S, now, hf, hi, h, I, hc, hnow => by
    rw [X9.l0]
    refine bc_dec (fun h1 => bc_dec (fun h2 => ?_) (fun h2 => hQ w h.p.F)) (fun h1 => hQ w h.p.F)
    have hlt : i < l.length := by omega
    have hg := List.getElem?_eq_getElem hlt
    generalize l[i] = x at hg
    obtain ⟨a, ha, hat⟩ := hS.at_ i x hg
    have ei : IntKind.wrap .i64 ((i : Int) + 1) = ((i + 1 : Nat) : Int) := by rw [i64w ((i : Int) + 1) (by omega) (by omega)]; omega
    have hwf := hS.wf x (List.mem_of_getElem? hg)
    have j1 : ∀ {w2 : World} {n : Int}, 0 ≤ n → Fr [] w w2 → X9.j1 Q (X9.l0 Q f) ip l.length cap (at0 gc 0) (some (at0 g 0)) (some (at0 gr 0)) n (i : Int) w2 := by
      intro w2 n hn0 f2
      have h2 := h.keep' f2
      unfold X9.j1
      refine ⟨⟨by omega, by omega⟩, opt_some ha ?_⟩
      rw [Int.toNat_natCast]
      refine ld_Stp (s := x) (hat.keep' h2.p.F) (play_spec (X := x) hn0 (u64b hwf.2.2).1 (by rw [hc]; exact hn2) h2 I fun w11 ft' fr' S' pr h11 => ⟨_, rfl, bc_bool (fun hh => by cases hh) (fun _ => ?_)⟩)
      have I' := pr.si I
      have hc' : S'.c = c := pr.cfg.trans hc
      refine samet_spec (by rw [hc']; exact hn2) I' h11 fun w14 h14 => ⟨_, rfl, bc_bool (fun hh => by cases hh) (fun _ => ?_)⟩
      rw [ei]
      exact plays_l0 hS bc hn2 hl hl2 hQ f (i + 1) w14 ft' fr' S' n (by omega) (by omega) h14 I' hc' hn0
    unfold X9.j2
    have at0' := hat.keep' h.p.F
    refine ⟨⟨by omega, by omega⟩, opt_some ha (ld_int (by rw [Int.toNat_natCast]; exact at0' 0 _ rfl) (pick_spec (by decide) (by decide) ⟨_, rfl, bc_eq (fun _ => drawn fun w6 f6 _ => ?_) (fun _ => j1 hnow (Fr.refl _))⟩))⟩
    have at6 := at0'.keep' f6
    have b6 := bc.keep' (h.p.F.tr f6)
    refine ⟨⟨by omega, by omega⟩, opt_some ha (ld_int (by rw [Int.toNat_natCast]; exact at6 6 _ rfl) (ld_int (b6.cat 13 _ rfl) ⟨by omega, ?_, j1 (u64p _) f6⟩))⟩
    rw [Int.tdiv_eq_ediv_of_nonneg hl, u64w (c.lease / 3) (by omega) (by omega), u64w _ (by omega) (by omega)]
    omega
theorem stubPlays_row {H : Type} {cs : Array Value} {d d2 : DataW H} (h : Lies Try.prog W 6 34 cs.toList d) (hs : SizedD Try.prog 34 d) (node : Int) (_ : (Lit.int .i64 node).wf = true) (seq : Int) (hq : (Lit.int .u64 seq).wf = true) {ip : Option Addr} {n cap : Nat} (h2 : Lies Try.prog W 6 56 [.slice ip n cap] d2) (_ : n * 64 ≤ 140737488351232) :
    CallR Try.prog 9 #[.agg cs, .int .i64 node, .int .u64 seq, .slice ip n cap] W fun v w' => v = .bool true ∧ Fr [] W w' := by
  obtain ⟨r, rfl, hr0⟩ := raw_open h
  obtain ⟨l, rfl, hst⟩ := steps_of_lies h2
  have hseq := (u64b hq).1
  apply X9.sound
  unfold X9.f
  have cr := conf_rng r
  have lr := lease_rng r
  have dr := (drift_half r).1
  refine newB fun g1 w2 b f2 _ => ?_
  have b : Blk w2 g1 r.cells 34 := b
  refine ld_Raw (s := r) b.cat (config_spec (r := r) fun w26 f26 => ⟨_, _, _, _, _, _, _, _, _, _, _, _, _, _, _, _, _, _, _, _, _, _, rfl, newB fun gc w50 bc f50 h50 => stAllB (vs := (configOf r).cells) bc rfl fun w51 b51 f51 => ?_⟩)
  have F26 := f2.tr f26
  have F51 : Fr [] W w51 := (F26.tr f50).loc f51 (by have := F26.size; omega)
  by_cases hok : newOk (configOf r) node seq
  · refine ld_Cfg (s := configOf r) b51.cat (newL hok dr fun g gt ft w75 p => ⟨_, _, rfl, ?_⟩)
    refine ld_Cfg (s := configOf r) (b51.keep' p.F).cat (rnew_spec dr (fun hn => absurd hok hn) fun _ gr fr w101 pr f101 nr => ⟨_, rfl, known_spec fun w104 f104 => ⟨_, rfl, bc_bool (fun h => by cases h) (fun _ => bc_bool (fun h => by cases h) (fun _ => bc_ne (fun h => absurd rfl h) (fun _ => bc_bool (fun h => by cases h) (fun _ => ?_))))⟩⟩)
    have T := (two_new (node := 0) (seq := 0) p f101 pr nr).keep' f104
    unfold X9.j3
    refine ld_int ((b51.keep' T.p.F).cat 20 _ rfl) ⟨201, plays_l0 (W := w51) (hst.keep' F51) b51 (by omega) (by omega) (by omega) (fun w' f' => ⟨rfl, F51.tr f'⟩) _ 0 w104 ft fr _ _ (by omega) (by omega) T (si_new hok dr hseq) rfl (start_rng hr0)⟩
  · refine ld_Cfg (s := configOf r) b51.cat (new_spec dr (fun _ w75 f75 => ⟨_, _, rfl, ?_⟩) fun hn => absurd hn hok)
    refine ld_Cfg (s := configOf r) (b51.keep' f75).cat (rnew_spec dr (fun _ w101 f101 => ⟨_, rfl, known_spec fun w104 f104 => ⟨_, rfl, bc_bool (fun h => by cases h) (fun _ => bc_bool (fun _ => bc_eqt' rfl ?_) (fun h => by cases h))⟩⟩) fun hn => absurd hn hok)
    exact ⟨rfl, F51.tr (f75.tr (f101.tr f104))⟩
end
end Go.Proofs.YtglininpmfgggaaX
