/- Report. -/
import Derived.Test.YtglininpmfgggaaL18Map
import Derived.Test.YtglininpmfgggaaL18Told
namespace Go.Proofs.YtglininpmfgggaaX
open Go.RowKit
set_option linter.unusedVariables false
set_option linter.unusedSimpArgs false
set_option maxRecDepth 100000
abbrev MaxS : Int := 72057594037927935
/-- what a cycle's end makes of one stub -/
def repS (S : Sn) (o : List Otr) (now k : Int) (s : Stb) : Sn := match findO o s.nd s.sr with
  | some r => putS S { s with dist := min2 (IntKind.wrap .i64 (r + 1)) 40 }
  | none => if s.state = 3 then putS S s
    else if s.state = 4 ∨ lapsedB S s now = true ∨ S.seq = 72057594037927935 then { S with l := drp ilt S.l k }
    else putS { S with seq := IntKind.wrap .u64 (S.seq + 1) } { s with state := 3, seq := IntKind.wrap .u64 (S.seq + 1), sent := now, wait := 0 }
def repE (S : Sn) (o : List Otr) (now k : Int) : Sn := repS S o now k ((get ilt S.l k).getD sZero)
def reportS (S : Sn) (o : List Otr) (now : Int) : Sn := (keys S.l).foldl (fun S k => repE S o now k) S
structure IdW (s : Stb) : Prop where
  nd : (Lit.int .i64 s.nd).wf = true
  sr : (Lit.int .u64 s.sr).wf = true
def IdWs (S : Sn) : Prop := ∀ e ∈ S.l, IdW e.2
theorem putF_mem {most : Int} {l : List (Int × Stb)} {k : Int} {v : Stb} {e : Int × Stb} (hs : Srt ilt (keys l)) (he : e ∈ putF most l k v) : e = (k, v) ∨ e ∈ l := by
  unfold putF at he
  split at he
  · rcases (mem_put ilt_lin hs).1 he with h | h
    · exact .inl h
    · exact .inr h.2
  · exact .inr he
theorem IdWs.putW {S : Sn} {s : Stb} (h : IdWs S) (hs : Srt ilt (keys S.l)) (w : IdW s) : IdWs (putS S s) := fun e he => by
  rcases putF_mem hs he with rfl | he
  · exact w
  · exact h e he
theorem IdWs.drpW {S : Sn} {k : Int} (h : IdWs S) (hs : Srt ilt (keys S.l)) : IdWs { S with l := drp ilt S.l k } := fun e he => h e ((mem_drp ilt_lin hs).1 he).2
theorem IdWs.getW {S : Sn} {k : Int} (h : IdWs S) (hs : Srt ilt (keys S.l)) : IdW ((get ilt S.l k).getD sZero) := by
  cases hg : get ilt S.l k with
  | none => exact ⟨by decide, by decide⟩
  | some s => exact h _ ((get_iff ilt_lin hs).1 hg)
section
variable {w w' W : World} {Q : Value → World → Prop} {g gt gs b : Nat} {ft ft' : List Nat} {S S' : Sn} {now k : Int} {s : Stb} {o : List Otr} {kp : Option Addr} {kc : Nat} {ks : List Int}
theorem Aft.next {v : Value} (h : Aft w g gt ft S v Q) (f : Fr (g :: ft) w w') (e : ∀ x ∈ ft', x ∈ ft ∨ w.heap.size ≤ x) : Aft w' g gt ft' S v Q := fun ft2 w2 t2 f2 e2 => h ft2 w2 t2 (f.trans f2 (fun x hx => by
    rcases List.mem_cons.1 hx with rfl | hx
    · exact .inl (by simp)
    · rcases e x hx with h' | h'
      · exact .inl (by simp [h'])
      · exact .inr h')) (fun x hx => by
    have := f.size
    rcases e2 x hx with h' | h'
    · exact e x h'
    · exact .inr (by omega))
/-- Report's memory: the table, its keys as they were, the ranks -/
structure RpC (w : World) (g gt : Nat) (ft : List Nat) (S : Sn) (kp : Option Addr) (kc : Nat) (ks : List Int) (b : Nat) (o : List Otr) : Prop where
  t : PTa w g gt ft S
  ok : Own 22 1 w kp ks.length kc (ks.map (Value.int .u64))
  mh : MH w b o
  nk : ∀ x ∈ fbl kp, x ∉ g :: ft
  nb : b ∉ g :: ft
theorem RpC.keep' (h : RpC w g gt ft S kp kc ks b o) (f : Fr [] w w') : RpC w' g gt ft S kp kc ks b o := ⟨h.t.keep' f, h.ok.keep' f, h.mh.keep' f, h.nk, h.nb⟩
theorem RpC.next (h : RpC w g gt ft S kp kc ks b o) (t' : PTa w' g gt ft' S') (f : Fr (g :: ft) w w') (e : ∀ x ∈ ft', x ∈ ft ∨ w.heap.size ≤ x) : RpC w' g gt ft' S' kp kc ks b o := by
  have out : ∀ x, x ∉ g :: ft → x < w.heap.size → x ∉ g :: ft' := fun x h1 h2 hm => by
    rcases List.mem_cons.1 hm with rfl | hm
    · exact h1 (by simp)
    · rcases e x hm with h' | h'
      · exact h1 (by simp [h'])
      · omega
  exact ⟨t', h.ok.keep f h.nk, h.mh.keep f h.nb, fun x hx => out x (h.nk x hx) (h.ok.lt x hx), out b h.nb h.mh.lt⟩
/-- a stub in hand -/
structure RpS (W w : World) (g gt : Nat) (ft : List Nat) (S : Sn) (kp : Option Addr) (kc : Nat) (ks : List Int) (b : Nat) (o : List Otr) (gs : Nat) (s : Stb) : Prop where
  r : RpC w g gt ft S kp kc ks b o
  bs : Blk w gs s.cells 51
  ns : gs ∉ g :: ft
  nk : gs ∉ fbl kp
  nb : gs ≠ b
  F : Fr (g :: ft) W w
  wg : W.heap.size ≤ gs
theorem RpS.keep' (h : RpS W w g gt ft S kp kc ks b o gs s) (f : Fr [] w w') : RpS W w' g gt ft S kp kc ks b o gs s := ⟨h.r.keep' f, h.bs.keep' f, h.ns, h.nk, h.nb, h.F.tr f.any, h.wg⟩
theorem RpS.st (h : RpS W w g gt ft S kp kc ks b o gs s) {i : Nat} {v : Value} (s' : Stb) (hi : i < 9) (he : s.cells.set i v = s'.cells) {K : World → Prop} (hK : ∀ w', RpS W w' g gt ft S kp kc ks b o gs s' → K w') : stK w ((at0 gs 0).add i) v K :=
  stB h.bs (by rw [s.len]; exact hi) fun w' b' f => hK w' ⟨⟨h.r.t.off h.ns f, h.r.ok.keep f (fun x hx hm => h.nk (by simp at hm; rwa [← hm])), h.r.mh.keep f (fun hm => h.nb (Eq.symm (by simpa using hm))), h.r.nk, h.r.nb⟩, by rw [← he]; exact b', h.ns, h.nk, h.nb, h.F.loc f h.wg, h.wg⟩
theorem RpS.put (h : RpS W w g gt ft S kp kc ks b o gs s) (ws : IdWs S) (wi : IdW s) {G : Sn → Sn} (hK : Aft W g gt ft (G (putS S s)) (.tuple #[]) Q) {L : World → Prop}
    (hrec : ∀ w' ft' S', RpC w' g gt ft' S' kp kc ks b o → IdWs S' → Aft w' g gt ft' (G S') (.tuple #[]) Q → L w') :
    CallR Try.prog 37 #[.pointer (some (at0 g 0)), s.val] w fun v w' => v = .tuple #[] ∧ L w' := by
  refine put_spec (s := s) h.r.t ?_
  intro ft' w2 t2 f2 e2
  have := h.F.size
  exact ⟨rfl, hrec w2 ft' _ (h.r.next t2 f2 e2) (ws.putW h.r.t.tab.sorted wi) (hK.next (h.F.tr f2) (fun x hx => (e2 x hx).imp id (fun h => by omega)))⟩
theorem rep_j2 {b1 : Option Addr → Int → Nat → Option Addr → Nat → Nat → Int → Int → World → Prop} {t33 t34 : Int} {c : Bool} (h : RpS W w g gt ft S kp kc ks b o gs s) (ws : IdWs S) (wi : IdW s) {G : Sn → Sn}
    (hc : c = decide (s.state = 4 ∨ lapsedB S s now = true ∨ S.seq = 72057594037927935))
    (hK : Aft W g gt ft (G (if s.state = 4 ∨ lapsedB S s now = true ∨ S.seq = 72057594037927935 then { S with l := drp ilt S.l k } else putS { S with seq := IntKind.wrap .u64 (S.seq + 1) } { s with state := 3, seq := IntKind.wrap .u64 (S.seq + 1), sent := now, wait := 0 })) (.tuple #[]) Q)
    (hrec : ∀ w' ft' S', RpC w' g gt ft' S' kp kc ks b o → IdWs S' → Aft w' g gt ft' (G S') (.tuple #[]) Q → b1 (some (at0 g 0)) now b kp ks.length kc t33 (IntKind.wrap .i64 (t34 + 1)) w') :
    X24.j2 Q b1 (some (at0 g 0)) now b k (at0 gs 0) kp ks.length kc t33 t34 c w := by
  unfold X24.j2
  simp only [optP_some]
  refine bc_bool (fun e => ?_) (fun e => ?_)
  · rw [if_pos (by rw [e] at hc; simpa using hc.symm)] at hK
    refine ld_ptr (h.r.t.blk.cat 0 _ rfl) (dropT_spec h.r.t.tab fun w4 t4 f4 => ⟨_, rfl, ?_⟩)
    have f4' : Fr (g :: ft) w w4 := f4.mono fun x hx => by simp [hx]
    have t4' : PTa w4 g gt ft { S with l := drp ilt S.l k } := ⟨h.r.t.blk.keep f4 h.r.t.gn, t4, h.r.t.gn⟩
    exact hrec w4 ft _ (h.r.next t4' f4' (fun x hx => .inl hx)) (ws.drpW h.r.t.tab.sorted) (hK.next (h.F.tr f4') (fun x hx => .inl hx))
  · rw [if_neg (by rw [e] at hc; simpa using hc.symm)] at hK
    refine ld_int (h.r.t.blk.cat 24 _ rfl) (h.r.t.stseq fun w9 t9 f9 => drawn fun w10 f10 _ => ?_)
    have f9' : Fr (g :: ft) w w9 := f9.mono fun x hx => by simp at hx; simp [hx]
    have h9 : RpS W w9 g gt ft { S with seq := IntKind.wrap .u64 (S.seq + 1) } kp kc ks b o gs s := ⟨h.r.next t9 f9' (fun x hx => .inl hx), h.bs.keep f9' h.ns, h.ns, h.nk, h.nb, h.F.tr f9', h.wg⟩
    have h10 := h9.keep' f10
    refine ld_int (h10.r.t.blk.cat 24 _ rfl) (h10.st { s with state := 3 } (by omega) rfl fun w13 h13 => ⟨⟨h10.r.t.blk.cat 24 _ rfl, h13.r.t.blk.cat 24 _ rfl⟩, ?_⟩)
    refine h13.st { s with state := 3, seq := IntKind.wrap .u64 (S.seq + 1) } (by omega) rfl fun w14 h14 => ?_
    refine h14.st { s with state := 3, seq := IntKind.wrap .u64 (S.seq + 1), sent := now } (by omega) rfl fun w15 h15 => ?_
    refine h15.st { s with state := 3, seq := IntKind.wrap .u64 (S.seq + 1), sent := now, wait := 0 } (by omega) rfl fun w16 h16 => ?_
    exact ld_Stb (s := { s with state := 3, seq := IntKind.wrap .u64 (S.seq + 1), sent := now, wait := 0 }) h16.bs.cat (h16.put ws ⟨wi.nd, wi.sr⟩ hK hrec)
theorem rep_l1 (hl : ks.length ≤ 4096) : ∀ (f i : Nat) (w : World) (ft : List Nat) (S : Sn), ks.length - i < f → i ≤ ks.length → RpC w g gt ft S kp kc ks b o → IdWs S → Aft w g gt ft ((ks.drop i).foldl (fun S k => repE S o now k) S) (.tuple #[]) Q →
    X24.l1 Q f (some (at0 g 0)) now b kp ks.length kc (ks.length : Int) (i : Int) w
  | 0, i, w, ft, S, hf, _, _, _, _ => by omega
  | f + 1, i, w, ft, S, hf, hi, h, ws, hK => by
    rw [X24.l1]
    simp only [optP_some]
    refine bc_dec (fun h1 => ⟨⟨by omega, by omega⟩, ?_⟩) (fun h1 => ?_)
    · have hlt : i < ks.length := by omega
      have hg := List.getElem?_eq_getElem hlt
      have hdrop : ks.drop i = ks[i] :: ks.drop (i + 1) := List.drop_eq_getElem_cons hlt
      rw [hdrop, List.foldl_cons] at hK
      generalize hk : ks[i] = k at hg hK
      obtain ⟨a, ha, hc⟩ := h.ok.cells i (.int .u64 k) (by rw [List.getElem?_map, hg]; rfl)
      refine opt_some ha (ld_int (by rw [Int.toNat_natCast, Nat.mul_one]; exact hc) (ld_ptr (h.t.blk.cat 0 _ rfl) (getT_spec h.t.tab fun w6 f6 => ⟨_, _, _, _, _, _, _, _, _, _, rfl, newB fun gs w18 b18 f18 h18 => stAllB (vs := ((get ilt S.l k).getD sZero).cells) b18 rfl fun w19 b19 f19 => ?_⟩)))
      have wi : IdW ((get ilt S.l k).getD sZero) := ws.getW h.t.tab.sorted
      unfold repE at hK
      generalize (get ilt S.l k).getD sZero = s at *
      have F6 := f6.tr f18
      have h18' := h.keep' F6
      have z := f6.size
      have ns : gs ∉ g :: ft := fun hm => by have := h.t.lt gs hm; omega
      have nk : gs ∉ fbl kp := fun hm => by have := h.ok.lt gs hm; omega
      have nb : gs ≠ b := by have := h.mh.lt; omega
      have hS : RpS w w19 g gt ft S kp kc ks b o gs s := ⟨⟨h18'.t.off ns f19, h18'.ok.keep f19 (fun x hx hm => nk (by simp at hm; rwa [← hm])), h18'.mh.keep f19 (fun hm => nb (Eq.symm (by simpa using hm))), h.nk, h.nb⟩, b19, ns, nk, nb, (F6.loc f19 (by omega)).any, by omega⟩
      have ei : IntKind.wrap .i64 ((i : Int) + 1) = ((i + 1 : Nat) : Int) := by rw [i64w ((i : Int) + 1) (by omega) (by omega)]; omega
      have hrec : ∀ w' ft' S', RpC w' g gt ft' S' kp kc ks b o → IdWs S' → Aft w' g gt ft' ((ks.drop (i + 1)).foldl (fun S k => repE S o now k) S') (.tuple #[]) Q → X24.l1 Q f (some (at0 g 0)) now b kp ks.length kc (ks.length : Int) (IntKind.wrap .i64 ((i : Int) + 1)) w' := fun w' ft' S' r' ws' hK' => by
        rw [ei]
        exact rep_l1 hl f (i + 1) w' ft' S' (by omega) (by omega) r' ws' hK'
      refine ld_int (hS.bs.cat.sub 0 0 rfl) (ld_int (hS.bs.cat.sub 0 1 rfl) (mapLook hS.r.mh wi.nd wi.sr ⟨_, _, rfl, ?_⟩))
      unfold repS at hK
      cases hf : findO o s.nd s.sr with
      | some r =>
        rw [hf] at hK
        refine bc_bool (fun _ => ?_) (fun h => by cases h)
        exact hS.st { s with dist := min2 (IntKind.wrap .i64 (r + 1)) 40 } (by omega) rfl fun w26 h26 => ld_Stb (s := { s with dist := min2 (IntKind.wrap .i64 (r + 1)) 40 }) h26.bs.cat (h26.put ws ⟨wi.nd, wi.sr⟩ hK hrec)
      | none =>
        rw [hf] at hK
        simp only at hK
        refine bc_bool (fun h => by cases h) (fun _ => ld_int (hS.bs.cat 2 _ rfl) (bc_eq (fun e3 => ?_) (fun e3 => ?_)))
        · rw [if_pos e3] at hK
          exact ld_Stb (s := s) hS.bs.cat (hS.put ws wi hK hrec)
        · rw [if_neg e3] at hK
          refine ld_int (hS.bs.cat 2 _ rfl) (bc_eq (fun e4 => ?_) (fun e4 => ?_))
          · exact rep_j2 hS ws wi (by simp [e4]) hK hrec
          · refine ld_Stb (s := s) hS.bs.cat (lapsed_spec (s := s) hS.r.t fun w61 f61 => ⟨_, rfl, ?_⟩)
            have h61 := hS.keep' f61
            refine bc_bool (fun hl => ?_) (fun hl => ?_)
            · exact rep_j2 h61 ws wi (by simp [hl]) hK hrec
            · refine ld_int (h61.r.t.blk.cat 24 _ rfl) (rep_j2 h61 ws wi ?_ hK hrec)
              simp [e4, hl]
              rfl
    · have : i = ks.length := by omega
      subst this
      rw [List.drop_length] at hK
      exact hK ft w h.t (Fr.refl _) (fun x hx => .inl hx)
theorem rep_l0 {op : Option Addr} {oc : Nat} (t : PTa W g gt ft S) (ws : IdWs S) (hbW : W.heap.size ≤ b) (hol : o.length ≤ 4096) (how : ∀ x ∈ o, OutW x) (hop : o.Pairwise fun x y => ¬ (x.nd = y.nd ∧ x.sr = y.sr))
    (hO : ∀ i x, o[i]? = some x → ∃ a, op = some a ∧ At W (a.add (i * 3)) x.cells) (hK : Aft W g gt ft (reportS S o now) (.tuple #[]) Q) :
    ∀ (f i : Nat) (w : World), o.length - i < f → i ≤ o.length → Fr [] W w → MH w b (o.take i) → X24.l0 Q f (some (at0 g 0)) now b op o.length oc (o.length : Int) (i : Int) w
  | 0, i, w, hf, _, _, _ => by omega
  | f + 1, i, w, hf, hi, F, mh => by
    rw [X24.l0]
    simp only [optP_some]
    refine bc_dec (fun h1 => ⟨⟨by omega, by omega⟩, ?_⟩) (fun h1 => ?_)
    · have hlt : i < o.length := by omega
      have hg := List.getElem?_eq_getElem hlt
      have htake : o.take (i + 1) = o.take i ++ [o[i]] := List.take_succ_eq_append_getElem hlt
      have hap : ∀ y ∈ o.take i, ¬ (y.nd = (o[i]).nd ∧ y.sr = (o[i]).sr) := by
        have := hop.sublist (List.take_sublist (i + 1) o)
        rw [htake, List.pairwise_append] at this
        exact fun y hy => this.2.2 y hy _ (by simp)
      generalize hx : o[i] = x at hg htake hap
      obtain ⟨a, ha, hat⟩ := hO i x hg
      have hat := hat.keep' F
      have hw := how x (List.mem_of_getElem? hg)
      refine opt_some ha (ld_int (by rw [Int.toNat_natCast]; exact hat 0 _ rfl) (ld_int (by rw [Int.toNat_natCast]; exact hat 1 _ rfl) (ld_int (by rw [Int.toNat_natCast]; exact hat 2 _ rfl) (newB fun g5 w6 b6 f6 h6 => stAllB (vs := x.cells) b6 rfl fun w7 b7 f7 => ?_))))
      have z := F.size
      have F7 : Fr [] W w7 := (F.tr f6).loc f7 (by omega)
      have nb : b ≠ g5 := by have := mh.lt; omega
      have mh7 := (mh.keep' f6).keep f7 (by simpa using nb)
      refine ld_int (b7.cat.sub 0 0 rfl) (ld_int (b7.cat.sub 0 1 rfl) (ld_int (b7.cat 2 _ rfl) (mapUpd mh7 hw.nd hw.sr hap fun w12 mh12 f12 => ?_)))
      rw [i64w ((i : Int) + 1) (by omega) (by omega), show (i : Int) + 1 = ((i + 1 : Nat) : Int) by omega]
      refine rep_l0 t ws hbW hol how hop hO hK f (i + 1) w12 (by omega) (by omega) (F7.loc f12 hbW) ?_
      rw [htake]
      exact mh12
    · have : i = o.length := by omega
      subst this
      rw [List.take_length] at mh
      have t0 := t.keep' F
      have hsz : S.l.length ≤ 4096 := by
        obtain ⟨a, b, c, d, e, tt⟩ := t.tab
        have := tt.le; have := tt.top; omega
      have hkl : (keys S.l).length = S.l.length := by simp [keys]
      refine ld_ptr (t0.blk.cat 0 _ rfl) (keys_SB t0.tab fun p c w4 o4 f4 n4 => ⟨_, _, _, rfl, S.l.length + 1, ?_⟩)
      have h4 : RpC w4 g gt ft S p c (keys S.l) b o := ⟨t0.keep' f4, by rw [hkl]; exact o4, mh.keep' f4, fun x hx hm => by have := n4 x hx; have := t0.lt x hm; omega, fun hm => by have := t.lt b hm; omega⟩
      have := rep_l1 (Q := Q) (now := now) (by omega) (S.l.length + 1) 0 w4 ft S (by omega) (by omega) h4 ws (by rw [List.drop_zero]; exact hK.later (F.tr f4))
      rw [hkl] at this
      exact this
theorem report_spec {op : Option Addr} {oc : Nat} (t : PTa w g gt ft S) (ws : IdWs S) (hol : o.length ≤ 4096) (how : ∀ x ∈ o, OutW x) (hop : o.Pairwise fun x y => ¬ (x.nd = y.nd ∧ x.sr = y.sr))
    (hO : ∀ i x, o[i]? = some x → ∃ a, op = some a ∧ At w (a.add (i * 3)) x.cells) (hK : Aft w g gt ft (reportS S o now) (.tuple #[]) Q) : CallR Try.prog 24 #[.pointer (some (at0 g 0)), .slice op o.length oc, .int .u64 now] w Q := by
  apply X24.sound
  unfold X24.f
  exact newMap fun b w2 mh f hb => ⟨o.length + 1, rep_l0 t ws hb hol how hop hO hK _ 0 w2 (by omega) (by omega) f mh⟩
end
end Go.Proofs.YtglininpmfgggaaX
