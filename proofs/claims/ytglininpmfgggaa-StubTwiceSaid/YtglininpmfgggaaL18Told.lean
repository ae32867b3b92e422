/- Told, Cleaned, Seq, All. -/
import Derived.Test.YtglininpmfgggaaL18Step
namespace Go.Proofs.YtglininpmfgggaaX
open Go.RowKit
set_option linter.unusedVariables false
set_option linter.unusedSimpArgs false
set_option maxRecDepth 100000
theorem stb_ne (s s' : Stb) : (!(((s.nd == s'.nd) && ((s.sr == s'.sr) && true)) && ((s.state == s'.state) && ((s.seq == s'.seq) && ((s.voucher == s'.voucher) && ((s.at_ == s'.at_) && ((s.sent == s'.sent) && ((s.wait == s'.wait) && ((s.dist == s'.dist) && true))))))))) = decide (s ≠ s') := by
  by_cases h : s = s'
  · subst h; simp
  · rw [decide_eq_true h]
    have nb : ∀ b : Bool, (b = true → False) → (!b) = true := by decide
    refine nb _ (fun hc => h ?_)
    simp only [Bool.and_eq_true, beq_iff_eq, Bool.and_true] at hc
    cases s; cases s'
    simp_all
section
variable {w w' W : World} {Q : Value → World → Prop} {g gt gs gm g1 g9 : Nat} {ft : List Nat} {S : Sn} {now : Int} {s s' s0 : Stb} {m m' : Msg}
theorem told_end (t : PTa w g gt ft S) (bs : Blk w gs s'.cells 51) (b9 : Blk w g9 s.cells 51) (ns : gs ∉ g :: ft) (n9 : g9 ∉ g :: ft) (F : Fr [] W w) (ws : W.heap.size ≤ gs) (w9 : W.heap.size ≤ g9)
    (hK : Aft W g gt ft (putS S s') (.bool (decide (s' ≠ s))) Q) :
    CallR Try.prog 37 #[.pointer (some (at0 g 0)), s'.val] w fun v11 w12 => v11 = .tuple #[] ∧ ldI .i64 w12 ((at0 gs 0).add 0) fun x0 => ldI .u64 w12 ((at0 gs 0).add 1) fun x1 => ldI .i64 w12 ((at0 gs 0).add 2) fun x2 => ldI .u64 w12 ((at0 gs 0).add 3) fun x3 => ldI .i64 w12 ((at0 gs 0).add 4) fun x4 => ldI .u64 w12 ((at0 gs 0).add 5) fun x5 => ldI .u64 w12 ((at0 gs 0).add 6) fun x6 => ldI .u64 w12 ((at0 gs 0).add 7) fun x7 => ldI .i64 w12 ((at0 gs 0).add 8) fun x8 => ldI .i64 w12 ((at0 g9 0).add 0) fun y0 => ldI .u64 w12 ((at0 g9 0).add 1) fun y1 => ldI .i64 w12 ((at0 g9 0).add 2) fun y2 => ldI .u64 w12 ((at0 g9 0).add 3) fun y3 => ldI .i64 w12 ((at0 g9 0).add 4) fun y4 => ldI .u64 w12 ((at0 g9 0).add 5) fun y5 => ldI .u64 w12 ((at0 g9 0).add 6) fun y6 => ldI .u64 w12 ((at0 g9 0).add 7) fun y7 => ldI .i64 w12 ((at0 g9 0).add 8) fun y8 => isStruct Try.prog 51 ∧ Q (.bool (!(((x0 == y0) && ((x1 == y1) && true)) && ((x2 == y2) && ((x3 == y3) && ((x4 == y4) && ((x5 == y5) && ((x6 == y6) && ((x7 == y7) && ((x8 == y8) && true)))))))))) w12 := by
  refine put_spec (s := s') t ?_
  intro ft' w12 t12 f12 e12
  refine ⟨rfl, ld_Stb (s := s') (bs.keep f12 ns).cat (ld_Stb (s := s) (b9.keep f12 n9).cat ⟨isS51, ?_⟩)⟩
  rw [stb_ne s' s]
  exact (hK.then F.any) ft' w12 t12 f12 e12
theorem told_j0 {b : Bool} (t : PTa w g gt ft S) (bm : Blk w gm m.cells 47) (bs : Blk w gs s.cells 51) (b9 : Blk w g9 s.cells 51) (nm : gm ≠ gs) (n9' : g9 ≠ gs) (ns : gs ∉ g :: ft) (n9 : g9 ∉ g :: ft) (F : Fr [] W w) (ws : W.heap.size ≤ gs) (w9 : W.heap.size ≤ g9)
    (hb : b = decide (m.code ≠ 0 ∨ (s.state = 1 ∧ liveB m.at_ S.span now = false))) (hs : s.state = 1 ∨ s.state = 2)
    (hK : Aft W g gt ft (putS S (tellS S m s now)) (.bool (decide (tellS S m s now ≠ s))) Q) : X21.j0 Q (some (at0 g 0)) now (at0 gm 0) (at0 gs 0) (at0 g9 0) b w := by
  unfold X21.j0
  unfold tellS at hK
  refine bc_bool (fun e => ?_) (fun e => ?_)
  · rw [if_pos (by rw [e] at hb; simpa using hb.symm)] at hK
    refine stB bs (by rw [s.len]; omega) fun w1 b1 f1 => ?_
    exact ld_Stb (s := { s with state := 4 }) b1.cat (told_end (s' := { s with state := 4 }) (t.off ns f1) b1 (b9.off1 n9' f1) ns n9 (F.loc f1 ws) ws w9 hK)
  · rw [if_neg (by rw [e] at hb; simpa using hb.symm)] at hK
    refine ld_Stb (s := s) bs.cat (lapsed_spec (s := s) t fun w41 f41 => ⟨_, rfl, ?_⟩)
    have t := t.keep' f41
    have bs := bs.keep' f41
    have b9 := b9.keep' f41
    have bm := bm.keep' f41
    have F := F.tr f41
    refine bc_bool (fun hl => ?_) (fun hl => ?_)
    · rw [if_pos hl] at hK
      exact ld_Stb (s := s) bs.cat (told_end (s' := s) t bs b9 ns n9 F ws w9 hK)
    · rw [if_neg (by simp [hl])] at hK
      refine ld_int (bs.cat 2 _ rfl) (bc_eq (fun e1 => ?_) (fun e1 => ?_))
      · rw [if_pos e1] at hK
        refine drawn fun w73 f73 _ => ld_int ((bm.keep' f73).cat 15 _ rfl) (stB (bs.keep' f73) (by rw [s.len]; omega) fun w75 b75 f75 => ?_)
        have bm75 := (bm.keep' f73).off1 nm f75
        refine ⟨⟨(bm.keep' f73).cat 15 _ rfl, bm75.cat 15 _ rfl⟩, stB b75 (by rw [List.length_set, s.len]; omega) fun w76 b76 f76 => ?_⟩
        exact ld_Stb (s := { s with state := 2, at_ := m.at_ }) b76.cat (told_end (s' := { s with state := 2, at_ := m.at_ }) (((t.keep' f73).off ns f75).off ns f76) b76 (((b9.keep' f73).off1 n9' f75).off1 n9' f76) ns n9 (((F.tr f73).loc f75 ws).loc f76 ws) ws w9 hK)
      · rw [if_neg e1] at hK
        refine ld_int (bs.cat 5 _ rfl) (ld_int (bm.cat 15 _ rfl) (stB bs (by rw [s.len]; omega) fun w108 b108 f108 => ?_))
        exact ld_Stb (s := { s with at_ := max2 s.at_ m.at_ }) b108.cat (told_end (s' := { s with at_ := max2 s.at_ m.at_ }) (t.off ns f108) b108 (b9.off1 n9' f108) ns n9 (F.loc f108 ws) ws w9 hK)
theorem told_j1 (t : PTa w g gt ft S) (bm : Blk w gm m.cells 47) (bs : Blk w gs s.cells 51) (nm : gm ≠ gs) (ns : gs ∉ g :: ft) (F : Fr [] W w) (ws : W.heap.size ≤ gs) (hs : s.state = 1 ∨ s.state = 2)
    (hK : Aft W g gt ft (putS S (tellS S m s now)) (.bool (decide (tellS S m s now ≠ s))) Q) : X21.j1 Q (some (at0 g 0)) now (at0 gm 0) (at0 gs 0) w := by
  unfold X21.j1
  simp only [optP_some]
  have hlt := t.lt
  have ls := bs.lt
  refine ld_Stb (s := s) bs.cat (newB fun g9 w11 b9 f11 h11 => stAllB (vs := s.cells) b9 rfl fun w12 b12 f12 => drawn fun w13 f13 _ => ?_)
  have n9 : g9 ∉ g :: ft := fun hm => by have := hlt g9 hm; omega
  have n9' : g9 ≠ gs := by omega
  have lm := bm.lt
  have t13 := ((t.keep' f11).off n9 f12).keep' f13
  have bm13 := ((bm.keep' f11).off1 (by omega) f12).keep' f13
  have bs13 := ((bs.keep' f11).off1 n9'.symm f12).keep' f13
  have b13 := b12.keep' f13
  have sF := F.size
  have F13 : Fr [] W w13 := ((F.tr f11).loc f12 (by omega)).tr f13
  refine ld_int (bm13.cat 15 _ rfl) (ld_int (t13.blk.cat 25 _ rfl) (live_spec ⟨_, rfl, ld_int (bm13.cat 12 _ rfl) (bc_ne (fun hc => ?_) (fun hc => ?_))⟩))
  · exact told_j0 t13 bm13 bs13 b13 nm n9' ns n9 F13 ws (by omega) (by simp [hc]) hs hK
  · refine ld_int (bs13.cat 2 _ rfl) (bc_eq (fun e1 => ?_) (fun e1 => ?_))
    · refine told_j0 t13 bm13 bs13 b13 nm n9' ns n9 F13 ws (by omega) ?_ hs hK
      cases hl : liveB m.at_ S.span now <;> simp [hc, e1]
    · exact told_j0 t13 bm13 bs13 b13 nm n9' ns n9 F13 ws (by omega) (by simp [hc, e1]) hs hK
theorem told_spec (t : PTa w g gt ft S) (hK : Aft w g gt ft (toldS S m now).1 (.bool (toldS S m now).2) Q) : CallR Try.prog 21 #[.pointer (some (at0 g 0)), m.val, .int .u64 now] w Q := by
  apply X21.sound
  unfold X21.f
  have hlt := t.lt
  refine newB fun gm w2 bm f2 hgm => ?_
  have bm : Blk w2 gm m.cells 47 := bm
  refine ld_Msg (s := m) bm.cat (heard_spec (t.keep' f2) fun w23 f23 => ⟨_, _, _, _, _, _, _, _, _, _, rfl, newB fun gs w35 b35 f35 h35 => stAllB (vs := ((getS S m.tn m.ts).getD sZero).cells) b35 rfl fun w36 b36 f36 => ?_⟩)
  have F23 := f2.tr f23
  have s23 := F23.size
  have lm := bm.lt
  have s3 := f23.size
  have ns : gs ∉ g :: ft := fun hm => by have := hlt gs hm; omega
  have nm : gm ≠ gs := by omega
  have t36 := ((t.keep' F23).keep' f35).off ns f36
  have bm := (bm.keep' (f23.tr f35)).off1 nm f36
  have F36 : Fr [] w w36 := (F23.tr f35).loc f36 (by omega)
  unfold toldS at hK
  cases hg : getS S m.tn m.ts with
  | none =>
    rw [hg] at hK b36
    refine bc_bool (fun _ => hK.same t F36) (fun h => by cases h)
  | some s =>
    rw [hg] at hK b36
    refine bc_bool (fun h => ?_) (fun h => ?_)
    · have : heardB S m 5 s = false := by simpa using h
      simp only [this, true_or, if_true] at hK
      exact hK.same t F36
    · have hh : heardB S m 5 s = true := by simpa using h
      have fin : (s.state = 1 ∨ s.state = 2) → ldI .u64 w36 ((at0 gm 0).add 15) fun x39 => bcase (decide (x39 > now)) (Q (.bool false) w36) (X21.j1 Q (some (at0 g 0)) now (at0 gm 0) (at0 gs 0) w36) := fun hs => by
        refine ld_int (bm.cat 15 _ rfl) (bc_dec (fun h2 => ?_) (fun h2 => ?_))
        · simp only [hh] at hK
          rw [if_pos (.inr (.inr h2))] at hK
          exact hK.same t F36
        · simp only [hh] at hK
          rw [if_neg (by rcases hs with hs | hs <;> simp [hs] <;> omega)] at hK
          exact told_j1 (s := s) t36 bm b36 nm ns F36 (by omega) hs hK
      refine ld_int (b36.cat 2 _ rfl) (bc_ne (fun n1 => ld_int (b36.cat 2 _ rfl) (bc_ne (fun n2 => ?_) (fun e2 => fin (.inr e2)))) (fun e1 => fin (.inl e1)))
      simp only [hh] at hK
      rw [if_pos (.inr (.inl ⟨n1, n2⟩))] at hK
      exact hK.same t F36
theorem dropT_spec {a : Addr} {most : Int} {l : List (Int × Stb)} {k : Int} (h : T_SB w a ft most l) (hK : ∀ w', T_SB w' a ft most (drp ilt l k) → Fr ft w w' → Q (.bool (has ilt l k)) w') : CallR Try.prog 49 #[.pointer (some a), .int .u64 k] w Q := drop_SB h hK
theorem cleaned_spec (t : PTa w g gt ft S) (hK : Aft w g gt ft (cleanedS S m).1 (.bool (cleanedS S m).2) Q) : CallR Try.prog 27 #[.pointer (some (at0 g 0)), m.val] w Q := by
  apply X27.sound
  unfold X27.f
  simp only [optP_some]
  have hlt := t.lt
  refine newB fun gm w2 bm f2 hgm => ?_
  have bm : Blk w2 gm m.cells 47 := bm
  refine ld_Msg (s := m) bm.cat (heard_spec (t.keep' f2) fun w23 f23 => ⟨_, _, _, _, _, _, _, _, _, _, rfl, newB fun gs w35 b35 f35 h35 => stAllB (vs := ((getS S m.tn m.ts).getD sZero).cells) b35 rfl fun w36 b36 f36 => drawn fun w37 f37 _ => ?_⟩)
  have F23 := f2.tr f23
  have s23 := F23.size
  have ns : gs ∉ g :: ft := fun hm => by have := hlt gs hm; omega
  have t37 := (((t.keep' F23).keep' f35).off ns f36).keep' f37
  have F37 : Fr [] w w37 := ((F23.tr f35).loc f36 (by omega)).tr f37
  have b37 := b36.keep' f37
  unfold cleanedS at hK
  cases hg : getS S m.tn m.ts with
  | none =>
    rw [hg] at hK
    exact bc_bool (fun h => by cases h) (fun _ => hK.same t F37)
  | some s =>
    rw [hg] at hK b37
    refine bc_bool (fun h => ?_) (fun h => ?_)
    · have hh : heardB S m 7 s = true := by simpa using h
      have b37 : Blk w37 gs s.cells 51 := b37
      refine ld_int (b37.cat 2 _ rfl) (bc_eq (fun e3 => ?_) (fun e3 => ?_))
      · simp only [hh] at hK
        rw [if_neg (by simp [e3])] at hK
        refine ld_ptr (t37.blk.cat 0 _ rfl) (ld_int (b37.cat.sub 0 0 rfl) (ld_int (b37.cat.sub 0 1 rfl) (key_spec fun w44 f44 => ⟨_, rfl, ⟨t37.blk.cat 0 _ rfl, (t37.keep' f44).blk.cat 0 _ rfl⟩, ?_⟩)))
        have t44 := t37.keep' f44
        refine dropT_spec t44.tab fun w47 t47 f47 => ⟨_, rfl, ?_⟩
        exact hK ft w47 ⟨t44.blk.keep f47 t.gn, t47, t.gn⟩ ((F37.tr f44).any.sub f47 fun x hx => by simp [hx]) (fun x hx => .inl hx)
      · simp only [hh] at hK
        rw [if_pos (.inr e3)] at hK
        exact hK.same t F37
    · have : heardB S m 7 s = false := by simpa using h
      simp only [this, true_or, if_true] at hK
      exact hK.same t F37
theorem seq_spec (t : PTa w g gt ft S) (hQ : Q (.int .u64 S.seq) w) : CallR Try.prog 20 #[.pointer (some (at0 g 0))] w Q := by
  apply X20.sound
  unfold X20.f
  simp only [optP_some]
  exact ld_int (t.blk.cat 24 _ rfl) hQ
/-- all stubs, in new memory -/
theorem all_l0 (t0 : PTa W g gt ft S) {kp : Option Addr} {kc : Nat} (hs : S.l.length ≤ 4096) (hk : Cells W kp ((keys S.l).map (Value.int .u64)))
    (hQ : ∀ p c w', Own 51 9 w' p S.l.length c (S.l.flatMap vc_SB) → Fr [] W w' → (∀ x ∈ fbl p, W.heap.size ≤ x) → Q (.slice p S.l.length c) w') :
    ∀ (f i : Nat) (w : World) (p : Option Addr) (c : Nat), S.l.length - i < f → i ≤ S.l.length → Fr [] W w → Own 51 9 w p i c ((S.l.take i).flatMap vc_SB) → (∀ x ∈ fbl p, W.heap.size ≤ x) → X17.l0 Q f (some (at0 g 0)) p i c kp S.l.length kc (S.l.length : Int) (i : Int) w
  | 0, i, w, p, c, hf, _, _, _, _ => by omega
  | f + 1, i, w, p, c, hf, hi, F, o, hp => by
    rw [X17.l0]
    simp only [optP_some]
    have tw := t0.keep' F
    refine bc_dec (fun h1 => ⟨⟨by omega, by omega⟩, ?_⟩) (fun h1 => ?_)
    · have hlt : i < S.l.length := by omega
      have hltk : i < (keys S.l).length := by simpa using hlt
      have hg := List.getElem?_eq_getElem hltk
      obtain ⟨a, ha, hx⟩ := cell_60 (hk.keep' F) hg
      have hge : get ilt S.l (keys S.l)[i] = some (S.l[i]).2 := by
        refine (get_iff ilt_lin t0.tab.sorted).2 ?_
        have : ((keys S.l)[i], (S.l[i]).2) = S.l[i] := by simp
        rw [this]
        exact List.getElem_mem hlt
      refine opt_some ha (ld_int (by rw [Int.toNat_natCast]; exact hx) (ld_ptr (tw.blk.cat 0 _ rfl) (getT_spec tw.tab fun w6 f6 => ⟨_, _, _, _, _, _, _, _, _, _, rfl, ?_⟩)))
      rw [hge]
      refine newB fun g17 w18 b18 f18 h18 => stAllB (vs := ((S.l[i]).2).cells) b18 rfl fun w19 b19 f19 => ld_Stb (s := (S.l[i]).2) b19.cat (newB fun g29 w30 b30 f30 h30 => ?_)
      have s0 := F.size
      have z6 := f6.size
      have lp := o.lt
      have f30' : Fr [] w w30 := ((f6.tr f18).loc f19 (by omega)).tr f30
      have o30 := o.keep' f30'
      have e29 := f30'.size
      refine app_step rowT42 (W := W) o30 (cells_one b30) (Stb.len _) some_ne (Stb.one _) (by omega) (by omega) hp (F.tr f30') ?_
      intro p' c' w32 o32 n32 f32 _
      rw [i64w ((i : Int) + 1) (by omega) (by omega), show (i : Int) + 1 = ((i + 1 : Nat) : Int) by omega]
      refine all_l0 t0 hs hk hQ f (i + 1) w32 p' c' (by omega) (by omega) f32 ?_ n32
      rw [List.take_succ_eq_append_getElem hlt, List.flatMap_append]
      simpa [vc_SB, Stb.cells] using o32
    · have : i = S.l.length := by omega
      subst this
      rw [List.take_length] at o
      exact hQ p c w o F hp
theorem all_spec (t : PTa w g gt ft S) (hQ : ∀ p c w', Own 51 9 w' p S.l.length c (S.l.flatMap vc_SB) → Fr [] w w' → (∀ x ∈ fbl p, w.heap.size ≤ x) → Q (.slice p S.l.length c) w') : CallR Try.prog 17 #[.pointer (some (at0 g 0))] w Q := by
  apply X17.sound
  unfold X17.f
  simp only [optP_some]
  have hsz : S.l.length ≤ 4096 := by
    obtain ⟨a, b, c, d, e, tt⟩ := t.tab
    have := tt.le; have := tt.top; omega
  refine ld_ptr (t.blk.cat 0 _ rfl) (keys_SB t.tab fun p c w4 o4 f4 n4 => ⟨_, _, _, rfl, S.l.length + 1, ?_⟩)
  have s4 := f4.size
  refine all_l0 (t.keep' f4) hsz o4.cells (fun p' c' w' o' f' n' => hQ p' c' w' o' (f4.tr f') (fun x hx => by have := n' x hx; omega)) _ 0 w4 none 0 (by omega) (by omega) (Fr.refl _) Own.nil (by simp [fbl])
end
end Go.Proofs.YtglininpmfgggaaX
