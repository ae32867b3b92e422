/- Who holds an owner's objects: the calls but Dirty and Clean. -/
import Derived.Test.YtnjmkhhaodgpbaaL19U
import Derived.Test.YtnjmkhhaodgpbaaXT3
namespace Go.Proofs.YtnjmkhhaodgpbaaX
open Go.RowKit
set_option linter.unusedVariables false
set_option linter.unusedSimpArgs false
set_option maxRecDepth 100000
theorem ld_msgA {w : World} {g : Nat} {m : Msg} {rp lp : Option Addr} {rc lc : Nat} {K : Int → Int → Int → Int → Int → Int → Int → Int → Int → Int → Option Addr → Nat → Nat → Int → Int → Int → Int → Int → Int → Int → Option Addr → Nat → Nat → Prop} (hb : Blk w g (m.cells rp rc lp lc) 40) (h : K m.kind m.frm m.to m.call m.floor m.op m.field m.item m.tn m.ts rp m.refs.length rc m.value m.code m.seq m.voucher m.at_ m.dist m.stamp lp m.list.length lc) :
    ldI .i64 w ((at0 g 0).add 0) fun x0 => ldI .i64 w ((at0 g 0).add 1) fun x1 => ldI .i64 w ((at0 g 0).add 2) fun x2 => ldI .u64 w ((at0 g 0).add 3) fun x3 => ldI .u64 w ((at0 g 0).add 4) fun x4 => ldI .i64 w ((at0 g 0).add 5) fun x5 => ldI .i64 w ((at0 g 0).add 6) fun x6 => ldI .i64 w ((at0 g 0).add 7) fun x7 => ldI .i64 w ((at0 g 0).add 8) fun x8 => ldI .u64 w ((at0 g 0).add 9) fun x9 => ldSl w ((at0 g 0).add 10) fun x10p x10n x10c => ldI .u64 w ((at0 g 0).add 11) fun x11 => ldI .i64 w ((at0 g 0).add 12) fun x12 => ldI .u64 w ((at0 g 0).add 13) fun x13 => ldI .i64 w ((at0 g 0).add 14) fun x14 => ldI .u64 w ((at0 g 0).add 15) fun x15 => ldI .i64 w ((at0 g 0).add 16) fun x16 => ldI .u64 w ((at0 g 0).add 17) fun x17 => ldSl w ((at0 g 0).add 18) fun x18p x18n x18c => K x0 x1 x2 x3 x4 x5 x6 x7 x8 x9 x10p x10n x10c x11 x12 x13 x14 x15 x16 x17 x18p x18n x18c :=
  ld_int (hb.cat 0 _ rfl) (ld_int (hb.cat 1 _ rfl) (ld_int (hb.cat 2 _ rfl) (ld_int (hb.cat 3 _ rfl) (ld_int (hb.cat 4 _ rfl) (ld_int (hb.cat 5 _ rfl) (ld_int (hb.cat 6 _ rfl) (ld_int (hb.cat 7 _ rfl) (ld_int (hb.cat 8 _ rfl) (ld_int (hb.cat 9 _ rfl) (ld_sl (hb.cat 10 _ rfl) (ld_int (hb.cat 11 _ rfl) (ld_int (hb.cat 12 _ rfl) (ld_int (hb.cat 13 _ rfl) (ld_int (hb.cat 14 _ rfl) (ld_int (hb.cat 15 _ rfl) (ld_int (hb.cat 16 _ rfl) (ld_int (hb.cat 17 _ rfl) (ld_sl (hb.cat 18 _ rfl) (h)))))))))))))))))))
def pastB (a span now : Int) : Bool := if now ≥ a then decide (IntKind.wrap .u64 (now - a) ≥ span) else false
def holdS (S : Sc) (s : Int) : List Int := ((ofR S.rows s).filter (·.present)).map (·.holder)
def buryS (S : Sc) (s : Int) : Sc × Bool := if hasO S.os s = true ∧ s ∉ S.bur ∧ holdS S s ≠ [] then (keepS { S with bur := S.bur ++ [s] } s, true) else (S, false)
def unbur (S : Sc) (s : Int) : List Int := S.bur.filter fun y => decide (y ≠ s)
def raiseS (S : Sc) (s : Int) : Sc × Bool := if s ∈ S.bur then (keepS { S with bur := unbur S s } s, true) else (S, false)
def cutR (rows : List (Int × Scn)) (s : Int) (l : List Scn) : List (Int × Scn) := l.foldl (fun a r => drp ilt a (keyS s r.holder)) rows
def forgetS (S : Sc) (s : Int) : Sc := keepS { S with rows := cutR S.rows s (ofR S.rows s), bur := unbur S s } s
abbrev scnZ : Scn := ⟨0, 0, false, 0, 0, 0⟩
def stepS (S : Sc) (now : Int) : Sc × Scn × Bool := match after ilt S.rows S.cur with
  | none => (S, scnZ, false)
  | some k => match get ilt S.rows k with
    | none => ({ S with cur := k }, scnZ, false)
    | some r => if r.present = true ∧ pastB r.at_ S.c.lease now = true then (putS { S with cur := k } { r with present := false }, { r with present := false }, true) else ({ S with cur := k }, scnZ, false)
section
variable {w w' W : World} {Q : Value → World → Prop} {g gt bm : Nat} {x : HB} {ft fh fh' rt rt' F : List Nat} {S S' : Sc} {s d now k : Int} {r : Scn} {m : Msg} {rp lp : Option Addr} {rc lc : Nat}
theorem past_spec {a span now : Int} (hQ : Q (.bool (pastB a span now)) w) : CallR Try.prog 42 #[.int .u64 a, .int .u64 span, .int .u64 now] w Q := by
  apply X42.sound
  unfold X42.f
  unfold pastB at hQ
  exact bc_dec (fun h => by rw [if_pos h] at hQ; exact hQ) (fun h => by rw [if_neg h] at hQ; exact hQ)
theorem mine_spec (t : PS w g x ft S) (hm : MM w m rp rc lp lc) (hQ : Ans Q (mineS S m k) w) : CallR Try.prog 30 #[.pointer (some (at0 g 0)), msgV m rp rc lp lc, .int .i64 k] w Q := by
  apply X30.sound
  unfold X30.f
  refine newB fun g1 w2 b2 f2 h2 => drawn fun w3 f3 _ => ?_
  have b2 : Blk w2 g1 (m.cells rp rc lp lc) 40 := b2
  have b3 := b2.keep' f3
  have F3 := f2.tr f3
  have no : ∀ {w'}, Fr [] w w' → ¬ mineS S m k → Q (.bool false) w' := fun f h => hQ false _ ⟨fun e => absurd e (by decide), fun e => absurd e h⟩ f
  unfold mineS at no hQ
  refine ld_int (b3.cat 0 _ rfl) (bc_eq (fun hk => ?_) (fun hk => no F3 (fun h => hk h.1)))
  refine ld_msgA b3 (Right_spec (hm.keep' F3) fun b w25 hb f25 => ⟨_, rfl, bc_bool (fun hbt => ?_) (fun hbf => no (F3.tr f25) (fun h => by rw [hb.2 h.2.1] at hbf; cases hbf))⟩)
  have F25 := F3.tr f25
  have b25 := b3.keep' f25
  have hR := hb.1 hbt
  have t25 := t.keep' F25
  obtain ⟨fh, gt, bm, rt, t25⟩ := t25
  refine ld_int (b25.cat 2 _ rfl) (opt_some rfl (ld_ptr (t25.cat 22 rfl) (node_spec t25.heap ⟨_, rfl, ⟨b25.cat 2 _ rfl, b25.cat 2 _ rfl⟩, bc_eq (fun h1 => ?_) (fun h1 => no F25 (fun h => h1 h.2.2.1))⟩)))
  refine ld_int (b25.cat 1 _ rfl) (opt_some rfl (ld_int (x := S.c.nodes) ?_ (bc_dec (fun h2 => ?_) (fun h2 => no F25 (fun h => h2 h.2.2.2.1)))))
  · rw [add_at]
    exact t25.blk.cell rfl
  have c8 : w25.cell? (((at0 g1 0).add 8).add 0) = some (.int .i64 m.tn) := by
    rw [add_add]
    exact b25.cat 8 _ rfl
  refine ld_int c8 (opt_some rfl (ld_ptr (t25.cat 22 rfl) (node_spec t25.heap ⟨_, rfl, ⟨c8, c8⟩, ?_⟩)))
  refine hQ _ _ ?_ F25
  simp only [beq_iff_eq]
  exact ⟨fun h3 => ⟨hk, hR, h1, h2, h3⟩, fun h => h.2.2.2.2⟩
theorem holders_l0 (R : RI S.rows) (hsz : S.rows.length ≤ 4096) (hQ : ∀ p c w', Own 22 1 w' p (holdS S s).length c ((holdS S s).map (Value.int .u64)) → Fr [] W w' → (∀ k ∈ fbl p, W.heap.size ≤ k) → Q (.slice p (holdS S s).length c) w')
    {p : Option Addr} {c : Nat} {w0 : World} (ho : Own 53 6 w0 p (ofR S.rows s).length c (sq (ofR S.rows s))) (F0 : Fr [] W w0) :
    ∀ (f i : Nat) (acc : List Int) (ap : Option Addr) (ac : Nat) (w1 : World), (ofR S.rows s).length - i < f → i ≤ (ofR S.rows s).length → acc = (((ofR S.rows s).take i).filter (·.present)).map (·.holder) → Own 22 1 w1 ap acc.length ac (acc.map (Value.int .u64)) → (∀ k ∈ fbl ap, w0.heap.size ≤ k) → Fr [] w0 w1 →
      X17.l0 Q f ap acc.length ac p (ofR S.rows s).length c ((ofR S.rows s).length : Int) (i : Int) w1
  | 0, i, acc, ap, ac, w1, hf, _, _, _, _, _ => absurd hf (Nat.not_lt_zero _)
  | f + 1, i, acc, ap, ac, w1, hf, hi, he, oa, ha, F1 => by
    have F := F0.tr F1
    have hle : (ofR S.rows s).length ≤ 4096 := by
      unfold ofR
      rw [List.length_map]
      exact Nat.le_trans (List.length_filter_le _ _) hsz
    rw [X17.l0]
    refine bc_dec (fun hlt => ⟨⟨by omega, by omega⟩, ?_⟩) (fun hge => ?_)
    · have hl : i < (ofR S.rows s).length := by omega
      have hr := List.getElem?_eq_getElem hl
      obtain ⟨a, ha', hat⟩ := scn_at ((ho.keep' F1).cells) hr
      have hmem := List.getElem_mem hl
      generalize (ofR S.rows s)[i] = r at *
      obtain ⟨e, he1, he2⟩ := ofR_mem hmem
      have hh := R.hol e he1
      rw [he2] at hh
      rw [Int.toNat_natCast]
      have e1 : IntKind.wrap .i64 ((i : Int) + 1) = ((i + 1 : Nat) : Int) := by rw [i64w ((i : Int) + 1) (by omega) (by omega)]; omega
      have e2 : (ofR S.rows s).take (i + 1) = (ofR S.rows s).take i ++ [r] := by
        rw [List.take_add_one, hr]
        rfl
      have hal : acc.length ≤ i := by
        rw [he, List.length_map]
        refine Nat.le_trans (List.length_filter_le _ _) ?_
        rw [List.length_take]
        omega
      rw [e1]
      refine opt_some ha' (ld_Scn (s := r) hat (newB fun g8 w9 b9 f9 h9 => stAllB (vs := r.cells) b9 rfl fun w10 b10 f10 => ?_))
      have z9 := f9.size
      have z10 := f10.size
      have F10 : Fr [] w1 w10 := f9.trans f10 (fun y hy => .inr (by simp at hy; omega))
      refine ld_bool (b10.cat 2 _ rfl) (bc_bool (fun hp => ld_int (b10.cat 1 _ rfl) (newB fun g13 w14 b14 f14 h14 => ?_)) (fun hp => ?_))
      · rw [u64w r.holder (by omega) (by omega)] at b14
        refine app_step rowT38 (oa.keep' (F10.tr f14)) (x := some (at0 g13 0)) (ys := [Value.int .u64 r.holder]) (k := 1) (cells_one b14) rfl some_ne (by simp [Value.oneCell']) (by omega) (by omega) (W := w0) ha (F1.tr (F10.tr f14)) fun p2 c2 w16 o16 hp2 F116 f16 => ?_
        have e3 : acc.length + 1 = (acc ++ [r.holder]).length := by simp
        rw [e3]
        refine holders_l0 R hsz hQ ho F0 f (i + 1) (acc ++ [r.holder]) p2 c2 w16 (by omega) (by omega) ?_ ?_ hp2 F116
        · rw [e2, List.filter_append, List.map_append, ← he]
          simp [hp]
        · rw [← e3, List.map_append]
          exact o16
      · refine holders_l0 R hsz hQ ho F0 f (i + 1) acc ap ac w10 (by omega) (by omega) ?_ (oa.keep' F10) ha (F1.tr F10)
        rw [e2, List.filter_append, List.map_append, ← he]
        simp [hp]
    · have : (ofR S.rows s).take i = ofR S.rows s := List.take_of_length_le (by omega)
      rw [this] at he
      have he : acc = holdS S s := he
      subst he
      exact hQ ap ac w1 oa F (fun k hk => by have := ha k hk; have := F0.size; omega)
theorem holders_spec (t : PS w g x ft S) (h0 : 0 ≤ s) (h1 : s ≤ 18446744073709551615) (hQ : ∀ p c w', Own 22 1 w' p (holdS S s).length c ((holdS S s).map (Value.int .u64)) → Fr [] w w' → (∀ k ∈ fbl p, w.heap.size ≤ k) → Q (.slice p (holdS S s).length c) w') :
    CallR Try.prog 17 #[.pointer (some (at0 g 0)), .int .u64 s] w Q := by
  apply X17.sound
  unfold X17.f
  refine of_spec t h0 h1 fun p c w2 o2 f2 _ => ⟨_, _, _, rfl, (ofR S.rows s).length + 1, ?_⟩
  exact holders_l0 t.ri t.size hQ o2 f2 _ 0 [] none 0 w2 (by omega) (by omega) (by simp) Own.nil (by simp [fbl]) (Fr.refl _)
theorem buried_spec (t : PS w g x ft S) (h0 : 0 ≤ s) (h1 : s ≤ 18446744073709551615) (hQ : Q (.bool (decide (s ∈ S.bur))) w) : CallR Try.prog 21 #[.pointer (some (at0 g 0)), .int .u64 s] w Q := by
  apply X21.sound
  unfold X21.f
  obtain ⟨fh, gt, bm, rt, t⟩ := t
  refine opt_some rfl (ld_map (t.cat 24 rfl) (bur_look t h0 h1 ⟨_, rfl, ?_⟩))
  by_cases h : s ∈ S.bur
  · rw [if_pos h]
    rw [decide_eq_true h] at hQ
    exact hQ
  · rw [if_neg h]
    rw [decide_eq_false h] at hQ
    exact hQ
theorem unbur_ent : dropU (S.bur.map bent) s = (unbur S s).map bent := by
  unfold dropU unbur
  rw [List.filter_map]
  rfl
theorem raise_spec (t : PS w g x ft S) (h0 : 0 ≤ s) (h1 : s ≤ 18446744073709551615) (hQ : AftS w g x ft (raiseS S s).1 (.bool (raiseS S s).2) Q) : CallR Try.prog 22 #[.pointer (some (at0 g 0)), .int .u64 s] w Q := by
  apply X22.sound
  unfold X22.f
  have tt := t
  obtain ⟨fh, gt, bm, rt, t⟩ := t
  unfold raiseS at hQ
  refine opt_some rfl (ld_map (t.cat 24 rfl) (bur_look t h0 h1 ⟨_, rfl, ?_⟩))
  by_cases h : s ∈ S.bur
  · rw [if_pos h] at hQ ⊢
    refine bc_eq (fun e => by cases e) (fun _ => opt_some rfl (ld_map (t.cat 24 rfl) (delU (K := 22) (E := 3) (by kernel_rfl) (by kernel_rfl) t.map (u64wf h0 h1) fun w9 M9 f9 => ⟨rfl, ?_⟩)))
    rw [unbur_ent] at M9
    obtain ⟨t9, F9⟩ := t.bur' M9 f9
    refine keep_spec ⟨_, _, _, _, t9⟩ h0 h1 ?_
    intro ft2 w2 P2 f2 e2
    exact ⟨rfl, hQ.next F9 (fun y hy => .inl hy) ft2 w2 P2 f2 e2⟩
  · rw [if_neg h] at hQ ⊢
    exact bc_eqt' rfl (hQ.same tt (Fr.refl _))
theorem bury_spec (t : PS w g x ft S) (h0 : 0 ≤ s) (h1 : s ≤ 18446744073709551615) (hQ : AftS w g x ft (buryS S s).1 (.bool (buryS S s).2) Q) : CallR Try.prog 20 #[.pointer (some (at0 g 0)), .int .u64 s] w Q := by
  apply X20.sound
  unfold X20.f
  have tt := t
  obtain ⟨fh, gt, bm, rt, t⟩ := t
  unfold buryS at hQ
  refine opt_some rfl (ld_ptr (t.cat 22 rfl) (object_spec t.heap h0 h1 fun w4 ser cell rp rn rc vp vn vc f4 => ⟨_, _, _, _, _, _, _, _, _, _, rfl, newB fun g11 w12 b12 f12 h12 => ?_⟩))
  refine stAllB (vs := Obj.cells ⟨ser, cell, rp, rn, rc, vp, vn, vc, inO S.os s⟩) b12 rfl fun w13 b13 f13 => ?_
  have z4 := f4.size
  have F13 : Fr [] w w13 := (f4.tr f12).trans f13 (fun y hy => .inr (by simp at hy; omega))
  have t13 := t.keep' F13
  cases ho : hasO S.os s with
  | false =>
    rw [if_neg (fun h => by rw [ho] at h; cases h.1)] at hQ
    exact hQ.same tt F13
  | true =>
    refine bc_bool (fun e => by cases e) (fun _ => opt_some rfl (ld_map (t13.cat 24 rfl) (bur_look t13 h0 h1 ⟨_, rfl, ?_⟩)))
    by_cases h : s ∈ S.bur
    · rw [if_neg (fun hh => hh.2.1 h)] at hQ
      rw [if_pos h]
      exact bc_pos (by omega) (hQ.same tt F13)
    · rw [if_neg h]
      refine bc_neg (by omega) (holders_spec (tt.keep' F13) h0 h1 fun p c w20 o20 f20 _ => ⟨_, _, _, rfl, ?_⟩)
      have F20 := F13.tr f20
      have t20 := t.keep' F20
      refine bc_eq (fun hz => ?_) (fun hz => ?_)
      · rw [if_neg (fun hh => hh.2.2 (List.eq_nil_of_length_eq_zero (by omega)))] at hQ
        exact hQ.same tt F20
      · rw [if_pos ⟨ho, h, fun e => hz (by rw [e]; rfl)⟩] at hQ
        refine opt_some rfl (ld_map (t20.cat 24 rfl) (updU (K := 22) (E := 3) (by kernel_rfl) (by kernel_rfl) t20.map (u64wf h0 h1) (fun y hy => by
          obtain ⟨z, hz, rfl⟩ := List.mem_map.1 hy
          exact fun e => h (show s ∈ S.bur from e ▸ hz)) fun w25 M25 f25 => ?_))
        have eM : S.bur.map bent ++ [(s, Value.int .i64 1)] = (S.bur ++ [s]).map bent := by simp [bent]
        rw [eM] at M25
        obtain ⟨t25, F25⟩ := t20.bur' M25 f25
        refine keep_spec ⟨_, _, _, _, t25⟩ h0 h1 ?_
        intro ft2 w2 P2 f2 e2
        exact ⟨rfl, hQ.next (F20.any.tr F25) (fun y hy => .inl hy) ft2 w2 P2 f2 e2⟩
end
end Go.Proofs.YtnjmkhhaodgpbaaX
