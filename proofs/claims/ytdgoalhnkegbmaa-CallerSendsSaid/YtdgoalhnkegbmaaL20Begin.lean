/- Begin. -/
import Derived.Test.YtdgoalhnkegbmaaL20Ops
namespace Go.Proofs.YtdgoalhnkegbmaaX
open Go.RowKit
set_option linter.unusedVariables false
set_option linter.unusedSimpArgs false
set_option maxRecDepth 100000
def newY (to op field tn ts value : Int) (refs : List (Int × Int)) (now : Int) : Cp := ⟨to, 1, op, field, tn, ts, refs, value, 1, 0, [], 0, now, 0, now⟩
def idcs (nd sr : Int) : List Value := [.int .i64 nd, .int .u64 sr]
section
variable {w w' W : World} {Q : Value → World → Prop} {g gs gx : Nat} {ft al ft' al' F : List Nat} {S S' : Cs} {k to num now fl op field tn ts value : Int} {x : Cl} {y : Cp} {refs : List (Int × Int)} {rp sp : Option Addr} {rc sc : Nat}
theorem PCa.pc {lp : Option Addr} {lc gt : Nat} {rt : List Nat} {lm : List (Int × Cl)} (t : PCa w g ft al S lp lc gt rt lm) : PC w g ft al S := ⟨lp, lc, gt, rt, lm, t⟩
theorem PCa.stLatest {lp : Option Addr} {lc gt : Nat} {rt : List Nat} {lm : List (Int × Cl)} {a : Addr} {v : Int} {K : World → Prop} (t : PCa w g ft al S lp lc gt rt lm) (h0 : 0 ≤ to) (h1 : to < (S.latest.length : Int)) (ha : lp = some a)
    (hK : ∀ w', PCa w' g ft al { S with latest := S.latest.set to.toNat v } lp lc gt rt lm → Fr ft w w' → K w') : stK w (a.add (to.toNat * 1)) (.int .u64 v) K := by
  rw [Nat.mul_one]
  have hlt : to.toNat < (S.latest.map (Value.int .u64)).length := by simp; omega
  have hl := t.lat
  rw [ha] at hl
  have f : Fr [a.block] w (w.setCell (a.add to.toNat) (.int .u64 v)) := Fr.setCell (by rw [add_block]; simp) _
  have hin : a.block ∈ ft := by rw [t.foot, ha]; simp [fbl]
  have f' : Fr ft w (w.setCell (a.add to.toNat) (.int .u64 v)) := f.mono fun x hx => by simp at hx; rw [hx]; exact hin
  have nb : ∀ x, x ∉ fbl lp → x ∉ [a.block] := fun x hx hm => hx (by rw [ha]; simpa [fbl] using hm)
  refine ⟨hl.storeOk hlt, hK _ ⟨?_, ?_, t.tab.keep f (fun x hx => nb x (fun hm => t.lr x hm hx)), t.rel.keep f' (fun k hk hn => hn), t.foot, t.gl, t.gr, t.lr, t.sub, fun x hx => by have := t.lt x hx; have := f.size; omega, by simp [t.ll]⟩ f'⟩
  · have := t.blk.keep f (nb g t.gl)
    unfold ccells at this ⊢
    simpa using this
  · rw [ha]
    have := hl.set hlt (.int .u64 v)
    simp only [List.length_set, List.map_set]
    exact this
theorem crel_grow (t : PC w g ft al S) (r1 : IdRow w rp rc y.refs) (r2 : IdRow w sp sc y.result) (l1 : y.refs.length ≤ 4096) (l2 : y.result.length ≤ 4096) (n1 : ∀ k ∈ fbl rp, W.heap.size ≤ k) (n2 : ∀ k ∈ fbl sp, W.heap.size ≤ k) (hW : ∀ k ∈ ft, k < W.heap.size ∨ k ∉ fbl rp ∧ k ∉ fbl sp) :
    PC w g ft (al ++ fbl rp ++ fbl sp) S ∧ CRel w ft (al ++ fbl rp ++ fbl sp) (y.cl rp rc sp sc) y := by
  refine ⟨t.grow (fun x hx => by simp [hx]) (fun x hx => ?_), ⟨l1, l2, rp, rc, sp, sc, rfl, r1, r2, fun k hk => ⟨fun hm => ?_, by simp [hk]⟩, fun k hk => ⟨fun hm => ?_, by simp [hk]⟩⟩⟩
  · simp only [List.mem_append] at hx
    rcases hx with (hx | hx) | hx
    · exact t.lt x hx
    · exact r1.lt x hx
    · exact r2.lt x hx
  · rcases hW k hm with h | h
    · have := n1 k hk; omega
    · exact h.1 hk
  · rcases hW k hm with h | h
    · have := n2 k hk; omega
    · exact h.2 hk
theorem begin_j0b (t : PC w g ft al S) (ho : otherB S to = true) (bx : Blk w gx (y.cl rp rc sp sc).cells 44) (hx : gx ∉ al) (r1 : IdRow w rp rc y.refs) (r2 : IdRow w sp sc y.result) (l1 : y.refs.length ≤ 4096) (l2 : y.result.length ≤ 4096)
    (n1 : ∀ k ∈ fbl rp, W.heap.size ≤ k ∧ k ≠ gx) (n2 : ∀ k ∈ fbl sp, W.heap.size ≤ k ∧ k ≠ gx) (hft : ∀ k ∈ ft, k < W.heap.size) (F : Fr [] W w) (hxW : W.heap.size ≤ gx) (hto : y.to = to)
    (hK : AftC W g ft al (if (S.l.length : Int) ≥ S.c.calls ∨ IntKind.wrap .u64 (IntKind.wrap .u64 (latestOf S to + 1) - floorC S to) ≥ IntKind.wrap .u64 S.c.window then (S, (0 : Int), (6 : Int)) else if latestOf S to = 72057594037927935 then (S, 0, 7)
        else (putC { S with latest := S.latest.set to.toNat (IntKind.wrap .u64 (latestOf S to + 1)) } { y with num := IntKind.wrap .u64 (latestOf S to + 1) }, IntKind.wrap .u64 (latestOf S to + 1), 0)).1
      (.tuple #[.int .u64 (if (S.l.length : Int) ≥ S.c.calls ∨ IntKind.wrap .u64 (IntKind.wrap .u64 (latestOf S to + 1) - floorC S to) ≥ IntKind.wrap .u64 S.c.window then (S, (0 : Int), (6 : Int)) else if latestOf S to = 72057594037927935 then (S, 0, 7)
        else (putC { S with latest := S.latest.set to.toNat (IntKind.wrap .u64 (latestOf S to + 1)) } { y with num := IntKind.wrap .u64 (latestOf S to + 1) }, IntKind.wrap .u64 (latestOf S to + 1), 0)).2.1,
        .int .i64 (if (S.l.length : Int) ≥ S.c.calls ∨ IntKind.wrap .u64 (IntKind.wrap .u64 (latestOf S to + 1) - floorC S to) ≥ IntKind.wrap .u64 S.c.window then (S, (0 : Int), (6 : Int)) else if latestOf S to = 72057594037927935 then (S, 0, 7)
        else (putC { S with latest := S.latest.set to.toNat (IntKind.wrap .u64 (latestOf S to + 1)) } { y with num := IntKind.wrap .u64 (latestOf S to + 1) }, IntKind.wrap .u64 (latestOf S to + 1), 0)).2.2]) Q) :
    X14.j0 Q (some (at0 g 0)) to (at0 gx 0) false w := by
  unfold X14.j0
  simp only [optP_some]
  have done : ∀ {v : Value} {w2 : World}, AftC W g ft al S v Q → Fr [] w w2 → Q v w2 := fun hk f2 => hk ft al _ (t.keep' f2) (F.tr f2).any (fun x hx => .inl hx) (fun x hx => .inl hx)
  refine bc_bool (fun e => by cases e) (fun _ => drawn fun w1 f1 _ => ?_)
  obtain ⟨lp, lc, gt, rt, lm, t1⟩ := t.keep' f1
  have hlen := t1.rel.len
  refine ld_ptr (t1.blk.cat 25 _ rfl) (len_CB t1.tab ⟨_, rfl, ld_int (t1.pc.cfg0 6 _ rfl) ⟨⟨t1.pc.cfg0 6 _ rfl, t1.pc.cfg0 6 _ rfl⟩, bc_dec (fun h6 => ?_) (fun h6 => ?_)⟩⟩)
  · rw [if_pos (.inl (by rw [← hlen]; exact h6))] at hK
    exact done hK f1
  obtain ⟨h0, h1, a, ha, hc⟩ := t1.latest ho
  refine ld_sl (t1.blk.cat 24 _ rfl) ⟨⟨h0, h1⟩, opt_some ha (ld_int hc (floor_spec t1.pc fun w14 f14 => ⟨_, rfl, ⟨hc, f14.cell' hc⟩, ⟨t1.blk.cat 24 _ rfl, (t1.keep' f14).blk.cat 24 _ rfl⟩, ?_⟩))⟩
  have t14 := t1.keep' f14
  have hc14 := f14.cell' hc
  have F14 := f1.tr f14
  refine ld_int (t14.pc.cfg0 7 _ rfl) ⟨⟨t1.pc.cfg0 7 _ rfl, t14.pc.cfg0 7 _ rfl⟩, bc_dec (fun h7 => ?_) (fun h7 => ?_)⟩
  · rw [if_pos (.inr h7)] at hK
    exact done hK F14
  rw [if_neg (by
    rintro (h | h)
    · exact h6 (by rw [hlen]; exact h)
    · exact h7 h)] at hK
  refine ld_sl (t14.blk.cat 24 _ rfl) ⟨⟨h0, h1⟩, opt_some ha (ld_int hc14 (bc_eq (fun hm => ?_) (fun hm => ?_)))⟩
  · rw [if_pos hm] at hK
    exact done hK F14
  rw [if_neg hm] at hK
  unfold X14.j1
  simp only [optP_some]
  refine ld_sl (t14.blk.cat 24 _ rfl) ⟨⟨h0, h1⟩, opt_some ha (ld_int hc14 ⟨⟨h0, h1⟩, opt_some ha (t14.stLatest h0 h1 ha fun w6 t6 f6 => ?_)⟩)⟩
  have hxft : gx ∉ ft := fun hm => hx (t.sub gx hm)
  have b6 := (bx.keep' F14).keep f6 hxft
  have ho6 : otherB { S with latest := S.latest.set to.toNat (IntKind.wrap .u64 (latestOf S to + 1)) } to = true := ho
  obtain ⟨h0', h1', a', ha', hc'⟩ := t6.latest ho6
  have hv : latestOf { S with latest := S.latest.set to.toNat (IntKind.wrap .u64 (latestOf S to + 1)) } to = IntKind.wrap .u64 (latestOf S to + 1) := by
    unfold latestOf
    rw [List.getElem?_set_self (by omega)]
    rfl
  rw [hv] at hc'
  have hle : (S.latest.set to.toNat (IntKind.wrap .u64 (latestOf S to + 1))).length = S.latest.length := List.length_set
  refine ld_sl (t6.blk.cat 24 _ rfl) ⟨⟨h0', h1'⟩, opt_some ha' (ld_int hc' (stB b6 (by rw [Cl.len]; omega) fun w11 b11 f11 => ?_))⟩
  have b11 : Blk w11 gx (({ y with num := IntKind.wrap .u64 (latestOf S to + 1) } : Cp).cl rp rc sp sc).cells 44 := b11
  have f614 := F.tr F14
  have z14 := f614.size
  have z6 := f6.size
  have t11 := t6.pc.off hx f11
  have nf : ∀ {p : Option Addr}, (∀ k ∈ fbl p, W.heap.size ≤ k ∧ k ≠ gx) → ∀ k ∈ fbl p, k ∉ ft := fun hn k hk hm => by have := hft k hm; have := hn k hk; omega
  have q1 := IdRow.off ((r1.keep' F14).keep f6 (nf n1)) (fun hm => (n1 _ hm).2 rfl) f11
  have q2 := IdRow.off ((r2.keep' F14).keep f6 (nf n2)) (fun hm => (n2 _ hm).2 rfl) f11
  obtain ⟨tg, rg⟩ := crel_grow (W := W) (y := { y with num := IntKind.wrap .u64 (latestOf S to + 1) }) t11 q1 q2 l1 l2 (fun k hk => (n1 k hk).1) (fun k hk => (n2 k hk).1) (fun k hk => .inl (hft k hk))
  have F11 : Fr ft W w11 := (f614.any.tr f6).loc f11 hxW
  refine ld_Cl (s := ({ y with num := IntKind.wrap .u64 (latestOf S to + 1) } : Cp).cl rp rc sp sc) b11.cat (put_spec tg rg ?_)
  intro ft' al' w28 t28 f28 e28 e29
  have b28 := b11.keep f28 hxft
  refine ⟨rfl, ld_int (b28.cat 1 _ rfl) ?_⟩
  refine hK ft' al' w28 t28 (F11.tr f28) (fun k hk => (e28 k hk).imp id (fun h => by have := F11.size; omega)) (fun k hk => ?_)
  rcases e29 k hk with h | h
  · simp only [List.mem_append] at h
    rcases h with (h | h) | h
    · exact .inl h
    · exact .inr (n1 k h).1
    · exact .inr (n2 k h).1
  · exact .inr (by have := F11.size; omega)
theorem right_to {m : Msg} (h : Right m) : 1 ≤ m.to ∧ m.to ≤ 64 ∧ m.frm ≠ m.to := ⟨h.2.2.1.1, h.2.2.1.2, h.2.2.2.1⟩
theorem begin_spec (t : PC w g ft al S) (hr : IdRow w rp rc refs) (hl : refs.length ≤ 4096) {r : Bool} (hR : r = true ↔ Right (askM S (newY to op field tn ts value refs now) 1))
    (hK : AftC w g ft al (beginS S r to op field tn ts value refs now).1 (.tuple #[.int .u64 (beginS S r to op field tn ts value refs now).2.1, .int .i64 (beginS S r to op field tn ts value refs now).2.2]) Q) :
    CallR Try.prog 14 #[.pointer (some (at0 g 0)), .int .i64 to, .int .i64 op, .int .i64 field, .agg #[.int .i64 tn, .int .u64 ts], .int .u64 value, .slice rp refs.length rc, .int .u64 now] w Q := by
  apply X14.sound
  unfold X14.f
  simp only [optP_some]
  refine newB fun g1 w2 b1 f2 h1 => ld_int (b1.cat 0 _ rfl) (ld_int (b1.cat 1 _ rfl) (twin_spec (y := newY to op field tn ts value refs now) (sp := none) (sc := 0) (hr.keep' f2) Own.nil hl (by show ([] : List (Int × Int)).length ≤ 4096; simp) fun rp' rc' sp' sc' w6 r6 s6 f6 n6 m6 => ?_))
  refine ⟨_, _, _, _, _, _, _, _, _, _, _, _, _, _, _, _, _, _, _, rfl, newB fun gx w23 bx f23 hx => stAllB (vs := ((newY to op field tn ts value refs now).cl rp' rc' sp' sc').cells) bx rfl fun w24 b24 f24 => ?_⟩
  have z2 := f2.size
  have z6 := f6.size
  have l1 := b1.lt
  have l6 := r6.lt
  have ls6 := s6.lt
  have F6 := f2.tr f6
  have F24 : Fr [] w w24 := (F6.tr f23).loc f24 (by omega)
  have t24 := t.keep' F24
  have b1' := ((b1.keep' (f6.tr f23)).off1 (by omega) f24)
  have n6' : ∀ k ∈ fbl rp', w.heap.size ≤ k ∧ k ≠ gx := fun k hk => by have := n6 k hk; have := l6 k hk; omega
  have m6' : ∀ k ∈ fbl sp', w.heap.size ≤ k ∧ k ≠ gx := fun k hk => by have := m6 k hk; have := ls6 k hk; omega
  have r24 := IdRow.off (r6.keep' f23) (fun hm => (n6' _ hm).2 rfl) f24
  have s24 := IdRow.off (s6.keep' f23) (fun hm => (m6' _ hm).2 rfl) f24
  have hxal : gx ∉ al := fun hm => by have := t.lt gx hm; omega
  have hft : ∀ k ∈ ft, k < w.heap.size := fun k hk => t.lt k (t.sub k hk)
  unfold beginS at hK
  have bad : (to > S.c.nodes ∨ r = false ∨ (noneB tn ts = false ∧ tn ≠ to)) → ∀ {w2 : World}, Fr [] w24 w2 → X14.j0 Q (some (at0 g 0)) to (at0 gx 0) true w2 := fun hb w2 f2 => by
    rw [if_pos hb] at hK
    unfold X14.j0
    exact bc_bool (fun _ => hK.same t (F24.tr f2)) (fun e => by cases e)
  refine ld_int (b1'.cat 0 _ rfl) (ld_int (b1'.cat 1 _ rfl) ⟨isS26, ld_int (t24.cfg0 0 _ rfl) (bc_dec (fun hn => bad (.inl hn) (Fr.refl _)) (fun hn => ?_))⟩)
  refine ld_Cl (s := (newY to op field tn ts value refs now).cl rp' rc' sp' sc') b24.cat (asks_spec t24 r24 hl fun rq cq w45 r45 f45 n45 => ⟨_, _, _, _, _, _, _, _, _, _, _, _, _, _, _, _, _, _, _, _, _, _, _, rfl, ?_⟩)
  have hmm : MM w45 (askM S (newY to op field tn ts value refs now) 1) rq cq none 0 := ⟨r45.cells, r45.le, fun h => by subst h; exact r45.none_c.2.1, by show refs.length * 16 ≤ _; omega, fun j u hj => by simp [askM] at hj, by simp [askM], fun _ => rfl, by simp [askM]⟩
  refine Right_spec hmm fun b w66 hb f66 => ⟨_, rfl, ?_⟩
  have F66 := f45.tr f66
  have t66 := t24.keep' F66
  have b166 := b1'.keep' F66
  refine bc_bool (fun e => bad (.inr (.inl ?_)) F66) (fun e => ?_)
  · cases r with
    | false => rfl
    | true => rw [hb.2 (hR.1 rfl)] at e; cases e
  have hrt : Right (askM S (newY to op field tn ts value refs now) 1) := hb.1 (by simpa using e)
  have hrr : r = true := hR.2 hrt
  have ht := right_to hrt
  have ho : otherB S to = true := by
    unfold otherB
    have h3 : S.node ≠ to := ht.2.2
    rw [if_pos (show to ≥ 1 from ht.1), if_pos (show to ≤ S.c.nodes by omega)]
    simp
    exact fun h => h3 h.symm
  have good : ¬ (to > S.c.nodes ∨ r = false ∨ (noneB tn ts = false ∧ tn ≠ to)) → X14.j0 Q (some (at0 g 0)) to (at0 gx 0) false w66 := fun hg => by
    rw [if_neg hg] at hK
    exact begin_j0b (W := w) (y := newY to op field tn ts value refs now) t66 ho (b24.keep' F66) hxal (r24.keep' F66) (s24.keep' F66) hl (by show ([] : List (Int × Int)).length ≤ 4096; simp) n6' m6' hft (F24.tr F66) (by omega) rfl hK
  have en : ((tn == (0 : Int)) && ((ts == (0 : Int)) && true)) = noneB tn ts := by unfold noneB; simp
  refine bc_bool (fun e2 => ld_int (b166.cat 0 _ rfl) ?_) (fun e2 => ?_)
  · rw [en] at e2
    by_cases h3 : tn = to
    · rw [show (tn != to) = false by simp [h3]]
      refine good ?_
      rintro (h | h | h)
      · exact hn h
      · rw [hrr] at h; cases h
      · exact h.2 h3
    · rw [show (tn != to) = true by simp [h3]]
      exact bad (.inr (.inr ⟨by simpa using e2, h3⟩)) F66
  · rw [en] at e2
    refine good ?_
    rintro (h | h | h)
    · exact hn h
    · rw [hrr] at h; cases h
    · rw [h.1] at e2; cases e2
end
end Go.Proofs.YtdgoalhnkegbmaaX
