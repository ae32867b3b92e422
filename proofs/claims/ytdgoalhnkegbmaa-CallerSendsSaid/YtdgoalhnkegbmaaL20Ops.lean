/- The caller's calls: copies, requests, floors. -/
import Derived.Test.YtdgoalhnkegbmaaL20Base
namespace Go.Proofs.YtdgoalhnkegbmaaX
open Go.RowKit
set_option linter.unusedVariables false
set_option linter.unusedSimpArgs false
set_option maxRecDepth 100000
theorem ld_Mg {w : World} {p : Addr} {m : Msg} {rp lp : Option Addr} {rc lc : Nat} {K : Int → Int → Int → Int → Int → Int → Int → Int → Int → Int → Option Addr → Nat → Nat → Int → Int → Int → Int → Int → Int → Int → Option Addr → Nat → Nat → Prop} (h : At w p (m.cells rp rc lp lc))
    (hk : K m.kind m.frm m.to m.call m.floor m.op m.field m.item m.tn m.ts rp m.refs.length rc m.value m.code m.seq m.voucher m.at_ m.dist m.stamp lp m.list.length lc) :
    ldI .i64 w (p.add 0) fun x0 => ldI .i64 w (p.add 1) fun x1 => ldI .i64 w (p.add 2) fun x2 => ldI .u64 w (p.add 3) fun x3 => ldI .u64 w (p.add 4) fun x4 => ldI .i64 w (p.add 5) fun x5 => ldI .i64 w (p.add 6) fun x6 => ldI .i64 w (p.add 7) fun x7 => ldI .i64 w (p.add 8) fun x8 => ldI .u64 w (p.add 9) fun x9 => ldSl w (p.add 10) fun x10p x10n x10c => ldI .u64 w (p.add 11) fun x11 => ldI .i64 w (p.add 12) fun x12 => ldI .u64 w (p.add 13) fun x13 => ldI .i64 w (p.add 14) fun x14 => ldI .u64 w (p.add 15) fun x15 => ldI .i64 w (p.add 16) fun x16 => ldI .u64 w (p.add 17) fun x17 => ldSl w (p.add 18) fun x18p x18n x18c => K x0 x1 x2 x3 x4 x5 x6 x7 x8 x9 x10p x10n x10c x11 x12 x13 x14 x15 x16 x17 x18p x18n x18c := (ld_int (h 0 _ rfl) (ld_int (h 1 _ rfl) (ld_int (h 2 _ rfl) (ld_int (h 3 _ rfl) (ld_int (h 4 _ rfl) (ld_int (h 5 _ rfl) (ld_int (h 6 _ rfl) (ld_int (h 7 _ rfl) (ld_int (h 8 _ rfl) (ld_int (h 9 _ rfl) (ld_sl (h 10 _ rfl) (ld_int (h 11 _ rfl) (ld_int (h 12 _ rfl) (ld_int (h 13 _ rfl) (ld_int (h 14 _ rfl) (ld_int (h 15 _ rfl) (ld_int (h 16 _ rfl) (ld_int (h 17 _ rfl) (ld_sl (h 18 _ rfl) hk)))))))))))))))))))
def askM (S : Cs) (y : Cp) (fl : Int) : Msg := ⟨1, S.node, y.to, y.num, fl, y.op, y.field, 0, y.tn, y.ts, y.refs, y.value, 0, 0, 0, 0, 0, 0, []⟩
abbrev mZ : Msg := ⟨0, 0, 0, 0, 0, 0, 0, 0, 0, 0, [], 0, 0, 0, 0, 0, 0, 0, []⟩
section
variable {w w' W : World} {Q : Value → World → Prop} {g gs g5 : Nat} {ft al ft' al' F : List Nat} {S S' : Cs} {k to num now fl : Int} {x : Cl} {y : Cp} {l : List (Int × Int)} {rp sp : Option Addr} {rc sc : Nat}
theorem copyIds {K : Option Addr → Nat → Nat → World → Prop} (hr : IdRow w rp rc l) (hl : l.length ≤ 100000) (b : Blk w g5 [] 26)
    (hK : ∀ p c w', IdRow w' p c l → (∀ k ∈ fbl p, k = g5 ∨ w.heap.size ≤ k) → Fr [g5] w w' → K p l.length c w') :
    RunR Try.prog (Builtin.append_ #[27, 27] 27 #[.slice (some (at0 g5 0)) 0 0, .slice rp l.length rc]) w fun v w' => ∃ (p : Option Addr) (n c : Nat), v = .slice p n c ∧ K p n c w' := by
  have o : Own 26 2 w (some (at0 g5 0)) 0 0 [] := own_blk b rfl (Nat.le_refl _) (by simp [maxLen]) rfl
  refine app_own rowT27 o hr.cells (by rw [hr.len]) (fun h => by subst h; exact hr.none_c.2.1) (idc_one l) (by simp only [maxLen]; omega) (by omega) ?_
  intro p c w2 o2 f2 e2
  rw [Nat.zero_add, List.nil_append] at o2
  rw [Nat.zero_add]
  exact ⟨p, _, c, rfl, hK p c w2 o2 (fun k hk => by
    rcases e2 k hk with h | h
    · exact .inl (by simpa [fbl, at0] using h)
    · exact .inr h) (f2.mono fun x hx => by simpa [fbl, at0] using hx)⟩
theorem IdRow.off (r : IdRow w rp rc l) {x : Nat} (hx : x ∉ fbl rp) (f : Fr [x] w w') : IdRow w' rp rc l := r.keep f (fun k hk hm => hx (by simp at hm; rwa [← hm]))
theorem twin_spec (hr : IdRow w rp rc y.refs) (hs : IdRow w sp sc y.result) (l1 : y.refs.length ≤ 4096) (l2 : y.result.length ≤ 4096)
    (hQ : ∀ rp' rc' sp' sc' w', IdRow w' rp' rc' y.refs → IdRow w' sp' sc' y.result → Fr [] w w' → (∀ k ∈ fbl rp', w.heap.size ≤ k) → (∀ k ∈ fbl sp', w.heap.size ≤ k) → Q (y.cl rp' rc' sp' sc').val w') :
    CallR Try.prog 29 #[(y.cl rp rc sp sc).val] w Q := by
  apply X29.sound
  unfold X29.f
  refine newB fun g1 w2 b1 f2 h1 => newB fun g3 w4 b3 f4 h3 => newB fun g5 w6 b5 f6 h5 => ?_
  have b1 : Blk w2 g1 (y.cl rp rc sp sc).cells 44 := b1
  have F6 := (f2.tr f4).tr f6
  have z2 := f2.size
  have z4 := f4.size
  have z6 := f6.size
  have l1' := b1.lt
  have l3' := b3.lt
  have b16 := b1.keep' (f4.tr f6)
  refine ld_sl (b16.cat 6 _ rfl) (copyIds (hr.keep' F6) (by omega) b5 fun rp' rc' w9 r9 n9 f9 => ?_)
  have b19 := b16.off1 (by omega) f9
  have b39 := (b3.keep' f6).off1 (by omega) f9
  have F9 := F6.loc f9 (by omega)
  have z9 := f9.size
  have nr : ∀ k ∈ fbl rp', w.heap.size ≤ k ∧ k ≠ g1 ∧ k ≠ g3 := fun k hk => by
    have := n9 k hk
    omega
  refine stB b19 (by rw [Cl.len]; omega) fun w11 b111 f11 => ?_
  have b111 : Blk w11 g1 (y.cl rp' rc' sp sc).cells 44 := b111
  have F11 := F9.loc f11 h1
  have b311 := b39.off1 (by omega) f11
  have r11 := IdRow.off r9 (fun hm => (nr _ hm).2.1 rfl) f11
  have z11 := f11.size
  refine newB fun g12 w13 b12 f13 h12 => ?_
  have F13 := F11.tr f13
  have b113 := b111.keep' f13
  have hs13 := hs.keep' F13
  refine ld_sl (b113.cat 10 _ rfl) (copyIds hs13 (by omega) b12 fun sp' sc' w16 s16 n16 f16 => ?_)
  have z13 := f13.size
  have F16 := F13.loc f16 (by omega)
  have b116 := b113.off1 (by omega) f16
  have b316 := (b311.keep' f13).off1 (by omega) f16
  have l9 := r9.lt
  have r16 := IdRow.off (r11.keep' f13) (fun hm => by have := l9 g12 hm; omega) f16
  have ns : ∀ k ∈ fbl sp', w.heap.size ≤ k ∧ k ≠ g1 ∧ k ≠ g3 := fun k hk => by
    have := n16 k hk
    omega
  refine stB b116 (by rw [Cl.len]; omega) fun w18 b118 f18 => ?_
  have b118 : Blk w18 g1 (y.cl rp' rc' sp' sc').cells 44 := b118
  have F18 := F16.loc f18 h1
  have b318 := b316.off1 (by omega) f18
  have r18 := IdRow.off r16 (fun hm => (nr _ hm).2.1 rfl) f18
  have s18 := IdRow.off s16 (fun hm => (ns _ hm).2.1 rfl) f18
  refine ld_Cl (s := y.cl rp' rc' sp' sc') b118.cat (stAllB (vs := (y.cl rp' rc' sp' sc').cells) b318 rfl fun w34 b34 f34 => ld_Cl (s := y.cl rp' rc' sp' sc') b34.cat ?_)
  exact hQ rp' rc' sp' sc' w34 (IdRow.off r18 (fun hm => (nr _ hm).2.2 rfl) f34) (IdRow.off s18 (fun hm => (ns _ hm).2.2 rfl) f34) (F18.loc f34 (by omega)) (fun k hk => (nr k hk).1) (fun k hk => (ns k hk).1)
theorem asks_spec (t : PC w g ft al S) (hr : IdRow w rp rc y.refs) (l1 : y.refs.length ≤ 4096)
    (hQ : ∀ rp' rc' w', IdRow w' rp' rc' y.refs → Fr [] w w' → (∀ k ∈ fbl rp', w.heap.size ≤ k) → Q (msgV (askM S y fl) rp' rc' none 0) w') :
    CallR Try.prog 31 #[.pointer (some (at0 g 0)), (y.cl rp rc sp sc).val, .int .u64 fl] w Q := by
  apply X31.sound
  unfold X31.f
  simp only [optP_some]
  refine newB fun g1 w2 b1 f2 h1 => newB fun g3 w4 b3 f4 h3 => drawn fun w5 f5 _ => ?_
  have b1 : Blk w2 g1 (y.cl rp rc sp sc).cells 44 := b1
  have F5 := (f2.tr f4).tr f5
  have t5 := t.keep' F5
  have c5 := (b1.keep' (f4.tr f5)).cat
  have l1' := b1.lt
  have l3' := b3.lt
  have z2 := f2.size
  have z4 := f4.size
  have z5 := f5.size
  have ids : ∀ {w : World}, At w (at0 g1 0) (y.cl rp rc sp sc).cells → ∀ j u, ([.int .i64 y.tn, .int .u64 y.ts] : List Value)[j]? = some u → w.cell? (((at0 g1 0).add 4).add j) = some u := fun b j u hj => by
    refine b.sub 4 j ?_
    match j, hj with
    | 0, hj => exact hj
    | 1, hj => exact hj
  refine ld_int t5.node (ld_int (c5 0 _ rfl) (ld_int (c5 1 _ rfl) (ld_int (c5 2 _ rfl) (ld_int (c5 3 _ rfl) (ld_int (c5.sub 4 0 rfl) (ld_int (c5.sub 4 1 rfl) (ld_int (c5 7 _ rfl) (newB fun g15 w16 b15 f16 h15 => ?_))))))))
  have b16 := b1.keep' (f4.tr (f5.tr f16))
  have c16 := b16.cat
  have t16 := t5.keep' f16
  refine ⟨⟨c5 7 _ rfl, c16 7 _ rfl⟩, ⟨ids c5, ids c16⟩, ⟨c5 3 _ rfl, c16 3 _ rfl⟩, ⟨c5 2 _ rfl, c16 2 _ rfl⟩, ⟨c5 1 _ rfl, c16 1 _ rfl⟩, ⟨c5 0 _ rfl, c16 0 _ rfl⟩, ⟨t5.node, t16.node⟩, ?_⟩
  have F16 := F5.tr f16
  have l15 := b15.lt
  refine ld_sl (c16 6 _ rfl) ⟨⟨c5 6 _ rfl, c16 6 _ rfl⟩, copyIds (hr.keep' F16) (by omega) b15 fun rp' rc' w19 r19 n19 f19 => ?_⟩
  have b19 := b16.off1 (by omega) f19
  have c19 := b19.cat
  have t19 := t16.off (fun hm => by have := t.lt _ hm; omega) f19
  refine ⟨⟨c16 7 _ rfl, c19 7 _ rfl⟩, ⟨ids c16, ids c19⟩, ⟨c16 3 _ rfl, c19 3 _ rfl⟩, ⟨c16 2 _ rfl, c19 2 _ rfl⟩, ⟨c16 1 _ rfl, c19 1 _ rfl⟩, ⟨c16 0 _ rfl, c19 0 _ rfl⟩, ⟨t16.node, t19.node⟩, ?_⟩
  have F19 := F16.loc f19 (by omega)
  have b319 := (b3.keep' (f5.tr f16)).off1 (by omega) f19
  have z16 := f16.size
  have nr : ∀ k ∈ fbl rp', w.heap.size ≤ k ∧ k ≠ g3 := fun k hk => by
    have := n19 k hk
    omega
  refine stAllB (vs := (askM S y fl).cells rp' rc' none 0) b319 rfl fun w21 b21 f21 => ld_Mg (m := askM S y fl) (rp := rp') (rc := rc') (lp := none) (lc := 0) b21.cat ?_
  exact hQ rp' rc' w21 (IdRow.off r19 (fun hm => (nr _ hm).2 rfl) f21) (F19.loc f21 (by omega)) (fun k hk => (nr k hk).1)
/-- a node's latest number, as it lies -/
theorem PCa.latest {lp : Option Addr} {lc gt : Nat} {rt : List Nat} {lm : List (Int × Cl)} (t : PCa w g ft al S lp lc gt rt lm) (h : otherB S to = true) : 0 ≤ to ∧ to < (S.latest.length : Int) ∧ ∃ a, lp = some a ∧ w.cell? (a.add (to.toNat * 1)) = some (.int .u64 (latestOf S to)) := by
  have hl := t.ll
  have h2 : 1 ≤ to ∧ to ≤ S.c.nodes := by
    unfold otherB at h
    by_cases a1 : to ≥ 1
    · rw [if_pos a1] at h
      by_cases a2 : to ≤ S.c.nodes
      · exact ⟨a1, a2⟩
      · rw [if_neg a2] at h; cases h
    · rw [if_neg a1] at h; cases h
  have hlt : to.toNat < S.latest.length := by omega
  obtain ⟨a, ha, hc⟩ := t.lat.cells to.toNat (.int .u64 S.latest[to.toNat]) (by rw [List.getElem?_map, List.getElem?_eq_getElem hlt]; rfl)
  refine ⟨by omega, by omega, a, ha, ?_⟩
  rw [Nat.mul_one, hc]
  unfold latestOf
  rw [List.getElem?_eq_getElem hlt]
  rfl
theorem floor_spec (t : PC w g ft al S) (hQ : ∀ w', Fr [] w w' → Q (.int .u64 (floorC S to)) w') : CallR Try.prog 20 #[.pointer (some (at0 g 0)), .int .i64 to] w Q := by
  apply X20.sound
  unfold X20.f
  simp only [optP_some]
  unfold floorC at hQ
  refine other_spec t ⟨_, rfl, bc_bool (fun e => ?_) (fun e => ?_)⟩
  · rw [if_pos (by simpa using e)] at hQ
    exact hQ w (Fr.refl _)
  have ho : otherB S to = true := by simpa using e
  rw [if_neg (by simp [ho])] at hQ
  refine drawn fun w4 f4 _ => ?_
  obtain ⟨lp, lc, gt, rt, lm, t'⟩ := t.keep' f4
  refine ld_ptr (t'.blk.cat 25 _ rfl) (key_spec fun w8 f8 => ⟨_, rfl, ⟨t'.blk.cat 25 _ rfl, (t'.blk.keep' f8).cat 25 _ rfl⟩, ?_⟩)
  have t8 := t'.keep' f8
  obtain ⟨h0, h1, a, ha, hc⟩ := t8.latest ho
  have F8 := f4.tr f8
  have hnx := next_keys t8.rel.keys (keyOf to 0)
  refine next_CB t8.tab ⟨_, _, rfl, ?_⟩
  rw [hnx]
  cases hn : next ilt S.l (keyOf to 0) with
  | none =>
    rw [hn] at hQ
    refine bc_bool (fun _ => ld_sl (t8.blk.cat 24 _ rfl) ⟨⟨h0, h1⟩, opt_some ha (ld_int hc (hQ w8 F8))⟩) (fun e => by cases e)
  | some kk =>
    rw [hn] at hQ
    simp only at hQ
    refine bc_bool (fun e => by cases e) (fun _ => ⟨by omega, bc_ne (fun hh => ?_) (fun hh => ?_)⟩)
    · rw [if_pos (show IntKind.wrap .i64 (iShr .u64 kk 56) ≠ to from hh)] at hQ
      exact ld_sl (t8.blk.cat 24 _ rfl) ⟨⟨h0, h1⟩, opt_some ha (ld_int hc (hQ w8 F8))⟩
    · rw [if_neg (fun hn => hn (show IntKind.wrap .i64 (iShr .u64 kk 56) = to from hh))] at hQ
      exact hQ w8 F8
end
end Go.Proofs.YtdgoalhnkegbmaaX
