/- What the claim needs of the calculus and of the walks, part 7: L20SameR L20Same L20Plays. -/
import Derived.Test.YtdgoalhnkegbmaaGreatRows
import Derived.Test.YtdgoalhnkegbmaaGreatC6
namespace Go.Proofs.YtdgoalhnkegbmaaGreatX
open Go.RowKit
set_option linter.unusedVariables false
set_option linter.unusedSimpArgs false
set_option maxRecDepth 100000
section
variable {w w' W W0 W1 : World} {Q : Value → World → Prop} {g h gs gx gz gm gt1 g1 g3 : Nat} {ft al ft' al' fr ar F : List Nat} {S S' : Cs} {k to num now fl e : Int} {x z : Cl} {y : Cp} {refs A B l : List (Int × Int)} {rp sp p q : Option Addr} {rc sc c d : Nat} {m : Msg} {v : Int × Int}
theorem nz_none {v : Int × Int} {b : Bool} (h : b = true ↔ noID v) : nzI v = !b := by
  unfold noID at h
  unfold nzI noneB
  by_cases h1 : v.1 = 0
  · by_cases h2 : v.2 = 0
    · rw [h.2 ⟨h1, h2⟩]; simp [h1, h2]
    · have : b = false := by
        cases b with
        | false => rfl
        | true => exact absurd (h.1 rfl).2 h2
      rw [this]; simp [h2]
  · have : b = false := by
      cases b with
      | false => rfl
      | true => exact absurd (h.1 rfl).1 h1
    rw [this]; simp [h1]
theorem some_l0 {op0 : Option Addr} (hn : A.length + l.length ≤ 50000000) (hQ : ∀ op oc w', IdRow w' op oc (A ++ l.filter nzI) → (∀ k ∈ fbl op, k ∈ fbl op0 ∨ W1.heap.size ≤ k) → Fr (fbl op0) W1 w' → Q (.slice op (A ++ l.filter nzI).length oc) w') (hc : Cells W1 rp (l.flatMap idc)) (hd : ∀ k ∈ fbl rp, k ∉ fbl op0) :
    ∀ (f i : Nat) (w : World) (op : Option Addr) (oc : Nat) (acc : List (Int × Int)), l.length - i < f → i ≤ l.length → acc = A ++ (l.take i).filter nzI → IdRow w op oc acc → (∀ k ∈ fbl op, k ∈ fbl op0 ∨ W1.heap.size ≤ k) → Fr (fbl op0) W1 w →
      X64.l0 Q f op acc.length oc rp l.length rc (i : Int) w
  | 0, i, w, op, oc, acc, hf, _, _, _, _, _ => absurd hf (Nat.not_lt_zero _)
  | f + 1, i, w, op, oc, acc, hf, hi, ha, ho, hw, F => by
    rw [X64.l0]
    have hal : acc.length ≤ A.length + i := by
      have := List.length_filter_le nzI (l.take i)
      rw [ha, List.length_append]
      rw [List.length_take] at this
      omega
    refine bc_dec (fun h1 => ⟨⟨by omega, by omega⟩, ?_⟩) (fun h1 => ?_)
    · have hlt : i < l.length := by omega
      have ex := List.getElem?_eq_getElem hlt
      generalize l[i] = v at ex
      have hr : Cells w rp (l.flatMap idc) := hc.keep F hd
      obtain ⟨pa, hpa, a0, a1⟩ := ids_at hr ex
      have hi64 : IntKind.wrap .i64 ((i : Int) + 1) = ((i + 1 : Nat) : Int) := by rw [i64w ((i : Int) + 1) (by omega) (by omega)]; omega
      rw [hi64]
      refine opt_some hpa (ld_int a0 (ld_int a1 (none_spec (fun b w5 hb f5 => ⟨_, rfl, bc_bool (fun h => ?_) (fun h => ?_)⟩))))
      · have hv : nzI v = true := by rw [nz_none hb]; exact h
        obtain ⟨pa', hpa', a0', a1'⟩ := ids_at (hr.keep' f5) ex
        refine ⟨⟨by omega, by omega⟩, opt_some hpa' (ld_int a0' (ld_int a1' (newB fun g11 w12 b12 f12 h12 => ?_)))⟩
        have b12 : Blk w12 g11 (idc v) 37 := b12
        have F12 := f5.tr f12
        have o12 := ho.keep' F12
        have z12 := F12.size
        refine app_own rowT38 o12 (cells_one b12) (by rfl) some_ne (by intro u hu; simp at hu; rcases hu with rfl | rfl <;> rfl) (by simp only [maxLen]; omega) (by omega) ?_
        intro p' c' w' o' f' e'
        refine ⟨p', _, c', rfl, ?_⟩
        have zf := f'.size
        have zF := F.size
        have eacc : (acc ++ [v]).length = acc.length + 1 := by simp
        have := some_l0 hn hQ hc hd f (i + 1) w' p' c' (acc ++ [v]) (by omega) (by omega) (by rw [take_one ex, List.filter_append, ← List.append_assoc, ← ha]; simp [List.filter, hv])
          (by unfold IdRow; rw [eacc, List.flatMap_append]; simpa using o')
          (fun k hk => by
            rcases e' k hk with h' | h'
            · exact hw k h'
            · exact .inr (by omega))
          ((F.tr F12.any).trans f' (fun k hk => hw k hk))
        rw [eacc] at this
        exact this
      · have hv : nzI v = false := by rw [nz_none hb]; exact h
        exact some_l0 hn hQ hc hd f (i + 1) w5 op oc acc (by omega) (by omega) (by rw [take_one ex, List.filter_append, ← List.append_assoc, ← ha]; simp [List.filter, hv]) (ho.keep' f5) hw (F.tr f5.any)
    · have hi' : i = l.length := by omega
      subst hi'
      rw [List.take_length] at ha
      subst ha
      exact hQ op oc w ho hw F
theorem some_spec {op : Option Addr} {oc : Nat} (hn : A.length + l.length ≤ 50000000) (hr : Cells w rp (l.flatMap idc)) (hd : ∀ k ∈ fbl rp, k ∉ fbl op) (ho : IdRow w op oc A)
    (hQ : ∀ op' oc' w', IdRow w' op' oc' (A ++ l.filter nzI) → (∀ k ∈ fbl op', k ∈ fbl op ∨ w.heap.size ≤ k) → Fr (fbl op) w w' → Q (.slice op' (A ++ l.filter nzI).length oc') w') :
    CallR Tryz.prog 64 #[.slice op A.length oc, .slice rp l.length rc] w Q := by
  apply X64.sound
  unfold X64.f
  exact ⟨l.length + 1, some_l0 hn hQ hr hd _ 0 w op oc A (by omega) (by omega) (by simp) ho (fun k hk => .inl hk) (Fr.refl _)⟩
theorem rheld_l0 {n : Nat} (t : PR W1 h fr ar S) (hn : S.l.length = n) (hs : ∀ f ∈ S.l, f.2.refs.length ≤ 1048576 ∧ f.2.result.length ≤ 1048576) (hn2 : n ≤ 16)
    (hQ : ∀ p c w', IdRow w' p c (heldL S.l) → (∀ k ∈ fbl p, W1.heap.size ≤ k) → Fr [] W1 w' → Q (.slice p (heldL S.l).length c) w') :
    ∀ (f i : Nat) (w : World) (op : Option Addr) (oc : Nat), n - i < f → i ≤ n → IdRow w op oc (heldL (S.l.take i)) → (∀ k ∈ fbl op, W1.heap.size ≤ k) → Fr [] W1 w →
      X30.l0 Q f (some (at0 h 0)) op (heldL (S.l.take i)).length oc (i : Int) w
  | 0, i, w, op, oc, hf, _, _, _, _ => absurd hf (Nat.not_lt_zero _)
  | f + 1, i, w, op, oc, hf, hi, ho, hw, F => by
    rw [X30.l0]
    simp only [optP_some]
    have tw := t.keep' F
    obtain ⟨pk, pv, ck, cv, lm, tp⟩ := tw
    have hlen := tp.rel.len
    have hv : w.cell? (((at0 h 0).add 89).add 2) = some (.slice pv lm.length cv) := by rw [add_at, Nat.zero_add]; exact tp.tab.v2
    refine ld_sl hv (bc_dec (fun h1 => ld_sl hv ⟨⟨by omega, by omega⟩, ?_⟩) (fun h1 => ?_))
    · have hlt : i < lm.length := by omega
      have hg := List.getElem?_eq_getElem hlt
      generalize lm[i] = a at hg
      obtain ⟨e, ef, ek, cr⟩ := tp.rel.el i a hg
      obtain ⟨q1, q2⟩ := hs e (List.mem_of_getElem? ef)
      obtain ⟨pa, ha, hx⟩ := own_at vc_len_CB tp.tab.vs rfl hg
      have hle : (heldL (S.l.take i)).length ≤ 16777232 := by
        have h0 := heldL_le (L := S.l.take i) fun f hf => hs f (List.mem_of_mem_take hf)
        rw [List.length_take] at h0
        exact Nat.le_trans h0 (Nat.le_trans (Nat.mul_le_mul_right 1048577 (show min i S.l.length ≤ 16 by omega)) (by decide))
      have htk : heldL (S.l.take (i + 1)) = heldL (S.l.take i) ++ heldOf e.2 := by
        unfold heldL
        rw [take_one ef, List.flatMap_append]
        simp
      obtain ⟨rp, rc, sp, sc, hxe, r1, r2, n1, n2⟩ := cr.ex
      have hx' : At w (pa.add (Int.toNat (i : Int) * 15)) (e.2.cl rp rc sp sc).cells := by
        rw [Int.toNat_natCast, ← hxe]
        exact hx
      refine opt_some ha (ld_Cl (s := e.2.cl rp rc sp sc) hx' (newB fun g17 w18 b18 f18 h18 => stAllB (vs := (e.2.cl rp rc sp sc).cells) b18 rfl fun w19 b19 f19 => ?_))
      have z0 := F.size
      have z18 := f18.size
      have lo := ho.lt
      have F0 : Fr [] w w19 := f18.loc f19 h18
      have z19 := F0.size
      have F19 : Fr [] W1 w19 := F.tr F0
      have o19 : IdRow w19 op oc (heldL (S.l.take i)) := ho.keep' F0
      have r19 := r1.keep' F0
      have s19 := r2.keep' F0
      have l1 := r1.lt
      have l2 := r2.lt
      have tl := t.lt
      have hi64 : IntKind.wrap .i64 ((i : Int) + 1) = ((i + 1 : Nat) : Int) := by rw [i64w ((i : Int) + 1) (by omega) (by omega)]; omega
      have ta : ∀ k ∈ ar, k < W1.heap.size := t.lt
      have rest : ∀ op' oc' w', IdRow w' op' oc' (heldL (S.l.take i) ++ heldOf e.2) → (∀ k ∈ fbl op', W1.heap.size ≤ k) → Fr [] W1 w' → X30.l0 Q f (some (at0 h 0)) op' (heldL (S.l.take i) ++ heldOf e.2).length oc' (IntKind.wrap .i64 ((i : Int) + 1)) w' := by
        intro op' oc' w' o' n' f'
        rw [hi64, ← htk]
        exact rheld_l0 t hn hs hn2 hQ f (i + 1) w' op' oc' (by omega) (by omega) (by rw [htk]; exact o') n' f'
      have op_ : openB e.2 = true → ∀ {w2 : World}, Fr [] w19 w2 → newK w2 #[.int .i64 e.2.tn, .int .u64 e.2.ts] 37 fun g27 w28 => CallR Tryz.prog 64 #[.slice op (heldL (S.l.take i)).length oc, .slice (some g27) 1 1] w28 fun v29 w30 => ∃ (y31p : Option Addr) (y31n y31c : Nat), v29 = .slice y31p y31n y31c ∧ ldSl w30 ((at0 g17 0).add 6) fun x32p x32n x32c => CallR Tryz.prog 64 #[.slice y31p y31n y31c, .slice x32p x32n x32c] w30 fun v33 w34 => ∃ (y35p : Option Addr) (y35n y35c : Nat), v33 = .slice y35p y35n y35c ∧ X30.l0 Q f (some (at0 h 0)) y35p y35n y35c (IntKind.wrap .i64 ((i : Int) + 1)) w34 := by
        intro hop w2 fw
        refine newB fun g27 w28 b27 f27 h27 => ?_
        have b27 : Blk w28 g27 (idc (e.2.tn, e.2.ts)) 37 := b27
        have F28 := fw.tr f27
        have z28 := F28.size
        have zw := fw.size
        have o28 := o19.keep' F28
        have lo28 := o28.lt
        have b1728 := b19.keep' F28
        have z2728 := f27.size
        have hd27 : ∀ k ∈ fbl (some (at0 g27 0)), k ∉ fbl op := fun k hk hm => by
          simp [fbl, at0] at hk
          rw [hk] at hm
          have := lo g27 hm
          omega
        refine some_spec (A := heldL (S.l.take i)) (l := [(e.2.tn, e.2.ts)]) (by simp; omega) (cells_one b27) hd27 o28 fun op2 oc2 w30 r30 n30 f30 => ⟨_, _, _, rfl, ?_⟩
        have b30 := b1728.keep f30 (fun hm => by have := lo g17 hm; omega)
        have z30 := f30.size
        have hlf := List.length_filter_le nzI [(e.2.tn, e.2.ts)]
        have F30 : Fr [] W1 w30 := (F19.tr F28).trans f30 (fun k hk => .inr (hw k hk))
        have r30' : IdRow w30 rp rc e.2.refs := (r19.keep' F28).keep f30 (fun k hk hm => by have := hw k hm; have := ta k (n1 k hk).2; omega)
        refine ld_sl (a := rp) (n := e.2.refs.length) (c := rc) (b30.cat 6 _ rfl) (some_spec (A := heldL (S.l.take i) ++ [(e.2.tn, e.2.ts)].filter nzI) (l := e.2.refs) (by rw [List.length_append]; simp at hlf ⊢; omega) r30'.cells (fun k hk hm => ?_) r30 fun op3 oc3 w34 r34 n34 f34 => ⟨_, _, _, rfl, ?_⟩)
        · have := ta k (n1 k hk).2
          have zz := (F19.tr F28).size
          rcases n30 k hm with h' | h'
          · have := hw k h'; omega
          · omega
        · have eh : heldL (S.l.take i) ++ heldOf e.2 = heldL (S.l.take i) ++ [(e.2.tn, e.2.ts)].filter nzI ++ e.2.refs.filter nzI := by
            have : heldOf e.2 = ((e.2.tn, e.2.ts) :: e.2.refs).filter nzI := by unfold heldOf; rw [hop]; rfl
            rw [this, List.append_assoc, ← List.filter_append]
            rfl
          have nw2 : ∀ k ∈ fbl op2, W1.heap.size ≤ k := fun k hk => by
            have zz := (F19.tr F28).size
            rcases n30 k hk with h' | h'
            · exact hw k h'
            · omega
          rw [← eh] at r34 ⊢
          refine rest op3 oc3 w34 r34 (fun k hk => ?_) (F30.trans f34 (fun k hk => .inr (nw2 k hk)))
          have zz := F30.size
          rcases n34 k hk with h' | h'
          · exact nw2 k h'
          · omega
      have cl_ : openB e.2 = false → ∀ {w2 : World}, Fr [] w19 w2 → ldSl w2 ((at0 g17 0).add 10) fun x48p x48n x48c => CallR Tryz.prog 64 #[.slice op (heldL (S.l.take i)).length oc, .slice x48p x48n x48c] w2 fun v49 w50 => ∃ (y51p : Option Addr) (y51n y51c : Nat), v49 = .slice y51p y51n y51c ∧ X30.l0 Q f (some (at0 h 0)) y51p y51n y51c (IntKind.wrap .i64 ((i : Int) + 1)) w50 := by
        intro hcl w2 fw
        refine ld_sl (a := sp) (n := e.2.result.length) (c := sc) ((b19.keep' fw).cat 10 _ rfl) (some_spec (A := heldL (S.l.take i)) (l := e.2.result) (by omega) (s19.keep' fw).cells (fun k hk hm => by have := hw k hm; have := ta k (n2 k hk).2; omega) (o19.keep' fw) fun op3 oc3 w34 r34 n34 f34 => ⟨_, _, _, rfl, ?_⟩)
        have eh : heldOf e.2 = e.2.result.filter nzI := by unfold heldOf; rw [hcl]; rfl
        rw [← eh] at r34 ⊢
        refine rest op3 oc3 w34 r34 (fun k hk => ?_) ((F19.tr fw).trans f34 (fun k hk => .inr (hw k hk)))
        have zz := (F19.tr fw).size
        rcases n34 k hk with h' | h'
        · exact hw k h'
        · omega
      refine ld_int (b19.cat 8 _ rfl) (bc_eq (fun h1 => ld_int (b19.cat.sub 4 0 rfl) (ld_int (b19.cat.sub 4 1 rfl) (op_ ?_ (Fr.refl _)))) (fun h1 => ld_int (b19.cat 8 _ rfl) (bc_eq (fun h4 => ld_int (b19.cat.sub 4 0 rfl) (ld_int (b19.cat.sub 4 1 rfl) (op_ ?_ (Fr.refl _)))) (fun h4 => cl_ ?_ (Fr.refl _)))))
      · unfold openB; exact decide_eq_true (.inl h1)
      · unfold openB; exact decide_eq_true (.inr h4)
      · unfold openB; exact decide_eq_false (fun hh => hh.elim h1 h4)
    · have hi' : i = S.l.length := by omega
      rw [hi', List.take_length] at ho ⊢
      exact hQ op oc w ho hw F
theorem rheld_spec (t : PR w h fr ar S) (hs : ∀ f ∈ S.l, f.2.refs.length ≤ 1048576 ∧ f.2.result.length ≤ 1048576) (hl : S.l.length ≤ 16) (hQ : ∀ p c w', IdRow w' p c (heldC S) → (∀ k ∈ fbl p, w.heap.size ≤ k) → Fr [] w w' → Q (.slice p (heldC S).length c) w') : CallR Tryz.prog 30 #[.pointer (some (at0 h 0))] w Q := by
  apply X30.sound
  unfold X30.f
  exact ⟨S.l.length + 1, rheld_l0 t rfl hs hl hQ _ 0 w none 0 (by omega) (by omega) Own.nil (by simp [fbl]) (Fr.refl _)⟩
theorem among_l0 (hc : Cells W rp (l.flatMap idc)) (hl : l.length ≤ 9000000000000) (bv : Blk W g1 (idc v) 37) (hQ : ∀ w', Fr [] W w' → Q (.bool (decide (v ∈ l))) w') :
    ∀ (f i : Nat) (w : World), l.length - i < f → i ≤ l.length → (∀ z ∈ l.take i, z ≠ v) → Fr [] W w → X66.l0 Q f rp l.length rc (at0 g1 0) (i : Int) w
  | 0, i, w, hf, _, _, _ => absurd hf (Nat.not_lt_zero _)
  | f + 1, i, w, hf, hi, hno, F => by
    rw [X66.l0]
    refine bc_dec (fun h1 => drawn fun w1 f1 _ => ⟨⟨by omega, by omega⟩, ?_⟩) (fun h1 => ?_)
    · have hlt : i < l.length := by omega
      have ex := List.getElem?_eq_getElem hlt
      generalize l[i] = u at ex
      have F1 := F.tr f1
      obtain ⟨pa, hpa, a0, a1⟩ := ids_at (hc.keep' F1) ex
      refine opt_some hpa (ld_int a0 (ld_int a1 (ld_int ((bv.keep' F1).cat 0 _ rfl) (ld_int ((bv.keep' F1).cat 1 _ rfl) ⟨isS37, bc_bool (fun h2 => ?_) (fun h2 => ?_)⟩))))
      · have e2 : u = v := by
          simp at h2
          exact Prod.ext h2.1 h2.2
        have := hQ w1 F1
        rw [decide_eq_true (show v ∈ l by rw [← e2]; exact List.mem_of_getElem? ex)] at this
        exact this
      · rw [i64w ((i : Int) + 1) (by omega) (by omega), show (i : Int) + 1 = ((i + 1 : Nat) : Int) by omega]
        refine among_l0 hc hl bv hQ f (i + 1) w1 (by omega) (by omega) (fun z hz => ?_) F1
        rw [take_one ex] at hz
        rcases List.mem_append.1 hz with hz | hz
        · exact hno z hz
        · simp at hz
          subst hz
          intro e
          subst e
          simp at h2
    · have hi' : i = l.length := by omega
      rw [hi', List.take_length] at hno
      have := hQ w F
      rw [decide_eq_false (fun hm => hno v hm rfl)] at this
      exact this
theorem among_spec (hc : Cells w rp (l.flatMap idc)) (hl : l.length ≤ 9000000000000) (hQ : ∀ w', Fr [] w w' → Q (.bool (decide (v ∈ l))) w') : CallR Tryz.prog 66 #[.slice rp l.length rc, .agg #[.int .i64 v.1, .int .u64 v.2]] w Q := by
  apply X66.sound
  unfold X66.f
  refine newB fun g1 w2 b1 f2 h1 => ⟨l.length + 1, ?_⟩
  have b1 : Blk w2 g1 (idc v) 37 := b1
  exact among_l0 (hc.keep' f2) hl b1 (fun w' f' => hQ w' (f2.tr f')) _ 0 w2 (by omega) (by omega) (by simp) (Fr.refl _)
/-- one call pins it -/
def pinE (v : Int × Int) (y : Cp) : Bool := openB y && y.refs.any fun z => decide (z = v) && !noneB z.1 z.2
theorem pinE_eq {v : Int × Int} {y : Cp} : pinE v y = (openB y && (nzI v && decide (v ∈ y.refs))) := by
  unfold pinE
  congr 1
  rw [Bool.eq_iff_iff]
  simp only [List.any_eq_true, Bool.and_eq_true, decide_eq_true_eq]
  constructor
  · rintro ⟨z, hz, rfl, hn⟩
    exact ⟨hn, hz⟩
  · rintro ⟨hn, hm⟩
    exact ⟨v, hm, rfl, hn⟩
theorem rpin_l0 (t : PR W h fr ar S) (hs : Szd 8796093022208 S) (hl : S.l.length ≤ 100000) (bv : Blk W g1 (idc v) 37) (hQ : ∀ w', Fr [] W w' → Q (.bool (pinnedC S v)) w') :
    ∀ (f i : Nat) (w : World), S.l.length - i < f → i ≤ S.l.length → (∀ e ∈ S.l.take i, pinE v e.2 = false) → Fr [] W w → X34.l0 Q f (some (at0 h 0)) (at0 g1 0) (i : Int) w
  | 0, i, w, hf, _, _, _ => absurd hf (Nat.not_lt_zero _)
  | f + 1, i, w, hf, hi, hno, F => by
    rw [X34.l0]
    simp only [optP_some]
    have tw := t.keep' F
    obtain ⟨pk, pv, ck, cv, lm, tp⟩ := tw
    have hlen := tp.rel.len
    have hv : w.cell? (((at0 h 0).add 89).add 2) = some (.slice pv lm.length cv) := by rw [add_at, Nat.zero_add]; exact tp.tab.v2
    refine ld_sl hv (bc_dec (fun h1 => ld_sl hv ⟨⟨by omega, by omega⟩, ?_⟩) (fun h1 => ?_))
    · have hlt : i < lm.length := by omega
      have hg := List.getElem?_eq_getElem hlt
      generalize lm[i] = a at hg
      obtain ⟨e, ef, ek, cr⟩ := tp.rel.el i a hg
      obtain ⟨q1, q2⟩ := hs e (List.mem_of_getElem? ef)
      obtain ⟨pa, ha, hx⟩ := own_at vc_len_CB tp.tab.vs rfl hg
      obtain ⟨rp, rc, sp, sc, hxe, r1, r2, n1, n2⟩ := cr.ex
      have hx' : At w (pa.add (Int.toNat (i : Int) * 15)) (e.2.cl rp rc sp sc).cells := by
        rw [Int.toNat_natCast, ← hxe]
        exact hx
      have hi64 : IntKind.wrap .i64 ((i : Int) + 1) = ((i + 1 : Nat) : Int) := by rw [i64w ((i : Int) + 1) (by omega) (by omega)]; omega
      refine opt_some ha (ld_Cl (s := e.2.cl rp rc sp sc) hx' (newB fun g17 w18 b18 f18 h18 => stAllB (vs := (e.2.cl rp rc sp sc).cells) b18 rfl fun w19 b19 f19 => ?_))
      rw [hi64]
      have F19 : Fr [] w w19 := f18.loc f19 h18
      have go : pinE v e.2 = false → ∀ {w' : World}, Fr [] w19 w' → X34.l0 Q f (some (at0 h 0)) (at0 g1 0) ((i + 1 : Nat) : Int) w' := fun hp w' f' => by
        refine rpin_l0 t hs hl bv hQ f (i + 1) w' (by omega) (by omega) (fun e' he => ?_) ((F.tr F19).tr f')
        rw [take_one ef] at he
        rcases List.mem_append.1 he with he | he
        · exact hno e' he
        · simp at he
          subst he
          exact hp
      have op_ : openB e.2 = true → ∀ {w2 : World}, Fr [] w19 w2 → ldI .i64 w2 ((at0 g1 0).add 0) fun x25 => ldI .u64 w2 ((at0 g1 0).add 1) fun x26 => CallR Tryz.prog 61 #[.agg #[.int .i64 x25, .int .u64 x26]] w2 fun v27 w28 => ∃ (y29 : Bool), v27 = .bool y29 ∧ bcase (!y29) (ldSl w28 ((at0 g17 0).add 6) fun x30p x30n x30c => ldI .i64 w28 ((at0 g1 0).add 0) fun x31 => ldI .u64 w28 ((at0 g1 0).add 1) fun x32 => CallR Tryz.prog 66 #[.slice x30p x30n x30c, .agg #[.int .i64 x31, .int .u64 x32]] w28 fun v33 w34 => ∃ (y35 : Bool), v33 = .bool y35 ∧ bcase y35 (Q (.bool true) w34) (X34.l0 Q f (some (at0 h 0)) (at0 g1 0) ((i + 1 : Nat) : Int) w34)) (X34.l0 Q f (some (at0 h 0)) (at0 g1 0) ((i + 1 : Nat) : Int) w28) := by
        intro hop w2 f2
        have bv2 := bv.keep' ((F.tr F19).tr f2)
        refine ld_int (bv2.cat 0 _ rfl) (ld_int (bv2.cat 1 _ rfl) (none_spec fun b w28 hb f28 => ⟨_, rfl, bc_bool (fun hn => ?_) (fun hn => ?_)⟩))
        · have hv2 : nzI v = true := by rw [nz_none hb]; exact hn
          have F28 := f2.tr f28
          refine ld_sl (a := rp) (n := e.2.refs.length) (c := rc) ((b19.keep' F28).cat 6 _ rfl) (ld_int ((bv2.keep' f28).cat 0 _ rfl) (ld_int ((bv2.keep' f28).cat 1 _ rfl) (among_spec (v := v) ((r1.keep' F19).keep' F28).cells (by omega) fun w34 f34 => ⟨_, rfl, bc_bool (fun hm => ?_) (fun hm => ?_)⟩)))
          · have hp : pinnedC S v = true := by
              unfold pinnedC
              refine List.any_eq_true.2 ⟨e, List.mem_of_getElem? ef, ?_⟩
              have : pinE v e.2 = true := by rw [pinE_eq, hop, hv2, hm]; rfl
              exact this
            have := hQ w34 ((F.tr F19).tr (F28.tr f34))
            rw [hp] at this
            exact this
          · exact go (by rw [pinE_eq, hm]; simp) (F28.tr f34)
        · have hv2 : nzI v = false := by rw [nz_none hb]; exact hn
          exact go (by rw [pinE_eq, hv2]; simp) (f2.tr f28)
      refine ld_int (b19.cat 8 _ rfl) (bc_eq (fun h1 => op_ ?_ (Fr.refl _)) (fun h1 => ld_int (b19.cat 8 _ rfl) (bc_eq (fun h4 => op_ ?_ (Fr.refl _)) (fun h4 => go ?_ (Fr.refl _)))))
      · unfold openB; exact decide_eq_true (.inl h1)
      · unfold openB; exact decide_eq_true (.inr h4)
      · rw [pinE_eq]
        have : openB e.2 = false := by unfold openB; exact decide_eq_false (fun hh => hh.elim h1 h4)
        rw [this]
        rfl
    · have hi' : i = S.l.length := by omega
      rw [hi', List.take_length] at hno
      have hp : pinnedC S v = false := by
        refine Bool.eq_false_iff.2 fun ht => ?_
        unfold pinnedC at ht
        obtain ⟨e, he, h2⟩ := List.any_eq_true.1 ht
        have := hno e he
        unfold pinE at this
        rw [this] at h2
        cases h2
      have := hQ w F
      rw [hp] at this
      exact this
theorem rpinned_spec (t : PR w h fr ar S) (hs : Szd 8796093022208 S) (hl : S.l.length ≤ 100000) (hQ : ∀ w', Fr [] w w' → Q (.bool (pinnedC S v)) w') : CallR Tryz.prog 34 #[.pointer (some (at0 h 0)), .agg #[.int .i64 v.1, .int .u64 v.2]] w Q := by
  apply X34.sound
  unfold X34.f
  refine newB fun g1 w2 b1 f2 h1 => ⟨S.l.length + 1, ?_⟩
  have b1 : Blk w2 g1 (idc v) 37 := b1
  exact rpin_l0 (t.keep' f2) hs hl b1 (fun w' f' => hQ w' (f2.tr f')) _ 0 w2 (by omega) (by omega) (by simp) (Fr.refl _)
end
end Go.Proofs.YtdgoalhnkegbmaaGreatX
namespace Go.Proofs.YtdgoalhnkegbmaaGreatX
open Go.RowKit
set_option linter.unusedVariables false
set_option linter.unusedSimpArgs false
set_option maxRecDepth 100000
section
variable {W : Base} {w w' w2 W0 W1 : World} {Q : Value → World → Prop} {g h gs gx gz gm gt1 g1 g3 : Nat} {ft al ft' al' fr ar F : List Nat} {S S' R : Cs} {k to num now fl e : Int} {x z : Cl} {y : Cp} {ap : Option Addr} {ac : Nat} {xs : List Cl}
theorem PR.vals2 (t : PR w h fr ar R) : ∃ (pv : Option Addr) (cv : Nat), w.cell? (((at0 h 0).add 89).add 2) = some (.slice pv R.l.length cv) ∧ ∀ i e, R.l[i]? = some e → ∃ (a : Addr) (x : Cl), pv = some a ∧ At w (a.add (i * 15)) x.cells ∧ CRel w fr ar x e.2 := by
  obtain ⟨pk, pv, ck, cv, lm, t⟩ := t
  refine ⟨pv, cv, by rw [add_at, ← t.rel.len]; exact t.tab.v2, fun i e he => ?_⟩
  have hlt : i < lm.length := by rw [t.rel.len]; exact (List.getElem?_eq_some_iff.1 he).1
  have hg := List.getElem?_eq_getElem hlt
  generalize lm[i] = f at hg
  obtain ⟨e', h1, h2, h3⟩ := t.rel.el i f hg
  rw [he] at h1
  injection h1 with h1
  subst h1
  obtain ⟨a, ha, hat⟩ := own_at vc_len_CB t.tab.vs rfl hg
  exact ⟨a, f.2, ha, hat, h3⟩
theorem hcalls_l0 {L : List (Int × Cp)} {pv : Option Addr} {cv : Nat} (oa : Own 50 15 W1 ap L.length ac (xs.flatMap Cl.cells)) (ar' : Ar W0 W1 xs L) (hel : ∀ i e, L[i]? = some e → ∃ (a : Addr) (x : Cl), pv = some a ∧ At W1 (a.add (i * 15)) x.cells ∧ CRel W1 fr ar x e.2) (hL : L.length ≤ 100000) (hQ : ∀ w', Fr [] W1 w' → Q (.bool true) w') :
    ∀ (f i : Nat) (w : World), L.length - i < f → i ≤ L.length → Fr [] W1 w → X27.l0 Q f ap L.length ac pv L.length cv (i : Int) w
  | 0, i, w, hf, _, _ => absurd hf (Nat.not_lt_zero _)
  | f + 1, i, w, hf, hi, F => by
    rw [X27.l0]
    refine bc_dec (fun h1 => drawn fun w1 f1 _ => ⟨⟨by omega, by omega⟩, ?_⟩) (fun h1 => hQ w F)
    have F1 := F.tr f1
    have hlt : i < L.length := by omega
    have ef := List.getElem?_eq_getElem hlt
    generalize L[i] = e at ef
    obtain ⟨x, ex, ca, q1, q2⟩ := ar'.at_ ef
    obtain ⟨a, ha, hx⟩ := own_at (fun _ => Cl.len _) oa ar'.len ex
    obtain ⟨a2, x2, ha2, hat2, cr⟩ := hel i e ef
    obtain ⟨rp, rc, sp, sc, hxe, r1, r2, n1, n2⟩ := ca
    obtain ⟨rp', rc', sp', sc', hxe', r1', r2', _, _⟩ := cr.ex
    subst hxe
    subst hxe'
    have hx' : At w1 (a.add (Int.toNat (i : Int) * 15)) (e.2.cl rp rc sp sc).cells := by rw [Int.toNat_natCast]; exact hx.keep' F1
    have hx2' : At w1 (a2.add (Int.toNat (i : Int) * 15)) (e.2.cl rp' rc' sp' sc').cells := by rw [Int.toNat_natCast]; exact hat2.keep' F1
    refine opt_some ha (ld_Cl (s := e.2.cl rp rc sp sc) hx' ⟨⟨by omega, by omega⟩, opt_some ha2 (ld_Cl (s := e.2.cl rp' rc' sp' sc') hx2' (hcall_spec (r1.keep' F1) (r2.keep' F1) (r1'.keep' F1) (r2'.keep' F1) q1 q2 fun w35 f35 => ⟨_, rfl, bc_bool (fun hh => by cases hh) (fun _ => ?_)⟩))⟩)
    rw [i64w ((i : Int) + 1) (by omega) (by omega), show (i : Int) + 1 = ((i + 1 : Nat) : Int) by omega]
    exact hcalls_l0 oa ar' hel hL hQ f (i + 1) w35 (by omega) (by omega) (F1.tr f35)
/-- what is asked of both: which is pinned -/
theorem same_l2 (q : P2 W w g ft al S h fr ar S) {b1 : Option Addr → Option Addr → Int → World → Prop} {n : Int} (hB : ∀ w', P2 W w' g ft al S h fr ar S → b1 (some (at0 g 0)) (some (at0 h 0)) (IntKind.wrap .i64 (n + 1)) w') :
    ∀ (f s : Nat) (w : World), 6 - s < f → s ≤ 6 → P2 W w g ft al S h fr ar S → X9.l2 Q b1 f (some (at0 g 0)) (some (at0 h 0)) n (s : Int) w
  | 0, s, w, hf, _, _ => absurd hf (Nat.not_lt_zero _)
  | f + 1, s, w, hf, hs, q0 => by
    rw [X9.l2]
    refine bc_dec (fun h1 => newB fun g1 w2 b f2 h1' => stAllB (vs := idc (n, (s : Int))) b rfl fun w3 b3 f3 => drawn fun w4 f4 _ => ?_) (fun h1 => hB w q0)
    have q4 := (q0.keep' (f2.loc f3 h1')).keep' f4
    have b4 := b3.keep' f4
    have hz := q4.t.size
    refine ld_int (b4.cat 0 _ rfl) (ld_int (b4.cat 1 _ rfl) (pinned_spec (tn := n) (ts := (s : Int)) q4.t fun w8 f8 => ⟨_, rfl, ?_⟩))
    have q8 := q4.keep' f8
    refine ld_int ((b4.keep' f8).cat 0 _ rfl) (ld_int ((b4.keep' f8).cat 1 _ rfl) ⟨⟨b4.cat, (b4.keep' f8).cat⟩, rpinned_spec (v := (n, (s : Int))) q8.r (szd_top q8.t) (by omega) fun w13 f13 => ⟨_, rfl, bc_bool (fun hh => by simp at hh) (fun _ => ?_)⟩⟩)
    rw [u64w ((s : Int) + 1) (by omega) (by omega), show (s : Int) + 1 = ((s + 1 : Nat) : Int) by omega]
    exact same_l2 q hB f (s + 1) w13 (by omega) (by omega) (q8.keep' f13)
theorem same_l1 (hQ : ∀ w', P2 W w' g ft al S h fr ar S → Q (.bool true) w') :
    ∀ (f n : Nat) (w : World), 4 - n < f → n ≤ 4 → P2 W w g ft al S h fr ar S → X9.l1 Q f (some (at0 g 0)) (some (at0 h 0)) (n : Int) w
  | 0, n, w, hf, _, _ => absurd hf (Nat.not_lt_zero _)
  | f + 1, n, w, hf, hn, q => by
    rw [X9.l1]
    refine bc_dec (fun h1 => ⟨7, same_l2 q (fun w' q' => ?_) _ 0 w (by omega) (by omega) q⟩) (fun h1 => hQ w q)
    rw [i64w ((n : Int) + 1) (by omega) (by omega), show (n : Int) + 1 = ((n + 1 : Nat) : Int) by omega]
    exact same_l1 hQ f (n + 1) w' (by omega) (by omega) q'
theorem same_l0 (i : SI S) (hQ : ∀ w', P2 W w' g ft al S h fr ar S → Q (.bool true) w') :
    ∀ (f : Nat) (n : Int) (w : World), S.c.nodes + 2 - n < f → -1 ≤ n → n ≤ S.c.nodes + 2 → P2 W w g ft al S h fr ar S → X9.l0 Q f (some (at0 g 0)) (some (at0 h 0)) n w
  | 0, n, w, hf, _, hn, _ => by omega
  | f + 1, n, w, hf, h0, hn, q => by
    have hnd := i.nodes
    rw [X9.l0]
    simp only [optP_some]
    refine ld_int (q.r.cfg0 0 _ rfl) ?_
    rw [i64w (S.c.nodes + 1) (by omega) (by omega)]
    refine bc_dec (fun h1 => floor_spec q.t fun w4 f4 => ⟨_, rfl, ?_⟩) (fun h1 => ⟨5, same_l1 hQ _ 0 w (by omega) (by omega) q⟩)
    have q4 := q.keep' f4
    refine rfloor_spec q4.r i fun w7 f7 => ⟨_, rfl, bc_ne (fun hh => absurd rfl hh) (fun _ => ?_)⟩
    rw [i64w (n + 1) (by omega) (by omega)]
    exact same_l0 i hQ f (n + 1) w7 (by omega) (by omega) (by omega) (q4.keep' f7)
theorem samet_spec (q : P2 W w g ft al S h fr ar S) (i : SI S) (hs : Szd 1048576 S) (hc : S.c.calls ≤ 16) (hQ : ∀ w', P2 W w' g ft al S h fr ar S → Q (.bool true) w') :
    CallR Tryz.prog 9 #[.pointer (some (at0 g 0)), .pointer (some (at0 h 0))] w Q := by
  apply X9.sound
  unfold X9.f
  simp only [optP_some]
  have hz := q.t.size
  have hnd := i.nodes
  refine drawn fun w1 f1 _ => ?_
  have q1 := q.keep' f1
  refine all_spec q1.t fun ap ac xs w3 oa ar3 f3 n3 => ⟨_, _, _, rfl, ?_⟩
  have q3 := q1.keep' f3
  obtain ⟨pv, cv, hv, _⟩ := q1.r.vals2
  obtain ⟨pv3, cv3, hv3, hel⟩ := q3.r.vals2
  have he : pv3 = pv ∧ cv3 = cv := by
    have := f3.cell' hv
    rw [hv3] at this
    injection this with this
    injection this with h1 _ h2
    exact ⟨h1, h2⟩
  obtain ⟨rfl, rfl⟩ := he
  refine ld_sl hv3 ⟨⟨hv, hv3⟩, ?_⟩
  apply X27.sound
  unfold X27.f
  refine bc_ne (fun hh => absurd rfl hh) (fun _ => ⟨S.l.length + 1, hcalls_l0 oa ar3 hel (by omega) (fun w8 f8 => ?_) _ 0 w3 (by omega) (by omega) (Fr.refl _)⟩)
  have q8 := q3.keep' f8
  refine ⟨_, rfl, bc_bool (fun hh => by cases hh) (fun _ => held_spec q8.t hs hc fun p c w11 r11 n11 f11 => ⟨_, _, _, rfl, ?_⟩)⟩
  have q11 := q8.keep' f11
  refine rheld_spec q11.r hs (by omega) fun p2 c2 w14 r14 n14 f14 => ⟨_, _, _, rfl, ?_⟩
  have hlen : (heldC S).length ≤ 9000000000000 := by
    have h0 : (heldC S).length ≤ S.l.length * 1048577 := heldL_le hs
    exact Nat.le_trans h0 (Nat.le_trans (Nat.mul_le_mul_right 1048577 (show S.l.length ≤ 16 by omega)) (by decide))
  refine ids_spec (r11.keep' f14).cells r14.cells hlen fun w17 f17 => ⟨_, rfl, bc_bool (fun hh => by simp at hh) (fun _ => ?_)⟩
  have q17 := (q11.keep' f14).keep' f17
  unfold X9.j3
  exact ⟨(S.c.nodes + 4).toNat, same_l0 i hQ _ (-1) w17 (by omega) (by omega) (by omega) q17⟩
theorem samet_specT (q : P2 W w g ft al S h fr ar S) (i : SI S) (hs : Szd 1048576 S) (hc : S.c.calls ≤ 16) (hQ : ∀ w', P2 W w' g ft al S h fr ar S → T2 w al ar w' al ar → Q (.bool true) w') :
    CallR Tryz.prog 9 #[.pointer (some (at0 g 0)), .pointer (some (at0 h 0))] w Q :=
  samet_spec q.rebase i hs hc fun w' q' => hQ w' (q.unbase q') q'.t2
end
end Go.Proofs.YtdgoalhnkegbmaaGreatX
namespace Go.Proofs.YtdgoalhnkegbmaaGreatX
open Go.RowKit
set_option linter.unusedVariables false
set_option linter.unusedSimpArgs false
set_option maxRecDepth 100000
theorem szd_new {B : Nat} {c : Cfg} {node last : Int} : Szd B (newC c node last) := fun e he => by cases he
section
variable {V : World} {w w' w2 : World} {Q : Value → World → Prop} {g h gc : Nat} {ft al ft' al' fr ar fr' ar' : List Nat} {S S' : Cs} {ip : Option Addr} {cap : Nat} {l : List Sq} {C : Cfg} {now : Int}
theorem plays_l0 (hst : StepsAt V ip l) (hB : ∀ x ∈ l, x.refs.length ≤ 1048576) (hcc : C.calls ≤ 16) (hp : 0 ≤ C.patience ∧ C.patience ≤ 4294967295) (hQ : ∀ w', Fr [] V w' → Q (.bool true) w') :
    ∀ (f i : Nat) (w : World) (ft al fr ar : List Nat) (S : Cs) (now : Int), 200 - i < f → i ≤ 200 → P2 ⟨V, []⟩ w g ft al S h fr ar S → SI S → S.c = C → Szd 1048576 S → OB ⟨V, []⟩ w al ar gc C.cells 27 →
      X3.l0 Q f ip l.length cap (at0 gc 0) (some (at0 g 0)) (some (at0 h 0)) now (i : Int) w
  | 0, i, w, ft, al, fr, ar, S, now, hf, _, _, _, _, _, _ => absurd hf (Nat.not_lt_zero _)
  | f + 1, i, w, ft, al, fr, ar, S, now, hf, hi, q, I, hc, hs, bc => by
    rw [X3.l0]
    refine bc_dec (fun h1 => bc_dec (fun h2 => ?_) (fun h2 => hQ w q.F)) (fun h1 => hQ w q.F)
    have hlt : i < l.length := by omega
    have hg := List.getElem?_eq_getElem hlt
    generalize l[i] = x at hg
    obtain ⟨a, rp, rc, ha, hat, hcl, h0, hle⟩ := hst.at_ i x hg
    have hxm := List.mem_of_getElem? hg
    have hwf := hst.wf x hxm
    have ei : IntKind.wrap .i64 ((i : Int) + 1) = ((i + 1 : Nat) : Int) := by rw [i64w ((i : Int) + 1) (by omega) (by omega)]; omega
    unfold X3.j1
    rw [ei]
    refine drawn fun w1 f1 _ => ⟨⟨by omega, by omega⟩, opt_some ha ?_⟩
    rw [Int.toNat_natCast]
    have q1 := q.keep' f1
    have bc1 := bc.keep' f1
    have hat1 : At w1 (a.add (i * 10)) (x.cells rp rc) := hat.keep' q1.F
    have et : IntKind.wrap .u64 (Int.tdiv C.patience 3) = C.patience / 3 := by rw [Int.tdiv_eq_ediv_of_nonneg hp.1]; exact u64w _ (by omega) (by omega)
    refine ld_int (hat1 5 _ rfl) (ld_int (bc1.b.cat 16 _ rfl) ?_)
    rw [show IntKind.wrap .u64 (Int.tdiv C.patience 3) = C.patience / 3 from et]
    refine ⟨by omega, by rw [u64w _ (by omega) (by omega)]; omega, ⟨by omega, by omega⟩, opt_some ha ?_⟩
    have hlen := hwf.len
    refine ld_Sq (x := x) (p := rp) (c := rc) hat1 (play_specT hwf q1 I (RowIn.of_arg q1 hcl h0 hle (by omega)) fun S2 ft2 al2 fr2 ar2 w2 q2 T2' pt => ⟨_, rfl, bc_bool (fun hh => by cases hh) (fun _ => ?_)⟩)
    have hc2 : S2.c = C := pt.c.trans hc
    have hs2 : Szd 1048576 S2 := pt.sz 1048576 (by omega) (hB x hxm) hs
    have bc2 := T2'.ob bc1
    refine samet_specT q2 pt.i hs2 (by rw [hc2]; exact hcc) fun w3 q3 T3 => ⟨_, rfl, bc_bool (fun hh => by cases hh) (fun _ => ?_)⟩
    exact plays_l0 hst hB hcc hp hQ f (i + 1) w3 ft2 al2 fr2 ar2 S2 _ (by omega) (by omega) q3 pt.i hc2 hs2 (T3.ob bc2)
theorem lenD_le {H : Type} (d : DataW H) : lenD d ≤ Go.Proofs.YtdgoalhnkegbmaaGreat.Rows.uptoBulk d := by
  have all : ∀ (ds : List (DataW H)), ds.length ≤ Go.Proofs.YtdgoalhnkegbmaaGreat.Rows.uptoBulkAll ds := by
    intro ds
    induction ds with
    | nil => simp [Go.Proofs.YtdgoalhnkegbmaaGreat.Rows.uptoBulkAll]
    | cons d ds ih =>
      have hd : 1 ≤ Go.Proofs.YtdgoalhnkegbmaaGreat.Rows.uptoBulk d := by
        cases d with
        | lit v => cases v <;> simp [Go.Proofs.YtdgoalhnkegbmaaGreat.Rows.uptoBulk]
        | _ => simp [Go.Proofs.YtdgoalhnkegbmaaGreat.Rows.uptoBulk]
      simp only [List.length_cons, Go.Proofs.YtdgoalhnkegbmaaGreat.Rows.uptoBulkAll]
      omega
  cases d with
  | slice elems rest =>
    have := all elems
    show elems.length ≤ _
    simp only [Go.Proofs.YtdgoalhnkegbmaaGreat.Rows.uptoBulk]
    omega
  | _ => exact Nat.zero_le _
theorem bulk_mem {H : Type} {d : DataW H} : ∀ {ds : List (DataW H)}, d ∈ ds → Go.Proofs.YtdgoalhnkegbmaaGreat.Rows.uptoBulk d ≤ Go.Proofs.YtdgoalhnkegbmaaGreat.Rows.uptoBulkAll ds
  | [], hm => by cases hm
  | a :: l, hm => by
    simp only [Go.Proofs.YtdgoalhnkegbmaaGreat.Rows.uptoBulkAll]
    rcases List.mem_cons.1 hm with rfl | hm
    · omega
    · have := bulk_mem hm
      omega
theorem refsD_le {H : Type} (d : DataW H) : refsD d ≤ Go.Proofs.YtdgoalhnkegbmaaGreat.Rows.uptoBulk d := by
  cases d with
  | agg parts =>
    show (match parts[7]? with
      | some d => lenD d
      | none => 0) ≤ _
    cases h : parts[7]? with
    | none => exact Nat.zero_le _
    | some d =>
      have h1 := bulk_mem (List.mem_of_getElem? h)
      have h2 := lenD_le d
      simp only [Go.Proofs.YtdgoalhnkegbmaaGreat.Rows.uptoBulk]
      omega
  | _ => exact Nat.zero_le _
theorem callerPlays_row {H : Type} {cs : Array Value} {d d1 d2 d3 : DataW H} (hd : Lies Tryz.prog V 6 24 cs.toList d) (hs : SizedD Tryz.prog 24 d) (node : Int) (_ : (Lit.int .i64 node).wf = true) (last : Int) (hq : (Lit.int .u64 last).wf = true) {ip : Option Addr} {n cap : Nat} (h2 : Lies Tryz.prog V 6 25 [.slice ip n cap] d3) (hs2 : SizedD Tryz.prog 25 d3) (hB : Go.Proofs.YtdgoalhnkegbmaaGreat.Rows.uptoBulkAll ([d, d1, d2, d3] ++ []) ≤ 1048576) :
    CallR Tryz.prog 3 #[.agg cs, .int .i64 node, .int .u64 last, .slice ip n cap] V fun v w' => v = .bool true ∧ Fr [] V w' := by
  obtain ⟨r, rfl, hr⟩ := raw_open hd
  obtain ⟨l, rfl, hst, hlen⟩ := steps_of_lies h2 hs2
  have hlast := (u64b hq).1
  have hB' : ∀ x ∈ l, x.refs.length ≤ 1048576 := hlen 1048576 (fun elems rest he y hy => by
    subst he
    simp only [List.append_nil, List.cons_append, List.nil_append, Go.Proofs.YtdgoalhnkegbmaaGreat.Rows.uptoBulkAll, Go.Proofs.YtdgoalhnkegbmaaGreat.Rows.uptoBulk] at hB
    have h1 := bulk_mem hy
    have h2 := refsD_le y
    omega)
  apply X3.sound
  unfold X3.f
  have cr := conf_rng r
  have dr := (drift_half r).1
  have hpat : 0 ≤ (configOf r).patience ∧ (configOf r).patience ≤ 4294967295 := by
    have h60 := md (n := r.patience) (m := 60) (by omega)
    have h20 := md (n := r.unit) (m := 20) (by omega)
    have := mul_rng (a := 4 + r.unit % 20) (b := 1 + r.patience % 60) (A := 23) (B := 60) (by omega) (by omega) (by omega) (by omega)
    show 0 ≤ (4 + r.unit % 20) * (1 + r.patience % 60) ∧ (4 + r.unit % 20) * (1 + r.patience % 60) ≤ _
    omega
  refine newB fun g1 w2 b f2 _ => ?_
  have b : Blk w2 g1 r.cells 24 := b
  refine ld_Raw (s := r) b.cat (config_spec (r := r) fun w26 f26 => ⟨_, _, _, _, _, _, _, _, _, _, _, _, _, _, _, _, _, _, _, _, _, _, rfl, newB fun gc w50 bc f50 h50 => stAllB (vs := (configOf r).cells) bc rfl fun w51 b51 f51 => ?_⟩)
  have F26 := f2.tr f26
  have z26 := F26.size
  have F51 : Fr [] V w51 := (F26.tr f50).loc f51 (by omega)
  have l51 := b51.lt
  by_cases hok : newOk (configOf r) node last
  · refine ld_Cfg (s := configOf r) b51.cat (newL hok dr fun g ft al w75 p => ⟨_, _, rfl, ?_⟩)
    have b75 := b51.keep' p.F
    refine ld_Cfg (s := configOf r) b75.cat (rnew_spec (fun hn => absurd hok hn) fun _ h w101 pr f101 nr => ⟨_, rfl, known_spec fun w104 f104 => ⟨_, rfl, bc_bool (fun h => by cases h) (fun _ => bc_bool (fun h => by cases h) (fun _ => bc_ne (fun h => absurd rfl h) (fun _ => bc_bool (fun h => by cases h) (fun _ => ?_))))⟩⟩)
    have z75 := p.F.size
    have q := (two_new (p.base F51) f101 pr nr).keep' f104
    have bc104 : OB ⟨V, []⟩ w104 al [h] gc (configOf r).cells 27 := ⟨(b75.keep' f101).keep' f104, fun hm => by have := p.new gc hm; omega, fun hm => by simp at hm; omega, by show V.heap.size ≤ gc; omega⟩
    unfold X3.j2
    exact ld_int (bc104.b.cat 20 _ rfl) ⟨201, plays_l0 (C := configOf r) hst hB' (by omega) hpat (fun w' f' => ⟨rfl, f'⟩) _ 0 w104 ft al [h] [h] _ _ (by omega) (by omega) q (SI.new hok dr hlast) rfl szd_new bc104⟩
  · refine ld_Cfg (s := configOf r) b51.cat (new_spec dr (fun _ w75 f75 => ⟨_, _, rfl, ?_⟩) fun hn => absurd hn hok)
    refine ld_Cfg (s := configOf r) (b51.keep' f75).cat (rnew_spec (fun _ w101 f101 => ⟨_, rfl, known_spec fun w104 f104 => ⟨_, rfl, bc_bool (fun h => by cases h) (fun _ => bc_bool (fun _ => bc_eqt' rfl ?_) (fun h => by cases h))⟩⟩) fun hn => absurd hn hok)
    exact ⟨rfl, F51.tr (f75.tr (f101.tr f104))⟩
end
end Go.Proofs.YtdgoalhnkegbmaaGreatX
