/- Held, Pinned; rows of IDs compared. -/
import Derived.Test.YtdgoalhnkegbmaaL20All
import Derived.Test.YtdgoalhnkegbmaaXT3
namespace Go.Proofs.YtdgoalhnkegbmaaX
open Go.RowKit
set_option linter.unusedVariables false
set_option linter.unusedSimpArgs false
set_option maxRecDepth 100000
abbrev nzI (x : Int × Int) : Bool := !noneB x.1 x.2
theorem take_one {α : Type} {l : List α} {i : Nat} {x : α} (h : l[i]? = some x) : l.take (i + 1) = l.take i ++ [x] := by
  obtain ⟨hl, rfl⟩ := List.getElem?_eq_some_iff.1 h
  exact List.take_succ_eq_append_getElem hl
theorem ids_at {w : World} {p : Option Addr} {l : List (Int × Int)} (hc : Cells w p (l.flatMap idc)) {i : Nat} {x : Int × Int} (h : l[i]? = some x) : ∃ a, p = some a ∧ w.cell? ((a.add (Int.toNat (i : Int) * 2)).add 0) = some (.int .i64 x.1) ∧ w.cell? ((a.add (Int.toNat (i : Int) * 2)).add 1) = some (.int .u64 x.2) := by
  rw [Int.toNat_natCast]
  obtain ⟨a, ha, h0⟩ := hc (i * 2 + 0) _ (flat_get (Z := 2) (fun _ => rfl) l h (j := 0) rfl)
  obtain ⟨a', ha', h1⟩ := hc (i * 2 + 1) _ (flat_get (Z := 2) (fun _ => rfl) l h (j := 1) rfl)
  rw [ha] at ha'
  injection ha' with ha'
  subst ha'
  exact ⟨a, ha, by rw [add_add]; exact h0, by rw [add_add]; exact h1⟩
section
variable {w w' W W0 W1 : World} {Q : Value → World → Prop} {g gs gx gz gm gt1 g1 g3 : Nat} {ft al ft' al' F : List Nat} {S S' : Cs} {k to num now fl e : Int} {x z : Cl} {y : Cp} {refs A B : List (Int × Int)} {rp sp p q : Option Addr} {rc sc c d : Nat} {m : Msg}
/-- rows of IDs: are they alike -/
theorem ids_l0 (hp : Cells W p (A.flatMap idc)) (hq : Cells W q (B.flatMap idc)) (hl : A.length = B.length) (hn : A.length ≤ 1000000) (hQ : ∀ w', Fr [] W w' → Q (.bool (decide (A = B))) w') :
    ∀ (f i : Nat) (w : World), A.length - i < f → i ≤ A.length → A.take i = B.take i → Fr [] W w → X16.l0 Q f p A.length c q B.length d (i : Int) w
  | 0, i, w, hf, _, _, _ => by omega
  | f + 1, i, w, hf, hi, he, F => by
    rw [X16.l0]
    refine bc_dec (fun h1 => drawn fun w1 f1 _ => ?_) (fun h1 => ?_)
    · have hia : i < A.length := by omega
      have ea := List.getElem?_eq_getElem hia
      have eb := List.getElem?_eq_getElem (hl ▸ hia : i < B.length)
      generalize A[i] = a at ea
      generalize B[i] = b at eb
      have F1 := F.tr f1
      obtain ⟨pa, hpa, a0, a1⟩ := ids_at (hp.keep' F1) ea
      obtain ⟨pb, hpb, b0, b1⟩ := ids_at (hq.keep' F1) eb
      refine ⟨⟨by omega, by omega⟩, opt_some hpa (ld_int a0 (ld_int a1 ⟨⟨by omega, by omega⟩, opt_some hpb (ld_int b0 (ld_int b1 ⟨isS26, bc_bool (fun h => ?_) (fun h => ?_)⟩))⟩))⟩
      · have hne : ¬ A = B := by
          intro hab
          subst hab
          rw [ea] at eb
          injection eb with eb
          subst eb
          simp at h
        have := hQ w1 F1
        rw [decide_eq_false hne] at this
        exact this
      · have hab : a = b := by
          simp at h
          exact Prod.ext h.1 h.2
        rw [i64w ((i : Int) + 1) (by omega) (by omega), show (i : Int) + 1 = ((i + 1 : Nat) : Int) by omega]
        exact ids_l0 hp hq hl hn hQ f (i + 1) w1 (by omega) (by omega) (by rw [take_one ea, take_one eb, he, hab]) F1
    · have hi' : i = A.length := by omega
      have hab : A = B := by
        rw [hi', List.take_length, hl, List.take_length] at he
        exact he
      have := hQ w F
      rw [decide_eq_true hab] at this
      exact this
theorem ids_spec (hp : Cells w p (A.flatMap idc)) (hq : Cells w q (B.flatMap idc)) (hn : A.length ≤ 1000000) (hQ : ∀ w', Fr [] w w' → Q (.bool (decide (A = B))) w') : CallR Try.prog 16 #[.slice p A.length c, .slice q B.length d] w Q := by
  apply X16.sound
  unfold X16.f
  refine bc_ne (fun h => ?_) (fun h => ⟨A.length + 1, ids_l0 hp hq (by omega) hn hQ _ 0 w (by omega) (by omega) rfl (Fr.refl _)⟩)
  have := hQ w (Fr.refl _)
  rw [decide_eq_false (fun he => h (by rw [he]))] at this
  exact this
/-- Held, one call's IDs -/
theorem held_l1 {b0 : Option Addr → Nat → Nat → Option Addr → Nat → Nat → Int → Int → World → Prop} {tp : Option Addr} {tn tc : Nat} {t11 t12 : Int} {l : List (Int × Int)} (hn : A.length + l.length ≤ 500000)
    (hB : ∀ op oc w', IdRow w' op oc (A ++ l.filter nzI) → (∀ k ∈ fbl op, W1.heap.size ≤ k) → Fr [] W1 w' → b0 op (A ++ l.filter nzI).length oc tp tn tc t11 (IntKind.wrap .i64 (t12 + 1)) w') :
    ∀ (f i : Nat) (w : World) (op : Option Addr) (oc : Nat) (acc : List (Int × Int)), l.length - i < f → i ≤ l.length → acc = A ++ (l.take i).filter nzI → IdRow w rp rc l → (∀ k ∈ fbl rp, k ∉ fbl op) → IdRow w op oc acc → (∀ k ∈ fbl op, W1.heap.size ≤ k) → Fr [] W1 w →
    X23.l1 Q b0 f op acc.length oc tp tn tc t11 t12 rp l.length rc (l.length : Int) (i : Int) w
  | 0, i, w, op, oc, acc, hf, _, _, _, _, _, _, _ => by omega
  | f + 1, i, w, op, oc, acc, hf, hi, ha, hr, hd, ho, hw, F => by
    rw [X23.l1]
    have hal : acc.length ≤ A.length + i := by
      have := List.length_filter_le nzI (l.take i)
      rw [ha, List.length_append]
      rw [List.length_take] at this
      omega
    refine bc_dec (fun h1 => ⟨⟨by omega, by omega⟩, ?_⟩) (fun h1 => ?_)
    · have hlt : i < l.length := by omega
      have ex := List.getElem?_eq_getElem hlt
      generalize l[i] = v at ex
      obtain ⟨pa, hpa, a0, a1⟩ := ids_at hr.cells ex
      refine opt_some hpa (ld_int a0 (ld_int a1 (newB fun g4 w5 b5 f5 h5 => stAllB (vs := idc v) b5 rfl fun w6 b6 f6 => ?_)))
      have z0 := F.size
      have z5 := f5.size
      have z6 := f6.size
      have lr := hr.lt
      have lo := ho.lt
      have r6 : IdRow w6 rp rc l := IdRow.off (hr.keep' f5) (fun hm => by have := lr g4 hm; omega) f6
      have o6 : IdRow w6 op oc acc := IdRow.off (ho.keep' f5) (fun hm => by have := lo g4 hm; omega) f6
      have F6 : Fr [] W1 w6 := (F.tr f5).loc f6 (by omega)
      rw [i64w ((i : Int) + 1) (by omega) (by omega), show (i : Int) + 1 = ((i + 1 : Nat) : Int) by omega]
      refine ld_int (b6.cat 0 _ rfl) (ld_int (b6.cat 1 _ rfl) ⟨isS26, bc_bool (fun h => ?_) (fun h => ?_)⟩)
      · have hv : nzI v = true := by
          unfold nzI noneB
          rw [Bool.and_true] at h
          exact h
        refine ld_int (b6.cat 0 _ rfl) (ld_int (b6.cat 1 _ rfl) (newB fun g11 w12 b12 f12 h12 => ?_))
        have b12 : Blk w12 g11 (idc v) 26 := b12
        have r12 := r6.keep' f12
        have o12 := o6.keep' f12
        have lr12 := r12.lt
        refine app_own rowT27 o12 (cells_one b12) (by rfl) some_ne (by intro u hu; simp at hu; rcases hu with rfl | rfl <;> rfl) (by simp only [maxLen]; omega) (by omega) ?_
        intro p' c' w' o' f' e'
        refine ⟨p', _, c', rfl, ?_⟩
        have z12 := f12.size
        have eacc : (acc ++ [v]).length = acc.length + 1 := by simp
        have := held_l1 hn hB f (i + 1) w' p' c' (acc ++ [v]) (by omega) (by omega) (by rw [take_one ex, List.filter_append, ← List.append_assoc, ← ha]; simp [List.filter, hv]) (r12.keep f' hd)
          (fun k hk hm => by
            rcases e' k hm with h' | h'
            · exact hd k hk h'
            · have := lr12 k hk; omega)
          (by unfold IdRow; rw [eacc, List.flatMap_append]; simpa using o')
          (fun k hk => by
            rcases e' k hk with h' | h'
            · exact hw k h'
            · omega)
          ((F6.tr f12).trans f' (fun k hk => .inr (hw k hk)))
        rw [eacc] at this
        exact this
      · have hv : nzI v = false := by
          unfold nzI noneB
          rw [Bool.and_true] at h
          exact h
        exact held_l1 hn hB f (i + 1) w6 op oc acc (by omega) (by omega) (by rw [take_one ex, List.filter_append, ← List.append_assoc, ← ha]; simp [List.filter, hv]) r6 hd o6 hw F6
    · have hi' : i = l.length := by omega
      subst hi'
      rw [List.take_length] at ha
      subst ha
      exact hB op oc w ho hw F
/-- one call of All's answer -/
theorem Ar.at_ {xs : List Cl} {L : List (Int × Cp)} (h : Ar W0 W1 xs L) {i : Nat} {f : Int × Cp} (hi : L[i]? = some f) : ∃ x, xs[i]? = some x ∧ CallA W0 W1 x f.2 ∧ f.2.refs.length ≤ 4096 ∧ f.2.result.length ≤ 4096 := by
  have hl := (List.getElem?_eq_some_iff.1 hi).1
  have hxl : i < xs.length := by rw [h.len]; exact hl
  have hx := List.getElem?_eq_getElem hxl
  generalize xs[i] = x at hx
  obtain ⟨f', h1, h2⟩ := h.el i x hx
  rw [hi] at h1
  injection h1 with h1
  subst h1
  exact ⟨x, hx, h2⟩
theorem heldOf_le {y : Cp} (h1 : y.refs.length ≤ 4096) (h2 : y.result.length ≤ 4096) : (heldOf y).length ≤ 4097 := by
  unfold heldOf
  refine Nat.le_trans (List.length_filter_le _ _) ?_
  split
  · simp; omega
  · omega
def heldL (L : List (Int × Cp)) : List (Int × Int) := L.flatMap fun e => heldOf e.2
theorem heldL_le : ∀ {L : List (Int × Cp)}, (∀ f ∈ L, f.2.refs.length ≤ 4096 ∧ f.2.result.length ≤ 4096) → (heldL L).length ≤ L.length * 4097
  | [], _ => by simp [heldL]
  | e :: L, h => by
    have h1 := heldL_le (L := L) fun f hf => h f (by simp [hf])
    have h2 := h e (by simp)
    have h3 := heldOf_le h2.1 h2.2
    unfold heldL at h1 ⊢
    rw [List.flatMap_cons, List.length_append, List.length_cons, Nat.succ_mul]
    omega
theorem held_l0 {L : List (Int × Cp)} {ap : Option Addr} {ac n : Nat} {xs : List Cl} (hn : L.length = n) (hn2 : n ≤ 16) (oa : Own 44 15 W1 ap n ac (xs.flatMap Cl.cells)) (ar : Ar W0 W1 xs L)
    (hQ : ∀ p c w', IdRow w' p c (heldL L) → (∀ k ∈ fbl p, W1.heap.size ≤ k) → Fr [] W1 w' → Q (.slice p (heldL L).length c) w') :
    ∀ (f i : Nat) (w : World) (op : Option Addr) (oc : Nat), n - i < f → i ≤ n → IdRow w op oc (heldL (L.take i)) → (∀ k ∈ fbl op, W1.heap.size ≤ k) → Fr [] W1 w →
      X23.l0 Q f op (heldL (L.take i)).length oc ap n ac (n : Int) (i : Int) w
  | 0, i, w, op, oc, hf, _, _, _, _ => by omega
  | f + 1, i, w, op, oc, hf, hi, ho, hw, F => by
    rw [X23.l0]
    refine bc_dec (fun h1 => ⟨⟨by omega, by omega⟩, ?_⟩) (fun h1 => ?_)
    · have hlt : i < L.length := by omega
      have ef := List.getElem?_eq_getElem hlt
      generalize L[i] = e at ef
      obtain ⟨x, ex, ca, q1, q2⟩ := ar.at_ ef
      have hxl : xs.length = n := by rw [ar.len, hn]
      obtain ⟨a, ha, hx⟩ := own_at (fun _ => Cl.len _) oa hxl ex
      have hle : (heldL (L.take i)).length ≤ 16 * 4097 := by
        have := heldL_le (L := L.take i) fun f hf => by
          obtain ⟨j, hj⟩ := List.getElem?_of_mem (List.mem_of_mem_take hf)
          obtain ⟨x, _, _, z1, z2⟩ := ar.at_ hj
          exact ⟨z1, z2⟩
        rw [List.length_take] at this
        have : min i L.length * 4097 ≤ 16 * 4097 := Nat.mul_le_mul (by omega) (Nat.le_refl _)
        omega
      have htk : heldL (L.take (i + 1)) = heldL (L.take i) ++ heldOf e.2 := by
        unfold heldL
        rw [take_one ef, List.flatMap_append]
        simp
      have hx' : At w (a.add (Int.toNat (i : Int) * 15)) x.cells := by rw [Int.toNat_natCast]; exact fun j u hu => F.cell' (hx j u hu)
      refine opt_some ha (ld_Cl (s := x) hx' (newB fun g17 w18 b18 f18 h18 => stAllB (vs := x.cells) b18 rfl fun w19 b19 f19 => ?_))
      have z0 := F.size
      have z18 := f18.size
      have lo := ho.lt
      have F19 : Fr [] W1 w19 := (F.tr f18).loc f19 (by omega)
      have o19 : IdRow w19 op oc (heldL (L.take i)) := IdRow.off (ho.keep' f18) (fun hm => by have := lo g17 hm; omega) f19
      obtain ⟨rp, rc, sp, sc, hxe, r1, r2, n1, n2⟩ := ca
      subst hxe
      have l1 := r1.lt
      have l2 := r2.lt
      have hi64 : IntKind.wrap .i64 ((i : Int) + 1) = ((i + 1 : Nat) : Int) := by rw [i64w ((i : Int) + 1) (by omega) (by omega)]; omega
      have rest : ∀ op' oc' w', IdRow w' op' oc' (heldL (L.take i) ++ heldOf e.2) → (∀ k ∈ fbl op', W1.heap.size ≤ k) → Fr [] W1 w' → X23.l0 Q f op' (heldL (L.take i) ++ heldOf e.2).length oc' ap n ac (n : Int) (IntKind.wrap .i64 ((i : Int) + 1)) w' := by
        intro op' oc' w' o' n' f'
        rw [hi64, ← htk]
        exact held_l0 hn hn2 oa ar hQ f (i + 1) w' op' oc' (by omega) (by omega) (by rw [htk]; exact o') n' f'
      refine ld_sl (b19.cat 10 _ rfl) (ld_Cl (s := e.2.cl rp rc sp sc) b19.cat (open_spec fun w37 f37 => ⟨_, rfl, ?_⟩))
      have b37 := b19.keep' f37
      have o37 := o19.keep' f37
      have F37 := F19.tr f37
      have eo : decide ((e.2.cl rp rc sp sc).state = 1 ∨ (e.2.cl rp rc sp sc).state = 4) = openB e.2 := rfl
      rw [eo]
      have hho : ∀ b, openB e.2 = b → heldOf e.2 = (if b then (e.2.tn, e.2.ts) :: e.2.refs else e.2.result).filter nzI := fun b h => by subst h; rfl
      refine bc_bool (fun h => ?_) (fun h => ?_)
      · rw [hho _ h, if_pos rfl] at rest
        have ids : ∀ j u, ([.int .i64 e.2.tn, .int .u64 e.2.ts] : List Value)[j]? = some u → w37.cell? (((at0 g17 0).add 4).add j) = some u := fun j u hj => by
          refine b37.cat.sub 4 j ?_
          match j, hj with
          | 0, hj => exact hj
          | 1, hj => exact hj
        refine ld_int (ids 0 _ rfl) (ld_int (ids 1 _ rfl) (newB fun g41 w42 b41 f42 h41 => ?_))
        have b41 : Blk w42 g41 (idc (e.2.tn, e.2.ts)) 26 := b41
        have og : IdRow w42 (some (at0 g41 0)) 1 [(e.2.tn, e.2.ts)] := by
          unfold IdRow
          exact own_blk b41 rfl (Nat.le_refl _) (by simp [maxLen]) rfl
        have z37 := f37.size
        have z42 := f42.size
        have z19 := f19.size
        have lo37 := o37.lt
        have r42 := r1.keep' (F37.tr f42)
        refine ld_sl (a := rp) (n := e.2.refs.length) (c := rc) ((b37.keep' f42).cat 6 _ rfl) (app_own rowT27 og r42.cells r42.len (fun hh => by subst hh; exact r42.none_c.2.1) (idc_one _) (by simp only [maxLen]; omega) (by omega) ?_)
        intro p' c' w45 o45 f45 e45
        have o45 : IdRow w45 p' c' ((e.2.tn, e.2.ts) :: e.2.refs) := by
          unfold IdRow
          rw [List.length_cons, List.flatMap_cons, Nat.add_comm]
          simpa using o45
        have oo45 : IdRow w45 op oc (heldL (L.take i)) := (o37.keep' f42).keep f45 (fun k hk hm => by
          have := lo37 k hk
          simp [fbl, at0] at hm
          omega)
        have F45 : Fr [] W1 w45 := (F37.tr f42).trans f45 (fun k hk => .inr (by simp [fbl, at0] at hk; omega))
        refine ⟨p', _, c', rfl, e.2.refs.length + 2, ?_⟩
        have hlen : 1 + e.2.refs.length = ((e.2.tn, e.2.ts) :: e.2.refs).length := by rw [List.length_cons, Nat.add_comm]
        rw [hlen]
        refine held_l1 (W1 := W1) (A := heldL (L.take i)) (l := (e.2.tn, e.2.ts) :: e.2.refs) (by rw [List.length_cons]; omega) rest _ 0 w45 op oc _ (by rw [List.length_cons]; omega) (by omega) (by simp) o45 (fun k hk hm => ?_) oo45 hw F45
        have hk2 := lo37 k hm
        rcases e45 k hk with h' | h'
        · simp [fbl, at0] at h'; omega
        · omega
      · rw [hho _ h, if_neg (by simp)] at rest
        have r37 := r2.keep' F37
        unfold X23.j2
        refine ⟨e.2.result.length + 1, held_l1 (W1 := W1) (A := heldL (L.take i)) (l := e.2.result) (by omega) rest _ 0 w37 op oc _ (by omega) (by omega) (by simp) r37 (fun k hk hm => ?_) o37 hw F37⟩
        have := l2 k hk
        have := hw k hm
        omega
    · have hi' : i = L.length := by omega
      rw [hi', List.take_length] at ho ⊢
      exact hQ op oc w ho hw F
theorem held_spec (t : PC w g ft al S) (hc : S.c.calls ≤ 16) (hQ : ∀ p c w', IdRow w' p c (heldC S) → (∀ k ∈ fbl p, w.heap.size ≤ k) → Fr [] w w' → Q (.slice p (heldC S).length c) w') : CallR Try.prog 23 #[.pointer (some (at0 g 0))] w Q := by
  apply X23.sound
  unfold X23.f
  have hz := t.size
  refine all_spec t fun p c xs w2 o2 a2 f2 n2 => ⟨_, _, _, rfl, S.l.length + 1, ?_⟩
  have z2 := f2.size
  exact held_l0 (L := S.l) rfl (by omega) o2 a2 (fun p' c' w' r' n' f' => hQ p' c' w' r' (fun k hk => by have := n' k hk; omega) (f2.tr f')) _ 0 w2 none 0 (by omega) (by omega) Own.nil (by simp [fbl]) (Fr.refl _)
/-- Pinned -/
def pinY (v : Int × Int) (y : Cp) (z : Int × Int) : Prop := openB y = true ∧ z = v ∧ nzI z = true
theorem pin_l1 {b0 : Addr → Option Addr → Nat → Nat → Int → Int → World → Prop} {v : Int × Int} {tp : Option Addr} {tn tc : Nat} {t11 t12 : Int} {l : List (Int × Int)} (hl : l.length ≤ 500000) (hr : Cells W rp (l.flatMap idc)) (bv : Blk W g1 (idc v) 26) (bx : Blk W gx x.cells 44)
    (hx : x.state = y.state) (hT : (∃ z ∈ l, pinY v y z) → ∀ w', Fr [] W w' → Q (.bool true) w') (hF : (∀ z ∈ l, ¬ pinY v y z) → ∀ w', Fr [] W w' → b0 (at0 g1 0) tp tn tc t11 (IntKind.wrap .i64 (t12 + 1)) w') :
    ∀ (f i : Nat) (w : World), l.length - i < f → i ≤ l.length → (∀ z ∈ l.take i, ¬ pinY v y z) → Fr [] W w → X25.l1 Q b0 f (at0 g1 0) (at0 gx 0) tp tn tc t11 t12 rp l.length rc (l.length : Int) (i : Int) w
  | 0, i, w, hf, _, _, _ => by omega
  | f + 1, i, w, hf, hi, hno, F => by
    rw [X25.l1]
    refine bc_dec (fun h1 => ⟨⟨by omega, by omega⟩, ?_⟩) (fun h1 => ?_)
    · have hlt : i < l.length := by omega
      have ex := List.getElem?_eq_getElem hlt
      generalize l[i] = u at ex
      obtain ⟨pa, hpa, a0, a1⟩ := ids_at (hr.keep' F) ex
      refine opt_some hpa (ld_int a0 (ld_int a1 (newB fun g4 w5 b5 f5 h5 => stAllB (vs := idc u) b5 rfl fun w6 b6 f6 => ?_)))
      have z0 := F.size
      have F6 : Fr [] W w6 := (F.tr f5).loc f6 (by omega)
      have hi64 : IntKind.wrap .i64 ((i : Int) + 1) = ((i + 1 : Nat) : Int) := by rw [i64w ((i : Int) + 1) (by omega) (by omega)]; omega
      refine ld_Cl (s := x) (bx.keep' F6).cat (open_spec fun w23 f23 => ⟨_, rfl, ?_⟩)
      have F23 := F6.tr f23
      have b23 := b6.keep' f23
      have eo : decide (x.state = 1 ∨ x.state = 4) = openB y := by rw [hx]; rfl
      rw [eo, hi64]
      have go : ¬ pinY v y u → ∀ w', Fr [] W w' → X25.l1 Q b0 f (at0 g1 0) (at0 gx 0) tp tn tc t11 t12 rp l.length rc (l.length : Int) ((i + 1 : Nat) : Int) w' := fun hn w' f' => by
        refine pin_l1 hl hr bv bx hx hT hF f (i + 1) w' (by omega) (by omega) (fun z hz => ?_) f'
        rw [take_one ex] at hz
        rcases List.mem_append.1 hz with hz | hz
        · exact hno z hz
        · simp at hz; subst hz; exact hn
      refine bc_bool (fun h => ?_) (fun h => go (fun hp => by rw [hp.1] at h; cases h) w23 F23)
      refine ld_int (b23.cat 0 _ rfl) (ld_int (b23.cat 1 _ rfl) (ld_int ((bv.keep' F23).cat 0 _ rfl) (ld_int ((bv.keep' F23).cat 1 _ rfl) ⟨isS26, bc_bool (fun h2 => ?_) (fun h2 => go (fun hp => ?_) w23 F23)⟩)))
      · have e2 : u = v := by
          simp at h2
          exact Prod.ext h2.1 h2.2
        refine ld_int (b23.cat 0 _ rfl) (ld_int (b23.cat 1 _ rfl) ⟨isS26, bc_bool (fun h3 => ?_) (fun h3 => go (fun hp => ?_) w23 F23)⟩)
        · exact hT ⟨u, List.mem_of_getElem? ex, h, e2, by unfold nzI noneB; rw [Bool.and_true] at h3; exact h3⟩ w23 F23
        · have := hp.2.2
          unfold nzI noneB at this
          rw [Bool.and_true] at h3
          rw [h3] at this
          cases this
      · have := hp.2.1
        subst this
        simp at h2
    · have hi' : i = l.length := by omega
      subst hi'
      rw [List.take_length] at hno
      exact hF hno w F
theorem pin_l0 {v : Int × Int} {L : List (Int × Cp)} {ap : Option Addr} {ac n : Nat} {xs : List Cl} (hn : L.length = n) (hn2 : n ≤ 4096) (bv : Blk W1 g1 (idc v) 26) (oa : Own 44 15 W1 ap n ac (xs.flatMap Cl.cells)) (ar : Ar W0 W1 xs L)
    (hT : (∃ e ∈ L, ∃ z ∈ e.2.refs, pinY v e.2 z) → ∀ w', Fr [] W1 w' → Q (.bool true) w') (hF : (∀ e ∈ L, ∀ z ∈ e.2.refs, ¬ pinY v e.2 z) → ∀ w', Fr [] W1 w' → Q (.bool false) w') :
    ∀ (f i : Nat) (w : World), n - i < f → i ≤ n → (∀ e ∈ L.take i, ∀ z ∈ e.2.refs, ¬ pinY v e.2 z) → Fr [] W1 w → X25.l0 Q f (at0 g1 0) ap n ac (n : Int) (i : Int) w
  | 0, i, w, hf, _, _, _ => by omega
  | f + 1, i, w, hf, hi, hno, F => by
    rw [X25.l0]
    refine bc_dec (fun h1 => ⟨⟨by omega, by omega⟩, ?_⟩) (fun h1 => ?_)
    · have hlt : i < L.length := by omega
      have ef := List.getElem?_eq_getElem hlt
      generalize L[i] = e at ef
      obtain ⟨x, ex, ca, q1, q2⟩ := ar.at_ ef
      have hxl : xs.length = n := by rw [ar.len, hn]
      obtain ⟨a, ha, hx⟩ := own_at (fun _ => Cl.len _) oa hxl ex
      have hx' : At w (a.add (Int.toNat (i : Int) * 15)) x.cells := by rw [Int.toNat_natCast]; exact fun j u hu => F.cell' (hx j u hu)
      refine opt_some ha (ld_Cl (s := x) hx' (newB fun g17 w18 b18 f18 h18 => stAllB (vs := x.cells) b18 rfl fun w19 b19 f19 => ?_))
      have z0 := F.size
      have F19 : Fr [] W1 w19 := (F.tr f18).loc f19 (by omega)
      obtain ⟨rp, rc, sp, sc, hxe, r1, r2, n1, n2⟩ := ca
      subst hxe
      have hi64 : IntKind.wrap .i64 ((i : Int) + 1) = ((i + 1 : Nat) : Int) := by rw [i64w ((i : Int) + 1) (by omega) (by omega)]; omega
      refine ld_sl (a := rp) (n := e.2.refs.length) (c := rc) (b19.cat 6 _ rfl) ⟨e.2.refs.length + 1, ?_⟩
      refine pin_l1 (W := w19) (y := e.2) (v := v) (by omega) (r1.keep' F19).cells (bv.keep' F19) b19 rfl (fun ⟨z, hz, hp⟩ w' f' => hT ⟨e, List.mem_of_getElem? ef, z, hz, hp⟩ w' (F19.tr f')) (fun hn' w' f' => ?_) _ 0 w19 (by omega) (by omega) (by simp) (Fr.refl _)
      rw [hi64]
      refine pin_l0 hn hn2 bv oa ar hT hF f (i + 1) w' (by omega) (by omega) (fun e' he z hz => ?_) (F19.tr f')
      rw [take_one ef] at he
      rcases List.mem_append.1 he with he | he
      · exact hno e' he z hz
      · simp at he; subst he; exact hn' z hz
    · have hi' : i = L.length := by omega
      subst hi'
      rw [List.take_length] at hno
      exact hF hno w F
theorem pinned_spec {tn ts : Int} (t : PC w g ft al S) (hQ : ∀ w', Fr [] w w' → Q (.bool (pinnedC S (tn, ts))) w') : CallR Try.prog 25 #[.pointer (some (at0 g 0)), .agg #[.int .i64 tn, .int .u64 ts]] w Q := by
  apply X25.sound
  unfold X25.f
  have hz := t.size
  refine newB fun g1 w1 b1 f1 h1 => all_spec (t.keep' f1) fun p c xs w2 o2 a2 f2 n2 => ⟨_, _, _, rfl, S.l.length + 1, ?_⟩
  have b1 : Blk w1 g1 (idc (tn, ts)) 26 := b1
  refine pin_l0 (v := (tn, ts)) (L := S.l) rfl (by omega) (b1.keep' f2) o2 a2 ?_ ?_ _ 0 w2 (by omega) (by omega) (by simp) (Fr.refl _)
  · rintro ⟨e, he, z, hz, hp⟩ w' f'
    have : pinnedC S (tn, ts) = true := by
      unfold pinnedC
      refine List.any_eq_true.2 ⟨e, he, ?_⟩
      rw [hp.1, Bool.true_and]
      refine List.any_eq_true.2 ⟨z, hz, ?_⟩
      rw [decide_eq_true hp.2.1, Bool.true_and]
      exact hp.2.2
    rw [← this]
    exact hQ w' (f1.tr (f2.tr f'))
  · intro hno w' f'
    have : pinnedC S (tn, ts) = false := by
      refine Bool.eq_false_iff.2 fun ht => ?_
      unfold pinnedC at ht
      obtain ⟨e, he, h2⟩ := List.any_eq_true.1 ht
      rw [Bool.and_eq_true] at h2
      obtain ⟨z, hz, h3⟩ := List.any_eq_true.1 h2.2
      rw [Bool.and_eq_true] at h3
      exact hno e he z hz ⟨h2.1, of_decide_eq_true h3.1, h3.2⟩
    rw [← this]
    exact hQ w' (f1.tr (f2.tr f'))
end
end Go.Proofs.YtdgoalhnkegbmaaX
