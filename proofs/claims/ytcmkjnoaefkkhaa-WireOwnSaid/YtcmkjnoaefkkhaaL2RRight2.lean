/- The document's Right, whole; a message in new memory. -/
import Derived.Test.YtcmkjnoaefkkhaaL2RRight
namespace Go.Proofs.YtcmkjnoaefkkhaaX
open Go.RowKit
set_option linter.unusedVariables false
set_option linter.unusedSimpArgs false
set_option maxRecDepth 100000
section
variable {w : World} {Q : Value → World → Prop} {m : Msg} {rp lp : Option Addr} {rc lc g : Nat}
theorem rr_l1 (hb : Blk w g (m.cells rp rc lp lc) 28) (h : MM w m rp rc lp lc) (hQ : Ans Q (rise m.list) w) (f : Nat) : ∀ (i : Nat) (w' : World), m.list.length - i < f → Fr [] w w' → i ≤ m.list.length → riseTo m.list i → X16.l1 Q f (at0 g 0) (i : Int) w' := by
  induction f with
  | zero => intro i w' hf; omega
  | succ f ih =>
    intro i w' hf hw hi hp
    rw [X16.l1]
    have hsz := h.lsz
    have b1 := hb.keep' hw
    simp only [add_at, Nat.zero_add, Nat.add_zero]
    generalize hN : (72057594037927935 : Int) = N
    refine ld_sl (b1.cell rfl) (bc_dec (fun h1 => ?_) (fun h1 => ?_))
    · have g2 : Fr [] w w'.drew := hw.tr Fr.drew
      have b2 := hb.keep' g2
      have hc := h.list.keep' g2
      have hlt : i < m.list.length := by omega
      have hg := List.getElem?_eq_getElem hlt
      generalize m.list[i] = x at hg
      obtain ⟨q, hq, c0⟩ := cell_u64 hc hg
      have no : ¬ rise m.list → Q (.bool false) w'.drew := fun hn => hQ.no g2 hn
      unfold drewK
      have e2 : IntKind.wrap .i64 ((i : Int) + 1) = ((i + 1 : Nat) : Int) := by rw [i64w _ (by omega) (by omega)]; omega
      rw [e2]
      have c0' : w'.drew.cell? (q.add (Int.toNat (i : Int) * 1)) = some (.int .u64 x) := by rw [Int.toNat_natCast]; exact c0
      refine ld_sl (b2.cell rfl) ⟨⟨by omega, by omega⟩, opt_some hq (ld_int c0' (bc_dec (fun h2 => no fun hr => ?_) (fun h2 => ?_)))⟩
      · have := (hr i x hg).1.1; omega
      refine ld_sl (b2.cell rfl) ⟨⟨by omega, by omega⟩, opt_some hq (ld_int c0' (bc_dec (fun h3 => no fun hr => ?_) (fun h3 => ?_)))⟩
      · have := (hr i x hg).1.2; omega
      have hok : okSerial x := ⟨by omega, by omega⟩
      refine bc_dec (fun h0 => ?_) (fun h0 => ?_)
      · have e1 : IntKind.wrap .i64 ((i : Int) - 1) = ((i - 1 : Nat) : Int) := by rw [i64w _ (by omega) (by omega)]; omega
        rw [e1]
        have hlt1 : i - 1 < m.list.length := by omega
        have hg1 := List.getElem?_eq_getElem hlt1
        generalize m.list[i - 1] = y at hg1
        obtain ⟨q1, hq1, c1⟩ := cell_u64 hc hg1
        refine ld_sl (b2.cell rfl) ⟨⟨by omega, by omega⟩, opt_some hq (ld_int c0' (ld_sl (b2.cell rfl) ⟨⟨by omega, by omega⟩, opt_some hq1 (ld_int (by rw [Int.toNat_natCast]; exact c1) (bc_dec (fun hle => no fun hr => ?_) (fun hle => ?_)))⟩))⟩
        · have := (hr i x hg).2 (i - 1) y (by omega) hg1; omega
        · refine ih (i + 1) _ (by omega) g2 (by omega) (fun j z hj hz => ?_)
          by_cases e : j = i
          · subst e
            rw [hg] at hz; injection hz with hz; subst hz
            refine ⟨hok, fun k u hk hu => ?_⟩
            have : k = j - 1 := by omega
            subst this
            rw [hg1] at hu; injection hu with hu; omega
          · exact hp j z (by omega) hz
      · refine ih (i + 1) _ (by omega) g2 (by omega) (fun j z hj hz => ?_)
        have : j = 0 := by omega
        subst this
        have : i = 0 := by omega
        subst this
        rw [hg] at hz; injection hz with hz; subst hz
        exact ⟨hok, fun k u hk => by omega⟩
    · have : i = m.list.length := by omega
      subst this
      exact hQ _ _ ⟨fun _ => riseTo_all.1 hp, fun _ => rfl⟩ hw
theorem rr_l0 (hb : Blk w g (m.cells rp rc lp lc) 28) (h : MM w m rp rc lp lc) (hQ : Ans Q ((∀ x ∈ m.refs, okID x) ∧ rise m.list) w) (f : Nat) : ∀ (i : Nat) (w' : World), m.refs.length - i < f → Fr [] w w' → i ≤ m.refs.length → (∀ x ∈ m.refs.take i, okID x) → X16.l0 Q f (at0 g 0) (i : Int) w' := by
  induction f with
  | zero => intro i w' hf; omega
  | succ f ih =>
    intro i w' hf hw hi hp
    rw [X16.l0]
    have hsz := h.rsz
    have b1 := hb.keep' hw
    simp only [add_at, Nat.zero_add, Nat.add_zero]
    refine ld_sl (b1.cell rfl) (bc_dec (fun h1 => ?_) (fun h1 => ?_))
    · have hlt : i < m.refs.length := by omega
      have hg := List.getElem?_eq_getElem hlt
      have htk : m.refs.take (i + 1) = m.refs.take i ++ [m.refs[i]] := (List.take_append_getElem hlt).symm
      have hmem : m.refs[i] ∈ m.refs := List.getElem_mem hlt
      generalize m.refs[i] = x at hg htk hmem
      have hc := h.refs.keep' hw
      obtain ⟨q, hq, c0⟩ := hc _ _ (flat_get idc_len m.refs hg (j := 0) rfl)
      obtain ⟨q', hq', c1⟩ := hc _ _ (flat_get idc_len m.refs hg (j := 1) rfl)
      rw [hq] at hq'; injection hq' with hq'; subst hq'
      refine ld_sl (b1.cell rfl) ⟨⟨by omega, by omega⟩, opt_some hq ?_⟩
      rw [Int.toNat_natCast]
      simp only [add_add]
      refine ld_int c0 (ld_int c1 (id_spec fun b w4 hb4 f4 => ⟨_, rfl, bc_bool (fun e => hQ.no (hw.tr f4) fun hh => not_true hb4 e (hh.1 x hmem)) (fun e => ?_)⟩))
      rw [show IntKind.wrap .i64 ((i : Int) + 1) = ((i + 1 : Nat) : Int) by rw [i64w _ (by omega) (by omega)]; omega]
      refine ih (i + 1) w4 (by omega) (hw.tr f4) (by omega) (fun y hy => ?_)
      rw [htk] at hy
      rcases List.mem_append.1 hy with hy | hy
      · exact hp y hy
      · rw [List.mem_singleton.1 hy]; exact of_not hb4 e
    · have ht : m.refs.take i = m.refs := List.take_of_length_le (by omega)
      rw [ht] at hp
      exact ⟨m.list.length + 1, rr_l1 b1 (h.keep' hw) (hQ.le hw ⟨fun h => ⟨hp, h⟩, fun h => h.2⟩) _ 0 w' (by omega) (Fr.refl _) (by omega) (fun j _ hj => by omega)⟩
theorem rr_j2 (hb : Blk w g (m.cells rp rc lp lc) 28) (h : MM w m rp rc lp lc) (hQ : Ans Q ((∀ x ∈ m.refs, okID x) ∧ rise m.list) w) : X16.j2 Q (at0 g 0) w :=
  ⟨m.refs.length + 1, rr_l0 hb h hQ _ 0 w (by omega) (Fr.refl _) (by omega) (by simp)⟩
def rP3 (m : Msg) : Prop := (0 < m.refs.length → hasF m.kind 12 = true) ∧ m.refs.length ≤ 2 ∧ (0 < m.list.length → hasF m.kind 14 = true) ∧ m.list.length ≤ 64 ∧ (∀ x ∈ m.refs, okID x) ∧ rise m.list
theorem rr_j3 (hb : Blk w g (m.cells rp rc lp lc) 28) (h : MM w m rp rc lp lc) (hQ : Ans Q (rP3 m) w) : X16.j3 Q (at0 g 0) w := by
  unfold X16.j3
  simp only [add_at, Nat.zero_add, Nat.add_zero]
  unfold rP3 at hQ
  have c : ∀ {w'}, Fr [] w w' → Blk w' g (m.cells rp rc lp lc) 28 := fun f => hb.keep' f
  -- from the list's length on
  have two : ∀ {w'}, Fr [] w w' → (0 < m.refs.length → hasF m.kind 12 = true) → ldSl w' (at0 g 10) fun x6p x6n x6c => bcase (decide (((x6n : Nat) : Int) > (2 : Int))) (Q (.bool false) w') (ldSl w' (at0 g 18) fun x7p x7n x7c => bcase (decide (((x7n : Nat) : Int) > (0 : Int))) (ldI .i64 w' (at0 g 0) fun x8 => CallR Try.prog 32 #[.int .i64 x8, .string (⟨#[108, 105, 115, 116]⟩ : ByteArray)] w' fun v9 w10 => ∃ (y11 : Bool), v9 = .bool y11 ∧ bcase (!y11) (Q (.bool false) w10) (ldSl w10 (at0 g 18) fun x12p x12n x12c => bcase (decide (((x12n : Nat) : Int) > (64 : Int))) (Q (.bool false) w10) (X16.j2 Q (at0 g 0) w10))) (ldSl w' (at0 g 18) fun x13p x13n x13c => bcase (decide (((x13n : Nat) : Int) > (64 : Int))) (Q (.bool false) w') (X16.j2 Q (at0 g 0) w'))) := by
    intro w' f h12
    refine ld_sl ((c f).cell rfl) (bc_dec (fun h1 => hQ.no f fun hh => ?_) (fun h1 => ?_))
    · have := hh.2.1; omega
    refine ld_sl ((c f).cell rfl) (bc_dec (fun h2 => ?_) (fun h2 => ?_))
    · refine ld_int ((c f).cell rfl) (has_spec 14 (by omega) fun w4 f4 => ⟨_, rfl, bc_bool (fun e => hQ.no (f.tr f4) fun hh => ?_) (fun e => ?_)⟩)
      · rw [hh.2.2.1 (by omega)] at e; cases e
      have h14 : hasF m.kind 14 = true := by cases he : hasF m.kind 14; rw [he] at e; cases e; rfl
      refine ld_sl ((c (f.tr f4)).cell rfl) (bc_dec (fun h3 => hQ.no (f.tr f4) fun hh => ?_) (fun h3 => ?_))
      · have := hh.2.2.2.1; omega
      exact rr_j2 (c (f.tr f4)) (h.keep' (f.tr f4)) (hQ.le (f.tr f4) ⟨fun hh => ⟨h12, by omega, fun _ => h14, by omega, hh⟩, fun hh => hh.2.2.2.2⟩)
    · refine ld_sl ((c f).cell rfl) (bc_dec (fun h3 => hQ.no f fun hh => ?_) (fun h3 => ?_))
      · have := hh.2.2.2.1; omega
      exact rr_j2 (c f) (h.keep' f) (hQ.le f ⟨fun hh => ⟨h12, by omega, fun hx => by omega, by omega, hh⟩, fun hh => hh.2.2.2.2⟩)
  refine ld_sl (hb.cell rfl) (bc_dec (fun h0 => ?_) (fun h0 => two (Fr.refl w) fun hx => by omega))
  refine ld_int (hb.cell rfl) (has_spec 12 (by omega) fun w4 f4 => ⟨_, rfl, bc_bool (fun e => hQ.no f4 fun hh => ?_) (fun e => ?_)⟩)
  · rw [hh.1 (by omega)] at e; cases e
  have h12 : hasF m.kind 12 = true := by cases he : hasF m.kind 12; rw [he] at e; cases e; rfl
  exact two f4 fun _ => h12
theorem rRight_spec (h : MM w m rp rc lp lc) (hQ : Ans Q (Right m) w) : CallR Try.prog 16 #[msgV m rp rc lp lc] w Q := by
  have hQ : Ans Q (RightR m) w := hQ.le (Fr.refl w) (right_iff m).symm
  apply X16.sound
  unfold X16.f newK
  obtain ⟨hb, f⟩ := made (w := w) (cs := (m.cells rp rc lp lc).toArray) (e := 28)
  rw [show (⟨w.heap.size, 0, none⟩ : Addr) = at0 w.heap.size 0 from rfl]
  simp only [add_at, Nat.zero_add, Nat.add_zero]
  have h2 := h.keep' f
  generalize w.alloc _ = w2 at *
  refine ld_int (hb.cell rfl) (within_spec fun b1 hb1 => ⟨_, rfl, bc_bool (fun e => hQ.no f fun hh => not_true hb1 e hh.1) (fun e1 => ?_)⟩)
  refine ld_int (hb.cell rfl) (within_spec fun b2 hb2 => ⟨_, rfl, bc_bool (fun e => hQ.no f fun hh => not_true hb2 e hh.2.1) (fun e2 => ?_)⟩)
  refine ld_int (hb.cell rfl) (within_spec fun b3 hb3 => ⟨_, rfl, bc_bool (fun e => hQ.no f fun hh => not_true hb3 e hh.2.2.1) (fun e3 => ?_)⟩)
  refine ld_int (hb.cell rfl) (ld_int (hb.cell rfl) (bc_eq (fun e => hQ.no f fun hh => hh.2.2.2.1 e) (fun e4 => ?_)))
  refine ld_msg hb (rnumbers_spec (m := m) (rp := rp) (rc := rc) (lp := lp) (lc := lc) fun b5 w5 hb5 f5 => ⟨_, rfl, bc_bool (fun e => hQ.no (f.tr f5) fun hh => not_true hb5 e hh.2.2.2.2.1) (fun e5 => ?_)⟩)
  have bb5 := hb.keep' f5
  refine ld_msg bb5 (rtarget_spec (m := m) (rp := rp) (rc := rc) (lp := lp) (lc := lc) fun b6 w6 hb6 f6 => ⟨_, rfl, bc_bool (fun e => hQ.no ((f.tr f5).tr f6) fun hh => not_true hb6 e hh.2.2.2.2.2.1) (fun e6 => ?_)⟩)
  refine rr_j3 (bb5.keep' f6) (h2.keep' (f5.tr f6)) (hQ.le ((f.tr f5).tr f6) ?_)
  exact ⟨fun hh => ⟨of_not hb1 e1, of_not hb2 e2, of_not hb3 e3, e4, of_not hb5 e5, of_not hb6 e6, hh⟩, fun hh => hh.2.2.2.2.2.2⟩
theorem rowT25 : RowT Try.prog 25 24 2 16 := ⟨by kernel_rfl, ⟨Try.t24, .agg #[.int .i64 0, .int .u64 0], by kernel_rfl, by kernel_rfl, by kernel_rfl, by kernel_rfl, by kernel_rfl⟩, by omega⟩
theorem rowT26 : RowT Try.prog 26 22 1 8 := ⟨by kernel_rfl, ⟨Try.t22, .int .u64 0, by kernel_rfl, by kernel_rfl, by kernel_rfl, by kernel_rfl, by kernel_rfl⟩, by omega⟩
theorem refs_one (l : List (Int × Int)) : ∀ u ∈ l.flatMap idc, u.oneCell' = true := by
  intro u hu
  obtain ⟨e, _, he⟩ := List.mem_flatMap.1 hu
  simp only [idc, List.mem_cons, List.not_mem_nil, or_false] at he
  rcases he with rfl | rfl <;> rfl
theorem u64_one (l : List Int) : ∀ u ∈ l.map (Value.int .u64), u.oneCell' = true := by
  intro u hu
  obtain ⟨b, _, rfl⟩ := List.mem_map.1 hu
  rfl
theorem copyOf_spec (h : MM w m rp rc lp lc) (hK : ∀ rp' rc' lp' lc' w', MM w' m rp' rc' lp' lc' → Fr [] w w' → (∀ x ∈ fbl rp', w.heap.size ≤ x) → (∀ x ∈ fbl lp', w.heap.size ≤ x) → Q (msgV m rp' rc' lp' lc') w') :
    CallR Try.prog 15 #[msgV m rp rc lp lc] w Q := by
  apply X15.sound
  unfold X15.f newK
  obtain ⟨hb, f⟩ := made (w := w) (cs := (m.cells rp rc lp lc).toArray) (e := 28)
  rw [show (⟨w.heap.size, 0, none⟩ : Addr) = at0 w.heap.size 0 from rfl]
  have h2 := h.keep' f
  have g2 := f
  have hbl := hb.lt
  have hbw : w.heap.size ≤ w.heap.size := Nat.le_refl _
  generalize hB : w.heap.size = B at *
  generalize hw2 : w.alloc _ = w2 at *
  have f4 : Fr [] w2 (w2.alloc (.cells #[.int .i64 (0 : Int), .int .i64 (0 : Int), .int .i64 (0 : Int), .int .u64 (0 : Int), .int .u64 (0 : Int), .int .i64 (0 : Int), .int .i64 (0 : Int), .int .i64 (0 : Int), .int .i64 (0 : Int), .int .u64 (0 : Int), .slice none 0 0, .int .u64 (0 : Int), .int .i64 (0 : Int), .int .u64 (0 : Int), .int .i64 (0 : Int), .int .u64 (0 : Int), .int .i64 (0 : Int), .int .u64 (0 : Int), .slice none 0 0] 28)) := Fr.alloc _ _
  have b4 := Blk.made w2 #[.int .i64 (0 : Int), .int .i64 (0 : Int), .int .i64 (0 : Int), .int .u64 (0 : Int), .int .u64 (0 : Int), .int .i64 (0 : Int), .int .i64 (0 : Int), .int .i64 (0 : Int), .int .i64 (0 : Int), .int .u64 (0 : Int), .slice none 0 0, .int .u64 (0 : Int), .int .i64 (0 : Int), .int .u64 (0 : Int), .int .i64 (0 : Int), .int .u64 (0 : Int), .int .i64 (0 : Int), .int .u64 (0 : Int), .slice none 0 0] 28
  rw [show (⟨w2.heap.size, 0, none⟩ : Addr) = at0 w2.heap.size 0 from rfl]
  have hb4 := hb.keep' f4
  have h4 := h2.keep' f4
  have s2 := g2.size
  have g4 := g2.tr f4
  have s4 := g4.size
  have l4 := b4.lt
  generalize hC : w2.heap.size = C at *
  generalize hw4 : w2.alloc _ = w4 at *
  have o6 : Own 24 2 (w4.alloc (.cells #[] 24)) (some ⟨w4.heap.size, 0, none⟩) 0 0 [] := Own.made #[] 0 (by simp only [maxLen]; omega) rfl
  have f6 : Fr [] w4 (w4.alloc (.cells #[] 24)) := Fr.alloc _ _
  have hb6 := hb4.keep' f6
  have b6 := b4.keep' f6
  have h6 := h4.keep' f6
  have g6 := g4.tr f6
  have s6 := f6.size
  generalize hw6 : w4.alloc _ = w6 at *
  simp only [add_at, Nat.zero_add, Nat.add_zero]
  refine ld_sl (hb6.cell rfl) (app_own rowT25 o6 h6.refs (by rw [flat_length idc_len]) h6.rnil (refs_one _) (by have := h6.rby; simp only [maxLen]; omega) (by have := h6.rby; omega) ?_)
  intro rp' rc' w9 o9 f9 e9
  refine ⟨_, _, _, rfl, ?_⟩
  rw [Nat.zero_add, List.nil_append] at *
  have nr : ∀ x ∈ fbl rp', w4.heap.size ≤ x := fun x hx => by
    rcases e9 x hx with hh | hh
    · simp [fbl] at hh; omega
    · omega
  have nb : ∀ x ∈ fbl (some (⟨w4.heap.size, 0, none⟩ : Addr)), w4.heap.size ≤ x := fun x hx => by simp [fbl] at hx; omega
  have f49 : Fr [] w4 w9 := f6.trans f9 (fun x hx => .inr (nb x hx))
  have hb9 := hb4.keep' f49
  have b9 := b4.keep' f49
  have h9 := h4.keep' f49
  refine ⟨hb9.storeOk (by simp), ?_⟩
  have hb11 := hb9.set 10 (.slice rp' m.refs.length rc')
  have f11 : Fr [B] w9 (w9.setCell (at0 B 10) (.slice rp' m.refs.length rc')) := Fr.setCell (by simp [at0]) _
  have b11 := b9.keep f11 (by simp; omega)
  have o11 := o9.keep f11 (fun x hx hm => by have := nr x hx; simp at hm; omega)
  have hlist : Cells w9 lp (m.list.map (Value.int .u64)) := h9.list
  have hfr : ∀ k ∈ fbl lp, k < B ∨ m.list = [] := by
    intro k hk
    cases lp with
    | none => cases hk
    | some a =>
      cases hml : m.list with
      | nil => exact .inr rfl
      | cons z zs =>
        refine .inl ?_
        obtain ⟨q, hq, hcell⟩ := h.list 0 _ (by rw [hml]; rfl)
        injection hq with hq; subst hq
        have := World.block_lt_of_cell? w _ hcell
        rw [add_block] at this
        simp [fbl] at hk; omega
  have hlist11 : Cells (w9.setCell (at0 B 10) (.slice rp' m.refs.length rc')) lp (m.list.map (Value.int .u64)) := by
    by_cases he : m.list = []
    · rw [he]; intro j u hj; simp at hj
    · refine hlist.keep f11 (fun k hk hm => ?_)
      rcases hfr k hk with hh | hh
      · simp at hm; omega
      · exact he hh
  have f4b : Fr [B] w4 (w9.setCell (at0 B 10) (.slice rp' m.refs.length rc')) := f49.any.tr f11
  generalize hw11 : w9.setCell _ _ = w11 at *
  dsimp only
  have s11 := f4b.size
  have o13 : Own 22 1 (w11.alloc (.cells #[] 22)) (some ⟨w11.heap.size, 0, none⟩) 0 0 [] := Own.made #[] 0 (by simp only [maxLen]; omega) rfl
  have f13 : Fr [] w11 (w11.alloc (.cells #[] 22)) := Fr.alloc _ _
  have hb13 := hb11.keep' f13
  have b13 := b11.keep' f13
  have or13 := o11.keep' f13
  have hl13 := hlist11.keep' f13
  generalize hw13 : w11.alloc _ = w13 at *
  refine ld_sl (hb13.cell rfl) (app_own rowT26 o13 hl13 (by simp) h.lnil (u64_one _) (by have := h.lby; simp only [maxLen]; omega) (by have := h.lby; omega) ?_)
  intro lp' lc' w16 o16 f16 e16
  refine ⟨_, _, _, rfl, ?_⟩
  rw [Nat.zero_add, List.nil_append] at *
  have nl : ∀ x ∈ fbl lp', w11.heap.size ≤ x := fun x hx => by
    rcases e16 x hx with hh | hh
    · simp [fbl] at hh; omega
    · have := f13.size; omega
  have f1116 : Fr [] w11 w16 := f13.trans f16 (fun x hx => .inr (by simp [fbl] at hx; omega))
  have hb16 := hb11.keep' f1116
  have b16 := b11.keep' f1116
  have or16 := o11.keep' f1116
  refine ⟨hb16.storeOk (by simp), ?_⟩
  have hb18 := hb16.set 18 (.slice lp' m.list.length lc')
  have f18 : Fr [B] w16 (w16.setCell (at0 B 18) (.slice lp' m.list.length lc')) := Fr.setCell (by simp [at0]) _
  have b18 := b16.keep f18 (by simp; omega)
  have or18 := or16.keep f18 (fun x hx hm => by have := nr x hx; simp at hm; omega)
  have ol18 := o16.keep f18 (fun x hx hm => by have := nl x hx; simp at hm; omega)
  have rlt := o11.lt
  have fr18 : Fr [B] w4 (w16.setCell (at0 B 18) (.slice lp' m.list.length lc')) := (f4b.tr f1116.any).tr f18
  generalize hw18 : w16.setCell _ _ = w18 at *
  dsimp only
  have hb18' : Blk w18 B (m.cells rp' rc' lp' lc') 28 := hb18
  refine ld_msg hb18' (stAll_blk (o := 0) b18 (by simp) ?_)
  intro w38 b38 f38
  have b38' : Blk w38 C (m.cells rp' rc' lp' lc') 28 := b38
  refine ld_msg b38' ?_
  have fin : Fr [] w w38 := ((g4.trans fr18 (fun x hx => .inr (by simp at hx; omega))).trans f38 (fun x hx => .inr (by simp at hx; omega)))
  refine hK rp' rc' lp' lc' w38 ⟨?_, or18.le, fun hx => by subst hx; exact or18.none_c.2.1, h.rby, ?_, ol18.le, fun hx => by subst hx; exact ol18.none_c.2.1, h.lby⟩ fin (fun x hx => by have := nr x hx; omega) (fun x hx => by have := nl x hx; omega)
  · exact (or18.keep f38 (fun x hx hm => by have := nr x hx; simp at hm; omega)).cells
  · exact (ol18.keep f38 (fun x hx hm => by have := nl x hx; simp at hm; omega)).cells
end
end Go.Proofs.YtcmkjnoaefkkhaaX
