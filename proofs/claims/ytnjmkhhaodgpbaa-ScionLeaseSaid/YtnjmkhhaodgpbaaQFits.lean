/- Right: field by field. -/
import Derived.Test.YtnjmkhhaodgpbaaQRight
namespace Go.Proofs.YtnjmkhhaodgpbaaX
open Go.RowKit
set_option linter.unusedVariables false
set_option linter.unusedSimpArgs false
set_option maxRecDepth 100000
section
variable {w : World} {Q : Value → World → Prop} {m : Msg} {rp lp : Option Addr} {rc lc g : Nat}
abbrev msgV (m : Msg) (rp : Option Addr) (rc : Nat) (lp : Option Addr) (lc : Nat) : Value := .agg (m.cells rp rc lp lc).toArray
/-- all that a message has is loaded -/
theorem ld_msg {K : Int → Int → Int → Int → Int → Int → Int → Int → Int → Int → Option Addr → Nat → Nat → Int → Int → Int → Int → Int → Int → Int → Option Addr → Nat → Nat → Prop} (hb : Blk w g (m.cells rp rc lp lc) 40)
    (h : K m.kind m.frm m.to m.call m.floor m.op m.field m.item m.tn m.ts rp m.refs.length rc m.value m.code m.seq m.voucher m.at_ m.dist m.stamp lp m.list.length lc) :
    ldI .i64 w (at0 g 0) fun x1 => ldI .i64 w (at0 g 1) fun x2 => ldI .i64 w (at0 g 2) fun x3 => ldI .u64 w (at0 g 3) fun x4 => ldI .u64 w (at0 g 4) fun x5 => ldI .i64 w (at0 g 5) fun x6 => ldI .i64 w (at0 g 6) fun x7 => ldI .i64 w (at0 g 7) fun x8 => ldI .i64 w (at0 g 8) fun x9 => ldI .u64 w (at0 g 9) fun x10 => ldSl w (at0 g 10) fun x11p x11n x11c => ldI .u64 w (at0 g 11) fun x12 => ldI .i64 w (at0 g 12) fun x13 => ldI .u64 w (at0 g 13) fun x14 => ldI .i64 w (at0 g 14) fun x15 => ldI .u64 w (at0 g 15) fun x16 => ldI .i64 w (at0 g 16) fun x17 => ldI .u64 w (at0 g 17) fun x18 => ldSl w (at0 g 18) fun x19p x19n x19c => K x1 x2 x3 x4 x5 x6 x7 x8 x9 x10 x11p x11n x11c x12 x13 x14 x15 x16 x17 x18 x19p x19n x19c :=
  ld_int (hb.cell rfl) (ld_int (hb.cell rfl) (ld_int (hb.cell rfl) (ld_int (hb.cell rfl) (ld_int (hb.cell rfl) (ld_int (hb.cell rfl) (ld_int (hb.cell rfl) (ld_int (hb.cell rfl) (ld_int (hb.cell rfl) (ld_int (hb.cell rfl) (ld_sl (hb.cell rfl) (ld_int (hb.cell rfl) (ld_int (hb.cell rfl) (ld_int (hb.cell rfl) (ld_int (hb.cell rfl) (ld_int (hb.cell rfl) (ld_int (hb.cell rfl) (ld_int (hb.cell rfl) (ld_sl (hb.cell rfl) h))))))))))))))))))
theorem bc_eqt {a b : Int} {A B : Prop} (h : a = b) (x : A) : bcase (a == b) A B := bc_eq (fun _ => x) (fun hn => absurd h hn)
theorem bc_eqf {a b : Int} {A B : Prop} (h : a ≠ b) (x : B) : bcase (a == b) A B := bc_eq (fun he => absurd he h) (fun _ => x)
theorem eq_dec {a b : Int} : (a == b) = decide (a = b) := by by_cases h : a = b <;> simp [h]
theorem aims_spec (hQ : Ans Q (noID (m.tn, m.ts) ↔ aimsNone m) w) : CallR Try.prog 79 #[msgV m rp rc lp lc] w Q := by
  apply X79.sound
  unfold X79.f newK
  obtain ⟨hb, f⟩ := made (w := w) (cs := (m.cells rp rc lp lc).toArray) (e := 40)
  rw [show (⟨w.heap.size, 0, none⟩ : Addr) = at0 w.heap.size 0 from rfl]
  simp only [add_at, Nat.zero_add, Nat.add_zero]
  generalize w.alloc _ = w2 at *
  refine ld_int (hb.cell rfl) (ld_int (hb.cell rfl) ⟨isS24, ld_int (hb.cell rfl) ?_⟩)
  have key : ∀ (c b : Bool), (b = true ↔ aimsNone m) → c = (((m.tn == (0 : Int)) && ((m.ts == (0 : Int)) && true)) == b) → Q (.bool c) w2 := by
    intro c b hb hc
    subst hc
    refine hQ _ _ ?_ f
    have := and_noID (x := m.tn) (y := m.ts)
    rw [← hb, ← this]
    cases ((m.tn == (0 : Int)) && ((m.ts == (0 : Int)) && true)) <;> cases b <;> simp
  refine bc_eq (fun h1 => ?_) (fun h1 => bc_eq (fun h8 => ?_) (fun h8 => ?_))
  · refine ld_int (hb.cell rfl) (bc_eq (fun h => ?_) (fun h => ?_))
    · exact key _ true (by simp [aimsNone, h1, h]) rfl
    · refine ld_int (hb.cell rfl) (key _ (m.op == 6) ?_ rfl)
      simp [aimsNone, h1, h]
  · refine ld_int (hb.cell rfl) (key _ (m.op == 3) ?_ rfl)
    simp [aimsNone, h1, h8]
  · refine key _ false ?_ ?_
    · simp [aimsNone, h1, h8]
    · cases ((m.tn == (0 : Int)) && ((m.ts == (0 : Int)) && true)) <;> rfl
theorem fits_spec {i : Nat} (hi : i < 15) (h : MM w m rp rc lp lc) (hQ : Ans Q (fits m i) w) : CallR Try.prog 69 #[msgV m rp rc lp lc, .int .i64 ((2 ^ i : Nat) : Int)] w Q := by
  apply X69.sound
  unfold X69.f newK
  obtain ⟨hb, f⟩ := made (w := w) (cs := (m.cells rp rc lp lc).toArray) (e := 40)
  rw [show (⟨w.heap.size, 0, none⟩ : Addr) = at0 w.heap.size 0 from rfl]
  simp only [add_at, Nat.zero_add, Nat.add_zero]
  have h2 := h.keep' f
  generalize w.alloc _ = w2 at *
  have hb2 := hb.keep' (Fr.drew (w := w2))
  have f2 := f.tr (Fr.drew (S := []) (w := w2))
  have hc : i = 0 ∨ i = 1 ∨ i = 2 ∨ i = 3 ∨ i = 4 ∨ i = 5 ∨ i = 6 ∨ i = 7 ∨ i = 8 ∨ i = 9 ∨ i = 10 ∨ i = 11 ∨ i = 12 ∨ i = 13 ∨ i = 14 := by omega
  rcases hc with rfl | rfl | rfl | rfl | rfl | rfl | rfl | rfl | rfl | rfl | rfl | rfl | rfl | rfl | rfl
  all_goals repeat refine bc_eqf (by decide) ?_
  · refine bc_eqt rfl (ld_int (hb.cell rfl) (serial_spec fun b hb' => ⟨_, rfl, hQ b _ hb' f⟩))
  · refine bc_eqt rfl (ld_int (hb.cell rfl) (bc_dec (fun h1 => ld_int (hb.cell rfl) (ld_int (hb.cell rfl) (hQ _ _ ?_ f))) (fun h1 => hQ _ _ ?_ f)))
    · simp only [fits, decide_eq_true_eq]; omega
    · simp only [fits]; exact ⟨fun h => (by cases h), fun h => by omega⟩
  · refine bc_eqt rfl (ld_int (hb.cell rfl) (in_spec fun b hb' => ⟨_, rfl, hQ b _ hb' f⟩))
  · refine bc_eqt rfl (ld_int (hb2.cell rfl) (ld_int (hb2.cell rfl) (ops_spec ⟨_, rfl, ⟨hb2.cell rfl, hb2.cell rfl⟩, in_spec fun b hb' => ⟨_, rfl, hQ b _ hb' f2⟩⟩)))
  · refine bc_eqt rfl (ld_int (hb.cell rfl) (in_spec fun b hb' => ⟨_, rfl, hQ b _ hb' f⟩))
  · refine bc_eqt rfl (ld_int (hb.cell rfl) (ld_int (hb.cell rfl) (right_spec fun b w3 hb' f3 => ⟨_, rfl, bc_bool (fun e => ?_) (fun e => ?_)⟩)))
    · have hb3 := hb.keep' f3
      refine ld_msg hb3 (aims_spec (m := m) (rp := rp) (rc := rc) (lp := lp) (lc := lc) fun c w4 hc f4 => ⟨_, rfl, hQ _ _ ?_ ((f.tr f3).tr f4)⟩)
      rw [hc]
      exact ⟨fun h => ⟨hb'.1 e, h⟩, fun h => h.2⟩
    · refine hQ _ _ ?_ (f.tr f3)
      exact ⟨fun h => (by cases h), fun h => by rw [hb'.2 h.1] at e; cases e⟩
  · refine bc_eqt rfl (ld_int (hb.cell rfl) (serial_spec fun b hb' => ⟨_, rfl, hQ b _ hb' f⟩))
  · refine bc_eqt rfl (ld_int (hb.cell rfl) (in_spec fun b hb' => ⟨_, rfl, hQ b _ hb' f⟩))
  · exact hQ _ _ (by simp [fits]) f
  · refine bc_eqt rfl (ld_int (hb.cell rfl) (in_spec fun b hb' => ⟨_, rfl, hQ b _ hb' f⟩))
  · refine bc_eqt rfl (ld_int (hb2.cell rfl) (ld_int (hb2.cell rfl) (codes_spec ⟨_, rfl, ⟨hb2.cell rfl, hb2.cell rfl⟩, in_spec fun b hb' => ⟨_, rfl, hQ b _ hb' f2⟩⟩)))
  · exact hQ _ _ (by simp [fits]) f
  · refine bc_eqt rfl (ld_sl (hb.cell rfl) (allRight_spec h2.refs rfl h2.rsz fun b w3 hb' f3 => ⟨_, rfl, hQ b _ hb' (f.tr f3)⟩))
  · exact hQ _ _ (by simp [fits]) f
  · refine bc_eqt rfl (ld_sl (hb.cell rfl) (rising_spec h2.list rfl h2.lsz fun b hb' => ⟨_, rfl, hQ b _ hb' f⟩))
theorem bare_spec {i : Nat} (hi : i < 15) (hQ : Ans Q (bare m i) w) : CallR Try.prog 70 #[msgV m rp rc lp lc, .int .i64 ((2 ^ i : Nat) : Int)] w Q := by
  apply X70.sound
  unfold X70.f newK
  obtain ⟨hb, f⟩ := made (w := w) (cs := (m.cells rp rc lp lc).toArray) (e := 40)
  rw [show (⟨w.heap.size, 0, none⟩ : Addr) = at0 w.heap.size 0 from rfl]
  simp only [add_at, Nat.zero_add, Nat.add_zero]
  generalize w.alloc _ = w2 at *
  have hc : i = 0 ∨ i = 1 ∨ i = 2 ∨ i = 3 ∨ i = 4 ∨ i = 5 ∨ i = 6 ∨ i = 7 ∨ i = 8 ∨ i = 9 ∨ i = 10 ∨ i = 11 ∨ i = 12 ∨ i = 13 ∨ i = 14 := by omega
  rcases hc with rfl | rfl | rfl | rfl | rfl | rfl | rfl | rfl | rfl | rfl | rfl | rfl | rfl | rfl | rfl
  all_goals repeat refine bc_eqf (by decide) ?_
  · exact bc_eqt rfl (ld_int (hb.cell rfl) (hQ _ _ (by simp [bare]) f))
  · exact bc_eqt rfl (ld_int (hb.cell rfl) (hQ _ _ (by simp [bare]) f))
  · exact bc_eqt rfl (ld_int (hb.cell rfl) (hQ _ _ (by simp [bare]) f))
  · exact bc_eqt rfl (ld_int (hb.cell rfl) (hQ _ _ (by simp [bare]) f))
  · exact bc_eqt rfl (ld_int (hb.cell rfl) (hQ _ _ (by simp [bare]) f))
  · exact bc_eqt rfl (ld_int (hb.cell rfl) (ld_int (hb.cell rfl) ⟨isS24, hQ _ _ and_noID f⟩))
  · exact bc_eqt rfl (ld_int (hb.cell rfl) (hQ _ _ (by simp [bare]) f))
  · exact bc_eqt rfl (ld_int (hb.cell rfl) (hQ _ _ (by simp [bare]) f))
  · exact bc_eqt rfl (ld_int (hb.cell rfl) (hQ _ _ (by simp [bare]) f))
  · exact bc_eqt rfl (ld_int (hb.cell rfl) (hQ _ _ (by simp [bare]) f))
  · exact bc_eqt rfl (ld_int (hb.cell rfl) (hQ _ _ (by simp [bare]) f))
  · exact bc_eqt rfl (ld_int (hb.cell rfl) (hQ _ _ (by simp [bare]) f))
  · exact bc_eqt rfl (ld_sl (hb.cell rfl) (hQ _ _ (by simp [bare]) f))
  · exact bc_eqt rfl (ld_int (hb.cell rfl) (hQ _ _ (by simp [bare]) f))
  · exact ld_sl (hb.cell rfl) (hQ _ _ (by simp [bare]) f)
theorem hasBit_fin : ∀ k : Fin 12, ∀ i : Fin 15, iAnd .i64 ((fieldsN (k.val : Int) : Nat) : Int) ((2 ^ i.val : Nat) : Int) ≠ 0 ↔ hasF (k.val : Int) i.val = true := by decide +kernel
theorem fieldsN_out {k : Int} (h : ¬ (1 ≤ k ∧ k ≤ 11)) : fieldsN k = 0 := by
  by_cases h2 : fieldsN k = 0
  · exact h2
  · exact absurd (fieldsN_zero.1 h2) h
theorem hasBit {k : Int} {i : Nat} (hi : i < 15) : iAnd .i64 ((fieldsN k : Nat) : Int) ((2 ^ i : Nat) : Int) ≠ 0 ↔ hasF k i = true := by
  by_cases h : 1 ≤ k ∧ k ≤ 11
  · have := hasBit_fin ⟨k.toNat, by omega⟩ ⟨i, hi⟩
    simp only [] at this
    rwa [show ((k.toNat : Nat) : Int) = k by omega] at this
  · have e := fieldsN_out h
    have := hasBit_fin 0 ⟨i, hi⟩
    unfold hasF at *
    rw [e]
    exact this
theorem shl1 {i : Nat} (hi : i < 15) : iShl .i64 ((2 ^ i : Nat) : Int) 1 = ((2 ^ (i + 1) : Nat) : Int) := by
  have key : ∀ i : Fin 15, iShl .i64 ((2 ^ i.val : Nat) : Int) 1 = ((2 ^ (i.val + 1) : Nat) : Int) := by decide +kernel
  exact key ⟨i, hi⟩
theorem right_l0 (hb : Blk w g (m.cells rp rc lp lc) 40) (h : MM w m rp rc lp lc) (hQ : Ans Q (∀ i, i < 15 → okF m i) w) (f : Nat) : ∀ (i : Nat) (w' : World), 15 - i < f → Fr [] w w' → i ≤ 15 → (∀ j, j < i → okF m j) →
    X53.l0 Q f (at0 g 0) ((fieldsN m.kind : Nat) : Int) ((2 ^ i : Nat) : Int) w' := by
  induction f with
  | zero => intro i w' hf; omega
  | succ f ih =>
    intro i w' hf hw hi hp
    rw [X53.l0]
    have hb' := hb.keep' hw
    simp only [add_at, Nat.zero_add, Nat.add_zero]
    generalize hN : (32768 : Int) = N
    refine bc_dec (fun h1 => ?_) (fun h1 => ?_)
    · have hlt : i < 15 := by
        by_cases e : i = 15
        · subst e; subst hN; exact absurd h1 (by decide)
        · omega
      have hbit := hasBit (k := m.kind) hlt
      rw [shl1 hlt]
      have go : okF m i → ∀ w2, Fr [] w w2 → X53.l0 Q f (at0 g 0) ((fieldsN m.kind : Nat) : Int) ((2 ^ (i + 1) : Nat) : Int) w2 := fun ho w2 f2 =>
        ih (i + 1) w2 (by omega) f2 (by omega) (fun j hj => by
          by_cases e : j = i
          · rw [e]; exact ho
          · exact hp j (by omega))
      refine bc_ne (fun hne => ?_) (fun he => ?_)
      · have hh := hbit.1 hne
        refine ld_msg hb' (fits_spec (m := m) (rp := rp) (rc := rc) (lp := lp) (lc := lc) hlt (h.keep' hw) fun b w2 hb2 f2 => ⟨_, rfl, bc_bool (fun e => ?_) (fun e => ?_)⟩)
        · have hbf : b = false := by cases b; rfl; cases e
          subst hbf
          refine hQ _ _ ⟨fun h => (by cases h), fun h => ?_⟩ (hw.tr f2)
          have := h i hlt
          unfold okF at this
          rw [if_pos hh] at this
          exact hb2.2 this
        · have hbt : b = true := by cases b; cases e; rfl
          refine bc_eq (fun h0 => absurd h0 hne) (fun _ => ⟨by decide, go ?_ _ (hw.tr f2)⟩)
          unfold okF
          rw [if_pos hh]
          exact hb2.1 hbt
      · have hh : hasF m.kind i = false := by
          cases e : hasF m.kind i with
          | false => rfl
          | true => exact absurd he (hbit.2 e)
        refine bc_eq (fun _ => ?_) (fun h0 => absurd he h0)
        refine ld_msg hb' (bare_spec (m := m) (rp := rp) (rc := rc) (lp := lp) (lc := lc) hlt fun b w2 hb2 f2 => ⟨_, rfl, bc_bool (fun e => ?_) (fun e => ?_)⟩)
        · have hbf : b = false := by cases b; rfl; cases e
          subst hbf
          refine hQ _ _ ⟨fun h => (by cases h), fun h => ?_⟩ (hw.tr f2)
          have := h i hlt
          unfold okF at this
          rw [if_neg (by simp [hh])] at this
          exact hb2.2 this
        · have hbt : b = true := by cases b; cases e; rfl
          refine ⟨by decide, go ?_ _ (hw.tr f2)⟩
          unfold okF
          rw [if_neg (by simp [hh])]
          exact hb2.1 hbt
    · have : i = 15 := by
        by_cases e : i = 15
        · exact e
        · have : (2 : Nat) ^ i ≤ 2 ^ 14 := Nat.pow_le_pow_right (by omega) (by omega)
          omega
      subst this
      exact hQ _ _ (by simp; exact hp) hw
theorem Right_spec (h : MM w m rp rc lp lc) (hQ : Ans Q (Right m) w) : CallR Try.prog 53 #[msgV m rp rc lp lc] w Q := by
  apply X53.sound
  unfold X53.f newK
  obtain ⟨hb, f⟩ := made (w := w) (cs := (m.cells rp rc lp lc).toArray) (e := 40)
  rw [show (⟨w.heap.size, 0, none⟩ : Addr) = at0 w.heap.size 0 from rfl]
  simp only [add_at, Nat.zero_add, Nat.add_zero]
  have h2 := h.keep' f
  generalize w.alloc _ = w2 at *
  have no : ¬ Right m → Q (.bool false) w2 := fun hn => hQ _ _ ⟨fun h => (by cases h), fun h => absurd h hn⟩ f
  refine ld_int (hb.cell rfl) (fields_spec ⟨_, rfl, bc_eq (fun h0 => no fun h => h.1 (by omega)) (fun h0 => ?_)⟩)
  refine ld_int (hb.cell rfl) (in_spec fun b1 hb1 => ⟨_, rfl, bc_bool (fun e => no fun h => ?_) (fun e1 => ?_)⟩)
  · rw [hb1.2 h.2.1] at e; cases e
  refine ld_int (hb.cell rfl) (in_spec fun b2 hb2 => ⟨_, rfl, bc_bool (fun e => no fun h => ?_) (fun e2 => ?_)⟩)
  · rw [hb2.2 h.2.2.1] at e; cases e
  refine ld_int (hb.cell rfl) (ld_int (hb.cell rfl) (bc_eq (fun e => no fun h => h.2.2.2.1 e) (fun e3 => ?_)))
  unfold X53.j1
  have t1 : b1 = true := by cases b1; cases e1; rfl
  have t2 : b2 = true := by cases b2; cases e2; rfl
  refine ⟨16, right_l0 (w := w2) hb h2 (fun b w3 hb3 f3 => hQ b w3 ?_ (f.tr f3)) 16 0 w2 (by omega) (Fr.refl _) (by omega) (fun j hj => by omega)⟩
  rw [hb3]
  exact ⟨fun h => ⟨fun e => h0 (by rw [e]; rfl), hb1.1 t1, hb2.1 t2, e3, h⟩, fun h => h.2.2.2.2⟩
end
end Go.Proofs.YtnjmkhhaodgpbaaX
