/- A message is the same as itself, wherever its lists lie. -/
import Derived.Test.YtcmkjnoaefkkhaaL2Known
namespace Go.Proofs.YtcmkjnoaefkkhaaX
open Go.RowKit
set_option linter.unusedVariables false
set_option linter.unusedSimpArgs false
set_option maxRecDepth 100000
section
variable {W w : World} {Q : Value → World → Prop} {m : Msg} {rp lp rp' lp' : Option Addr} {rc lc rc' lc' g g' : Nat}
theorem ids_l0 {p q : Option Addr} {n c d : Nat} {l : List (Int × Int)} (hp : Cells w p (l.flatMap idc)) (hq : Cells w q (l.flatMap idc)) (hl : l.length = n) (hn : n ≤ 140737488355328) (hQ : ∀ w', Fr [] w w' → Q (.bool true) w') (f : Nat) :
    ∀ (i : Nat) (w' : World), n - i < f → Fr [] w w' → i ≤ n → X39.l0 Q f p n c q n d (i : Int) w' := by
  induction f with
  | zero => intro i w' hf; omega
  | succ f ih =>
    intro i w' hf hw hi
    rw [X39.l0]
    refine bc_dec (fun h1 => ?_) (fun h1 => hQ _ hw)
    unfold drewK
    have g2 : Fr [] w w'.drew := hw.tr Fr.drew
    have hlt : i < l.length := by omega
    have hg := List.getElem?_eq_getElem hlt
    generalize l[i] = x at hg
    obtain ⟨a, ha, c0⟩ := (hp.keep' g2) _ _ (flat_get idc_len l hg (j := 0) rfl)
    obtain ⟨a', ha', c1⟩ := (hp.keep' g2) _ _ (flat_get idc_len l hg (j := 1) rfl)
    rw [ha] at ha'; injection ha' with ha'; subst ha'
    obtain ⟨b, hb, d0⟩ := (hq.keep' g2) _ _ (flat_get idc_len l hg (j := 0) rfl)
    obtain ⟨b', hb', d1⟩ := (hq.keep' g2) _ _ (flat_get idc_len l hg (j := 1) rfl)
    rw [hb] at hb'; injection hb' with hb'; subst hb'
    simp only [Int.toNat_natCast, add_add]
    refine ⟨⟨by omega, by omega⟩, opt_some ha (ld_int c0 (ld_int c1 ⟨⟨by omega, by omega⟩, opt_some hb (ld_int d0 (ld_int d1 ⟨isS24, ?_⟩))⟩))⟩
    rw [show (!((x.1 == x.1) && ((x.2 == x.2) && true))) = false by simp, bcase_false]
    rw [show IntKind.wrap .i64 ((i : Int) + 1) = ((i + 1 : Nat) : Int) by rw [i64w _ (by omega) (by omega)]; omega]
    exact ih (i + 1) _ (by omega) g2 (by omega)
theorem nums_l0 {p q : Option Addr} {n c d : Nat} {l : List Int} (hp : Cells w p (l.map (Value.int .u64))) (hq : Cells w q (l.map (Value.int .u64))) (hl : l.length = n) (hn : n ≤ 140737488355328) (hQ : ∀ w', Fr [] w w' → Q (.bool true) w') (f : Nat) :
    ∀ (i : Nat) (w' : World), n - i < f → Fr [] w w' → i ≤ n → X40.l0 Q f p n c q n d (i : Int) w' := by
  induction f with
  | zero => intro i w' hf; omega
  | succ f ih =>
    intro i w' hf hw hi
    rw [X40.l0]
    refine bc_dec (fun h1 => ?_) (fun h1 => hQ _ hw)
    unfold drewK
    have g2 : Fr [] w w'.drew := hw.tr Fr.drew
    have hlt : i < l.length := by omega
    have hg := List.getElem?_eq_getElem hlt
    generalize l[i] = x at hg
    obtain ⟨a, ha, c0⟩ := cell_u64 (hp.keep' g2) hg
    obtain ⟨b, hb, d0⟩ := cell_u64 (hq.keep' g2) hg
    simp only [Int.toNat_natCast]
    refine ⟨⟨by omega, by omega⟩, opt_some ha (ld_int c0 ⟨⟨by omega, by omega⟩, opt_some hb (ld_int d0 (bc_ne (fun h => absurd rfl h) (fun _ => ?_)))⟩)⟩
    rw [show IntKind.wrap .i64 ((i : Int) + 1) = ((i + 1 : Nat) : Int) by rw [i64w _ (by omega) (by omega)]; omega]
    exact ih (i + 1) _ (by omega) g2 (by omega)
theorem same_spec (h1 : MM w m rp rc lp lc) (h2 : MM w m rp' rc' lp' lc') (hQ : ∀ w', Fr [] w w' → Q (.bool true) w') : CallR Try.prog 19 #[msgV m rp rc lp lc, msgV m rp' rc' lp' lc'] w Q := by
  apply X19.sound
  unfold X19.f newK
  obtain ⟨hb, f⟩ := made (w := w) (cs := (m.cells rp rc lp lc).toArray) (e := 28)
  rw [show (⟨w.heap.size, 0, none⟩ : Addr) = at0 w.heap.size 0 from rfl]
  generalize hB : w.heap.size = B at *
  generalize w.alloc _ = w2 at *
  obtain ⟨hc, f4⟩ := made (w := w2) (cs := (m.cells rp' rc' lp' lc').toArray) (e := 28)
  rw [show (⟨w2.heap.size, 0, none⟩ : Addr) = at0 w2.heap.size 0 from rfl]
  have hb := hb.keep' f4
  have g4 := f.tr f4
  generalize w2.heap.size = C at *
  generalize w2.alloc _ = w4 at *
  simp only [add_at, Nat.zero_add, Nat.add_zero]
  refine ld_int (hb.cell rfl) (ld_int (hc.cell rfl) (bc_ne (fun h => absurd rfl h) (fun _ => ?_)))
  refine ld_int (hb.cell rfl) (ld_int (hc.cell rfl) (bc_ne (fun h => absurd rfl h) (fun _ => ?_)))
  refine ld_int (hb.cell rfl) (ld_int (hc.cell rfl) (bc_ne (fun h => absurd rfl h) (fun _ => ?_)))
  refine ld_int (hb.cell rfl) (ld_int (hc.cell rfl) (bc_ne (fun h => absurd rfl h) (fun _ => ?_)))
  refine ld_int (hb.cell rfl) (ld_int (hc.cell rfl) (bc_ne (fun h => absurd rfl h) (fun _ => ?_)))
  refine ld_int (hb.cell rfl) (ld_int (hc.cell rfl) (bc_ne (fun h => absurd rfl h) (fun _ => ?_)))
  refine ld_int (hb.cell rfl) (ld_int (hc.cell rfl) (bc_ne (fun h => absurd rfl h) (fun _ => ?_)))
  refine ld_int (hb.cell rfl) (ld_int (hc.cell rfl) (bc_ne (fun h => absurd rfl h) (fun _ => ?_)))
  refine ld_int (hb.cell rfl) (ld_int (hb.cell rfl) (ld_int (hc.cell rfl) (ld_int (hc.cell rfl) ⟨isS24, ?_⟩)))
  rw [show (!((m.tn == m.tn) && ((m.ts == m.ts) && true))) = false by simp, bcase_false]
  refine ld_int (hb.cell rfl) (ld_int (hc.cell rfl) (bc_ne (fun h => absurd rfl h) (fun _ => ?_)))
  refine ld_int (hb.cell rfl) (ld_int (hc.cell rfl) (bc_ne (fun h => absurd rfl h) (fun _ => ?_)))
  unfold X19.j0
  simp only [add_at, Nat.zero_add, Nat.add_zero]
  refine ld_int (hb.cell rfl) (ld_int (hc.cell rfl) (bc_eqt rfl ?_))
  refine ld_int (hb.cell rfl) (ld_int (hc.cell rfl) (bc_eqt rfl ?_))
  refine ld_int (hb.cell rfl) (ld_int (hc.cell rfl) (bc_eqt rfl ?_))
  refine ld_int (hb.cell rfl) (ld_int (hc.cell rfl) (bc_eqt rfl ?_))
  refine ld_int (hb.cell rfl) (ld_int (hc.cell rfl) (bc_eqt rfl ?_))
  refine ld_sl (hb.cell rfl) (ld_sl (hc.cell rfl) (X39.sound _ _ _ _ _ _ _ _ (bc_ne (fun h => absurd rfl h) (fun _ => ⟨m.refs.length + 1, ids_l0 (h1.keep' g4).refs (h2.keep' g4).refs rfl h1.rsz (fun w5 f5 => ⟨_, rfl, bc_bool (fun _ => ?_) (fun h => by cases h)⟩) _ 0 w4 (by omega) (Fr.refl _) (by omega)⟩))))
  have g5 := g4.tr f5
  refine ld_sl ((hb.keep' f5).cell rfl) (ld_sl ((hc.keep' f5).cell rfl) (X40.sound _ _ _ _ _ _ _ _ (bc_ne (fun h => absurd rfl h) (fun _ => ⟨m.list.length + 1, nums_l0 (h1.keep' g5).list (h2.keep' g5).list rfl h1.lsz (fun w6 f6 => ⟨_, rfl, hQ _ (g5.tr f6)⟩) _ 0 w5 (by omega) (Fr.refl _) (by omega)⟩))))
end
end Go.Proofs.YtcmkjnoaefkkhaaX
