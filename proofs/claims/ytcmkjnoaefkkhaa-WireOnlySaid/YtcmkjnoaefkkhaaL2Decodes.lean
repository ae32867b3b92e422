/- WireDecodes, WireSealed: any bytes are a message, or refused, as the document says. -/
import Derived.Test.YtcmkjnoaefkkhaaL2RDec
namespace Go.Proofs.YtcmkjnoaefkkhaaX
open Go.RowKit
set_option linter.unusedVariables false
set_option linter.unusedSimpArgs false
set_option maxRecDepth 100000
section
variable {W w : World} {Q : Value → World → Prop} {n c : Nat} {bs : List Int}
/-- a message is put into a block of its own -/
theorem put_new {m : Msg} {rp lp : Option Addr} {rc lc : Nat} {K : Addr → World → Prop} (h : ∀ g w', Blk w' g (m.cells rp rc lp lc) 28 → Fr [] w w' → w.heap.size ≤ g → K (at0 g 0) w') :
    newK w #[.int .i64 (0 : Int), .int .i64 (0 : Int), .int .i64 (0 : Int), .int .u64 (0 : Int), .int .u64 (0 : Int), .int .i64 (0 : Int), .int .i64 (0 : Int), .int .i64 (0 : Int), .int .i64 (0 : Int), .int .u64 (0 : Int), .slice none 0 0, .int .u64 (0 : Int), .int .i64 (0 : Int), .int .u64 (0 : Int), .int .i64 (0 : Int), .int .u64 (0 : Int), .int .i64 (0 : Int), .int .u64 (0 : Int), .slice none 0 0] 28 fun g w2 => stAll w2 g (m.cells rp rc lp lc) fun w3 => K g w3 := by
  unfold newK
  have hb := Blk.made w #[.int .i64 (0 : Int), .int .i64 (0 : Int), .int .i64 (0 : Int), .int .u64 (0 : Int), .int .u64 (0 : Int), .int .i64 (0 : Int), .int .i64 (0 : Int), .int .i64 (0 : Int), .int .i64 (0 : Int), .int .u64 (0 : Int), .slice none 0 0, .int .u64 (0 : Int), .int .i64 (0 : Int), .int .u64 (0 : Int), .int .i64 (0 : Int), .int .u64 (0 : Int), .int .i64 (0 : Int), .int .u64 (0 : Int), .slice none 0 0] 28
  have f : Fr [] w (w.alloc (.cells #[.int .i64 (0 : Int), .int .i64 (0 : Int), .int .i64 (0 : Int), .int .u64 (0 : Int), .int .u64 (0 : Int), .int .i64 (0 : Int), .int .i64 (0 : Int), .int .i64 (0 : Int), .int .i64 (0 : Int), .int .u64 (0 : Int), .slice none 0 0, .int .u64 (0 : Int), .int .i64 (0 : Int), .int .u64 (0 : Int), .int .i64 (0 : Int), .int .u64 (0 : Int), .int .i64 (0 : Int), .int .u64 (0 : Int), .slice none 0 0] 28)) := Fr.alloc _ _
  rw [show (⟨w.heap.size, 0, none⟩ : Addr) = at0 w.heap.size 0 from rfl]
  refine stAll_blk (o := 0) hb (by simp) ?_
  intro w' b' f'
  exact h _ w' b' (f.trans f' (fun x hx => .inr (by simp at hx; omega))) (Nat.le_refl _)
theorem DecM.after {w0 w1 : World} {m : Msg} {rp lp : Option Addr} {rc lc : Nat} (h : DecM w w0 m rp rc lp lc) (f : Fr [] w0 w1) : DecM w w1 m rp rc lp lc := ⟨h.refs.keep' f, h.list.keep' f, h.nr, h.nl, h.rl, h.r2, h.l2, h.fr.tr f⟩
theorem wireDecodes {x : Option Addr} (hb : ByS w x n c bs) (hn : n ≤ 140737488354000) : CallR Try.prog 6 #[.slice x n c] w fun v w' => v = .bool true ∧ Fr [] w w' := by
  refine X6.sound _ _ _ _ _ ?_
  unfold X6.f
  refine app_new hb (by omega) ?_
  intro p c1 w4 o4 f4 e4
  have hown := ByS.of_own o4 hb.wf
  refine ⟨_, _, _, rfl, Decode_spec hown hn ?_⟩
  intro rp rc lp lc w7 d7
  refine ⟨_, _, _, _, _, _, _, _, _, _, _, _, _, _, _, _, _, _, _, _, _, _, _, _, rfl, put_new (m := (decOf bs).1) (rp := rp) (rc := rc) (lp := lp) (lc := lc) fun g w30 b30 f30 _ => ?_⟩
  have d30 := d7.after f30
  have h30 : Fr [] w w30 := f4.tr d30.fr
  refine RDecode_spec (hb.keep' h30) hn ?_
  intro rp2 rc2 lp2 lc2 w32 d32
  refine ⟨_, _, _, _, _, _, _, _, _, _, _, _, _, _, _, _, _, _, _, _, _, _, _, _, rfl, put_new (m := (decOf bs).1) (rp := rp2) (rc := rc2) (lp := lp2) (lc := lc2) fun g2 w55 b55 f55 _ => ?_⟩
  have d55 := d32.after f55
  simp only [add_at, Nat.zero_add, Nat.add_zero]
  refine known_spec fun w57 f57 => ⟨_, rfl, bc_bool (fun _ => ?_) (fun h => by cases h)⟩
  have f3057 : Fr [] w30 w57 := d55.fr.tr f57
  refine ld_msg (b30.keep' f3057) (ld_msg (b55.keep' f57) (same_spec (m := (decOf bs).1) (rp := rp) (rc := rc) (lp := lp) (lc := lc) (rp' := rp2) (rc' := rc2) (lp' := lp2) (lc' := lc2) (d30.after f3057).mm (d55.after f57).mm fun w98 f98 => ⟨_, rfl, bc_bool (fun _ => bc_eqt rfl ?_) (fun h => by cases h)⟩))
  have f98' : Fr [] w w98 := h30.tr (f3057.tr f98)
  refine ⟨bs, (hown.keep' (d30.fr.tr (f3057.tr f98))).at_, bs, (hb.keep' f98').at_, ?_, f98'⟩
  simp [strEq]
theorem wireDecodes_row {x : Option Addr} {zs : List Int} (h : IsRow .u8 w x n c zs) (hn : n * 1 ≤ 140737488351232) : CallR Try.prog 6 #[.slice x n c] w fun v w' => v = .bool true ∧ Fr [] w w' := wireDecodes (ByS.of_row h) (by omega)
theorem wireSealed {x : Option Addr} (hb : ByS w x n c bs) (hn : n ≤ 140737488353000) : CallR Try.prog 7 #[.slice x n c] w fun v w' => v = .bool true ∧ Fr [] w w' := by
  refine X7.sound _ _ _ _ _ ?_
  unfold X7.f
  refine rseal_spec hb (by omega) ?_
  intro p c' w2 o2 f2 e2
  have hs : ByS w2 p (n + 4) c' (sealOf bs) := ByS.of_own o2 (sealOf_wf hb.wf)
  refine ⟨_, _, _, rfl, (wireDecodes hs (by omega)).mono fun v w5 h => ?_⟩
  obtain ⟨h1, h2⟩ := h
  exact ⟨true, h1, rfl, f2.tr h2⟩
theorem wireSealed_row {x : Option Addr} {zs : List Int} (h : IsRow .u8 w x n c zs) (hn : n * 1 ≤ 140737488351232) : CallR Try.prog 7 #[.slice x n c] w fun v w' => v = .bool true ∧ Fr [] w w' := wireSealed (ByS.of_row h) (by omega)
end
end Go.Proofs.YtcmkjnoaefkkhaaX
