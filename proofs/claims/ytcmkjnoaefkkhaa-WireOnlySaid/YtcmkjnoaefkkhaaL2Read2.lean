/- A message is read field by field: the program's way. -/
import Derived.Test.YtcmkjnoaefkkhaaL2Read
namespace Go.Proofs.YtcmkjnoaefkkhaaX
open Go.RowKit
set_option linter.unusedVariables false
set_option linter.unusedSimpArgs false
set_option maxRecDepth 100000
section
variable {e : TypeId} {W w w' : World} {g B R : Nat} {p : Option Addr} {n c : Nat} {bs : List Int} {s : St} {m : Msg} {foot foot2 : List Nat} {Q : Value → World → Prop}
theorem Ob.same {rp lp rp2 lp2 : Option Addr} {rc lc rc2 lc2 : Nat} (h : Ob w B m rp rc lp lc foot) (k : Ob w B m rp2 rc2 lp2 lc2 foot2) : rp = rp2 ∧ rc = rc2 ∧ lp = lp2 ∧ lc = lc2 := by
  have a := h.blk.cell (i := 10) rfl
  have b := k.blk.cell (i := 10) rfl
  rw [a] at b
  injection b with b
  injection b with b1 _ b2
  have a := h.blk.cell (i := 18) rfl
  have b := k.blk.cell (i := 18) rfl
  rw [a] at b
  injection b with b
  injection b with b3 _ b4
  exact ⟨b1, b2, b3, b4⟩
/-- a new block beside -/
theorem Dc.cell_keep {v : Value} {j : Nat} (h : Dc e W w g B R p n c bs s m foot) (hk : ∀ k, k < w.heap.size → k ≠ g → w'.heap[k]? = w.heap[k]?) (hc : w.cell? (at0 B j) = some v) : w'.cell? (at0 B j) = some v := by
  obtain ⟨rp, rc, lp, lc, o⟩ := h.ob
  have hBg : B ≠ g := fun hh => h.gf (by rw [o.ft, ← hh]; simp)
  exact (World.cell?_of_block (hk B o.blk.lt hBg)).trans hc
theorem fr_block {S : List Nat} (f : Fr S w w') (hS : ∀ x ∈ S, x = g) : ∀ k, k < w.heap.size → k ≠ g → w'.heap[k]? = w.heap[k]? := fun k hk hn => f.block k hk (fun hm => hn (hS k hm))
theorem ids_read (f : Nat) : ∀ (k : Nat) (w : World) (s : St) (m : Msg) (foot : List Nat), k < f → m.refs.length + k ≤ 1000 → Dc 90 W w g B R p n c bs s m foot →
    (∀ foot' w', Dc 90 W w' g B R p n c bs (rdIDs bs k m.refs s).2 { m with refs := (rdIDs bs k m.refs s).1 } foot' → Q (.tuple #[]) w') → X44.l0 Q f (some (at0 g 0)) (some (at0 B 0)) (k : Int) w := by
  induction f with
  | zero => intro k w s m foot hf; omega
  | succ f ih =>
    intro k w s m foot hf hl h hK
    rw [X44.l0]
    simp only [optP_some, add_at, Nat.zero_add]
    cases k with
    | zero => exact bc_neg (by omega) (hK foot w h)
    | succ k =>
      refine bc_pos (by omega) ?_
      unfold drewK newK
      have h1 := h.keep' (Fr.drew (w := w))
      obtain ⟨rp, rc, lp, lc, o⟩ := h1.ob
      have c1 := o.blk.cell (i := 10) rfl
      refine ld_sl c1 (readID_spec h1 fun w5 h5 k5 s5 => ⟨_, _, rfl, ?_⟩)
      have c5 := h1.cell_keep k5 c1
      have f9 : Fr [] w5 (w5.alloc (.cells #[.int .i64 (rdID bs s).1.1, .int .u64 (rdID bs s).1.2] 24)) := Fr.alloc _ _
      have h9 := h5.keep' f9
      have bx := Blk.made w5 #[.int .i64 (rdID bs s).1.1, .int .u64 (rdID bs s).1.2] 24
      have c9 := f9.cell' c5
      obtain ⟨rp2, rc2, lp2, lc2, o2⟩ := h9.ob
      have e2 := o2.blk.cell (i := 10) rfl
      rw [c9] at e2
      injection e2 with e2
      injection e2 with e3 _ e4
      subst e3; subst e4
      refine ⟨⟨c1, c5⟩, ⟨c5, c9⟩, ?_⟩
      refine push_ref (x := (rdID bs s).1) h9 o2 (fun j u hj => ⟨_, rfl, ?_⟩) (by simp) (by omega) ?_
      · show World.cell? _ ((at0 w5.heap.size 0).add j) = some u
        rw [add_at, Nat.zero_add]; exact bx.cell hj
      intro foot' w14 h14 _ _
      rw [show IntKind.wrap .u64 (((k + 1 : Nat) : Int) - 1) = (k : Int) by rw [u64w _ (by omega) (by omega)]; omega]
      exact ih k w14 _ _ foot' (by omega) (by simp; omega) h14 hK
theorem ns_read (f : Nat) : ∀ (k : Nat) (w : World) (s : St) (m : Msg) (foot : List Nat), k < f → m.list.length + k ≤ 1000 → Dc 90 W w g B R p n c bs s m foot →
    (∀ foot' w', Dc 90 W w' g B R p n c bs (rdNs bs k m.list s).2 { m with list := (rdNs bs k m.list s).1 } foot' → Q (.tuple #[]) w') → X44.l1 Q f (some (at0 g 0)) (some (at0 B 0)) (k : Int) w := by
  induction f with
  | zero => intro k w s m foot hf; omega
  | succ f ih =>
    intro k w s m foot hf hl h hK
    rw [X44.l1]
    simp only [optP_some, add_at, Nat.zero_add]
    cases k with
    | zero => exact bc_neg (by omega) (hK foot w h)
    | succ k =>
      refine bc_pos (by omega) ?_
      unfold drewK newK
      have h1 := h.keep' (Fr.drew (w := w))
      obtain ⟨rp, rc, lp, lc, o⟩ := h1.ob
      have c1 := o.blk.cell (i := 18) rfl
      refine ld_sl c1 (h1.num fun w5 h5 f5 => ⟨_, rfl, ?_⟩)
      have c5 := h1.cell_keep (fr_block f5 (by simp)) c1
      have f9 : Fr [] w5 (w5.alloc (.cells #[.int .u64 (readNum bs s.1 s.2 72057594037927935).1] 22)) := Fr.alloc _ _
      have h9 := h5.keep' f9
      have bx := Blk.made w5 #[.int .u64 (readNum bs s.1 s.2 72057594037927935).1] 22
      have c9 := f9.cell' c5
      obtain ⟨rp2, rc2, lp2, lc2, o2⟩ := h9.ob
      have e2 := o2.blk.cell (i := 18) rfl
      rw [c9] at e2
      injection e2 with e2
      injection e2 with e3 _ e4
      subst e3; subst e4
      refine ⟨⟨c1, c5⟩, ⟨c5, c9⟩, ?_⟩
      refine push_num (x := (readNum bs s.1 s.2 72057594037927935).1) h9 o2 (fun j u hj => ⟨_, rfl, ?_⟩) (by simp) (by omega) ?_
      · show World.cell? _ ((at0 w5.heap.size 0).add j) = some u
        rw [add_at, Nat.zero_add]; exact bx.cell hj
      intro foot' w14 h14 _ _
      rw [show IntKind.wrap .u64 (((k + 1 : Nat) : Int) - 1) = (k : Int) by rw [u64w _ (by omega) (by omega)]; omega]
      exact ih k w14 _ _ foot' (by omega) (by simp; omega) h14 hK
theorem num_most {a : Nat} {bad most : Int} (hm : 0 ≤ most) : (readNum bs a bad most).1 ≤ most := by
  unfold readNum
  split
  · exact hm
  · split
    · exact hm
    · split
      · exact hm
      · rename_i h; simp only; omega
theorem opsN_u8 (k : Int) : IntKind.wrap .u8 (opsN k) = opsN k := by unfold opsN; split <;> decide
theorem codesN_u8 (k : Int) : IntKind.wrap .u8 (codesN k) = codesN k := by unfold codesN; split <;> decide
theorem read_spec {i : Nat} (hi : i < 15) (h : Dc 90 W w g B R p n c bs s m foot) (hr : m.refs.length ≤ 100) (hl : m.list.length ≤ 100)
    (hK : ∀ foot' w', Dc 90 W w' g B R p n c bs (readF bs i (m, s)).2 (readF bs i (m, s)).1 foot' → Q (.tuple #[]) w') : CallR Try.prog 44 #[.pointer (some (at0 g 0)), .pointer (some (at0 B 0)), .int .i64 ((2 ^ i : Nat) : Int)] w Q := by
  refine X44.sound _ _ _ _ _ ?_
  unfold X44.f
  simp only [optP_some, add_at, Nat.zero_add]
  have nr : ∀ {most : Int} {a : Nat} {bad : Int}, 0 ≤ (readNum bs a bad most).1 := fun {most a bad} => (readNum_range (bs := bs) (a := a) (bad := bad) (most := most) h.wf).1
  have hc : i = 0 ∨ i = 1 ∨ i = 2 ∨ i = 3 ∨ i = 4 ∨ i = 5 ∨ i = 6 ∨ i = 7 ∨ i = 8 ∨ i = 9 ∨ i = 10 ∨ i = 11 ∨ i = 12 ∨ i = 13 ∨ i = 14 := by omega
  rcases hc with rfl | rfl | rfl | rfl | rfl | rfl | rfl | rfl | rfl | rfl | rfl | rfl | rfl | rfl | rfl
  all_goals repeat refine bc_eqf (by decide) ?_
  all_goals refine bc_eqt rfl ?_
  · refine h.num fun w2 h2 _ => ⟨_, rfl, ?_⟩
    obtain ⟨a, b⟩ := Dc.store (m := m) (m' := (readF bs 0 (m, s)).1) (j := 3) (v := .int .u64 (readNum bs s.1 s.2 72057594037927935).1) (fun _ _ _ _ => rfl) rfl rfl (by omega) h2
    exact ⟨a, hK _ _ b⟩
  · refine h.num fun w2 h2 _ => ⟨_, rfl, ?_⟩
    obtain ⟨a, b⟩ := Dc.store (m := m) (m' := (readF bs 1 (m, s)).1) (j := 4) (v := .int .u64 (readNum bs s.1 s.2 18446744073709551615).1) (fun _ _ _ _ => rfl) rfl rfl (by omega) h2
    exact ⟨a, hK _ _ b⟩
  · refine h.num fun w2 h2 _ => ⟨_, rfl, ?_⟩
    have := num_most (bs := bs) (a := s.1) (bad := s.2) (most := 4095) (by omega)
    have := nr (most := 4095) (a := s.1) (bad := s.2)
    rw [i64w (readNum bs s.1 s.2 4095).1 (by omega) (by omega)]
    obtain ⟨a, b⟩ := Dc.store (m := m) (m' := (readF bs 2 (m, s)).1) (j := 7) (v := .int .i64 (readNum bs s.1 s.2 4095).1) (fun _ _ _ _ => rfl) rfl rfl (by omega) h2
    exact ⟨a, hK _ _ b⟩
  · obtain ⟨rp, rc, lp, lc, o⟩ := h.ob
    refine ld_int (o.blk.cell rfl) (ops_spec ⟨_, rfl, ?_⟩)
    rw [opsN_u8]
    refine h.byte fun w2 h2 _ => ⟨_, rfl, ?_⟩
    rw [byte_i64 h]
    obtain ⟨a, b⟩ := Dc.store (m := m) (m' := (readF bs 3 (m, s)).1) (j := 5) (v := .int .i64 (readByte bs s.1 s.2 (opsN m.kind)).1) (fun _ _ _ _ => rfl) rfl rfl (by omega) h2
    exact ⟨a, hK _ _ b⟩
  · refine h.byte fun w2 h2 _ => ⟨_, rfl, ?_⟩
    rw [byte_i64 h]
    obtain ⟨a, b⟩ := Dc.store (m := m) (m' := (readF bs 4 (m, s)).1) (j := 6) (v := .int .i64 (readByte bs s.1 s.2 63).1) (fun _ _ _ _ => rfl) rfl rfl (by omega) h2
    exact ⟨a, hK _ _ b⟩
  · refine readID_spec h fun w2 h2 _ _ => ⟨_, _, rfl, ?_⟩
    obtain ⟨rp, rc, lp, lc, o⟩ := h2.ob
    refine stAll_blk o.blk (by simp) ?_
    intro w3 b3 f3
    refine hK foot w3 (h2.upd (m' := (readF bs 5 (m, s)).1) (rp := rp) (rc := rc) (lp := lp) (lc := lc) ⟨b3, o.refs.keep f3 (fun x hx hm => o.br (by simp at hm; rwa [← hm])), o.list.keep f3 (fun x hx hm => o.bl (by simp at hm; rwa [← hm])), o.br, o.bl, o.rl, o.ft⟩ (f3.mono fun x hx => by rw [o.ft]; simp at hx; simp [hx]) (fun x hx => .inl hx))
  · refine h.num fun w2 h2 _ => ⟨_, rfl, ?_⟩
    obtain ⟨a, b⟩ := Dc.store (m := m) (m' := (readF bs 6 (m, s)).1) (j := 13) (v := .int .u64 (readNum bs s.1 s.2 72057594037927935).1) (fun _ _ _ _ => rfl) rfl rfl (by omega) h2
    exact ⟨a, hK _ _ b⟩
  · refine h.byte fun w2 h2 _ => ⟨_, rfl, ?_⟩
    rw [byte_i64 h]
    obtain ⟨a, b⟩ := Dc.store (m := m) (m' := (readF bs 7 (m, s)).1) (j := 14) (v := .int .i64 (readByte bs s.1 s.2 64).1) (fun _ _ _ _ => rfl) rfl rfl (by omega) h2
    exact ⟨a, hK _ _ b⟩
  · refine h.num fun w2 h2 _ => ⟨_, rfl, ?_⟩
    obtain ⟨a, b⟩ := Dc.store (m := m) (m' := (readF bs 8 (m, s)).1) (j := 15) (v := .int .u64 (readNum bs s.1 s.2 18446744073709551615).1) (fun _ _ _ _ => rfl) rfl rfl (by omega) h2
    exact ⟨a, hK _ _ b⟩
  · refine h.byte fun w2 h2 _ => ⟨_, rfl, ?_⟩
    rw [byte_i64 h]
    obtain ⟨a, b⟩ := Dc.store (m := m) (m' := (readF bs 9 (m, s)).1) (j := 16) (v := .int .i64 (readByte bs s.1 s.2 40).1) (fun _ _ _ _ => rfl) rfl rfl (by omega) h2
    exact ⟨a, hK _ _ b⟩
  · obtain ⟨rp, rc, lp, lc, o⟩ := h.ob
    refine ld_int (o.blk.cell rfl) (codes_spec ⟨_, rfl, ?_⟩)
    rw [codesN_u8]
    refine h.byte fun w2 h2 _ => ⟨_, rfl, ?_⟩
    rw [byte_i64 h]
    obtain ⟨a, b⟩ := Dc.store (m := m) (m' := (readF bs 10 (m, s)).1) (j := 12) (v := .int .i64 (readByte bs s.1 s.2 (codesN m.kind)).1) (fun _ _ _ _ => rfl) rfl rfl (by omega) h2
    exact ⟨a, hK _ _ b⟩
  · refine h.num fun w2 h2 _ => ⟨_, rfl, ?_⟩
    obtain ⟨a, b⟩ := Dc.store (m := m) (m' := (readF bs 11 (m, s)).1) (j := 11) (v := .int .u64 (readNum bs s.1 s.2 18446744073709551615).1) (fun _ _ _ _ => rfl) rfl rfl (by omega) h2
    exact ⟨a, hK _ _ b⟩
  · refine h.num fun w2 h2 _ => ⟨_, rfl, ?_⟩
    have h3 := num_most (bs := bs) (a := s.1) (bad := s.2) (most := 2) (by omega)
    have h4 := nr (most := 2) (a := s.1) (bad := s.2)
    obtain ⟨N, hN⟩ := Int.eq_ofNat_of_zero_le h4
    have hK2 : ∀ foot' w', Dc 90 W w' g B R p n c bs (rdIDs bs N m.refs (readNum bs s.1 s.2 2).2).2 { m with refs := (rdIDs bs N m.refs (readNum bs s.1 s.2 2).2).1 } foot' → Q (.tuple #[]) w' := by
      intro foot' w' hd
      refine hK foot' w' ?_
      simp only [readF]
      rw [hN, Int.toNat_natCast]
      exact hd
    rw [hN]
    exact ⟨N + 1, ids_read (N + 1) N w2 _ m foot (by omega) (by omega) h2 hK2⟩
  · refine h.num fun w2 h2 _ => ⟨_, rfl, ?_⟩
    obtain ⟨a, b⟩ := Dc.store (m := m) (m' := (readF bs 13 (m, s)).1) (j := 17) (v := .int .u64 (readNum bs s.1 s.2 18446744073709551615).1) (fun _ _ _ _ => rfl) rfl rfl (by omega) h2
    exact ⟨a, hK _ _ b⟩
  · refine h.num fun w2 h2 _ => ⟨_, rfl, ?_⟩
    have h3 := num_most (bs := bs) (a := s.1) (bad := s.2) (most := 64) (by omega)
    have h4 := nr (most := 64) (a := s.1) (bad := s.2)
    obtain ⟨N, hN⟩ := Int.eq_ofNat_of_zero_le h4
    have hK2 : ∀ foot' w', Dc 90 W w' g B R p n c bs (rdNs bs N m.list (readNum bs s.1 s.2 64).2).2 { m with list := (rdNs bs N m.list (readNum bs s.1 s.2 64).2).1 } foot' → Q (.tuple #[]) w' := by
      intro foot' w' hd
      refine hK foot' w' ?_
      simp only [readF]
      rw [hN, Int.toNat_natCast]
      exact hd
    rw [hN]
    exact ⟨N + 1, ns_read (N + 1) N w2 _ m foot (by omega) (by omega) h2 hK2⟩
end
end Go.Proofs.YtcmkjnoaefkkhaaX
