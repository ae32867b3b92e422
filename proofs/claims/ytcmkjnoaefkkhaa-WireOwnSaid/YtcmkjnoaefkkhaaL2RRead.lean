/- A message is read field by field: the document's way. -/
import Derived.Test.YtcmkjnoaefkkhaaL2Dec
namespace Go.Proofs.YtcmkjnoaefkkhaaX
open Go.RowKit
set_option linter.unusedVariables false
set_option linter.unusedSimpArgs false
set_option maxRecDepth 100000
/-- a field is zero -/
def fz : Nat → Msg → Prop
  | 0, m => m.call = 0
  | 1, m => m.floor = 0
  | 2, m => m.item = 0
  | 3, m => m.op = 0
  | 4, m => m.field = 0
  | 6, m => m.seq = 0
  | 7, m => m.voucher = 0
  | 8, m => m.at_ = 0
  | 9, m => m.dist = 0
  | 10, m => m.code = 0
  | 11, m => m.value = 0
  | 13, m => m.stamp = 0
  | _, _ => True
theorem fz_readFR {bs : List Int} {i j : Nat} (hi : i < 15) (hj : j < 15) (hne : j ≠ i) {x : Msg × St} (h : fz j x.1) : fz j (readFR bs i x).1 := by
  have hc : i = 0 ∨ i = 1 ∨ i = 2 ∨ i = 3 ∨ i = 4 ∨ i = 5 ∨ i = 6 ∨ i = 7 ∨ i = 8 ∨ i = 9 ∨ i = 10 ∨ i = 11 ∨ i = 12 ∨ i = 13 ∨ i = 14 := by omega
  have hd : j = 0 ∨ j = 1 ∨ j = 2 ∨ j = 3 ∨ j = 4 ∨ j = 5 ∨ j = 6 ∨ j = 7 ∨ j = 8 ∨ j = 9 ∨ j = 10 ∨ j = 11 ∨ j = 12 ∨ j = 13 ∨ j = 14 := by omega
  rcases hc with rfl | rfl | rfl | rfl | rfl | rfl | rfl | rfl | rfl | rfl | rfl | rfl | rfl | rfl | rfl <;>
  rcases hd with rfl | rfl | rfl | rfl | rfl | rfl | rfl | rfl | rfl | rfl | rfl | rfl | rfl | rfl | rfl <;> first | exact absurd rfl hne | exact h
/-- these fields are zero -/
def Zf (L : List Nat) (m : Msg) : Prop := ∀ j ∈ L, j < 15 ∧ fz j m
theorem Zf.step {bs : List Int} {k : Int} {i : Nat} {L : List Nat} {m : Msg} {s : St} (hi : i < 15) (h : Zf (i :: L) m) (hn : i ∉ L) : Zf L (rst bs k i (m, s)).1 := by
  intro j hj
  obtain ⟨h1, h2⟩ := h j (by simp [hj])
  refine ⟨h1, ?_⟩
  unfold rst
  split
  · exact fz_readFR hi h1 (fun e => hn (e ▸ hj)) h2
  · exact h2
theorem Zf.head {i : Nat} {L : List Nat} {m : Msg} (h : Zf (i :: L) m) : fz i m := (h i (by simp)).2
theorem Zf.tail {i : Nat} {L : List Nat} {m : Msg} (h : Zf (i :: L) m) : Zf L m := fun j hj => h j (by simp [hj])
theorem readFR_kind {bs : List Int} {i : Nat} {x : Msg × St} : (readFR bs i x).1.kind = x.1.kind := by
  unfold readFR
  split
  · rfl
  · rfl
  · exact readF_kind
theorem rst_kind {bs : List Int} {k : Int} {i : Nat} {x : Msg × St} : (rst bs k i x).1.kind = x.1.kind := by
  unfold rst
  split
  · exact readFR_kind
  · rfl
section
variable {W w : World} {g B R : Nat} {p : Option Addr} {n c : Nat} {bs : List Int} {s : St} {m : Msg} {foot : List Nat} {Q : Value → World → Prop}
theorem Dc.rbyte {most : Int} (h : Dc 68 W w g B R p n c bs s m foot) (hQ : ∀ w', Dc 68 W w' g B R p n c bs (readByte bs s.1 s.2 most).2 m foot → Fr [g] w w' → Q (.int .u8 (readByte bs s.1 s.2 most).1) w') : CallR Try.prog 47 #[.pointer (some (at0 g 0)), .int .u8 most] w Q :=
  rbyte_spec h.rd fun w' hr f => hQ w' (h.read hr f) f
theorem Dc.rnum {most : Int} (h : Dc 68 W w g B R p n c bs s m foot) (hQ : ∀ w', Dc 68 W w' g B R p n c bs (readNum bs s.1 s.2 most).2 m foot → Fr [g] w w' → Q (.int .u64 (readNum bs s.1 s.2 most).1) w') : CallR Try.prog 75 #[.pointer (some (at0 g 0)), .int .u64 most] w Q :=
  rnum35_spec h.rd fun w' hr f => hQ w' (h.read hr f) f
theorem rbyte_i64 (h : Dc 68 W w g B R p n c bs s m foot) {a : Nat} {bad most : Int} : IntKind.wrap .i64 (readByte bs a bad most).1 = (readByte bs a bad most).1 := by
  have := readByte_range (bs := bs) (a := a) (bad := bad) (most := most) h.wf
  exact i64w _ (by omega) (by omega)
theorem rreadID_spec (h : Dc 68 W w g B R p n c bs s m foot) (hQ : ∀ w', Dc 68 W w' g B R p n c bs (rdID bs s).2 m foot → (∀ k, k < w.heap.size → k ≠ g → w'.heap[k]? = w.heap[k]?) → w.heap.size ≤ w'.heap.size → Q (.agg #[.int .i64 (rdID bs s).1.1, .int .u64 (rdID bs s).1.2]) w') : CallR Try.prog 74 #[.pointer (some (at0 g 0))] w Q := by
  refine X74.sound _ _ _ ?_
  unfold X74.f newK
  obtain ⟨hb, f⟩ := made (w := w) (cs := #[.int .i64 0, .int .u64 0]) (e := 24)
  rw [show (⟨w.heap.size, 0, none⟩ : Addr) = at0 w.heap.size 0 from rfl]
  have h2 := h.keep' f
  have hgl := h.rd.blk.lt
  have hfl := h.fl
  have hRl := h.res.lt
  have hpl := h.pg
  have sW := h.fr.size
  have s2 := f.size
  have f2 := f
  generalize hC : w.heap.size = C at *
  generalize w.alloc _ = w2 at *
  refine h2.rbyte ?_
  intro w4 h4 f4
  refine ⟨_, rfl, h4.rnum ?_⟩
  intro w7 h7 f7
  have b4 := hb.keep f4 (by simp; omega)
  have b7 := b4.keep f7 (by simp; omega)
  refine ⟨_, rfl, ?_⟩
  rw [rbyte_i64 h]
  refine stAll_blk (o := 0) b7 (by simp) ?_
  intro w9 b9 f9
  have cC : C ∉ foot := fun hm => by have := hfl C hm; omega
  have h9 : Dc 68 W w9 g B R p n c bs (rdID bs s).2 m foot := by
    obtain ⟨rp, rc, lp, lc, o⟩ := h7.ob
    exact ⟨h7.rd.keep f9 (by simp; omega) (fun hne k hk hm => by have := hpl hne k hk; simp at hm; omega), ⟨rp, rc, lp, lc, o.keep f9 (fun x hx hm => by simp at hm; subst hm; exact cC hx)⟩, h7.res.keep f9 (by simp; omega), h7.gf, h7.pf, h7.pg, h7.rf, h7.rg, h7.gW, h7.fW, fr_local h7.fr f9 (fun x hx => by simp at hx; omega)⟩
  simp only [add_at, Nat.zero_add]
  refine ld_int (b9.cell rfl) (ld_int (b9.cell rfl) (hQ w9 h9 (fun k hk hg => ?_) ?_))
  · have e1 := f9.block k (by have := f4.size; have := f7.size; omega) (by simp; omega)
    have e2 := f7.block k (by have := f4.size; omega) (by simp; exact hg)
    have e3 := f4.block k (by omega) (by simp; exact hg)
    have e4 := f2.block k (by omega) (by simp)
    rw [e1, e2, e3, e4]
  · have := f4.size; have := f7.size; have := f9.size; omega
/-- the document's fields object -/
abbrev fcells (k : Int) (g : Nat) : List Value := [.int .i64 k, .pointer (some (at0 g 0))]
theorem fnum_spec {k most : Int} (i : Nat) (hi : i < 15) (h : Dc 68 W w g B R p n c bs s m foot) (hQ : ∀ w', Dc 68 W w' g B R p n c bs (if hasF k i then (readNum bs s.1 s.2 most).2 else s) m foot → (∀ k, k < w.heap.size → k ≠ g → w'.heap[k]? = w.heap[k]?) → Q (.int .u64 (if hasF k i then (readNum bs s.1 s.2 most).1 else 0)) w') :
    CallR Try.prog 72 #[.agg #[.int .i64 k, .pointer (some (at0 g 0))], .string (fname i), .int .u64 most] w Q := by
  refine X72.sound _ _ _ _ _ _ ?_
  unfold X72.f newK
  obtain ⟨hb, f⟩ := made (w := w) (cs := #[.int .i64 k, .pointer (some (at0 g 0))]) (e := 96)
  rw [show (⟨w.heap.size, 0, none⟩ : Addr) = at0 w.heap.size 0 from rfl]
  have h2 := h.keep' f
  have s2 := f.size
  have f0 := f
  generalize hC : w.heap.size = C at *
  generalize w.alloc _ = w2 at *
  simp only [add_at, Nat.zero_add]
  refine ld_int (hb.cell rfl) (has_spec i hi fun w5 f5 => ⟨_, rfl, ?_⟩)
  have h5 := h2.keep' f5
  have b5 := hb.keep' f5
  refine bc_bool (fun hh => ?_) (fun hh => ?_)
  · have hf : hasF k i = false := by cases e : hasF k i; rfl; rw [e] at hh; cases hh
    have := hQ w5 (by rw [hf]; exact h5) (fun j hj hg => by rw [f5.block j (by omega) (by simp), f0.block j (by omega) (by simp)])
    rw [hf] at this
    exact this
  · have hf : hasF k i = true := by cases e : hasF k i; rw [e] at hh; cases hh; rfl
    rw [if_pos hf] at hQ
    rw [if_pos hf] at hQ
    refine ld_ptr (b5.cell rfl) (h5.rnum fun w9 h9 f9 => ⟨_, rfl, hQ w9 h9 (fun j hj hg => ?_)⟩)
    rw [f9.block j (by have := f5.size; omega) (by simp; exact hg), f5.block j (by omega) (by simp), f0.block j (by omega) (by simp)]
theorem fone_spec {k most : Int} (i : Nat) (hi : i < 15) (h : Dc 68 W w g B R p n c bs s m foot) (hQ : ∀ w', Dc 68 W w' g B R p n c bs (if hasF k i then (readByte bs s.1 s.2 most).2 else s) m foot → (∀ k, k < w.heap.size → k ≠ g → w'.heap[k]? = w.heap[k]?) → Q (.int .i64 (if hasF k i then (readByte bs s.1 s.2 most).1 else 0)) w') :
    CallR Try.prog 73 #[.agg #[.int .i64 k, .pointer (some (at0 g 0))], .string (fname i), .int .u8 most] w Q := by
  refine X73.sound _ _ _ _ _ _ ?_
  unfold X73.f newK
  obtain ⟨hb, f⟩ := made (w := w) (cs := #[.int .i64 k, .pointer (some (at0 g 0))]) (e := 96)
  rw [show (⟨w.heap.size, 0, none⟩ : Addr) = at0 w.heap.size 0 from rfl]
  have h2 := h.keep' f
  have s2 := f.size
  have f0 := f
  generalize hC : w.heap.size = C at *
  generalize w.alloc _ = w2 at *
  simp only [add_at, Nat.zero_add]
  refine ld_int (hb.cell rfl) (has_spec i hi fun w5 f5 => ⟨_, rfl, ?_⟩)
  have h5 := h2.keep' f5
  have b5 := hb.keep' f5
  refine bc_bool (fun hh => ?_) (fun hh => ?_)
  · have hf : hasF k i = false := by cases e : hasF k i; rfl; rw [e] at hh; cases hh
    have := hQ w5 (by rw [hf]; exact h5) (fun j hj hg => by rw [f5.block j (by omega) (by simp), f0.block j (by omega) (by simp)])
    rw [hf] at this
    exact this
  · have hf : hasF k i = true := by cases e : hasF k i; rw [e] at hh; cases hh; rfl
    rw [if_pos hf] at hQ
    rw [if_pos hf] at hQ
    refine ld_ptr (b5.cell rfl) (h5.rbyte fun w9 h9 f9 => ⟨_, rfl, ?_⟩)
    rw [rbyte_i64 h]
    refine hQ w9 h9 (fun j hj hg => ?_)
    rw [f9.block j (by have := f5.size; omega) (by simp; exact hg), f5.block j (by omega) (by simp), f0.block j (by omega) (by simp)]
/-- a field of the message is stored, by a number that was read -/
theorem step_num {k most : Int} {i j F : Nat} {cv : Int → Value} {K : World → Prop} (setv : Int → Msg) (hi : i < 15) (hrd : readFR bs i (m, s) = (setv (readNum bs s.1 s.2 most).1, (readNum bs s.1 s.2 most).2)) (h0 : setv 0 = m)
    (hc : ∀ v, (v = 0 ∨ v = (readNum bs s.1 s.2 most).1) → ∀ rp rc lp lc, (m.cells rp rc lp lc).set j (cv v) = (setv v).cells rp rc lp lc) (hr : ∀ v, (setv v).refs = m.refs) (hl : ∀ v, (setv v).list = m.list) (hj : j < 19)
    (h : Dc 68 W w g B R p n c bs s m foot) (hF : Blk w F (fcells k g) 96) (hFf : F ∉ foot) (hFg : F ≠ g)
    (hK : ∀ w', Dc 68 W w' g B R p n c bs (rst bs k i (m, s)).2 (rst bs k i (m, s)).1 foot → Blk w' F (fcells k g) 96 → K w') :
    ldI .i64 w (at0 F 0) fun x1 => ldP w (at0 F 1) fun x2 => CallR Try.prog 72 #[.agg #[.int .i64 x1, .pointer x2], .string (fname i), .int .u64 most] w fun v3 w4 => ∃ (y5 : Int), v3 = .int .u64 y5 ∧ stK w4 (at0 B j) (cv y5) fun w7 => K w7 := by
  refine ld_int (hF.cell rfl) (ld_ptr (hF.cell rfl) (fnum_spec i hi h fun w' h' k' => ⟨_, rfl, ?_⟩))
  have hF' : Blk w' F (fcells k g) 96 := by unfold Blk at hF ⊢; rw [k' F (by have := hF; exact (Array.getElem?_eq_some_iff.1 this).1) hFg]; exact hF
  unfold rst at hK
  have fin : ∀ {v : Value} {m' : Msg} {s' : St}, Dc 68 W w' g B R p n c bs s' m foot → (∀ rp rc lp lc, (m.cells rp rc lp lc).set j v = m'.cells rp rc lp lc) → m'.refs = m.refs → m'.list = m.list → StoreOk w' (at0 B j) ∧ Dc 68 W (w'.setCell (at0 B j) v) g B R p n c bs s' m' foot ∧ Blk (w'.setCell (at0 B j) v) F (fcells k g) 96 := by
    intro v m' s' hd a b c'
    obtain ⟨x, y⟩ := Dc.store a b c' hj hd
    refine ⟨x, y, hF'.keep (Fr.setCell (S := [B]) (by simp [at0]) v) ?_⟩
    obtain ⟨rp, rc, lp, lc, o⟩ := hd.ob
    rw [o.ft] at hFf
    simp at hFf ⊢
    exact hFf.1
  by_cases hh : hasF k i = true
  · rw [if_pos hh] at hK h' ⊢
    rw [hrd] at hK
    obtain ⟨x, y, z⟩ := fin h' (hc _ (.inr rfl)) (hr _) (hl _)
    exact ⟨x, hK _ y z⟩
  · rw [if_neg hh] at hK h' ⊢
    obtain ⟨x, y, z⟩ := fin h' (hc 0 (.inl rfl)) (hr _) (hl _)
    rw [h0] at y
    exact ⟨x, hK _ y z⟩
theorem step_one {k most : Int} {i j F : Nat} {K : World → Prop} (setv : Int → Msg) (hi : i < 15) (hrd : readFR bs i (m, s) = (setv (readByte bs s.1 s.2 most).1, (readByte bs s.1 s.2 most).2)) (h0 : setv 0 = m)
    (hc : ∀ v rp rc lp lc, (m.cells rp rc lp lc).set j (.int .i64 v) = (setv v).cells rp rc lp lc) (hr : ∀ v, (setv v).refs = m.refs) (hl : ∀ v, (setv v).list = m.list) (hj : j < 19)
    (h : Dc 68 W w g B R p n c bs s m foot) (hF : Blk w F (fcells k g) 96) (hFf : F ∉ foot) (hFg : F ≠ g)
    (hK : ∀ w', Dc 68 W w' g B R p n c bs (rst bs k i (m, s)).2 (rst bs k i (m, s)).1 foot → Blk w' F (fcells k g) 96 → K w') :
    ldI .i64 w (at0 F 0) fun x1 => ldP w (at0 F 1) fun x2 => CallR Try.prog 73 #[.agg #[.int .i64 x1, .pointer x2], .string (fname i), .int .u8 most] w fun v3 w4 => ∃ (y5 : Int), v3 = .int .i64 y5 ∧ stK w4 (at0 B j) (.int .i64 y5) fun w7 => K w7 := by
  refine ld_int (hF.cell rfl) (ld_ptr (hF.cell rfl) (fone_spec i hi h fun w' h' k' => ⟨_, rfl, ?_⟩))
  have hF' : Blk w' F (fcells k g) 96 := by unfold Blk at hF ⊢; rw [k' F (by have := hF; exact (Array.getElem?_eq_some_iff.1 this).1) hFg]; exact hF
  unfold rst at hK
  have fin : ∀ {v : Value} {m' : Msg} {s' : St}, Dc 68 W w' g B R p n c bs s' m foot → (∀ rp rc lp lc, (m.cells rp rc lp lc).set j v = m'.cells rp rc lp lc) → m'.refs = m.refs → m'.list = m.list → StoreOk w' (at0 B j) ∧ Dc 68 W (w'.setCell (at0 B j) v) g B R p n c bs s' m' foot ∧ Blk (w'.setCell (at0 B j) v) F (fcells k g) 96 := by
    intro v m' s' hd a b c'
    obtain ⟨x, y⟩ := Dc.store a b c' hj hd
    refine ⟨x, y, hF'.keep (Fr.setCell (S := [B]) (by simp [at0]) v) ?_⟩
    obtain ⟨rp, rc, lp, lc, o⟩ := hd.ob
    rw [o.ft] at hFf
    simp at hFf ⊢
    exact hFf.1
  by_cases hh : hasF k i = true
  · rw [if_pos hh] at hK h' ⊢
    rw [hrd] at hK
    obtain ⟨x, y, z⟩ := fin h' (hc _) (hr _) (hl _)
    exact ⟨x, hK _ y z⟩
  · rw [if_neg hh] at hK h' ⊢
    obtain ⟨x, y, z⟩ := fin h' (hc 0) (hr _) (hl _)
    rw [h0] at y
    exact ⟨x, hK _ y z⟩
end
end Go.Proofs.YtcmkjnoaefkkhaaX
