/- A message is read field by field: the state that both ways share, and the program's way. -/
import Derived.Test.YtcmkjnoaefkkhaaPDec
import Derived.Test.YtcmkjnoaefkkhaaL2Encodes
namespace Go.Proofs.YtcmkjnoaefkkhaaX
open Go.RowKit
set_option linter.unusedVariables false
set_option linter.unusedSimpArgs false
set_option maxRecDepth 100000
/-- a message that is being read, at block B -/
structure Ob (w : World) (B : Nat) (m : Msg) (rp : Option Addr) (rc : Nat) (lp : Option Addr) (lc : Nat) (foot : List Nat) : Prop where
  blk : Blk w B (m.cells rp rc lp lc) 28
  refs : Own 24 2 w rp m.refs.length rc (m.refs.flatMap idc)
  list : Own 22 1 w lp m.list.length lc (m.list.map (Value.int .u64))
  br : B ∉ fbl rp
  bl : B ∉ fbl lp
  rl : ∀ x ∈ fbl rp, x ∉ fbl lp
  ft : foot = B :: (fbl rp ++ fbl lp)
/-- a reader and a message, apart from one another and from the block R, new since W -/
structure Dc (e : TypeId) (W w : World) (g B R : Nat) (p : Option Addr) (n c : Nat) (bs : List Int) (s : St) (m : Msg) (foot : List Nat) : Prop where
  rd : Rd e w g p n c bs s.1 s.2
  ob : ∃ rp rc lp lc, Ob w B m rp rc lp lc foot
  res : Blk w R (mZero.cells none 0 none 0) 28
  gf : g ∉ foot
  pf : bs ≠ [] → ∀ k ∈ fbl p, k ∉ foot
  pg : bs ≠ [] → ∀ k ∈ fbl p, k < g
  rf : R ∉ foot
  rg : R ≠ g
  gW : W.heap.size ≤ g
  fW : ∀ x ∈ foot, W.heap.size ≤ x
  fr : Fr [] W w
section
variable {e : TypeId} {W w w' : World} {g B R : Nat} {p : Option Addr} {n c : Nat} {bs : List Int} {s s' : St} {m m' : Msg} {foot foot' S : List Nat} {Q : Value → World → Prop}
theorem Ob.keep {rp lp : Option Addr} {rc lc : Nat} (h : Ob w B m rp rc lp lc foot) (f : Fr S w w') (hd : ∀ x ∈ foot, x ∉ S) : Ob w' B m rp rc lp lc foot := by
  have hft := h.ft
  exact ⟨h.blk.keep f (hd B (by rw [hft]; simp)), h.refs.keep f (fun x hx => hd x (by rw [hft]; simp [hx])), h.list.keep f (fun x hx => hd x (by rw [hft]; simp [hx])), h.br, h.bl, h.rl, h.ft⟩
theorem Ob.keep' {rp lp : Option Addr} {rc lc : Nat} (h : Ob w B m rp rc lp lc foot) (f : Fr [] w w') : Ob w' B m rp rc lp lc foot := h.keep f (by simp)
theorem Ob.lt {rp lp : Option Addr} {rc lc : Nat} (h : Ob w B m rp rc lp lc foot) : ∀ x ∈ foot, x < w.heap.size := by
  intro x hx
  rw [h.ft] at hx
  rcases List.mem_cons.1 hx with rfl | hx
  · exact h.blk.lt
  · rcases List.mem_append.1 hx with hx | hx
    · exact h.refs.lt x hx
    · exact h.list.lt x hx
theorem Ob.mm {rp lp : Option Addr} {rc lc : Nat} (h : Ob w B m rp rc lp lc foot) (h1 : m.refs.length ≤ 1000) (h2 : m.list.length ≤ 1000) : MM w m rp rc lp lc :=
  ⟨h.refs.cells, h.refs.le, fun hx => by subst hx; exact h.refs.none_c.2.1, by omega, h.list.cells, h.list.le, fun hx => by subst hx; exact h.list.none_c.2.1, by omega⟩
theorem Dc.wf (h : Dc e W w g B R p n c bs s m foot) : ∀ b ∈ bs, 0 ≤ b ∧ b ≤ 255 := h.rd.bytes.wf
theorem Dc.fl (h : Dc e W w g B R p n c bs s m foot) : ∀ x ∈ foot, x < w.heap.size := by obtain ⟨rp, rc, lp, lc, o⟩ := h.ob; exact o.lt
theorem Dc.keep' (h : Dc e W w g B R p n c bs s m foot) (f : Fr [] w w') : Dc e W w' g B R p n c bs s m foot := by
  obtain ⟨rp, rc, lp, lc, o⟩ := h.ob
  exact ⟨h.rd.keep' f, ⟨rp, rc, lp, lc, o.keep' f⟩, h.res.keep' f, h.gf, h.pf, h.pg, h.rf, h.rg, h.gW, h.fW, h.fr.tr f⟩
/-- the reader has gone on -/
theorem Dc.read (h : Dc e W w g B R p n c bs s m foot) (hr : Rd e w' g p n c bs s'.1 s'.2) (f : Fr [g] w w') : Dc e W w' g B R p n c bs s' m foot := by
  obtain ⟨rp, rc, lp, lc, o⟩ := h.ob
  have hgf := h.gf
  have hgW := h.gW
  exact ⟨hr, ⟨rp, rc, lp, lc, o.keep f (fun x hx hm => hgf (by simp at hm; rwa [← hm]))⟩, h.res.keep f (by simp; exact h.rg), h.gf, h.pf, h.pg, h.rf, h.rg, h.gW, h.fW, fr_local h.fr f (fun x hx => by simp at hx; omega)⟩
/-- the message has changed -/
theorem Dc.upd {rp lp : Option Addr} {rc lc : Nat} (h : Dc e W w g B R p n c bs s m foot) (o : Ob w' B m' rp rc lp lc foot') (f : Fr foot w w') (hs : ∀ x ∈ foot', x ∈ foot ∨ w.heap.size ≤ x) : Dc e W w' g B R p n c bs s m' foot' := by
  have hgl := h.rd.blk.lt
  have hRl := h.res.lt
  have sW := h.fr.size
  have hfW := h.fW
  have away : ∀ x, x < w.heap.size → x ∉ foot → x ∉ foot' := fun x hx hn hm => by
    rcases hs x hm with hh | hh
    · exact hn hh
    · omega
  refine ⟨h.rd.keep f h.gf h.pf, ⟨rp, rc, lp, lc, o⟩, h.res.keep f h.rf, away g hgl h.gf, fun hne k hk hm => ?_, h.pg, away R hRl h.rf, h.rg, h.gW, fun x hx => ?_, fr_local h.fr f hfW⟩
  · rcases hs k hm with hh | hh
    · exact h.pf hne k hk hh
    · have := h.pg hne k hk; omega
  · rcases hs x hx with hh | hh
    · exact hfW x hh
    · omega
theorem Dc.store {v : Value} {j : Nat} (hc : ∀ rp rc lp lc, (m.cells rp rc lp lc).set j v = m'.cells rp rc lp lc) (hr : m'.refs = m.refs) (hl : m'.list = m.list) (hj : j < 19) (h : Dc e W w g B R p n c bs s m foot) :
    StoreOk w (at0 B j) ∧ Dc e W (w.setCell (at0 B j) v) g B R p n c bs s m' foot := by
  obtain ⟨rp, rc, lp, lc, o⟩ := h.ob
  have f : Fr foot w (w.setCell (at0 B j) v) := Fr.setCell (by rw [o.ft]; simp [at0]) _
  have f1 : Fr [B] w (w.setCell (at0 B j) v) := Fr.setCell (by simp [at0]) _
  refine ⟨o.blk.storeOk (by simpa using hj), h.upd (rp := rp) (rc := rc) (lp := lp) (lc := lc) ⟨?_, ?_, ?_, o.br, o.bl, o.rl, o.ft⟩ f (fun x hx => .inl hx)⟩
  · have := o.blk.set j v
    rw [hc] at this
    exact this
  · rw [hr]; exact o.refs.keep f1 (fun x hx hm => o.br (by simp at hm; rwa [← hm]))
  · rw [hl]; exact o.list.keep f1 (fun x hx hm => o.bl (by simp at hm; rwa [← hm]))
/-- one more ID behind the message's -/
theorem push_ref {x : Int × Int} {rp lp src : Option Addr} {rc lc : Nat} {K : World → Prop} (h : Dc e W w g B R p n c bs s m foot) (o : Ob w B m rp rc lp lc foot) (hs : Cells w src (idc x)) (hsn : src ≠ none) (hl : m.refs.length ≤ 1000)
    (hK : ∀ foot' w', Dc e W w' g B R p n c bs s { m with refs := m.refs ++ [x] } foot' → Fr foot w w' → (∀ y ∈ foot', y ∈ foot ∨ w.heap.size ≤ y) → K w') :
    RunR Try.prog (Builtin.append_ #[25, 25] 25 #[.slice rp m.refs.length rc, .slice src 1 1]) w fun v10 w11 => ∃ (s12p : Option Addr) (s12n s12c : Nat), v10 = .slice s12p s12n s12c ∧ stK w11 (at0 B 10) (.slice s12p s12n s12c) fun w14 => K w14 := by
  have hBl := o.blk.lt
  have lll := o.list.lt
  refine app_own rowT25 o.refs hs rfl (fun hx => absurd hx hsn) (by intro u hu; simp only [idc, List.mem_cons, List.not_mem_nil, or_false] at hu; rcases hu with rfl | rfl <;> rfl) (by simp only [maxLen]; omega) (by omega) ?_
  intro p' c' w1 o1 f1 e1
  have b1 := o.blk.keep f1 o.br
  refine ⟨_, _, _, rfl, b1.storeOk (by simp), ?_⟩
  have b2 := b1.set 10 (.slice p' (m.refs.length + 1) c')
  have f2 : Fr [B] w1 (w1.setCell (at0 B 10) (.slice p' (m.refs.length + 1) c')) := Fr.setCell (by simp [at0]) _
  have hB' : B ∉ fbl p' := fun hm => by
    rcases e1 B hm with hh | hh
    · exact o.br hh
    · omega
  have l1 := o.list.keep f1 (fun y hy hm => o.rl y hm hy)
  have l2 := l1.keep f2 (fun y hy hm => o.bl (by simp at hm; rwa [← hm]))
  have r2 := o1.keep f2 (fun y hy hm => hB' (by simp at hm; rwa [← hm]))
  have hft := o.ft
  have f02 : Fr foot w (w1.setCell (at0 B 10) (.slice p' (m.refs.length + 1) c')) := by
    rw [hft]
    exact (f1.mono (fun y hy => by simp [hy])).trans f2 (fun y hy => .inl (by simp at hy; simp [hy]))
  have hlen : (m.refs ++ [x]).length = m.refs.length + 1 := by simp
  have hsub : ∀ y ∈ B :: (fbl p' ++ fbl lp), y ∈ foot ∨ w.heap.size ≤ y := by
    intro y hy
    rw [hft]
    rcases List.mem_cons.1 hy with rfl | hy
    · exact .inl (by simp)
    · rcases List.mem_append.1 hy with hy | hy
      · rcases e1 y hy with hh | hh
        · exact .inl (by simp [hh])
        · exact .inr hh
      · exact .inl (by simp [hy])
  refine hK (B :: (fbl p' ++ fbl lp)) _ (h.upd (m' := { m with refs := m.refs ++ [x] }) (rp := p') (rc := c') (lp := lp) (lc := lc) ⟨?_, ?_, l2, hB', o.bl, fun y hy hm => ?_, rfl⟩ f02 hsub) f02 hsub
  · show Blk _ B (Msg.cells { m with refs := m.refs ++ [x] } p' c' lp lc) 28
    unfold Msg.cells
    rw [hlen]
    exact b2
  · show Own 24 2 _ p' (m.refs ++ [x]).length c' ((m.refs ++ [x]).flatMap idc)
    rw [hlen, List.flatMap_append]
    exact r2
  · rcases e1 y hy with hh | hh
    · exact o.rl y hh hm
    · have := lll y hm; omega
theorem push_num {x : Int} {rp lp src : Option Addr} {rc lc : Nat} {K : World → Prop} (h : Dc e W w g B R p n c bs s m foot) (o : Ob w B m rp rc lp lc foot) (hs : Cells w src [.int .u64 x]) (hsn : src ≠ none) (hl : m.list.length ≤ 1000)
    (hK : ∀ foot' w', Dc e W w' g B R p n c bs s { m with list := m.list ++ [x] } foot' → Fr foot w w' → (∀ y ∈ foot', y ∈ foot ∨ w.heap.size ≤ y) → K w') :
    RunR Try.prog (Builtin.append_ #[26, 26] 26 #[.slice lp m.list.length lc, .slice src 1 1]) w fun v10 w11 => ∃ (s12p : Option Addr) (s12n s12c : Nat), v10 = .slice s12p s12n s12c ∧ stK w11 (at0 B 18) (.slice s12p s12n s12c) fun w14 => K w14 := by
  have hBl := o.blk.lt
  have lll := o.refs.lt
  refine app_own rowT26 o.list hs rfl (fun hx => absurd hx hsn) (by intro u hu; simp only [List.mem_cons, List.not_mem_nil, or_false] at hu; subst hu; rfl) (by simp only [maxLen]; omega) (by omega) ?_
  intro p' c' w1 o1 f1 e1
  have b1 := o.blk.keep f1 o.bl
  refine ⟨_, _, _, rfl, b1.storeOk (by simp), ?_⟩
  have b2 := b1.set 18 (.slice p' (m.list.length + 1) c')
  have f2 : Fr [B] w1 (w1.setCell (at0 B 18) (.slice p' (m.list.length + 1) c')) := Fr.setCell (by simp [at0]) _
  have hB' : B ∉ fbl p' := fun hm => by
    rcases e1 B hm with hh | hh
    · exact o.bl hh
    · omega
  have l1 := o.refs.keep f1 o.rl
  have l2 := l1.keep f2 (fun y hy hm => o.br (by simp at hm; rwa [← hm]))
  have r2 := o1.keep f2 (fun y hy hm => hB' (by simp at hm; rwa [← hm]))
  have hft := o.ft
  have f02 : Fr foot w (w1.setCell (at0 B 18) (.slice p' (m.list.length + 1) c')) := by
    rw [hft]
    exact (f1.mono (fun y hy => by simp [hy])).trans f2 (fun y hy => .inl (by simp at hy; simp [hy]))
  have hlen : (m.list ++ [x]).length = m.list.length + 1 := by simp
  have hsub : ∀ y ∈ B :: (fbl rp ++ fbl p'), y ∈ foot ∨ w.heap.size ≤ y := by
    intro y hy
    rw [hft]
    rcases List.mem_cons.1 hy with rfl | hy
    · exact .inl (by simp)
    · rcases List.mem_append.1 hy with hy | hy
      · exact .inl (by simp [hy])
      · rcases e1 y hy with hh | hh
        · exact .inl (by simp [hh])
        · exact .inr hh
  refine hK (B :: (fbl rp ++ fbl p')) _ (h.upd (m' := { m with list := m.list ++ [x] }) (rp := rp) (rc := rc) (lp := p') (lc := c') ⟨?_, l2, ?_, o.br, hB', fun y hy hm => ?_, rfl⟩ f02 hsub) f02 hsub
  · show Blk _ B (Msg.cells { m with list := m.list ++ [x] } rp rc p' c') 28
    unfold Msg.cells
    rw [hlen]
    exact b2
  · show Own 22 1 _ p' (m.list ++ [x]).length c' ((m.list ++ [x]).map (Value.int .u64))
    rw [hlen, List.map_append]
    exact r2
  · rcases e1 y hm with hh | hh
    · exact o.rl y hy hh
    · have := lll y hy; omega
end
section
variable {W w : World} {g B R : Nat} {p : Option Addr} {n c : Nat} {bs : List Int} {s : St} {m : Msg} {foot : List Nat} {Q : Value → World → Prop}
theorem Dc.byte {most : Int} (h : Dc 90 W w g B R p n c bs s m foot) (hQ : ∀ w', Dc 90 W w' g B R p n c bs (readByte bs s.1 s.2 most).2 m foot → Fr [g] w w' → Q (.int .u8 (readByte bs s.1 s.2 most).1) w') : CallR Try.prog 43 #[.pointer (some (at0 g 0)), .int .u8 most] w Q :=
  cbyte_spec h.rd fun w' hr f => hQ w' (h.read hr f) f
theorem Dc.num {most : Int} (h : Dc 90 W w g B R p n c bs s m foot) (hQ : ∀ w', Dc 90 W w' g B R p n c bs (readNum bs s.1 s.2 most).2 m foot → Fr [g] w w' → Q (.int .u64 (readNum bs s.1 s.2 most).1) w') : CallR Try.prog 69 #[.pointer (some (at0 g 0)), .int .u64 most] w Q :=
  cnum_spec h.rd fun w' hr f => hQ w' (h.read hr f) f
theorem byte_i64 (h : Dc 90 W w g B R p n c bs s m foot) {a : Nat} {bad most : Int} : IntKind.wrap .i64 (readByte bs a bad most).1 = (readByte bs a bad most).1 := by
  have := readByte_range (bs := bs) (a := a) (bad := bad) (most := most) h.wf
  exact i64w _ (by omega) (by omega)
theorem readID_spec (h : Dc 90 W w g B R p n c bs s m foot) (hQ : ∀ w', Dc 90 W w' g B R p n c bs (rdID bs s).2 m foot → (∀ k, k < w.heap.size → k ≠ g → w'.heap[k]? = w.heap[k]?) → w.heap.size ≤ w'.heap.size → Q (.agg #[.int .i64 (rdID bs s).1.1, .int .u64 (rdID bs s).1.2]) w') : CallR Try.prog 70 #[.pointer (some (at0 g 0))] w Q := by
  refine X70.sound _ _ _ ?_
  unfold X70.f newK
  obtain ⟨hb, f⟩ := made (w := w) (cs := #[.int .i64 0, .int .u64 0]) (e := 24)
  rw [show (⟨w.heap.size, 0, none⟩ : Addr) = at0 w.heap.size 0 from rfl]
  have h2 := h.keep' f
  have hgl := h.rd.blk.lt
  have hfl := h.fl
  have hRl := h.res.lt
  have hpl := h.pg
  have sW := h.fr.size
  have s2 := f.size
  have f2 := f
  generalize hC : w.heap.size = C at *
  generalize w.alloc _ = w2 at *
  refine h2.byte ?_
  intro w4 h4 f4
  refine ⟨_, rfl, h4.num ?_⟩
  intro w7 h7 f7
  have b4 := hb.keep f4 (by simp; omega)
  have b7 := b4.keep f7 (by simp; omega)
  refine ⟨_, rfl, ?_⟩
  rw [byte_i64 h]
  refine stAll_blk (o := 0) b7 (by simp) ?_
  intro w9 b9 f9
  have cC : C ∉ foot := fun hm => by have := hfl C hm; omega
  have h9 : Dc 90 W w9 g B R p n c bs (rdID bs s).2 m foot := by
    obtain ⟨rp, rc, lp, lc, o⟩ := h7.ob
    exact ⟨h7.rd.keep f9 (by simp; omega) (fun hne k hk hm => by have := hpl hne k hk; simp at hm; omega), ⟨rp, rc, lp, lc, o.keep f9 (fun x hx hm => by simp at hm; subst hm; exact cC hx)⟩, h7.res.keep f9 (by simp; omega), h7.gf, h7.pf, h7.pg, h7.rf, h7.rg, h7.gW, h7.fW, fr_local h7.fr f9 (fun x hx => by simp at hx; omega)⟩
  simp only [add_at, Nat.zero_add]
  refine ld_int (b9.cell rfl) (ld_int (b9.cell rfl) (hQ w9 h9 (fun k hk hg => ?_) ?_))
  · have e1 := f9.block k (by have := f4.size; have := f7.size; omega) (by simp; omega)
    have e2 := f7.block k (by have := f4.size; omega) (by simp; exact hg)
    have e3 := f4.block k (by omega) (by simp; exact hg)
    have e4 := f2.block k (by omega) (by simp)
    rw [e1, e2, e3, e4]
  · have := f4.size; have := f7.size; have := f9.size; omega
end
end Go.Proofs.YtcmkjnoaefkkhaaX
