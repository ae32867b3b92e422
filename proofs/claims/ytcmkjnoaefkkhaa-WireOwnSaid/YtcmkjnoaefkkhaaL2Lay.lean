/- A message is laid: the program's Encode. -/
import Derived.Test.YtcmkjnoaefkkhaaL2RRight2
import Derived.Test.YtcmkjnoaefkkhaaPEnc
namespace Go.Proofs.YtcmkjnoaefkkhaaX
open Go.RowKit
set_option linter.unusedVariables false
set_option linter.unusedSimpArgs false
set_option maxRecDepth 100000
/-- A writer, and which blocks are its own, that lives among what is new since W. -/
structure WrF (W w : World) (g : Nat) (foot : List Nat) (bs : List Int) : Prop where
  wr : ∃ p, Wr w g p bs ∧ foot = wrF g p
  new : ∀ k ∈ foot, W.heap.size ≤ k
  fr : Fr [] W w
theorem fr_local {W w w' : World} {S : List Nat} (h : Fr [] W w) (k : Fr S w w') (hS : ∀ x ∈ S, W.heap.size ≤ x) : Fr [] W w' := h.trans k (fun x hx => .inr (hS x hx))
theorem WrF.step {W w w' : World} {g : Nat} {p p' : Option Addr} {bs : List Int} (h : Fr [] W w) (hp : ∀ k ∈ wrF g p, W.heap.size ≤ k) (h1 : Wr w' g p' bs) (h2 : Fr (wrF g p) w w') (h3 : ∀ k ∈ wrF g p', k ∈ wrF g p ∨ w.heap.size ≤ k) : WrF W w' g (wrF g p') bs := by
  have := h.size
  refine ⟨⟨p', h1, rfl⟩, fun k hk => ?_, fr_local h h2 hp⟩
  rcases h3 k hk with hh | hh
  · exact hp k hh
  · omega
/-- what a call that lays may do -/
def Laid (W w : World) (g : Nat) (foot : List Nat) (bs : List Int) (K : World → Prop) : Prop := ∀ foot' w', WrF W w' g foot' bs → Fr foot w w' → (∀ x ∈ foot', x ∈ foot ∨ w.heap.size ≤ x) → K w'
section
variable {W w : World} {g : Nat} {foot : List Nat} {bs : List Int} {Q : Value → World → Prop}
theorem WrF.lt (h : WrF W w g foot bs) : ∀ x ∈ foot, x < w.heap.size := by
  obtain ⟨⟨p, h1, rfl⟩, _⟩ := h
  exact h1.lt
theorem WrF.wf (h : WrF W w g foot bs) : ∀ b ∈ bs, 0 ≤ b ∧ b ≤ 255 := by
  obtain ⟨⟨p, h1, _⟩, _⟩ := h
  exact h1.wf
theorem WrF.keep {w' : World} {S : List Nat} (h : WrF W w g foot bs) (f : Fr S w w') (hd : ∀ x ∈ foot, x ∉ S) (hS : ∀ x ∈ S, W.heap.size ≤ x) : WrF W w' g foot bs := by
  obtain ⟨⟨p, h1, rfl⟩, h2, h3⟩ := h
  exact ⟨⟨p, h1.keep f hd, rfl⟩, h2, fr_local h3 f hS⟩
theorem WrF.keep' {w' : World} (h : WrF W w g foot bs) (f : Fr [] w w') : WrF W w' g foot bs := h.keep f (by simp) (by simp)
theorem newWriterF (hf : Fr [] W w) (h : ∀ w' g, WrF W w' g [g] [] → g = w.heap.size → Fr [] w w' → Q (.pointer (some (at0 g 0))) w') : CallR Try.prog 34 #[] w Q := by
  refine newWriter_spec ?_
  intro w' h1 h2
  have := hf.size
  exact h w' _ ⟨⟨none, h1, rfl⟩, by simp; omega, hf.tr h2⟩ rfl h2
theorem wbyteF {b : Int} (h : WrF W w g foot bs) (hb : 0 ≤ b ∧ b ≤ 255) (hl : bs.length + 1 ≤ 140737488355328) (hK : Laid W w g foot (bs ++ [b]) (Q (.tuple #[]))) : CallR Try.prog 35 #[.pointer (some (at0 g 0)), .int .u8 b] w Q := by
  obtain ⟨⟨p, h1, rfl⟩, hp, hf⟩ := h
  exact wbyte_spec h1 hb hl fun p' w' k1 k2 k3 => hK _ w' (WrF.step hf hp k1 k2 k3) k2 k3
theorem wnumF {n : Int} (h : WrF W w g foot bs) (h0 : 0 ≤ n) (hn : n ≤ 18446744073709551615) (hl : bs.length + 10 ≤ 140737488355328) (hK : Laid W w g foot (bs ++ numB n.toNat) (Q (.tuple #[]))) : CallR Try.prog 62 #[.pointer (some (at0 g 0)), .int .u64 n] w Q := by
  obtain ⟨k, rfl⟩ := Int.eq_ofNat_of_zero_le h0
  obtain ⟨⟨p, h1, rfl⟩, hp, hf⟩ := h
  exact wnum_spec h1 (by omega) hl fun p' w' k1 k2 k3 => hK _ w' (WrF.step hf hp k1 k2 k3) k2 k3
theorem wbytesF (h : WrF W w g foot bs) (hl : bs.length ≤ 140737488355328)
    (hK : ∀ q c w', Own 5 1 w' q bs.length c (u8s bs) → Fr [] w w' → (∀ k ∈ fbl q, w.heap.size ≤ k) → Q (.slice q bs.length c) w') : CallR Try.prog 37 #[.pointer (some (at0 g 0))] w Q := by
  obtain ⟨⟨p, h1, rfl⟩, hp, hf⟩ := h
  exact wbytes_spec h1 hl fun q c w' k1 k2 k3 => hK q c w' k1 k2 k3
/-- one call behind another -/
theorem Laid.trans {w2 : World} {foot2 : List Nat} {bs2 : List Int} {K : World → Prop} (f : Fr foot w w2) (e : ∀ x ∈ foot2, x ∈ foot ∨ w.heap.size ≤ x) (h : Laid W w g foot bs2 K) : Laid W w2 g foot2 bs2 K := by
  intro foot' w' k1 k2 k3
  have s := f.size
  refine h foot' w' k1 (f.trans k2 e) (fun x hx => ?_)
  rcases k3 x hx with hh | hh
  · exact e x hh
  · exact .inr (by omega)
theorem Laid.alloc {w2 : World} {bs2 : List Int} {K : World → Prop} (f : Fr [] w w2) (h : Laid W w g foot bs2 K) : Laid W w2 g foot bs2 K := Laid.trans f.any (fun x hx => .inl hx) h
theorem away {w2 : World} {foot2 : List Nat} {B : Nat} (hB : B < w.heap.size) (hn : B ∉ foot) (f : Fr foot w w2) (e : ∀ x ∈ foot2, x ∈ foot ∨ w.heap.size ≤ x) : B < w2.heap.size ∧ B ∉ foot2 := by
  have := f.size
  refine ⟨by omega, fun hm => ?_⟩
  rcases e B hm with hh | hh
  · exact hn hh
  · omega
theorem layID_spec {x y : Int} (h : WrF W w g foot bs) (ho : okID (x, y)) (hl : bs.length + 11 ≤ 140737488355328) (hK : Laid W w g foot (bs ++ idB (x, y)) (Q (.tuple #[]))) :
    CallR Try.prog 63 #[.pointer (some (at0 g 0)), .agg #[.int .i64 x, .int .u64 y]] w Q := by
  refine X63.sound _ _ _ _ _ ?_
  unfold X63.f newK
  obtain ⟨hb, f⟩ := made (w := w) (cs := #[.int .i64 x, .int .u64 y]) (e := 24)
  rw [show (⟨w.heap.size, 0, none⟩ : Addr) = at0 w.heap.size 0 from rfl]
  simp only [add_at, Nat.zero_add]
  have h2 := h.keep' f
  have hK2 := hK.alloc f
  have hB := hb.lt
  have hn : w.heap.size ∉ foot := fun hm => by have := h.lt _ hm; omega
  generalize w.heap.size = B at *
  generalize w.alloc _ = w2 at *
  have hx : 0 ≤ x ∧ x ≤ 64 := by unfold okID okSerial at ho; simp only at ho; omega
  have hy : 0 ≤ y ∧ y ≤ 72057594037927935 := by unfold okID okSerial at ho; simp only at ho; omega
  refine ld_int (hb.cell rfl) ?_
  rw [u8w x (by omega) (by omega)]
  refine wbyteF h2 (by omega) (by omega) ?_
  intro foot3 w3 k1 k2 k3
  refine ⟨rfl, ld_int ((hb.keep k2 hn).cell rfl) (wnumF k1 (by omega) (by omega) (by simp; omega) ?_)⟩
  intro foot4 w4 l1 l2 l3
  refine ⟨rfl, ?_⟩
  have := (hK2.trans k2 k3)
  unfold idB at this
  refine this foot4 w4 ?_ l2 l3
  simpa using l1
theorem lay_l0 {p : Option Addr} {n c : Nat} {l : List (Int × Int)} (hl : l.length = n) (hn : n ≤ 100) (hok : ∀ x ∈ l, okID x) (hc : Cells W p (l.flatMap idc)) (f : Nat) : ∀ (i : Nat) (w : World) (foot : List Nat) (bs : List Int), n - i < f → i ≤ n → WrF W w g foot bs → bs.length + 11 * (n - i) ≤ 140737488355328 →
    Laid W w g foot (bs ++ (l.drop i).flatMap idB) (Q (.tuple #[])) → X36.l0 Q f (some (at0 g 0)) p n c (n : Int) (i : Int) w := by
  induction f with
  | zero => intro i w foot bs hf; omega
  | succ f ih =>
    intro i w foot bs hf hi h hb hK
    rw [X36.l0]
    refine bc_dec (fun h1 => ?_) (fun h1 => ?_)
    · have hlt : i < l.length := by omega
      have hg := List.getElem?_eq_getElem hlt
      have hdr : l.drop i = l[i] :: l.drop (i + 1) := List.drop_eq_getElem_cons hlt
      have hmem : l[i] ∈ l := List.getElem_mem hlt
      generalize l[i] = x at hg hdr hmem
      have hc' := hc.keep' h.fr
      obtain ⟨q, hq, c0⟩ := hc' _ _ (flat_get idc_len l hg (j := 0) rfl)
      obtain ⟨q', hq', c1⟩ := hc' _ _ (flat_get idc_len l hg (j := 1) rfl)
      rw [hq] at hq'; injection hq' with hq'; subst hq'
      refine ⟨⟨by omega, by omega⟩, opt_some hq ?_⟩
      rw [Int.toNat_natCast]
      simp only [add_add]
      refine ld_int c0 (ld_int c1 ?_)
      unfold newK
      obtain ⟨hb', fa⟩ := made (w := w) (cs := #[.int .i64 0, .int .u64 0]) (e := 24)
      have hgl := hb'.lt
      rw [show (⟨w.heap.size, 0, none⟩ : Addr) = at0 w.heap.size 0 from rfl]
      have s0 := h.fr.size
      have h2 := h.keep' fa
      have hn : w.heap.size ∉ foot := fun hm => by have := h.lt _ hm; omega
      have hW : W.heap.size ≤ w.heap.size := s0
      have hK2 := hK.alloc fa
      have ssz := fa.size
      generalize hB : w.heap.size = B at *
      generalize w.alloc _ = w2 at *
      refine stAll_blk hb' (by simp) ?_
      intro w3 b3 f3
      have h3 := h2.keep f3 (fun x hx hm => by simp at hm; subst hm; exact hn hx) (fun x hx => by simp at hx; omega)
      simp only [add_at, Nat.zero_add]
      refine ld_int (b3.cell rfl) (ld_int (b3.cell rfl) (layID_spec h3 (hok x hmem) (by omega) ?_))
      intro foot4 w4 k1 k2 k3
      refine ⟨rfl, ?_⟩
      have hx11 := idB_len (hok x hmem)
      rw [show IntKind.wrap .i64 ((i : Int) + 1) = ((i + 1 : Nat) : Int) by rw [i64w _ (by omega) (by omega)]; omega]
      refine ih (i + 1) w4 foot4 _ (by omega) (by omega) k1 (by simp only [List.length_append]; have : (idB (x.fst, x.snd)).length ≤ 11 := hx11; omega) ?_
      rw [hdr] at hK2
      have e : bs ++ idB (x.fst, x.snd) ++ (l.drop (i + 1)).flatMap idB = bs ++ (x :: l.drop (i + 1)).flatMap idB := by simp
      rw [e]
      -- the row between
      intro foot5 w5 l1 l2 l3
      have s3 := f3.size
      have s4 := k2.size
      refine hK foot5 w5 ?_ ?_ ?_
      · rw [hdr]; exact l1
      · refine (((fa.any.trans f3 (fun y hy => .inr (by simp at hy; omega)))).trans k2 (fun y hy => .inl hy)).trans l2 (fun y hy => ?_)
        rcases k3 y hy with hh | hh
        · exact .inl hh
        · exact .inr (by omega)
      · intro y hy
        rcases l3 y hy with hh | hh
        · rcases k3 y hh with hh | hh
          · exact .inl hh
          · exact .inr (by omega)
        · exact .inr (by omega)
    · have : l.drop i = [] := List.drop_eq_nil_of_le (by omega)
      rw [this] at hK
      exact hK foot w (by simpa using h) (Fr.refl w) (fun x hx => .inl hx)
theorem lay_l1 {p : Option Addr} {n c : Nat} {l : List Int} (hl : l.length = n) (hn : n ≤ 100) (hok : ∀ x ∈ l, okSerial x) (hc : Cells W p (l.map (Value.int .u64))) (f : Nat) : ∀ (i : Nat) (w : World) (foot : List Nat) (bs : List Int), n - i < f → i ≤ n → WrF W w g foot bs → bs.length + 11 * (n - i) ≤ 140737488355328 →
    Laid W w g foot (bs ++ (l.drop i).flatMap fun n => numB n.toNat) (Q (.tuple #[])) → X36.l1 Q f (some (at0 g 0)) p n c (n : Int) (i : Int) w := by
  induction f with
  | zero => intro i w foot bs hf; omega
  | succ f ih =>
    intro i w foot bs hf hi h hb hK
    rw [X36.l1]
    refine bc_dec (fun h1 => ?_) (fun h1 => ?_)
    · have hlt : i < l.length := by omega
      have hg := List.getElem?_eq_getElem hlt
      have hdr : l.drop i = l[i] :: l.drop (i + 1) := List.drop_eq_getElem_cons hlt
      have hmem : l[i] ∈ l := List.getElem_mem hlt
      generalize l[i] = x at hg hdr hmem
      have hx := hok x hmem
      unfold okSerial at hx
      obtain ⟨q, hq, c0⟩ := cell_u64 (hc.keep' h.fr) hg
      refine ⟨⟨by omega, by omega⟩, opt_some hq (ld_int (by rw [Int.toNat_natCast]; exact c0) (wnumF h (by omega) (by omega) (by omega) ?_))⟩
      intro foot4 w4 k1 k2 k3
      refine ⟨rfl, ?_⟩
      have hx11 := numB_len10 (n := x.toNat) (by omega)
      rw [show IntKind.wrap .i64 ((i : Int) + 1) = ((i + 1 : Nat) : Int) by rw [i64w _ (by omega) (by omega)]; omega]
      refine ih (i + 1) w4 foot4 _ (by omega) (by omega) k1 (by simp only [List.length_append]; omega) ?_
      rw [hdr] at hK
      have e : bs ++ numB x.toNat ++ (l.drop (i + 1)).flatMap (fun n => numB n.toNat) = bs ++ (x :: l.drop (i + 1)).flatMap (fun n => numB n.toNat) := by simp
      rw [e]
      exact hK.trans k2 k3
    · have : l.drop i = [] := List.drop_eq_nil_of_le (by omega)
      rw [this] at hK
      exact hK foot w (by simpa using h) (Fr.refl w) (fun x hx => .inl hx)
end
end Go.Proofs.YtcmkjnoaefkkhaaX
