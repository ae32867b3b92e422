/- A message is laid: the document's Encode. -/
import Derived.Test.YtcmkjnoaefkkhaaL2Same
namespace Go.Proofs.YtcmkjnoaefkkhaaX
open Go.RowKit
set_option linter.unusedVariables false
set_option linter.unusedSimpArgs false
set_option maxRecDepth 100000
/-- what the document has laid of a kind's fields so far -/
structure LwS (w : World) (g : Nat) (k : Int) (foot : List Nat) (bs : List Int) (p : Option Addr) (c : Nat) : Prop where
  blk : Blk w g [.int .i64 k, .slice p bs.length c] 84
  own : Own 5 1 w p bs.length c (u8s bs)
  gp : g ∉ fbl p
  ft : foot = g :: fbl p
  wf : ∀ b ∈ bs, 0 ≤ b ∧ b ≤ 255
structure Lw (W w : World) (g : Nat) (k : Int) (foot : List Nat) (bs : List Int) : Prop where
  st : ∃ p c, LwS w g k foot bs p c
  new : ∀ x ∈ foot, W.heap.size ≤ x
  fr : Fr [] W w
def LaidR (W w : World) (g : Nat) (k : Int) (foot : List Nat) (bs : List Int) (K : World → Prop) : Prop := ∀ foot' w', Lw W w' g k foot' bs → Fr foot w w' → (∀ x ∈ foot', x ∈ foot ∨ w.heap.size ≤ x) → K w'
section
variable {W w : World} {g : Nat} {k : Int} {foot : List Nat} {bs : List Int} {Q : Value → World → Prop}
theorem Lw.lt (h : Lw W w g k foot bs) : ∀ x ∈ foot, x < w.heap.size := by
  obtain ⟨⟨p, c, s⟩, _⟩ := h
  intro x hx
  rw [s.ft] at hx
  rcases List.mem_cons.1 hx with rfl | hx
  · exact s.blk.lt
  · exact s.own.lt x hx
theorem Lw.keep {w' : World} {S : List Nat} (h : Lw W w g k foot bs) (f : Fr S w w') (hd : ∀ x ∈ foot, x ∉ S) (hS : ∀ x ∈ S, W.heap.size ≤ x) : Lw W w' g k foot bs := by
  obtain ⟨⟨p, c, s⟩, h2, h3⟩ := h
  have hft := s.ft
  refine ⟨⟨p, c, s.blk.keep f (hd g (by rw [hft]; simp)), s.own.keep f (fun x hx => hd x (by rw [hft]; simp [hx])), s.gp, s.ft, s.wf⟩, h2, fr_local h3 f hS⟩
theorem Lw.keep' {w' : World} (h : Lw W w g k foot bs) (f : Fr [] w w') : Lw W w' g k foot bs := h.keep f (by simp) (by simp)
theorem LaidR.trans {w2 : World} {foot2 : List Nat} {bs2 : List Int} {K : World → Prop} (f : Fr foot w w2) (e : ∀ x ∈ foot2, x ∈ foot ∨ w.heap.size ≤ x) (h : LaidR W w g k foot bs2 K) : LaidR W w2 g k foot2 bs2 K := by
  intro foot' w' k1 k2 k3
  have s := f.size
  refine h foot' w' k1 (f.trans k2 e) (fun x hx => ?_)
  rcases k3 x hx with hh | hh
  · exact e x hh
  · exact .inr (by omega)
theorem LaidR.alloc {w2 : World} {bs2 : List Int} {K : World → Prop} (f : Fr [] w w2) (h : LaidR W w g k foot bs2 K) : LaidR W w2 g k foot bs2 K := LaidR.trans f.any (fun x hx => .inl hx) h
theorem LwS.c0 {p : Option Addr} {c : Nat} (s : LwS w g k foot bs p c) : w.cell? (at0 g 0) = some (.int .i64 k) := s.blk.cell rfl
theorem LwS.c1 {p : Option Addr} {c : Nat} (s : LwS w g k foot bs p c) : w.cell? (at0 g 1) = some (.slice p bs.length c) := s.blk.cell rfl
theorem LwS.keep' {w' : World} {p : Option Addr} {c : Nat} (s : LwS w g k foot bs p c) (f : Fr [] w w') : LwS w' g k foot bs p c := ⟨s.blk.keep' f, s.own.keep' f, s.gp, s.ft, s.wf⟩
/-- bytes are put behind -/
theorem lw_app {p x : Option Addr} {c m mc : Nat} {us : List Int} {K : World → Prop} (hW : ∀ x ∈ foot, W.heap.size ≤ x) (hf : Fr [] W w) (s : LwS w g k foot bs p c) (hs : ByS w x m mc us) (hl : bs.length + m ≤ 140737488355328) (hK : LaidR W w g k foot (bs ++ us) K) :
    RunR Try.prog (Builtin.append_ #[32, 32] 32 #[.slice p bs.length c, .slice x m mc]) w fun v12 w13 => ∃ (s14p : Option Addr) (s14n s14c : Nat), v12 = .slice s14p s14n s14c ∧ stK w13 (at0 g 1) (.slice s14p s14n s14c) fun w16 => K w16 := by
  refine app_bytes s.own hs hl ?_
  intro p' c' w1 o1 f1 e1
  have hft := s.ft
  have hgl := s.blk.lt
  have b1 := s.blk.keep f1 s.gp
  refine ⟨_, _, _, rfl, b1.storeOk (by simp), ?_⟩
  have b2 := b1.set 1 (.slice p' (bs.length + m) c')
  have f2 : Fr [g] w1 (w1.setCell (at0 g 1) (.slice p' (bs.length + m) c')) := Fr.setCell (by simp [at0]) _
  have hg' : g ∉ fbl p' := fun hm => by
    rcases e1 g hm with h | h
    · exact s.gp h
    · omega
  have o2 := o1.keep f2 (fun x hx hm => hg' (by simp at hm; rwa [← hm]))
  have f02 : Fr foot w (w1.setCell (at0 g 1) (.slice p' (bs.length + m) c')) := by
    rw [hft]
    exact (f1.mono (fun x hx => by simp [hx])).trans f2 (fun x hx => .inl (by simp at hx; simp [hx]))
  have hlen : bs.length + m = (bs ++ us).length := by rw [List.length_append, hs.len]
  have hsub : ∀ x ∈ g :: fbl p', x ∈ foot ∨ w.heap.size ≤ x := by
    intro x hx
    rw [hft]
    rcases List.mem_cons.1 hx with rfl | hx
    · exact .inl (by simp)
    · rcases e1 x hx with h | h
      · exact .inl (by simp [h])
      · exact .inr h
  refine hK (g :: fbl p') _ ⟨⟨p', c', ?_, ?_, hg', rfl, fun b hb => ?_⟩, fun x hx => ?_, fr_local hf f02 hW⟩ f02 hsub
  · rw [← hlen]; exact b2
  · rw [← hlen]; exact o2
  · rcases List.mem_append.1 hb with hb | hb
    · exact s.wf b hb
    · exact hs.wf b hb
  · have sz := hf.size
    rcases hsub x hx with h | h
    · exact hW x h
    · omega
def hN (k : Int) (i : Nat) (l : List Int) : List Int := if hasF k i then l else []
theorem rl_num {n : Int} (i : Nat) (hi : i < 15) (hn : hasF k i = true → 0 ≤ n ∧ n ≤ 18446744073709551615) (h : Lw W w g k foot bs) (hl : bs.length + 10 ≤ 140737488355328) (hK : LaidR W w g k foot (bs ++ hN k i (numB n.toNat)) (Q (.tuple #[]))) :
    CallR Try.prog 64 #[.pointer (some (at0 g 0)), .string (fname i), .int .u64 n] w Q := by
  refine X64.sound _ _ _ _ _ ?_
  unfold X64.f drewK
  simp only [optP_some, add_at, Nat.zero_add]
  obtain ⟨⟨p, c, s⟩, hW, hf⟩ := h
  refine ld_int s.c0 (has_spec i hi fun w2 f2 => ⟨_, rfl, ?_⟩)
  unfold hN at hK
  refine bc_bool (fun hh => ?_) (fun hh => ?_)
  · rw [if_pos hh] at hK
    have g6 : Fr [] w w2.drew := f2.tr Fr.drew
    have s6 := s.keep' g6
    refine ld_sl s6.c1 ?_
    obtain ⟨h0, h1⟩ := hn hh
    obtain ⟨N, rfl⟩ := Int.eq_ofNat_of_zero_le h0
    refine rnum_spec (by omega) ?_
    intro q d w3 o3 f3 e3
    have s3 := s6.keep' f3
    have := numB_len10 (n := N) (by omega)
    rw [Int.toNat_natCast] at hK
    exact ⟨_, _, _, rfl, ⟨s6.c1, s3.c1⟩, lw_app hW ((hf.tr g6).tr f3) s3 (ByS.of_own o3 (numB_wf N)) (by omega) (hK.alloc (g6.tr f3))⟩
  · rw [if_neg (by simp [hh]), List.append_nil] at hK
    exact hK foot w2 ⟨⟨p, c, s.keep' f2⟩, hW, hf.tr f2⟩ f2.any (fun x hx => .inl hx)
theorem rl_one {n : Int} (i : Nat) (hi : i < 15) (hn : hasF k i = true → 0 ≤ n ∧ n ≤ 255) (h : Lw W w g k foot bs) (hl : bs.length + 1 ≤ 140737488355328) (hK : LaidR W w g k foot (bs ++ hN k i [n]) (Q (.tuple #[]))) :
    CallR Try.prog 65 #[.pointer (some (at0 g 0)), .string (fname i), .int .i64 n] w Q := by
  refine X65.sound _ _ _ _ _ ?_
  unfold X65.f newK
  simp only [optP_some, add_at, Nat.zero_add]
  obtain ⟨⟨p, c, s⟩, hW, hf⟩ := h
  refine ld_int s.c0 (has_spec i hi fun w2 f2 => ⟨_, rfl, ?_⟩)
  unfold hN at hK
  refine bc_bool (fun hh => ?_) (fun hh => ?_)
  · rw [if_pos hh] at hK
    have s2 := s.keep' f2
    refine ld_sl s2.c1 ?_
    obtain ⟨h0, h1⟩ := hn hh
    rw [u8w n (by omega) (by omega)]
    have f3 : Fr [] w2 (w2.alloc (.cells #[.int .u8 n] 5)) := Fr.alloc _ _
    exact lw_app hW ((hf.tr f2).tr f3) (s2.keep' f3) (one_byte w2 n ⟨h0, h1⟩) hl (hK.alloc (f2.tr f3))
  · rw [if_neg (by simp [hh]), List.append_nil] at hK
    exact hK foot w2 ⟨⟨p, c, s.keep' f2⟩, hW, hf.tr f2⟩ f2.any (fun x hx => .inl hx)
theorem rl_id {x y : Int} (ho : okID (x, y)) (h : Lw W w g k foot bs) (hl : bs.length + 11 ≤ 140737488355328) (hK : LaidR W w g k foot (bs ++ idB (x, y)) (Q (.tuple #[]))) :
    CallR Try.prog 66 #[.pointer (some (at0 g 0)), .agg #[.int .i64 x, .int .u64 y]] w Q := by
  refine X66.sound _ _ _ _ _ ?_
  unfold X66.f newK drewK
  obtain ⟨hb, f⟩ := made (w := w) (cs := #[.int .i64 x, .int .u64 y]) (e := 24)
  rw [show (⟨w.heap.size, 0, none⟩ : Addr) = at0 w.heap.size 0 from rfl]
  have hn : w.heap.size ∉ foot := fun hm => by have := h.lt _ hm; omega
  have hBl := hb.lt
  generalize w.heap.size = B at *
  have hx : 0 ≤ x ∧ x ≤ 64 := by unfold okID okSerial at ho; simp only at ho; omega
  have hy : 0 ≤ y ∧ y ≤ 72057594037927935 := by unfold okID okSerial at ho; simp only at ho; omega
  have g3 : Fr [] w (w.alloc (.cells #[.int .i64 x, .int .u64 y] 24)).drew := f.tr Fr.drew
  have b3 := hb.keep' (Fr.drew (w := w.alloc (.cells #[.int .i64 x, .int .u64 y] 24)))
  have hK3 := hK.alloc g3
  have h3 := h.keep' g3
  generalize (w.alloc (.cells #[.int .i64 x, .int .u64 y] 24)).drew = w3 at *
  simp only [optP_some, add_at, Nat.zero_add]
  obtain ⟨⟨p, c, s⟩, hW, hf⟩ := h3
  refine ld_sl s.c1 (ld_int (b3.cell rfl) ?_)
  rw [u8w x (by omega) (by omega)]
  have f8 : Fr [] w3 (w3.alloc (.cells #[.int .u8 x] 5)) := Fr.alloc _ _
  have s8 := s.keep' f8
  have b8 := b3.keep' f8
  refine ⟨⟨s.c1, s8.c1⟩, lw_app hW (hf.tr f8) s8 (one_byte w3 x (by omega)) (by omega) ?_⟩
  intro ft9 w9 l9 f9 e9
  obtain ⟨a1, a2⟩ := away b8.lt hn f9 e9
  have b9 := b8.keep f9 hn
  have f14 : Fr [] w9 w9.drew := Fr.drew
  have b14 := b9.keep' f14
  have hK14 := ((hK3.alloc f8).trans f9 e9).alloc f14
  obtain ⟨⟨p', c', s'⟩, hW', hf'⟩ := l9
  have s14 := s'.keep' f14
  refine ld_sl s14.c1 (ld_int (b14.cell rfl) ?_)
  obtain ⟨N, rfl⟩ := Int.eq_ofNat_of_zero_le hy.1
  refine rnum_spec (by omega) ?_
  intro q d w19 o19 f19 e19
  have s19 := s14.keep' f19
  have := numB_len10 (n := N) (by omega)
  refine ⟨_, _, _, rfl, ⟨s14.c1, s19.c1⟩, lw_app hW' ((hf'.tr f14).tr f19) s19 (ByS.of_own o19 (numB_wf N)) (by simp; omega) ?_⟩
  have hK19 := hK14.alloc f19
  unfold idB at hK19
  simp only [Int.toNat_natCast] at hK19
  have e : bs ++ [x] ++ numB N = bs ++ x :: numB N := by simp
  rw [e]
  exact hK19
end
end Go.Proofs.YtcmkjnoaefkkhaaX
