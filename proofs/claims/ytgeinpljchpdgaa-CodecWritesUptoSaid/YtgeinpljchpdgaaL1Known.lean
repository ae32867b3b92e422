/- Chapter 1's examples, as the statements call them. -/
import Derived.Test.YtgeinpljchpdgaaL1Writer
namespace Go.Proofs.YtgeinpljchpdgaaX
open Go.RowKit
set_option linter.unusedVariables false

theorem strEq_self (s : ByteArray) : strEq s s = true := by simp [strEq]
/-- A writer that lives among what is new since W. -/
structure WrL (W w : World) (g : Nat) (bs : List Int) : Prop where
  wr : ∃ p, Wr w g p bs ∧ ∀ k ∈ wrF g p, W.heap.size ≤ k
  fr : Fr [] W w
theorem fr_local {W w w' : World} {S : List Nat} (h : Fr [] W w) (k : Fr S w w') (hS : ∀ x ∈ S, W.heap.size ≤ x) : Fr [] W w' := h.trans k (fun x hx => .inr (hS x hx))
theorem WrL.step {W w w' : World} {g : Nat} {p p' : Option Addr} {bs : List Int} (h : Fr [] W w) (hp : ∀ k ∈ wrF g p, W.heap.size ≤ k) (h1 : Wr w' g p' bs) (h2 : Fr (wrF g p) w w') (h3 : ∀ k ∈ wrF g p', k ∈ wrF g p ∨ w.heap.size ≤ k) : WrL W w' g bs := by
  have := h.size
  refine ⟨⟨p', h1, fun k hk => ?_⟩, fr_local h h2 hp⟩
  rcases h3 k hk with hh | hh
  · exact hp k hh
  · omega
section
variable {W w : World} {g : Nat} {bs : List Int} {Q : Value → World → Prop}
theorem newWriterL (hf : Fr [] W w) (h : ∀ w' g, WrL W w' g [] → g = w.heap.size → Q (.pointer (some (at0 g 0))) w') : CallR Try.prog 12 #[] w Q := by
  refine newWriter_spec ?_
  intro w' h1 h2
  have := hf.size
  exact h w' _ ⟨⟨none, h1, by simp [wrF, fbl]; omega⟩, hf.tr h2⟩ rfl
theorem wbyteL {b : Int} (h : WrL W w g bs) (hb : 0 ≤ b ∧ b ≤ 255) (hl : bs.length + 1 ≤ 140737488355328) (hK : ∀ w', WrL W w' g (bs ++ [b]) → Q (.tuple #[]) w') : CallR Try.prog 15 #[.pointer (some (at0 g 0)), .int .u8 b] w Q := by
  obtain ⟨⟨p, h1, hp⟩, hf⟩ := h
  exact wbyte_spec h1 hb hl fun p' w' k1 k2 k3 => hK w' (WrL.step hf hp k1 k2 k3)
theorem wnumL {n : Nat} (h : WrL W w g bs) (hn : n ≤ 18446744073709551615) (hl : bs.length + 10 ≤ 140737488355328) (hK : ∀ w', WrL W w' g (bs ++ numB n) → Q (.tuple #[]) w') : CallR Try.prog 16 #[.pointer (some (at0 g 0)), .int .u64 (n : Int)] w Q := by
  obtain ⟨⟨p, h1, hp⟩, hf⟩ := h
  exact wnum_spec h1 hn hl fun p' w' k1 k2 k3 => hK w' (WrL.step hf hp k1 k2 k3)
theorem wtextL {x : Option Addr} {m mc : Nat} {us : List Int} (h : WrL W w g bs) (hs : ByS W x m mc us) (hl : bs.length + 10 + m ≤ 140737488355328) (hK : ∀ w', WrL W w' g (bs ++ textB us) → Q (.tuple #[]) w') :
    CallR Try.prog 18 #[.pointer (some (at0 g 0)), .slice x m mc] w Q := by
  obtain ⟨⟨p, h1, hp⟩, hf⟩ := h
  refine wtext_spec h1 (hs.keep' hf) (fun hne k hk hm => ?_) hl fun p' w' k1 k2 k3 => hK w' (WrL.step hf hp k1 k2 k3)
  have := hs.lt hne k hk
  have := hp k hm
  omega
theorem wbytesL (h : WrL W w g bs) (hl : bs.length ≤ 140737488355328)
    (hK : ∀ q c w', Own 5 1 w' q bs.length c (u8s bs) → WrL W w' g bs → (∀ k ∈ fbl q, w.heap.size ≤ k) → Q (.slice q bs.length c) w') : CallR Try.prog 20 #[.pointer (some (at0 g 0))] w Q := by
  obtain ⟨⟨p, h1, hp⟩, hf⟩ := h
  exact wbytes_spec h1 hl fun q c w' k1 k2 k3 => hK q c w' k1 ⟨⟨p, h1.keep' k2, hp⟩, hf.tr k2⟩ k3
end
theorem WrL.wf {W w : World} {g : Nat} {bs : List Int} (h : WrL W w g bs) : ∀ b ∈ bs, 0 ≤ b ∧ b ≤ 255 := by
  obtain ⟨⟨p, h1, _⟩, _⟩ := h
  exact h1.wf
theorem WrL.keep {W w w' : World} {g : Nat} {bs : List Int} (h : WrL W w g bs) (hf : Fr [] w w') : WrL W w' g bs := by
  obtain ⟨⟨p, h1, hp⟩, hr⟩ := h
  exact ⟨⟨p, h1.keep' hf, hp⟩, hr.tr hf⟩
theorem num300 : numB 300 = [172, 2] := by rw [numB_big (by omega), numB_small (by omega)]; rfl
theorem text2 : textB [97, 98] = [2, 97, 98] := by unfold textB; rw [show ([97, 98] : List Int).length = 2 from rfl, numB_small (by omega)]; rfl
theorem str_eg : strEq (strOfNums [7, 172, 2, 2, 97, 98]) (⟨#[7, 172, 2, 2, 97, 98]⟩ : ByteArray) = true := by decide +kernel
theorem crc_eg : crc [49, 50, 51, 52, 53, 54, 55, 56, 57] = 3421780262 := by decide +kernel
/-- A text's bytes, as they are made for a call. -/
theorem marked {w : World} (bs : List Int) (hm : bs.length ≤ 100) (hw : ∀ b ∈ bs, 0 ≤ b ∧ b ≤ 255) :
    ByS (markStr (w.alloc (.cells (u8s bs).toArray 5)) ⟨w.heap.size, 0, none⟩) (some ⟨w.heap.size, 0, none⟩) bs.length bs.length bs ∧ Fr [] w (markStr (w.alloc (.cells (u8s bs).toArray 5)) ⟨w.heap.size, 0, none⟩) := by
  constructor
  · have h := lit_bytes (w := w) bs hm hw
    refine ⟨⟨h.at_.1, fun j v hj => ?_⟩, h.le, h.nil, h.wf⟩
    obtain ⟨p, hp, hc⟩ := h.at_.2 j v hj
    exact ⟨p, hp, by rw [markStr_cell]; exact hc⟩
  · refine (Fr.alloc w _).trans (markStr_fr _ _) (fun y hy => .inr ?_)
    simp at hy
    omega
theorem known_spec {w : World} {Q : Value → World → Prop} (hQ : ∀ w', Fr [] w w' → Q (.bool true) w') : CallR Try.prog 13 #[] w Q := by
  refine X13.sound _ _ ?_
  unfold X13.f
  refine newWriterL (Fr.refl w) ?_
  intro w1 g h1 _
  refine ⟨_, rfl, ?_⟩
  show CallR _ _ _ _ _
  refine wbyteL h1 (by omega) (by simp) ?_
  intro w2 h2
  refine ⟨rfl, wnumL (n := 300) h2 (by omega) (by simp) ?_⟩
  intro w3 h3
  refine ⟨rfl, ?_⟩
  unfold newK
  obtain ⟨hb, hf⟩ := marked (w := w3) [97, 98] (by simp) (by simp)
  obtain ⟨⟨p, hp, hpl⟩, hr⟩ := h3
  have hr' := hr.tr hf
  refine wtext_spec (hp.keep' hf) hb (fun _ k hk hm => ?_) (by rw [num300]; simp) ?_
  · have := hp.lt k hm
    simp [fbl] at hk
    omega
  · intro p' w4 k1 k2 k3
    have h4 := WrL.step hr' hpl k1 k2 k3
    rw [num300, text2] at h4
    refine ⟨rfl, wbytesL h4 (by simp) ?_⟩
    intro q c w5 o5 h5 _
    have hb5 := ByS.of_own o5 h4.wf
    refine ⟨_, _, _, rfl, _, hb5.at_, ?_⟩
    rw [show strEq (strOfNums ([] ++ [7] ++ [172, 2] ++ [2, 97, 98])) (⟨#[7, 172, 2, 2, 97, 98]⟩ : ByteArray) = true from str_eg]
    obtain ⟨hb6, hf6⟩ := marked (w := w5) [49, 50, 51, 52, 53, 54, 55, 56, 57] (by simp) (by simp)
    refine sum_spec hb6 (by simp) ⟨_, rfl, ?_⟩
    rw [crc_eg]
    exact hQ _ (h5.fr.tr hf6)
end Go.Proofs.YtgeinpljchpdgaaX
