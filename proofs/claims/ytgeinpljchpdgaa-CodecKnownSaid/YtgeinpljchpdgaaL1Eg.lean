/- CodecKnown: chapter 1's examples. -/
import Derived.Test.YtgeinpljchpdgaaL1Text
import Derived.Test.YtgeinpljchpdgaaL1Sums
namespace Go.Proofs.YtgeinpljchpdgaaX
open Go.RowKit
set_option linter.unusedVariables false
theorem eg_byte : readByte [7, 172, 2, 2, 97, 98] 0 0 9 = (7, 1, 0) := by decide +kernel
theorem eg_num : readNum [7, 172, 2, 2, 97, 98] 1 0 300 = (300, 3, 0) := by decide +kernel
theorem eg_text : readText [7, 172, 2, 2, 97, 98] 3 0 5 = ([97, 98], 6, 0) := by decide +kernel
theorem eg_end : readEnd [7, 172, 2, 2, 97, 98] 6 0 = 0 := by decide +kernel
theorem eg_a : readNum [128, 0] 0 0 9 = (0, 0, 21) := by decide +kernel
theorem eg_b : readNum [172, 2] 0 0 299 = (0, 0, 22) := by decide +kernel
theorem eg_ab : strEq (strOfNums [97, 98]) (⟨#[97, 98]⟩ : ByteArray) = true := by decide +kernel
theorem eg_s : strEq (strOfNums [97]) (⟨#[97]⟩ : ByteArray) = true := by decide +kernel
theorem eg_nil : crc [] = 0 := by decide +kernel
theorem codecKnown {w : World} : CallR Try.prog 11 #[] w fun v w' => v = .bool true ∧ Fr [] w w' := by
  refine X11.sound _ _ ?_
  unfold X11.f newK
  obtain ⟨hb, hf⟩ := marked (w := w) [7, 172, 2, 2, 97, 98] (by simp) (by simp)
  refine newReader_spec hb (by simp) ?_
  intro g q qc w1 r1 hg hq f1
  have s0 := hf.size
  have fw1 := hf.tr f1
  have g0 : w.heap.size ≤ g := Nat.le_trans s0 hg
  have hgW : ∀ z ∈ [g], w.heap.size ≤ z := fun z hz => by simp at hz; omega
  refine ⟨_, rfl, ?_⟩
  show CallR _ _ _ _ _
  refine cbyte_spec r1 ?_
  rw [eg_byte]
  intro w2 r2 f2
  have fw2 := fr_local fw1 f2 hgW
  refine ⟨_, rfl, bc_ne (fun h => absurd rfl h) (fun _ => cnum_spec r2 ?_)⟩
  rw [eg_num]
  intro w3 r3 f3
  have fw3 := fr_local fw2 f3 hgW
  refine ⟨_, rfl, bc_ne (fun h => absurd rfl h) (fun _ => ctext_spec r3 (by omega) ?_)⟩
  rw [eg_text]
  intro z zn zc w4 r4 o4 e4 f4
  have fw4 := fr_local fw3 f4 hgW
  have hbz := ByS.of_own o4 (by simp)
  refine ⟨_, _, _, rfl, _, hbz.at_, ?_⟩
  rw [eg_ab]
  show CallR _ _ _ _ _
  refine cend_spec r4 ?_
  rw [eg_end]
  intro w5 f5
  have fw5 := fw4.tr f5
  refine ⟨_, rfl, bc_ne (fun h => absurd rfl h) (fun _ => ?_)⟩
  unfold X11.j1 newK
  have hb2 : ByS (w5.alloc (.cells (u8s [128, 0]).toArray 5)) (some ⟨w5.heap.size, 0, none⟩) 2 2 [128, 0] := lit_bytes [128, 0] (by simp) (by simp)
  have f6 : Fr [] w5 (w5.alloc (.cells (u8s [128, 0]).toArray 5)) := Fr.alloc w5 _
  refine newReader_spec hb2 (by omega) ?_
  intro ga qa qca w7 ra hga hqa f7
  refine ⟨_, rfl, ?_⟩
  have hb3 : ByS (w7.alloc (.cells (u8s [172, 2]).toArray 5)) (some ⟨w7.heap.size, 0, none⟩) 2 2 [172, 2] := lit_bytes [172, 2] (by simp) (by simp)
  have f8 : Fr [] w7 (w7.alloc (.cells (u8s [172, 2]).toArray 5)) := Fr.alloc w7 _
  refine newReader_spec hb3 (by omega) ?_
  intro gb qb qcb w9 rb hgb hqb f9
  have fw9 := fw5.tr (f6.tr (f7.tr (f8.tr f9)))
  have ra9 := ra.keep' (f8.tr f9)
  have s5 := fw5.size
  have s57 : w5.heap.size ≤ w7.heap.size := (f6.tr f7).size
  have hgal := ra.blk.lt
  have ga5 : w5.heap.size ≤ ga := Nat.le_trans f6.size hga
  have gb7 : w7.heap.size ≤ gb := Nat.le_trans f8.size hgb
  have qb7 : ∀ k ∈ fbl qb, w7.heap.size ≤ k := fun k hk => Nat.le_trans f8.size (hqb k hk).1
  refine ⟨_, rfl, ?_⟩
  show CallR _ _ _ _ _
  refine cnum_spec ra9 ?_
  rw [eg_a]
  intro w10 ra10 f10
  have fw10 := fr_local fw9 f10 (fun z hz => by simp at hz; omega)
  have rb10 := rb.keep f10 (by simp; omega) (fun _ k hk hm => by have := qb7 k hk; simp at hm; omega)
  refine ⟨_, rfl, bc_ne (fun h => absurd rfl h) (fun _ => cend_spec ra10 ?_)⟩
  intro w11 f11
  have e21 : readEnd [128, 0] 0 21 = 21 := by decide +kernel
  rw [e21]
  refine ⟨_, rfl, bc_ne (fun h => absurd rfl h) (fun _ => cnum_spec (rb10.keep' f11) ?_)⟩
  rw [eg_b]
  intro w12 rb12 f12
  have fw12 := fr_local (fw10.tr f11) f12 (fun z hz => by simp at hz; omega)
  refine ⟨_, rfl, bc_ne (fun h => absurd rfl h) (fun _ => cend_spec rb12 ?_)⟩
  intro w13 f13
  have e22 : readEnd [172, 2] 0 22 = 22 := by decide +kernel
  rw [e22]
  refine ⟨_, rfl, bc_ne (fun h => absurd rfl h) (fun _ => ?_)⟩
  unfold X11.j0 newK
  have fw13 := fw12.tr f13
  obtain ⟨hb14, f14⟩ := marked (w := w13) [97] (by simp) (by simp)
  refine seal_spec hb14 (by simp) ?_
  intro ps pc w15 o15 f15 e15
  have hs := ByS.of_own o15 (sealOf_wf hb14.wf)
  refine ⟨_, _, _, rfl, unseal_spec hs (by simp) ?_⟩
  rw [unseal_seal]
  intro pu mu cu w16 b16 f16
  refine ⟨_, _, _, _, rfl, ?_⟩
  obtain ⟨hb17, f17⟩ := marked (w := w16) [97, 98, 99] (by simp) (by simp)
  refine unseal_spec hb17 (by simp) ?_
  rw [unseal_small (bs := [97, 98, 99]) (by simp)]
  intro px mx cx w18 b18 f18
  refine ⟨_, _, _, _, rfl, known_spec ?_⟩
  intro w19 f19
  refine ⟨_, rfl, ?_⟩
  show CallR _ _ _ _ _
  refine sum_spec ByS.nil' (by omega) ⟨_, rfl, ?_⟩
  rw [eg_nil]
  refine bc_eq (fun _ => ?_) (fun h => absurd rfl h)
  refine ⟨_, (b16.keep' (f17.tr (f18.tr f19))).at_, ?_⟩
  rw [eg_s, bcase_true]
  refine bc_eq (fun _ => ?_) (fun h => absurd rfl h)
  exact ⟨rfl, fw13.tr (f14.tr (f15.tr (f16.tr (f17.tr (f18.tr f19)))))⟩
theorem codecKnown_row {w : World} : CallR Try.prog 11 #[] w fun v w' => v = .bool true ∧ Fr [] w w' := codecKnown
end Go.Proofs.YtgeinpljchpdgaaX
