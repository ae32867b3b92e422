/- CodecCut: what is laid and cut off ends too early. CodecNear: laid bytes with one turned are read alike. -/
import Derived.Test.YtgeinpljchpdgaaL1Args
namespace Go.Proofs.YtgeinpljchpdgaaX
open Go.RowKit Go.Proofs.Ytgeinpljchpdgaa
set_option linter.unusedVariables false

/-! ### Cut off -/
/-- The reader has met the end, or stands where what is left of the lays begins, and that is cut. -/
def CutAt (bs : List Int) (a : Nat) (bad : Int) (rest : List LayD) : Prop := bad = 20 ∨ (bad = 0 ∧ ∃ r, r < (encAll rest).length ∧ bs.drop a = (encAll rest).take r)
theorem cut_step {bs : List Int} {a : Nat} {l : LayD} {rest : List LayD} {r : Nat} (hr : r < (encAll (l :: rest)).length) (hd : bs.drop a = (encAll (l :: rest)).take r) :
    (r < (encL l).length ∧ bs.drop a = (encL l).take r) ∨ ∃ r', r' < (encAll rest).length ∧ bs.drop a = encL l ++ (encAll rest).take r' ∧ bs.drop (a + (encL l).length) = (encAll rest).take r' := by
  simp only [encAll] at hr hd
  by_cases h : r < (encL l).length
  · exact .inl ⟨h, by rw [hd, List.take_append_of_le_length (by omega)]⟩
  · refine .inr ⟨r - (encL l).length, by simp at hr; omega, ?_, ?_⟩
    · rw [hd, List.take_append, List.take_of_length_le (by omega)]
    · rw [← List.drop_drop, hd, List.take_append, List.take_of_length_le (by omega), List.drop_left]
theorem readByte_cut {bs : List Int} {a : Nat} {most : Int} (hd : bs.drop a = []) : readByte bs a 0 most = (0, a, 20) :=
  readByte_short (List.getElem?_eq_none (by have := congrArg List.length hd; simp at this; omega))
theorem readNum_cut {bs : List Int} {a n r : Nat} {most : Int} (hn : n ≤ 18446744073709551615) (hr : r < (numB n).length) (hd : bs.drop a = (numB n).take r) : readNum bs a 0 most = (0, a, 20) := by
  have h := numR_cut n 0 0 r (by omega) hr
  rw [← hd] at h
  rw [readNum_err (by rw [h]; decide), h]
theorem readText_cut {bs t : List Int} {a r : Nat} {most : Int} (hn : t.length ≤ 18446744073709551615) (hr : r < (textB t).length) (hd : bs.drop a = (textB t).take r) (hm : (t.length : Int) ≤ most) : (readText bs a 0 most).2.2 = 20 := by
  unfold textB at hr hd
  by_cases h : r < (numB t.length).length
  · rw [List.take_append_of_le_length (by omega)] at hd
    have e := readNum_cut (most := max 0 most) hn h hd
    rw [readText_bad (by rw [e]; simp), e]
  · rw [List.take_append, List.take_of_length_le (by omega)] at hd
    have e := readNum_enc (most := max 0 most) hn hd (by omega)
    have hd2 : bs.drop (a + (numB t.length).length) = t.take (r - (numB t.length).length) := by rw [← List.drop_drop, hd, List.drop_left]
    have hl := congrArg List.length hd2
    simp at hl hr
    rw [readText_short (by rw [e]) (by rw [e]; simp; omega)]
section
variable {W : World} {y : Option Addr} {m d : Nat} {ls : List LayD} {g : Nat} {q : Option Addr} {n c : Nat} {bs : List Int}
theorem cut_l0 (hk : LaysAt W y m ls) (hm : m ≤ 140737488355328) : ∀ (rest : List LayD) (i : Nat) (w : World) (a : Nat) (bad : Int), BackInv W w bs g q n c a bad → CutAt bs a bad rest → ls.drop i = rest → i + rest.length = m → bulkL rest ≤ 1048576 →
    X9.l0 (fun v w' => v = .bool true ∧ Fr [] W w') (rest.length + 1) y m d (some (at0 g 0)) (i : Int) w
  | [], i, w, a, bad, v, hcut, hd, hl, hB2 => by
    rw [List.length_nil, X9.l0]
    refine bc_neg (by simp at hl; omega) ?_
    refine cend_spec v.rd ?_
    intro w1 f1
    have he : bad = 20 := by
      rcases hcut with h | ⟨_, r, hr, _⟩
      · exact h
      · simp [encAll] at hr
    subst he
    have he : readEnd bs a 20 = 20 := by unfold readEnd; rw [if_neg (by simp)]
    rw [he]
    exact ⟨_, rfl, rfl, v.fr.tr f1⟩
  | l :: rest, i, w, a, bad, v, hcut, hd, hl, hB2 => by
    simp only [List.length_cons] at hl
    simp only [bulkL] at hB2
    have hi : ls[i]? = some l := by rw [← List.head?_drop, hd]; rfl
    have hnext : ls.drop (i + 1) = rest := by rw [← List.drop_drop, hd]; rfl
    have e1 : IntKind.wrap .i64 ((i : Int) + 1) = ((i + 1 : Nat) : Int) := by rw [i64w _ (by omega) (by omega)]; omega
    have hlt : (0 : Int) ≤ (i : Int) ∧ (i : Int) < ((m : Nat) : Int) := ⟨by omega, by omega⟩
    rw [List.length_cons, X9.l0]
    simp only [Int.toNat_natCast, e1]
    obtain ⟨p, hp, hW⟩ := hk.at_ i l hi
    have hc := hW.keep' v.fr
    have hlm := hW.ts.len
    refine bc_pos (by omega) ⟨hlt, opt_some hp (ld_int hc.c0 (pick_spec (by omega) (by omega) ⟨_, rfl, ?_⟩))⟩
    refine bc_eq (fun h0 => ?_) (fun h0 => bc_eq (fun h1 => ?_) (fun h1 => ?_))
    · refine cbyte_spec v.rd ?_
      intro w1 r1 f1
      have v1 := v.set r1 f1
      refine ⟨_, rfl, cut_l0 hk hm rest (i + 1) w1 _ _ v1 ?_ hnext (by omega) (by omega)⟩
      rcases hcut with h | ⟨h, r, hr, hdr⟩
      · rw [readByte_bad (by rw [h]; decide)]; exact .inl h
      · subst h
        rcases cut_step hr hdr with ⟨h1, h2⟩ | ⟨r', h1, h2, h3⟩
        · rw [encL0 h0] at h1 h2
          have : r = 0 := by simpa using h1
          subst this
          rw [readByte_cut h2]; exact .inl rfl
        · rw [encL0 h0] at h2 h3
          rw [readByte_enc h2 hW.br.2]
          exact .inr ⟨rfl, r', h1, h3⟩
    · refine cnum_spec v.rd ?_
      intro w1 r1 f1
      have v1 := v.set r1 f1
      refine ⟨_, rfl, cut_l0 hk hm rest (i + 1) w1 _ _ v1 ?_ hnext (by omega) (by omega)⟩
      rcases hcut with h | ⟨h, r, hr, hdr⟩
      · rw [readNum_bad (by rw [h]; decide)]; exact .inl h
      · subst h
        have hnr := hW.nr
        rcases cut_step hr hdr with ⟨k1, k2⟩ | ⟨r', k1, k2, k3⟩
        · rw [encL1 h1] at k1 k2
          rw [readNum_cut hW.nr k1 k2]; exact .inl rfl
        · rw [encL1 h1] at k2 k3
          rw [readNum_enc hW.nr k2 (by omega)]
          exact .inr ⟨rfl, r', k1, k3⟩
    · refine ⟨hlt, opt_some hp (ld_sl hc.c3 (ctext_spec v.rd (by omega) ?_))⟩
      intro z zn zc w1 r1 o1 z1 f1
      have v1 := v.set r1 f1
      refine ⟨_, _, _, rfl, cut_l0 hk hm rest (i + 1) w1 _ _ v1 ?_ hnext (by omega) (by omega)⟩
      rcases hcut with h | ⟨h, r, hr, hdr⟩
      · have e := readNum_bad (bs := bs) (a := a) (bad := bad) (most := max 0 ((l.m : Nat) : Int)) (by rw [h]; decide)
        rw [readText_bad (by rw [e]; show bad ≠ 0; rw [h]; decide), e]; exact .inl h
      · subst h
        rcases cut_step hr hdr with ⟨k1, k2⟩ | ⟨r', k1, k2, k3⟩
        · rw [encL2 h0 h1] at k1 k2
          exact .inl (readText_cut (by omega) k1 k2 (by omega))
        · rw [encL2 h0 h1] at k2 k3
          rw [readText_enc (by omega) k2 (by omega)]
          exact .inr ⟨rfl, r', k1, k3⟩
theorem lays_n (hk : LaysAt W y m ls) : ∀ l ∈ ls, l.n ≤ 18446744073709551615 := fun l hl => by
  obtain ⟨i, hi⟩ := List.getElem?_of_mem hl
  obtain ⟨_, _, h⟩ := hk.at_ i l hi
  exact h.nr
theorem codecCut (hk : LaysAt W y m ls) (hm : m ≤ 140737488355328) (hB : bulkL ls ≤ 1048576) (k : Int) : CallR Try.prog 9 #[.slice y m d, .int .i64 k] W fun v w' => v = .bool true ∧ Fr [] W w' := by
  refine X9.sound _ _ _ _ _ _ ?_
  unfold X9.f
  refine laid_spec hk hm hB ?_
  intro p pc w1 o1 f1 e1 hwf
  have hb := ByS.of_own o1 hwf
  have hlen := encAll_len (lays_n hk) hB
  refine ⟨_, _, _, rfl, known_spec ?_⟩
  intro w2 f2
  refine ⟨_, rfl, bc_bool (fun h => absurd h (by decide)) (fun _ => bc_eq (fun h => ⟨rfl, f1.tr f2⟩) (fun h => ?_))⟩
  refine pick_spec (by omega) (by omega) ⟨_, rfl, ?_⟩
  have r1 := Int.emod_nonneg k h
  have r2 := Int.emod_lt_of_pos k (show (0 : Int) < (((encAll ls).length : Nat) : Int) by omega)
  generalize k % (((encAll ls).length : Nat) : Int) = j at r1 r2
  obtain ⟨r, rfl⟩ : ∃ r : Nat, j = (r : Int) := ⟨j.toNat, by omega⟩
  have hle := hb.le
  rw [toNat0, cutAt_zero, Nat.sub_zero, Nat.sub_zero, Int.toNat_natCast]
  refine ⟨⟨by omega, by omega, by omega⟩, newReader_spec ((hb.keep' f2).take r (by omega)) (by omega) ?_⟩
  intro g q qc w3 r3 hg hq f3
  refine ⟨_, rfl, ?_⟩
  have s1 := (f1.tr f2).size
  show ∃ m13, X9.l0 _ m13 y m d (some (at0 g 0)) 0 w3
  exact ⟨_, cut_l0 hk hm ls 0 w3 0 0 ⟨f1.tr (f2.tr f3), r3, by omega⟩ (.inr ⟨rfl, r, by omega, rfl⟩) rfl (by simp [hk.len]) hB⟩
theorem codecCut_row {H : Type} {w : World} {y : Option Addr} {m d : Nat} {dd : DataW H} (h2 : Lies Try.prog w 6 22 [.slice y m d] dd) (hm : m * 48 ≤ 140737488351232) (k : Int) (_ : (Lit.int .i64 k).wf = true) {d1 : DataW H} (hB : Rows.uptoBulkAll ([dd, d1] ++ []) ≤ 1048576) :
    CallR Try.prog 9 #[.slice y m d, .int .i64 k] w fun v w' => v = .bool true ∧ Fr [] w w' := by
  obtain ⟨y', m', d', ls, e, hk, hb⟩ := lays_of_lies h2
  simp only [List.cons.injEq, Value.slice.injEq, and_true] at e
  obtain ⟨rfl, rfl, rfl⟩ := e
  simp only [List.append_nil, Rows.uptoBulkAll] at hB
  exact codecCut hk (by omega) (by omega) k
end
end Go.Proofs.YtgeinpljchpdgaaX
