/- TableRound: whoever goes on by After meets each key in as many steps as there are entries. -/
import Derived.Test.YtbgebldhpbnacaaL6Full
namespace Go.Proofs.YtbgebldhpbnacaaX
open Go.RowKit
set_option linter.unusedVariables false
set_option linter.unusedSimpArgs false
set_option maxRecDepth 100000
section
variable {l : KV}
theorem srt_lt (hs : Srt ilt (keys l)) {i j : Nat} {a b : Int} (hij : i < j) (hi : (keys l)[i]? = some a) (hj : (keys l)[j]? = some b) : a < b := by
  obtain ⟨h1, e1⟩ := List.getElem?_eq_some_iff.1 hi
  obtain ⟨h2, e2⟩ := List.getElem?_eq_some_iff.1 hj
  have := List.pairwise_iff_getElem.1 hs i j h1 h2 hij
  rw [e1, e2] at this
  simpa [ilt] using this
theorem srt_inj (hs : Srt ilt (keys l)) {i j : Nat} {a : Int} (hi : (keys l)[i]? = some a) (hj : (keys l)[j]? = some a) : i = j := by
  rcases Nat.lt_trichotomy i j with h | h | h
  · have := srt_lt hs h hi hj; omega
  · exact h
  · have := srt_lt hs h hj hi; omega
theorem at_key (hs : Srt ilt (keys l)) {i : Nat} {a : Int} (hi : (keys l)[i]? = some a) : has ilt l a = true ∧ at_ ilt l a = i := by
  have hh : has ilt l a = true := (has_mem hs).2 (List.mem_iff_getElem?.2 ⟨i, hi⟩)
  refine ⟨hh, ?_⟩
  simp only [has, decide_eq_true_eq] at hh
  exact srt_inj hs hh hi
/-- the place behind a place, round -/
def turn (N i : Nat) : Nat := if i + 1 < N then i + 1 else 0
theorem after_key (hs : Srt ilt (keys l)) {i : Nat} {a : Int} (hi : (keys l)[i]? = some a) : ∃ b, after ilt l a = some b ∧ (keys l)[turn l.length i]? = some b := by
  obtain ⟨h1, h2⟩ := at_key hs hi
  have hlt : i < l.length := by have := (List.getElem?_eq_some_iff.1 hi).1; simpa using this
  unfold after next turn
  rw [if_pos h1, h2]
  by_cases h : i + 1 < l.length
  · rw [if_pos h, List.getElem?_eq_getElem (by simpa using h)]
    exact ⟨_, rfl, rfl⟩
  · rw [if_neg h, List.getElem?_eq_none (by simp; omega), List.getElem?_eq_getElem (i := 0) (by simp; omega)]
    exact ⟨_, rfl, rfl⟩
theorem after_any (h0 : 0 < l.length) (k : Int) : ∃ b i, after ilt l k = some b ∧ i < l.length ∧ (keys l)[i]? = some b := by
  unfold after
  cases hn : next ilt l k with
  | none =>
    have h := List.getElem?_eq_getElem (l := keys l) (i := 0) (by simpa using h0)
    exact ⟨_, 0, by rw [h]; rfl, h0, h⟩
  | some b =>
    unfold next at hn
    have := (List.getElem?_eq_some_iff.1 hn).1
    exact ⟨b, _, rfl, by simpa using this, hn⟩
end
section
variable {W : World} {p : Option Addr} {n c : Nat} {zs : List Int} {g : Nat} {frm : Int}
/-- where one stands after some steps from s on -/
theorem round_l1 {l : KV} {s : Nat} {first : Int} (hs : s < l.length) (hf : (keys l)[s]? = some first) : ∀ (f m : Nat) (w : World) (i : Nat) (k : Int), l.length - m < f → L_UI W w (at0 g 0) 4096 l → 1 ≤ m → m ≤ l.length → (keys l)[i]? = some k → (i + 1 = s + m ∨ i + 1 + l.length = s + m) →
    X4.l1 (Ok W) f (some (at0 g 0)) k first (m : Int) (if i + 1 = s + m then 0 else 1) w
  | 0, m, w, i, k, hfu, _, _, _, _, _ => by omega
  | f + 1, m, w, i, k, hfu, h, h1, h2, hk, hi => by
    have hsz := h.size
    have hsr := h.srt
    have hil : i < l.length := by have := (List.getElem?_eq_some_iff.1 hk).1; simpa using this
    obtain ⟨ft, t⟩ := h.t
    obtain ⟨b, hb1, hb2⟩ := after_key hsr hk
    rw [X4.l1]
    refine len_UI t ⟨_, rfl, bc_pos (by omega) (after_UI t ?_)⟩
    rw [hb1]
    refine ⟨_, _, rfl, ?_⟩
    show bcase (decide (b ≤ k)) _ _
    have fin : ∀ fl : Int, fl = 1 → CallR Try.prog 18 #[.pointer (some (at0 g 0))] w (fun v8 w9 => ∃ (y10 : Int), v8 = .int .i64 y10 ∧ bcase ((l.length : Int) == y10) (bcase (first == first) (Ok W (.bool (fl == (1 : Int))) w9) (Ok W (.bool false) w9)) (Ok W (.bool false) w9)) := by
      intro fl hfl
      subst hfl
      refine len_UI t ⟨_, rfl, bc_eq (fun _ => bc_eq (fun _ => ⟨rfl, h.fr⟩) (fun h => absurd rfl h)) (fun h => absurd rfl h)⟩
    have em : IntKind.wrap .i64 ((m : Int) + 1) = ((m + 1 : Nat) : Int) := by rw [i64w _ (by omega) (by omega)]; omega
    by_cases hw : i + 1 < l.length
    · have ht : turn l.length i = i + 1 := by unfold turn; rw [if_pos hw]
      rw [ht] at hb2
      have hlt := srt_lt hsr (by omega) hk hb2
      refine bc_neg (by omega) (bc_eq (fun e => ?_) (fun e => ?_))
      · subst e
        have := srt_inj hsr hb2 hf
        have hm : m = l.length := by omega
        subst hm
        rw [if_neg (by omega)]
        exact fin 1 rfl
      · have hne : i + 1 ≠ s := fun e' => e (by rw [e', hf] at hb2; injection hb2 with hb2; exact hb2.symm)
        rw [em]
        have := round_l1 hs hf f (m + 1) w (i + 1) b (by omega) h (by omega) (by omega) hb2 (by omega)
        have e2 : (if i + 1 = s + m then (0 : Int) else 1) = (if i + 1 + 1 = s + (m + 1) then 0 else 1) := by
          by_cases h : i + 1 = s + m
          · rw [if_pos h, if_pos (by omega)]
          · rw [if_neg h, if_neg (by omega)]
        rw [e2]
        exact this
    · have ht : turn l.length i = 0 := by unfold turn; rw [if_neg hw]
      rw [ht] at hb2
      have hle : b ≤ k := by
        by_cases h0 : i = 0
        · subst h0; rw [hb2] at hk; injection hk with hk; omega
        · have := srt_lt hsr (by omega : 0 < i) hb2 hk; omega
      have hi0 : i + 1 = s + m := by omega
      rw [if_pos hi0]
      refine bc_pos hle (bc_eq (fun e => ?_) (fun e => ?_))
      · subst e
        have := srt_inj hsr hb2 hf
        have hm : m = l.length := by omega
        subst hm
        exact fin (IntKind.wrap .i64 (0 + 1)) (by rw [i64w _ (by omega) (by omega)]; rfl)
      · have hne : 0 ≠ s := fun e' => e (by rw [e', hf] at hb2; injection hb2 with hb2; exact hb2.symm)
        rw [em]
        have := round_l1 hs hf f (m + 1) w 0 b (by omega) h (by omega) (by omega) hb2 (by omega)
        rw [if_neg (by omega)] at this
        rw [show IntKind.wrap .i64 ((0 : Int) + 1) = 1 by rw [i64w _ (by omega) (by omega)]; rfl]
        exact this
theorem round_l0 {m cm : Nat} (hz : IsRow .u64 W p n c zs) (hm : m ≤ n) (hm2 : m ≤ 200) : ∀ (f t : Nat) (w : World) (l : KV), m - t < f → L_UI W w (at0 g 0) 4096 l → l.length ≤ t → (0 < t → 0 < l.length) → t ≤ m →
    X4.l0 (Ok W) f p m cm frm (some (at0 g 0)) (t : Int) w
  | 0, t, w, l, hf, _, _, _, _ => by omega
  | f + 1, t, w, l, hf, h, hl, hp, ht => by
    rw [X4.l0]
    refine bc_dec (fun h1 => ?_) (fun h1 => ?_)
    · obtain ⟨a, ha, hc, _⟩ := hz.at_ (i := t) (by omega)
      have hc' := h.fr.cell' hc
      have hs := h.srt
      refine ⟨⟨by omega, by omega⟩, opt_some ha (ld_int (by rw [Int.toNat_natCast, Nat.mul_one]; exact hc') ?_)⟩
      refine putL_UI h (fun _ hx => by omega) (fun _ w' k' => ⟨_, rfl, ?_⟩)
      rw [show IntKind.wrap .i64 ((t : Int) + 1) = ((t + 1 : Nat) : Int) by rw [i64w _ (by omega) (by omega)]; omega]
      refine round_l0 hz hm hm2 f (t + 1) w' _ (by omega) k' (by rw [put_length]; split <;> omega) (fun _ => ?_) (by omega)
      rw [put_length]
      split
      · rename_i hh; have := at_lt hh; omega
      · omega
    · have : t = m := by omega
      subst this
      obtain ⟨ft, tt⟩ := h.t
      refine after_UI tt ?_
      by_cases h0 : 0 < l.length
      · obtain ⟨b, s, hb1, hs, hb2⟩ := after_any h0 frm
        rw [hb1]
        refine ⟨_, _, rfl, bc_bool (fun h => by cases h) (fun _ => ⟨l.length + 1, ?_⟩)⟩
        have := round_l1 (W := W) (g := g) hs hb2 (l.length + 1) 1 w s b (by omega) h (by omega) (by omega) hb2 (.inl rfl)
        rw [if_pos rfl] at this
        exact this
      · have e0 : t = 0 := by by_cases e : t = 0; exact e; exact absurd (hp (by omega)) h0
        have el : l = [] := List.eq_nil_of_length_eq_zero (by omega)
        subst el; subst e0
        refine ⟨_, _, rfl, bc_bool (fun _ => ?_) (fun h => by cases h)⟩
        exact ⟨rfl, h.fr⟩
theorem tableRound_row {len cap : Nat} (hz : IsRow .u64 W p len cap zs) (y : len * 8 ≤ 140737488351232) (a1 : Int) (w1 : (Lit.int .u64 a1).wf = true) :
    CallR Try.prog 4 #[.slice p len cap, .int .u64 a1] W fun v w' => v = .bool true ∧ Fr [] W w' := by
  refine X4.sound _ _ _ _ _ _ ?_
  unfold X4.f
  refine newL_UI (Fr.refl W) (fun h => by omega) ?_
  intro _ _ g w1 k1
  refine ⟨_, _, rfl, known_spec fun w2 f2 => ⟨_, rfl, ?_⟩⟩
  have k2 := k1.keep f2
  show X4.j2 _ _ _ _ _ _ w2
  have hle : len ≤ cap := by rcases hz with ⟨_, h1, h2, _⟩ | ⟨_, _, h, _⟩ <;> omega
  unfold X4.j2
  have hmin : min2 ((len : Nat) : Int) (200 : Int) = ((min len 200 : Nat) : Int) := by unfold min2; omega
  rw [hmin]
  refine ⟨⟨by omega, by omega, by omega⟩, min len 200 + 1, ?_⟩
  simp only [toNat0, cutAt_zero', Nat.sub_zero, Int.toNat_natCast]
  exact round_l0 hz (by omega) (by omega) _ 0 w2 [] (by omega) k2 (by simp) (fun h => by omega) (by omega)
end
end Go.Proofs.YtbgebldhpbnacaaX
