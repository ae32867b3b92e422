/- TableWords: a table whose keys are texts holds what was put last. -/
import Derived.Test.YtbgebldhpbnacaaTLocSI
import Derived.Test.YtbgebldhpbnacaaL6Known
import Derived.Test.YtbgebldhpbnacaaXLies
namespace Go.Proofs.YtbgebldhpbnacaaX
open Go.RowKit
set_option linter.unusedVariables false
set_option linter.unusedSimpArgs false
set_option maxRecDepth 100000
abbrev OkW (W : World) : Value → World → Prop := fun v w' => v = .bool true ∧ Fr [] W w'
/-- the texts that a row hands in -/
def WordsAt (w : World) (p : Option Addr) (n : Nat) (S : Nat → ByteArray) : Prop := ∀ i, i < n → ∃ q, p = some q ∧ w.cell? (q.add i) = some (.string (S i))
theorem words_of_lies {H : Type} {w : World} {n : Nat} {a : Option Addr} {len cap : Nat} {d : DataW H} (h : Lies Try.prog w (n + 2) 22 [.slice a len cap] d) : ∃ S, WordsAt w a len S := by
  rcases lies_slice (P := Try.prog) (e := 9) Try.underlying22 h with ⟨h1, h2⟩ | ⟨a', len', cap', elems, rest, h1, h2, hl, hm, hlen, hel⟩
  · injection h1 with h1; injection h1 with e1 e2 e3; subst e2
    exact ⟨fun _ => ByteArray.empty, fun i hi => by omega⟩
  · injection h1 with h1; injection h1 with e1 e2 e3; subst e1; subst e2
    have key : ∀ i, ∃ s : ByteArray, i < len → w.cell? (a'.add i) = some (.string s) := by
      intro i
      by_cases hi : i < len
      · obtain ⟨cs', hcl, hcell, hly⟩ := hel i _ (List.getElem?_eq_getElem (by omega))
        have hsz : Try.prog.cellsOf 9 = 1 := by kernel_rfl
        rw [hsz] at hcl hcell
        obtain ⟨s, rfl, _, _⟩ := lies_string Try.underlying9 hly
        have := hcell 0 _ rfl
        rw [Nat.mul_one] at this
        exact ⟨s, fun _ => this⟩
      · exact ⟨ByteArray.empty, fun h => absurd h hi⟩
    exact ⟨fun i => (key i).choose, fun i hi => ⟨a', rfl, (key i).choose_spec hi⟩⟩
/-- what was put last for a key -/
def lastv (S : Nat → ByteArray) (V : Nat → Int) : Nat → ByteArray → Option Int
  | 0, _ => none
  | t + 1, k => if S t = k then some (V t) else lastv S V t k
section
variable {W : World} {p q : Option Addr} {n c vn vc m g : Nat} {zs : List Int} {S : Nat → ByteArray}
abbrev vv (zs : List Int) : Nat → Int := fun i => zs.getD i 0
theorem wl3 {l : List (ByteArray × Int)} {r : Option Addr} {rc : Nat} : ∀ (f t : Nat) (w : World), l.length - t < f → L_SI W w (at0 g 0) 4096 l → Cells w r ((keys l).map Value.string) → 1 ≤ t → X3.l3 (OkW W) f (some (at0 g 0)) r l.length rc (t : Int) w
  | 0, t, w, hf, _, _, _ => by omega
  | f + 1, t, w, hf, h, hc, ht => by
    have hsz := h.size
    rw [X3.l3]
    refine bc_dec (fun h1 => ?_) (fun h1 => ?_)
    · unfold drewK
      have hc' := hc.keep' (Fr.drew (S := []) (w := w))
      have h' := h.keep (Fr.drew (S := []) (w := w))
      have e1 : IntKind.wrap .i64 ((t : Int) - 1) = ((t - 1 : Nat) : Int) := by rw [i64w _ (by omega) (by omega)]; omega
      have e2 : IntKind.wrap .i64 ((t : Int) + 1) = ((t + 1 : Nat) : Int) := by rw [i64w _ (by omega) (by omega)]; omega
      rw [e1, e2]
      have k0 : t - 1 < (keys l).length := by simp; omega
      have k1 : t < (keys l).length := by simp; omega
      obtain ⟨q0, hq0, c0⟩ := cell_40 hc' (List.getElem?_eq_getElem k0)
      obtain ⟨q1, hq1, c1⟩ := cell_40 hc' (List.getElem?_eq_getElem k1)
      refine ⟨⟨by omega, by omega⟩, opt_some hq0 (ld_str (by rw [Int.toNat_natCast]; exact c0) ⟨⟨by omega, by omega⟩, opt_some hq1 (ld_str (by rw [Int.toNat_natCast]; exact c1) ?_)⟩)⟩
      have := List.pairwise_iff_getElem.1 h.srt (t - 1) t k0 k1 (by omega)
      rw [this]
      exact bc_bool (fun h => by cases h) (fun _ => wl3 f (t + 1) _ (by omega) h' hc' (by omega))
    · obtain ⟨ft, t'⟩ := h.t
      refine len_SI t' ⟨_, rfl, ?_, h.fr⟩
      simp
theorem wl2 {l : List (ByteArray × Int)} (hS : WordsAt W p n S) (hz : IsRow .i64 W q vn vc zs) (hm1 : m ≤ n) (hm2 : m ≤ vn) (hm3 : m ≤ 300) {i : Nat} (hi : i < m) (hg : ∀ k, get strLt l k = lastv S (vv zs) m k)
    {b1 : Option Addr → Nat → Nat → Option Addr → Nat → Nat → Option Addr → Int → Int → World → Prop}
    (hK : ∀ w', L_SI W w' (at0 g 0) 4096 l → b1 p n c q vn vc (some (at0 g 0)) (m : Int) ((i + 1 : Nat) : Int) w') : ∀ (f t : Nat) (w : World) (x : Int), m - t < f → L_SI W w (at0 g 0) 4096 l → t ≤ m → lastv S (vv zs) t (S i) = some x →
    X3.l2 (OkW W) b1 f p n c q vn vc (some (at0 g 0)) (m : Int) (i : Int) x (t : Int) w
  | 0, t, w, x, hf, _, _, _ => by omega
  | f + 1, t, w, x, hf, h, ht, hx => by
    rw [X3.l2]
    have e2 : IntKind.wrap .i64 ((t : Int) + 1) = ((t + 1 : Nat) : Int) := by rw [i64w _ (by omega) (by omega)]; omega
    have e3 : IntKind.wrap .i64 ((i : Int) + 1) = ((i + 1 : Nat) : Int) := by rw [i64w _ (by omega) (by omega)]; omega
    rw [e2, e3]
    obtain ⟨pi, hpi, ci⟩ := hS i (by omega)
    refine bc_dec (fun h1 => ?_) (fun h1 => ?_)
    · unfold drewK
      have h' := h.keep (Fr.drew (S := []) (w := w))
      obtain ⟨pt, hpt, ct⟩ := hS t (by omega)
      obtain ⟨qt, hqt, vt, _⟩ := hz.at_ (i := t) (by omega)
      have ci' := h'.fr.cell' ci
      have ct' := h'.fr.cell' ct
      have vt' := h'.fr.cell' vt
      refine ⟨⟨by omega, by omega⟩, opt_some hpt (ld_str (by rw [Int.toNat_natCast, Nat.mul_one]; exact ct') ⟨⟨by omega, by omega⟩, opt_some hpi (ld_str (by rw [Int.toNat_natCast, Nat.mul_one]; exact ci') (bc_streq (fun e => ?_) (fun e => ?_)))⟩)⟩
      · refine ⟨⟨by omega, by omega⟩, opt_some hqt (ld_int (by rw [Int.toNat_natCast, Nat.mul_one]; exact vt') ?_)⟩
        exact wl2 hS hz hm1 hm2 hm3 hi hg hK f (t + 1) _ _ (by omega) h' (by omega) (by unfold lastv; rw [if_pos e])
      · exact wl2 hS hz hm1 hm2 hm3 hi hg hK f (t + 1) _ _ (by omega) h' (by omega) (by unfold lastv; rw [if_neg e]; exact hx)
    · have : t = m := by omega
      subst this
      have ci' := h.fr.cell' ci
      obtain ⟨ft, t'⟩ := h.t
      refine ⟨⟨by omega, by omega⟩, opt_some hpi (ld_str (by rw [Int.toNat_natCast, Nat.mul_one]; exact ci') ?_)⟩
      have hgi := hg (S i)
      rw [hx] at hgi
      refine get_SI t' (fun hn => by rw [hn] at hgi; cases hgi) (fun v hv => ?_)
      rw [hgi] at hv
      injection hv with hv
      subst hv
      exact ⟨_, _, rfl, bc_bool (fun h => by cases h) (fun _ => bc_ne (fun h => absurd rfl h) (fun _ => hK w h))⟩
theorem wl1 {l : List (ByteArray × Int)} (hS : WordsAt W p n S) (hz : IsRow .i64 W q vn vc zs) (hm1 : m ≤ n) (hm2 : m ≤ vn) (hm3 : m ≤ 300) (hg : ∀ k, get strLt l k = lastv S (vv zs) m k) : ∀ (f i : Nat) (w : World), m - i < f → L_SI W w (at0 g 0) 4096 l → i ≤ m →
    X3.l1 (OkW W) f p n c q vn vc (some (at0 g 0)) (m : Int) (i : Int) w
  | 0, i, w, hf, _, _ => by omega
  | f + 1, i, w, hf, h, hi => by
    rw [X3.l1]
    refine bc_dec (fun h1 => ?_) (fun h1 => ?_)
    · obtain ⟨qt, hqt, vt, _⟩ := hz.at_ (i := i) (by omega)
      have vt' := h.fr.cell' vt
      have e3 : IntKind.wrap .i64 ((i : Int) + 1) = ((i + 1 : Nat) : Int) := by rw [i64w _ (by omega) (by omega)]; omega
      rw [e3]
      refine ⟨⟨by omega, by omega⟩, opt_some hqt (ld_int (by rw [Int.toNat_natCast, Nat.mul_one]; exact vt') ⟨m + 1, ?_⟩)⟩
      refine wl2 hS hz hm1 hm2 hm3 (by omega) hg (fun w' h' => ?_) (m + 1) (i + 1) w _ (by omega) h (by omega) (by unfold lastv; rw [if_pos rfl])
      exact wl1 hS hz hm1 hm2 hm3 hg f (i + 1) w' (by omega) h' (by omega)
    · obtain ⟨ft, t'⟩ := h.t
      refine keys_SI t' ?_
      intro r rc w5 o5 f5 n5
      exact ⟨_, _, _, rfl, l.length + 1, wl3 (l.length + 1) 1 w5 (by omega) (h.keep f5) o5.cells (by omega)⟩
theorem wl0 (hS : WordsAt W p n S) (hz : IsRow .i64 W q vn vc zs) (hm1 : m ≤ n) (hm2 : m ≤ vn) (hm3 : m ≤ 300) : ∀ (f i : Nat) (w : World) (l : List (ByteArray × Int)), m - i < f → L_SI W w (at0 g 0) 4096 l → i ≤ m → l.length ≤ i → (∀ k, get strLt l k = lastv S (vv zs) i k) →
    X3.l0 (OkW W) f p n c q vn vc (some (at0 g 0)) (m : Int) (i : Int) w
  | 0, i, w, l, hf, _, _, _, _ => by omega
  | f + 1, i, w, l, hf, h, hi, hl, hg => by
    rw [X3.l0]
    refine bc_dec (fun h1 => ?_) (fun h1 => ?_)
    · unfold drewK
      have h' := h.keep (Fr.drew (S := []) (w := w))
      obtain ⟨pt, hpt, ct⟩ := hS i (by omega)
      obtain ⟨qt, hqt, vt, _⟩ := hz.at_ (i := i) (by omega)
      have ct' := h'.fr.cell' ct
      have vt' := h'.fr.cell' vt
      have e3 : IntKind.wrap .i64 ((i : Int) + 1) = ((i + 1 : Nat) : Int) := by rw [i64w _ (by omega) (by omega)]; omega
      rw [e3]
      have hs := h.srt
      refine ⟨⟨by omega, by omega⟩, opt_some hpt (ld_str (by rw [Int.toNat_natCast, Nat.mul_one]; exact ct') ⟨⟨by omega, by omega⟩, opt_some hqt (ld_int (by rw [Int.toNat_natCast, Nat.mul_one]; exact vt') ?_)⟩)⟩
      refine putL_SI h' (fun _ hx => by omega) (fun _ w' k' => ⟨_, rfl, bc_bool (fun h => by cases h) (fun _ => ?_)⟩)
      refine wl0 hS hz hm1 hm2 hm3 f (i + 1) w' _ (by omega) k' (by omega) (by rw [put_length]; split <;> omega) (fun k => ?_)
      rw [get_put strLt_lin hs, lastv]
      by_cases e : k = S i
      · subst e; rw [if_pos rfl, if_pos rfl]
      · rw [if_neg e, if_neg (fun e' => e e'.symm)]; exact hg k
    · have : i = m := by omega
      subst this
      exact ⟨i + 1, wl1 hS hz hm1 hm2 hm3 hg (i + 1) 0 w (by omega) h (by omega)⟩
theorem tableWords_row {H : Type} {len cap : Nat} {d : DataW H} (hd : Lies Try.prog W 6 22 [.slice p len cap] d) (y : len * 16 ≤ 140737488351232) {len2 cap2 : Nat} (hz : IsRow .i64 W q len2 cap2 zs) (y2 : len2 * 8 ≤ 140737488351232) :
    CallR Try.prog 3 #[.slice p len cap, .slice q len2 cap2] W fun v w' => v = .bool true ∧ Fr [] W w' := by
  refine X3.sound _ _ _ _ _ _ _ _ ?_
  unfold X3.f
  obtain ⟨S, hS⟩ := words_of_lies hd
  refine newL_SI (Fr.refl W) (fun h => by omega) ?_
  intro _ _ g w1 k1
  refine ⟨_, _, rfl, known_spec fun w2 f2 => ⟨_, rfl, ?_⟩⟩
  have k2 := k1.keep f2
  refine bc_bool (fun h => by cases h) (fun _ => bc_ne (fun h => absurd rfl h) (fun _ => bc_bool (fun h => by cases h) (fun _ => ?_)))
  unfold X3.j4
  have hmin : min2 (min2 ((len : Nat) : Int) ((len2 : Nat) : Int)) (300 : Int) = ((min (min len len2) 300 : Nat) : Int) := by unfold min2; split <;> split <;> omega
  rw [hmin]
  exact ⟨min (min len len2) 300 + 1, wl0 hS hz (by omega) (by omega) (by omega) _ 0 w2 [] (by omega) k2 (by omega) (by simp) (fun k => rfl)⟩
end
end Go.Proofs.YtbgebldhpbnacaaX
