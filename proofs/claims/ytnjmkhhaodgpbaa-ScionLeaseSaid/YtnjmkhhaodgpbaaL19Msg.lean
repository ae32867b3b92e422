/- Requests of the laws; what they do. -/
import Derived.Test.YtnjmkhhaodgpbaaL19Yard
namespace Go.Proofs.YtnjmkhhaodgpbaaX
open Go.RowKit
set_option linter.unusedVariables false
set_option linter.unusedSimpArgs false
set_option maxRecDepth 100000
abbrev dmsg (f t s q v d : Int) : Msg := ⟨4, f, t, 0, 0, 0, 0, 0, t, s, [], 0, 0, q, v, 5, d, 0, []⟩
abbrev cmsg (f t s q : Int) : Msg := ⟨6, f, t, 0, 0, 0, 0, 0, t, s, [], 0, 0, q, 0, 0, 0, 0, []⟩
theorem MM_nil {w : World} {m : Msg} (h1 : m.refs = []) (h2 : m.list = []) : MM w m none 0 none 0 := by
  refine ⟨?_, by rw [h1]; simp, fun _ => rfl, by rw [h1]; simp, ?_, by rw [h2]; simp, fun _ => rfl, by rw [h2]; simp⟩
  · rw [h1]; exact fun j u hj => by simp at hj
  · rw [h2]; exact fun j u hj => by simp at hj
theorem right_dmsg {f t s q v d : Int} (hf : 1 ≤ f ∧ f ≤ 64) (ht : 1 ≤ t ∧ t ≤ 64) (hne : f ≠ t) (hs : okSerial s) (hq : okSerial q) (hv : 1 ≤ v ∧ v ≤ 64) (hd : 1 ≤ d ∧ d ≤ 40) : Right (dmsg f t s q v d) := by
  rw [right_iff]
  obtain ⟨s1, s2⟩ := hs
  obtain ⟨q1, q2⟩ := hq
  simp [RightR, numbersR, numberR, serialR, targetR, aimsNone, noID, okID, okSerial, rise_nil, show hasF 4 0 = false by decide, show hasF 4 1 = false by decide, show hasF 4 2 = false by decide, show hasF 4 3 = false by decide, show hasF 4 4 = false by decide, show hasF 4 5 = true by decide, show hasF 4 6 = true by decide, show hasF 4 7 = true by decide, show hasF 4 8 = true by decide, show hasF 4 9 = true by decide, show hasF 4 10 = false by decide]
  omega
theorem right_cmsg {f t s q : Int} (hf : 1 ≤ f ∧ f ≤ 64) (ht : 1 ≤ t ∧ t ≤ 64) (hne : f ≠ t) (hs : okSerial s) (hq : okSerial q) : Right (cmsg f t s q) := by
  rw [right_iff]
  obtain ⟨s1, s2⟩ := hs
  obtain ⟨q1, q2⟩ := hq
  simp [RightR, numbersR, numberR, serialR, targetR, aimsNone, noID, okID, okSerial, rise_nil, show hasF 6 0 = false by decide, show hasF 6 1 = false by decide, show hasF 6 2 = false by decide, show hasF 6 3 = false by decide, show hasF 6 4 = false by decide, show hasF 6 5 = true by decide, show hasF 6 6 = true by decide, show hasF 6 7 = false by decide, show hasF 6 8 = false by decide, show hasF 6 9 = false by decide, show hasF 6 10 = false by decide]
  omega
section
variable {w w' W : World} {Q : Value → World → Prop} {g gt bm : Nat} {x : HB} {ft fh F : List Nat} {S S' : Sc} {s d now k : Int} {r r' : Scn} {m : Msg} {os : List (Int × Int)}
theorem dmsg_spec {f t s q v d : Int} (hQ : ∀ w', Fr [] w w' → Q (msgV (dmsg f t s q v d) none 0 none 0) w') : CallR Try.prog 12 #[.int .i64 f, .int .i64 t, .int .u64 s, .int .u64 q, .int .i64 v, .int .i64 d] w Q := by
  apply X12.sound
  unfold X12.f
  refine newB fun g1 w2 b2 f2 h2 => ?_
  refine stAllB (vs := (dmsg f t s q v d).cells none 0 none 0) b2 rfl fun w9 b9 f9 => ld_msgA (m := dmsg f t s q v d) b9 ?_
  exact hQ _ (f2.trans f9 (fun y hy => .inr (by simp at hy; omega)))
theorem in_spec' (t : PH w x fh d now os) (h0 : 0 ≤ s) (h1 : s ≤ 18446744073709551615) (hQ : ∀ w', Fr [] w w' → Q (.int .i64 (inO os s)) w') : CallR Try.prog 16 #[.pointer (some (at0 x.h 0)), .int .u64 s] w Q := by
  apply X16.sound
  unfold X16.f
  refine object_spec t h0 h1 fun w2 ser cell rp rn rc vp vn vc f2 => ⟨_, _, _, _, _, _, _, _, _, _, rfl, newB fun g9 w10 b10 f10 h10 => ?_⟩
  refine stAllB (vs := Obj.cells ⟨ser, cell, rp, rn, rc, vp, vn, vc, inO os s⟩) b10 rfl fun w11 b11 f11 => ?_
  have z2 := f2.size
  refine ld_int (b11.cat 4 _ rfl) ?_
  exact hQ _ ((f2.tr f10).trans f11 (fun y hy => .inr (by simp at hy; omega)))
theorem inS_spec (t : PS w g x ft S) (h0 : 0 ≤ s) (h1 : s ≤ 18446744073709551615) (hQ : ∀ w', Fr [] w w' → Q (.int .i64 (inO S.os s)) w') : CallR Try.prog 16 #[.pointer (some (at0 x.h 0)), .int .u64 s] w Q := by
  obtain ⟨fh, gt, bm, rt, t⟩ := t
  exact in_spec' t.heap h0 h1 hQ
theorem scn_same (hQ : ∀ w', Fr [] w w' → Q (.bool (decide (r = r'))) w') : CallR Try.prog 39 #[r.val, r'.val] w Q := by
  apply X39.sound
  unfold X39.f
  refine newB fun g1 w2 b2 f2 h2 => newB fun g3 w4 b4 f4 h4 => ?_
  have F4 := f2.tr f4
  have b2' := b2.keep' f4
  have hq := hQ w4 F4
  have no : r ≠ r' → Q (.bool false) w4 := fun h => by rw [decide_eq_false h] at hq; exact hq
  obtain ⟨a1, a2, a3, a4, a5, a6⟩ := r
  obtain ⟨c1, c2, c3, c4, c5, c6⟩ := r'
  refine ld_int (b2'.cat 0 _ rfl) (ld_int (b4.cat 0 _ rfl) (bc_eq (fun h1 => ?_) (fun h => no (fun e => h (by injection e)))))
  refine ld_int (b2'.cat 1 _ rfl) (ld_int (b4.cat 1 _ rfl) (bc_eq (fun h2 => ?_) (fun h => no (fun e => h (by injection e)))))
  refine ld_bool (b2'.cat 2 _ rfl) (ld_bool (b4.cat 2 _ rfl) (bc_bool (fun h3 => ?_) (fun h => no (fun e => by injection e with _ _ e3; rw [e3] at h; simp at h))))
  refine ld_int (b2'.cat 3 _ rfl) (ld_int (b4.cat 3 _ rfl) (bc_eq (fun h4 => ?_) (fun h => no (fun e => h (by injection e)))))
  refine ld_int (b2'.cat 4 _ rfl) (ld_int (b4.cat 4 _ rfl) (bc_eq (fun h5 => ?_) (fun h => no (fun e => h (by injection e)))))
  refine ld_int (b2'.cat 5 _ rfl) (ld_int (b4.cat 5 _ rfl) ?_)
  have h3' : a3 = c3 := by simpa using h3
  simp only at h1 h2 h4 h5
  subst h1 h2 h3' h4 h5
  have e : decide ((⟨a1, a2, a3, a4, a5, a6⟩ : Scn) = ⟨a1, a2, a3, a4, a5, c6⟩) = (a6 == c6) := by
    by_cases h : a6 = c6
    · subst h; simp
    · rw [decide_eq_false (fun e => h (by injection e))]
      symm
      simpa using h
  rw [e] at hq
  exact hq
theorem scions_l0 {l1 l2 : List Scn} {p q : Option Addr} {pc qc : Nat} {w0 : World} (hc1 : Cells w0 p (sq l1)) (hc2 : Cells w0 q (sq l2)) (hl : l1.length = l2.length) (hm : l1.length ≤ 4096) (hQ : ∀ w', Fr [] w0 w' → Q (.bool (decide (l1 = l2))) w') :
    ∀ (f i : Nat) (w : World), l1.length - i < f → i ≤ l1.length → l1.take i = l2.take i → Fr [] w0 w → X15.l0 Q f p l1.length pc q l2.length qc (i : Int) w
  | 0, i, w, hf, _, _, _ => absurd hf (Nat.not_lt_zero _)
  | f + 1, i, w, hf, hi, he, F => by
    rw [X15.l0]
    have ei : IntKind.wrap .i64 ((i : Int) + 1) = ((i + 1 : Nat) : Int) := by rw [i64w ((i : Int) + 1) (by omega) (by omega)]; omega
    refine bc_dec (fun hlt => drawn fun w1 f1 _ => ⟨⟨by omega, by omega⟩, ?_⟩) (fun hge => ?_)
    · have g1 := List.getElem?_eq_getElem (show i < l1.length by omega)
      have g2 := List.getElem?_eq_getElem (show i < l2.length by omega)
      obtain ⟨a, ha, hat⟩ := scn_at (hc1.keep' (F.tr f1)) g1
      obtain ⟨b, hb, hbt⟩ := scn_at (hc2.keep' (F.tr f1)) g2
      rw [Int.toNat_natCast, ei]
      refine opt_some ha (ld_Scn (s := l1[i]) hat ⟨⟨by omega, by omega⟩, opt_some hb (ld_Scn (s := l2[i]) hbt (scn_same (r := l1[i]) (r' := l2[i]) fun w17 f17 => ⟨_, rfl, ?_⟩))⟩)
      have F17 := (F.tr f1).tr f17
      by_cases h : l1[i] = l2[i]
      · rw [decide_eq_true h]
        exact scions_l0 hc1 hc2 hl hm hQ f (i + 1) w17 (by omega) (by omega) (by rw [List.take_add_one, List.take_add_one, g1, g2, he, h]) F17
      · rw [decide_eq_false h]
        have := hQ w17 F17
        rw [decide_eq_false (fun e => h (by subst e; rfl))] at this
        exact this
    · have e1 : l1.take i = l1 := List.take_of_length_le (by omega)
      have e2 : l2.take i = l2 := List.take_of_length_le (by omega)
      rw [e1, e2] at he
      have := hQ w F
      rw [decide_eq_true he] at this
      exact this
theorem scions_spec {l1 l2 : List Scn} {p q : Option Addr} {pc qc : Nat} (hc1 : Cells w p (sq l1)) (hc2 : Cells w q (sq l2)) (hm : l1.length ≤ 4096) (hQ : ∀ w', Fr [] w w' → Q (.bool (decide (l1 = l2))) w') :
    CallR Try.prog 15 #[.slice p l1.length pc, .slice q l2.length qc] w Q := by
  apply X15.sound
  unfold X15.f
  refine bc_ne (fun h => ?_) (fun h => ?_)
  · have := hQ w (Fr.refl _)
    rw [decide_eq_false (fun e => h (by rw [e]))] at this
    exact this
  · exact ⟨l1.length + 1, scions_l0 hc1 hc2 (by omega) hm hQ _ 0 w (by omega) (by omega) (by simp) (Fr.refl _)⟩
end
end Go.Proofs.YtnjmkhhaodgpbaaX
