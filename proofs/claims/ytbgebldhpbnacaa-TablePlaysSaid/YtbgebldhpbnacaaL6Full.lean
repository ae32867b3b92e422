/- TableFull: a full table takes no new key, but new values; what was dropped makes room. -/
import Derived.Test.YtbgebldhpbnacaaTLocUI
import Derived.Test.YtbgebldhpbnacaaL6Known
namespace Go.Proofs.YtbgebldhpbnacaaX
open Go.RowKit
set_option linter.unusedVariables false
set_option linter.unusedSimpArgs false
abbrev KV := List (Int × Int)
theorem has_mem {l : KV} (hs : Srt ilt (keys l)) {k : Int} : has ilt l k = true ↔ k ∈ keys l := has_iff ilt_lin hs
theorem has_not {l : KV} (hs : Srt ilt (keys l)) {k : Int} : has ilt l k = false ↔ k ∉ keys l := by
  rw [← has_mem hs]; simp
theorem keys_put {l : KV} (hs : Srt ilt (keys l)) {k v x : Int} : x ∈ keys (put ilt l k v) ↔ x = k ∨ x ∈ keys l := by
  simp only [keys, List.mem_map]
  constructor
  · rintro ⟨e, he, rfl⟩
    rcases (mem_put ilt_lin hs).1 he with rfl | ⟨_, h⟩
    · exact .inl rfl
    · exact .inr ⟨e, h, rfl⟩
  · rintro (rfl | ⟨e, he, rfl⟩)
    · exact ⟨(x, v), (mem_put ilt_lin hs).2 (.inl rfl), rfl⟩
    · by_cases h : e.1 = k
      · exact ⟨(k, v), (mem_put ilt_lin hs).2 (.inl rfl), h.symm⟩
      · exact ⟨e, (mem_put ilt_lin hs).2 (.inr ⟨h, he⟩), rfl⟩
theorem keys_drp {l : KV} (hs : Srt ilt (keys l)) {k x : Int} : x ∈ keys (drp ilt l k) ↔ x ≠ k ∧ x ∈ keys l := by
  simp only [keys, List.mem_map]
  constructor
  · rintro ⟨e, he, rfl⟩
    obtain ⟨h1, h2⟩ := (mem_drp ilt_lin hs).1 he
    exact ⟨h1, e, h2, rfl⟩
  · rintro ⟨h1, e, he, rfl⟩
    exact ⟨e, (mem_drp ilt_lin hs).2 ⟨h1, he⟩, rfl⟩
section
variable {W : World} {p : Option Addr} {n c : Nat} {zs : List Int} {g : Nat} {drop : Int} {m : Nat}
abbrev Ok (W : World) : Value → World → Prop := fun v w' => v = .bool true ∧ Fr [] W w'
theorem full_j3 {w : World} {l : KV} (hm : 0 < m) (hm2 : m ≤ 40) (h : L_UI W w (at0 g 0) (m : Int) l) (hl : l.length = m) (hk : ∀ x, x ∈ keys l ↔ ∃ j : Nat, j < m ∧ x = 2 * (j : Int)) :
    X5.j3 (Ok W) (m : Int) drop (some (at0 g 0)) w := by
  unfold X5.j3
  refine pick_spec (by omega) (by omega) ⟨_, rfl, ?_⟩
  have h1 := Int.emod_nonneg drop (by omega : (m : Int) ≠ 0)
  have h2 := Int.emod_lt_of_pos drop (by omega : 0 < (m : Int))
  generalize drop % (m : Int) = d at h1 h2
  obtain ⟨j, rfl⟩ := Int.eq_ofNat_of_zero_le h1
  rw [i64w _ (by omega) (by omega), u64w _ (by omega) (by omega)]
  have hs := h.srt
  have hhas : has ilt l (2 * (j : Int)) = true := (has_mem hs).2 ((hk _).2 ⟨j, by omega, rfl⟩)
  refine dropL_UI h ?_
  rw [hhas]
  intro w2 k2
  refine ⟨_, rfl, ?_⟩
  have hs2 := k2.srt
  have hl2 : (drp ilt l (2 * (j : Int))).length = m - 1 := by rw [drp_length, if_pos hhas, hl]
  have hn1 : has ilt (drp ilt l (2 * (j : Int))) 1 = false := (has_not hs2).2 fun hm => by
    obtain ⟨i, _, hi⟩ := (hk 1).1 ((keys_drp hs).1 hm).2
    omega
  refine putL_UI k2 (fun _ hx => by omega) (fun _ w3 k3 => ⟨_, rfl, ?_⟩)
  have hs3 := k3.srt
  have hl3 : (put ilt (drp ilt l (2 * (j : Int))) 1 9).length = m := by rw [put_length, if_neg (by simp [hn1]), hl2]; omega
  have hn2 : has ilt (put ilt (drp ilt l (2 * (j : Int))) 1 9) (2 * (j : Int)) = false := (has_not hs3).2 fun hm => by
    rcases (keys_put hs2).1 hm with h | h
    · omega
    · exact ((keys_drp hs).1 h).1 rfl
  refine putL_UI k3 (fun _ _ w4 k4 => ⟨_, rfl, ?_⟩) (fun hx w4 k4 => by rcases hx with hx | hx; rw [hn2] at hx; cases hx; omega)
  obtain ⟨ft, t4⟩ := k4.t
  refine len_UI t4 ⟨_, rfl, ?_⟩
  rw [hl3]
  exact ⟨by simp, k4.fr⟩
theorem full_l1 (hm : 0 < m) (hm2 : m ≤ 40) (hz : IsRow .u64 W p n c zs) : ∀ (f t : Nat) (w : World) (l : KV), 50 - t < f → L_UI W w (at0 g 0) (m : Int) l → l.length = m → (∀ x, x ∈ keys l ↔ ∃ j : Nat, j < m ∧ x = 2 * (j : Int)) → t ≤ 50 →
    X5.l1 (Ok W) f (m : Int) p n c drop (some (at0 g 0)) (t : Int) w
  | 0, t, w, l, hf, _, _, _, _ => by omega
  | f + 1, t, w, l, hf, h, hl, hk, ht => by
    rw [X5.l1]
    refine bc_dec (fun h1 => bc_dec (fun h2 => ?_) (fun _ => full_j3 hm hm2 h hl hk)) (fun _ => full_j3 hm hm2 h hl hk)
    unfold X5.j2
    obtain ⟨a, ha, hc, _⟩ := hz.at_ (i := t) (by omega)
    generalize zs.getD t 0 = x at hc
    have hc' := h.fr.cell' hc
    have hs := h.srt
    refine ⟨⟨by omega, by omega⟩, opt_some ha (ld_int (by rw [Int.toNat_natCast, Nat.mul_one]; exact hc') ?_)⟩
    obtain ⟨ft, ht1⟩ := h.t
    have key : ∀ y (b : Bool), b = has ilt l x → ∃ (y5 : Int) (y6 : Bool), Value.tuple #[.int .i64 y, .bool b] = .tuple #[.int .i64 y5, .bool y6] ∧ (0 ≤ (t : Int) ∧ (t : Int) < ((n : Nat) : Int)) ∧ optP p fun p7 => ldI .u64 w (p7.add (Int.toNat (t : Int) * 1)) fun x8 => CallR Try.prog 16 #[.pointer (some (at0 g 0)), .int .u64 x8, .int .i64 (7 : Int)] w fun v9 w10 => ∃ (y11 : Bool), v9 = .bool y11 ∧ bcase (!(y11 == y6)) (Ok W (.bool false) w10) (CallR Try.prog 18 #[.pointer (some (at0 g 0))] w10 fun v12 w13 => ∃ (y14 : Int), v12 = .int .i64 y14 ∧ bcase (y14 != (m : Int)) (Ok W (.bool false) w13) (X5.l1 (Ok W) f (m : Int) p n c drop (some (at0 g 0)) (IntKind.wrap .i64 ((t : Int) + (1 : Int))) w13)) := by
      intro y b hb
      refine ⟨_, _, rfl, ⟨by omega, by omega⟩, opt_some ha (ld_int (by rw [Int.toNat_natCast, Nat.mul_one]; exact hc') ?_)⟩
      have fin : ∀ w' l', L_UI W w' (at0 g 0) (m : Int) l' → l'.length = m → (∀ x, x ∈ keys l' ↔ ∃ j : Nat, j < m ∧ x = 2 * (j : Int)) →
          CallR Try.prog 18 #[.pointer (some (at0 g 0))] w' fun v12 w13 => ∃ (y14 : Int), v12 = .int .i64 y14 ∧ bcase (y14 != (m : Int)) (Ok W (.bool false) w13) (X5.l1 (Ok W) f (m : Int) p n c drop (some (at0 g 0)) (IntKind.wrap .i64 ((t : Int) + (1 : Int))) w13) := by
        intro w' l' k' hl' hk'
        obtain ⟨ft, t'⟩ := k'.t
        refine len_UI t' ⟨_, rfl, bc_ne (fun h => by omega) (fun _ => ?_)⟩
        rw [show IntKind.wrap .i64 ((t : Int) + 1) = ((t + 1 : Nat) : Int) by rw [i64w _ (by omega) (by omega)]; omega]
        exact full_l1 hm hm2 hz f (t + 1) w' l' (by omega) k' hl' hk' (by omega)
      cases hh : has ilt l x with
      | true =>
        rw [hh] at hb; subst hb
        refine putL_UI h (fun hx => by rw [hh] at hx; cases hx) (fun _ w' k' => ⟨_, rfl, fin w' _ k' (by rw [put_length, if_pos hh, hl]) (fun z => ?_)⟩)
        rw [keys_put hs, ← hk]
        exact ⟨fun hx => hx.elim (fun e => by subst e; exact (has_mem hs).1 hh) id, .inr⟩
      | false =>
        rw [hh] at hb; subst hb
        exact putL_UI h (fun _ _ w' k' => ⟨_, rfl, fin w' _ k' hl hk⟩) (fun hx => by rcases hx with hx | hx; rw [hh] at hx; cases hx; omega)
    refine get_UI ht1 (fun hn => key _ _ ?_) (fun v hv => key _ _ ?_)
    · exact ((has_not hs).2 ((get_none ilt_lin hs).1 hn)).symm
    · exact ((has_mem hs).2 (List.mem_map_of_mem ((get_iff ilt_lin hs).1 hv))).symm
theorem full_l0 (hm : 0 < m) (hm2 : m ≤ 40) (hz : IsRow .u64 W p n c zs) : ∀ (f t : Nat) (w : World) (l : KV), m - t < f → L_UI W w (at0 g 0) (m : Int) l → l.length = t → (∀ x, x ∈ keys l ↔ ∃ j : Nat, j < t ∧ x = 2 * (j : Int)) → t ≤ m →
    X5.l0 (Ok W) f (m : Int) p n c drop (some (at0 g 0)) (t : Int) w
  | 0, t, w, l, hf, _, _, _, _ => by omega
  | f + 1, t, w, l, hf, h, hl, hk, ht => by
    rw [X5.l0]
    refine bc_dec (fun h1 => ?_) (fun h1 => ?_)
    · rw [i64w (2 * (t : Int)) (by omega) (by omega), u64w _ (by omega) (by omega)]
      have hs := h.srt
      have hn : has ilt l (2 * (t : Int)) = false := (has_not hs).2 fun hx => by
        obtain ⟨j, hj, e⟩ := (hk _).1 hx
        omega
      refine putL_UI h (fun _ hx => by omega) (fun _ w' k' => ⟨_, rfl, ?_⟩)
      rw [show IntKind.wrap .i64 ((t : Int) + 1) = ((t + 1 : Nat) : Int) by rw [i64w _ (by omega) (by omega)]; omega]
      refine full_l0 hm hm2 hz f (t + 1) w' _ (by omega) k' (by rw [put_length, if_neg (by simp [hn]), hl]) (fun x => ?_) (by omega)
      rw [keys_put hs, hk]
      constructor
      · rintro (rfl | ⟨j, hj, rfl⟩)
        · exact ⟨t, by omega, rfl⟩
        · exact ⟨j, by omega, rfl⟩
      · rintro ⟨j, hj, rfl⟩
        by_cases e : j = t
        · subst e; exact .inl rfl
        · exact .inr ⟨j, by omega, rfl⟩
    · have : t = m := by omega
      subst this
      exact ⟨51, full_l1 hm hm2 hz 51 0 w l (by omega) h hl hk (by omega)⟩
theorem tableFull_row (a0 : Int) (w0 : (Lit.int .i64 a0).wf = true) {len cap : Nat} (hz : IsRow .u64 W p len cap zs) (y : len * 8 ≤ 140737488351232) (a2 : Int) (w2 : (Lit.int .i64 a2).wf = true) :
    CallR Try.prog 5 #[.int .i64 a0, .slice p len cap, .int .i64 a2] W fun v w' => v = .bool true ∧ Fr [] W w' := by
  refine X5.sound _ _ _ _ _ _ _ ?_
  unfold X5.f
  refine pick_spec (by omega) (by omega) ⟨_, rfl, ?_⟩
  have h1 := Int.emod_nonneg a0 (by omega : (40 : Int) ≠ 0)
  have h2 := Int.emod_lt_of_pos a0 (by omega : 0 < (40 : Int))
  generalize a0 % 40 = d at h1 h2
  obtain ⟨j, rfl⟩ := Int.eq_ofNat_of_zero_le h1
  rw [show IntKind.wrap .i64 (1 + (j : Int)) = ((j + 1 : Nat) : Int) by rw [i64w _ (by omega) (by omega)]; omega]
  refine newL_UI (Fr.refl W) (fun h => by omega) ?_
  intro _ _ g w1 k1
  refine ⟨_, _, rfl, known_spec fun w2 f2 => ⟨_, rfl, ?_⟩⟩
  have k2 := k1.keep f2
  show X5.j4 _ _ _ _ _ _ _ w2
  exact ⟨j + 2, full_l0 (by omega) (by omega) hz (j + 2) 0 w2 [] (by omega) k2 rfl (by simp [keys]) (by omega)⟩
end
end Go.Proofs.YtbgebldhpbnacaaX
