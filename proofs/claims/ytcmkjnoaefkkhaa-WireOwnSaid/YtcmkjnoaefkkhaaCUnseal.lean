/- What is unsealed, by codec and by the document; Pick. -/
import Derived.Test.YtcmkjnoaefkkhaaCSum
namespace Go.Proofs.YtcmkjnoaefkkhaaX
open Go.RowKit
set_option linter.unusedVariables false

theorem pick_spec {n m : Int} {w : World} {Q : Value → World → Prop} (hm : 0 < m) (hb : m ≤ 9223372036854775807) (h : Q (.int .i64 (n % m)) w) : CallR Try.prog 23 #[.int .i64 n, .int .i64 m] w Q := by
  apply X23.sound
  have h2 := Int.emod_nonneg n (by omega : m ≠ 0)
  have h3 := Int.emod_lt_of_pos n hm
  have ht := tmod_pick n m hm
  unfold X23.f
  refine ⟨by omega, bc_dec (fun hlt => ?_) (fun hge => ?_)⟩
  · rw [if_pos hlt] at ht
    rw [ht, i64w _ (by omega) (by omega)]; exact h
  · rw [if_neg hge] at ht
    rw [ht]; exact h
/-- A copy of bytes. -/
theorem app_new {w : World} {ty : TypeId} {x : Option Addr} {n c : Nat} {bs : List Int} {K : Value → World → Prop} (hb : ByS w x n c bs) (hn : n ≤ 140737488355328)
    (hK : ∀ p c' w', Own 5 1 w' p n c' (u8s bs) → Fr [] w w' → (∀ k ∈ fbl p, w.heap.size ≤ k) → K (.slice p n c') w') :
    RunR Try.prog (Builtin.append_ #[32, 32] ty #[.slice (some ⟨w.heap.size, 0, none⟩) 0 0, .slice x n c]) (w.alloc (.cells #[] 5)) K := by
  have h1 : Own 5 1 (w.alloc (.cells #[] 5)) (some ⟨w.heap.size, 0, none⟩) 0 0 (u8s []) := Own.made #[] 0 (by simp only [maxLen]; omega) rfl
  refine app_bytes h1 (hb.keep' (Fr.alloc w _)) (by omega) ?_
  intro p1 c1 w1 o1 f1 e1
  rw [Nat.zero_add, List.nil_append] at *
  refine hK _ _ _ o1 ((Fr.alloc w _).trans f1 (by intro y hy; simp [fbl] at hy; right; omega)) ?_
  intro k hk
  rcases e1 k hk with h | h
  · simp [fbl] at h; omega
  · simp at h; omega

def unsealOf (bs : List Int) : List Int × Int :=
  if bs.length < 4 then ([], 20) else if bs.drop (bs.length - 4) = sumBytes (crc (bs.take (bs.length - 4))) then (bs.take (bs.length - 4), 0) else ([], 23)
theorem unseal_small {bs : List Int} (h : bs.length < 4) : unsealOf bs = ([], 20) := by unfold unsealOf; rw [if_pos h]
theorem unseal_ok {bs : List Int} (h : ¬ bs.length < 4) (he : bs.drop (bs.length - 4) = sumBytes (crc (bs.take (bs.length - 4)))) : unsealOf bs = (bs.take (bs.length - 4), 0) := by
  unfold unsealOf; rw [if_neg h, if_pos he]
theorem unseal_bad {bs : List Int} (h : ¬ bs.length < 4) (he : bs.drop (bs.length - 4) ≠ sumBytes (crc (bs.take (bs.length - 4)))) : unsealOf bs = ([], 23) := by
  unfold unsealOf; rw [if_neg h, if_neg he]
theorem toNat0 : Int.toNat ((0 : Nat) : Int) = 0 := rfl
section
variable {w : World} {x : Option Addr} {n c : Nat} {bs : List Int} {Q : Value → World → Prop}
theorem unseal_l0 (hn : n ≤ 140737488355328) {sp : Option Addr} {sc : Nat} {ss : List Int} (k4 : Nat) (h4 : k4 + 4 = n) : ∀ (k i : Nat) (w : World), ByS w x n c bs → ByS w sp n sc ss → i + k = n →
    (∀ (p : Option Addr) (m c' : Nat) (w' : World), ss.drop i = bs.drop i → ByS w' p k4 c' (bs.take k4) → Fr [] w w' → Q (.tuple #[.slice p k4 c', .int .i64 0]) w') →
    (∀ w', ss.drop i ≠ bs.drop i → Fr [] w w' → Q (.tuple #[.slice none 0 0, .int .i64 23]) w') → X41.l0 Q (k + 1) x n c (k4 : Int) sp n sc (i : Int) w
  | 0, i, w, hb, hs, hi, hok, hbad => by
    rw [X41.l0]
    refine bc_neg (by omega) ?_
    unfold newK
    have hle := hb.le
    refine ⟨by omega, ?_⟩
    rw [toNat0, cutAt_zero, Nat.sub_zero, Nat.sub_zero, Int.toNat_natCast]
    refine app_new (hb.take k4 (by omega)) (by omega) ?_
    intro p c' w' o f e
    have hl : bs.drop i = [] := List.drop_eq_nil_of_le (by rw [hb.len]; omega)
    have hl2 : ss.drop i = [] := List.drop_eq_nil_of_le (by rw [hs.len]; omega)
    exact ⟨_, _, _, rfl, hok p k4 c' w' (by rw [hl, hl2]) (ByS.of_own o (hb.take k4 (by omega)).wf) f⟩
  | k + 1, i, w, hb, hs, hi, hok, hbad => by
    rw [X41.l0]
    refine bc_pos (by omega) ?_
    unfold drewK
    have hib : i < bs.length := by rw [hb.len]; omega
    have his : i < ss.length := by rw [hs.len]; omega
    have hb' := hb.keep' (Fr.drew (w := w))
    have hs' := hs.keep' (Fr.drew (w := w))
    obtain ⟨p, hp, hc⟩ := hb'.get (List.getElem?_eq_getElem hib)
    obtain ⟨q, hq, hd⟩ := hs'.get (List.getElem?_eq_getElem his)
    refine ⟨by omega, opt_some hq (ld_int (by simpa using hd) ⟨by omega, opt_some hp (ld_int (by simpa using hc) ?_)⟩)⟩
    have e1 : bs.drop i = bs[i] :: bs.drop (i + 1) := List.drop_eq_getElem_cons hib
    have e2 : ss.drop i = ss[i] :: ss.drop (i + 1) := List.drop_eq_getElem_cons his
    refine bc_ne (fun hne => ?_) (fun he => ?_)
    · exact hbad _ (by rw [e1, e2]; intro h; injection h with h; exact hne h) Fr.drew
    · rw [i64w (i + 1 : Int) (by omega) (by omega)]
      have := unseal_l0 hn k4 h4 k (i + 1) w.drew hb' hs' (by omega)
        (fun p m c' w' h1 h2 h3 => hok p m c' w' (by rw [e1, e2, he, h1]) h2 (Fr.drew.tr h3))
        (fun w' h1 h2 => hbad w' (by rw [e1, e2]; intro h; injection h with _ h; exact h1 h) (Fr.drew.tr h2))
      simpa using this
theorem unseal_spec (hb : ByS w x n c bs) (hn : n ≤ 140737488355328)
    (hQ : ∀ p m c' w', ByS w' p m c' (unsealOf bs).1 → Fr [] w w' → Q (.tuple #[.slice p m c', .int .i64 (unsealOf bs).2]) w') : CallR Try.prog 41 #[.slice x n c] w Q := by
  refine X41.sound _ _ _ _ _ ?_
  unfold X41.f
  have hlen := hb.len
  have hle := hb.le
  refine bc_dec (fun hlt => ?_) (fun hge => ?_)
  · have := hQ none 0 0 w (by rw [unseal_small (by omega)]; exact ByS.nil') (Fr.refl w)
    rw [unseal_small (by omega)] at this
    exact this
  · obtain ⟨k4, h4⟩ : ∃ k4, k4 + 4 = n := ⟨n - 4, by omega⟩
    have e4 : IntKind.wrap .i64 ((n : Int) - 4) = (k4 : Int) := by rw [i64w _ (by omega) (by omega)]; omega
    rw [e4, toNat0, cutAt_zero, Nat.sub_zero, Nat.sub_zero, Int.toNat_natCast]
    refine ⟨by omega, seal_spec (hb.take k4 (by omega)) (by omega) ?_⟩
    intro sp sc w1 o1 f1 e1
    have hs : ByS w1 sp (k4 + 4) sc (sealOf (bs.take k4)) := ByS.of_own o1 (sealOf_wf (hb.take k4 (by omega)).wf)
    refine ⟨_, _, _, rfl, 5, ?_⟩
    rw [h4] at hs ⊢
    have hk : bs.length - 4 = k4 := by omega
    have hd : (sealOf (bs.take k4)).drop k4 = sumBytes (crc (bs.take k4)) := by
      unfold sealOf
      rw [List.drop_append_of_le_length (by simp; omega), List.drop_eq_nil_of_le (by simp; omega), List.nil_append]
    refine unseal_l0 hn k4 h4 4 k4 w1 (hb.keep' f1) hs (by omega) ?_ ?_
    · intro p m c' w' h1 h2 h3
      rw [hd] at h1
      have he := unseal_ok (bs := bs) (by omega) (by rw [hk]; exact h1.symm)
      have := hQ p k4 c' w' (by rw [he, hk]; exact h2) (f1.tr h3)
      rw [he] at this
      exact this
    · intro w' h1 h2
      rw [hd] at h1
      have he := unseal_bad (bs := bs) (by omega) (by rw [hk]; exact fun h => h1 h.symm)
      have := hQ none 0 0 w' (by rw [he]; exact ByS.nil') (f1.tr h2)
      rw [he] at this
      exact this
theorem runseal_spec (hb : ByS w x n c bs) (hn : n ≤ 140737488355328)
    (hQ : ∀ p m c' w', ByS w' p m c' (unsealOf bs).1 → Fr [] w w' → Q (.tuple #[.slice p m c', .int .i64 (unsealOf bs).2]) w') : CallR Try.prog 46 #[.slice x n c] w Q := by
  refine X46.sound _ _ _ _ _ ?_
  unfold X46.f
  have hlen := hb.len
  have hle := hb.le
  refine bc_dec (fun hlt => ?_) (fun hge => ?_)
  · have := hQ none 0 0 w (by rw [unseal_small (by omega)]; exact ByS.nil') (Fr.refl w)
    rw [unseal_small (by omega)] at this
    exact this
  · obtain ⟨k4, h4⟩ : ∃ k4, k4 + 4 = n := ⟨n - 4, by omega⟩
    have e4 : IntKind.wrap .i64 ((n : Int) - 4) = (k4 : Int) := by rw [i64w _ (by omega) (by omega)]; omega
    have e5 : IntKind.wrap .i64 ((k4 : Int) + 1) = ((k4 + 1 : Nat) : Int) := by rw [i64w _ (by omega) (by omega)]; omega
    have e6 : IntKind.wrap .i64 ((k4 : Int) + 2) = ((k4 + 2 : Nat) : Int) := by rw [i64w _ (by omega) (by omega)]; omega
    have e7 : IntKind.wrap .i64 ((k4 : Int) + 3) = ((k4 + 3 : Nat) : Int) := by rw [i64w _ (by omega) (by omega)]; omega
    rw [e4, e5, e6, e7, toNat0, cutAt_zero, Nat.sub_zero, Nat.sub_zero]
    simp only [Int.toNat_natCast]
    refine ⟨by omega, rsum_spec (hb.take k4 (by omega)) (by omega) ⟨_, rfl, ?_⟩⟩
    have hk : bs.length - 4 = k4 := by omega
    generalize hs : crc (bs.take k4) = s
    have hd : bs.drop k4 = [bs[k4]'(by omega), bs[k4 + 1]'(by omega), bs[k4 + 2]'(by omega), bs[k4 + 3]'(by omega)] := by
      rw [List.drop_eq_getElem_cons (by omega), List.drop_eq_getElem_cons (by omega), List.drop_eq_getElem_cons (by omega), List.drop_eq_getElem_cons (by omega), List.drop_eq_nil_of_le (by omega)]
    have bad : bs.drop k4 ≠ sumBytes s → Q (.tuple #[.slice none 0 0, .int .i64 23]) w := by
      intro hne
      have he := unseal_bad (bs := bs) (by omega) (by rw [hk, hs]; exact hne)
      have := hQ none 0 0 w (by rw [he]; exact ByS.nil') (Fr.refl w)
      rw [he] at this
      exact this
    obtain ⟨p0, hp0, hc0⟩ := hb.get (List.getElem?_eq_getElem (show k4 < bs.length by omega))
    obtain ⟨p1, hp1, hc1⟩ := hb.get (List.getElem?_eq_getElem (show k4 + 1 < bs.length by omega))
    obtain ⟨p2, hp2, hc2⟩ := hb.get (List.getElem?_eq_getElem (show k4 + 2 < bs.length by omega))
    obtain ⟨p3, hp3, hc3⟩ := hb.get (List.getElem?_eq_getElem (show k4 + 3 < bs.length by omega))
    refine ⟨by omega, opt_some hp0 (ld_int hc0 (bc_ne (fun hne => bad (by rw [hd]; intro h; injection h with h1; exact hne h1)) (fun he0 => ?_)))⟩
    refine ⟨by omega, opt_some hp1 (ld_int hc1 ⟨by decide, bc_ne (fun hne => bad (by rw [hd]; intro h; injection h with _ h; injection h with h1; exact hne h1)) (fun he1 => ?_)⟩)⟩
    refine ⟨by omega, opt_some hp2 (ld_int hc2 ⟨by decide, bc_ne (fun hne => bad (by rw [hd]; intro h; injection h with _ h; injection h with _ h; injection h with h1; exact hne h1)) (fun he2 => ?_)⟩)⟩
    refine ⟨by omega, opt_some hp3 (ld_int hc3 ⟨by decide, bc_ne (fun hne => bad (by rw [hd]; intro h; injection h with _ h; injection h with _ h; injection h with _ h; injection h with h1; exact hne h1)) (fun he3 => ?_)⟩)⟩
    unfold newK
    refine ⟨by omega, app_new (hb.take k4 (by omega)) (by omega) ?_⟩
    intro p c' w' o f e
    have he := unseal_ok (bs := bs) (by omega) (by rw [hk, hs, hd, he0, he1, he2, he3]; rfl)
    have := hQ p k4 c' w' (by rw [he, hk]; exact ByS.of_own o (hb.take k4 (by omega)).wf) f
    rw [he] at this
    exact ⟨_, _, _, rfl, this⟩
end
end Go.Proofs.YtcmkjnoaefkkhaaX
