/- WireSpoilt: a message's bytes with one turned, put in or left out, and a new sum. -/
import Derived.Test.YtcmkjnoaefkkhaaL2Back
namespace Go.Proofs.YtcmkjnoaefkkhaaX
open Go.RowKit
set_option linter.unusedVariables false
set_option linter.unusedSimpArgs false
set_option maxRecDepth 100000
theorem ByS.cut {w : World} {x : Option Addr} {n c : Nat} {bs : List Int} (hb : ByS w x n c bs) {l h : Nat} (hl : l ≤ h) (hh : h ≤ n) : ByS w (cutAt 1 c l x) (h - l) (c - l) ((bs.drop l).take (h - l)) := by
  have hlen := hb.len
  have hle := hb.le
  refine ⟨⟨by simp; omega, fun j v hj => ?_⟩, by omega, fun hx => ?_, fun b hm => hb.wf b (List.mem_of_mem_drop (List.mem_of_mem_take hm))⟩
  · rw [List.getElem?_take] at hj
    split at hj
    · rename_i hlt
      rw [List.getElem?_drop] at hj
      obtain ⟨p, hp, hc⟩ := hb.at_.2 _ v hj
      subst hp
      refine ⟨p.add (l * 1), ?_, ?_⟩
      · unfold cutAt
        rw [if_neg (by omega)]
        rfl
      · rw [add_add, Nat.mul_one]
        exact hc
    · cases hj
  · have : x = none := by
      unfold cutAt at hx
      split at hx
      · exact hx
      · cases x with
        | none => rfl
        | some a => cases hx
    have := hb.nil this
    omega
section
variable {W w w0 : World} {Q : Value → World → Prop} {n c : Nat} {bs xs ys : List Int} {m : Msg}
theorem sp_app {sp x : Option Addr} {sn sc k kc : Nat} {K : Option Addr → Nat → Nat → World → Prop} (o : Own 5 1 w sp sn sc (u8s xs)) (hy : ByS w x k kc ys) (hn : sn + k ≤ 100000) (hs : ∀ k ∈ fbl sp, W.heap.size ≤ k) (f : Fr [] W w)
    (hK : ∀ p c w', Own 5 1 w' p (sn + k) c (u8s (xs ++ ys)) → (∀ k ∈ fbl p, W.heap.size ≤ k) → Fr [] W w' → Fr (fbl sp) w w' → K p (sn + k) c w') :
    RunR Try.prog (Builtin.append_ #[32, 32] 32 #[.slice sp sn sc, .slice x k kc]) w fun v w' => ∃ (p : Option Addr) (n c : Nat), v = .slice p n c ∧ K p n c w' := by
  have hsz := f.size
  refine app_bytes o hy (by omega) ?_
  intro p' c' w' o' f' e'
  exact ⟨p', sn + k, c', rfl, hK p' c' w' o' (fun j hj => by rcases e' j hj with h | h; exact hs j h; omega) (f.trans f' (fun j hj => .inr (hs j hj))) f'⟩
theorem sp_end {p : Option Addr} {n c : Nat} (o : ByS w p n c xs) (hn : n ≤ 1000000) (f : Fr [] W w) : CallR Try.prog 7 #[.slice p n c] w fun v w' => ∃ (y : Bool), v = .bool y ∧ (Value.bool y = .bool true ∧ Fr [] W w') :=
  (wireSealed o (by omega)).mono fun v w' h => ⟨true, h.1, rfl, f.tr h.2⟩
theorem sp_one {b : Int} : Own 5 1 (w.alloc (.cells #[.int .u8 b] 5)) (some (at0 w.heap.size 0)) 1 1 (u8s [b]) := Own.made (w := w) (e := 5) (sz := 1) #[.int .u8 b] 1 (by simp only [maxLen]; omega) rfl
theorem sp_nil : Own 5 1 (w.alloc (.cells #[] 5)) (some (at0 w.heap.size 0)) 0 0 (u8s []) := Own.made #[] 0 (by simp only [maxLen]; omega) rfl
theorem wireSpoilt_row {H : Type} {cs : Array Value} {d : DataW H} (h : Lies Try.prog W 6 28 cs.toList d) (hs : SizedD Try.prog 28 d) (a : Int) (_ : (Lit.int .i64 a).wf = true) (b : Int) (_ : (Lit.int .i64 b).wf = true) (t : Int) (_ : (Lit.int .i64 t).wf = true) :
    CallR Try.prog 8 #[.agg cs, .int .i64 a, .int .i64 b, .int .i64 t] W fun v w' => v = .bool true ∧ Fr [] W w' := by
  obtain ⟨m, rp, rc, lp, lc, hcs, hm, hwf⟩ := msg_of_lies h hs
  obtain rfl : cs = (m.cells rp rc lp lc).toArray := by apply Array.ext'; exact hcs
  apply X8.sound
  unfold X8.f
  refine nwk ?_
  obtain ⟨hb, f⟩ := made (w := W) (cs := (m.cells rp rc lp lc).toArray) (e := 28)
  simp only [add_at, Nat.zero_add, Nat.add_zero]
  generalize hB : W.heap.size = B at *
  generalize W.alloc _ = w2 at *
  refine ld_msg hb (REncode_spec (m := m) (rp := rp) (rc := rc) (lp := lp) (lc := lc) (hm.keep' f) hwf ⟨fun hn w23 f23 => ?_, fun hr p c w23 o23 f23 n23 => ?_⟩)
  · exact ⟨_, _, _, _, rfl, bc_ne (fun _ => known_spec fun w27 f27 => ⟨_, rfl, rfl, (f.tr f23).tr f27⟩) (fun h => by cases h)⟩
  have hlen := sealed_short hr hwf
  have hl4 := sealOf_len (encB m)
  have hwfs := sealOf_wf (encB_wf hr)
  have g23 := f.tr f23
  have n23' : ∀ k ∈ fbl p, W.heap.size ≤ k := fun k hk => by have := n23 k hk; have := f.size; omega
  have he0 : 3 ≤ (encB m).length := by unfold encB; simp
  have hle := o23.le
  refine ⟨_, _, _, _, rfl, bc_ne (fun h => absurd rfl h) (fun _ => ?_)⟩
  generalize hE : (encB m).length = e at *
  generalize hL : (sealOf (encB m)).length = L at *
  generalize sealOf (encB m) = bs at *
  have eL : IntKind.wrap .i64 (((L : Nat) : Int) - 4) = ((e : Nat) : Int) := by rw [i64w _ (by omega) (by omega)]; omega
  simp only [eL, Int.toNat_natCast, toNat0, Nat.sub_zero, cutAt_zero]
  refine ⟨⟨by omega, by omega, by omega⟩, pick_spec (by omega) (by omega) ⟨_, rfl, pick_spec (by omega) (by omega) ⟨_, rfl, ?_⟩⟩⟩
  have r1 := Int.emod_nonneg b (show ((e : Nat) : Int) ≠ 0 by omega)
  have r2 := Int.emod_lt_of_pos b (show (0 : Int) < ((e : Nat) : Int) by omega)
  generalize b % ((e : Nat) : Int) = kk at r1 r2
  obtain ⟨k, rfl⟩ : ∃ k : Nat, kk = (k : Int) := ⟨kk.toNat, by omega⟩
  have hk : k < e := by omega
  have ht := wrap8_range t
  generalize IntKind.wrap .u8 t = t at ht
  have q1 := Int.emod_nonneg a (by omega : (4 : Int) ≠ 0)
  have q2 := Int.emod_lt_of_pos a (by omega : (0 : Int) < 4)
  generalize a % 4 = how at q1 q2
  have ek1 : IntKind.wrap .i64 ((k : Int) + 1) = ((k + 1 : Nat) : Int) := by rw [i64w _ (by omega) (by omega)]; omega
  simp only [ek1, Int.toNat_natCast, Nat.mul_one]
  have h23 := ByS.of_own o23 hwfs
  have hcutk : ByS w23 p k c (bs.take k) := h23.take k (by omega)
  have hd1 : ByS w23 (cutAt 1 c k p) (e - k) (c - k) ((bs.drop k).take (e - k)) := h23.cut (by omega) (by omega)
  have hd2 : ByS w23 (cutAt 1 c (k + 1) p) (e - (k + 1)) (c - (k + 1)) ((bs.drop (k + 1)).take (e - (k + 1))) := h23.cut (by omega) (by omega)
  have w1 : ∀ b ∈ [t], 0 ≤ b ∧ b ≤ 255 := fun b hb => by simp at hb; omega
  have wap : ∀ {xs ys : List Int}, (∀ b ∈ xs, 0 ≤ b ∧ b ≤ 255) → (∀ b ∈ ys, 0 ≤ b ∧ b ≤ 255) → ∀ b ∈ xs ++ ys, 0 ≤ b ∧ b ≤ 255 := fun h1 h2 b hb => by
    rcases List.mem_append.1 hb with h | h
    · exact h1 b h
    · exact h2 b h
  have fin : ∀ {p' : Option Addr} {n' c' : Nat} {xs : List Int} {w' : World}, ByS w' p' n' c' xs → n' ≤ 1000000 → Fr [] w23 w' → CallR Try.prog 7 #[.slice p' n' c'] w' fun v w' => ∃ (y : Bool), v = .bool y ∧ (Value.bool y = .bool true ∧ Fr [] W w') := fun h1 h2 h3 => sp_end h1 h2 (g23.tr h3)
  refine bc_eq (fun _ => ?_) (fun _ => bc_eq (fun _ => ?_) (fun _ => bc_eq (fun _ => ?_) (fun _ => ?_)))
  · cases p with
    | none => have := o23.none_c.1; omega
    | some q =>
      refine ⟨⟨by omega, by omega⟩, opt_some rfl ?_⟩
      have hki : k < (u8s bs).length := by simp; omega
      refine ⟨o23.storeOk hki, ?_⟩
      have o3 := o23.set hki (.int .u8 t)
      have e5 : (u8s bs).set k (.int .u8 t) = u8s (bs.set k t) := by simp [u8s, List.map_set]
      rw [e5] at o3
      have b3 := ByS.of_own o3 (fun b hm => by
        rcases List.mem_or_eq_of_mem_set hm with h | h
        · exact hwfs b h
        · omega)
      have f3 : Fr [q.block] w23 (w23.setCell (q.add k) (.int .u8 t)) := Fr.setCell (by simp [add_block]) _
      exact sp_end (b3.take e (by omega)) (by omega) (g23.trans f3 (fun z hz => .inr (n23' z (by simpa [fbl] using hz))))
  · have one : ∀ (w : World), Fr [] w23 w → ByS (w.alloc (.cells #[.int .u8 t] 5)) (some (at0 w.heap.size 0)) 1 1 [t] := fun w f => ByS.of_own sp_one w1
    have nn : ∀ (w : World), Fr [] w23 w → ∀ k ∈ fbl (some (at0 w.heap.size 0)), w23.heap.size ≤ k := fun w f k hk => by have := f.size; simp [fbl, at0] at hk; omega
    refine ⟨nwk ⟨⟨by omega, by omega, by omega⟩, ?_⟩, nwk ⟨⟨by omega, by omega, by omega⟩, nwk ?_⟩, ⟨by omega, by omega, by omega⟩, nwk (nwk ?_)⟩
    · have fa : Fr [] w23 (w23.drew.alloc (.cells #[] 5)) := Fr.drew.tr (Fr.alloc _ _)
      refine sp_app (W := w23) sp_nil (hcutk.keep' fa) (by omega) (nn _ Fr.drew) fa ?_
      intro p1 c1 w44 o44 n44 f44 _
      have fb : Fr [] w23 (w44.alloc (.cells #[.int .u8 t] 5)) := f44.tr (Fr.alloc _ _)
      refine nwk (sp_app (W := w23) (o44.keep' (Fr.alloc _ _)) (one w44 f44) (by omega) n44 fb ?_)
      intro p2 c2 w49 o49 n49 f49 _
      refine ⟨⟨by omega, by omega, by omega⟩, sp_app (W := w23) o49 (hd1.keep' f49) (by omega) n49 f49 ?_⟩
      intro p3 c3 w52 o52 n52 f52 _
      exact fin (ByS.of_own o52 (wap (wap (wap (by simp) hcutk.wf) w1) hd1.wf)) (by omega) f52
    · have fa : Fr [] w23 (w23.drew.alloc (.cells #[] 5)) := Fr.drew.tr (Fr.alloc _ _)
      have fb : Fr [] w23 ((w23.drew.alloc (.cells #[] 5)).alloc (.cells #[.int .u8 t] 5)) := fa.tr (Fr.alloc _ _)
      have on := (sp_nil (w := w23.drew)).keep' (Fr.alloc (w23.drew.alloc (.cells #[] 5)) (.cells #[.int .u8 t] 5))
      have o1 := one _ fa
      have o1l := (sp_one (w := w23.drew.alloc (.cells #[] 5)) (b := t)).lt
      refine sp_app (W := w23) on (hcutk.keep' fb) (by omega) (nn _ Fr.drew) fb ?_
      intro p1 c1 w62 o62 n62 f62 fx
      have hne : ∀ j ∈ fbl (some (at0 (w23.drew.alloc (.cells #[] 5)).heap.size 0)), j ∉ fbl (some (at0 w23.drew.heap.size 0)) := by simp [fbl, at0]
      refine sp_app (W := w23) o62 (o1.keep fx hne) (by omega) n62 f62 ?_
      intro p2 c2 w49 o49 n49 f49 _
      refine ⟨⟨by omega, by omega, by omega⟩, sp_app (W := w23) o49 (hd1.keep' f49) (by omega) n49 f49 ?_⟩
      intro p3 c3 w52 o52 n52 f52 _
      exact fin (ByS.of_own o52 (wap (wap (wap (by simp) hcutk.wf) w1) hd1.wf)) (by omega) f52
    · have fa : Fr [] w23 (w23.drew.alloc (.cells #[.int .u8 t] 5)) := Fr.drew.tr (Fr.alloc _ _)
      have fb : Fr [] w23 ((w23.drew.alloc (.cells #[.int .u8 t] 5)).alloc (.cells #[] 5)) := fa.tr (Fr.alloc _ _)
      have o1 := (one _ (Fr.drew (w := w23))).keep' (Fr.alloc (w23.drew.alloc (.cells #[.int .u8 t] 5)) (.cells #[] 5))
      refine sp_app (W := w23) sp_nil (hcutk.keep' fb) (by omega) (nn _ fa) fb ?_
      intro p1 c1 w62 o62 n62 f62 fx
      have hne : ∀ j ∈ fbl (some (at0 w23.drew.heap.size 0)), j ∉ fbl (some (at0 (w23.drew.alloc (.cells #[.int .u8 t] 5)).heap.size 0)) := by simp [fbl, at0]
      refine sp_app (W := w23) o62 (o1.keep fx hne) (by omega) n62 f62 ?_
      intro p2 c2 w49 o49 n49 f49 _
      refine ⟨⟨by omega, by omega, by omega⟩, sp_app (W := w23) o49 (hd1.keep' f49) (by omega) n49 f49 ?_⟩
      intro p3 c3 w52 o52 n52 f52 _
      exact fin (ByS.of_own o52 (wap (wap (wap (by simp) hcutk.wf) w1) hd1.wf)) (by omega) f52
  · unfold drewK
    refine nwk ⟨⟨by omega, by omega, by omega⟩, ?_⟩
    have fa : Fr [] w23 (w23.drew.alloc (.cells #[] 5)) := Fr.drew.tr (Fr.alloc _ _)
    refine sp_app (W := w23) sp_nil (hcutk.keep' fa) (by omega) (fun k hk => by simp [fbl, at0] at hk; subst hk; exact (Fr.drew (S := []) (w := w23)).size) fa ?_
    intro p1 c1 w44 o44 n44 f44 _
    refine ⟨⟨by omega, by omega, by omega⟩, sp_app (W := w23) o44 (hd2.keep' f44) (by omega) n44 f44 ?_⟩
    intro p3 c3 w52 o52 n52 f52 _
    exact fin (ByS.of_own o52 (wap (wap (by simp) hcutk.wf) hd2.wf)) (by omega) f52
  · exact ⟨⟨by omega, by omega, by omega⟩, fin hcutk (by omega) (Fr.refl _)⟩
end
end Go.Proofs.YtcmkjnoaefkkhaaX
