/- More calls of a table. -/
import Derived.Test.YtnjmkhhaodgpbaaTTabSC
import Derived.Test.YtnjmkhhaodgpbaaTDel61
import Derived.Test.YtnjmkhhaodgpbaaTDel62
namespace Go.Proofs.YtnjmkhhaodgpbaaX
open Go.RowKit
set_option linter.unusedVariables false
set_option linter.unusedSimpArgs false
section
variable {w w' : World} {a : Addr} {foot S : List Nat} {most : Int} {l : List (Int × Scn)} {Q : Value → World → Prop}
/-- the key in a place, or none -/
def ktup_SC (o : Option Int) : Value := .tuple #[(Value.int .u64) (o.getD 0), .bool o.isSome]
theorem from_SC {i : Nat} (h : T_SC w a foot most l) (hi : i ≤ 9223372036854775807) (hK : Q (ktup_SC (keys l)[i]?) w) : CallR Try.prog 75 #[.pointer (some a), .int .i64 (i : Int)] w Q := by
  obtain ⟨g, pk, pv, ck, cv, t⟩ := h
  obtain ⟨rfl, hb, hk, hvs, hft, hgk, hgv, hkv, hs, hle, htop⟩ := t
  refine X75.sound _ _ _ _ ?_
  unfold X75.f
  simp only [optP_some, add_at, Nat.zero_add, Nat.add_zero]
  refine bc_neg (by omega) (ld_sl (hb.cell rfl) (bc_dec (fun hge => ?_) (fun hlt => ?_)))
  · rw [List.getElem?_eq_none (by simp; omega)] at hK
    exact hK
  · have hlt' : i < (keys l).length := by simp; omega
    have hi' := List.getElem?_eq_getElem hlt'
    rw [hi'] at hK
    generalize (keys l)[i] = x at hi' hK
    refine ld_sl (hb.cell rfl) ⟨⟨by omega, by omega⟩, ?_⟩
    obtain ⟨p, hp, hc⟩ := cell_54 hk.cells hi'
    exact opt_some hp (ld_int (by rw [Int.toNat_natCast]; exact hc) hK)
theorem next_SC {k : Int} (h : T_SC w a foot most l) (hK : Q (ktup_SC (next ilt l k)) w) : CallR Try.prog 56 #[.pointer (some a), (Value.int .u64) k] w Q := by
  have h0 := h
  obtain ⟨g, pk, pv, ck, cv, t⟩ := h
  obtain ⟨rfl, hb, hk, hvs, hft, hgk, hgv, hkv, hs, hle, htop⟩ := t
  refine X56.sound _ _ _ _ ?_
  unfold X56.f
  simp only [optP_some, add_at, Nat.zero_add, Nat.add_zero]
  refine ld_sl (hb.cell rfl) (bs_54 hk.cells (by simp) hs (by omega) ⟨_, _, rfl, ?_⟩)
  have hat : rank ilt (keys l) k = at_ ilt l k := rfl
  have hhas : decide ((keys l)[at_ ilt l k]? = some k) = has ilt l k := rfl
  have hal := at_le (lt := ilt) l k
  rw [hat, hhas]
  unfold next at hK
  refine bc_bool (fun hh => ?_) (fun hh => ?_)
  · rw [show IntKind.wrap .i64 ((at_ ilt l k : Int) + 1) = ((at_ ilt l k + 1 : Nat) : Int) by rw [i64w _ (by omega) (by omega)]; omega]
    rw [if_pos hh] at hK
    exact from_SC h0 (by omega) ⟨_, _, rfl, hK⟩
  · rw [if_neg (by simp [hh])] at hK
    exact from_SC h0 (by omega) ⟨_, _, rfl, hK⟩
end
section
variable {w w' : World} {a : Addr} {foot S : List Nat} {most : Int} {l : List (Int × Scn)} {Q : Value → World → Prop}
theorem first_SC (h : T_SC w a foot most l) (hK : Q (ktup_SC (keys l)[0]?) w) : CallR Try.prog 57 #[.pointer (some a)] w Q := by
  refine X57.sound _ _ _ ?_
  exact from_SC (i := 0) h (by omega) ⟨_, _, rfl, hK⟩
theorem after_SC {k : Int} (h : T_SC w a foot most l) (hK : Q (ktup_SC (after ilt l k)) w) : CallR Try.prog 41 #[.pointer (some a), (Value.int .u64) k] w Q := by
  refine X41.sound _ _ _ _ ?_
  unfold X41.f
  refine next_SC h ⟨_, _, rfl, ?_⟩
  unfold after at hK
  cases hn : next ilt l k with
  | none =>
    rw [hn] at hK
    exact bc_bool (fun _ => first_SC h ⟨_, _, rfl, hK⟩) (fun h => by cases h)
  | some x =>
    rw [hn] at hK
    exact bc_bool (fun h => by cases h) (fun _ => hK)
end
theorem keys_SC {w : World} {a : Addr} {foot : List Nat} {most : Int} {l : List (Int × Scn)} {Q : Value → World → Prop} (h : T_SC w a foot most l)
    (hK : ∀ p c w', Own 22 1 w' p l.length c ((keys l).map (Value.int .u64)) → Fr [] w w' → (∀ x ∈ fbl p, w.heap.size ≤ x) → Q (.slice p l.length c) w') : CallR Try.prog 38 #[.pointer (some a)] w Q := by
  obtain ⟨g, pk, pv, ck, cv, t⟩ := h
  obtain ⟨rfl, hb, hk, hvs, hft, hgk, hgv, hkv, hs, hle, htop⟩ := t
  refine X38.sound _ _ _ ?_
  unfold X38.f newK
  simp only [optP_some, add_at, Nat.zero_add, Nat.add_zero]
  have f1 : Fr [] w (w.alloc (.cells #[] 22)) := Fr.alloc _ _
  have ho := Own.made (w := w) (e := 22) (sz := 1) #[] 0 (Nat.zero_le _) rfl
  have hb1 := hb.keep' f1
  have hk1 := hk.keep' f1
  have s1 := f1.size
  generalize w.alloc (.cells #[] 22) = w1 at *
  refine ld_sl (hb1.cell rfl) ?_
  refine app_own rowT38 ho hk1.cells (by simp) (fun h => by subst h; exact hk1.none_c.2.1) (km_one_SC _) (by simp only [maxLen]; omega) (by omega) ?_
  intro p' c' w' h1 h2 h3
  rw [Nat.zero_add] at h1 ⊢
  refine ⟨_, _, _, rfl, hK p' c' w' (by simpa using h1) ?_ ?_⟩
  · exact f1.trans h2 (fun x hx => by simp [fbl] at hx; exact .inr (by omega))
  · intro x hx
    rcases h3 x hx with h | h
    · simp [fbl] at h; omega
    · omega
section
variable {w w' : World} {a : Addr} {foot S : List Nat} {most : Int} {l : List (Int × Scn)} {Q : Value → World → Prop}
theorem drop_SC {k : Int} (h : T_SC w a foot most l) (hK : ∀ w', T_SC w' a foot most (drp ilt l k) → Fr foot w w' → Q (.bool (has ilt l k)) w') :
    CallR Try.prog 47 #[.pointer (some a), (Value.int .u64) k] w Q := by
  have h0 := h
  obtain ⟨g, pk, pv, ck, cv, t⟩ := h
  obtain ⟨rfl, hb, hk, hvs, hft, hgk, hgv, hkv, hs, hle, htop⟩ := t
  refine X47.sound _ _ _ _ ?_
  unfold X47.f
  simp only [optP_some, add_at, Nat.zero_add, Nat.add_zero]
  refine ld_sl (hb.cell rfl) (bs_54 hk.cells (by simp) hs (by omega) ⟨_, _, rfl, ?_⟩)
  have hat : rank ilt (keys l) k = at_ ilt l k := rfl
  have hhas : decide ((keys l)[at_ ilt l k]? = some k) = has ilt l k := rfl
  have hgl := hb.lt
  rw [hat, hhas]
  refine bc_bool (fun hh => ?_) (fun hh => ?_)
  · have hlt := at_lt hh
    rw [hh] at hK ⊢
    refine ld_sl (hb.cell rfl) (del_61 hk hlt (km_one_SC _) (by omega) ?_)
    intro w2 hk2 f2
    refine ⟨_, _, _, rfl, ?_⟩
    have hb2 := hb.keep f2 hgk
    have hv2 := hvs.keep f2 (fun x hx hm => hkv x hm hx)
    refine ⟨hb2.storeOk (by simp), ?_⟩
    have hb3 := hb2.set 0 (.slice pk (l.length - 1) ck)
    have f3 : Fr [g] w2 (w2.setCell (at0 g 0) (.slice pk (l.length - 1) ck)) := Fr.setCell (by simp [at0]) _
    have hk3 := hk2.keep f3 (fun x hx hm => hgk (by simp at hm; rwa [← hm]))
    have hv3 := hv2.keep f3 (fun x hx hm => hgv (by simp at hm; rwa [← hm]))
    generalize w2.setCell (at0 g 0) (.slice pk (l.length - 1) ck) = w3 at *
    refine ld_sl (hb3.cell rfl) (del_62 hv3 hlt (fm_one_SC _) (by omega) ?_)
    intro w5 hv5 f5
    refine ⟨_, _, _, rfl, ?_⟩
    have hb5 := hb3.keep f5 hgv
    have hk5 := hk3.keep f5 hkv
    refine ⟨hb5.storeOk (by simp), ?_⟩
    have hb6 := hb5.set 1 (.slice pv (l.length - 1) cv)
    have f6 : Fr [g] w5 (w5.setCell (at0 g 1) (.slice pv (l.length - 1) cv)) := Fr.setCell (by simp [at0]) _
    have hk6 := hk5.keep f6 (fun x hx hm => hgk (by simp at hm; rwa [← hm]))
    have hv6 := hv5.keep f6 (fun x hx hm => hgv (by simp at hm; rwa [← hm]))
    have hd : drp ilt l k = l.take (at_ ilt l k) ++ l.drop (at_ ilt l k + 1) := by unfold drp; rw [if_pos hh]
    have hln : (drp ilt l k).length = l.length - 1 := by rw [drp_length, if_pos hh]
    refine hK _ ⟨g, pk, pv, ck, cv, rfl, ?_, ?_, ?_, hft, hgk, hgv, hkv, drp_srt ilt_lin hs, by rw [hln]; omega, htop⟩ ?_
    · rw [hln]; exact hb6
    · rw [hln, hd]
      have : (keys (l.take (at_ ilt l k) ++ l.drop (at_ ilt l k + 1))).map (Value.int .u64) = ((keys l).map (Value.int .u64)).take (at_ ilt l k * 1) ++ ((keys l).map (Value.int .u64)).drop ((at_ ilt l k + 1) * 1) := by
        simp [keys, List.map_take, List.map_drop]
      rw [this]; exact hk6
    · rw [hln, hd, flat_del vc_len_SC]; exact hv6
    · rw [hft]
      exact (((f2.mono (fun x hx => by simp [hx])).trans f3 (fun x hx => .inl (by simp at hx; simp [hx]))).trans f5 (fun x hx => .inl (by simp [hx]))).trans f6 (fun x hx => .inl (by simp at hx; simp [hx]))
  · have hd : drp ilt l k = l := by unfold drp; rw [if_neg (by simp [hh])]
    rw [hd] at hK
    rw [hh] at hK ⊢
    exact hK w h0 (Fr.refl w)
end
end Go.Proofs.YtnjmkhhaodgpbaaX
