/- The document's table of structs, within a block: Drop. -/
import Derived.Test.YtglininpmfgggaaRTabPSB
namespace Go.Proofs.YtglininpmfgggaaX
open Go.RowKit
set_option linter.unusedVariables false
set_option linter.unusedSimpArgs false
section
variable {w w' : World} {g : Nat} {cs : List Value} {foot S : List Nat} {most : Int} {l : List (Int × Stb)} {pk pv : Option Addr} {ck cv : Nat} {Q : Value → World → Prop} {k : Int}
theorem rdrop_SB (t : RT_SB w g cs foot most l pk pv ck cv)
    (hK : ∀ foot' pk' pv' ck' cv' w', RT_SB w' g ((cs.set (24 + 1) (.slice pk' (drp ilt l k).length ck')).set (24 + 2) (.slice pv' (drp ilt l k).length cv')) foot' most (drp ilt l k) pk' pv' ck' cv' → Fr foot w w' → (∀ x ∈ foot', x ∈ foot ∨ w.heap.size ≤ x) → Q (.bool (has ilt l k)) w') :
    CallR Try.prog 77 #[.pointer (some (at0 g 24)), (Value.int .u64) k] w Q := by
  apply X77.sound
  unfold X77.f
  simp only [optP_some]
  have hal := at_le (lt := ilt) l k
  have htop := t.top
  refine place_SB t fun w2 f2 => ⟨_, _, rfl, ?_⟩
  refine bc_bool (fun hh => ?_) (fun hh => ?_)
  · have hlt := at_lt hh
    rw [hh] at hK ⊢
    rw [i64w ((at_ ilt l k : Int) + 1) (by omega) (by omega), show (at_ ilt l k : Int) + 1 = ((at_ ilt l k + 1 : Nat) : Int) by omega]
    simp only [toNat0, cutAt_zero', Nat.sub_zero, Int.toNat_natCast]
    have hd : drp ilt l k = l.take (at_ ilt l k) ++ l.drop (at_ ilt l k + 1) := by unfold drp; rw [if_pos hh]
    have hln : (drp ilt l k).length = l.length - 1 := by rw [drp_length, if_pos hh]
    have hkd : (keys (drp ilt l k)).map (Value.int .u64) = ((keys l).map (Value.int .u64)).take (at_ ilt l k * 1) ++ ((keys l).map (Value.int .u64)).drop ((at_ ilt l k + 1) * 1) := by
      rw [hd]; simp [keys, List.map_take, List.map_drop]
    have hvd : (drp ilt l k).flatMap vc_SB = (l.flatMap vc_SB).take (at_ ilt l k * 9) ++ (l.flatMap vc_SB).drop ((at_ ilt l k + 1) * 9) := by rw [hd, flat_del vc_len_SB]
    have hkl := t.kl
    have hvl := t.vl
    have hfl : ((keys l).map (Value.int .u64)).length = l.length * 1 := by simp
    have hfv : (l.flatMap vc_SB).length = l.length * 9 := flat_length vc_len_SB l
    have hgl := t.lt
    have e2 : 0 + at_ ilt l k + (l.length - (at_ ilt l k + 1)) = l.length - 1 := by omega
    have hlen1 := (List.getElem?_eq_some_iff.1 t.c1).1
    have hlen2 := (List.getElem?_eq_some_iff.1 t.c2).1
    refine drawn fun w5 f5 e5 => newB fun g6 w7 b7 f7 h7 => ?_
    have f05 := f2.tr f5
    have f07 := f05.tr f7
    have s05 := f05.size
    have t5 := t.keep' f05
    have t7 := t.keep' f07
    have hct := cells_cut (i := at_ ilt l k + 1) t7.ks.cells hfl hlt hkl.1 hkl.2
    have o7 : Own 22 1 w7 (some (at0 g6 0)) 0 0 [] := own_blk b7 rfl (Nat.le_refl _) (by simp only [maxLen]; omega) rfl
    refine ld_sl t7.k1 ⟨⟨t5.k1, t7.k1⟩, ⟨by omega, by omega, by omega⟩, app_step rowT45 (W := w5) o7 (cells_take t7.ks.cells (at_ ilt l k * 1)) (by rw [List.length_take]; omega) hkl.2 (one_take (km_one_SB _) _) (by omega) (by omega) (by simp [fbl, at0]; omega) f7 ?_⟩
    intro p11 c11 w11 o11 n11 f11 g11
    have h6 : ∀ x ∈ fbl (some (at0 g6 0)), w.heap.size ≤ x := by simp [fbl, at0]; omega
    have k711 : ∀ {v : Value} {i : Nat}, w7.cell? ((at0 g 24).add i) = some v → w11.cell? ((at0 g 24).add i) = some v := fun hc => g11.cell hc (by rw [add_block]; simp [fbl, at0]; have := hgl g (by rw [t.ft]; simp); omega)
    refine ld_sl (k711 t7.k1) ⟨⟨t7.k1, k711 t7.k1⟩, ⟨t5.k1, t7.k1⟩, ⟨by omega, by omega, by omega⟩, ?_⟩
    have t11 := t.keep' (f05.tr f11)
    have hct := cells_cut (i := at_ ilt l k + 1) t11.ks.cells hfl hlt hkl.1 hkl.2
    refine app_step rowT45 (W := w5) o11 hct.1 (by rw [List.length_drop, hfl]; omega) hct.2 (one_drop (km_one_SB _) _) (by omega) (by omega) n11 f11 ?_
    intro kp kc w16 o16 n16 f16 _
    rw [e2] at o16 ⊢
    have t16 := t.keep' (f05.tr f16)
    have nk : ∀ x ∈ fbl kp, w.heap.size ≤ x := fun x hx => by have := n16 x hx; omega
    have gk : g ∉ fbl kp := fun hm => by have := nk g hm; have := hgl g (by rw [t.ft]; simp); omega
    refine stO t16.blk (by omega) fun w19 b19 f19 => ?_
    have o19 := o16.keep f19 (fun x hx hm => gk (by simp at hm; rwa [← hm]))
    have v19 := t16.vs.keep f19 (fun x hx hm => t.gv (by simp at hm; rwa [← hm]))
    have s19 := ((f05.tr f16).any.tr f19 : Fr [g] w w19)
    have z19 := s19.size
    have hkl19 := o19.lt
    have c2' : (cs.set (24 + 1) (.slice kp (l.length - 1) kc))[24 + 2]? = some (.slice pv l.length cv) := by rw [List.getElem?_set_ne (by omega)]; exact t.c2
    have m2 : ∀ {w2 : World}, Blk w2 g (cs.set (24 + 1) (.slice kp (l.length - 1) kc)) 71 → w2.cell? ((at0 g 24).add 2) = some (.slice pv l.length cv) := fun hb => by rw [add_at]; exact hb.cell c2'
    refine drawn fun w20 f20 e20 => newB fun g21 w22 b22 f22 h22 => ?_
    have b20 := b19.keep' f20
    have b22' := b20.keep' f22
    have v22 := v19.keep' (f20.tr f22)
    have o22 : Own 51 9 w22 (some (at0 g21 0)) 0 0 [] := own_blk b22 rfl (Nat.le_refl _) (by simp only [maxLen]; omega) rfl
    refine ld_sl (m2 b22') ⟨⟨m2 b20, m2 b22'⟩, ⟨by omega, by omega, by omega⟩, app_step rowT42 (W := w20) o22 (cells_take v22.cells (at_ ilt l k * 9)) (by rw [List.length_take]; omega) hvl.2 (one_take (fm_one_SB _) _) (by omega) (by omega) (by simp [fbl, at0]; omega) f22 ?_⟩
    intro p26 c26 w26 o26 n26 f26 _
    have b26 := b20.keep' f26
    have v26 := v19.keep' (f20.tr f26)
    have hcv := cells_cut (i := at_ ilt l k + 1) v26.cells hfv hlt hvl.1 hvl.2
    refine ld_sl (m2 b26) ⟨⟨m2 b22', m2 b26⟩, ⟨m2 b20, m2 b22'⟩, ⟨by omega, by omega, by omega⟩, ?_⟩
    refine app_step rowT42 (W := w20) o26 hcv.1 (by rw [List.length_drop, hfv]; omega) hcv.2 (one_drop (fm_one_SB _) _) (by omega) (by omega) n26 f26 ?_
    intro vp vc w31 o31 n31 f31 _
    rw [e2] at o31 ⊢
    have nv : ∀ x ∈ fbl vp, w.heap.size ≤ x := fun x hx => by have := n31 x hx; omega
    have gv : g ∉ fbl vp := fun hm => by have := nv g hm; have := hgl g (by rw [t.ft]; simp); omega
    have b31 := b20.keep' f31
    have o31' := o19.keep' (f20.tr f31)
    refine stO b31 (by rw [List.length_set]; omega) fun w34 b34 f34 => ?_
    have ff : Fr foot w w34 := ((s19.mono (fun x hx => by rw [t.ft]; simp at hx; simp [hx])).tr (f20.tr f31).any).inl f34 (by rw [t.ft]; simp)
    refine hK (g :: (fbl kp ++ fbl vp)) kp vp kc vc w34 ⟨by rw [hln]; exact b34, ?_, ?_, ?_, ?_, ?_, rfl, gk, gv, fun x hx hm => ?_, drp_srt ilt_lin t.srt, by omega⟩ ff ?_
    · rw [List.getElem?_set_ne (by omega), List.getElem?_set_ne (by omega)]; exact t.c0
    · rw [List.getElem?_set_ne (by omega), List.getElem?_set_self (by omega)]
    · rw [List.getElem?_set_self (by rw [List.length_set]; omega)]
    · rw [hln, hkd]
      exact (by simpa using o31' : Own 22 1 w31 kp (l.length - 1) kc (((keys l).map (Value.int .u64)).take (at_ ilt l k * 1) ++ ((keys l).map (Value.int .u64)).drop ((at_ ilt l k + 1) * 1))).keep f34 (fun x hx hm => gk (by simp at hm; rwa [← hm]))
    · rw [hln, hvd]
      exact (by simpa using o31 : Own 51 9 w31 vp (l.length - 1) vc ((l.flatMap vc_SB).take (at_ ilt l k * 9) ++ (l.flatMap vc_SB).drop ((at_ ilt l k + 1) * 9))).keep f34 (fun x hx hm => gv (by simp at hm; rwa [← hm]))
    · have := hkl19 x hx; have := n31 x hm; omega
    · intro x hx
      rcases List.mem_cons.1 hx with rfl | hx
      · exact .inl (by rw [t.ft]; simp)
      · rcases List.mem_append.1 hx with hx | hx
        · exact .inr (nk x hx)
        · exact .inr (nv x hx)
  · have hd : drp ilt l k = l := by unfold drp; rw [if_neg (by simp [hh])]
    rw [hd] at hK
    rw [hh] at hK ⊢
    have t2 := t.keep' f2
    refine hK foot pk pv ck cv w2 ?_ f2.any (fun x hx => .inl hx)
    rw [set_same t.c1, set_same t.c2]
    exact t2
end
end Go.Proofs.YtglininpmfgggaaX
