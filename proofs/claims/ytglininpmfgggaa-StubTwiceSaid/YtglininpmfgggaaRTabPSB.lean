/- The document's table of structs, within a block: Put. -/
import Derived.Test.YtglininpmfgggaaRTabSB
namespace Go.Proofs.YtglininpmfgggaaX
open Go.RowKit
set_option linter.unusedVariables false
set_option linter.unusedSimpArgs false
theorem set_same {α : Type} {l : List α} {i : Nat} {v : α} (h : l[i]? = some v) : l.set i v = l := by
  obtain ⟨h1, h2⟩ := List.getElem?_eq_some_iff.1 h
  rw [← h2, List.set_getElem_self]
theorem stO {w : World} {g o i : Nat} {cs : List Value} {e : TypeId} {v : Value} {K : World → Prop} (h : Blk w g cs e) (hi : o + i < cs.length) (hK : ∀ w', Blk w' g (cs.set (o + i) v) e → Fr [g] w w' → K w') : stK w ((at0 g o).add i) v K := by
  rw [add_at]
  exact ⟨h.storeOk hi, hK _ (h.set _ v) (Fr.setCell (by simp [at0]) v)⟩
theorem cells_one {w : World} {g : Nat} {cs : List Value} {e : TypeId} (h : Blk w g cs e) : Cells w (some (at0 g 0)) cs := fun j u hj => ⟨_, rfl, h.cat j u hj⟩
theorem some_ne {a : Addr} {P : Prop} : some a = none → P := fun h => by cases h
section
variable {w w' : World} {g : Nat} {cs : List Value} {foot S : List Nat} {most : Int} {l : List (Int × Stb)} {pk pv : Option Addr} {ck cv : Nat} {Q : Value → World → Prop} {k : Int}
theorem len_put_SB (hh : has ilt l k = false) (v : Stb) : (put ilt l k v).length = l.length + 1 := by rw [put_length, if_neg (by simp [hh])]
theorem keys_put_SB (hh : has ilt l k = false) (v : Stb) : (keys (put ilt l k v)).map (Value.int .u64) = ((keys l).map (Value.int .u64)).take (at_ ilt l k * 1) ++ [(Value.int .u64) k] ++ ((keys l).map (Value.int .u64)).drop (at_ ilt l k * 1) := by
  have hput : put ilt l k v = l.take (at_ ilt l k) ++ (k, v) :: l.drop (at_ ilt l k) := by unfold put; rw [if_neg (by simp [hh])]
  rw [hput]
  simp [keys, List.map_take, List.map_drop]
theorem vals_put_SB (hh : has ilt l k = false) (v : Stb) : (put ilt l k v).flatMap vc_SB = (l.flatMap vc_SB).take (at_ ilt l k * 9) ++ v.cells ++ (l.flatMap vc_SB).drop (at_ ilt l k * 9) := by
  have hput : put ilt l k v = l.take (at_ ilt l k) ++ (k, v) :: l.drop (at_ ilt l k) := by unfold put; rw [if_neg (by simp [hh])]
  rw [hput, flat_ins vc_len_SB]
  rfl
theorem one_take {xs : List Value} (h : ∀ u ∈ xs, u.oneCell' = true) (n : Nat) : ∀ u ∈ xs.take n, u.oneCell' = true := fun u hu => h u (List.mem_of_mem_take hu)
theorem one_drop {xs : List Value} (h : ∀ u ∈ xs, u.oneCell' = true) (n : Nat) : ∀ u ∈ xs.drop n, u.oneCell' = true := fun u hu => h u (List.mem_of_mem_drop hu)
theorem RT_SB.kl (t : RT_SB w g cs foot most l pk pv ck cv) : l.length ≤ ck ∧ (pk = none → ck = 0) := ⟨t.ks.le, fun h => by have := t.ks; subst h; exact this.none_c.2.1⟩
theorem RT_SB.vl (t : RT_SB w g cs foot most l pk pv ck cv) : l.length ≤ cv ∧ (pv = none → cv = 0) := ⟨t.vs.le, fun h => by have := t.vs; subst h; exact this.none_c.2.1⟩
theorem rput_end_SB {v : Stb} {kp vp : Option Addr} {kc vc : Nat} (t : RT_SB w g cs foot most l pk pv ck cv) (hh : has ilt l k = false) (hm : l.length < 100000)
    (ok : Own 22 1 w' kp (l.length + 1) kc ((keys (put ilt l k v)).map (Value.int .u64))) (ov : Own 51 9 w' vp (l.length + 1) vc ((put ilt l k v).flatMap vc_SB)) (f : Fr [] w w')
    (nk : ∀ x ∈ fbl kp, w.heap.size ≤ x) (nv : ∀ x ∈ fbl vp, w.heap.size ≤ x) (kv : ∀ x ∈ fbl kp, x ∉ fbl vp)
    (hK : ∀ foot' w', RT_SB w' g ((cs.set (24 + 1) (.slice kp (put ilt l k v).length kc)).set (24 + 2) (.slice vp (put ilt l k v).length vc)) foot' most (put ilt l k v) kp vp kc vc → Fr foot w w' → (∀ x ∈ foot', x ∈ foot ∨ w.heap.size ≤ x) → Q (.bool true) w') :
    stK w' ((at0 g 24).add 1) (.slice kp (l.length + 1) kc) fun w27 => stK w27 ((at0 g 24).add 2) (.slice vp (l.length + 1) vc) fun w29 => Q (.bool true) w29 := by
  have t' := t.keep' f
  have hgl := t.blk.lt
  have hlen1 := (List.getElem?_eq_some_iff.1 t.c1).1
  have hlen2 := (List.getElem?_eq_some_iff.1 t.c2).1
  have gk : g ∉ fbl kp := fun hm => by have := nk g hm; omega
  have gv : g ∉ fbl vp := fun hm => by have := nv g hm; omega
  refine stO t'.blk (by omega) fun w27 b27 f27 => stO b27 (by rw [List.length_set]; omega) fun w29 b29 f29 => ?_
  have hln := len_put_SB hh v
  refine hK (g :: (fbl kp ++ fbl vp)) w29 ⟨by rw [hln]; exact b29, ?_, ?_, ?_, ?_, ?_, rfl, gk, gv, kv, put_srt ilt_lin t.srt, by omega⟩ ?_ ?_
  · rw [List.getElem?_set_ne (by omega), List.getElem?_set_ne (by omega)]; exact t.c0
  · rw [List.getElem?_set_ne (by omega), List.getElem?_set_self (by omega)]
  · rw [List.getElem?_set_self (by rw [List.length_set]; omega)]
  · rw [hln]; exact (ok.keep f27 (fun x hx hm => gk (by simp at hm; rwa [← hm]))).keep f29 (fun x hx hm => gk (by simp at hm; rwa [← hm]))
  · rw [hln]; exact (ov.keep f27 (fun x hx hm => gv (by simp at hm; rwa [← hm]))).keep f29 (fun x hx hm => gv (by simp at hm; rwa [← hm]))
  · exact (f.any.inl f27 (by rw [t.ft]; simp)).inl f29 (by rw [t.ft]; simp)
  · intro x hx
    rcases List.mem_cons.1 hx with rfl | hx
    · exact .inl (by rw [t.ft]; simp)
    · rcases List.mem_append.1 hx with hx | hx
      · exact .inr (nk x hx)
      · exact .inr (nv x hx)
theorem rput_j0_SB {v : Stb} {gv : Nat} {kp : Option Addr} {kc : Nat} (t : RT_SB w g cs foot most l pk pv ck cv) (hh : has ilt l k = false) (hm : l.length < 100000) (f : Fr [] w w') (bv : Blk w' gv v.cells 51)
    (ok : Own 22 1 w' kp (l.length + 1) kc ((keys (put ilt l k v)).map (Value.int .u64))) (nk : ∀ x ∈ fbl kp, w.heap.size ≤ x)
    (hK : ∀ foot' pk' pv' ck' cv' w', RT_SB w' g ((cs.set (24 + 1) (.slice pk' (put ilt l k v).length ck')).set (24 + 2) (.slice pv' (put ilt l k v).length cv')) foot' most (put ilt l k v) pk' pv' ck' cv' → Fr foot w w' → (∀ x ∈ foot', x ∈ foot ∨ w.heap.size ≤ x) → Q (.bool true) w') :
    X73.j0 Q (some (at0 g 24)) (at0 gv 0) (at_ ilt l k : Int) kp (l.length + 1) kc none 0 0 w' := by
  unfold X73.j0
  have hal := at_le (lt := ilt) l k
  simp only [optP_some, toNat0, cutAt_zero', Nat.sub_zero, Int.toNat_natCast]
  have hfl : (l.flatMap vc_SB).length = l.length * 9 := flat_length vc_len_SB l
  have hs := f.size
  refine drawn fun w1 f1 e1 => ?_
  have t1 := t.keep' (f.tr f1)
  have bv1 := bv.keep' f1
  have ok1 := ok.keep' f1
  have hkl := ok1.lt
  have hvl := t1.vl
  have base : ∀ {w2 : World}, Fr [] w1 w2 → Fr [] w w2 := fun f2 => (f.tr f1).tr f2
  have e2 : 0 + at_ ilt l k + 1 + (l.length - at_ ilt l k) = l.length + 1 := by omega
  have hct := cells_cut (i := at_ ilt l k) t1.vs.cells hfl hal hvl.1 hvl.2
  have fin : ∀ {vp : Option Addr} {vc : Nat} {w2 : World}, Own 51 9 w2 vp (l.length + 1) vc ([] ++ (l.flatMap vc_SB).take (at_ ilt l k * 9) ++ v.cells ++ (l.flatMap vc_SB).drop (at_ ilt l k * 9)) → Fr [] w1 w2 → (∀ x ∈ fbl vp, w1.heap.size ≤ x) →
      stK w2 ((at0 g 24).add 1) (.slice kp (l.length + 1) kc) fun w27 => stK w27 ((at0 g 24).add 2) (.slice vp (l.length + 1) vc) fun w29 => Q (.bool true) w29 := by
    intro vp vc w2 ov f2 nv
    refine rput_end_SB t hh hm (ok1.keep' f2) (by rw [vals_put_SB hh]; simpa using ov) (base f2) nk (fun x hx => by have := nv x hx; omega) (fun x hx hm => by have := hkl x hx; have := nv x hm; omega) (fun foot' w' => hK foot' _ _ _ _ w')
  constructor
  · refine ld_sl t1.v2 ⟨⟨by omega, by omega, by omega⟩, app_step rowT42 (W := w1) Own.nil (cells_take t1.vs.cells (at_ ilt l k * 9)) (by rw [List.length_take]; omega) hvl.2 (one_take (fm_one_SB l) _) (by omega) (by omega) (by simp [fbl]) (Fr.refl _) ?_⟩
    intro p5 c5 w5 o5 n5 f5 _
    refine ld_Stb (bv1.keep' f5).cat ⟨⟨bv1.cat, (bv1.keep' f5).cat⟩, newB fun g6 w6 b6 f6 _ => ⟨⟨(t1.keep' f5).v2, (t1.keep' (f5.tr f6)).v2⟩, ?_⟩⟩
    refine app_step rowT42 (W := w1) (o5.keep' f6) (cells_one b6) v.len some_ne v.one (by omega) (by omega) n5 (f5.tr f6) ?_
    intro p7 c7 w7 o7 n7 f7 _
    refine ld_sl (t1.keep' f7).v2 ⟨⟨(t1.keep' (f5.tr f6)).v2, (t1.keep' f7).v2⟩, ⟨(t1.keep' f5).v2, (t1.keep' (f5.tr f6)).v2⟩, ⟨t1.v2, (t1.keep' f5).v2⟩, ⟨by omega, by omega, by omega⟩, ?_⟩
    refine app_step rowT42 (W := w1) o7 (hct.1.keep' f7) (by rw [List.length_drop, hfl]; omega) hct.2 (one_drop (fm_one_SB l) _) (by omega) (by omega) n7 f7 ?_
    intro p8 c8 w8 o8 n8 f8 _
    rw [e2] at o8 ⊢
    exact fin o8 f8 n8
  · refine ld_sl t1.v2 ⟨⟨by omega, by omega, by omega⟩, ld_Stb bv1.cat (newB fun g6 w6 b6 f6 _ => ⟨⟨t1.v2, (t1.keep' f6).v2⟩, ?_⟩)⟩
    have hb6 := b6.lt
    have h6 := f6.size
    have hg6 := bv1.lt
    refine app_step rowT42 (W := w1) Own.nil (cells_take (t1.keep' f6).vs.cells (at_ ilt l k * 9)) (by rw [List.length_take]; omega) hvl.2 (one_take (fm_one_SB l) _) (by omega) (by omega) (by simp [fbl]) f6 ?_
    intro p5 c5 w5 o5 n5 f5 g5
    have b65 := b6.keep g5 (by simp [fbl])
    refine ⟨⟨(bv1.keep' f6).cat, (bv1.keep' f5).cat⟩, app_step rowT42 (W := w1) o5 (cells_one b65) v.len some_ne v.one (by omega) (by omega) n5 f5 ?_⟩
    intro p7 c7 w7 o7 n7 f7 _
    refine ld_sl (t1.keep' f7).v2 ⟨⟨(t1.keep' f5).v2, (t1.keep' f7).v2⟩, ⟨(t1.keep' f6).v2, (t1.keep' f5).v2⟩, ⟨t1.v2, (t1.keep' f6).v2⟩, ⟨by omega, by omega, by omega⟩, ?_⟩
    refine app_step rowT42 (W := w1) o7 (hct.1.keep' f7) (by rw [List.length_drop, hfl]; omega) hct.2 (one_drop (fm_one_SB l) _) (by omega) (by omega) n7 f7 ?_
    intro p8 c8 w8 o8 n8 f8 _
    rw [e2] at o8 ⊢
    exact fin o8 f8 n8
theorem rput_SB {v : Stb} (t : RT_SB w g cs foot most l pk pv ck cv) (hmost : most ≤ 100000) (hno : has ilt l k = false → most ≤ l.length → ∀ w', Fr [] w w' → Q (.bool false) w')
    (hK : (has ilt l k = true ∨ (l.length : Int) < most) → ∀ foot' pk' pv' ck' cv' w', RT_SB w' g ((cs.set (24 + 1) (.slice pk' (put ilt l k v).length ck')).set (24 + 2) (.slice pv' (put ilt l k v).length cv')) foot' most (put ilt l k v) pk' pv' ck' cv' → Fr foot w w' → (∀ x ∈ foot', x ∈ foot ∨ w.heap.size ≤ x) → Q (.bool true) w') :
    CallR Try.prog 73 #[.pointer (some (at0 g 24)), (Value.int .u64) k, v.val] w Q := by
  apply X73.sound
  unfold X73.f
  simp only [optP_some]
  have hal := at_le (lt := ilt) l k
  have htop := t.top
  refine newB fun gv w2 bv f2 hgv2 => ?_
  have hgl := t.lt
  refine place_SB (t.keep' f2) fun w4 f4 => ⟨_, _, rfl, ?_⟩
  have f24 := f2.tr f4
  have bv4 := bv.keep' f4
  refine bc_bool (fun hh => ?_) (fun hh => ?_)
  · have hlt := at_lt hh
    refine drawn fun w7 f7 _ => ?_
    have f27 := f24.tr f7
    have t7 := t.keep' f27
    refine ld_sl t7.v2 (ld_Stb (bv4.keep' f7).cat ⟨⟨by omega, by omega⟩, ?_⟩)
    rw [Int.toNat_natCast]
    refine own_put vc_len_SB t7.vs hlt rfl (k, v) fun w22 o22 f22 => ?_
    have hput : put ilt l k v = l.set (at_ ilt l k) (k, v) := by unfold put; rw [if_pos hh]
    have hkeys : keys (put ilt l k v) = keys l := by
      rw [hput, keys, List.map_set]
      have h2 := hh
      simp only [has, decide_eq_true_eq] at h2
      obtain ⟨h1, h2⟩ := List.getElem?_eq_some_iff.1 h2
      have : ((k, v).1 : Int) = (keys l)[at_ ilt l k] := h2.symm
      rw [this, List.set_getElem_self]
    have hln : (put ilt l k v).length = l.length := by rw [hput, List.length_set]
    have c1' : cs[24 + 1]? = some (.slice pk (put ilt l k v).length ck) := by rw [hln]; exact t.c1
    have c2' : cs[24 + 2]? = some (.slice pv (put ilt l k v).length cv) := by rw [hln]; exact t.c2
    refine hK (.inl hh) foot pk pv ck cv w22 ?_ (f27.any.sub f22 fun x hx => by rw [t.ft]; simp [hx]) (fun x hx => .inl hx)
    rw [set_same c1', set_same c2']
    refine ⟨t7.blk.keep f22 t.gv, t.c0, c1', c2', ?_, ?_, t.ft, t.gk, t.gv, t.kv, by rw [hkeys]; exact t.srt, by omega⟩
    · rw [hln, hkeys]; exact t7.ks.keep f22 t.kv
    · rw [hln, hput]; exact o22
  · refine drawn fun w21 f21 _ => ?_
    have f221 := f24.tr f21
    have t21 := t.keep' f221
    refine ld_sl t21.k1 (ld_int t21.m0 (bc_dec (fun hge => hno hh (by omega) _ f221) (fun hlt => ?_)))
    simp only [toNat0, cutAt_zero', Nat.sub_zero, Int.toNat_natCast]
    refine drawn fun w1 f1 e1 => ?_
    have fb := f221.tr f1
    have t1 := t.keep' fb
    have bv1 := bv4.keep' (f21.tr f1)
    have hkl := t1.kl
    have hfl : ((keys l).map (Value.int .u64)).length = l.length * 1 := by simp
    have e2 : 0 + at_ ilt l k + 1 + (l.length - at_ ilt l k) = l.length + 1 := by omega
    have hct := cells_cut (i := at_ ilt l k) t1.ks.cells hfl hal hkl.1 hkl.2
    have hs := fb.size
    have fin : ∀ {kp : Option Addr} {kc : Nat} {w2 : World}, Own 22 1 w2 kp (l.length + 1) kc ([] ++ ((keys l).map (Value.int .u64)).take (at_ ilt l k * 1) ++ [(Value.int .u64) k] ++ ((keys l).map (Value.int .u64)).drop (at_ ilt l k * 1)) → Fr [] w1 w2 → (∀ x ∈ fbl kp, w1.heap.size ≤ x) →
        X73.j0 Q (some (at0 g 24)) (at0 gv 0) (at_ ilt l k : Int) kp (l.length + 1) kc none 0 0 w2 := by
      intro kp kc w2 ok f2 nk
      exact rput_j0_SB t hh (by omega) (fb.tr f2) (bv1.keep' f2) (by rw [keys_put_SB hh]; simpa using ok) (fun x hx => by have := nk x hx; omega) (hK (.inr (by omega)))
    constructor
    · refine ld_sl t1.k1 ⟨⟨by omega, by omega, by omega⟩, app_step rowT45 (W := w1) Own.nil (cells_take t1.ks.cells (at_ ilt l k * 1)) (by rw [List.length_take]; omega) hkl.2 (one_take (km_one_SB _) _) (by omega) (by omega) (by simp [fbl]) (Fr.refl _) ?_⟩
      intro p5 c5 w5 o5 n5 f5 _
      refine newB fun g6 w6 b6 f6 _ => ⟨⟨(t1.keep' f5).k1, (t1.keep' (f5.tr f6)).k1⟩, ?_⟩
      refine app_step rowT45 (W := w1) (o5.keep' f6) (cells_one b6) rfl some_ne (fun u hu => by simp at hu; subst hu; rfl) (by omega) (by omega) n5 (f5.tr f6) ?_
      intro p7 c7 w7 o7 n7 f7 _
      refine ld_sl (t1.keep' f7).k1 ⟨⟨(t1.keep' (f5.tr f6)).k1, (t1.keep' f7).k1⟩, ⟨(t1.keep' f5).k1, (t1.keep' (f5.tr f6)).k1⟩, ⟨t1.k1, (t1.keep' f5).k1⟩, ⟨by omega, by omega, by omega⟩, ?_⟩
      refine app_step rowT45 (W := w1) o7 (hct.1.keep' f7) (by rw [List.length_drop, hfl]; omega) hct.2 (one_drop (km_one_SB _) _) (by omega) (by omega) n7 f7 ?_
      intro p8 c8 w8 o8 n8 f8 _
      rw [e2] at o8 ⊢
      exact fin o8 f8 n8
    · refine ld_sl t1.k1 ⟨⟨by omega, by omega, by omega⟩, newB fun g6 w6 b6 f6 _ => ⟨⟨t1.k1, (t1.keep' f6).k1⟩, ?_⟩⟩
      refine app_step rowT45 (W := w1) Own.nil (cells_take (t1.keep' f6).ks.cells (at_ ilt l k * 1)) (by rw [List.length_take]; omega) hkl.2 (one_take (km_one_SB _) _) (by omega) (by omega) (by simp [fbl]) f6 ?_
      intro p5 c5 w5 o5 n5 f5 g5
      have b65 := b6.keep g5 (by simp [fbl])
      refine app_step rowT45 (W := w1) o5 (cells_one b65) rfl some_ne (fun u hu => by simp at hu; subst hu; rfl) (by omega) (by omega) n5 f5 ?_
      intro p7 c7 w7 o7 n7 f7 _
      refine ld_sl (t1.keep' f7).k1 ⟨⟨(t1.keep' f5).k1, (t1.keep' f7).k1⟩, ⟨(t1.keep' f6).k1, (t1.keep' f5).k1⟩, ⟨t1.k1, (t1.keep' f6).k1⟩, ⟨by omega, by omega, by omega⟩, ?_⟩
      refine app_step rowT45 (W := w1) o7 (hct.1.keep' f7) (by rw [List.length_drop, hfl]; omega) hct.2 (one_drop (km_one_SB _) _) (by omega) (by omega) n7 f7 ?_
      intro p8 c8 w8 o8 n8 f8 _
      rw [e2] at o8 ⊢
      exact fin o8 f8 n8
end
end Go.Proofs.YtglininpmfgggaaX
