/- A table of keys and values of one cell each: what it lies as, New, Put, Get. -/
import Derived.Test.YtnjmkhhaodgpbaaTSearch54
import Derived.Test.YtnjmkhhaodgpbaaTIns73
import Derived.Test.YtnjmkhhaodgpbaaTIns74
import Derived.Test.YtnjmkhhaodgpbaaMStruct
namespace Go.Proofs.YtnjmkhhaodgpbaaX
open Go.RowKit
set_option linter.unusedVariables false
set_option linter.unusedSimpArgs false
def vc_SC (e : Int × Scn) : List Value := e.2.cells
theorem vc_len_SC (e : Int × Scn) : (vc_SC e).length = 6 := e.2.len
structure Tab_SC (w : World) (a : Addr) (foot : List Nat) (most : Int) (l : List (Int × Scn)) (g : Nat) (pk pv : Option Addr) (ck cv : Nat) : Prop where
  ad : a = at0 g 0
  blk : Blk w g [.slice pk l.length ck, .slice pv l.length cv, .int .i64 most] 120
  ks : Own 22 1 w pk l.length ck ((keys l).map (Value.int .u64))
  vs : Own 53 6 w pv l.length cv (l.flatMap vc_SC)
  ft : foot = g :: (fbl pk ++ fbl pv)
  gk : g ∉ fbl pk
  gv : g ∉ fbl pv
  kv : ∀ x ∈ fbl pk, x ∉ fbl pv
  srt : Srt ilt (keys l)
  le : (l.length : Int) ≤ most
  top : most ≤ 4096
def T_SC (w : World) (a : Addr) (foot : List Nat) (most : Int) (l : List (Int × Scn)) : Prop := ∃ g pk pv ck cv, Tab_SC w a foot most l g pk pv ck cv
section
variable {w w' : World} {a : Addr} {foot S : List Nat} {most : Int} {l : List (Int × Scn)} {Q : Value → World → Prop}
theorem T_SC.keep (h : T_SC w a foot most l) (f : Fr S w w') (hd : ∀ x ∈ foot, x ∉ S) : T_SC w' a foot most l := by
  obtain ⟨g, pk, pv, ck, cv, t⟩ := h
  refine ⟨g, pk, pv, ck, cv, t.ad, t.blk.keep f (hd g ?_), t.ks.keep f (fun x hx => hd x ?_), t.vs.keep f (fun x hx => hd x ?_), t.ft, t.gk, t.gv, t.kv, t.srt, t.le, t.top⟩ <;> rw [t.ft] <;> simp_all
theorem T_SC.keep' (h : T_SC w a foot most l) (f : Fr [] w w') : T_SC w' a foot most l := h.keep f (by simp)
theorem T_SC.lt (h : T_SC w a foot most l) : ∀ x ∈ foot, x < w.heap.size := by
  obtain ⟨g, pk, pv, ck, cv, t⟩ := h
  intro x hx
  rw [t.ft] at hx
  rcases List.mem_cons.1 hx with rfl | hx
  · exact t.blk.lt
  · rcases List.mem_append.1 hx with hx | hx
    · exact t.ks.lt x hx
    · exact t.vs.lt x hx
theorem T_SC.sorted (h : T_SC w a foot most l) : Srt ilt (keys l) := by obtain ⟨g, pk, pv, ck, cv, t⟩ := h; exact t.srt
theorem T_SC.size (h : T_SC w a foot most l) : (l.length : Int) ≤ most ∧ most ≤ 4096 := by obtain ⟨g, pk, pv, ck, cv, t⟩ := h; exact ⟨t.le, t.top⟩
theorem fm_one_SC (l : List (Int × Scn)) : ∀ u ∈ l.flatMap vc_SC, u.oneCell' = true := by
  intro u hu
  obtain ⟨e, _, he⟩ := List.mem_flatMap.1 hu
  exact e.2.one u he
theorem km_one_SC (ks : List Int) : ∀ u ∈ ks.map (Value.int .u64), u.oneCell' = true := by
  intro u hu
  obtain ⟨e, _, rfl⟩ := List.mem_map.1 hu
  rfl
theorem new_SC {m : Int} (hbad : (m < 1 ∨ 4096 < m) → Q (.tuple #[.pointer none, .int .i64 1]) w)
    (hK : 1 ≤ m → m ≤ 4096 → ∀ w', T_SC w' (at0 w.heap.size 0) [w.heap.size] m [] → Fr [] w w' → Q (.tuple #[.pointer (some (at0 w.heap.size 0)), .int .i64 0]) w') :
    CallR Try.prog 44 #[.int .i64 m] w Q := by
  refine X44.sound _ _ _ ?_
  unfold X44.f
  refine bc_dec (fun h => hbad (.inl h)) (fun h => bc_dec (fun h2 => hbad (.inr h2)) (fun h2 => ?_))
  refine hK (by omega) (by omega) _ ⟨w.heap.size, none, none, 0, 0, rfl, Blk.made w _ _, Own.nil, Own.nil, rfl, by simp [fbl], by simp [fbl], by simp [fbl], List.Pairwise.nil, by simp; omega, by omega⟩ (Fr.alloc _ _)
theorem put_SC {k : Int} {v : Scn} (h : T_SC w a foot most l)
    (hno : has ilt l k = false → most ≤ l.length → ∀ w', Fr [] w w' → Q (.bool false) w')
    (hK : (has ilt l k = true ∨ (l.length : Int) < most) → ∀ foot' w', T_SC w' a foot' most (put ilt l k v) → Fr foot w w' → (∀ x ∈ foot', x ∈ foot ∨ w.heap.size ≤ x) → Q (.bool true) w') :
    CallR Try.prog 55 #[.pointer (some a), (Value.int .u64) k, v.val] w Q := by
  obtain ⟨g, pk, pv, ck, cv, t⟩ := h
  obtain ⟨rfl, hb, hk, hvs, hft, hgk, hgv, hkv, hs, hle, htop⟩ := t
  apply X55.sound
  unfold X55.f
  simp only [optP_some]
  refine newB fun gv w2 bv f2 hgv2 => ?_
  have hgl := hb.lt
  have hkl := hk.lt
  have hvl := hvs.lt
  have hb := hb.keep' f2
  have hk := hk.keep' f2
  have hvs := hvs.keep' f2
  refine ld_sl (hb.cat 0 _ rfl) (bs_54 hk.cells (by simp) hs (by omega) ⟨_, _, rfl, ?_⟩)
  have hat : rank ilt (keys l) k = at_ ilt l k := rfl
  have hhas : decide ((keys l)[at_ ilt l k]? = some k) = has ilt l k := rfl
  rw [hat, hhas]
  refine bc_bool (fun hh => ?_) (fun hh => ?_)
  · have hlt := at_lt hh
    refine drawn fun w9 f9 e9 => ?_
    have f09 := f2.tr f9
    refine ld_sl ((hb.keep' f9).cat 1 _ rfl) (ld_Scn (bv.keep' f9).cat ⟨⟨by omega, by omega⟩, ?_⟩)
    rw [Int.toNat_natCast]
    refine own_put vc_len_SC (hvs.keep' f9) hlt rfl (k, v) fun w22 o22 f22 => ?_
    have hput : put ilt l k v = l.set (at_ ilt l k) (k, v) := by unfold put; rw [if_pos hh]
    have hkeys : keys (put ilt l k v) = keys l := by
      rw [hput, keys, List.map_set]
      simp only [has, decide_eq_true_eq] at hh
      obtain ⟨h1, h2⟩ := List.getElem?_eq_some_iff.1 hh
      have : ((k, v).1 : Int) = (keys l)[at_ ilt l k] := h2.symm
      rw [this, List.set_getElem_self]
    have hln : (put ilt l k v).length = l.length := by rw [hput, List.length_set]
    refine hK (.inl hh) _ _ ⟨g, pk, pv, ck, cv, rfl, ?_, ?_, ?_, rfl, hgk, hgv, hkv, by rw [hkeys]; exact hs, by rw [hln]; exact hle, htop⟩ (f09.any.sub f22 fun x hx => by rw [hft]; simp [hx]) (fun x hx => .inl (by rw [hft]; exact hx))
    · rw [hln]; exact (hb.keep' f9).keep f22 hgv
    · rw [hln, hkeys]; exact (hk.keep' f9).keep f22 hkv
    · rw [hln, hput]; exact o22
  · refine drawn fun w9 f9 e9 => ?_
    have f09 := f2.tr f9
    have hb9 := hb.keep' f9
    refine ld_sl (hb9.cat 0 _ rfl) (ld_int (hb9.cat 2 _ rfl) (bc_dec (fun hge => ?_) (fun hlt => ?_)))
    · exact hno hh (by omega) _ f09
    · refine ld_sl (hb9.cat 0 _ rfl) (newB fun g1 w1 bk f1 hg1 => ?_)
      have f01 := f09.tr f1
      have s1 := f09.size
      have s2 := f01.size
      have hk1 := hk.keep' (f9.tr f1)
      have hv1 := hvs.keep' (f9.tr f1)
      have hb1 := hb9.keep' f1
      have bv1 := bv.keep' (f9.tr f1)
      have s02 := f2.size
      refine ins_73 hk1 (at_le l k) bk rfl (km_one_SC _) (fun u hu => by simp at hu; subst hu; rfl) (fun hm => by have := hkl _ hm; omega) (by omega) ?_
      intro pk' ck' w2 hk2 f2' e2
      refine ⟨_, _, _, rfl, ?_⟩
      have hb2 := hb1.keep f2' hgk
      have hv2 := hv1.keep f2' (fun x hx hm => hkv x hm hx)
      have bv2 := bv1.keep f2' (fun hm => by have := hkl _ hm; omega)
      refine stB hb2 (by simp) fun w3 hb3 f3 => ?_
      have hgk' : g ∉ fbl pk' := fun hm => by rcases e2 g hm with h | h; exact hgk h; omega
      have hk3 := hk2.keep f3 (fun x hx hm => hgk' (by simp at hm; rwa [← hm]))
      have hv3 := hv2.keep f3 (fun x hx hm => hgv (by simp at hm; rwa [← hm]))
      have bv3 := bv2.keep f3 (fun hm => by simp at hm; omega)
      have f03 : Fr (g :: fbl pk) w w3 := (f01.any.sub f2' fun x hx => by simp [hx]).inl f3 (by simp)
      have s3 := f03.size
      have s03 := f3.size
      have hkl2 := hk2.lt
      refine drawn fun w4 f4 e4 => ?_
      have hb4 := hb3.keep' f4
      refine ld_sl (hb4.cat 1 _ rfl) (ld_Scn (bv3.keep' f4).cat (newB fun g5 w5 b5 f5 hg5 => ⟨⟨hb4.cat 1 _ rfl, (hb4.keep' f5).cat 1 _ rfl⟩, ?_⟩))
      have f45 := f4.tr f5
      have hb5 := hb4.keep' f5
      have hk5 := hk3.keep' f45
      have hv5 := hv3.keep' f45
      have s5 := f45.size
      refine ins_74 hv5 (at_le l k) b5 v.len (fm_one_SC _) v.one (fun hm => by have := hvl _ hm; omega) (by omega) ?_
      intro pv' cv' w6 hv6 f6 e6
      refine ⟨_, _, _, rfl, ?_⟩
      have hb6 := hb5.keep f6 hgv
      have hkv' : ∀ x ∈ fbl pk', x ∉ fbl pv' := fun x hx hm => by
        have h1 := hkl2 x hx
        rcases e6 x hm with h | h
        · rcases e2 x hx with h' | h'
          · exact hkv x h' h
          · have := hvl x h; omega
        · omega
      have hk6 := hk5.keep f6 (fun x hx hm => by
        rcases e2 x hx with h' | h'
        · exact hkv x h' hm
        · have := hvl x hm; omega)
      have hgv' : g ∉ fbl pv' := fun hm => by rcases e6 g hm with h | h; exact hgv h; omega
      refine stB hb6 (by simp) fun w7 hb7 f7 => ?_
      have hk7 := hk6.keep f7 (fun x hx hm => hgk' (by simp at hm; rwa [← hm]))
      have hv7 := hv6.keep f7 (fun x hx hm => hgv' (by simp at hm; rwa [← hm]))
      have f07 : Fr foot w w7 := by
        rw [hft]
        exact (((f03.mono (fun x hx => by simp at hx; rcases hx with h | h <;> simp [h])).tr f45.any).sub f6 fun x hx => by simp [hx]).inl f7 (by simp)
      have hput : put ilt l k v = l.take (at_ ilt l k) ++ (k, v) :: l.drop (at_ ilt l k) := by unfold put; rw [if_neg (by simp [hh])]
      have hln : (put ilt l k v).length = l.length + 1 := by rw [put_length, if_neg (by simp [hh])]
      refine hK (.inr (by omega)) _ _ ⟨g, pk', pv', ck', cv', rfl, ?_, ?_, ?_, rfl, hgk', hgv', hkv', put_srt ilt_lin hs, by rw [hln]; omega, htop⟩ f07 ?_
      · rw [hln]; exact hb7
      · rw [hln, hput]
        have : (keys (l.take (at_ ilt l k) ++ (k, v) :: l.drop (at_ ilt l k))).map (Value.int .u64) = ((keys l).map (Value.int .u64)).take (at_ ilt l k * 1) ++ [(Value.int .u64) k] ++ ((keys l).map (Value.int .u64)).drop (at_ ilt l k * 1) := by
          simp [keys, List.map_take, List.map_drop]
        rw [this]; exact hk7
      · rw [hln, hput, flat_ins vc_len_SC]; exact hv7
      · intro x hx
        rw [hft]
        rcases List.mem_cons.1 hx with rfl | hx
        · exact .inl (by simp)
        · rcases List.mem_append.1 hx with hx | hx
          · rcases e2 x hx with h | h
            · exact .inl (by simp [h])
            · exact .inr (by omega)
          · rcases e6 x hx with h | h
            · exact .inl (by simp [h])
            · exact .inr (by omega)
theorem get_SC {k : Int} (h : T_SC w a foot most l) (hno : get ilt l k = none → ∀ w', Fr [] w w' → Q (.tuple #[(⟨0, 0, false, 0, 0, 0⟩ : Scn).val, .bool false]) w') (hK : ∀ v, get ilt l k = some v → ∀ w', Fr [] w w' → Q (.tuple #[v.val, .bool true]) w') :
    CallR Try.prog 33 #[.pointer (some a), (Value.int .u64) k] w Q := by
  obtain ⟨g, pk, pv, ck, cv, t⟩ := h
  obtain ⟨rfl, hb, hk, hvs, hft, hgk, hgv, hkv, hs, hle, htop⟩ := t
  refine X33.sound _ _ _ _ ?_
  unfold X33.f
  simp only [optP_some]
  refine newB fun g1 w2 b1 f2 hg1 => ?_
  have hb := hb.keep' f2
  have hk := hk.keep' f2
  have hvs := hvs.keep' f2
  refine ld_sl (hb.cat 0 _ rfl) (bs_54 hk.cells (by simp) hs (by omega) ⟨_, _, rfl, ?_⟩)
  have hat : rank ilt (keys l) k = at_ ilt l k := rfl
  have hhas : decide ((keys l)[at_ ilt l k]? = some k) = has ilt l k := rfl
  rw [hat, hhas]
  refine bc_bool (fun hh => ?_) (fun hh => ?_)
  · refine newB fun g9 w10 b9 f10 hg9 => ?_
    refine ld_Scn (s := ⟨0, 0, false, 0, 0, 0⟩) b9.cat (stAllB (b1.keep' f10) rfl fun w20 b20 f20 => ld_Scn (s := ⟨0, 0, false, 0, 0, 0⟩) b20.cat ?_)
    exact hno (by unfold get; rw [if_neg (by simpa using hh)]) _ ((f2.tr f10).loc f20 hg1)
  · have hh : has ilt l k = true := by simpa using hh
    have hlt := at_lt hh
    refine ld_sl (hb.cat 1 _ rfl) ⟨⟨by omega, by omega⟩, ?_⟩
    have hi := List.getElem?_eq_getElem hlt
    obtain ⟨p, hp, hc⟩ := own_at vc_len_SC hvs rfl hi
    rw [Int.toNat_natCast]
    refine opt_some hp (ld_Scn (s := (l[at_ ilt l k]).2) hc (stAllB b1 rfl fun w20 b20 f20 => ld_Scn (s := (l[at_ ilt l k]).2) b20.cat ?_))
    exact hK _ (by unfold get; rw [if_pos hh, hi]; rfl) _ (f2.loc f20 hg1)
end
end Go.Proofs.YtnjmkhhaodgpbaaX
