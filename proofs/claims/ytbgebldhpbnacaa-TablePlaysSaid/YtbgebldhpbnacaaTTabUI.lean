/- A table of keys and values of one cell each: what it lies as, New, Put, Get. -/
import Derived.Test.YtbgebldhpbnacaaTSearch43
import Derived.Test.YtbgebldhpbnacaaTIns44
import Derived.Test.YtbgebldhpbnacaaTIns42
namespace Go.Proofs.YtbgebldhpbnacaaX
open Go.RowKit
set_option linter.unusedVariables false
set_option linter.unusedSimpArgs false
def vc_UI (e : Int × Int) : List Value := [(Value.int .i64) e.2]
theorem vc_len_UI (e : Int × Int) : (vc_UI e).length = 1 := rfl
structure Tab_UI (w : World) (a : Addr) (foot : List Nat) (most : Int) (l : List (Int × Int)) (g : Nat) (pk pv : Option Addr) (ck cv : Nat) : Prop where
  ad : a = at0 g 0
  blk : Blk w g [.slice pk l.length ck, .slice pv l.length cv, .int .i64 most] 76
  ks : Own 36 1 w pk l.length ck ((keys l).map (Value.int .u64))
  vs : Own 3 1 w pv l.length cv (l.flatMap vc_UI)
  ft : foot = g :: (fbl pk ++ fbl pv)
  gk : g ∉ fbl pk
  gv : g ∉ fbl pv
  kv : ∀ x ∈ fbl pk, x ∉ fbl pv
  srt : Srt ilt (keys l)
  le : (l.length : Int) ≤ most
  top : most ≤ 4096
def T_UI (w : World) (a : Addr) (foot : List Nat) (most : Int) (l : List (Int × Int)) : Prop := ∃ g pk pv ck cv, Tab_UI w a foot most l g pk pv ck cv
section
variable {w w' : World} {a : Addr} {foot S : List Nat} {most : Int} {l : List (Int × Int)} {Q : Value → World → Prop}
theorem T_UI.keep (h : T_UI w a foot most l) (f : Fr S w w') (hd : ∀ x ∈ foot, x ∉ S) : T_UI w' a foot most l := by
  obtain ⟨g, pk, pv, ck, cv, t⟩ := h
  refine ⟨g, pk, pv, ck, cv, t.ad, t.blk.keep f (hd g ?_), t.ks.keep f (fun x hx => hd x ?_), t.vs.keep f (fun x hx => hd x ?_), t.ft, t.gk, t.gv, t.kv, t.srt, t.le, t.top⟩ <;> rw [t.ft] <;> simp_all
theorem T_UI.keep' (h : T_UI w a foot most l) (f : Fr [] w w') : T_UI w' a foot most l := h.keep f (by simp)
theorem T_UI.lt (h : T_UI w a foot most l) : ∀ x ∈ foot, x < w.heap.size := by
  obtain ⟨g, pk, pv, ck, cv, t⟩ := h
  intro x hx
  rw [t.ft] at hx
  rcases List.mem_cons.1 hx with rfl | hx
  · exact t.blk.lt
  · rcases List.mem_append.1 hx with hx | hx
    · exact t.ks.lt x hx
    · exact t.vs.lt x hx
theorem T_UI.sorted (h : T_UI w a foot most l) : Srt ilt (keys l) := by obtain ⟨g, pk, pv, ck, cv, t⟩ := h; exact t.srt
theorem T_UI.size (h : T_UI w a foot most l) : (l.length : Int) ≤ most ∧ most ≤ 4096 := by obtain ⟨g, pk, pv, ck, cv, t⟩ := h; exact ⟨t.le, t.top⟩
theorem fm_set_UI (l : List (Int × Int)) (i : Nat) (k : Int) (v : Int) : (l.set i (k, v)).flatMap vc_UI = (l.flatMap vc_UI).set (i * 1) ((Value.int .i64) v) := by
  rw [Nat.mul_one]
  have : ∀ l : List (Int × Int), l.flatMap vc_UI = l.map fun e => (Value.int .i64) e.2 := fun l => flat_one (f := fun e : Int × Int => (Value.int .i64) e.2) l
  rw [this, this, List.map_set]
theorem fm_one_UI (l : List (Int × Int)) : ∀ u ∈ l.flatMap vc_UI, u.oneCell' = true := by
  intro u hu
  obtain ⟨e, _, he⟩ := List.mem_flatMap.1 hu
  simp only [vc_UI, List.mem_singleton] at he
  subst he
  rfl
theorem km_one_UI (ks : List Int) : ∀ u ∈ ks.map (Value.int .u64), u.oneCell' = true := by
  intro u hu
  obtain ⟨e, _, rfl⟩ := List.mem_map.1 hu
  rfl
theorem new_UI {m : Int} (hbad : (m < 1 ∨ 4096 < m) → Q (.tuple #[.pointer none, .int .i64 1]) w)
    (hK : 1 ≤ m → m ≤ 4096 → ∀ w', T_UI w' (at0 w.heap.size 0) [w.heap.size] m [] → Fr [] w w' → Q (.tuple #[.pointer (some (at0 w.heap.size 0)), .int .i64 0]) w') :
    CallR Try.prog 15 #[.int .i64 m] w Q := by
  refine X15.sound _ _ _ ?_
  unfold X15.f
  refine bc_dec (fun h => hbad (.inl h)) (fun h => bc_dec (fun h2 => hbad (.inr h2)) (fun h2 => ?_))
  refine hK (by omega) (by omega) _ ⟨w.heap.size, none, none, 0, 0, rfl, Blk.made w _ _, Own.nil, Own.nil, rfl, by simp [fbl], by simp [fbl], by simp [fbl], List.Pairwise.nil, by simp; omega, by omega⟩ (Fr.alloc _ _)
theorem put_UI {k : Int} {v : Int} (h : T_UI w a foot most l)
    (hno : has ilt l k = false → most ≤ l.length → ∀ w', Fr [] w w' → Q (.bool false) w')
    (hK : (has ilt l k = true ∨ (l.length : Int) < most) → ∀ foot' w', T_UI w' a foot' most (put ilt l k v) → Fr foot w w' → (∀ x ∈ foot', x ∈ foot ∨ w.heap.size ≤ x) → Q (.bool true) w') :
    CallR Try.prog 16 #[.pointer (some a), (Value.int .u64) k, (Value.int .i64) v] w Q := by
  obtain ⟨g, pk, pv, ck, cv, t⟩ := h
  obtain ⟨rfl, hb, hk, hvs, hft, hgk, hgv, hkv, hs, hle, htop⟩ := t
  refine X16.sound _ _ _ _ _ ?_
  unfold X16.f
  simp only [optP_some, add_at, Nat.zero_add, Nat.add_zero]
  refine ld_sl (hb.cell rfl) (bs_43 hk.cells (by simp) hs (by omega) ⟨_, _, rfl, ?_⟩)
  have hat : rank ilt (keys l) k = at_ ilt l k := rfl
  have hhas : decide ((keys l)[at_ ilt l k]? = some k) = has ilt l k := rfl
  have hgl := hb.lt
  rw [hat, hhas]
  refine bc_bool (fun hh => ?_) (fun hh => ?_)
  · have hlt := at_lt hh
    refine ld_sl (hb.cell rfl) ⟨⟨by omega, by omega⟩, ?_⟩
    cases pv with
    | none => have := hvs.none_c; omega
    | some p =>
      have hlen : (l.flatMap vc_UI).length = l.length * 1 := flat_length vc_len_UI l
      refine ⟨by rw [Int.toNat_natCast]; exact hvs.storeOk (by omega), ?_⟩
      rw [Int.toNat_natCast]
      have hset := hvs.set (i := at_ ilt l k * 1) (by omega) ((Value.int .i64) v)
      rw [← fm_set_UI l _ k v] at hset
      have hf : Fr (fbl (some p)) w (w.setCell (p.add (at_ ilt l k * 1)) ((Value.int .i64) v)) := Fr.setCell (by simp [fbl, add_block]) _
      have hput : put ilt l k v = l.set (at_ ilt l k) (k, v) := by unfold put; rw [if_pos hh]
      have hkeys : keys (put ilt l k v) = keys l := by
        rw [hput, keys, List.map_set]
        simp only [has, decide_eq_true_eq] at hh
        obtain ⟨h1, h2⟩ := List.getElem?_eq_some_iff.1 hh
        have : ((k, v).1 : Int) = (keys l)[at_ ilt l k] := h2.symm
        rw [this, List.set_getElem_self]
      have hln : (put ilt l k v).length = l.length := by rw [hput, List.length_set]
      refine hK (.inl hh) _ _ ⟨g, pk, some p, ck, cv, rfl, ?_, ?_, ?_, rfl, hgk, hgv, hkv, by rw [hkeys]; exact hs, by rw [hln]; exact hle, htop⟩ (hf.mono fun x hx => by rw [hft]; simp [hx]) (fun x hx => .inl (by rw [hft]; exact hx))
      · rw [hln]; exact hb.keep hf hgv
      · rw [hln, hkeys]; exact hk.keep hf hkv
      · rw [hln, hput]; exact hset
  · unfold drewK newK
    have f0 : Fr [] w w.drew := Fr.drew
    have hb0 := hb.keep' f0
    refine ld_sl (hb0.cell rfl) (ld_int (hb0.cell rfl) (bc_dec (fun hge => ?_) (fun hlt => ?_)))
    · exact hno hh (by omega) _ f0
    · refine ld_sl (hb0.cell rfl) ?_
      rw [show (⟨w.drew.heap.size, 0, none⟩ : Addr) = at0 w.drew.heap.size 0 from rfl]
      have f1 : Fr [] w.drew (w.drew.alloc (.cells #[(Value.int .u64) k] 36)) := Fr.alloc _ _
      have bk := Blk.made w.drew #[(Value.int .u64) k] 36
      have hk1 := (hk.keep' f0).keep' f1
      have hv1 := (hvs.keep' f0).keep' f1
      have hb1 := hb0.keep' f1
      have hkl := hk.lt
      have hvl := hvs.lt
      have s1 : w.drew.heap.size = w.heap.size := rfl
      have f01 : Fr [] w (w.drew.alloc (.cells #[(Value.int .u64) k] 36)) := f0.tr f1
      have s2 := f01.size
      generalize hw1 : w.drew.alloc (.cells #[(Value.int .u64) k] 36) = w1 at *
      refine ins_44 hk1 (at_le l k) bk rfl (km_one_UI _) (fun u hu => by simp at hu; subst hu; rfl) (fun hm => by have := hkl _ hm; omega) (by omega) ?_
      intro pk' ck' w2 hk2 f2 e2
      refine ⟨_, _, _, rfl, ?_⟩
      have hb2 := hb1.keep f2 hgk
      have hv2 := hv1.keep f2 (fun x hx hm => hkv x hm hx)
      refine ⟨hb2.storeOk (by simp), ?_⟩
      have hb3 := hb2.set 0 (.slice pk' (l.length + 1) ck')
      have f3 : Fr [g] w2 (w2.setCell (at0 g 0) (.slice pk' (l.length + 1) ck')) := Fr.setCell (by simp [at0]) _
      have hgk' : g ∉ fbl pk' := fun hm => by rcases e2 g hm with h | h; exact hgk h; omega
      have hk3 := hk2.keep f3 (fun x hx hm => hgk' (by simp at hm; rwa [← hm]))
      have hv3 := hv2.keep f3 (fun x hx hm => hgv (by simp at hm; rwa [← hm]))
      have f03 : Fr (g :: fbl pk) w (w2.setCell (at0 g 0) (.slice pk' (l.length + 1) ck')) := (f01.any.trans f2 (fun x hx => .inl (by simp [hx]))).trans f3 (fun x hx => .inl (by simp at hx; simp [hx]))
      have s3 := f03.size
      have hkl2 := hk2.lt
      have s23 := f3.size
      generalize w2.setCell (at0 g 0) (.slice pk' (l.length + 1) ck') = w3 at *
      refine ld_sl (hb3.cell rfl) ?_
      rw [show (⟨w3.heap.size, 0, none⟩ : Addr) = at0 w3.heap.size 0 from rfl]
      have f4 : Fr [] w3 (w3.alloc (.cells #[(Value.int .i64) v] 3)) := Fr.alloc _ _
      have bv := Blk.made w3 #[(Value.int .i64) v] 3
      have hb4 := hb3.keep' f4
      have hk4 := hk3.keep' f4
      have hv4 := hv3.keep' f4
      have s4 := f4.size
      generalize w3.alloc (.cells #[(Value.int .i64) v] 3) = w4 at *
      refine ins_42 hv4 (at_le l k) bv rfl (fm_one_UI _) (fun u hu => by simp at hu; subst hu; rfl) (fun hm => by have := hvl _ hm; omega) (by omega) ?_
      intro pv' cv' w5 hv5 f5 e5
      refine ⟨_, _, _, rfl, ?_⟩
      have hb5 := hb4.keep f5 hgv
      have hkv' : ∀ x ∈ fbl pk', x ∉ fbl pv' := fun x hx hm => by
        have h1 := hkl2 x hx
        rcases e5 x hm with h | h
        · rcases e2 x hx with h' | h'
          · exact hkv x h' h
          · have := hvl x h; omega
        · omega
      have hk5 := hk4.keep f5 (fun x hx hm => by
        rcases e2 x hx with h' | h'
        · exact hkv x h' hm
        · have := hvl x hm; omega)
      refine ⟨hb5.storeOk (by simp), ?_⟩
      have hb6 := hb5.set 1 (.slice pv' (l.length + 1) cv')
      have f6 : Fr [g] w5 (w5.setCell (at0 g 1) (.slice pv' (l.length + 1) cv')) := Fr.setCell (by simp [at0]) _
      have hgv' : g ∉ fbl pv' := fun hm => by rcases e5 g hm with h | h; exact hgv h; omega
      have hk6 := hk5.keep f6 (fun x hx hm => hgk' (by simp at hm; rwa [← hm]))
      have hv6 := hv5.keep f6 (fun x hx hm => hgv' (by simp at hm; rwa [← hm]))
      have f06 : Fr foot w (w5.setCell (at0 g 1) (.slice pv' (l.length + 1) cv')) := by
        rw [hft]
        exact (((f03.mono (fun x hx => by simp at hx; rcases hx with h | h <;> simp [h])).tr f4.any).trans f5 (fun x hx => .inl (by simp [hx]))).trans f6 (fun x hx => .inl (by simp at hx; simp [hx]))
      have hput : put ilt l k v = l.take (at_ ilt l k) ++ (k, v) :: l.drop (at_ ilt l k) := by unfold put; rw [if_neg (by simp [hh])]
      have hln : (put ilt l k v).length = l.length + 1 := by rw [put_length, if_neg (by simp [hh])]
      refine hK (.inr (by omega)) _ _ ⟨g, pk', pv', ck', cv', rfl, ?_, ?_, ?_, rfl, hgk', hgv', hkv', put_srt ilt_lin hs, by rw [hln]; omega, htop⟩ f06 ?_
      · rw [hln]; exact hb6
      · rw [hln, hput]
        have : (keys (l.take (at_ ilt l k) ++ (k, v) :: l.drop (at_ ilt l k))).map (Value.int .u64) = ((keys l).map (Value.int .u64)).take (at_ ilt l k * 1) ++ [(Value.int .u64) k] ++ ((keys l).map (Value.int .u64)).drop (at_ ilt l k * 1) := by
          simp [keys, List.map_take, List.map_drop]
        rw [this]; exact hk6
      · rw [hln, hput, flat_ins vc_len_UI]; exact hv6
      · intro x hx
        rw [hft]
        rcases List.mem_cons.1 hx with rfl | hx
        · exact .inl (by simp)
        · rcases List.mem_append.1 hx with hx | hx
          · rcases e2 x hx with h | h
            · exact .inl (by simp [h])
            · exact .inr (by omega)
          · rcases e5 x hx with h | h
            · exact .inl (by simp [h])
            · exact .inr (by omega)
theorem get_UI {k : Int} (h : T_UI w a foot most l) (hno : get ilt l k = none → Q (.tuple #[(Value.int .i64) 0, .bool false]) w) (hK : ∀ v, get ilt l k = some v → Q (.tuple #[(Value.int .i64) v, .bool true]) w) :
    CallR Try.prog 20 #[.pointer (some a), (Value.int .u64) k] w Q := by
  obtain ⟨g, pk, pv, ck, cv, t⟩ := h
  obtain ⟨rfl, hb, hk, hvs, hft, hgk, hgv, hkv, hs, hle, htop⟩ := t
  refine X20.sound _ _ _ _ ?_
  unfold X20.f
  simp only [optP_some, add_at, Nat.zero_add, Nat.add_zero]
  refine ld_sl (hb.cell rfl) (bs_43 hk.cells (by simp) hs (by omega) ⟨_, _, rfl, ?_⟩)
  have hat : rank ilt (keys l) k = at_ ilt l k := rfl
  have hhas : decide ((keys l)[at_ ilt l k]? = some k) = has ilt l k := rfl
  rw [hat, hhas]
  refine bc_bool (fun hh => ?_) (fun hh => ?_)
  · exact hno (by unfold get; rw [if_neg (by simpa using hh)])
  · have hh : has ilt l k = true := by simpa using hh
    have hlt := at_lt hh
    refine ld_sl (hb.cell rfl) ⟨⟨by omega, by omega⟩, ?_⟩
    have hi := List.getElem?_eq_getElem hlt
    obtain ⟨p, hp, hc⟩ := hvs.cells _ _ (flat_get vc_len_UI l hi (j := 0) rfl)
    refine opt_some hp (ld_int (by rw [Int.toNat_natCast]; exact hc) (hK _ (by unfold get; rw [if_pos hh, hi]; rfl)))
end
end Go.Proofs.YtbgebldhpbnacaaX
