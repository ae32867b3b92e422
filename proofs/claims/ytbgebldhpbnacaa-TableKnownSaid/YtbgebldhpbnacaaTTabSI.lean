/- A table of keys and values of one cell each: what it lies as, New, Put, Get. -/
import Derived.Test.YtbgebldhpbnacaaTSearch40
import Derived.Test.YtbgebldhpbnacaaTIns41
import Derived.Test.YtbgebldhpbnacaaTIns42
namespace Go.Proofs.YtbgebldhpbnacaaX
open Go.RowKit
set_option linter.unusedVariables false
set_option linter.unusedSimpArgs false
def vc_SI (e : ByteArray × Int) : List Value := [(Value.int .i64) e.2]
theorem vc_len_SI (e : ByteArray × Int) : (vc_SI e).length = 1 := rfl
structure Tab_SI (w : World) (a : Addr) (foot : List Nat) (most : Int) (l : List (ByteArray × Int)) (g : Nat) (pk pv : Option Addr) (ck cv : Nat) : Prop where
  ad : a = at0 g 0
  blk : Blk w g [.slice pk l.length ck, .slice pv l.length cv, .int .i64 most] 66
  ks : Own 9 1 w pk l.length ck ((keys l).map Value.string)
  vs : Own 3 1 w pv l.length cv (l.flatMap vc_SI)
  ft : foot = g :: (fbl pk ++ fbl pv)
  gk : g ∉ fbl pk
  gv : g ∉ fbl pv
  kv : ∀ x ∈ fbl pk, x ∉ fbl pv
  srt : Srt strLt (keys l)
  le : (l.length : Int) ≤ most
  top : most ≤ 4096
def T_SI (w : World) (a : Addr) (foot : List Nat) (most : Int) (l : List (ByteArray × Int)) : Prop := ∃ g pk pv ck cv, Tab_SI w a foot most l g pk pv ck cv
section
variable {w w' : World} {a : Addr} {foot S : List Nat} {most : Int} {l : List (ByteArray × Int)} {Q : Value → World → Prop}
theorem T_SI.keep (h : T_SI w a foot most l) (f : Fr S w w') (hd : ∀ x ∈ foot, x ∉ S) : T_SI w' a foot most l := by
  obtain ⟨g, pk, pv, ck, cv, t⟩ := h
  refine ⟨g, pk, pv, ck, cv, t.ad, t.blk.keep f (hd g ?_), t.ks.keep f (fun x hx => hd x ?_), t.vs.keep f (fun x hx => hd x ?_), t.ft, t.gk, t.gv, t.kv, t.srt, t.le, t.top⟩ <;> rw [t.ft] <;> simp_all
theorem T_SI.keep' (h : T_SI w a foot most l) (f : Fr [] w w') : T_SI w' a foot most l := h.keep f (by simp)
theorem T_SI.lt (h : T_SI w a foot most l) : ∀ x ∈ foot, x < w.heap.size := by
  obtain ⟨g, pk, pv, ck, cv, t⟩ := h
  intro x hx
  rw [t.ft] at hx
  rcases List.mem_cons.1 hx with rfl | hx
  · exact t.blk.lt
  · rcases List.mem_append.1 hx with hx | hx
    · exact t.ks.lt x hx
    · exact t.vs.lt x hx
theorem T_SI.sorted (h : T_SI w a foot most l) : Srt strLt (keys l) := by obtain ⟨g, pk, pv, ck, cv, t⟩ := h; exact t.srt
theorem T_SI.size (h : T_SI w a foot most l) : (l.length : Int) ≤ most ∧ most ≤ 4096 := by obtain ⟨g, pk, pv, ck, cv, t⟩ := h; exact ⟨t.le, t.top⟩
theorem fm_set_SI (l : List (ByteArray × Int)) (i : Nat) (k : ByteArray) (v : Int) : (l.set i (k, v)).flatMap vc_SI = (l.flatMap vc_SI).set (i * 1) ((Value.int .i64) v) := by
  rw [Nat.mul_one]
  have : ∀ l : List (ByteArray × Int), l.flatMap vc_SI = l.map fun e => (Value.int .i64) e.2 := fun l => flat_one (f := fun e : ByteArray × Int => (Value.int .i64) e.2) l
  rw [this, this, List.map_set]
theorem fm_one_SI (l : List (ByteArray × Int)) : ∀ u ∈ l.flatMap vc_SI, u.oneCell' = true := by
  intro u hu
  obtain ⟨e, _, he⟩ := List.mem_flatMap.1 hu
  simp only [vc_SI, List.mem_singleton] at he
  subst he
  rfl
theorem km_one_SI (ks : List ByteArray) : ∀ u ∈ ks.map Value.string, u.oneCell' = true := by
  intro u hu
  obtain ⟨e, _, rfl⟩ := List.mem_map.1 hu
  rfl
theorem new_SI {m : Int} (hbad : (m < 1 ∨ 4096 < m) → Q (.tuple #[.pointer none, .int .i64 1]) w)
    (hK : 1 ≤ m → m ≤ 4096 → ∀ w', T_SI w' (at0 w.heap.size 0) [w.heap.size] m [] → Fr [] w w' → Q (.tuple #[.pointer (some (at0 w.heap.size 0)), .int .i64 0]) w') :
    CallR Try.prog 9 #[.int .i64 m] w Q := by
  refine X9.sound _ _ _ ?_
  unfold X9.f
  refine bc_dec (fun h => hbad (.inl h)) (fun h => bc_dec (fun h2 => hbad (.inr h2)) (fun h2 => ?_))
  refine hK (by omega) (by omega) _ ⟨w.heap.size, none, none, 0, 0, rfl, Blk.made w _ _, Own.nil, Own.nil, rfl, by simp [fbl], by simp [fbl], by simp [fbl], List.Pairwise.nil, by simp; omega, by omega⟩ (Fr.alloc _ _)
theorem put_SI {k : ByteArray} {v : Int} (h : T_SI w a foot most l)
    (hno : has strLt l k = false → most ≤ l.length → ∀ w', Fr [] w w' → Q (.bool false) w')
    (hK : (has strLt l k = true ∨ (l.length : Int) < most) → ∀ foot' w', T_SI w' a foot' most (put strLt l k v) → Fr foot w w' → (∀ x ∈ foot', x ∈ foot ∨ w.heap.size ≤ x) → Q (.bool true) w') :
    CallR Try.prog 11 #[.pointer (some a), Value.string k, (Value.int .i64) v] w Q := by
  obtain ⟨g, pk, pv, ck, cv, t⟩ := h
  obtain ⟨rfl, hb, hk, hvs, hft, hgk, hgv, hkv, hs, hle, htop⟩ := t
  refine X11.sound _ _ _ _ _ ?_
  unfold X11.f
  simp only [optP_some, add_at, Nat.zero_add, Nat.add_zero]
  refine ld_sl (hb.cell rfl) (bs_40 hk.cells (by simp) hs (by omega) ⟨_, _, rfl, ?_⟩)
  have hat : rank strLt (keys l) k = at_ strLt l k := rfl
  have hhas : decide ((keys l)[at_ strLt l k]? = some k) = has strLt l k := rfl
  have hgl := hb.lt
  rw [hat, hhas]
  refine bc_bool (fun hh => ?_) (fun hh => ?_)
  · have hlt := at_lt hh
    refine ld_sl (hb.cell rfl) ⟨⟨by omega, by omega⟩, ?_⟩
    cases pv with
    | none => have := hvs.none_c; omega
    | some p =>
      have hlen : (l.flatMap vc_SI).length = l.length * 1 := flat_length vc_len_SI l
      refine ⟨by rw [Int.toNat_natCast]; exact hvs.storeOk (by omega), ?_⟩
      rw [Int.toNat_natCast]
      have hset := hvs.set (i := at_ strLt l k * 1) (by omega) ((Value.int .i64) v)
      rw [← fm_set_SI l _ k v] at hset
      have hf : Fr (fbl (some p)) w (w.setCell (p.add (at_ strLt l k * 1)) ((Value.int .i64) v)) := Fr.setCell (by simp [fbl, add_block]) _
      have hput : put strLt l k v = l.set (at_ strLt l k) (k, v) := by unfold put; rw [if_pos hh]
      have hkeys : keys (put strLt l k v) = keys l := by
        rw [hput, keys, List.map_set]
        simp only [has, decide_eq_true_eq] at hh
        obtain ⟨h1, h2⟩ := List.getElem?_eq_some_iff.1 hh
        have : ((k, v).1 : ByteArray) = (keys l)[at_ strLt l k] := h2.symm
        rw [this, List.set_getElem_self]
      have hln : (put strLt l k v).length = l.length := by rw [hput, List.length_set]
      refine hK (.inl hh) _ _ ⟨g, pk, some p, ck, cv, rfl, ?_, ?_, ?_, rfl, hgk, hgv, hkv, by rw [hkeys]; exact hs, by rw [hln]; exact hle, htop⟩ (hf.mono fun x hx => by rw [hft]; simp [hx]) (fun x hx => .inl (by rw [hft]; exact hx))
      · rw [hln]; exact hb.keep hf hgv
      · rw [hln, hkeys]; exact hk.keep hf hkv
      · rw [hln, hput]; exact hset
  · unfold drewK newK
    have f0 : Fr [] w w.drew := Fr.drew
    have hb0 := hb.keep' f0
    refine ld_sl (hb0.cell rfl) (ld_int (hb0.cell rfl) (bc_dec (fun hge => ?_) (fun hlt => ?_)))
    · exact hno hh (by omega) _ f0
    · refine ld_sl (hb0.cell rfl) ?_
      rw [show (⟨w.drew.heap.size, 0, none⟩ : Addr) = at0 w.drew.heap.size 0 from rfl]
      have f1 : Fr [] w.drew (w.drew.alloc (.cells #[Value.string k] 9)) := Fr.alloc _ _
      have bk := Blk.made w.drew #[Value.string k] 9
      have hk1 := (hk.keep' f0).keep' f1
      have hv1 := (hvs.keep' f0).keep' f1
      have hb1 := hb0.keep' f1
      have hkl := hk.lt
      have hvl := hvs.lt
      have s1 : w.drew.heap.size = w.heap.size := rfl
      have f01 : Fr [] w (w.drew.alloc (.cells #[Value.string k] 9)) := f0.tr f1
      have s2 := f01.size
      generalize hw1 : w.drew.alloc (.cells #[Value.string k] 9) = w1 at *
      refine ins_41 hk1 (at_le l k) bk rfl (km_one_SI _) (fun u hu => by simp at hu; subst hu; rfl) (fun hm => by have := hkl _ hm; omega) (by omega) ?_
      intro pk' ck' w2 hk2 f2 e2
      refine ⟨_, _, _, rfl, ?_⟩
      have hb2 := hb1.keep f2 hgk
      have hv2 := hv1.keep f2 (fun x hx hm => hkv x hm hx)
      refine ⟨hb2.storeOk (by simp), ?_⟩
      have hb3 := hb2.set 0 (.slice pk' (l.length + 1) ck')
      have f3 : Fr [g] w2 (w2.setCell (at0 g 0) (.slice pk' (l.length + 1) ck')) := Fr.setCell (by simp [at0]) _
      have hgk' : g ∉ fbl pk' := fun hm => by rcases e2 g hm with h | h; exact hgk h; omega
      have hk3 := hk2.keep f3 (fun x hx hm => hgk' (by simp at hm; rwa [← hm]))
      have hv3 := hv2.keep f3 (fun x hx hm => hgv (by simp at hm; rwa [← hm]))
      have f03 : Fr (g :: fbl pk) w (w2.setCell (at0 g 0) (.slice pk' (l.length + 1) ck')) := (f01.any.trans f2 (fun x hx => .inl (by simp [hx]))).trans f3 (fun x hx => .inl (by simp at hx; simp [hx]))
      have s3 := f03.size
      have hkl2 := hk2.lt
      have s23 := f3.size
      generalize w2.setCell (at0 g 0) (.slice pk' (l.length + 1) ck') = w3 at *
      refine ld_sl (hb3.cell rfl) ?_
      rw [show (⟨w3.heap.size, 0, none⟩ : Addr) = at0 w3.heap.size 0 from rfl]
      have f4 : Fr [] w3 (w3.alloc (.cells #[(Value.int .i64) v] 3)) := Fr.alloc _ _
      have bv := Blk.made w3 #[(Value.int .i64) v] 3
      have hb4 := hb3.keep' f4
      have hk4 := hk3.keep' f4
      have hv4 := hv3.keep' f4
      have s4 := f4.size
      generalize w3.alloc (.cells #[(Value.int .i64) v] 3) = w4 at *
      refine ins_42 hv4 (at_le l k) bv rfl (fm_one_SI _) (fun u hu => by simp at hu; subst hu; rfl) (fun hm => by have := hvl _ hm; omega) (by omega) ?_
      intro pv' cv' w5 hv5 f5 e5
      refine ⟨_, _, _, rfl, ?_⟩
      have hb5 := hb4.keep f5 hgv
      have hkv' : ∀ x ∈ fbl pk', x ∉ fbl pv' := fun x hx hm => by
        have h1 := hkl2 x hx
        rcases e5 x hm with h | h
        · rcases e2 x hx with h' | h'
          · exact hkv x h' h
          · have := hvl x h; omega
        · omega
      have hk5 := hk4.keep f5 (fun x hx hm => by
        rcases e2 x hx with h' | h'
        · exact hkv x h' hm
        · have := hvl x hm; omega)
      refine ⟨hb5.storeOk (by simp), ?_⟩
      have hb6 := hb5.set 1 (.slice pv' (l.length + 1) cv')
      have f6 : Fr [g] w5 (w5.setCell (at0 g 1) (.slice pv' (l.length + 1) cv')) := Fr.setCell (by simp [at0]) _
      have hgv' : g ∉ fbl pv' := fun hm => by rcases e5 g hm with h | h; exact hgv h; omega
      have hk6 := hk5.keep f6 (fun x hx hm => hgk' (by simp at hm; rwa [← hm]))
      have hv6 := hv5.keep f6 (fun x hx hm => hgv' (by simp at hm; rwa [← hm]))
      have f06 : Fr foot w (w5.setCell (at0 g 1) (.slice pv' (l.length + 1) cv')) := by
        rw [hft]
        exact (((f03.mono (fun x hx => by simp at hx; rcases hx with h | h <;> simp [h])).tr f4.any).trans f5 (fun x hx => .inl (by simp [hx]))).trans f6 (fun x hx => .inl (by simp at hx; simp [hx]))
      have hput : put strLt l k v = l.take (at_ strLt l k) ++ (k, v) :: l.drop (at_ strLt l k) := by unfold put; rw [if_neg (by simp [hh])]
      have hln : (put strLt l k v).length = l.length + 1 := by rw [put_length, if_neg (by simp [hh])]
      refine hK (.inr (by omega)) _ _ ⟨g, pk', pv', ck', cv', rfl, ?_, ?_, ?_, rfl, hgk', hgv', hkv', put_srt strLt_lin hs, by rw [hln]; omega, htop⟩ f06 ?_
      · rw [hln]; exact hb6
      · rw [hln, hput]
        have : (keys (l.take (at_ strLt l k) ++ (k, v) :: l.drop (at_ strLt l k))).map Value.string = ((keys l).map Value.string).take (at_ strLt l k * 1) ++ [Value.string k] ++ ((keys l).map Value.string).drop (at_ strLt l k * 1) := by
          simp [keys, List.map_take, List.map_drop]
        rw [this]; exact hk6
      · rw [hln, hput, flat_ins vc_len_SI]; exact hv6
      · intro x hx
        rw [hft]
        rcases List.mem_cons.1 hx with rfl | hx
        · exact .inl (by simp)
        · rcases List.mem_append.1 hx with hx | hx
          · rcases e2 x hx with h | h
            · exact .inl (by simp [h])
            · exact .inr (by omega)
          · rcases e5 x hx with h | h
            · exact .inl (by simp [h])
            · exact .inr (by omega)
theorem get_SI {k : ByteArray} (h : T_SI w a foot most l) (hno : get strLt l k = none → Q (.tuple #[(Value.int .i64) 0, .bool false]) w) (hK : ∀ v, get strLt l k = some v → Q (.tuple #[(Value.int .i64) v, .bool true]) w) :
    CallR Try.prog 12 #[.pointer (some a), Value.string k] w Q := by
  obtain ⟨g, pk, pv, ck, cv, t⟩ := h
  obtain ⟨rfl, hb, hk, hvs, hft, hgk, hgv, hkv, hs, hle, htop⟩ := t
  refine X12.sound _ _ _ _ ?_
  unfold X12.f
  simp only [optP_some, add_at, Nat.zero_add, Nat.add_zero]
  refine ld_sl (hb.cell rfl) (bs_40 hk.cells (by simp) hs (by omega) ⟨_, _, rfl, ?_⟩)
  have hat : rank strLt (keys l) k = at_ strLt l k := rfl
  have hhas : decide ((keys l)[at_ strLt l k]? = some k) = has strLt l k := rfl
  rw [hat, hhas]
  refine bc_bool (fun hh => ?_) (fun hh => ?_)
  · exact hno (by unfold get; rw [if_neg (by simpa using hh)])
  · have hh : has strLt l k = true := by simpa using hh
    have hlt := at_lt hh
    refine ld_sl (hb.cell rfl) ⟨⟨by omega, by omega⟩, ?_⟩
    have hi := List.getElem?_eq_getElem hlt
    obtain ⟨p, hp, hc⟩ := hvs.cells _ _ (flat_get vc_len_SI l hi (j := 0) rfl)
    refine opt_some hp (ld_int (by rw [Int.toNat_natCast]; exact hc) (hK _ (by unfold get; rw [if_pos hh, hi]; rfl)))
end
end Go.Proofs.YtbgebldhpbnacaaX
