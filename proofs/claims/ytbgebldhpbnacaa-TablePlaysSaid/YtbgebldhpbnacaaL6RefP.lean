/- The document's own table: Put and Drop. -/
import Derived.Test.YtbgebldhpbnacaaL6Ref
namespace Go.Proofs.YtbgebldhpbnacaaX
open Go.RowKit
set_option linter.unusedVariables false
set_option linter.unusedSimpArgs false
set_option maxRecDepth 100000
section
variable {w : World} {g : Nat} {foot : List Nat} {most : Int} {l : KV} {Q : Value → World → Prop}
theorem rput_j0 {pk pv kp : Option Addr} {n ck cv kc i : Nat} {v : Int} {vs kx : List Value} (hb : Blk w g [.int .i64 most, .slice pk n ck, .slice pv n cv] 61) (hv : Own 3 1 w pv n cv vs) (hv1 : ∀ u ∈ vs, u.oneCell' = true) (hkp : Own 36 1 w kp (n + 1) kc kx) (hi : i ≤ n) (hn : n < 4096) (hgk : g ∉ fbl kp)
    (hK : ∀ qv cv' w', Blk w' g [.int .i64 most, .slice kp (n + 1) kc, .slice qv (n + 1) cv'] 61 → Own 3 1 w' qv (n + 1) cv' (vs.take i ++ .int .i64 v :: vs.drop i) → (∀ x ∈ fbl qv, w.heap.size ≤ x) → Own 36 1 w' kp (n + 1) kc kx → Fr [g] w w' → Q (.bool true) w') :
    X34.j0 Q (some (at0 g 0)) v (i : Int) kp (n + 1) kc none 0 0 w := by
  have hgl := hb.lt
  have hkl := hkp.lt
  have hlv : vs.length = n := by have := hv.len; omega
  have hcv := hv.le
  have f0 : Fr [] w w.drew := Fr.drew
  -- the end: both rows are stored
  have fin : ∀ q c w', NR w w' 3 q (n + 1) c (vs.take i ++ .int .i64 v :: vs.drop i) → stK w' (at0 g 1) (.slice kp (n + 1) kc) (fun w18 => stK w18 (at0 g 2) (.slice q (n + 1) c) (fun w20 => Q (.bool true) w20)) := by
    intro q c w' h
    have hb1 := hb.keep' h.fr
    refine ⟨hb1.storeOk (by simp), ?_⟩
    have hb2 := hb1.set 1 (.slice kp (n + 1) kc)
    refine ⟨hb2.storeOk (by simp), ?_⟩
    have hb3 := hb2.set 2 (.slice q (n + 1) c)
    have f1 : Fr [g] w' ((w'.setCell (at0 g 1) (.slice kp (n + 1) kc)).setCell (at0 g 2) (.slice q (n + 1) c)) := (Fr.setCell (by simp [at0]) _).tr (Fr.setCell (by simp [at0]) _)
    refine hK q c _ hb3 (h.own.keep f1 (fun x hx hm => ?_)) h.new ((hkp.keep' h.fr).keep f1 (fun x hx hm => ?_)) (h.fr.any.tr f1)
    · have := h.new x hx; simp at hm; omega
    · simp at hm; subst hm; exact hgk hx
  have hvd := (cells_cut (hv.keep' f0) hi).2
  have e1 : ∀ q c (a b d : Nat) w', a + b + d = n + 1 → NR w w' 3 q (a + b + d) c ([] ++ vs.take i ++ [Value.int .i64 v] ++ vs.drop i) → NR w w' 3 q (n + 1) c (vs.take i ++ .int .i64 v :: vs.drop i) := by
    intro q c a b d w' h h'
    rw [h] at h'
    simpa using h'
  have nr0 : NR w w.drew 3 none 0 0 [] := ⟨Own.nil, by simp [fbl], f0⟩
  have hone : ∀ u ∈ [Value.int .i64 v], u.oneCell' = true := by simp [Value.oneCell']
  have hcell : ∀ {w'}, Fr [] w w' → w'.cell? (at0 g 2) = some (.slice pv n cv) := fun f => (hb.keep' f).cell rfl
  unfold X34.j0 drewK newK
  simp only [optP_some, add_at, Nat.zero_add, toNat0, cutAt_zero', Nat.sub_zero, Int.toNat_natCast]
  constructor
  · refine ld_sl (hcell f0) ⟨⟨by omega, by omega, by omega⟩, ?_⟩
    refine NR.app rowT23 (by omega) nr0 (cells_take (hv.keep' f0).cells i) (by simp; omega) (fun h => by subst h; have := hv.none_c; omega) (fun u hu => hv1 u (List.mem_of_mem_take hu)) (by omega) ?_
    intro q c w5 n5 k5
    refine ⟨_, _, _, rfl, ?_⟩
    have n8 := n5.keep (Fr.alloc w5 (.cells #[.int .i64 v] 3))
    have bv := Blk.made w5 #[.int .i64 v] 3
    refine ⟨⟨hcell n5.fr, hcell n8.fr⟩, ?_⟩
    refine NR.app rowT23 (by omega) n8 (us := [.int .i64 v]) (fun j u hj => ⟨_, rfl, ?_⟩) rfl (fun h => by cases h) hone (by omega) ?_
    · show World.cell? _ ((at0 w5.heap.size 0).add j) = some u
      rw [add_at, Nat.zero_add]; exact bv.cell hj
    intro q2 c2 w10 n10 _
    refine ⟨_, _, _, rfl, ld_sl (hcell n10.fr) ⟨⟨hcell n8.fr, hcell n10.fr⟩, ⟨hcell n5.fr, hcell n8.fr⟩, ⟨hcell f0, hcell n5.fr⟩, ⟨by omega, by omega, by omega⟩, ?_⟩⟩
    refine NR.app rowT23 (by omega) n10 (cells_cut (hv.keep' n10.fr) hi).1 (by simp; omega) (cells_cut hv hi).2 (fun u hu => hv1 u (List.mem_of_mem_drop hu)) (by omega) ?_
    intro q3 c3 w15 n15 _
    have := e1 q3 c3 _ _ _ w15 (by omega) n15
    refine ⟨_, _, _, rfl, ?_⟩
    rw [show 0 + i + 1 + (n - i) = n + 1 by omega]
    exact fin _ _ _ this
  · refine ld_sl (hcell f0) ⟨⟨by omega, by omega, by omega⟩, ?_⟩
    have nA := nr0.keep (Fr.alloc w.drew (.cells #[.int .i64 v] 3))
    have bv := Blk.made w.drew #[.int .i64 v] 3
    have fA := nA.fr
    refine ⟨⟨hcell f0, hcell fA⟩, ?_⟩
    refine NR.app rowT23 (by omega) nA (cells_take (hv.keep' fA).cells i) (by simp; omega) (fun h => by subst h; have := hv.none_c; omega) (fun u hu => hv1 u (List.mem_of_mem_take hu)) (by omega) ?_
    intro q c w5 n5 k5
    refine ⟨_, _, _, rfl, ?_⟩
    have bv' := bv.keep' k5
    refine NR.app rowT23 (by omega) n5 (us := [.int .i64 v]) (fun j u hj => ⟨_, rfl, ?_⟩) rfl (fun h => by cases h) hone (by omega) ?_
    · show World.cell? _ ((at0 w.drew.heap.size 0).add j) = some u
      rw [add_at, Nat.zero_add]; exact bv'.cell hj
    intro q2 c2 w10 n10 _
    refine ⟨_, _, _, rfl, ld_sl (hcell n10.fr) ⟨⟨hcell n5.fr, hcell n10.fr⟩, ⟨hcell fA, hcell n5.fr⟩, ⟨hcell f0, hcell fA⟩, ⟨by omega, by omega, by omega⟩, ?_⟩⟩
    refine NR.app rowT23 (by omega) n10 (cells_cut (hv.keep' n10.fr) hi).1 (by simp; omega) (cells_cut hv hi).2 (fun u hu => hv1 u (List.mem_of_mem_drop hu)) (by omega) ?_
    intro q3 c3 w15 n15 _
    have := e1 q3 c3 _ _ _ w15 (by omega) n15
    refine ⟨_, _, _, rfl, ?_⟩
    rw [show 0 + i + 1 + (n - i) = n + 1 by omega]
    exact fin _ _ _ this
theorem rput_spec {k v : Int} (h : Ref w g foot most l) (hm : most ≤ 4096)
    (hno : has ilt l k = false → most ≤ l.length → ∀ w', Fr [] w w' → Q (.bool false) w')
    (hK : (has ilt l k = true ∨ (l.length : Int) < most) → ∀ foot' w', Ref w' g foot' most (put ilt l k v) → Fr foot w w' → (∀ x ∈ foot', x ∈ foot ∨ w.heap.size ≤ x) → Q (.bool true) w') :
    CallR Try.prog 34 #[.pointer (some (at0 g 0)), .int .u64 k, .int .i64 v] w Q := by
  refine X34.sound _ _ _ _ _ (place_spec h fun w2 f2 => ⟨_, _, rfl, ?_⟩)
  obtain ⟨pk, pv, ck, cv, t⟩ := h
  have hal := at_le (lt := ilt) l k
  have hgl := t.blk.lt
  have hkl := t.ks.lt
  have hvl := t.vs.lt
  have s2 := f2.size
  have b2 := t.blk.keep' f2
  have ks2 := t.ks.keep' f2
  have vs2 := t.vs.keep' f2
  have htop := t.top
  simp only [optP_some, add_at, Nat.zero_add]
  refine bc_bool (fun hh => ?_) (fun hh => ?_)
  · have hlt := at_lt hh
    refine ld_sl (b2.cell rfl) ⟨⟨by omega, by omega⟩, ?_⟩
    cases pv with
    | none => have := vs2.none_c; omega
    | some p =>
      have hlen : (l.flatMap vc_UI).length = l.length * 1 := flat_length vc_len_UI l
      refine ⟨by rw [Int.toNat_natCast]; exact vs2.storeOk (by omega), ?_⟩
      rw [Int.toNat_natCast]
      have hset := vs2.set (i := at_ ilt l k * 1) (by omega) (Value.int .i64 v)
      rw [← fm_set_UI l _ k v] at hset
      have hf : Fr (fbl (some p)) w2 (w2.setCell (p.add (at_ ilt l k * 1)) (Value.int .i64 v)) := Fr.setCell (by simp [fbl, add_block]) _
      have hput : put ilt l k v = l.set (at_ ilt l k) (k, v) := by unfold put; rw [if_pos hh]
      have hkeys : keys (put ilt l k v) = keys l := by
        rw [hput, keys, List.map_set]
        simp only [has, decide_eq_true_eq] at hh
        obtain ⟨h1, h2⟩ := List.getElem?_eq_some_iff.1 hh
        have : ((k, v).1 : Int) = (keys l)[at_ ilt l k] := h2.symm
        rw [this, List.set_getElem_self]
      have hln : (put ilt l k v).length = l.length := by rw [hput, List.length_set]
      refine hK (.inl hh) _ _ ⟨pk, some p, ck, cv, ?_, ?_, ?_, rfl, t.gk, t.gv, t.kv, by rw [hkeys]; exact t.srt, by rw [hln]; exact t.top⟩ (f2.any.trans hf fun x hx => .inl (by rw [t.ft]; simp [hx])) (fun x hx => .inl (by rw [t.ft]; exact hx))
      · rw [hln]; exact b2.keep hf t.gv
      · show Own 36 1 _ pk (put ilt l k v).length ck ((keys (put ilt l k v)).map (Value.int .u64))
        rw [hln, hkeys]; exact ks2.keep hf t.kv
      · rw [hln, hput]; exact hset
  · unfold drewK newK
    have f3 : Fr [] w w2.drew := f2.tr Fr.drew
    have f4 : Fr [] w w2.drew.drew := f3.tr Fr.drew
    refine ld_sl ((t.blk.keep' f3).cell rfl) (ld_int ((t.blk.keep' f3).cell rfl) (bc_dec (fun hge => ?_) (fun hlt => ?_)))
    · exact hno hh (by omega) _ f3
    · have hput : put ilt l k v = l.take (at_ ilt l k) ++ (k, v) :: l.drop (at_ ilt l k) := by unfold put; rw [if_neg (by simp [hh])]
      have hln : (put ilt l k v).length = l.length + 1 := by rw [put_length, if_neg (by simp [hh])]
      have b4 := t.blk.keep' f4
      have ks4 := t.ks.keep' f4
      have kone : ∀ u ∈ ku l, u.oneCell' = true := km_one_UI _
      have hku : (ku l).length = l.length := by simp
      have s4 := f4.size
      generalize hw4 : w2.drew.drew = w4 at *
      generalize at_ ilt l k = i at *
      have hcell : ∀ {w'}, Fr [] w4 w' → w'.cell? (at0 g 1) = some (.slice pk l.length ck) := fun f => (b4.keep' f).cell rfl
      have hck := ks4.le
      have fin : ∀ q c w', NR w4 w' 36 q (l.length + 1) c ((ku l).take i ++ .int .u64 k :: (ku l).drop i) → X34.j0 Q (some (at0 g 0)) v (i : Int) q (l.length + 1) c none 0 0 w' := by
        intro q c w' n
        have f5 := f4.tr n.fr
        have s5 := f5.size
        have hgq : g ∉ fbl q := fun hx => by have := n.new _ hx; omega
        refine rput_j0 (t.blk.keep' f5) (t.vs.keep' f5) (fm_one_UI l) n.own hal (by omega) hgq ?_
        intro qv cv' w6 b6 v6 nv6 k6 f6
        have hkeys : ku (put ilt l k v) = (ku l).take i ++ .int .u64 k :: (ku l).drop i := by rw [hput]; simp [ku, keys, List.map_take, List.map_drop]
        have hvals : (put ilt l k v).flatMap vc_UI = (l.flatMap vc_UI).take i ++ .int .i64 v :: (l.flatMap vc_UI).drop i := by
          rw [hput, flat_ins vc_len_UI, Nat.mul_one]; simp [vc_UI]
        have hql : ∀ x ∈ fbl q, x < w'.heap.size := n.own.lt
        refine hK (.inr (by omega)) (g :: (fbl q ++ fbl qv)) w6 ⟨q, qv, c, cv', ?_, ?_, ?_, rfl, hgq, fun hx => ?_, fun x hx hy => ?_, put_srt ilt_lin t.srt, by rw [hln]; omega⟩ ?_ (fun x hx => ?_)
        · rw [hln]; exact b6
        · rw [hln, hkeys]; exact k6
        · rw [hln, hvals]; exact v6
        · have := nv6 _ hx; omega
        · have := nv6 _ hy; have := hql x hx; omega
        · rw [t.ft]; exact f5.any.trans f6 (fun x hx => .inl (by simp at hx; simp [hx]))
        · rw [t.ft]
          rcases List.mem_cons.1 hx with rfl | hx
          · exact .inl (by simp)
          · rcases List.mem_append.1 hx with hx | hx
            · have := n.new x hx; exact .inr (by omega)
            · have := nv6 x hx; exact .inr (by omega)
      have e1 : ∀ q c (a b d : Nat) w', a + b + d = l.length + 1 → NR w4 w' 36 q (a + b + d) c ([] ++ (ku l).take i ++ [Value.int .u64 k] ++ (ku l).drop i) → NR w4 w' 36 q (l.length + 1) c ((ku l).take i ++ .int .u64 k :: (ku l).drop i) := by
        intro q c a b d w' h h'
        rw [h] at h'
        simpa using h'
      have nr0 : NR w4 w4 36 none 0 0 [] := ⟨Own.nil, by simp [fbl], Fr.refl _⟩
      have hone : ∀ u ∈ [Value.int .u64 k], u.oneCell' = true := by simp [Value.oneCell']
      simp only [toNat0, cutAt_zero', Nat.sub_zero, Int.toNat_natCast]
      constructor
      · refine ld_sl (hcell (Fr.refl _)) ⟨⟨by omega, by omega, by omega⟩, ?_⟩
        refine NR.app rowT35 (by omega) nr0 (cells_take ks4.cells i) (by simp; omega) (fun h => by subst h; have := ks4.none_c; omega) (fun u hu => kone u (List.mem_of_mem_take hu)) (by omega) ?_
        intro q c w5 n5 k5
        refine ⟨_, _, _, rfl, ?_⟩
        have n8 := n5.keep (Fr.alloc w5 (.cells #[.int .u64 k] 36))
        have bv := Blk.made w5 #[.int .u64 k] 36
        refine ⟨⟨hcell n5.fr, hcell n8.fr⟩, ?_⟩
        refine NR.app rowT35 (by omega) n8 (us := [.int .u64 k]) (fun j u hj => ⟨_, rfl, ?_⟩) rfl (fun h => by cases h) hone (by omega) ?_
        · show World.cell? _ ((at0 w5.heap.size 0).add j) = some u
          rw [add_at, Nat.zero_add]; exact bv.cell hj
        intro q2 c2 w10 n10 _
        refine ⟨_, _, _, rfl, ld_sl (hcell n10.fr) ⟨⟨hcell n8.fr, hcell n10.fr⟩, ⟨hcell n5.fr, hcell n8.fr⟩, ⟨hcell (Fr.refl _), hcell n5.fr⟩, ⟨by omega, by omega, by omega⟩, ?_⟩⟩
        refine NR.app rowT35 (by omega) n10 (cells_cut (ks4.keep' n10.fr) hal).1 (by simp) (cells_cut ks4 hal).2 (fun u hu => kone u (List.mem_of_mem_drop hu)) (by omega) ?_
        intro q3 c3 w15 n15 _
        have := e1 q3 c3 _ _ _ w15 (by omega) n15
        refine ⟨_, _, _, rfl, ?_⟩
        rw [show 0 + i + 1 + (l.length - i) = l.length + 1 by omega]
        exact fin _ _ _ this
      · refine ld_sl (hcell (Fr.refl _)) ⟨⟨by omega, by omega, by omega⟩, ?_⟩
        have nA := nr0.keep (Fr.alloc w4 (.cells #[.int .u64 k] 36))
        have bv := Blk.made w4 #[.int .u64 k] 36
        have fA := nA.fr
        refine ⟨⟨hcell (Fr.refl _), hcell fA⟩, ?_⟩
        refine NR.app rowT35 (by omega) nA (cells_take (ks4.keep' fA).cells i) (by simp; omega) (fun h => by subst h; have := ks4.none_c; omega) (fun u hu => kone u (List.mem_of_mem_take hu)) (by omega) ?_
        intro q c w5 n5 k5
        refine ⟨_, _, _, rfl, ?_⟩
        have bv' := bv.keep' k5
        refine NR.app rowT35 (by omega) n5 (us := [.int .u64 k]) (fun j u hj => ⟨_, rfl, ?_⟩) rfl (fun h => by cases h) hone (by omega) ?_
        · show World.cell? _ ((at0 w4.heap.size 0).add j) = some u
          rw [add_at, Nat.zero_add]; exact bv'.cell hj
        intro q2 c2 w10 n10 _
        refine ⟨_, _, _, rfl, ld_sl (hcell n10.fr) ⟨⟨hcell n5.fr, hcell n10.fr⟩, ⟨hcell fA, hcell n5.fr⟩, ⟨hcell (Fr.refl _), hcell fA⟩, ⟨by omega, by omega, by omega⟩, ?_⟩⟩
        refine NR.app rowT35 (by omega) n10 (cells_cut (ks4.keep' n10.fr) hal).1 (by simp) (cells_cut ks4 hal).2 (fun u hu => kone u (List.mem_of_mem_drop hu)) (by omega) ?_
        intro q3 c3 w15 n15 _
        have := e1 q3 c3 _ _ _ w15 (by omega) n15
        refine ⟨_, _, _, rfl, ?_⟩
        rw [show 0 + i + 1 + (l.length - i) = l.length + 1 by omega]
        exact fin _ _ _ this
theorem rdrop_spec {k : Int} (h : Ref w g foot most l)
    (hK : ∀ foot' w', Ref w' g foot' most (drp ilt l k) → Fr foot w w' → (∀ x ∈ foot', x ∈ foot ∨ w.heap.size ≤ x) → Q (.bool (has ilt l k)) w') :
    CallR Try.prog 28 #[.pointer (some (at0 g 0)), .int .u64 k] w Q := by
  have h0 := h
  refine X28.sound _ _ _ _ (place_spec h fun w2 f2 => ⟨_, _, rfl, ?_⟩)
  obtain ⟨pk, pv, ck, cv, t⟩ := h
  have hal := at_le (lt := ilt) l k
  have hgl := t.blk.lt
  have hkl := t.ks.lt
  have hvl := t.vs.lt
  have s2 := f2.size
  have htop := t.top
  simp only [optP_some, add_at, Nat.zero_add]
  refine bc_bool (fun hh => ?_) (fun hh => ?_)
  · have hlt := at_lt hh
    have hd : drp ilt l k = l.take (at_ ilt l k) ++ l.drop (at_ ilt l k + 1) := by unfold drp; rw [if_pos hh]
    have hln : (drp ilt l k).length = l.length - 1 := by rw [drp_length, if_pos hh]
    rw [hh] at hK ⊢
    unfold drewK newK
    have f4 : Fr [] w w2.drew := f2.tr Fr.drew
    have b4 := t.blk.keep' f4
    have ks4 := t.ks.keep' f4
    have vs4 := t.vs.keep' f4
    have kone : ∀ u ∈ ku l, u.oneCell' = true := km_one_UI _
    have vone : ∀ u ∈ l.flatMap vc_UI, u.oneCell' = true := fm_one_UI _
    have hku : (ku l).length = l.length := by simp
    have hvu : (l.flatMap vc_UI).length = l.length := by rw [flat_length vc_len_UI, Nat.mul_one]
    have s4 := f4.size
    generalize hw4 : w2.drew = w4 at *
    generalize at_ ilt l k = i at *
    have hck := ks4.le
    have hcv := vs4.le
    have e2 : IntKind.wrap .i64 ((i : Int) + 1) = ((i + 1 : Nat) : Int) := by rw [i64w _ (by omega) (by omega)]; omega
    simp only [toNat0, cutAt_zero', Nat.sub_zero, Int.toNat_natCast, e2]
    have hcell : ∀ {w'}, Fr [] w4 w' → w'.cell? (at0 g 1) = some (.slice pk l.length ck) := fun f => (b4.keep' f).cell rfl
    have n0 : NR w4 (w4.alloc (.cells #[] 36)) 36 (some ⟨w4.heap.size, 0, none⟩) 0 0 [] := ⟨Own.made (w := w4) (e := 36) (sz := 1) #[] 0 (Nat.zero_le _) rfl, by simp [fbl], Fr.alloc _ _⟩
    refine ld_sl (hcell n0.fr) ⟨⟨hcell (Fr.refl _), hcell n0.fr⟩, ⟨by omega, by omega, by omega⟩, ?_⟩
    refine NR.app rowT35 (by omega) n0 (cells_take (ks4.keep' n0.fr).cells i) (by simp; omega) (fun h => by subst h; have := ks4.none_c; omega) (fun u hu => kone u (List.mem_of_mem_take hu)) (by omega) ?_
    intro q c w11 n11 _
    refine ⟨_, _, _, rfl, ld_sl (hcell n11.fr) ⟨⟨hcell n0.fr, hcell n11.fr⟩, ⟨hcell (Fr.refl _), hcell n0.fr⟩, ⟨by omega, by omega, by omega⟩, ?_⟩⟩
    refine NR.app rowT35 (by omega) n11 (cells_cut (i := i + 1) (ks4.keep' n11.fr) (by omega)).1 (by simp) (cells_cut (i := i + 1) ks4 (by omega)).2 (fun u hu => kone u (List.mem_of_mem_drop hu)) (by omega) ?_
    intro q2 c2 w16 n16 _
    refine ⟨_, _, _, rfl, ?_⟩
    have hk16 : Own 36 1 w16 q2 (l.length - 1) c2 (ku (drp ilt l k)) := by
      have := n16.own
      rw [show 0 + i + (l.length - (i + 1)) = l.length - 1 by omega] at this
      have e : ku (drp ilt l k) = [] ++ (ku l).take i ++ (ku l).drop (i + 1) := by rw [hd]; simp [ku, keys, List.map_take, List.map_drop]
      rw [e]; exact this
    rw [show 0 + i + (l.length - (i + 1)) = l.length - 1 by omega]
    have b16 := b4.keep' n16.fr
    refine ⟨b16.storeOk (by simp), ?_⟩
    have b19 := b16.set 1 (.slice q2 (l.length - 1) c2)
    have f19 : Fr [g] w16 (w16.setCell (at0 g 1) (.slice q2 (l.length - 1) c2)) := Fr.setCell (by simp [at0]) _
    have s16 := n16.fr.size
    have hgq : g ∉ fbl q2 := fun hx => by have := n16.new _ hx; omega
    have k19 := hk16.keep f19 (fun x hx hm => hgq (by simp at hm; rwa [← hm]))
    have v19 := (vs4.keep' n16.fr).keep f19 (fun x hx hm => t.gv (by simp at hm; rwa [← hm]))
    have fr19 : Fr [g] w4 (w16.setCell (at0 g 1) (.slice q2 (l.length - 1) c2)) := n16.fr.any.tr f19
    have new2 := n16.new
    clear n16 n11 n0
    have fr20 : Fr [g] w4 (w16.setCell (at0 g 1) (.slice q2 (l.length - 1) c2)).drew := fr19.tr Fr.drew
    have b20 := b19.keep' (Fr.drew (S := []))
    have k20 := k19.keep' (Fr.drew (S := []))
    have v20 := v19.keep' (Fr.drew (S := []))
    dsimp only
    generalize (w16.setCell (at0 g 1) (.slice q2 (l.length - 1) c2)).drew = w20 at *
    have s20 := fr20.size
    have hcell2 : ∀ {w'}, Fr [] w20 w' → w'.cell? (at0 g 2) = some (.slice pv l.length cv) := fun f => (b20.keep' f).cell rfl
    have m0 : NR w20 (w20.alloc (.cells #[] 3)) 3 (some ⟨w20.heap.size, 0, none⟩) 0 0 [] := ⟨Own.made (w := w20) (e := 3) (sz := 1) #[] 0 (Nat.zero_le _) rfl, by simp [fbl], Fr.alloc _ _⟩
    refine ld_sl (hcell2 m0.fr) ⟨⟨hcell2 (Fr.refl _), hcell2 m0.fr⟩, ⟨by omega, by omega, by omega⟩, ?_⟩
    refine NR.app rowT23 (by omega) m0 (cells_take (v20.keep' m0.fr).cells i) (by simp [hvu]; omega) (fun h => by subst h; have := v20.none_c; omega) (fun u hu => vone u (List.mem_of_mem_take hu)) (by omega) ?_
    intro r d w26 m26 _
    refine ⟨_, _, _, rfl, ld_sl (hcell2 m26.fr) ⟨⟨hcell2 m0.fr, hcell2 m26.fr⟩, ⟨hcell2 (Fr.refl _), hcell2 m0.fr⟩, ⟨by omega, by omega, by omega⟩, ?_⟩⟩
    refine NR.app rowT23 (by omega) m26 (cells_cut (i := i + 1) (v20.keep' m26.fr) (by omega)).1 (by simp [hvu]) (cells_cut (i := i + 1) v20 (by omega)).2 (fun u hu => vone u (List.mem_of_mem_drop hu)) (by omega) ?_
    intro r2 d2 w31 m31 _
    refine ⟨_, _, _, rfl, ?_⟩
    have hv31 : Own 3 1 w31 r2 (l.length - 1) d2 ((drp ilt l k).flatMap vc_UI) := by
      have := m31.own
      rw [show 0 + i + (l.length - (i + 1)) = l.length - 1 by omega] at this
      have e : (drp ilt l k).flatMap vc_UI = [] ++ (l.flatMap vc_UI).take i ++ (l.flatMap vc_UI).drop (i + 1) := by rw [hd, flat_del vc_len_UI, Nat.mul_one, Nat.mul_one, List.nil_append]
      rw [e]; exact this
    rw [show 0 + i + (l.length - (i + 1)) = l.length - 1 by omega]
    have b31 := b20.keep' m31.fr
    have k31 := k20.keep' m31.fr
    have s31 := m31.fr.size
    refine ⟨b31.storeOk (by simp), ?_⟩
    have b34 := b31.set 2 (.slice r2 (l.length - 1) d2)
    have f34 : Fr [g] w31 (w31.setCell (at0 g 2) (.slice r2 (l.length - 1) d2)) := Fr.setCell (by simp [at0]) _
    have hgr : g ∉ fbl r2 := fun hx => by have := m31.new _ hx; omega
    have k34 := k31.keep f34 (fun x hx hm => hgq (by simp at hm; rwa [← hm]))
    have v34 := hv31.keep f34 (fun x hx hm => hgr (by simp at hm; rwa [← hm]))
    have hkl20 := k20.lt
    have mnew := m31.new
    refine hK (g :: (fbl q2 ++ fbl r2)) _ ⟨q2, r2, c2, d2, ?_, ?_, ?_, rfl, hgq, hgr, fun x hx hy => ?_, drp_srt ilt_lin t.srt, by rw [hln]; omega⟩ ?_ (fun x hx => ?_)
    · rw [hln]; exact b34
    · rw [hln]; exact k34
    · rw [hln]; exact v34
    · have h1 := hkl20 x hx
      have h2 := mnew x hy
      omega
    · rw [t.ft]
      exact (((f4.any.trans fr20 (fun x hx => .inl (by simp at hx; simp [hx]))).tr m31.fr.any).trans f34 (fun x hx => .inl (by simp at hx; simp [hx])))
    · rw [t.ft]
      rcases List.mem_cons.1 hx with rfl | hx
      · exact .inl (by simp)
      · rcases List.mem_append.1 hx with hx | hx
        · have := new2 x hx; exact .inr (by omega)
        · have := mnew x hx; exact .inr (by omega)
  · have hd : drp ilt l k = l := by unfold drp; rw [if_neg (by simp [hh])]
    rw [hd] at hK
    rw [hh] at hK ⊢
    exact hK foot w2 (h0.keep' f2) f2.any (fun x hx => .inl hx)
end
end Go.Proofs.YtbgebldhpbnacaaX
