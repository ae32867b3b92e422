/- Want, May, New. -/
import Derived.Test.YtglininpmfgggaaL18Get
namespace Go.Proofs.YtglininpmfgggaaX
open Go.RowKit
set_option linter.unusedVariables false
set_option linter.unusedSimpArgs false
set_option maxRecDepth 100000
section
variable {w w' W : World} {Q : Value → World → Prop} {g gt : Nat} {ft : List Nat} {S : Sn} {nd sr now voucher : Int} {s : Stb} {c : Cfg}
theorem Aft.then {v : Value} (h : Aft w g gt ft S v Q) (f : Fr (g :: ft) w w') : Aft w' g gt ft S v Q := fun ft' w2 t f2 e => h ft' w2 t (f.tr f2) (fun x hx => by
  have := f.size
  rcases e x hx with h | h
  · exact .inl h
  · exact .inr (by omega))
theorem PTa.stseq {v : Int} {K : World → Prop} (t : PTa w g gt ft S) (hK : ∀ w', PTa w' g gt ft { S with seq := v } → Fr [g] w w' → K w') : stK w ((at0 g 0).add 24) (.int .u64 v) K :=
  stB t.blk (by show 24 < 27; omega) fun w' b f => hK w' ⟨b, t.tab.keep f (fun x hx hm => t.gn (by simp at hm; rwa [← hm])), t.gn⟩ f
theorem PTa.stlast {v : Int} {K : World → Prop} (t : PTa w g gt ft S) (hK : ∀ w', PTa w' g gt ft { S with last := v } → Fr [g] w w' → K w') : stK w ((at0 g 0).add 26) (.int .u64 v) K :=
  stB t.blk (by show 26 < 27; omega) fun w' b f => hK w' ⟨b, t.tab.keep f (fun x hx hm => t.gn (by simp at hm; rwa [← hm])), t.gn⟩ f
def idcs (nd sr : Int) : List Value := [.int .i64 nd, .int .u64 sr]
theorem want_j0 {gx : Nat} (t : PTa w g gt ft S) (b : Blk w gx (idcs nd sr) 40) (hx : gx ∉ g :: ft) (hs : S.seq ≠ 72057594037927935) (F : Fr [] W w)
    (hK : Aft W g gt ft (freshS S nd sr voucher now).1 (.tuple #[.int .i64 (freshS S nd sr voucher now).2.1, .int .i64 (freshS S nd sr voucher now).2.2]) Q) : X15.j0 Q (some (at0 g 0)) voucher now (at0 gx 0) w := by
  unfold X15.j0
  unfold freshS at hK
  rw [if_neg hs] at hK
  simp only [optP_some]
  refine ld_int (t.blk.cat 24 _ rfl) (t.stseq fun w4 t4 f4 => drawn fun w5 f5 _ => ?_)
  have t5 := t4.keep' f5
  have b5 := (b.keep f4 (fun hm => hx (by simp at hm; simp [hm]))).keep' f5
  refine ld_int (b5.cat 0 _ rfl) (ld_int (b5.cat 1 _ rfl) (ld_int (t5.blk.cat 24 _ rfl) ?_))
  refine put_spec (s := ⟨nd, sr, 1, IntKind.wrap .u64 (S.seq + 1), voucher, now, now, 0, 1⟩) t5 ?_
  intro ft' w11 t11 f11 e11
  have f05 : Fr (g :: ft) W w5 := (F.any.inl f4 (by simp)).tr f5.any
  exact ⟨rfl, (hK.then f05) ft' w11 t11 f11 e11⟩
theorem want_j1 {gx : Nat} {ok : Bool} (t : PTa w g gt ft S) (b : Blk w gx (idcs nd sr) 40) (hx : gx ∉ g :: ft) (F : Fr [] W w)
    (hf : ok = false → (S.l.length : Int) ≥ S.c.stubs → Aft W g gt ft S (.tuple #[.int .i64 0, .int .i64 6]) Q)
    (hK : (ok = false → ¬ (S.l.length : Int) ≥ S.c.stubs) → Aft W g gt ft (freshS S nd sr voucher now).1 (.tuple #[.int .i64 (freshS S nd sr voucher now).2.1, .int .i64 (freshS S nd sr voucher now).2.2]) Q) : X15.j1 Q (some (at0 g 0)) voucher now (at0 gx 0) ok w := by
  unfold X15.j1
  simp only [optP_some]
  refine drawn fun w1 f1 _ => ?_
  have t1 := t.keep' f1
  have b1 := b.keep' f1
  have F1 := F.tr f1
  have fin : (ok = false → ¬ (S.l.length : Int) ≥ S.c.stubs) → ldI .u64 w1 ((at0 g 0).add 24) fun x10 => bcase (x10 == (72057594037927935 : Int)) (Q (.tuple #[.int .i64 0, .int .i64 7]) w1) (X15.j0 Q (some (at0 g 0)) voucher now (at0 gx 0) w1) := by
    intro hn
    have hk := hK hn
    refine ld_int (t1.blk.cat 24 _ rfl) (bc_eq (fun h => ?_) (fun h => want_j0 t1 b1 hx h F1 hk))
    have hk' := hk.then F1.any
    unfold freshS at hk'
    rw [if_pos h] at hk'
    exact hk'.same t1 (Fr.refl _)
  refine bc_bool (fun h => ?_) (fun h => fin (fun h2 => by rw [h2] at h; cases h))
  have hok : ok = false := by simpa using h
  refine ld_ptr (t1.blk.cat 0 _ rfl) (len_SB t1.tab ⟨_, rfl, ld_int (t1.blk.cat.sub 1 5 rfl) ⟨⟨t1.blk.cat.sub 1 5 rfl, t1.blk.cat.sub 1 5 rfl⟩, bc_dec (fun h2 => ((hf hok h2).then F1.any).same t1 (Fr.refl _)) (fun h2 => fin (fun _ => h2))⟩⟩)
theorem want_j2 {gx gs : Nat} {ok : Bool} (t : PTa w g gt ft S) (b : Blk w gx (idcs nd sr) 40) (hx : gx ∉ g :: ft) (bs : Blk w gs s.cells 51) (hgs : gs ∉ g :: ft) (F : Fr [] W w) (hgW : W.heap.size ≤ gs)
    (hok : get ilt S.l (keyOf nd sr) = if ok then some s else none) (hfar : farB S nd sr = true) (hv1 : ¬ voucher < 1) (hv2 : ¬ voucher > S.c.nodes)
    (hK : Aft W g gt ft (wantS S nd sr voucher now).1 (.tuple #[.int .i64 (wantS S nd sr voucher now).2.1, .int .i64 (wantS S nd sr voucher now).2.2]) Q) : X15.j2 Q (some (at0 g 0)) voucher now (at0 gx 0) (at0 gs 0) ok w := by
  unfold X15.j2
  unfold wantS at hK
  rw [if_neg (by simp [hfar]; omega), hok] at hK
  cases ok with
  | false =>
    simp only [Bool.false_eq_true, if_false] at hK
    refine bc_bool (fun h => by cases h) (fun _ => want_j1 t b hx F (fun _ h2 => ?_) (fun h2 => ?_))
    · rw [if_pos h2] at hK; exact hK
    · rw [if_neg (h2 rfl)] at hK; exact hK
  | true =>
    simp only [if_true] at hK
    refine bc_bool (fun _ => ld_int (bs.cat 2 _ rfl) (bc_ne (fun h3 => ?_) (fun h3 => ?_))) (fun h => by cases h)
    · rw [if_pos h3] at hK
      refine ld_Stb (s := s) bs.cat (lapsed_spec t fun w12 f12 => ⟨_, rfl, ?_⟩)
      have t12 := t.keep' f12
      have b12 := bs.keep' f12
      refine bc_bool (fun hl => ?_) (fun hl => ?_)
      · rw [if_pos hl] at hK
        refine stB b12 (by rw [s.len]; omega) fun w14 b14 f14 => ?_
        have t14 := t12.keep f14 (fun x hx hm => hgs (by simp at hm; rwa [← hm]))
        refine ld_Stb (s := { s with state := 4 }) b14.cat (put_spec (s := { s with state := 4 }) t14 ?_)
        intro ft' w25 t25 f25 e25
        have b25 := b14.keep f25 hgs
        have F14 : Fr [] W w14 := (F.tr f12).loc f14 hgW
        exact ⟨rfl, ld_int (b25.cat 2 _ rfl) ((hK.then F14.any) ft' w25 t25 f25 e25)⟩
      · rw [if_neg (by simp [hl])] at hK
        exact ld_int (b12.cat 2 _ rfl) ((hK.then (F.tr f12).any).same t12 (Fr.refl _))
    · rw [if_neg (by simp [h3])] at hK
      exact want_j1 t b hx F (fun h => by cases h) (fun _ => hK)
theorem get_if {α : Type} (o : Option α) (z : α) : o = if o.isSome then some (o.getD z) else none := by cases o <;> rfl
theorem want_spec (t : PTa w g gt ft S)
    (hK : Aft w g gt ft (wantS S nd sr voucher now).1 (.tuple #[.int .i64 (wantS S nd sr voucher now).2.1, .int .i64 (wantS S nd sr voucher now).2.2]) Q) :
    CallR Try.prog 15 #[.pointer (some (at0 g 0)), .agg #[.int .i64 nd, .int .u64 sr], .int .i64 voucher, .int .u64 now] w Q := by
  apply X15.sound
  unfold X15.f
  simp only [optP_some]
  have hlt := t.lt
  refine newB fun gx w2 b f2 hgx => ld_int (b.cat 0 _ rfl) (ld_int (b.cat 1 _ rfl) (far_spec (t.keep' f2) fun w6 f6 => ⟨_, rfl, ?_⟩))
  have F6 := f2.tr f6
  have t6 := t.keep' F6
  have b6 := b.keep' f6
  have bad : (farB S nd sr = false ∨ voucher < 1 ∨ voucher > S.c.nodes) → Q (.tuple #[.int .i64 0, .int .i64 1]) w6 := fun h => by
    unfold wantS at hK
    rw [if_pos h] at hK
    exact hK.same t F6
  refine bc_bool (fun h => bad (.inl (by simpa using h))) (fun h => bc_dec (fun h1 => bad (.inr (.inl h1))) (fun h1 => ld_int (t6.blk.cat.sub 1 0 rfl) (bc_dec (fun h2 => bad (.inr (.inr h2))) (fun h2 => ?_))))
  have hfar : farB S nd sr = true := by simpa using h
  unfold X15.j3
  simp only [optP_some]
  refine drawn fun w1 f1 _ => ?_
  have F1 := F6.tr f1
  have t1 := t6.keep' f1
  have b1 := b6.keep' f1
  have hxn : gx ∉ g :: ft := fun hm => by have := hlt gx hm; omega
  have sz1 := F1.size
  have fin : ∀ {w27 : World} {gs : Nat}, Blk w27 gs ((get ilt S.l (keyOf nd sr)).getD sZero).cells 51 → Fr [] w1 w27 → w.heap.size ≤ gs → X15.j2 Q (some (at0 g 0)) voucher now (at0 gx 0) (at0 gs 0) (get ilt S.l (keyOf nd sr)).isSome w27 := fun bs f27 hgs =>
    want_j2 (t1.keep' f27) (b1.keep' f27) hxn bs (fun hm => by have := hlt _ hm; omega) (F1.tr f27) hgs (get_if _ _) hfar h1 h2 hK
  refine ⟨?_, ?_, ?_⟩
  · refine ld_ptr (t1.blk.cat 0 _ rfl) (ld_int (b1.cat 0 _ rfl) (ld_int (b1.cat 1 _ rfl) (key_spec fun w11 f11 => ⟨_, rfl, ⟨t1.blk.cat 0 _ rfl, (t1.keep' f11).blk.cat 0 _ rfl⟩, ?_⟩)))
    refine getT_spec (t1.keep' f11).tab fun w14 f14 => ⟨_, _, _, _, _, _, _, _, _, _, rfl, newB fun g25 w26 b26 f26 h26 => ?_⟩
    have f114 := f11.tr f14
    have f126 := f114.tr f26
    refine ⟨⟨(b1.keep' f114).cat, (b1.keep' f126).cat⟩, ⟨(t1.keep' f114).blk.cat 0 _ rfl, (t1.keep' f126).blk.cat 0 _ rfl⟩, stAllB (vs := ((get ilt S.l (keyOf nd sr)).getD sZero).cells) b26 rfl fun w27 b27 f27 => ?_⟩
    have := f114.size
    exact fin b27 (f126.loc f27 (by omega)) (by omega)
  · refine ld_ptr (t1.blk.cat 0 _ rfl) (ld_int (b1.cat 0 _ rfl) (ld_int (b1.cat 1 _ rfl) (key_spec fun w11 f11 => ⟨_, rfl, ⟨t1.blk.cat 0 _ rfl, (t1.keep' f11).blk.cat 0 _ rfl⟩, ?_⟩)))
    refine newB fun g25 w26 b26 f26 h26 => ?_
    have f126 := f11.tr f26
    have := f11.size
    refine ⟨⟨(b1.keep' f11).cat, (b1.keep' f126).cat⟩, ⟨(t1.keep' f11).blk.cat 0 _ rfl, (t1.keep' f126).blk.cat 0 _ rfl⟩, getT_spec (t1.keep' f126).tab fun w14 f14 => ⟨_, _, _, _, _, _, _, _, _, _, rfl, stAllB (vs := ((get ilt S.l (keyOf nd sr)).getD sZero).cells) (b26.keep' f14) rfl fun w27 b27 f27 => ?_⟩⟩
    exact fin b27 ((f126.tr f14).loc f27 (by omega)) (by omega)
  · refine ld_ptr (t1.blk.cat 0 _ rfl) (ld_int (b1.cat 0 _ rfl) (ld_int (b1.cat 1 _ rfl) (newB fun g25 w26 b26 f26 h26 => ?_)))
    refine ⟨⟨b1.cat, (b1.keep' f26).cat⟩, ⟨t1.blk.cat 0 _ rfl, (t1.keep' f26).blk.cat 0 _ rfl⟩, key_spec fun w11 f11 => ⟨_, rfl, ⟨(t1.keep' f26).blk.cat 0 _ rfl, (t1.keep' (f26.tr f11)).blk.cat 0 _ rfl⟩, ?_⟩⟩
    have f126 := f26.tr f11
    refine getT_spec (t1.keep' f126).tab fun w14 f14 => ⟨_, _, _, _, _, _, _, _, _, _, rfl, stAllB (vs := ((get ilt S.l (keyOf nd sr)).getD sZero).cells) (b26.keep' (f11.tr f14)) rfl fun w27 b27 f27 => ?_⟩
    exact fin b27 ((f126.tr f14).loc f27 (by omega)) (by omega)
end
end Go.Proofs.YtglininpmfgggaaX
