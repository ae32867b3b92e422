/- Get, State, dirty, sent, heard. -/
import Derived.Test.YtglininpmfgggaaL18Base
namespace Go.Proofs.YtglininpmfgggaaX
open Go.RowKit
set_option linter.unusedVariables false
set_option linter.unusedSimpArgs false
set_option maxRecDepth 100000
theorem isS40 : isStruct Try.prog 40 := ⟨_, Try.underlying40⟩
theorem isS51 : isStruct Try.prog 51 := ⟨_, Try.underlying51⟩
section
variable {w w' W : World} {Q : Value → World → Prop} {g gt : Nat} {ft : List Nat} {S : Sn} {nd sr now : Int} {s : Stb}
theorem getS_eq (S : Sn) (nd sr : Int) : getS S nd sr = if (get ilt S.l (keyOf nd sr)).isSome = true ∧ ((get ilt S.l (keyOf nd sr)).getD sZero).nd = nd ∧ ((get ilt S.l (keyOf nd sr)).getD sZero).sr = sr then some ((get ilt S.l (keyOf nd sr)).getD sZero) else none := by
  unfold getS
  cases get ilt S.l (keyOf nd sr) with
  | none => simp
  | some s => simp
theorem get_spec (t : PTa w g gt ft S) (hQ : ∀ w', Fr [] w w' → Q (.tuple #[((getS S nd sr).getD sZero).val, .bool (getS S nd sr).isSome]) w') : CallR Try.prog 48 #[.pointer (some (at0 g 0)), .agg #[.int .i64 nd, .int .u64 sr]] w Q := by
  apply X48.sound
  unfold X48.f
  simp only [optP_some]
  rw [getS_eq] at hQ
  refine newB fun g1 w2 b1 f2 h1 => newB fun g3 w4 b3 f4 h3 => drawn fun w5 f5 _ => ?_
  have f05 := (f2.tr f4).tr f5
  have t5 := t.keep' f05
  have b1 := b1.keep' (f4.tr f5)
  have b3 := b3.keep' f5
  have s5 := f05.size
  have s2 := f2.size
  have l3 := b3.lt
  have l1 := b1.lt
  have tail : ∀ {w27 : World} {g25 : Nat} {e : TypeId} {ok : Bool} {s : Stb}, Blk w27 g25 s.cells 51 → Fr [] w5 w27 → ok = (get ilt S.l (keyOf nd sr)).isSome → s = (get ilt S.l (keyOf nd sr)).getD sZero →
      bcase (!ok) (stAll w27 (at0 g3 0) sZero.cells fun w28 => ldI .i64 w28 ((at0 g3 0).add 0) fun x29 => ldI .u64 w28 ((at0 g3 0).add 1) fun x30 => ldI .i64 w28 ((at0 g3 0).add 2) fun x31 => ldI .u64 w28 ((at0 g3 0).add 3) fun x32 => ldI .i64 w28 ((at0 g3 0).add 4) fun x33 => ldI .u64 w28 ((at0 g3 0).add 5) fun x34 => ldI .u64 w28 ((at0 g3 0).add 6) fun x35 => ldI .u64 w28 ((at0 g3 0).add 7) fun x36 => ldI .i64 w28 ((at0 g3 0).add 8) fun x37 => Q (.tuple #[.agg #[.int .i64 x29, .int .u64 x30, .int .i64 x31, .int .u64 x32, .int .i64 x33, .int .u64 x34, .int .u64 x35, .int .u64 x36, .int .i64 x37], .bool false]) w28)
        (ldI .i64 w27 (((at0 g25 0).add 0).add 0) fun x38 => ldI .u64 w27 (((at0 g25 0).add 0).add 1) fun x39 => ldI .i64 w27 ((at0 g1 0).add 0) fun x40 => ldI .u64 w27 ((at0 g1 0).add 1) fun x41 => isStruct Try.prog 40 ∧ bcase (!((x38 == x40) && ((x39 == x41) && true))) (stAll w27 (at0 g3 0) sZero.cells fun w42 => ldI .i64 w42 ((at0 g3 0).add 0) fun x29 => ldI .u64 w42 ((at0 g3 0).add 1) fun x30 => ldI .i64 w42 ((at0 g3 0).add 2) fun x31 => ldI .u64 w42 ((at0 g3 0).add 3) fun x32 => ldI .i64 w42 ((at0 g3 0).add 4) fun x33 => ldI .u64 w42 ((at0 g3 0).add 5) fun x34 => ldI .u64 w42 ((at0 g3 0).add 6) fun x35 => ldI .u64 w42 ((at0 g3 0).add 7) fun x36 => ldI .i64 w42 ((at0 g3 0).add 8) fun x37 => Q (.tuple #[.agg #[.int .i64 x29, .int .u64 x30, .int .i64 x31, .int .u64 x32, .int .i64 x33, .int .u64 x34, .int .u64 x35, .int .u64 x36, .int .i64 x37], .bool false]) w42)
          (ldI .i64 w27 ((at0 g25 0).add 0) fun x52 => ldI .u64 w27 ((at0 g25 0).add 1) fun x53 => ldI .i64 w27 ((at0 g25 0).add 2) fun x54 => ldI .u64 w27 ((at0 g25 0).add 3) fun x55 => ldI .i64 w27 ((at0 g25 0).add 4) fun x56 => ldI .u64 w27 ((at0 g25 0).add 5) fun x57 => ldI .u64 w27 ((at0 g25 0).add 6) fun x58 => ldI .u64 w27 ((at0 g25 0).add 7) fun x59 => ldI .i64 w27 ((at0 g25 0).add 8) fun x60 => stAll w27 (at0 g3 0) [.int .i64 x52, .int .u64 x53, .int .i64 x54, .int .u64 x55, .int .i64 x56, .int .u64 x57, .int .u64 x58, .int .u64 x59, .int .i64 x60] fun w61 => ldI .i64 w61 ((at0 g3 0).add 0) fun x29 => ldI .u64 w61 ((at0 g3 0).add 1) fun x30 => ldI .i64 w61 ((at0 g3 0).add 2) fun x31 => ldI .u64 w61 ((at0 g3 0).add 3) fun x32 => ldI .i64 w61 ((at0 g3 0).add 4) fun x33 => ldI .u64 w61 ((at0 g3 0).add 5) fun x34 => ldI .u64 w61 ((at0 g3 0).add 6) fun x35 => ldI .u64 w61 ((at0 g3 0).add 7) fun x36 => ldI .i64 w61 ((at0 g3 0).add 8) fun x37 => Q (.tuple #[.agg #[.int .i64 x29, .int .u64 x30, .int .i64 x31, .int .u64 x32, .int .i64 x33, .int .u64 x34, .int .u64 x35, .int .u64 x36, .int .i64 x37], .bool true]) w61)) := by
    intro w27 g25 e ok s b25 f27 hok hs
    have b3' := b3.keep' f27
    have b1' := b1.keep' f27
    have f027 := f05.tr f27
    refine bc_bool (fun h => stAllB b3' rfl fun w28 b28 f28 => ld_Stb (s := sZero) b28.cat ?_) (fun h => ?_)
    · have hq := hQ w28 (f027.loc f28 (by omega))
      rw [if_neg (by rw [← hok]; simp at h; simp [h])] at hq
      exact hq
    · have hok1 : ok = true := by simpa using h
      refine ld_int (b25.cat.sub 0 0 rfl) (ld_int (b25.cat.sub 0 1 rfl) (ld_int (b1'.cat 0 _ rfl) (ld_int (b1'.cat 1 _ rfl) ⟨isS40, bc_bool (fun h => stAllB b3' rfl fun w28 b28 f28 => ld_Stb (s := sZero) b28.cat ?_) (fun h => ?_)⟩)))
      · have hq := hQ w28 (f027.loc f28 (by omega))
        rw [if_neg (fun hh => by rw [← hs] at hh; simp [hh.2.1, hh.2.2] at h)] at hq
        exact hq
      · refine ld_Stb (s := s) b25.cat (stAllB b3' rfl fun w28 b28 f28 => ld_Stb (s := s) b28.cat ?_)
        have hq := hQ w28 (f027.loc f28 (by omega))
        rw [← hs, ← hok, if_pos (by simp at h; exact ⟨hok1, h.1, h.2⟩)] at hq
        exact hq
  refine ⟨?_, ?_, ?_⟩
  · refine ld_ptr (t5.blk.cat 0 _ rfl) (ld_int (b1.cat 0 _ rfl) (ld_int (b1.cat 1 _ rfl) (key_spec fun w11 f11 => ⟨_, rfl, ⟨t5.blk.cat 0 _ rfl, (t5.keep' f11).blk.cat 0 _ rfl⟩, ?_⟩)))
    refine getT_spec (t5.keep' f11).tab fun w14 f14 => ⟨_, _, _, _, _, _, _, _, _, _, rfl, newB fun g25 w26 b26 f26 h26 => ?_⟩
    have f514 := f11.tr f14
    have f526 := f514.tr f26
    refine ⟨⟨(b1.keep' f514).cat, (b1.keep' f526).cat⟩, ⟨(t5.keep' f514).blk.cat 0 _ rfl, (t5.keep' f526).blk.cat 0 _ rfl⟩, stAllB (vs := ((get ilt S.l (keyOf nd sr)).getD sZero).cells) b26 rfl fun w27 b27 f27 => ?_⟩
    exact tail (e := 51) b27 (f526.loc f27 (by have := f514.size; omega)) rfl rfl
  · refine ld_ptr (t5.blk.cat 0 _ rfl) (ld_int (b1.cat 0 _ rfl) (ld_int (b1.cat 1 _ rfl) (key_spec fun w11 f11 => ⟨_, rfl, ⟨t5.blk.cat 0 _ rfl, (t5.keep' f11).blk.cat 0 _ rfl⟩, ?_⟩)))
    refine newB fun g25 w26 b26 f26 h26 => ?_
    have f526 := f11.tr f26
    refine ⟨⟨(b1.keep' f11).cat, (b1.keep' f526).cat⟩, ⟨(t5.keep' f11).blk.cat 0 _ rfl, (t5.keep' f526).blk.cat 0 _ rfl⟩, getT_spec (t5.keep' f526).tab fun w14 f14 => ⟨_, _, _, _, _, _, _, _, _, _, rfl, stAllB (vs := ((get ilt S.l (keyOf nd sr)).getD sZero).cells) (b26.keep' f14) rfl fun w27 b27 f27 => ?_⟩⟩
    exact tail (e := 51) b27 ((f526.tr f14).loc f27 (by have := f11.size; omega)) rfl rfl
  · refine ld_ptr (t5.blk.cat 0 _ rfl) (ld_int (b1.cat 0 _ rfl) (ld_int (b1.cat 1 _ rfl) (newB fun g25 w26 b26 f26 h26 => ?_)))
    refine ⟨⟨b1.cat, (b1.keep' f26).cat⟩, ⟨t5.blk.cat 0 _ rfl, (t5.keep' f26).blk.cat 0 _ rfl⟩, key_spec fun w11 f11 => ⟨_, rfl, ⟨(t5.keep' f26).blk.cat 0 _ rfl, (t5.keep' (f26.tr f11)).blk.cat 0 _ rfl⟩, ?_⟩⟩
    have f526 := f26.tr f11
    refine getT_spec (t5.keep' f526).tab fun w14 f14 => ⟨_, _, _, _, _, _, _, _, _, _, rfl, stAllB (vs := ((get ilt S.l (keyOf nd sr)).getD sZero).cells) (b26.keep' (f11.tr f14)) rfl fun w27 b27 f27 => ?_⟩
    exact tail (e := 51) b27 ((f526.tr f14).loc f27 (by omega)) rfl rfl
theorem state_spec (t : PTa w g gt ft S) (hQ : ∀ w', Fr [] w w' → Q (.int .i64 (stateS S nd sr now)) w') : CallR Try.prog 23 #[.pointer (some (at0 g 0)), .agg #[.int .i64 nd, .int .u64 sr], .int .u64 now] w Q := by
  apply X23.sound
  unfold X23.f
  refine newB fun g1 w2 b1 f2 h1 => ld_int (b1.cat 0 _ rfl) (ld_int (b1.cat 1 _ rfl) (get_spec (t.keep' f2) fun w6 f6 => ⟨_, _, _, _, _, _, _, _, _, _, rfl, newB fun g17 w18 b18 f18 h18 => stAllB (vs := ((getS S nd sr).getD sZero).cells) b18 rfl fun w19 b19 f19 => ?_⟩))
  have f06 := f2.tr f6
  have f19' := (f06.tr f18).loc f19 (by have := f06.size; omega)
  unfold stateS at hQ
  cases hg : getS S nd sr with
  | none =>
    rw [hg] at hQ b19
    exact bc_bool (fun _ => hQ _ f19') (fun h => by cases h)
  | some s =>
    rw [hg] at hQ b19
    refine bc_bool (fun h => by cases h) (fun _ => ld_Stb (s := s) b19.cat (lapsed_spec (t.keep' f19') fun w30 f30 => ⟨_, rfl, ?_⟩))
    have hq := hQ w30 (f19'.tr f30)
    simp only at hq
    refine bc_bool (fun h => by rw [if_pos h] at hq; exact hq) (fun h => ld_int ((b19.keep' f30).cat 2 _ rfl) ?_)
    rw [if_neg (by simp [h])] at hq
    exact hq
theorem dirty_spec (t : PTa w g gt ft S) (hQ : ∀ w', Fr [] w w' → Q (dirtyM S s now).val w') : CallR Try.prog 42 #[.pointer (some (at0 g 0)), s.val, .int .u64 now] w Q := by
  apply X42.sound
  unfold X42.f
  simp only [optP_some]
  refine newB fun g1 w2 b1 f2 h1 => newB fun g3 w4 b3 f4 h3 => drawn fun w5 f5 _ => ?_
  have f05 := (f2.tr f4).tr f5
  have t5 := t.keep' f05
  have b1 := b1.keep' (f4.tr f5)
  have b3 := b3.keep' f5
  have s2 := f2.size
  refine ld_int (t5.blk.cat 23 _ rfl) (ld_int (b1.cat.sub 0 0 rfl) (ld_int (b1.cat.sub 0 0 rfl) (ld_int (b1.cat.sub 0 1 rfl) (ld_int (b1.cat 3 _ rfl) (ld_int (b1.cat 4 _ rfl) (ld_int (b1.cat 8 _ rfl) (stAllB (vs := (dirtyM S s now).cells) b3 rfl fun w14 b14 f14 => ld_Msg (s := dirtyM S s now) b14.cat (hQ _ (f05.loc f14 (by omega)))))))))) 
theorem sent_spec {gs : Nat} (t : PTa w g gt ft S) (b : Blk w gs s.cells 51) (hgs : gs ∉ g :: ft) (hQ : ∀ w', Blk w' gs (sentS S s now).cells 51 → Fr [gs] w w' → Q (.tuple #[]) w') : CallR Try.prog 43 #[.pointer (some (at0 g 0)), .pointer (some (at0 gs 0)), .int .u64 now] w Q := by
  apply X43.sound
  unfold X43.f
  simp only [optP_some]
  refine stB b (by rw [s.len]; omega) fun w2 b2 f2 => drawn fun w3 f3 _ => ?_
  have t2 := t.keep f2 (fun x hx hm => hgs (by simp at hm; rwa [← hm]))
  have t3 := t2.keep' f3
  have b3 := b2.keep' f3
  refine ld_int (b3.cat 7 _ rfl) (ld_int (t3.blk.cat.sub 1 14 rfl) (ld_int (t3.blk.cat.sub 1 15 rfl) (wait_spec ⟨_, rfl, stB b3 (by rw [List.length_set, s.len]; omega) fun w14 b14 f14 => ?_⟩)))
  exact hQ _ b14 ((f2.tr f3.any).tr f14)
theorem heard_spec {m : Msg} {kind : Int} (t : PTa w g gt ft S)
    (hQ : ∀ w', Fr [] w w' → Q (.tuple #[((getS S m.tn m.ts).getD sZero).val, .bool ((getS S m.tn m.ts).isSome && heardB S m kind ((getS S m.tn m.ts).getD sZero))]) w') : CallR Try.prog 45 #[.pointer (some (at0 g 0)), m.val, .int .i64 kind] w Q := by
  apply X45.sound
  unfold X45.f
  simp only [optP_some]
  refine newB fun g1 w2 b1 f2 h1 => newB fun g3 w4 b3 f4 h3 => ?_
  have l1 := b1.lt
  have b1 := b1.keep' f4
  have f04 := f2.tr f4
  refine ld_int (b1.cat.sub 8 0 rfl) (ld_int (b1.cat.sub 8 1 rfl) (get_spec (t.keep' f04) fun w8 f8 => ⟨_, _, _, _, _, _, _, _, _, _, rfl, newB fun g19 w20 b20 f20 h20 => stAllB (vs := ((getS S m.tn m.ts).getD sZero).cells) b20 rfl fun w21 b21 f21 => drawn fun w22 f22 _ => ?_⟩))
  generalize (getS S m.tn m.ts).getD sZero = s at *
  have f08 := f04.tr f8
  have f820 := f8.tr f20
  have f021 := (f08.tr f20).loc f21 (by have := f08.size; omega)
  have f022 := f021.tr f22
  have s2 := f2.size
  have s8 := f08.size
  have s4 := f8.size
  have l3 := b3.lt
  have hn1 : g1 ∉ [g19] := by simp; omega
  have hn3 : g3 ∉ [g19] := by simp; omega
  have b1 := ((b1.keep' f820).keep f21 hn1).keep' f22
  have b3 := ((b3.keep' f820).keep f21 hn3).keep' f22
  have b21 := b21.keep' f22
  have t22 := t.keep' f022
  have fin : ∀ (ok : Bool), ok = ((getS S m.tn m.ts).isSome && heardB S m kind s) → stAll w22 (at0 g3 0) s.cells fun w50 => ldI .i64 w50 ((at0 g3 0).add 0) fun x29 => ldI .u64 w50 ((at0 g3 0).add 1) fun x30 => ldI .i64 w50 ((at0 g3 0).add 2) fun x31 => ldI .u64 w50 ((at0 g3 0).add 3) fun x32 => ldI .i64 w50 ((at0 g3 0).add 4) fun x33 => ldI .u64 w50 ((at0 g3 0).add 5) fun x34 => ldI .u64 w50 ((at0 g3 0).add 6) fun x35 => ldI .u64 w50 ((at0 g3 0).add 7) fun x36 => ldI .i64 w50 ((at0 g3 0).add 8) fun x37 => Q (.tuple #[.agg #[.int .i64 x29, .int .u64 x30, .int .i64 x31, .int .u64 x32, .int .i64 x33, .int .u64 x34, .int .u64 x35, .int .u64 x36, .int .i64 x37], .bool ok]) w50 := by
    intro ok hok
    refine stAllB b3 rfl fun w50 b50 f50 => ld_Stb (s := s) b50.cat ?_
    rw [hok]
    exact hQ _ (f022.loc f50 (by omega))
  refine ld_Stb (s := s) b21.cat (bc_bool (fun h => ?_) (fun h => fin _ (by rw [h]; rfl)))
  have hh : ∀ (b : Bool), heardB S m kind s = b → b = ((getS S m.tn m.ts).isSome && heardB S m kind s) := fun b hb => by rw [h, hb]; rfl
  refine ld_int (b1.cat 0 _ rfl) (bc_eq (fun e1 => ?_) (fun e1 => fin _ (hh _ (by unfold heardB; rw [if_neg e1]))))
  refine ld_int (b1.cat 1 _ rfl) (ld_int (b1.cat.sub 8 0 rfl) (bc_eq (fun e2 => ?_) (fun e2 => fin _ (hh _ (by unfold heardB; rw [if_pos e1, if_neg e2])))))
  refine ld_int (b1.cat 2 _ rfl) (ld_int (t22.blk.cat 23 _ rfl) (bc_eq (fun e3 => ?_) (fun e3 => fin _ (hh _ (by unfold heardB; rw [if_pos e1, if_pos e2, if_neg e3])))))
  refine ld_int (b1.cat 13 _ rfl) (ld_int (b21.cat 3 _ rfl) (stAllB b3 rfl fun w40 b40 f40 => ⟨⟨b21.cat 3 _ rfl, (b21.keep f40 (by simp; omega)).cat 3 _ rfl⟩, ⟨b1.cat 13 _ rfl, (b1.keep f40 (by simp; omega)).cat 13 _ rfl⟩, ld_Stb (s := s) b40.cat ?_⟩))
  have : (m.seq == s.seq) = ((getS S m.tn m.ts).isSome && heardB S m kind s) := hh _ (by unfold heardB; rw [if_pos e1, if_pos e2, if_pos e3])
  rw [this]
  exact hQ _ (f022.loc f40 (by omega))
end
end Go.Proofs.YtglininpmfgggaaX
