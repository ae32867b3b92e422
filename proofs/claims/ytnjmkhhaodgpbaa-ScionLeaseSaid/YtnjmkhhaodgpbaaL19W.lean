/- Who holds an owner's objects: all rows told, all of an object forgotten, a step. -/
import Derived.Test.YtnjmkhhaodgpbaaL19V
namespace Go.Proofs.YtnjmkhhaodgpbaaX
open Go.RowKit
set_option linter.unusedVariables false
set_option linter.unusedSimpArgs false
set_option maxRecDepth 100000
def allS (S : Sc) : List Scn := S.rows.map (·.2)
section
variable {w w' W : World} {Q : Value → World → Prop} {g gt bm : Nat} {x : HB} {ft fh fh' rt rt' F : List Nat} {S S' : Sc} {s d now k : Int} {r : Scn}
theorem all_l0 (t : PS W g x ft S) (hQ : ∀ p c w', Own 53 6 w' p (allS S).length c (sq (allS S)) → Fr [] W w' → (∀ k ∈ fbl p, W.heap.size ≤ k) → Q (.slice p (allS S).length c) w')
    {p : Option Addr} {c : Nat} {w0 : World} (ho : Own 22 1 w0 p S.rows.length c ((keys S.rows).map (Value.int .u64))) (F0 : Fr [] W w0) :
    ∀ (f i : Nat) (acc : List Scn) (ap : Option Addr) (ac : Nat) (w1 : World), S.rows.length - i < f → i ≤ S.rows.length → acc = (allS S).take i → Own 53 6 w1 ap acc.length ac (sq acc) → (∀ k ∈ fbl ap, w0.heap.size ≤ k) → Fr [] w0 w1 →
      X13.l0 Q f (some (at0 g 0)) ap acc.length ac p S.rows.length c (S.rows.length : Int) (i : Int) w1
  | 0, i, acc, ap, ac, w1, hf, _, _, _, _, _ => absurd hf (Nat.not_lt_zero _)
  | f + 1, i, acc, ap, ac, w1, hf, hi, he, oa, ha, F1 => by
    have F := F0.tr F1
    have hsz := t.size
    have R := t.ri
    have tt := t
    obtain ⟨fh, gt, bm, rt, t⟩ := t
    have t1 := t.keep' F
    have hal : (allS S).length = S.rows.length := by unfold allS; rw [List.length_map]
    rw [X13.l0]
    refine bc_dec (fun hlt => ⟨⟨by omega, by omega⟩, ?_⟩) (fun hge => ?_)
    · have hl : i < S.rows.length := by omega
      have hr := List.getElem?_eq_getElem hl
      generalize S.rows[i] = e at *
      have hk : ((keys S.rows).map (Value.int .u64))[i]? = some (.int .u64 e.1) := by
        unfold keys
        rw [List.getElem?_map, List.getElem?_map, hr]
        rfl
      obtain ⟨a, ha', hat⟩ := (ho.keep' F1).cells i _ hk
      rw [Int.toNat_natCast, Nat.mul_one]
      have e1 : IntKind.wrap .i64 ((i : Int) + 1) = ((i + 1 : Nat) : Int) := by rw [i64w ((i : Int) + 1) (by omega) (by omega)]; omega
      have e2 : (allS S).take (i + 1) = (allS S).take i ++ [e.2] := by
        rw [List.take_add_one]
        unfold allS
        rw [List.getElem?_map, hr]
        rfl
      have hle : acc.length ≤ i := by
        rw [he, List.length_take]
        omega
      rw [e1]
      refine opt_some ha' (ld_int hat (opt_some rfl (ld_ptr (t1.cat 23 rfl) (get_SC t1.tab (fun hn => ?_) (fun v hv w6 f6 => ?_)))))
      · rw [get_of_key R hr] at hn
        cases hn
      · have hve : v = e.2 := by rw [get_of_key R hr] at hv; injection hv with hv; exact hv.symm
        subst hve
        refine ⟨_, _, _, _, _, _, _, rfl, newB fun g14 w15 b15 f15 h15 => ?_⟩
        refine stAllB (vs := e.2.cells) b15 rfl fun w16 b16 f16 => ld_Scn (s := e.2) b16.cat ?_
        refine newB fun g23 w24 b24 f24 h24 => ?_
        have z6 := f6.size
        have z15 := f15.size
        have z16 := f16.size
        have F24 : Fr [] w1 w24 := (((f6.tr f15).trans f16 (fun y hy => .inr (by simp at hy; omega)))).tr f24
        have hb24 : Blk w24 g23 (sq [e.2]) 53 := by
          show Blk w24 g23 (e.2.cells ++ []) _
          rw [List.append_nil]
          exact b24
        refine app_step rowT44 (oa.keep' F24) (x := some (at0 g23 0)) (ys := sq [e.2]) (k := 1) (cells_one hb24) (sq_len _) some_ne (sq_one _) (by omega) (by omega) (W := w0) ha (F1.tr F24) fun p2 c2 w26 o26 hp2 F26 _ => ?_
        have e3 : acc.length + 1 = (acc ++ [e.2]).length := by simp
        rw [e3]
        refine all_l0 tt hQ ho F0 f (i + 1) (acc ++ [e.2]) p2 c2 w26 (by omega) (by omega) (by rw [e2, he]) ?_ hp2 F26
        have e4 : sq (acc ++ [e.2]) = sq acc ++ sq [e.2] := by simp [sq]
        rw [e4, ← e3]
        exact o26
    · have : (allS S).take i = allS S := List.take_of_length_le (by omega)
      rw [this] at he
      subst he
      exact hQ ap ac w1 oa F (fun k hk => by have := ha k hk; have := F0.size; omega)
theorem all_spec (t : PS w g x ft S) (hQ : ∀ p c w', Own 53 6 w' p (allS S).length c (sq (allS S)) → Fr [] w w' → (∀ k ∈ fbl p, w.heap.size ≤ k) → Q (.slice p (allS S).length c) w') :
    CallR Try.prog 13 #[.pointer (some (at0 g 0))] w Q := by
  apply X13.sound
  unfold X13.f
  have tt := t
  obtain ⟨fh, gt, bm, rt, t⟩ := t
  refine opt_some rfl (ld_ptr (t.cat 23 rfl) (keys_SC t.tab fun p c w4 o4 f4 _ => ⟨_, _, _, rfl, S.rows.length + 1, ?_⟩))
  have own0 : Own 53 6 w4 none ([] : List Scn).length 0 (sq []) := Own.nil
  exact all_l0 tt hQ o4 f4 _ 0 [] none 0 w4 (by omega) (by omega) (by simp) own0 (by simp [fbl]) (Fr.refl _)
theorem forget_l0 (h0 : 0 ≤ s) (h1 : s ≤ 18446744073709551615) (hQ : AftS W g x ft (forgetS S s) (.tuple #[]) Q) (hsz : S.rows.length ≤ 4096)
    {p : Option Addr} {c : Nat} (hp : ∀ k ∈ fbl p, k ∉ ft) :
    ∀ (f i : Nat) (w1 : World), (ofR S.rows s).length - i < f → i ≤ (ofR S.rows s).length → Own 53 6 w1 p (ofR S.rows s).length c (sq (ofR S.rows s)) → PSa w1 g x ft fh gt bm rt { S with rows := cutR S.rows s ((ofR S.rows s).take i) } → Fr ft W w1 →
      X24.l0 Q f (some (at0 g 0)) s p (ofR S.rows s).length c ((ofR S.rows s).length : Int) (i : Int) w1
  | 0, i, w1, hf, _, _, _, _ => absurd hf (Nat.not_lt_zero _)
  | f + 1, i, w1, hf, hi, ho, t1, F => by
    have hle : (ofR S.rows s).length ≤ 4096 := by
      unfold ofR
      rw [List.length_map]
      exact Nat.le_trans (List.length_filter_le _ _) hsz
    rw [X24.l0]
    refine bc_dec (fun hlt => ⟨⟨by omega, by omega⟩, ?_⟩) (fun hge => ?_)
    · have hl : i < (ofR S.rows s).length := by omega
      have hr := List.getElem?_eq_getElem hl
      obtain ⟨a, ha, hat⟩ := scn_at ho.cells hr
      generalize (ofR S.rows s)[i] = r at *
      rw [Int.toNat_natCast]
      have e1 : IntKind.wrap .i64 ((i : Int) + 1) = ((i + 1 : Nat) : Int) := by rw [i64w ((i : Int) + 1) (by omega) (by omega)]; omega
      have e2 : cutR S.rows s ((ofR S.rows s).take (i + 1)) = drp ilt (cutR S.rows s ((ofR S.rows s).take i)) (keyS s r.holder) := by
        rw [List.take_add_one, hr]
        unfold cutR
        rw [List.foldl_append]
        rfl
      rw [e1]
      refine opt_some ha (ld_Scn (s := r) hat (newB fun g8 w9 b9 f9 h9 => stAllB (vs := r.cells) b9 rfl fun w10 b10 f10 => drawn fun w11 f11 _ => ?_))
      have z9 := f9.size
      have z10 := f10.size
      have F11 : Fr [] w1 w11 := (f9.trans f10 (fun y hy => .inr (by simp at hy; omega))).tr f11
      have t11 := t1.keep' F11
      have b11 := b10.keep' f11
      refine opt_some rfl (ld_ptr (t11.cat 23 rfl) (ld_int (b11.cat 1 _ rfl) (key_spec ⟨_, rfl, ⟨t11.cat 23 rfl, t11.cat 23 rfl⟩, drop_SC t11.tab fun w19 T19 f19 => ⟨_, rfl, ?_⟩⟩)))
      obtain ⟨t19, F19, _⟩ := t11.rows' T19 t11.ri.drpR f19 (fun y hy => .inl hy)
      rw [← t11.foot] at t19
      rw [← e2] at t19
      exact forget_l0 h0 h1 hQ hsz hp f (i + 1) w19 (by omega) (by omega) ((ho.keep' F11).keep F19 hp) t19 ((F.tr F11.any).tr F19)
    · have : (ofR S.rows s).take i = ofR S.rows s := List.take_of_length_le (by omega)
      rw [this] at t1
      refine opt_some rfl (ld_map (t1.cat 24 rfl) (delU (K := 22) (E := 3) (by kernel_rfl) (by kernel_rfl) t1.map (u64wf h0 h1) fun w9 M9 f9 => ⟨rfl, ?_⟩))
      rw [unbur_ent] at M9
      obtain ⟨t9, F9⟩ := t1.bur' M9 f9
      refine keep_spec ⟨_, _, _, _, t9⟩ h0 h1 ?_
      intro ft2 w2 P2 f2 e2
      exact ⟨rfl, hQ.next (F.tr F9) (fun y hy => .inl hy) ft2 w2 P2 f2 e2⟩
theorem forget_spec (t : PS w g x ft S) (h0 : 0 ≤ s) (h1 : s ≤ 18446744073709551615) (hQ : AftS w g x ft (forgetS S s) (.tuple #[]) Q) : CallR Try.prog 24 #[.pointer (some (at0 g 0)), .int .u64 s] w Q := by
  apply X24.sound
  unfold X24.f
  refine of_spec t h0 h1 fun p c w2 o2 f2 hp => ⟨_, _, _, rfl, (ofR S.rows s).length + 1, ?_⟩
  have hsz := t.size
  obtain ⟨fh, gt, bm, rt, t⟩ := t
  exact forget_l0 h0 h1 hQ hsz (fun k hk hm => by have := hp k hk; have := t.lt k hm; omega) _ 0 w2 (by omega) (by omega) o2 (t.keep' f2) f2.any
theorem get_key {rows : List (Int × Scn)} {r : Scn} (R : RI rows) (h : get ilt rows k = some r) : okRow r ∧ keyS r.serial r.holder = k := by
  have hm := (get_iff ilt_lin R.srt).1 h
  have a1 := R.key _ hm
  have a2 := R.ser _ hm
  have a3 := R.hol _ hm
  have a4 := R.dis _ hm
  simp only [] at a1 a2 a3 a4
  exact ⟨⟨a2, a3, a4⟩, by rw [keyS_eq (by omega) (by omega) (by omega) (by omega)]; exact a1.symm⟩
theorem step_spec (t : PS w g x ft S) (hQ : AftS w g x ft (stepS S now).1 (.tuple #[(stepS S now).2.1.val, .bool (stepS S now).2.2]) Q) : CallR Try.prog 18 #[.pointer (some (at0 g 0)), .int .u64 now] w Q := by
  apply X18.sound
  unfold X18.f
  refine newB fun g1 w2 b2 f2 h2 => drawn fun w3 f3 _ => ?_
  have b2 : Blk w2 g1 scnZ.cells 53 := b2
  have b3 := b2.keep' f3
  have F3 := f2.tr f3
  have z2 := f2.size
  have z3 := f3.size
  have R := t.ri
  have lt := t.lt
  have tt := t
  obtain ⟨fh, gt, bm, rt, t⟩ := t
  have t3 := t.keep' F3
  have ng : g1 ∉ ft := fun hm => by have := lt _ hm; omega
  unfold stepS at hQ
  refine opt_some rfl (ld_ptr (t3.cat 23 rfl) (opt_some rfl (ld_int (t3.cat 25 rfl) (after_SC t3.tab ⟨_, _, rfl, ?_⟩))))
  have zero : ∀ {w'' : World} {S' : Sc}, AftS w g x ft S' (.tuple #[scnZ.val, .bool false]) Q → PS w'' g x ft S' → Fr ft w w'' → Blk w'' g1 scnZ.cells 53 → stAll w'' (at0 g1 0) scnZ.cells fun w12 => ldI .u64 w12 ((at0 g1 0).add 0) fun x13 => ldI .i64 w12 ((at0 g1 0).add 1) fun x14 => ldB w12 ((at0 g1 0).add 2) fun x15 => ldI .u64 w12 ((at0 g1 0).add 3) fun x16 => ldI .u64 w12 ((at0 g1 0).add 4) fun x17 => ldI .i64 w12 ((at0 g1 0).add 5) fun x18 => Q (.tuple #[.agg #[.int .u64 x13, .int .i64 x14, .bool x15, .int .u64 x16, .int .u64 x17, .int .i64 x18], .bool false]) w12 := by
    intro w'' S' hq P F b
    refine stAllB (vs := scnZ.cells) b rfl fun w12 b12 f12 => ld_Scn (s := scnZ) b12.cat ?_
    have z := F.size
    exact hq ft w12 (P.keep f12 (fun y hy hm => ng (by simp at hm; rwa [← hm]))) (F.trans f12 (fun y hy => .inr (by simp at hy; omega))) (fun y hy => .inl hy)
  cases ha : after ilt S.rows S.cur with
  | none =>
    rw [ha] at hQ
    exact bc_bool (fun _ => zero hQ (tt.keep' F3) F3.any b3) (fun e => by cases e)
  | some k =>
    rw [ha] at hQ
    simp only [] at hQ
    refine bc_bool (fun e => by cases e) (fun _ => opt_some rfl (t3.cur' k fun w20 t20 f20 => ?_))
    have F20 : Fr ft w w20 := F3.any.tr f20
    have b20 := b3.keep f20 ng
    refine opt_some rfl (ld_ptr (t20.cat 23 rfl) (get_SC t20.tab (fun hn w24 f24 => ?_) (fun r hr w24 f24 => ?_)))
    · have hn : get ilt S.rows k = none := hn
      rw [hn] at hQ
      simp only [] at hQ
      refine ⟨_, _, _, _, _, _, _, rfl, newB fun g32 w33 b33 f33 h33 => stAllB (vs := scnZ.cells) b33 rfl fun w34 b34 f34 => drawn fun w35 f35 _ => ?_⟩
      have z20 := F20.size
      have z24 := f24.size
      have F35 : Fr [] w20 w35 := ((f24.tr f33).trans f34 (fun y hy => .inr (by simp at hy; omega))).tr f35
      refine ld_bool ((b34.keep' f35).cat 2 _ rfl) ?_
      exact zero hQ ⟨_, _, _, _, t20.keep' F35⟩ (F20.tr F35.any) (b20.keep' F35)
    · have hr : get ilt S.rows k = some r := hr
      rw [hr] at hQ
      simp only [] at hQ
      refine ⟨_, _, _, _, _, _, _, rfl, newB fun g32 w33 b33 f33 h33 => stAllB (vs := r.cells) b33 rfl fun w34 b34 f34 => drawn fun w35 f35 _ => ?_⟩
      have z20 := F20.size
      have z24 := f24.size
      have z33 := f33.size
      have z34 := f34.size
      have z35 := f35.size
      have F35 : Fr [] w20 w35 := ((f24.tr f33).trans f34 (fun y hy => .inr (by simp at hy; omega))).tr f35
      have b35 := b34.keep' f35
      have t35 := t20.keep' F35
      have b1 := b20.keep' F35
      refine ld_bool (b35.cat 2 _ rfl) ?_
      cases hp : r.present with
      | false =>
        rw [if_neg (fun h => by rw [hp] at h; cases h.1)] at hQ
        exact zero hQ ⟨_, _, _, _, t35⟩ (F20.tr F35.any) b1
      | true =>
        refine bc_bool (fun e => by cases e) (fun _ => ld_int (b35.cat 4 _ rfl) (opt_some rfl (ld_int (x := S.c.lease) (by rw [add_at]; exact t35.blk.cell rfl) (past_spec ⟨_, rfl, ?_⟩))))
        cases hpa : pastB r.at_ S.c.lease now with
        | false =>
          rw [if_neg (fun h => by rw [hpa] at h; cases h.2)] at hQ
          exact zero hQ ⟨_, _, _, _, t35⟩ (F20.tr F35.any) b1
        | true =>
          rw [if_pos ⟨hp, hpa⟩] at hQ
          have n32 : g32 ∉ ft := fun hm => by have := lt _ hm; omega
          have n1 : g32 ≠ g1 := by have := b20.lt; omega
          refine bc_bool (fun e => by cases e) (fun _ => stB (i := 2) b35 (show 2 < 6 by omega) fun w57 b57 f57 => ?_)
          have b57 : Blk w57 g32 (Scn.cells { r with present := false }) 53 := b57
          refine ld_Scn (s := { r with present := false }) b57.cat ?_
          have t57 := t35.keep f57 (fun y hy hm => n32 (by simp at hm; rwa [← hm]))
          have hok := (get_key R hr).1
          have F57 : Fr ft w w57 := (F20.tr F35.any).trans f57 (fun y hy => .inr (by simp at hy; omega))
          refine put_spec (r := { r with present := false }) ⟨_, _, _, _, t57⟩ hok fun ft2 w65 P65 f65 e65 => ⟨rfl, ?_⟩
          refine ld_Scn (s := { r with present := false }) (b57.keep f65 n32).cat ?_
          have z57 := f57.size
          have z65 := f65.size
          have b1' := (b1.off1 (fun e => n1 e.symm) f57).keep f65 ng
          refine stAllB (vs := Scn.cells { r with present := false }) b1' rfl fun w72 b72 f72 => ld_Scn (s := { r with present := false }) b72.cat ?_
          have ng2 : g1 ∉ ft2 := fun hm => by
            rcases e65 _ hm with h | h
            · exact ng h
            · have := b20.lt
              omega
          have z572 := F57.size
          have F65 : Fr ft w w65 := F57.tr f65
          have z652 := F65.size
          refine hQ ft2 w72 (P65.keep f72 (fun y hy hm => ng2 (by simp at hm; rwa [← hm]))) (F65.trans f72 (fun y hy => .inr (by simp at hy; omega))) (fun y hy => (e65 y hy).imp_right fun h => by omega)
end
end Go.Proofs.YtnjmkhhaodgpbaaX
