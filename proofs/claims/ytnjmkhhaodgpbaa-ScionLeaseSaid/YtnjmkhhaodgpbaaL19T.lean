/- Who holds an owner's objects: the table as it lies; rows of an object, its distance kept, a row put. -/
import Derived.Test.YtnjmkhhaodgpbaaL19Sc
namespace Go.Proofs.YtnjmkhhaodgpbaaX
open Go.RowKit
set_option linter.unusedVariables false
set_option linter.unusedSimpArgs false
set_option maxRecDepth 100000
def scells (S : Sc) (x : HB) (gt bm : Nat) : List Value := S.c.cells ++ [.pointer (some (at0 x.h 0)), .pointer (some (at0 gt 0)), .map (some bm), .int .u64 S.cur]
def bent (s : Int) : Int × Value := (s, .int .i64 1)
structure PSa (w : World) (g : Nat) (x : HB) (ft fh : List Nat) (gt bm : Nat) (rt : List Nat) (S : Sc) : Prop where
  blk : Blk w g (scells S x gt bm) 79
  heap : PH w x fh S.node S.last S.os
  tab : T_SC w (at0 gt 0) rt 4096 S.rows
  map : MU w bm (S.bur.map bent)
  ri : RI S.rows
  foot : ft = g :: bm :: (rt ++ fh)
  gb : g ≠ bm
  gr : g ∉ rt
  gh : g ∉ fh
  br : bm ∉ rt
  bh : bm ∉ fh
  rh : ∀ y ∈ rt, y ∉ fh
def PS (w : World) (g : Nat) (x : HB) (ft : List Nat) (S : Sc) : Prop := ∃ fh gt bm rt, PSa w g x ft fh gt bm rt S
def sq : List Scn → List Value := fun l => l.flatMap Scn.cells
section
variable {w w' W : World} {Q : Value → World → Prop} {g gt bm : Nat} {x : HB} {ft fh rt F : List Nat} {S S' : Sc} {s d : Int} {r : Scn}
theorem PSa.mem (t : PSa w g x ft fh gt bm rt S) : g ∈ ft ∧ bm ∈ ft ∧ (∀ y ∈ rt, y ∈ ft) ∧ (∀ y ∈ fh, y ∈ ft) := by
  rw [t.foot]
  exact ⟨by simp, by simp, fun y hy => by simp [hy], fun y hy => by simp [hy]⟩
theorem PSa.keep (t : PSa w g x ft fh gt bm rt S) (f : Fr F w w') (hd : ∀ y ∈ ft, y ∉ F) : PSa w' g x ft fh gt bm rt S := by
  obtain ⟨m1, m2, m3, m4⟩ := t.mem
  exact ⟨t.blk.keep f (hd _ m1), t.heap.keep f (fun y hy => hd _ (m4 y hy)), t.tab.keep f (fun y hy => hd _ (m3 y hy)), t.map.keep f (hd _ m2), t.ri, t.foot, t.gb, t.gr, t.gh, t.br, t.bh, t.rh⟩
theorem PSa.keep' (t : PSa w g x ft fh gt bm rt S) (f : Fr [] w w') : PSa w' g x ft fh gt bm rt S := t.keep f (by simp)
theorem PS.keep (t : PS w g x ft S) (f : Fr F w w') (hd : ∀ y ∈ ft, y ∉ F) : PS w' g x ft S := by
  obtain ⟨fh, gt, bm, rt, t⟩ := t
  exact ⟨fh, gt, bm, rt, t.keep f hd⟩
theorem PS.keep' (t : PS w g x ft S) (f : Fr [] w w') : PS w' g x ft S := t.keep f (by simp)
theorem PSa.lt (t : PSa w g x ft fh gt bm rt S) : ∀ y ∈ ft, y < w.heap.size := by
  intro y hy
  rw [t.foot] at hy
  rcases List.mem_cons.1 hy with rfl | hy
  · exact t.blk.lt
  rcases List.mem_cons.1 hy with rfl | hy
  · exact t.map.lt
  rcases List.mem_append.1 hy with hy | hy
  · exact t.tab.lt y hy
  · exact t.heap.lt y hy
theorem PS.lt (t : PS w g x ft S) : ∀ y ∈ ft, y < w.heap.size := by
  obtain ⟨fh, gt, bm, rt, t⟩ := t
  exact t.lt
theorem PS.ri (t : PS w g x ft S) : RI S.rows := by
  obtain ⟨fh, gt, bm, rt, t⟩ := t
  exact t.ri
theorem PS.size (t : PS w g x ft S) : S.rows.length ≤ 4096 := by
  obtain ⟨fh, gt, bm, rt, t⟩ := t
  have := t.tab.size
  omega
theorem PSa.cat (t : PSa w g x ft fh gt bm rt S) (i : Nat) {u : Value} (hu : (scells S x gt bm)[i]? = some u) : w.cell? ((at0 g 0).add i) = some u := t.blk.cat i _ hu
/-- what a call leaves behind -/
def AftS (w : World) (g : Nat) (x : HB) (ft : List Nat) (S' : Sc) (v : Value) (Q : Value → World → Prop) : Prop := ∀ ft' w', PS w' g x ft' S' → Fr ft w w' → (∀ y ∈ ft', y ∈ ft ∨ w.heap.size ≤ y) → Q v w'
theorem AftS.same {v : Value} (h : AftS w g x ft S v Q) (t : PS w g x ft S) (f : Fr [] w w') : Q v w' := h ft w' (t.keep' f) f.any (fun y hy => .inl hy)
theorem AftS.next {v : Value} {ft' : List Nat} (h : AftS w g x ft S v Q) (f : Fr ft w w') (e : ∀ y ∈ ft', y ∈ ft ∨ w.heap.size ≤ y) : AftS w' g x ft' S v Q := fun ft2 w2 t2 f2 e3 => h ft2 w2 t2 (f.trans f2 e) (fun y hy => by
    have := f.size
    rcases e3 y hy with h' | h'
    · exact e y h'
    · exact .inr (by omega))
theorem findU_bur : findU (S.bur.map bent) s = if s ∈ S.bur then some (.int .i64 1) else none := by
  unfold findU
  rw [List.find?_map, Option.map_map]
  by_cases h : s ∈ S.bur
  · rw [if_pos h]
    cases hf : S.bur.find? ((fun x => decide (x.1 = s)) ∘ bent) with
    | none => exact absurd (show decide ((bent s).1 = s) = true by simp [bent]) (List.find?_eq_none.1 hf s h)
    | some y => rfl
  · rw [if_neg h]
    cases hf : S.bur.find? ((fun x => decide (x.1 = s)) ∘ bent) with
    | none => rfl
    | some y =>
      have h1 := List.find?_some hf
      have h2 := List.mem_of_find?_eq_some hf
      have : y = s := of_decide_eq_true (p := y = s) h1
      exact absurd (this ▸ h2) h
theorem bur_look (t : PSa w g x ft fh gt bm rt S) (h0 : 0 ≤ s) (h1 : s ≤ 18446744073709551615) (hQ : Q (.int .i64 (if s ∈ S.bur then 1 else 0)) w) :
    RunR Try.prog (Instr.lookup 77 (.map (some bm)) (.int .u64 s) false) w Q := by
  refine lookU (z := .int .i64 0) (K := 22) (E := 3) (by kernel_rfl) (by kernel_rfl) (by simp [zeroValue, typeInfo]; rfl) t.map (u64wf h0 h1) ?_
  rw [findU_bur]
  by_cases h : s ∈ S.bur
  · rw [if_pos h] at hQ ⊢
    exact hQ
  · rw [if_neg h] at hQ ⊢
    exact hQ
theorem key_spec {h : Int} (hQ : Q (.int .u64 (keyS s h)) w) : CallR Try.prog 34 #[.int .u64 s, .int .i64 h] w Q := by
  apply X34.sound
  unfold X34.f
  exact ⟨by omega, hQ⟩
theorem sq_len (l : List Scn) : (sq l).length = l.length * 6 := flat_length Scn.len l
theorem sq_one (l : List Scn) : ∀ u ∈ sq l, u.oneCell' = true := by
  intro u hu
  obtain ⟨e, _, he⟩ := List.mem_flatMap.1 hu
  exact e.one u he
theorem scn_at {p : Option Addr} {l : List Scn} {i : Nat} (hc : Cells w p (sq l)) (hi : l[i]? = some r) : ∃ a, p = some a ∧ At w (a.add (i * 6)) r.cells := by
  have h0 := hc (i * 6 + 0) _ (flat_get Scn.len l hi (j := 0) (u := .int .u64 r.serial) rfl)
  obtain ⟨a, ha, _⟩ := h0
  refine ⟨a, ha, fun j u hj => ?_⟩
  obtain ⟨b, hb, hv⟩ := hc (i * 6 + j) _ (flat_get Scn.len l hi hj)
  rw [ha] at hb
  injection hb with hb
  subst hb
  rw [add_add]
  exact hv
theorem get_of_key {rows : List (Int × Scn)} {i : Nat} {e : Int × Scn} (R : RI rows) (hi : rows[i]? = some e) : get ilt rows e.1 = some e.2 := (get_iff ilt_lin R.srt).2 (List.mem_of_getElem? hi)
theorem of_l0 (t : PS W g x ft S) (h0 : 0 ≤ s) (hQ : ∀ p c w', Own 53 6 w' p (ofR S.rows s).length c (sq (ofR S.rows s)) → Fr [] W w' → (∀ k ∈ fbl p, W.heap.size ≤ k) → Q (.slice p (ofR S.rows s).length c) w') :
    ∀ (f i : Nat) (acc : List Scn) (p : Option Addr) (c : Nat) (w1 : World), S.rows.length - i < f → i ≤ S.rows.length → acc.length ≤ i → acc ++ runFrom (S.rows.drop i) s = ofR S.rows s → Own 53 6 w1 p acc.length c (sq acc) → Fr [] W w1 → (∀ k ∈ fbl p, W.heap.size ≤ k) →
      X40.l0 Q f (some (at0 g 0)) s p acc.length c ((keys S.rows)[i]?.getD 0) (keys S.rows)[i]?.isSome w1
  | 0, i, acc, p, c, w1, hf, _, _, _, _, _, _ => absurd hf (Nat.not_lt_zero _)
  | f + 1, i, acc, p, c, w1, hf, hi, hl, he, ho, F, hp => by
    have R := t.ri
    have hsz := t.size
    have tt := t
    obtain ⟨fh, gt, bm, rt, t⟩ := t
    have t1 := t.keep' F
    rw [X40.l0]
    cases hk : S.rows[i]? with
    | none =>
      have : (keys S.rows)[i]? = none := by unfold keys; rw [List.getElem?_map, hk]; rfl
      rw [this]
      have hn : S.rows.drop i = [] := List.drop_eq_nil_of_le (List.getElem?_eq_none_iff.1 hk)
      rw [hn] at he
      have : acc = ofR S.rows s := by rw [← he]; simp [runFrom]
      refine bc_bool (fun e => by cases e) (fun _ => ?_)
      rw [this] at ho ⊢
      exact hQ p c w1 ho F hp
    | some e =>
      obtain ⟨hlt, hge⟩ := List.getElem?_eq_some_iff.1 hk
      have hkk : (keys S.rows)[i]? = some e.1 := by unfold keys; rw [List.getElem?_map, hk]; rfl
      rw [hkk]
      have hd : S.rows.drop i = e :: S.rows.drop (i + 1) := by rw [List.drop_eq_getElem_cons hlt, hge]
      refine bc_bool (fun _ => ⟨by omega, ?_⟩) (fun e => by cases e)
      rw [Option.getD_some, shr7]
      refine bc_eq (fun hs => ?_) (fun hs => ?_)
      · unfold X40.j1
        refine opt_some rfl (ld_ptr (t1.cat 23 rfl) (get_SC t1.tab (fun hn => ?_) (fun v hv w4 f4 => ?_)))
        · rw [get_of_key R hk] at hn; cases hn
        · have hve : v = e.2 := by rw [get_of_key R hk] at hv; injection hv with hv; exact hv.symm
          subst hve
          refine ⟨_, _, _, _, _, _, _, rfl, newB fun g12 w13 b13 f13 h13 => ?_⟩
          refine stAllB (vs := e.2.cells) b13 rfl fun w14 b14 f14 => ld_Scn (s := e.2) b14.cat ?_
          refine newB fun g21 w22 b22 f22 h22 => ?_
          have z1 := F.size
          have z4 := f4.size
          have z13 := f13.size
          have z14 := f14.size
          have F22 : Fr [] w1 w22 := (((f4.tr f13).trans f14 (fun y hy => .inr (by simp at hy; omega)))).tr f22
          have hb22 : Blk w22 g21 (sq [e.2]) 53 := by
            show Blk w22 g21 (e.2.cells ++ []) _
            rw [List.append_nil]
            exact b22
          refine app_step rowT44 (ho.keep' F22) (x := some (at0 g21 0)) (ys := sq [e.2]) (k := 1) (cells_one hb22) (sq_len _) some_ne (sq_one _) (by omega) (by omega) (W := W) hp (F.tr F22) fun p2 c2 w24 o24 hp2 F24 _ => ?_
          have t24 := t.keep' F24
          refine opt_some rfl (ld_ptr (t24.cat 23 rfl) (next_SC t24.tab ?_))
          rw [next_pos R.srt hkk]
          refine ⟨_, _, rfl, ?_⟩
          have e1 : acc.length + 1 = (acc ++ [e.2]).length := by simp
          rw [e1]
          refine of_l0 tt h0 hQ f (i + 1) (acc ++ [e.2]) p2 c2 w24 (by omega) (by omega) (by simp; omega) ?_ ?_ F24 hp2
          · rw [← he, hd]
            unfold runFrom
            rw [List.takeWhile_cons_of_pos (by simp [hs])]
            simp
          · have e2 : sq (acc ++ [e.2]) = sq acc ++ sq [e.2] := by simp [sq]
            rw [e2, ← e1]
            exact o24
      · have hn : runFrom (S.rows.drop i) s = [] := by
          rw [hd]
          unfold runFrom
          rw [List.takeWhile_cons_of_neg (by simp [hs])]
          rfl
        have : acc = ofR S.rows s := by rw [← he, hn]; simp
        rw [this] at ho ⊢
        exact hQ p c w1 ho F hp
theorem of_spec (t : PS w g x ft S) (h0 : 0 ≤ s) (h1 : s ≤ 18446744073709551615) (hQ : ∀ p c w', Own 53 6 w' p (ofR S.rows s).length c (sq (ofR S.rows s)) → Fr [] w w' → (∀ k ∈ fbl p, w.heap.size ≤ k) → Q (.slice p (ofR S.rows s).length c) w') :
    CallR Try.prog 40 #[.pointer (some (at0 g 0)), .int .u64 s] w Q := by
  apply X40.sound
  unfold X40.f
  refine drawn fun w1 f1 _ => ?_
  have t0 := t
  have R := t.ri
  obtain ⟨fh, gt, bm, rt, t⟩ := t
  have t1 := t.keep' f1
  have own0 : Own 53 6 w1 none ([] : List Scn).length 0 (sq []) := Own.nil
  refine opt_some rfl (ld_ptr (t1.cat 23 rfl) (key_spec ⟨_, rfl, ⟨t1.cat 23 rfl, t1.cat 23 rfl⟩, next_SC t1.tab ⟨_, _, rfl, S.rows.length + 1, ?_⟩⟩))
  by_cases hs : s < 144115188075855872
  · obtain ⟨e1, e2⟩ := next_first R h0 hs
    rw [e1]
    exact of_l0 t0 h0 hQ (S.rows.length + 1) (at_ ilt S.rows (s * 128)) [] none 0 w1 (by omega) (at_le _ _) (by simp) (by simpa using e2.symm) own0 f1 (by simp [fbl])
  · have hn := ofR_none (s := s) R (by omega)
    rw [hn] at hQ
    rw [X40.l0]
    refine bc_bool (fun hsm => ⟨by omega, ?_⟩) (fun _ => hQ _ _ _ own0 f1 (by simp [fbl]))
    cases hnx : next ilt S.rows (keyS s 0) with
    | none => rw [hnx] at hsm; cases hsm
    | some k =>
      rw [Option.getD_some, shr7]
      have hk : k ∈ keys S.rows := by
        unfold next at hnx
        exact List.mem_of_getElem? hnx
      obtain ⟨e, he, hek⟩ := List.mem_map.1 hk
      have a1 := R.key e he
      have a2 := R.ser e he
      have a3 := R.hol e he
      have a4 : e.1 = k := hek
      exact bc_eq (fun e => by omega) (fun _ => hQ _ _ _ own0 f1 (by simp [fbl]))
end
end Go.Proofs.YtnjmkhhaodgpbaaX
