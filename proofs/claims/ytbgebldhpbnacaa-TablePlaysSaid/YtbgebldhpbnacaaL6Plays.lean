/- TablePlays: any calls on a table are answered as the document's table answers them. -/
import Derived.Test.YtbgebldhpbnacaaL6RefP
import Derived.Test.YtbgebldhpbnacaaL6Two
import Derived.Test.YtbgebldhpbnacaaXAll
namespace Go.Proofs.YtbgebldhpbnacaaX
open Go.RowKit
set_option linter.unusedVariables false
set_option linter.unusedSimpArgs false
set_option maxRecDepth 100000
/-- A table and the document's table, apart from one another, among what is new since W. -/
structure Pl (W w : World) (a : Addr) (g : Nat) (foot : List Nat) (most : Int) (l r : KV) : Prop where
  tab : ∃ fa fr, foot = fa ++ fr ∧ T_UI w a fa most l ∧ Ref w g fr most r ∧ ∀ x ∈ fa, x ∉ fr
  new : ∀ x ∈ foot, W.heap.size ≤ x
  fr : Fr [] W w
  top : most ≤ 4096
/-- a Put's answer, and what it leaves -/
def putok (most : Int) (l : KV) (k : Int) : Bool := has ilt l k || decide ((l.length : Int) < most)
def putl (most : Int) (l : KV) (k v : Int) : KV := if putok most l k then put ilt l k v else l
section
variable {W w : World} {a : Addr} {g : Nat} {foot : List Nat} {most : Int} {l r : KV} {Q : Value → World → Prop}
theorem Pl.keep {w' : World} {S : List Nat} (h : Pl W w a g foot most l r) (f : Fr S w w') (hd : ∀ x ∈ foot, x ∉ S) (hS : ∀ x ∈ S, W.heap.size ≤ x) : Pl W w' a g foot most l r := by
  obtain ⟨⟨fa, fr, hf, h1, h2, h3⟩, h4, h5, h6⟩ := h
  subst hf
  exact ⟨⟨fa, fr, rfl, h1.keep f (fun x hx => hd x (by simp [hx])), h2.keep f (fun x hx => hd x (by simp [hx])), h3⟩, h4, h5.trans f (fun x hx => .inr (hS x hx)), h6⟩
theorem Pl.keep' {w' : World} (h : Pl W w a g foot most l r) (f : Fr [] w w') : Pl W w' a g foot most l r := h.keep f (by simp) (by simp)
theorem Pl.lt (h : Pl W w a g foot most l r) : ∀ x ∈ foot, x < w.heap.size := by
  obtain ⟨⟨fa, fr, hf, h1, h2, h3⟩, h4, h5, h6⟩ := h
  intro x hx
  rw [hf] at hx
  rcases List.mem_append.1 hx with h | h
  · exact h1.lt x h
  · exact h2.lt x h
/-- what a call on the one table does -/
theorem Pl.stepA {w' : World} {fa fa' fr : List Nat} {l' : KV} (h4 : ∀ x ∈ fa ++ fr, W.heap.size ≤ x) (h5 : Fr [] W w) (h6 : most ≤ 4096) (h1 : T_UI w' a fa' most l') (h2 : Ref w g fr most r) (h3 : ∀ x ∈ fa, x ∉ fr) (f : Fr fa w w') (e : ∀ x ∈ fa', x ∈ fa ∨ w.heap.size ≤ x) :
    Pl W w' a g (fa' ++ fr) most l' r ∧ Fr (fa ++ fr) w w' ∧ (∀ x ∈ fa' ++ fr, x ∈ fa ++ fr ∨ w.heap.size ≤ x) := by
  have h2l := h2.lt
  have s := h5.size
  refine ⟨⟨⟨fa', fr, rfl, h1, h2.keep f (fun x hx hm => h3 x hm hx), fun x hx hm => ?_⟩, fun x hx => ?_, h5.trans f (fun x hx => .inr (h4 x (by simp [hx]))), h6⟩, f.mono (fun x hx => by simp [hx]), fun x hx => ?_⟩
  · rcases e x hx with h | h
    · exact h3 x h hm
    · have := h2l x hm; omega
  · rcases List.mem_append.1 hx with h | h
    · rcases e x h with h | h
      · exact h4 x (by simp [h])
      · omega
    · exact h4 x (by simp [h])
  · rcases List.mem_append.1 hx with h | h
    · rcases e x h with h | h
      · exact .inl (by simp [h])
      · exact .inr h
    · exact .inl (by simp [h])
theorem Pl.stepB {w' : World} {fa fr fr' : List Nat} {r' : KV} (h4 : ∀ x ∈ fa ++ fr, W.heap.size ≤ x) (h5 : Fr [] W w) (h6 : most ≤ 4096) (h1 : T_UI w a fa most l) (h2 : Ref w' g fr' most r') (h3 : ∀ x ∈ fa, x ∉ fr) (f : Fr fr w w') (e : ∀ x ∈ fr', x ∈ fr ∨ w.heap.size ≤ x) :
    Pl W w' a g (fa ++ fr') most l r' ∧ Fr (fa ++ fr) w w' ∧ (∀ x ∈ fa ++ fr', x ∈ fa ++ fr ∨ w.heap.size ≤ x) := by
  have h1l := h1.lt
  have s := h5.size
  refine ⟨⟨⟨fa, fr', rfl, h1.keep f h3, h2, fun x hx hm => ?_⟩, fun x hx => ?_, h5.trans f (fun x hx => .inr (h4 x (by simp [hx]))), h6⟩, f.mono (fun x hx => by simp [hx]), fun x hx => ?_⟩
  · rcases e x hm with h | h
    · exact h3 x hx h
    · have := h1l x hx; omega
  · rcases List.mem_append.1 hx with h | h
    · exact h4 x (by simp [h])
    · rcases e x h with h | h
      · exact h4 x (by simp [h])
      · omega
  · rcases List.mem_append.1 hx with h | h
    · exact .inl (by simp [h])
    · rcases e x h with h | h
      · exact .inl (by simp [h])
      · exact .inr h
theorem Pl.put {k v : Int} (h : Pl W w a g foot most l r) (hK : ∀ foot' w', Pl W w' a g foot' most (putl most l k v) r → Fr foot w w' → (∀ x ∈ foot', x ∈ foot ∨ w.heap.size ≤ x) → Q (.bool (putok most l k)) w') :
    CallR Try.prog 16 #[.pointer (some a), .int .u64 k, .int .i64 v] w Q := by
  have h0 := h
  obtain ⟨⟨fa, fr, hf, h1, h2, h3⟩, h4, h5, h6⟩ := h
  subst hf
  unfold putl at hK
  refine put_UI h1 (fun hh hm w' f => ?_) (fun hh fa' w' t f e => ?_)
  · have : putok most l k = false := by unfold putok; rw [hh]; simp; omega
    rw [this] at hK
    exact hK _ w' (h0.keep' f) f.any (fun x hx => .inl hx)
  · have : putok most l k = true := by
      unfold putok
      rcases hh with hh | hh
      · rw [hh]; rfl
      · simp [hh]
    rw [this] at hK
    obtain ⟨k1, k2, k3⟩ := Pl.stepA h4 h5 h6 t h2 h3 f e
    exact hK _ w' k1 k2 k3
theorem Pl.rput {k v : Int} (h : Pl W w a g foot most l r) (hK : ∀ foot' w', Pl W w' a g foot' most l (putl most r k v) → Fr foot w w' → (∀ x ∈ foot', x ∈ foot ∨ w.heap.size ≤ x) → Q (.bool (putok most r k)) w') :
    CallR Try.prog 34 #[.pointer (some (at0 g 0)), .int .u64 k, .int .i64 v] w Q := by
  have h0 := h
  obtain ⟨⟨fa, fr, hf, h1, h2, h3⟩, h4, h5, h6⟩ := h
  subst hf
  unfold putl at hK
  refine rput_spec h2 h6 (fun hh hm w' f => ?_) (fun hh fa' w' t f e => ?_)
  · have : putok most r k = false := by unfold putok; rw [hh]; simp; omega
    rw [this] at hK
    exact hK _ w' (h0.keep' f) f.any (fun x hx => .inl hx)
  · have : putok most r k = true := by
      unfold putok
      rcases hh with hh | hh
      · rw [hh]; rfl
      · simp [hh]
    rw [this] at hK
    obtain ⟨k1, k2, k3⟩ := Pl.stepB h4 h5 h6 h1 t h3 f e
    exact hK _ w' k1 k2 k3
theorem Pl.drop {k : Int} (h : Pl W w a g foot most l r) (hK : ∀ foot' w', Pl W w' a g foot' most (drp ilt l k) r → Fr foot w w' → (∀ x ∈ foot', x ∈ foot ∨ w.heap.size ≤ x) → Q (.bool (has ilt l k)) w') :
    CallR Try.prog 21 #[.pointer (some a), .int .u64 k] w Q := by
  obtain ⟨⟨fa, fr, hf, h1, h2, h3⟩, h4, h5, h6⟩ := h
  subst hf
  refine drop_UI h1 (fun w' t f => ?_)
  obtain ⟨k1, k2, k3⟩ := Pl.stepA h4 h5 h6 t h2 h3 f (fun x hx => .inl hx)
  exact hK _ w' k1 k2 k3
theorem Pl.rdrop {k : Int} (h : Pl W w a g foot most l r) (hK : ∀ foot' w', Pl W w' a g foot' most l (drp ilt r k) → Fr foot w w' → (∀ x ∈ foot', x ∈ foot ∨ w.heap.size ≤ x) → Q (.bool (has ilt r k)) w') :
    CallR Try.prog 28 #[.pointer (some (at0 g 0)), .int .u64 k] w Q := by
  obtain ⟨⟨fa, fr, hf, h1, h2, h3⟩, h4, h5, h6⟩ := h
  subst hf
  refine rdrop_spec h2 (fun fa' w' t f e => ?_)
  obtain ⟨k1, k2, k3⟩ := Pl.stepB h4 h5 h6 h1 t h3 f e
  exact hK _ w' k1 k2 k3
theorem Pl.tabA (h : Pl W w a g foot most l r) : ∃ fa, T_UI w a fa most l := by obtain ⟨⟨fa, fr, hf, h1, h2, h3⟩, _⟩ := h; exact ⟨fa, h1⟩
theorem Pl.tabB (h : Pl W w a g foot most l r) : ∃ fr, Ref w g fr most r := by obtain ⟨⟨fa, fr, hf, h1, h2, h3⟩, _⟩ := h; exact ⟨fr, h2⟩
/-- the end of each step -/
theorem pl_tail {K : World → Prop} (h : Pl W w a g foot most l l) (hK : K w) : CallR Try.prog 18 #[.pointer (some a)] w fun v16 w17 => ∃ (y18 : Int), v16 = .int .i64 y18 ∧ ldSl w17 (at0 g 1) fun x19p x19n x19c => (World.cell? w (at0 g 1) = some (.slice x19p x19n x19c) ∧ World.cell? w17 (at0 g 1) = some (.slice x19p x19n x19c)) ∧ bcase (y18 != ((x19n : Nat) : Int)) (Q (.bool false) w17) (K w17) := by
  obtain ⟨fa, t⟩ := h.tabA
  obtain ⟨fb, pk, pv, ck, cv, u⟩ := h.tabB
  have hc := u.blk.cell (i := 1) rfl
  exact len_UI t ⟨_, rfl, ld_sl hc ⟨⟨hc, hc⟩, bc_ne (fun h => absurd rfl h) (fun _ => hK)⟩⟩
theorem bnot_self (b : Bool) : (!(b == b)) = false := by cases b <;> rfl
end
section
variable {W w : World} {a : Addr} {g : Nat} {foot : List Nat} {most : Int} {l r : KV}
theorem play_step {p : Option Addr} {n c : Nat} {i : Int} {x0 x1 x2 : Int} {x3 : Value} {b : Nat} {b0 : Option Addr → Nat → Nat → Option Addr → Addr → Int → World → Prop} (h : Pl W w a g foot most l l) (hb : Blk w b [.int .i64 x0, .int .u64 x1, .int .i64 x2, x3] 50) (hbf : b ∉ foot)
    (hK : ∀ foot' w' l', Pl W w' a g foot' most l' l' → b0 p n c (some a) (at0 g 0) (IntKind.wrap .i64 (i + 1)) w') : X8.j2 (Ok W) b0 p n c (some a) (at0 g 0) i (at0 b 0) w := by
  have hbl := hb.lt
  unfold X8.j2 drewK
  simp only [add_at, Nat.zero_add]
  refine ld_int (hb.cell rfl) (pick_spec (by omega) (by omega) ⟨_, rfl, ?_⟩)
  generalize x0 % 8 = d
  have f0 : Fr [] w w.drew := Fr.drew
  obtain ⟨fa, t⟩ := h.tabA
  obtain ⟨fb, u⟩ := h.tabB
  have tail : ∀ {w'} {Q : Value → World → Prop}, Fr [] w w' → CallR Try.prog 18 #[.pointer (some a)] w'.drew fun v16 w17 => ∃ (y18 : Int), v16 = .int .i64 y18 ∧ ldSl w17 (at0 g 1) fun x19p x19n x19c => (World.cell? w'.drew (at0 g 1) = some (.slice x19p x19n x19c) ∧ World.cell? w17 (at0 g 1) = some (.slice x19p x19n x19c)) ∧ bcase (y18 != ((x19n : Nat) : Int)) (Q (.bool false) w17) (b0 p n c (some a) (at0 g 0) (IntKind.wrap .i64 (i + 1)) w17) :=
    fun f => have h' := h.keep' (f.tr Fr.drew); pl_tail h' (hK _ _ _ h')
  refine bc_eq (fun _ => ?_) (fun _ => bc_eq (fun _ => ?_) (fun _ => bc_eq (fun _ => ?_) (fun _ => bc_eq (fun _ => ?_) (fun _ => bc_eq (fun _ => ?_) (fun _ => ?_)))))
  · refine ld_int (hb.cell rfl) ?_
    have key : ∀ o : Option Int, get ilt l x1 = o → ∃ (y8 : Int) (y9 : Bool), itup o = .tuple #[.int .i64 y8, .bool y9] ∧ ldI .u64 w (at0 b 1) fun x10 => CallR Try.prog 27 #[.pointer (some (at0 g 0)), .int .u64 x10] w fun v11 w12 => ∃ (y13 : Int) (y14 : Bool), v11 = .tuple #[.int .i64 y13, .bool y14] ∧ bcase (y8 == y13) (bcase (!(y9 == y14)) ((Ok W) (.bool false) w12.drew) (CallR Try.prog 18 #[.pointer (some a)] w12.drew fun v16 w17 => ∃ (y18 : Int), v16 = .int .i64 y18 ∧ ldSl w17 (at0 g 1) fun x19p x19n x19c => (World.cell? w12.drew (at0 g 1) = some (.slice x19p x19n x19c) ∧ World.cell? w17 (at0 g 1) = some (.slice x19p x19n x19c)) ∧ bcase (y18 != ((x19n : Nat) : Int)) ((Ok W) (.bool false) w17) (b0 p n c (some a) (at0 g 0) (IntKind.wrap .i64 (i + 1)) w17))) ((Ok W) (.bool false) w12.drew) := by
      intro o ho
      refine ⟨_, _, rfl, ld_int (hb.cell rfl) (rget_spec u fun w' f => ?_)⟩
      rw [ho]
      refine ⟨_, _, rfl, bc_eq (fun _ => ?_) (fun h => absurd rfl h)⟩
      rw [bnot_self]
      exact tail f
    refine get_UI t (fun hn => key none hn) (fun v hv => key (some v) hv)
  · have h1 := h.keep' f0
    refine ld_int ((hb.keep' f0).cell rfl) (h1.drop fun foot' w' h2 f2 e2 => ?_)
    have hbl1 : b < w.drew.heap.size := hbl
    have hb2 := (hb.keep' f0).keep f2 hbf
    refine ⟨_, rfl, ld_int (hb2.cell rfl) ⟨⟨(hb.keep' f0).cell rfl, hb2.cell rfl⟩, h2.rdrop fun foot2 w2 h3 f3 e3 => ⟨_, rfl, ?_⟩⟩⟩
    rw [bnot_self]
    have h4 := h3.keep' (Fr.drew (w := w2))
    exact pl_tail h4 (hK _ _ _ h4)
  · refine ld_int (hb.cell rfl) (next_UI t ?_)
    refine ⟨_, _, rfl, ld_int (hb.cell rfl) (rnext_spec u ⟨_, _, rfl, bc_eq (fun _ => ?_) (fun h => absurd rfl h)⟩)⟩
    rw [bnot_self]
    exact tail (Fr.refl w)
  · refine ld_int (hb.cell rfl) (after_UI t ?_)
    refine ⟨_, _, rfl, ld_int (hb.cell rfl) (rafter_spec u ⟨_, _, rfl, bc_eq (fun _ => ?_) (fun h => absurd rfl h)⟩)⟩
    rw [bnot_self]
    exact tail (Fr.refl w)
  · refine first_UI t ⟨_, _, rfl, rfirst_spec u ⟨_, _, rfl, bc_eq (fun _ => ?_) (fun h => absurd rfl h)⟩⟩
    rw [bnot_self]
    exact tail (Fr.refl w)
  · have h1 := h.keep' f0
    refine ld_int ((hb.keep' f0).cell rfl) (ld_int ((hb.keep' f0).cell rfl) (h1.put fun foot' w' h2 f2 e2 => ?_))
    have hb2 := (hb.keep' f0).keep f2 hbf
    refine ⟨_, rfl, ld_int (hb2.cell rfl) ⟨⟨(hb.keep' f0).cell rfl, hb2.cell rfl⟩, ld_int (hb2.cell rfl) ⟨⟨(hb.keep' f0).cell rfl, hb2.cell rfl⟩, h2.rput fun foot2 w2 h3 f3 e3 => ⟨_, rfl, ?_⟩⟩⟩⟩
    rw [bnot_self]
    have h4 := h3.keep' (Fr.drew (w := w2))
    exact pl_tail h4 (hK _ _ _ h4)
/-- the end: the keys that are told are the document's, each with its value, and they are new memory -/
theorem play_l1 {p : Option Addr} {c N : Nat} : ∀ (f i : Nat) (w : World) (row : List Value), l.length - i < f → Pl W w a g foot most l l → Own 36 1 w p l.length c row → (∀ x ∈ fbl p, x ∉ foot ∧ W.heap.size ≤ x) → (∀ j, i ≤ j → row[j]? = (ku l)[j]?) → i ≤ l.length → X8.l1 (Ok W) f (some a) (at0 g 0) p l.length c (i : Int) w
  | 0, i, w, row, hf, _, _, _, _, _ => by omega
  | f + 1, i, w, row, hf, h, ho, hp, hr, hi => by
    rw [X8.l1]
    obtain ⟨fb, u⟩ := h.tabB
    obtain ⟨pk, pv, ck, cv, t⟩ := u
    have f0 : Fr [] w w.drew := Fr.drew
    have htop := t.top
    unfold drewK
    simp only [add_at, Nat.zero_add]
    have hc1 : ∀ {w'}, Fr [] w w' → w'.cell? (at0 g 1) = some (.slice pk l.length ck) := fun f => (t.blk.keep' f).cell rfl
    refine bc_dec (fun h1 => ?_) (fun h1 => ?_)
    · have hlt : i < l.length := by omega
      have hk : (keys l)[i]? = some l[i].1 := by simp [hlt]
      have hrow : row[i]? = some (.int .u64 l[i].1) := by rw [hr i (Nat.le_refl _)]; simp [hlt]
      have hli := List.getElem?_eq_getElem hlt
      generalize l[i] = e at hk hrow hli
      refine ld_sl (hc1 f0) (bc_neg (by omega) ⟨⟨by omega, by omega⟩, ?_⟩)
      obtain ⟨q, hq, cq⟩ := (ho.keep' f0).cells _ _ hrow
      refine opt_some hq (ld_int (by rw [Int.toNat_natCast, Nat.mul_one]; exact cq) (ld_sl (hc1 f0) ⟨⟨by omega, by omega⟩, ?_⟩))
      obtain ⟨q2, hq2, cq2⟩ := cell_43 (t.ks.keep' f0).cells hk
      refine opt_some hq2 (ld_int (by rw [Int.toNat_natCast]; exact cq2) (bc_ne (fun h => absurd rfl h) (fun _ => ?_)))
      unfold X8.j4
      simp only [add_at, Nat.zero_add]
      refine ⟨⟨by omega, by omega⟩, opt_some hq (ld_int (by rw [Int.toNat_natCast, Nat.mul_one]; exact cq) ?_)⟩
      have h' := h.keep' f0
      obtain ⟨fa, ta⟩ := h'.tabA
      have hget : get ilt l e.1 = some e.2 := (get_iff ilt_lin t.srt).2 (List.mem_iff_getElem?.2 ⟨i, hli⟩)
      refine get_UI ta (fun hn => by rw [hget] at hn; cases hn) (fun v hv => ?_)
      rw [hget] at hv
      injection hv with hv
      subst hv
      refine ⟨_, _, rfl, bc_bool (fun h => by cases h) (fun _ => ld_sl ((t.blk.keep' f0).cell rfl) ⟨⟨by omega, by omega⟩, ?_⟩)⟩
      obtain ⟨q3, hq3, cq3⟩ := (t.vs.keep' f0).cells _ _ (flat_get vc_len_UI l hli (j := 0) rfl)
      refine opt_some hq3 (ld_int (by rw [Int.toNat_natCast]; exact cq3) (bc_ne (fun h => absurd rfl h) (fun _ => ?_)))
      have ho' := ho.keep' f0
      subst hq
      have hrl : row.length = l.length := by have := ho.len; omega
      refine ⟨⟨by omega, by omega⟩, ?_⟩
      simp only [optP_some]
      refine ⟨by rw [Int.toNat_natCast, Nat.mul_one]; exact ho'.storeOk (by omega), ?_⟩
      rw [Int.toNat_natCast, Nat.mul_one]
      have hset := ho'.set (i := i) (by omega) (Value.int .u64 9223372036854775808)
      have fs : Fr (fbl (some q)) w.drew (w.drew.setCell (q.add i) (Value.int .u64 9223372036854775808)) := Fr.setCell (by simp [fbl, add_block]) _
      rw [show IntKind.wrap .i64 ((i : Int) + 1) = ((i + 1 : Nat) : Int) by rw [i64w _ (by omega) (by omega)]; omega]
      refine play_l1 (N := N) f (i + 1) _ _ (by omega) (h'.keep fs (fun x hx hm => (hp x hm).1 hx) (fun x hx => (hp x hx).2)) hset hp (fun j hj => ?_) (by omega)
      rw [List.getElem?_set_ne (by omega)]
      exact hr j (by omega)
    · have h' := h.keep' f0
      obtain ⟨fa, ta⟩ := h'.tabA
      refine ld_sl (hc1 f0) (bc_eq (fun _ => ?_) (fun h => absurd rfl h))
      refine keys_UI ta ?_
      intro p2 c2 w11 o11 f11 n11
      refine ⟨_, _, _, rfl, ld_sl (hc1 (f0.tr f11)) ⟨⟨hc1 f0, hc1 (f0.tr f11)⟩, bc_eq (fun _ => ?_) (fun h => absurd rfl h)⟩⟩
      refine bc_eq (fun h0 => ⟨rfl, h.fr.tr (f0.tr f11)⟩) (fun h0 => ?_)
      refine keys_UI (ta.keep' f11) ?_
      intro p3 c3 w15 o15 f15 n15
      have f15' := (f0.tr f11).tr f15
      have hlt : 0 < l.length := by omega
      have hk : (keys l)[0]? = some l[0].1 := by simp [hlt]
      generalize l[0] = e at hk
      obtain ⟨q, hq, cq⟩ := cell_43 o15.cells hk
      obtain ⟨q2, hq2, cq2⟩ := cell_43 (t.ks.keep' (f0.tr f11)).cells hk
      obtain ⟨q2', hq2', cq2'⟩ := cell_43 (t.ks.keep' f15').cells hk
      rw [hq2] at hq2'
      injection hq2' with hq2'
      subst hq2'
      refine ⟨_, _, _, rfl, ⟨by omega, by omega⟩, opt_some hq (ld_int cq (ld_sl (hc1 f15') ⟨⟨hc1 (f0.tr f11), hc1 f15'⟩, ⟨by omega, by omega⟩, opt_some hq2 (ld_int cq2' ⟨⟨cq2, cq2'⟩, ?_⟩)⟩))⟩
      exact ⟨by simp, h.fr.tr f15'⟩
theorem play_j5 (h : Pl W w a g foot most l l) : X8.j5 (Ok W) (some a) (at0 g 0) w := by
  unfold X8.j5
  obtain ⟨fa, ta⟩ := h.tabA
  have hl := h.lt
  have s := h.fr.size
  refine keys_UI ta ?_
  intro p c w2 o f n
  refine ⟨_, _, _, rfl, l.length + 1, play_l1 (N := 0) (l.length + 1) 0 w2 _ (by omega) (h.keep' f) o (fun x hx => ⟨fun hm => ?_, ?_⟩) (fun j _ => rfl) (by omega)⟩
  · have := hl x hm; have := n x hx; omega
  · have := n x hx; omega
theorem play_l0 {p : Option Addr} {n c : Nat} (hc : StepsAt W p n) (hn : n ≤ 140737488355328) : ∀ (f t : Nat) (w : World) (foot : List Nat) (l : KV), n - t < f → Pl W w a g foot most l l → t ≤ n → X8.l0 (Ok W) f p n c (some a) (at0 g 0) (t : Int) w
  | 0, t, w, foot, l, hf, _, _ => by omega
  | f + 1, t, w, foot, l, hf, h, ht => by
    rw [X8.l0]
    refine bc_dec (fun h1 => bc_dec (fun h2 => ?_) (fun _ => play_j5 h)) (fun _ => play_j5 h)
    obtain ⟨q, x1, x2, x3, x4, hp, c1, c2, c3, c4, _⟩ := hc t (by omega)
    unfold X8.j3 newK
    have g1 := h.fr.cell' c1
    have g2 := h.fr.cell' c2
    have g3 := h.fr.cell' c3
    have g4 := h.fr.cell' c4
    simp only [Int.toNat_natCast, add_add, Nat.add_zero]
    refine ⟨⟨by omega, by omega⟩, opt_some hp (ld_int g1 (ld_int g2 (ld_int g3 (ld_bool g4 ?_))))⟩
    have hl := h.lt
    have s := h.fr.size
    have b1 := Blk.made w #[.int .i64 0, .int .u64 0, .int .i64 0, .bool false] 50
    have f1 : Fr [] w (w.alloc (.cells #[.int .i64 0, .int .u64 0, .int .i64 0, .bool false] 50)) := Fr.alloc _ _
    rw [show (⟨w.heap.size, 0, none⟩ : Addr) = at0 w.heap.size 0 from rfl]
    refine stAll_blk b1 (by simp) ?_
    intro w8 b8 f8
    have h8 := (h.keep' f1).keep f8 (fun x hx hm => by have := hl x hx; simp at hm; omega) (fun x hx => by simp at hx; omega)
    have hbf : w.heap.size ∉ foot := fun hm => by have := hl _ hm; omega
    simp only [add_at, Nat.zero_add]
    have fin : ∀ foot' w' l', Pl W w' a g foot' most l' l' → X8.l0 (Ok W) f p n c (some a) (at0 g 0) (IntKind.wrap .i64 ((t : Int) + 1)) w' := fun foot' w' l' k => by
      rw [show IntKind.wrap .i64 ((t : Int) + 1) = ((t + 1 : Nat) : Int) by rw [i64w _ (by omega) (by omega)]; omega]
      exact play_l0 hc hn f (t + 1) w' foot' l' (by omega) k (by omega)
    refine ld_bool (b8.cell rfl) (bc_bool (fun _ => ?_) (fun _ => ?_))
    · refine ld_int (b8.cell rfl) ⟨by decide, b8.storeOk (by simp), ?_⟩
      have b9 := b8.set 1 (.int .u64 (Int.tmod x2 12))
      have f9 : Fr [w.heap.size] w8 (w8.setCell (at0 w.heap.size 1) (.int .u64 (Int.tmod x2 12))) := Fr.setCell (by simp [at0]) _
      exact play_step (h8.keep f9 (fun x hx hm => by have := hl x hx; simp at hm; omega) (fun x hx => by simp at hx; omega)) b9 hbf fin
    · exact play_step h8 b8 hbf fin
theorem tablePlays_row {H : Type} {p : Option Addr} {n c : Nat} {d : DataW H} (a0 : Int) (w0 : (Lit.int .i64 a0).wf = true) (hd : Lies Try.prog W 6 48 [.slice p n c] d) (y : n * 32 ≤ 140737488351232) :
    CallR Try.prog 8 #[.int .i64 a0, .slice p n c] W fun v w' => v = .bool true ∧ Fr [] W w' := by
  refine X8.sound _ _ _ _ _ _ ?_
  unfold X8.f
  refine newL_UI (Fr.refl W) (fun h => ?_) ?_
  · refine ⟨_, _, rfl, known_spec fun w2 f2 => ⟨_, rfl, bc_bool (fun h => by cases h) (fun _ => ?_)⟩⟩
    exact bc_dec (fun _ => bc_eq (fun _ => ⟨rfl, f2⟩) (fun h => absurd rfl h)) (fun h1 => bc_dec (fun _ => bc_eq (fun _ => ⟨rfl, f2⟩) (fun h => absurd rfl h)) (fun h2 => by omega))
  intro m1 m2 g0 w1 k1
  refine ⟨_, _, rfl, known_spec fun w2 f2 => ⟨_, rfl, bc_bool (fun h => by cases h) (fun _ => ?_)⟩⟩
  have k2 := k1.keep f2
  refine bc_neg (by omega) (bc_neg (by omega) ?_)
  unfold X8.j7
  refine bc_ne (fun h => absurd rfl h) (fun _ => bc_bool (fun h => by cases h) (fun _ => ?_))
  unfold X8.j6 newK
  rw [show (⟨w2.heap.size, 0, none⟩ : Addr) = at0 w2.heap.size 0 from rfl]
  have f3 : Fr [] w2 (w2.alloc (.cells #[.int .i64 a0, .slice none 0 0, .slice none 0 0] 61)) := Fr.alloc _ _
  have k3 := k2.keep f3
  obtain ⟨⟨fa, ta, hfa⟩, hr⟩ := k3
  have tl := (k2.t)
  have s := k2.fr.size
  obtain ⟨⟨fa2, ta2, hfa2⟩, hr2⟩ := k2
  have hl2 := ta2.lt
  refine ⟨n + 1, play_l0 (most := a0) (steps_of_lies hd) (by omega) (n + 1) 0 _ (fa2 ++ [w2.heap.size]) [] (by omega) ⟨⟨fa2, [w2.heap.size], rfl, ta2.keep' f3, ⟨none, none, 0, 0, ⟨Blk.made w2 _ _, Own.nil, Own.nil, rfl, by simp [fbl], by simp [fbl], by simp [fbl], List.Pairwise.nil, by simp⟩⟩, fun x hx hm => ?_⟩, fun x hx => ?_, hr, m2⟩ (by omega)⟩
  · have := hl2 x hx; simp at hm; omega
  · rcases List.mem_append.1 hx with h | h
    · exact hfa2 x h
    · simp at h; omega
end
end Go.Proofs.YtbgebldhpbnacaaX
