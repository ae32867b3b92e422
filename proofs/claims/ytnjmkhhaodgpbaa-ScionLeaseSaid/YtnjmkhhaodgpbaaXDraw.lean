/- A region that draws its order: told in one order for each way in which what changes the world may come up. -/
import Derived.Test.YtnjmkhhaodgpbaaXRun
import Derived.Still
namespace Go.Proofs.YtnjmkhhaodgpbaaX
open Go.RowKit
set_option linter.unusedVariables false
set_option linter.unusedSimpArgs false

def chOp (o : Oper) : Bool := match o.op with
  | .move _ => false
  | .assign _ => false
  | .pick .. => false
  | .build .. => false
  | .nilCheck _ => false
  | .binOp .. => false
  | .unOp .. => false
  | .convert .. => false
  | .makeFunc .. => false
  | .slice .. => false
  | .fieldAddr .. => false
  | .indexAddr .. => false
  | .index .. => false
  | .extract .. => false
  | .load .. => false
  | .call c => match c.callee with
    | .builtin .len => false
    | .builtin .cap => false
    | .builtin .max => false
    | .builtin .min => false
    | _ => true
  | _ => true
def chAt (ops : Array Oper) (i : Nat) : Bool := match ops.toList[i]? with
  | some o => chOp o
  | none => false
/-- D j: the operations that stand ahead of j, a bit each. -/
def dep (D : List Nat) (i j : Nat) : Bool := (D.getD j 0).testBit i
def comm (D : List Nat) (y x : Nat) : Bool := !dep D x y && !dep D y x
/-- One step, with what may come up elsewhere. -/
def StD (P : Program) (ops : Array Oper) (D : List Nat) (chk : Nat → World → Prop) (i : Nat) (o : Oper) (a : Act) (w : World) (v : Value) (w1 : World) : Prop :=
  (Region.wanted o (yielded ops a.tmps) = true ∧ ((chOp o = true ∧ ResX P o a w v w1 ∧ ∀ x, comm D i x = true → chAt ops x = false → chk x w ∧ chk x w1) ∨
    (chOp o = false ∧ w1 = w ∧ chk i w ∧ ∀ w2, chk i w2 → ResX P o a w2 v w2))) ∨
  (Region.wanted o (yielded ops a.tmps) = false ∧ v = undef ∧ w1 = w)
def RD (P : Program) (ops : Array Oper) (D : List Nat) (chk : Nat → World → Prop) : List Nat → Act → World → Act → World → Prop
  | [], a, w, a', w' => a' = a ∧ w' = w
  | i :: l, a, w, a', w' => ∃ o v w1, ops.toList[i]? = some o ∧ StD P ops D chk i o a w v w1 ∧ RD P ops D chk l (a.put o.dst v) w1 a' w'
section
variable {P : Program} {ops : Array Oper} {D : List Nat} {chk : Nat → World → Prop}
theorem ResX.put {o : Oper} {a : Act} {w w1 : World} {v u : Value} {d : Option Tmp} (hs : ∀ cs b, o.op ≠ .select cs b) (hd : ∀ e, d = some e → e ∉ o.looksAt ops) : ResX P o (a.put d u) w v w1 ↔ ResX P o a w v w1 := by
  unfold ResX
  rw [execOp_put o hs a d u hd]
theorem StD.put {i : Nat} {o : Oper} {a : Act} {w w1 : World} {v u : Value} {d : Option Tmp} (hs : ∀ cs b, o.op ≠ .select cs b) (hd : ∀ e, d = some e → e ∉ o.looksAt ops) :
    StD P ops D chk i o (a.put d u) w v w1 ↔ StD P ops D chk i o a w v w1 := by
  unfold StD
  rw [wanted_put o a d u hd]
  simp only [ResX.put hs hd]
theorem chAt_of {i : Nat} {o : Oper} (h : ops.toList[i]? = some o) : chAt ops i = chOp o := by simp only [chAt, h]
theorem swap (hsel : Region.noSelect ops = true) {y x : Nat} {oy ox : Oper} (hy : ops.toList[y]? = some oy) (hx : ops.toList[x]? = some ox) (hap : oy.apart ops ox = true)
    (hc : comm D y x = true) (hcx : comm D x y = true) (hch : ¬ (chOp oy = true ∧ chOp ox = true)) {a a' : Act} {w w' : World} {l : List Nat} (h : RD P ops D chk (y :: x :: l) a w a' w') : RD P ops D chk (x :: y :: l) a w a' w' := by
  obtain ⟨h1, h2, h3⟩ := Oper.apart_spec hap
  have sy : ∀ cs b, oy.op ≠ .select cs b := fun cs b => Region.noSelect_spec hsel y oy cs b (by simpa using hy)
  have sx : ∀ cs b, ox.op ≠ .select cs b := fun cs b => Region.noSelect_spec hsel x ox cs b (by simpa using hx)
  obtain ⟨oy', vy, w1, hy', hSy, ox', vx, w2, hx', hSx, hr⟩ := h
  rw [hy] at hy'
  rw [hx] at hx'
  injection hy' with hy'
  injection hx' with hx'
  subst hy'
  subst hx'
  rw [StD.put sx h1] at hSx
  have hput := Act.put_comm a (x := oy.dst) (y := ox.dst) vy vx h2
  rw [hput] at hr
  have key : ∃ w3, StD P ops D chk x ox a w vx w3 ∧ StD P ops D chk y oy a w3 vy w2 := by
    cases hcx' : chOp ox with
    | false =>
      have hw2 : w2 = w1 := by rcases hSx with ⟨_, ⟨h', _⟩ | ⟨_, h', _⟩⟩ | ⟨_, _, h'⟩ <;> first | exact h' | (rw [hcx'] at h'; cases h')
      subst hw2
      refine ⟨w, ?_, hSy⟩
      rcases hSx with ⟨hwx, ⟨h', _⟩ | ⟨_, _, hck, hres⟩⟩ | ⟨hwx, hv, _⟩
      · rw [hcx'] at h'; cases h'
      · refine .inl ⟨hwx, .inr ⟨hcx', rfl, ?_, hres⟩⟩
        rcases hSy with ⟨_, ⟨_, _, hob⟩ | ⟨_, he, _⟩⟩ | ⟨_, _, he⟩
        · exact (hob x hc (by rw [chAt_of hx, hcx'])).1
        · rw [← he]; exact hck
        · rw [← he]; exact hck
      · exact .inr ⟨hwx, hv, rfl⟩
    | true =>
      have hcy : chOp oy = false := by
        cases hb : chOp oy with
        | false => rfl
        | true => exact absurd ⟨hb, hcx'⟩ hch
      have hw1 : w1 = w := by rcases hSy with ⟨_, ⟨h', _⟩ | ⟨_, h', _⟩⟩ | ⟨_, _, h'⟩ <;> first | exact h' | (rw [hcy] at h'; cases h')
      subst hw1
      refine ⟨w2, hSx, ?_⟩
      rcases hSy with ⟨hwy, ⟨h', _⟩ | ⟨_, _, hck, hres⟩⟩ | ⟨hwy, hv, _⟩
      · rw [hcy] at h'; cases h'
      · refine .inl ⟨hwy, .inr ⟨hcy, rfl, ?_, hres⟩⟩
        rcases hSx with ⟨_, ⟨_, _, hob⟩ | ⟨h', _⟩⟩ | ⟨_, _, he⟩
        · exact (hob y hcx (by rw [chAt_of hy, hcy])).2
        · rw [hcx'] at h'; cases h'
        · rw [he]; exact hck
      · exact .inr ⟨hwy, hv, rfl⟩
  obtain ⟨w3, k1, k2⟩ := key
  exact ⟨ox, vx, w3, hx, k1, oy, vy, w2, hy, (StD.put sy h3).2 k2, hr⟩

/-- What an order must be: each behind what it hangs on, and what isn't tied to it apart. -/
def okO (ops : Array Oper) (D : List Nat) : List Nat → Bool
  | [] => true
  | i :: l => match ops.toList[i]? with
    | none => false
    | some o => !l.contains i && o.after.toList.all (fun e => !Region.binds .any e || (!l.contains e.on && e.on != i && Nat.blt e.on ops.toList.length)) &&
      l.all (fun j => !dep D j i && (dep D i j || match ops.toList[j]? with
        | some oj => o.apart ops oj
        | none => false)) && okO ops D l
theorem okO_drop : ∀ (l1 : List Nat) (i : Nat) (l2 : List Nat), okO ops D (l1 ++ i :: l2) = true → okO ops D (l1 ++ l2) = true
  | [], i, l2, h => by
    simp only [List.nil_append, okO] at h ⊢
    split at h
    · cases h
    · simp only [Bool.and_eq_true] at h
      exact h.2
  | k :: l1, i, l2, h => by
    simp only [List.cons_append, okO] at h ⊢
    split at h
    · cases h
    · rename_i o ho
      simp only [Bool.and_eq_true] at h ⊢
      obtain ⟨⟨⟨ha, hb⟩, hc⟩, hd⟩ := h
      refine ⟨⟨⟨?_, ?_⟩, ?_⟩, okO_drop l1 i l2 hd⟩
      · simp at ha ⊢
        exact ⟨ha.1, ha.2.2⟩
      · rw [List.all_eq_true] at hb ⊢
        intro e he
        have := hb e he
        simp only [Bool.or_eq_true, Bool.not_eq_true', Bool.and_eq_true] at this ⊢
        rcases this with h1 | h1
        · exact .inl h1
        · refine .inr ⟨⟨?_, h1.1.2⟩, h1.2⟩
          have h2 := h1.1.1
          simp at h2 ⊢
          exact ⟨h2.1, h2.2.2⟩
      · rw [List.all_eq_true] at hc ⊢
        intro j hj
        refine hc j ?_
        simp at hj ⊢
        rcases hj with h1 | h1
        · exact .inl h1
        · exact .inr (.inr h1)
theorem okO_pair : ∀ (l1 : List Nat) (i : Nat) (l2 : List Nat), okO ops D (l1 ++ i :: l2) = true → ∀ y ∈ l1, dep D i y = false ∧ (dep D y i = true ∨ ∃ oy oi, ops.toList[y]? = some oy ∧ ops.toList[i]? = some oi ∧ oy.apart ops oi = true) ∧ y ≠ i
  | [], _, _, _, y, hy => by cases hy
  | k :: l1, i, l2, h, y, hy => by
    simp only [List.cons_append, okO] at h
    split at h
    · cases h
    · rename_i o ho
      simp only [Bool.and_eq_true] at h
      obtain ⟨⟨⟨ha, hb⟩, hc⟩, hd⟩ := h
      rcases List.mem_cons.1 hy with rfl | hy
      · rw [List.all_eq_true] at hc
        have := hc i (by simp)
        simp only [Bool.and_eq_true, Bool.not_eq_true', Bool.or_eq_true] at this
        refine ⟨this.1, ?_, ?_⟩
        · rcases this.2 with h1 | h1
          · exact .inl h1
          · split at h1
            · rename_i oj hoj
              exact .inr ⟨o, oj, ho, hoj, h1⟩
            · cases h1
        · intro he
          subst he
          simp at ha
      · exact okO_pair l1 i l2 hd y hy
theorem okO_head {i : Nat} {l : List Nat} (h : okO ops D (i :: l) = true) : ∃ o, ops.toList[i]? = some o ∧ i ∉ l ∧ ∀ e ∈ o.after, Region.binds .any e = true → e.on ∉ l ∧ e.on ≠ i ∧ e.on < ops.size := by
  simp only [okO] at h
  split at h
  · cases h
  · rename_i o ho
    simp only [Bool.and_eq_true] at h
    obtain ⟨⟨⟨ha, hb⟩, hc⟩, hd⟩ := h
    refine ⟨o, ho, by simpa using ha, fun e he hbi => ?_⟩
    rw [List.all_eq_true] at hb
    have := hb e (by simpa using he)
    rw [hbi] at this
    simp at this
    refine ⟨this.1.1, this.1.2, ?_⟩
    exact this.2
theorem move_front (hsel : Region.noSelect ops = true) {x : Nat} {ox : Oper} (hx : ops.toList[x]? = some ox) : ∀ (l1 l2 : List Nat) {a a' : Act} {w w' : World},
    (∀ y ∈ l1, ∃ oy, ops.toList[y]? = some oy ∧ oy.apart ops ox = true ∧ comm D y x = true ∧ comm D x y = true ∧ ¬ (chOp oy = true ∧ chOp ox = true)) →
    RD P ops D chk (l1 ++ x :: l2) a w a' w' → RD P ops D chk (x :: (l1 ++ l2)) a w a' w'
  | [], l2, a, a', w, w', _, h => h
  | y :: l1, l2, a, a', w, w', hl, h => by
    obtain ⟨oy, hy, hap, c1, c2, hch⟩ := hl y (by simp)
    obtain ⟨o, v, w1, ho, hS, hr⟩ := h
    have ih := move_front hsel hx l1 l2 (fun z hz => hl z (by simp [hz])) hr
    exact swap hsel hy hx hap c1 c2 hch ⟨o, v, w1, ho, hS, ih⟩
/-- The bits of D are ties indeed. -/
def maskU (D : List Nat) (o : Oper) : Nat := o.after.toList.foldl (fun s e => bif Region.binds .any e then Nat.lor s (Nat.lor (2 ^ e.on) (D.getD e.on 0)) else s) 0
def okD (ops : Array Oper) (D : List Nat) : List Oper → Nat → Bool
  | [], _ => true
  | o :: l, j => o.after.toList.all (fun e => !Region.binds .any e || Nat.blt e.on j) && Nat.beq (Nat.land (D.getD j 0) (maskU D o)) (D.getD j 0) && okD ops D l (j + 1)
theorem okD_at : ∀ (l : List Oper) (k : Nat), okD ops D l k = true → ∀ j o, l[j]? = some o → (∀ e ∈ o.after, Region.binds .any e = true → e.on < k + j) ∧ Nat.land (D.getD (k + j) 0) (maskU D o) = D.getD (k + j) 0
  | [], _, _, j, o, h => by simp at h
  | x :: l, k, h, j, o, hj => by
    simp only [okD, Bool.and_eq_true] at h
    cases j with
    | zero =>
      simp at hj
      subst hj
      refine ⟨fun e he hb => ?_, Nat.eq_of_beq_eq_true h.1.2⟩
      have := List.all_eq_true.1 h.1.1 e (by simpa using he)
      rw [hb] at this
      simp at this
      simpa using this
    | succ j =>
      have := okD_at l (k + 1) h.2 j o (by simpa using hj)
      rwa [show k + (j + 1) = k + 1 + j by omega]
theorem maskU_bit {o : Oper} {i : Nat} (h : (maskU D o).testBit i = true) : ∃ e ∈ o.after, Region.binds .any e = true ∧ (e.on = i ∨ dep D i e.on = true) := by
  unfold maskU at h
  have gen : ∀ (l : List Edge) (s : Nat), (l.foldl (fun s e => bif Region.binds .any e then Nat.lor s (Nat.lor (2 ^ e.on) (D.getD e.on 0)) else s) s).testBit i = true →
      s.testBit i = true ∨ ∃ e ∈ l, Region.binds .any e = true ∧ (e.on = i ∨ dep D i e.on = true) := by
    intro l
    induction l with
    | nil => intro s h; exact .inl h
    | cons e l ih =>
      intro s h
      simp only [List.foldl_cons] at h
      rcases ih _ h with h1 | ⟨e', he', hb', h1⟩
      · cases hb : Region.binds .any e with
        | false => rw [hb] at h1; exact .inl h1
        | true =>
          rw [hb] at h1
          simp only [cond_true] at h1
          change (s ||| (2 ^ e.on ||| D.getD e.on 0)).testBit i = true at h1
          rw [Nat.testBit_or, Nat.testBit_or] at h1
          simp only [Bool.or_eq_true] at h1
          rcases h1 with h1 | h1 | h1
          · exact .inl h1
          · rw [Nat.testBit_two_pow] at h1
            exact .inr ⟨e, by simp, hb, .inl (by simpa using h1)⟩
          · exact .inr ⟨e, by simp, hb, .inr h1⟩
      · exact .inr ⟨e', by simp [he'], hb', h1⟩
  rcases gen o.after.toList 0 h with h1 | ⟨e, he, hb, h1⟩
  · simp at h1
  · exact ⟨e, by simpa using he, hb, h1⟩
/-- What is listed stands behind what it hangs on. -/
def Closed (ops : Array Oper) (listed : Array Bool) : Prop := ∀ j o, ops.toList[j]? = some o → listed.getD j false = true → ∀ e ∈ o.after, Region.binds .any e = true → listed.getD e.on false = true
theorem dep_listed (hD : okD ops D ops.toList 0 = true) {listed : Array Bool} (hcl : Closed ops listed) : ∀ (j : Nat) {o : Oper}, ops.toList[j]? = some o → (∀ e ∈ o.after, Region.binds .any e = true → listed.getD e.on false = true) →
    ∀ i, dep D i j = true → listed.getD i false = true := by
  intro j
  induction j using Nat.strongRecOn with
  | _ j ih =>
    intro o ho hall i hi
    obtain ⟨hlt, hm⟩ := okD_at ops.toList 0 hD j o ho
    simp only [Nat.zero_add] at hlt hm
    have hbit : (maskU D o).testBit i = true := by
      unfold dep at hi
      rw [← hm] at hi
      change ((D.getD j 0) &&& (maskU D o)).testBit i = true at hi
      rw [Nat.testBit_and, Bool.and_eq_true] at hi
      exact hi.2
    obtain ⟨e, he, hb, hor⟩ := maskU_bit hbit
    have hl := hall e he hb
    rcases hor with rfl | hd
    · exact hl
    · have hlt' := hlt e he hb
      have hlt2 : e.on < ops.toList.length := by
        have := (List.getElem?_eq_some_iff.1 ho).1
        omega
      exact ih e.on hlt' (List.getElem?_eq_getElem hlt2) (hcl e.on _ (List.getElem?_eq_getElem hlt2) hl) i hd
theorem getD_set_self {listed : Array Bool} {i : Nat} (b : Bool) (h : i < listed.size) : (listed.setIfInBounds i true).getD i b = true := by
  simp [Array.getD_eq_getD_getElem?, h]
theorem getD_set_other {listed : Array Bool} {i j : Nat} (b : Bool) (h : i ≠ j) : (listed.setIfInBounds i true).getD j b = listed.getD j b := by
  simp [Array.getD_eq_getD_getElem?, Array.getElem?_setIfInBounds_ne h]
theorem okO_tail : ∀ (l : List Nat) (r : List Nat), okO ops D (l ++ r) = true → okO ops D r = true
  | [], r, h => h
  | z :: l, r, h => by
    simp only [List.cons_append, okO] at h
    split at h
    · cases h
    · simp only [Bool.and_eq_true] at h
      exact okO_tail l r h.2
theorem okO_nodup {l1 l2 : List Nat} {i : Nat} (h : okO ops D (l1 ++ i :: l2) = true) : i ∉ l1 ++ l2 := by
  intro hm
  rcases List.mem_append.1 hm with hm | hm
  · exact (okO_pair l1 i l2 h i hm).2.2 rfl
  · obtain ⟨_, _, hni, _⟩ := okO_head (okO_tail l1 _ h)
    exact hni hm
theorem okO_all_nodup : ∀ (l : List Nat), okO ops D l = true → l.Nodup
  | [], _ => List.nodup_nil
  | i :: l, h => by
    obtain ⟨_, _, hni, _⟩ := okO_head h
    exact List.nodup_cons.2 ⟨hni, okO_all_nodup l (okO_drop [] i l h)⟩
theorem go_succ (fuel t : Nat) (listed : Array Bool) : Region.linearise.go .any ops (fuel + 1) t listed [] = match (Region.ready .any ops listed)[t % (Region.ready .any ops listed).length]? with
        | some i => i :: Region.linearise.go .any ops fuel (t / (Region.ready .any ops listed).length) (listed.setIfInBounds i true) []
        | none => [] := by
  simp only [Region.linearise.go]
  change (match (Region.ready .any ops listed)[t % (Region.ready .any ops listed).length]? with
    | some i => Region.linearise.go .any ops fuel (t / (Region.ready .any ops listed).length) (listed.setIfInBounds i true) [i]
    | none => [].reverse) = _
  split
  · rename_i i hi
    rw [linearise_go_acc]
    rfl
  · rfl
theorem ready_nil {t : Nat} {listed : Array Bool} {rem : List Nat} (hsz : listed.size = ops.size) (hok : okO ops D rem = true) (hrem : ∀ i, i ∈ rem ↔ (i < ops.size ∧ listed.getD i true = false))
    (hi : (Region.ready .any ops listed)[t % (Region.ready .any ops listed).length]? = none) : rem = [] := by
  have hnil : Region.ready .any ops listed = [] := by
    cases hr : Region.ready .any ops listed with
    | nil => rfl
    | cons x xs =>
      rw [hr] at hi
      have hlt : t % (x :: xs).length < (x :: xs).length := Nat.mod_lt _ (by simp)
      rw [List.getElem?_eq_getElem hlt] at hi
      cases hi
  cases rem with
  | nil => rfl
  | cons i l =>
    exfalso
    obtain ⟨o, ho, hni, hall⟩ := okO_head hok
    have hun := (hrem i).1 (by simp)
    have : i ∈ Region.ready .any ops listed := by
      rw [mem_ready]
      refine ⟨hun.2, o, by simpa using ho, fun e he hb => ?_⟩
      obtain ⟨h1, h2, h3⟩ := hall e he hb
      have hnr : e.on ∉ i :: l := by simp [h1, h2]
      have hlt : e.on < listed.size := by omega
      have hnot := mt (hrem e.on).2 hnr
      simp only [not_and] at hnot
      have := hnot h3
      simp only [Array.getD_eq_getD_getElem?, Array.getElem?_eq_getElem hlt, Option.getD_some] at this ⊢
      simpa using this
    rw [hnil] at this
    cases this
theorem closed_set {listed : Array Bool} {i : Nat} {o : Oper} (hcl : Closed ops listed) (ho' : ops.toList[i]? = some o) (hall : ∀ e ∈ o.after, Region.binds .any e = true → listed.getD e.on false = true) (hil : i < listed.size) :
    Closed ops (listed.setIfInBounds i true) := by
  intro j oj hj hlj e he hb
  by_cases hji : j = i
  · subst hji
    rw [ho'] at hj
    injection hj with hj
    subst hj
    have := hall e he hb
    by_cases hei : j = e.on
    · rw [← hei]; exact getD_set_self _ hil
    · rw [getD_set_other _ hei]; exact this
  · rw [getD_set_other _ (Ne.symm hji)] at hlj
    have := hcl j oj hj hlj e he hb
    by_cases hei : i = e.on
    · rw [← hei]; exact getD_set_self _ hil
    · rw [getD_set_other _ hei]; exact this
theorem rem_set {listed : Array Bool} {l1 l2 : List Nat} {i : Nat} (hrem : ∀ j, j ∈ l1 ++ i :: l2 ↔ (j < ops.size ∧ listed.getD j true = false)) (hil : i < listed.size) (hnod : i ∉ l1 ++ l2) :
    ∀ j, j ∈ l1 ++ l2 ↔ (j < ops.size ∧ (listed.setIfInBounds i true).getD j true = false) := by
  intro j
  by_cases hji : j = i
  · subst hji
    rw [getD_set_self _ hil]
    simpa using hnod
  · rw [getD_set_other _ (Ne.symm hji), ← hrem j]
    simp [hji]
theorem draw_run {Q : Exit → Act → World → Prop} (hsel : Region.noSelect ops = true) (hD : okD ops D ops.toList 0 = true) {a' : Act} {w' : World} (hQ : Q .normal a' w') :
    ∀ (fuel t : Nat) (listed : Array Bool) (rem : List Nat) (a : Act) (w : World), listed.size = ops.size → okO ops D rem = true → (∀ i, i ∈ rem ↔ (i < ops.size ∧ listed.getD i true = false)) → rem.length ≤ fuel → Closed ops listed →
      RD P ops D chk rem a w a' w' → (Region.linearise.go .any ops fuel t listed []).filter (chAt ops) = rem.filter (chAt ops) → wpOps P ops Q (Region.linearise.go .any ops fuel t listed []) a w := by
  intro fuel
  induction fuel with
  | zero =>
    intro t listed rem a w hsz hok hrem hlen hcl h hf
    have : rem = [] := List.eq_nil_of_length_eq_zero (by omega)
    subst this
    obtain ⟨rfl, rfl⟩ := h
    simpa [Region.linearise.go, wpOps] using hQ
  | succ fuel ih =>
    intro t listed rem a w hsz hok hrem hlen hcl h hf
    have hgo : Region.linearise.go .any ops (fuel + 1) t listed [] = match (Region.ready .any ops listed)[t % (Region.ready .any ops listed).length]? with
        | some i => i :: Region.linearise.go .any ops fuel (t / (Region.ready .any ops listed).length) (listed.setIfInBounds i true) []
        | none => [] := by
      simp only [Region.linearise.go]
      change (match (Region.ready .any ops listed)[t % (Region.ready .any ops listed).length]? with
        | some i => Region.linearise.go .any ops fuel (t / (Region.ready .any ops listed).length) (listed.setIfInBounds i true) [i]
        | none => [].reverse) = _
      split
      · rename_i i hi
        rw [linearise_go_acc]
        rfl
      · rfl
    rw [hgo] at hf ⊢
    cases hi : (Region.ready .any ops listed)[t % (Region.ready .any ops listed).length]? with
    | none =>
      have hnil : Region.ready .any ops listed = [] := by
        cases hr : Region.ready .any ops listed with
        | nil => rfl
        | cons x xs =>
          rw [hr] at hi
          have hlt : t % (x :: xs).length < (x :: xs).length := Nat.mod_lt _ (by simp)
          rw [List.getElem?_eq_getElem hlt] at hi
          cases hi
      have hrn : rem = [] := by
        cases rem with
        | nil => rfl
        | cons i l =>
          exfalso
          obtain ⟨o, ho, hni, hall⟩ := okO_head hok
          have hun := (hrem i).1 (by simp)
          have : i ∈ Region.ready .any ops listed := by
            rw [mem_ready]
            refine ⟨hun.2, o, by simpa using ho, fun e he hb => ?_⟩
            obtain ⟨h1, h2, h3⟩ := hall e he hb
            have hnr : e.on ∉ i :: l := by simp [h1, h2]
            have hlt : e.on < listed.size := by omega
            have hnot := mt (hrem e.on).2 hnr
            simp only [not_and] at hnot
            have := hnot h3
            simp only [Array.getD_eq_getD_getElem?, Array.getElem?_eq_getElem hlt, Option.getD_some] at this ⊢
            simpa using this
          rw [hnil] at this
          cases this
      subst hrn
      obtain ⟨rfl, rfl⟩ := h
      simpa [wpOps] using hQ
    | some i =>
      rw [hi] at hf
      have hmem := List.mem_of_getElem? hi
      rw [mem_ready] at hmem
      obtain ⟨hun, o, ho, hall⟩ := hmem
      have ho' : ops.toList[i]? = some o := by simpa using ho
      have hlt : i < ops.size := (Array.getElem?_eq_some_iff.1 ho).1
      have hin : i ∈ rem := (hrem i).2 ⟨hlt, hun⟩
      obtain ⟨l1, l2, rfl⟩ := List.append_of_mem hin
      have hpair := okO_pair l1 i l2 hok
      have hndep : ∀ y ∈ l1, dep D y i = false := by
        intro y hy
        cases hd : dep D y i with
        | false => rfl
        | true =>
          have h1 := dep_listed hD hcl i ho' hall y hd
          have h2 := ((hrem y).1 (by simp [hy])).2
          have hylt : y < listed.size := by have := ((hrem y).1 (by simp [hy])).1; omega
          simp only [Array.getD_eq_getD_getElem?, Array.getElem?_eq_getElem hylt, Option.getD_some] at h1 h2
          rw [h1] at h2
          cases h2
      have hnch : ∀ y ∈ l1, ∀ oy, ops.toList[y]? = some oy → ¬ (chOp oy = true ∧ chOp o = true) := by
        rintro y hy oy hoy ⟨c1, c2⟩
        simp only [List.filter_cons, List.filter_append, chAt_of ho', c2, if_true] at hf
        have hne : l1.filter (chAt ops) ≠ [] := by
          intro he
          have : y ∈ l1.filter (chAt ops) := List.mem_filter.2 ⟨hy, by rw [chAt_of hoy, c1]⟩
          rw [he] at this
          cases this
        cases hl : l1.filter (chAt ops) with
        | nil => exact hne hl
        | cons z zs =>
          rw [hl] at hf
          simp only [List.cons_append, List.cons.injEq] at hf
          have hz : z ∈ l1 := (List.mem_filter.1 (by rw [hl]; simp : z ∈ l1.filter (chAt ops))).1
          exact (hpair z hz).2.2 hf.1.symm
      have hfront := move_front (P := P) (chk := chk) hsel ho' l1 l2 (fun y hy => by
        obtain ⟨p1, p2, p3⟩ := hpair y hy
        have hd := hndep y hy
        rcases p2 with p2 | ⟨oy, oi, hoy, hoi, hap⟩
        · rw [hd] at p2; cases p2
        · rw [ho'] at hoi
          injection hoi with hoi
          subst hoi
          exact ⟨oy, hoy, hap, by simp [comm, hd, p1], by simp [comm, hd, p1], hnch y hy oy hoy⟩) h
      obtain ⟨o2, v, w1, ho2, hS, hr⟩ := hfront
      rw [ho'] at ho2
      injection ho2 with ho2
      subst ho2
      have hf' : (Region.linearise.go .any ops fuel (t / (Region.ready .any ops listed).length) (listed.setIfInBounds i true) []).filter (chAt ops) = (l1 ++ l2).filter (chAt ops) := by
        cases hc : chOp o with
        | false =>
          simp only [List.filter_cons, List.filter_append, chAt_of ho', hc, Bool.false_eq_true, if_false] at hf ⊢
          exact hf
        | true =>
          have hl0 : l1.filter (chAt ops) = [] := by
            rw [List.filter_eq_nil_iff]
            intro y hy hcy
            obtain ⟨p1, p2, p3⟩ := hpair y hy
            rcases p2 with p2 | ⟨oy, oi, hoy, hoi, hap⟩
            · rw [hndep y hy] at p2; cases p2
            · exact hnch y hy oy hoy ⟨by rw [← chAt_of hoy]; exact hcy, hc⟩
          simp only [List.filter_cons, List.filter_append, chAt_of ho', hc, if_true, hl0, List.nil_append, List.cons.injEq, true_and] at hf ⊢
          exact hf
      have hil : i < listed.size := by omega
      have hcl' : Closed ops (listed.setIfInBounds i true) := by
        intro j oj hj hlj e he hb
        by_cases hji : j = i
        · subst hji
          rw [ho'] at hj
          injection hj with hj
          subst hj
          have := hall e he hb
          by_cases hei : j = e.on
          · rw [← hei]; exact getD_set_self _ hil
          · rw [getD_set_other _ hei]; exact this
        · rw [getD_set_other _ (Ne.symm hji)] at hlj
          have := hcl j oj hj hlj e he hb
          by_cases hei : i = e.on
          · rw [← hei]; exact getD_set_self _ hil
          · rw [getD_set_other _ hei]; exact this
      have hnod : i ∉ l1 ++ l2 := by
        intro hm
        rcases List.mem_append.1 hm with hm | hm
        · exact (hpair i hm).2.2 rfl
        · have : okO ops D (i :: l2) = true := by
            have gen : ∀ l, okO ops D (l ++ i :: l2) = true → okO ops D (i :: l2) = true := by
              intro l
              induction l with
              | nil => exact fun h => h
              | cons z l ihl =>
                intro h
                simp only [List.cons_append, okO] at h
                split at h
                · cases h
                · simp only [Bool.and_eq_true] at h
                  exact ihl h.2
            exact gen l1 hok
          obtain ⟨_, _, hni, _⟩ := okO_head this
          exact hni hm
      have ihn := ih (t / (Region.ready .any ops listed).length) (listed.setIfInBounds i true) (l1 ++ l2) (a.put o.dst v) w1 (by simpa using hsz) (okO_drop l1 i l2 hok) (fun j => by
        by_cases hji : j = i
        · subst hji
          rw [getD_set_self _ hil]
          simpa using hnod
        · rw [getD_set_other _ (Ne.symm hji), ← hrem j]
          simp [hji]) (by simp at hlen ⊢; omega) hcl' hr hf'
      rw [wpOps_cons]
      unfold wpOp
      simp only [ho]
      rcases hS with ⟨hw, ⟨hc, hres, _⟩ | ⟨hc, rfl, hck, hres⟩⟩ | ⟨hw, rfl, rfl⟩
      · simp only [hw, if_true]
        exact .inl (hres.wp ihn)
      · simp only [hw, if_true]
        exact .inl ((hres _ hck).wp ihn)
      · simp only [hw, Bool.false_eq_true, if_false]
        exact ihn
end
end Go.Proofs.YtnjmkhhaodgpbaaX
