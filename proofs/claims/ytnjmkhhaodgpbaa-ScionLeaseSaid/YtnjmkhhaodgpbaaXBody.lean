/- Regions and bodies: what is told of them is what the machine comes to. -/
import Derived.Test.YtnjmkhhaodgpbaaXDrawW
namespace Go.Proofs.YtnjmkhhaodgpbaaX
open Go.RowKit
set_option linter.unusedVariables false
set_option linter.unusedSimpArgs false

/-! ### A region's operations, one behind the other -/
def RunL (P : Program) (ops : Array Oper) : List Oper → Act → World → Act → World → Prop
  | [], a, w, a', w' => a' = a ∧ w' = w
  | o :: l, a, w, a', w' => if Region.wanted o (yielded ops a.tmps) = true then ∃ v w1, ResX P o a w v w1 ∧ RunL P ops l (a.put o.dst v) w1 a' w' else RunL P ops l (a.put o.dst undef) w a' w'
def dstOf (ops : Array Oper) (j : Nat) : Option Nat := (ops.toList[j]?).bind (·.dst)
/-- The operation, if its guard lets it. -/
def stepW (P : Program) (ops : Array Oper) (o : Oper) (ρ : Env) (w : World) (K : Env → World → Prop) : Prop := match o.guard with
  | none => opW P o ρ w fun v w' => K (ρ.put o.dst v) w'
  | some (j, want) => om (dstOf ops j) fun d => om (ρ d) fun g => match g with
    | .bool t => bcase t
        (bif want then opW P o (ρ.put (some d) (.bool true)) w fun v w' => K ((ρ.put (some d) (.bool true)).put o.dst v) w' else K ((ρ.put (some d) (.bool true)).put o.dst undef) w)
        (bif want then K ((ρ.put (some d) (.bool false)).put o.dst undef) w else opW P o (ρ.put (some d) (.bool false)) w fun v w' => K ((ρ.put (some d) (.bool false)).put o.dst v) w')
    | .tuple _ => K (ρ.put o.dst undef) w
    | _ => False
def stepsW (P : Program) (ops : Array Oper) : List Oper → (Env → World → Prop) → Env → World → Prop
  | [], K, ρ, w => K ρ w
  | o :: l, K, ρ, w => stepW P ops o ρ w fun ρ' w' => stepsW P ops l K ρ' w'
section
variable {P : Program} {n : Nat} {ops : Array Oper}
theorem Env.le_same {ρ ρ' : Env} {d : Nat} {v : Value} (h : ρ' d = some v) (hl : ρ.le ρ') : (ρ.put (some d) v).le ρ' := Env.le_put h hl
theorem stepW_run (hN : NoGr P) {o : Oper} (hd : okDst n o = true) {ρ : Env} {a : Act} {w : World} {K : Env → World → Prop} (hA : Agree n ρ a) (h : stepW P ops o ρ w K) :
    ∃ ρ' a' w', (∀ l a2 w2, RunL P ops l a' w' a2 w2 → RunL P ops (o :: l) a w a2 w2) ∧ Agree n ρ' a' ∧ K ρ' w' := by
  have hlt := okDst_lt hd
  unfold stepW at h
  split at h
  · rename_i hg
    obtain ⟨v, w', hK, hr⟩ := opW_res hN hA h
    refine ⟨_, _, _, fun l a2 w2 hl => ?_, hA.put hlt v, hK⟩
    have hw : Region.wanted o (yielded ops a.tmps) = true := by simp [Region.wanted, hg]
    simp only [RunL]
    rw [if_pos hw]
    exact ⟨v, w', hr, hl⟩
  · rename_i j want hg
    obtain ⟨d, hdst, h⟩ := om_elim h
    obtain ⟨g, hgv, h⟩ := om_elim h
    have hat := hA.at_ d g hgv
    have hy : yielded ops a.tmps j = match g with | .bool b => some b | _ => none := by
      unfold yielded
      simp only [dstOf, Array.getElem?_toList] at hdst
      rw [hdst]
      simp only [Option.bind_some, hat]
      cases g <;> rfl
    have run : ∀ (b : Bool), yielded ops a.tmps j = some b → b = want → (ρ' : Env) → ρ'.le ρ → (opW P o ρ' w fun v w' => K (ρ'.put o.dst v) w') →
        ∃ ρ' a' w', (∀ l a2 w2, RunL P ops l a' w' a2 w2 → RunL P ops (o :: l) a w a2 w2) ∧ Agree n ρ' a' ∧ K ρ' w' := by
      intro b hyb he ρ' hle h7
      subst he
      have hA' := hA.mono hle
      obtain ⟨v, w', hK, hr⟩ := opW_res hN hA' h7
      refine ⟨_, _, _, fun l a2 w2 hl => ?_, hA'.put hlt v, hK⟩
      have hw : Region.wanted o (yielded ops a.tmps) = true := by
        unfold Region.wanted
        rw [hg]
        show (yielded ops a.tmps j == some b) = true
        rw [hyb]
        cases b <;> rfl
      simp only [RunL]
      rw [if_pos hw]
      exact ⟨v, w', hr, hl⟩
    have skip : yielded ops a.tmps j ≠ some want → (ρ' : Env) → ρ'.le ρ → K (ρ'.put o.dst undef) w →
        ∃ ρ' a' w', (∀ l a2 w2, RunL P ops l a' w' a2 w2 → RunL P ops (o :: l) a w a2 w2) ∧ Agree n ρ' a' ∧ K ρ' w' := by
      intro hy ρ' hle h
      refine ⟨_, _, _, fun l a2 w2 hl => ?_, (hA.mono hle).put hlt undef, h⟩
      have hw : ¬ Region.wanted o (yielded ops a.tmps) = true := by simp [Region.wanted, hg, hy]
      simp only [RunL]
      rw [if_neg hw]
      exact hl
    split at h
    · rename_i t
      have hput : ∀ b, t = b → (ρ.put (some d) (.bool b)).le ρ := fun b hb => Env.le_put (by rw [hgv, hb]) (fun _ _ h => h)
      cases t with
      | true =>
        simp only [bcase_true] at h
        cases want with
        | true => exact run true hy rfl _ (hput _ rfl) h
        | false => exact skip (by rw [hy]; simp) _ (hput _ rfl) h
      | false =>
        simp only [bcase_false] at h
        cases want with
        | true => exact skip (by rw [hy]; simp) _ (hput _ rfl) h
        | false => exact run false hy rfl _ (hput _ rfl) h
    · exact skip (by rw [hy]; simp) _ (fun _ _ h => h) h
    · exact h.elim
theorem stepsW_run (hN : NoGr P) : ∀ (l : List Oper), l.all (okDst n) = true → ∀ {ρ : Env} {a : Act} {w : World} {K : Env → World → Prop}, Agree n ρ a → stepsW P ops l K ρ w →
    ∃ ρ' a' w', (∀ l2 a2 w2, RunL P ops l2 a' w' a2 w2 → RunL P ops (l ++ l2) a w a2 w2) ∧ Agree n ρ' a' ∧ K ρ' w'
  | [], _, ρ, a, w, K, hA, h => ⟨ρ, a, w, fun _ _ _ h => h, hA, h⟩
  | o :: l, hd, ρ, a, w, K, hA, h => by
    simp only [List.all_cons, Bool.and_eq_true] at hd
    obtain ⟨ρ1, a1, w1, h1, hA1, hK1⟩ := stepW_run hN hd.1 hA h
    obtain ⟨ρ2, a2, w2, h2, hA2, hK2⟩ := stepsW_run hN l hd.2 hA1 hK1
    exact ⟨ρ2, a2, w2, fun l2 a3 w3 h => h1 _ _ _ (h2 l2 a3 w3 h), hA2, hK2⟩
theorem wpOps_of_run {Q : Exit → Act → World → Prop} : ∀ (l : List Oper) (k : Nat) (a : Act) (w : World) (a' : Act) (w' : World), (∀ j, l[j]? = ops.toList[k + j]?) → k + l.length = ops.size → RunL P ops l a w a' w' → Q .normal a' w' →
    wpOps P ops Q ((List.range ops.size).drop k) a w
  | [], k, a, w, a', w', _, hk, h, hQ => by
    obtain ⟨rfl, rfl⟩ := h
    rw [List.drop_eq_nil_of_le (by simp at hk ⊢; omega)]
    exact hQ
  | o :: l, k, a, w, a', w', hl, hk, h, hQ => by
    simp only [List.length_cons] at hk
    have hlt : k < (List.range ops.size).length := by simp; omega
    have ho : ops[k]? = some o := by have := hl 0; simpa using this.symm
    have ih := fun a1 w1 h => wpOps_of_run (Q := Q) l (k + 1) a1 w1 a' w' (fun j => by have := hl (j + 1); simpa [Nat.add_assoc, Nat.add_comm 1 j] using this) (by omega) h hQ
    rw [List.drop_eq_getElem_cons hlt]
    simp only [List.getElem_range, wpOps, ho]
    simp only [RunL] at h
    by_cases hw : Region.wanted o (yielded ops a.tmps) = true
    · rw [if_pos hw] at h
      obtain ⟨v, w1, hr, h⟩ := h
      simp only [hw, if_true]
      exact .inl (hr.wp (ih _ _ h))
    · rw [if_neg hw] at h
      simp only [hw]
      exact ih _ _ h
end

/-! ### Bodies -/
abbrev Fuel := Nat → Nat
def setF (φ : Fuel) (j m : Nat) : Fuel := fun i => bif Nat.beq i j then m else φ i
abbrev Cont := Exit → Fuel → Env → World → Prop
/-- Where a body is parted: joins and loops bear a number each. -/
inductive Ann where
  | leaf
  | reg (cuts : List (Nat × Nat))
  | draw (D : List Nat) (orders : List (List Nat))
  | seq (a b : Ann)
  | cond (a b : Ann)
  | block (a : Ann)
  | loop (j : Nat) (a : Ann)
  | join (j : Nat) (a : Ann)
def thenC (H : Fuel → Env → World → Prop) (K : Cont) : Cont
  | .normal => H
  | e => K e
def blockC (id : Nat) (K : Cont) : Cont
  | .exit i => bif Nat.beq i id then K .normal else K (.exit i)
  | e => K e
abbrev Segs := Nat → Fuel → Env → World → Prop
def regW (P : Program) (ops : Array Oper) (S : Segs) : List (Nat × Nat) → List Oper → (Fuel → Env → World → Prop) → Fuel → Env → World → Prop
  | [], l, K, φ, ρ, w => stepsW P ops l (K φ) ρ w
  | (n, j) :: _, l, K, φ, ρ, w => stepsW P ops (l.take n) (S j φ) ρ w
def regV (P : Program) (ops : Array Oper) (S : Segs) : List (Nat × Nat) → List Oper → (Fuel → Env → World → Prop) → Prop
  | [], _, _ => True
  | (n, j) :: cs, l, K => (∀ φ ρ w, S j φ ρ w → ∃ ρ' : Env, ρ'.le ρ ∧ regW P ops S cs (l.drop n) K φ ρ' w) ∧ regV P ops S cs (l.drop n) K
def W (P : Program) (S : Segs) : Ann → Code → Cont → Fuel → Env → World → Prop
  | .leaf, c, K, φ, ρ, w => match c with
    | .skip => K .normal φ ρ w
    | .ret => K .ret φ ρ w
    | .exit id => K (.exit id) φ ρ w
    | .region _ ops false => stepsW P ops ops.toList (K .normal φ) ρ w
    | _ => False
  | .reg cs, c, K, φ, ρ, w => match c with
    | .region _ ops false => regW P ops S cs ops.toList (K .normal) φ ρ w
    | _ => False
  | .draw D os, c, K, φ, ρ, w => match c with
    | .region _ ops true => allOf os fun π => drawW P ops D (K .normal φ) π ρ w.drew [] []
    | _ => False
  | .seq a b, c, K, φ, ρ, w => match c with
    | .seq x y => W P S a x (thenC (fun φ ρ w => W P S b y K φ ρ w) K) φ ρ w
    | _ => False
  | .cond a b, c, K, φ, ρ, w => match c with
    | .cond t x y => om (ρ.ev t) fun v => match v with
      | .bool t => bcase t (W P S a x K φ ρ w) (W P S b y K φ ρ w)
      | _ => False
    | _ => False
  | .block a, c, K, φ, ρ, w => match c with
    | .block id x => W P S a x (blockC id K) φ ρ w
    | _ => False
  | .loop j a, c, K, φ, ρ, w => match c with
    | .loop _ => ∃ m, S j (setF φ j m) ρ w
    | _ => False
  | .join j a, c, K, φ, ρ, w => S j φ ρ w
def V (P : Program) (S : Segs) : Ann → Code → Cont → Prop
  | .leaf, _, _ => True
  | .reg cs, c, K => match c with
    | .region _ ops false => regV P ops S cs ops.toList (K .normal)
    | _ => True
  | .draw _ _, _, _ => True
  | .seq a b, c, K => match c with
    | .seq x y => V P S a x (thenC (fun φ ρ w => W P S b y K φ ρ w) K) ∧ V P S b y K
    | _ => True
  | .cond a b, c, K => match c with
    | .cond _ x y => V P S a x K ∧ V P S b y K
    | _ => True
  | .block a, c, K => match c with
    | .block id x => V P S a x (blockC id K)
    | _ => True
  | .loop j a, c, K => match c with
    | .loop x => (∀ φ ρ w, S j φ ρ w → ∃ m, m < φ j ∧ ∃ ρ' : Env, ρ'.le ρ ∧ W P S a x (thenC (S j) K) (setF φ j m) ρ' w) ∧ V P S a x (thenC (S j) K)
    | _ => True
  | .join j a, c, K => (∀ φ ρ w, S j φ ρ w → ∃ ρ' : Env, ρ'.le ρ ∧ W P S a c K φ ρ' w) ∧ V P S a c K
def Ann.loops : Ann → List Nat
  | .leaf => []
  | .reg _ => []
  | .draw _ _ => []
  | .seq a b => a.loops ++ b.loops
  | .cond a b => a.loops ++ b.loops
  | .block a => a.loops
  | .loop j a => j :: a.loops
  | .join _ a => a.loops
/-- The numbers of the loops are apart; the slots lie in the frame. -/
def okAnn (n : Nat) : Ann → Code → Bool
  | .leaf, c => match c with
    | .region _ ops _ => ops.toList.all (okDst n)
    | _ => true
  | .reg _, c => match c with
    | .region _ ops _ => ops.toList.all (okDst n)
    | _ => true
  | .draw D os, c => match c with
    | .region _ ops _ => ops.toList.all (okDst n) && okDraw ops D os
    | _ => true
  | .seq a b, c => match c with
    | .seq x y => okAnn n a x && okAnn n b y
    | _ => true
  | .cond a b, c => match c with
    | .cond _ x y => okAnn n a x && okAnn n b y
    | _ => true
  | .block a, c => match c with
    | .block _ x => okAnn n a x
    | _ => true
  | .loop j a, c => match c with
    | .loop x => okAnn n a x && !(a.loops.contains j)
    | _ => true
  | .join _ a, c => okAnn n a c

/-- One exit, one frame, one world: in each frame of function F. -/
def Ex (P : Program) (F : FuncId) (c : Code) (a : Act) (w : World) (e : Exit) (a' : Act) (w' : World) : Prop :=
  ∀ (b : Frame), b.fn = F → ∀ (k : List Item) (cs : List Frame), Arrives P (lone (b.at a (.code c :: k)) cs w) b k cs e a' w'
section
variable {P : Program} {S : Segs} {n : Nat} {F : FuncId}
theorem ex_wp {c : Code} {a a' : Act} {w w' : World} {e : Exit} (h : c.wp P (fun e1 a1 w1 => e1 = e ∧ a1 = a' ∧ w1 = w') a w) : Ex P F c a w e a' w' := by
  intro b _ k cs
  obtain ⟨e1, a1, w1, ⟨he, ha, hw⟩, h2⟩ := h b k cs
  rw [← he, ← ha, ← hw]
  exact h2
theorem ex_seq {x y : Code} {a a1 a2 : Act} {w w1 w2 : World} {e : Exit} (h : Ex P F x a w .normal a1 w1) (h2 : Ex P F y a1 w1 e a2 w2) : Ex P F (.seq x y) a w e a2 w2 :=
  fun b hb k cs => .of_steps (.head step_seq (h b hb (.code y :: k) cs)) (h2 b hb k cs)
theorem ex_seq_out {x y : Code} {a a1 : Act} {w w1 : World} {e : Exit} (h : Ex P F x a w e a1 w1) (hne : e ≠ .normal) : Ex P F (.seq x y) a w e a1 w1 :=
  fun b hb k cs => .of_steps (.one step_seq) (.pass (x := .code y) rfl (fun _ _ => .inl hne) (h b hb (.code y :: k) cs))
theorem ex_cond {t : Operand} {b : Bool} {x y : Code} {a a1 : Act} {w w1 : World} {e : Exit} (ht : a.eval t = .bool b) (h : Ex P F (if b then x else y) a w e a1 w1) : Ex P F (.cond t x y) a w e a1 w1 :=
  fun f hf k cs => .of_steps (.one (step_cond ht)) (h f hf k cs)
theorem ex_block {id : Nat} {x : Code} {a a1 : Act} {w w1 : World} {e : Exit} (h : Ex P F x a w e a1 w1) (hne : e ≠ .exit id) : Ex P F (.block id x) a w e a1 w1 := by
  intro b hb k cs
  have harr := h b hb (.inBlock id :: k) cs
  cases e with
  | normal => exact .head step_block (Steps.trans harr (.one step_inBlock))
  | exit i =>
    have hi : i ≠ id := fun e => hne (by rw [e])
    refine fun k' hk => .head step_block (harr k' ?_)
    have : (id == i) = false := by simp; exact fun h => hi h.symm
    simp [exitTo, this, hk]
  | goto l => exact fun k' hk => .head step_block (harr k' (by simp [gotoIn, hk]))
  | ret => exact .of_steps (.one step_block) harr
  | panic ch => exact .of_steps (.one step_block) harr
  | outgrown => exact .of_steps (b := b) (k := k) (cs := cs) (e := .outgrown) (.one step_block) harr
theorem ex_block_exit {id : Nat} {x : Code} {a a1 : Act} {w w1 : World} (h : Ex P F x a w (.exit id) a1 w1) : Ex P F (.block id x) a w .normal a1 w1 :=
  fun b hb k cs => .head step_block (h b hb (.inBlock id :: k) cs k (by simp [exitTo]))
/-- From the head of a round on. -/
def ExB (P : Program) (F : FuncId) (c : Code) (a : Act) (w : World) (e : Exit) (a' : Act) (w' : World) : Prop :=
  ∀ (b : Frame), b.fn = F → ∀ (k : List Item) (cs : List Frame), Arrives P (lone (b.at a (.code c :: .inLoop c :: k)) cs w) b k cs e a' w'
theorem exB_round {c : Code} {a a1 a2 : Act} {w w1 w2 : World} {e : Exit} (h : Ex P F c a w .normal a1 w1) (h2 : ExB P F c a1 w1 e a2 w2) : ExB P F c a w e a2 w2 := by
  intro b hb k cs
  exact Arrives.of_steps (Steps.trans (h b hb (.inLoop c :: k) cs) (.one step_inLoop)) (h2 b hb k cs)
theorem exB_out {c : Code} {a a1 : Act} {w w1 : World} {e : Exit} (h : Ex P F c a w e a1 w1) (hne : e ≠ .normal) : ExB P F c a w e a1 w1 := by
  intro b hb k cs
  exact .pass (x := .inLoop c) rfl (fun _ _ => .inl hne) (h b hb (.inLoop c :: k) cs)
theorem ex_loop {c : Code} {a a1 : Act} {w w1 : World} {e : Exit} (h : ExB P F c a w e a1 w1) : Ex P F (.loop c) a w e a1 w1 :=
  fun b hb k cs => .of_steps (.one step_loop) (h b hb k cs)
theorem ex_region {id : Nat} {ops : Array Oper} {a a' : Act} {w w' : World} (h : RunL P ops ops.toList a w a' w') : Ex P F (.region id ops false) a w .normal a' w' := by
  refine ex_wp (wp_region ?_)
  have := wpOps_of_run (P := P) (ops := ops) (Q := fun e1 a1 w1 => e1 = .normal ∧ a1 = a' ∧ w1 = w') ops.toList 0 a w a' w' (by simp) (by simp) h ⟨rfl, rfl, rfl⟩
  simpa using this
theorem ex_draw {id : Nat} {ops : Array Oper} {a a' : Act} {w w' : World} (h : wpOps P ops (fun e1 a1 w1 => e1 = .normal ∧ a1 = a' ∧ w1 = w') (Region.schedule (P.follows .mixedOrders) ops (w.tape w.drawn (.order F id))) a w.drew) :
    Ex P F (.region id ops true) a w .normal a' w' := by
  intro b hb k cs
  subst hb
  obtain ⟨e, a1, w1, ⟨he, ha, hw⟩, r⟩ := wp_ops _ a w.drew h b k cs
  subst he; subst ha; subst hw
  exact .of_steps (.one step_region_draw) r

theorem regW_run (hN : NoGr P) {ops : Array Oper} {K : Fuel → Env → World → Prop} : ∀ (cs : List (Nat × Nat)) (l : List Oper), l.all (okDst n) = true → regV P ops S cs l K →
    ∀ {φ : Fuel} {ρ : Env} {a : Act} {w : World}, Agree n ρ a → regW P ops S cs l K φ ρ w → ∃ ρ' a' w', RunL P ops l a w a' w' ∧ Agree n ρ' a' ∧ K φ ρ' w'
  | [], l, hd, _, φ, ρ, a, w, hA, h => by
    obtain ⟨ρ', a', w', hr, hA', hK⟩ := stepsW_run hN l hd hA h
    exact ⟨ρ', a', w', by simpa using hr [] a' w' ⟨rfl, rfl⟩, hA', hK⟩
  | (m, j) :: cs, l, hd, hv, φ, ρ, a, w, hA, h => by
    have hd1 : (l.take m).all (okDst n) = true := by
      rw [List.all_eq_true] at hd ⊢
      exact fun o ho => hd o (List.mem_of_mem_take ho)
    have hd2 : (l.drop m).all (okDst n) = true := by
      rw [List.all_eq_true] at hd ⊢
      exact fun o ho => hd o (List.mem_of_mem_drop ho)
    obtain ⟨ρ1, a1, w1, hr1, hA1, hS⟩ := stepsW_run hN (l.take m) hd1 hA h
    obtain ⟨ρ2, hle, h2⟩ := hv.1 φ ρ1 w1 hS
    obtain ⟨ρ3, a3, w3, hr3, hA3, hK⟩ := regW_run hN cs (l.drop m) hd2 hv.2 (hA1.mono hle) h2
    refine ⟨ρ3, a3, w3, ?_, hA3, hK⟩
    have := hr1 (l.drop m) a3 w3 hr3
    rwa [List.take_append_drop] at this

theorem sound (F : FuncId) (hN : NoGr P) (hM : P.follows .mixedOrders = true) : ∀ (an : Ann) (c : Code) (K : Cont), okAnn n an c = true → V P S an c K → ∀ (φ : Fuel) (ρ : Env) (w : World), W P S an c K φ ρ w → ∀ a, Agree n ρ a →
    ∃ e φ' ρ' a' w', Ex P F c a w e a' w' ∧ Agree n ρ' a' ∧ K e φ' ρ' w' ∧ ∀ i, i ∉ an.loops → φ' i = φ i
  | .leaf, c, K, hok, hv, φ, ρ, w, h, a, hA => by
    simp only [W] at h
    split at h
    · exact ⟨.normal, φ, ρ, a, w, ex_wp (wp_skip ⟨rfl, rfl, rfl⟩), hA, h, fun _ _ => rfl⟩
    · exact ⟨.ret, φ, ρ, a, w, ex_wp (wp_ret ⟨rfl, rfl, rfl⟩), hA, h, fun _ _ => rfl⟩
    · exact ⟨_, φ, ρ, a, w, ex_wp (wp_exit ⟨rfl, rfl, rfl⟩), hA, h, fun _ _ => rfl⟩
    · obtain ⟨ρ', a', w', hr, hA', hK⟩ := stepsW_run hN _ (by simpa [okAnn] using hok) hA h
      exact ⟨.normal, φ, ρ', a', w', ex_region (by simpa using hr [] a' w' ⟨rfl, rfl⟩), hA', hK, fun _ _ => rfl⟩
    · exact h.elim
  | .reg cs, c, K, hok, hv, φ, ρ, w, h, a, hA => by
    simp only [W] at h
    split at h
    · obtain ⟨ρ', a', w', hr, hA', hK⟩ := regW_run hN cs _ (by simpa [okAnn] using hok) hv hA h
      exact ⟨.normal, φ, ρ', a', w', ex_region hr, hA', hK, fun _ _ => rfl⟩
    · exact h.elim
  | .draw D os, c, K, hok, hv, φ, ρ, w, h, a, hA => by
    simp only [W] at h
    split at h
    · rename_i id ops
      simp only [okAnn, Bool.and_eq_true] at hok
      obtain ⟨ρ', a', w', hr, hA', hK⟩ := draw_region hN hM hok.2 hok.1 h hA (w.tape w.drawn (.order F id))
      exact ⟨.normal, φ, ρ', a', w', ex_draw hr, hA', hK, fun _ _ => rfl⟩
    · exact h.elim
  | .seq p q, c, K, hok, hv, φ, ρ, w, h, a, hA => by
    simp only [W] at h
    split at h
    · rename_i x y
      simp only [okAnn, Bool.and_eq_true] at hok
      obtain ⟨e, φ1, ρ1, a1, w1, hx, hA1, hK1, hf1⟩ := sound F hN hM p x _ hok.1 hv.1 φ ρ w h a hA
      by_cases he : e = .normal
      · subst he
        obtain ⟨e2, φ2, ρ2, a2, w2, hy, hA2, hK2, hf2⟩ := sound F hN hM q y K hok.2 hv.2 φ1 ρ1 w1 hK1 a1 hA1
        exact ⟨e2, φ2, ρ2, a2, w2, ex_seq hx hy, hA2, hK2, fun i hi => by
          simp only [Ann.loops, List.mem_append, not_or] at hi
          rw [hf2 i hi.2, hf1 i hi.1]⟩
      · refine ⟨e, φ1, ρ1, a1, w1, ex_seq_out hx he, hA1, ?_, fun i hi => by
          simp only [Ann.loops, List.mem_append, not_or] at hi
          exact hf1 i hi.1⟩
        cases e <;> first | exact absurd rfl he | exact hK1
    · exact h.elim
  | .cond p q, c, K, hok, hv, φ, ρ, w, h, a, hA => by
    simp only [W] at h
    split at h
    · rename_i t x y
      simp only [okAnn, Bool.and_eq_true] at hok
      obtain ⟨v, hvv, h⟩ := om_elim h
      split at h
      · rename_i b
        cases b with
        | true =>
          obtain ⟨e, φ1, ρ1, a1, w1, hx, hA1, hK1, hf1⟩ := sound F hN hM p x K hok.1 hv.1 φ ρ w h a hA
          exact ⟨e, φ1, ρ1, a1, w1, ex_cond (hA.ev hvv) hx, hA1, hK1, fun i hi => by
            simp only [Ann.loops, List.mem_append, not_or] at hi
            exact hf1 i hi.1⟩
        | false =>
          obtain ⟨e, φ1, ρ1, a1, w1, hx, hA1, hK1, hf1⟩ := sound F hN hM q y K hok.2 hv.2 φ ρ w h a hA
          exact ⟨e, φ1, ρ1, a1, w1, ex_cond (hA.ev hvv) hx, hA1, hK1, fun i hi => by
            simp only [Ann.loops, List.mem_append, not_or] at hi
            exact hf1 i hi.2⟩
      · exact h.elim
    · exact h.elim
  | .block p, c, K, hok, hv, φ, ρ, w, h, a, hA => by
    simp only [W] at h
    split at h
    · rename_i id x
      obtain ⟨e, φ1, ρ1, a1, w1, hx, hA1, hK1, hf1⟩ := sound F hN hM p x _ hok hv φ ρ w h a hA
      by_cases he : e = .exit id
      · subst he
        exact ⟨.normal, φ1, ρ1, a1, w1, ex_block_exit hx, hA1, by simpa [blockC] using hK1, hf1⟩
      · refine ⟨e, φ1, ρ1, a1, w1, ex_block hx he, hA1, ?_, hf1⟩
        cases e with
        | exit i =>
          have hne : Nat.beq i id = false := by
            cases hb : Nat.beq i id with
            | false => rfl
            | true => exact absurd (by rw [Nat.eq_of_beq_eq_true hb]) he
          simpa [blockC, hne] using hK1
        | _ => exact hK1
    · exact h.elim
  | .loop j p, c, K, hok, hv, φ, ρ, w, h, a, hA => by
    simp only [W] at h
    split at h
    · rename_i x
      simp only [okAnn, Bool.and_eq_true, Bool.not_eq_true'] at hok
      obtain ⟨m, h⟩ := h
      have key : ∀ (k : Nat) (φ : Fuel) (ρ : Env) (w : World) (a : Act), φ j = k → S j φ ρ w → Agree n ρ a →
          ∃ e φ' ρ' a' w', ExB P F x a w e a' w' ∧ Agree n ρ' a' ∧ K e φ' ρ' w' ∧ ∀ i, i ∉ j :: p.loops → φ' i = φ i := by
        intro k
        induction k using Nat.strongRecOn with
        | _ k ih =>
          intro φ ρ w a hk hS hA
          obtain ⟨m, hm, ρ1, hle, hW⟩ := hv.1 φ ρ w hS
          obtain ⟨e, φ1, ρ2, a1, w1, hx, hA1, hK1, hf1⟩ := sound F hN hM p x _ hok.1 hv.2 _ ρ1 w hW a (hA.mono hle)
          have hfj : φ1 j = m := by
            rw [hf1 j (by simpa using hok.2)]
            simp [setF]
          have hfi : ∀ i, i ∉ j :: p.loops → φ1 i = φ i := by
            intro i hi
            simp only [List.mem_cons, not_or] at hi
            rw [hf1 i hi.2]
            have : Nat.beq i j = false := by
              cases hb : Nat.beq i j with
              | false => rfl
              | true => exact absurd (Nat.eq_of_beq_eq_true hb) hi.1
            simp [setF, this]
          by_cases he : e = .normal
          · subst he
            obtain ⟨e2, φ2, ρ3, a2, w2, hB, hA2, hK2, hf2⟩ := ih m (by omega) φ1 ρ2 w1 a1 hfj hK1 hA1
            exact ⟨e2, φ2, ρ3, a2, w2, exB_round hx hB, hA2, hK2, fun i hi => by rw [hf2 i hi, hfi i hi]⟩
          · refine ⟨e, φ1, ρ2, a1, w1, exB_out hx he, hA1, ?_, hfi⟩
            cases e <;> first | exact absurd rfl he | exact hK1
      obtain ⟨e, φ', ρ', a', w', hB, hA', hK', hf⟩ := key _ (setF φ j m) ρ w a rfl h hA
      exact ⟨e, φ', ρ', a', w', ex_loop hB, hA', hK', fun i hi => by
        rw [hf i hi]
        simp only [Ann.loops, List.mem_cons, not_or] at hi
        have : Nat.beq i j = false := by
          cases hb : Nat.beq i j with
          | false => rfl
          | true => exact absurd (Nat.eq_of_beq_eq_true hb) hi.1
        simp [setF, this]⟩
    · exact h.elim
  | .join j p, c, K, hok, hv, φ, ρ, w, h, a, hA => by
    obtain ⟨ρ1, hle, h1⟩ := hv.1 φ ρ w h
    exact sound F hN hM p c K hok hv.2 φ ρ1 w h1 a (hA.mono hle)
end
end Go.Proofs.YtnjmkhhaodgpbaaX
