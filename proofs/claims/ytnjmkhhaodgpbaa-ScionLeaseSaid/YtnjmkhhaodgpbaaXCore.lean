/- A calculus for the machine's code: what an operation does, told as a proposition over the values that are known, and that it is so. -/
import Derived.Calls
import Derived.Laws.World
import Derived.Laws.Entries
import Derived.Laws.Cells
import Derived.Laws.IdiomCopy
import Derived.RowKit
import Derived.Laws.BytesArg
namespace Go.Proofs.YtnjmkhhaodgpbaaX
set_option linter.unusedVariables false
set_option linter.unusedSimpArgs false

/-! ### Values that are known -/
abbrev Env := Nat → Option Value
def Env.nil : Env := fun _ => none
def Env.put (ρ : Env) (d : Option Nat) (v : Value) : Env := match d with
  | none => ρ
  | some d => fun i => bif Nat.beq i d then some v else ρ i
def Env.del (ρ : Env) (d : Option Nat) : Env := match d with
  | none => ρ
  | some d => fun i => bif Nat.beq i d then none else ρ i
def Env.ev (ρ : Env) : Operand → Option Value
  | .tmp t => ρ t
  | .const v => some v
  | .global g => some (.pointer (some ⟨g, 0, none⟩))
  | .func f => some (.func (.func f) #[] #[])
def Env.le (ρ ρ' : Env) : Prop := ∀ i v, ρ i = some v → ρ' i = some v
theorem Env.le_nil (ρ : Env) : Env.nil.le ρ := fun _ _ h => by cases h
theorem Env.le_put {ρ ρ' : Env} {i : Nat} {v : Value} (h : ρ' i = some v) (hl : ρ.le ρ') : (ρ.put (some i) v).le ρ' := by
  intro j u hj
  simp only [Env.put] at hj
  cases hb : Nat.beq j i with
  | true =>
    rw [hb] at hj
    have := Nat.eq_of_beq_eq_true hb
    subst this
    simp only [cond_true, Option.some.injEq] at hj
    subst hj
    exact h
  | false =>
    rw [hb] at hj
    exact hl j u hj

structure Agree (n : Nat) (ρ : Env) (a : Act) : Prop where
  size : a.tmps.size = n
  at_ : ∀ i v, ρ i = some v → a.tmps[i]? = some v
  defers : a.defers = []

section
variable {n : Nat} {ρ ρ' : Env} {a : Act}
theorem Agree.mono (h : Agree n ρ' a) (hl : ρ.le ρ') : Agree n ρ a := ⟨h.size, fun i v hi => h.at_ i v (hl i v hi), h.defers⟩
theorem Agree.put (h : Agree n ρ a) {d : Option Nat} (hd : ∀ i, d = some i → i < n) (v : Value) : Agree n (ρ.put d v) (a.put d v) := by
  cases d with
  | none => exact h
  | some d =>
    have hlt := hd d rfl
    refine ⟨by simp [Act.put, h.size], fun i u hi => ?_, h.defers⟩
    simp only [Env.put] at hi
    cases hb : Nat.beq i d with
    | true =>
      rw [hb] at hi
      have := Nat.eq_of_beq_eq_true hb
      subst this
      simp only [cond_true, Option.some.injEq] at hi
      subst hi
      simp [Act.put, h.size, hlt]
    | false =>
      rw [hb] at hi
      have hne : d ≠ i := fun e => by subst e; simp at hb
      have := h.at_ i u hi
      simp only [Act.put, Array.getElem?_setIfInBounds_ne hne]
      exact this
theorem Agree.del (h : Agree n ρ a) {d : Option Nat} (v : Value) : Agree n (ρ.del d) (a.put d v) := by
  cases d with
  | none => exact h
  | some d =>
    refine ⟨by simp [Act.put, h.size], fun i u hi => ?_, h.defers⟩
    simp only [Env.del] at hi
    cases hb : Nat.beq i d with
    | true => rw [hb] at hi; cases hi
    | false =>
      rw [hb] at hi
      have hne : d ≠ i := fun e => by subst e; simp at hb
      have := h.at_ i u hi
      simp only [Act.put, Array.getElem?_setIfInBounds_ne hne]
      exact this
theorem Agree.ev (h : Agree n ρ a) {x : Operand} {v : Value} (hx : ρ.ev x = some v) : a.eval x = v := by
  cases x with
  | tmp t =>
    have := h.at_ t v hx
    simp [Act.eval, Array.getD_eq_getD_getElem?, this]
  | const u => simpa [Env.ev, Act.eval] using hx
  | global g => simpa [Env.ev, Act.eval] using hx
  | func f => simpa [Env.ev, Act.eval] using hx
end

def evs (ρ : Env) : List Operand → Option (List Value)
  | [] => some []
  | x :: xs => match ρ.ev x, evs ρ xs with
    | some v, some vs => some (v :: vs)
    | _, _ => none
theorem evs_map {n : Nat} {ρ : Env} {a : Act} (h : Agree n ρ a) : ∀ {xs : List Operand} {vs : List Value}, evs ρ xs = some vs → xs.map a.eval = vs
  | [], vs, hx => by simp [evs] at hx; simp [hx]
  | x :: xs, vs, hx => by
    simp only [evs] at hx
    split at hx
    · rename_i v us h1 h2
      simp only [Option.some.injEq] at hx
      subst hx
      simp [h.ev h1, evs_map h h2]
    · cases hx
def evps (ρ : Env) : List (Nat × Operand) → Option (List (Nat × Value))
  | [] => some []
  | (i, x) :: xs => match ρ.ev x, evps ρ xs with
    | some v, some vs => some ((i, v) :: vs)
    | _, _ => none
theorem evps_map {n : Nat} {ρ : Env} {a : Act} (h : Agree n ρ a) : ∀ {xs : List (Nat × Operand)} {vs : List (Nat × Value)}, evps ρ xs = some vs → xs.map (fun p => (p.1, a.eval p.2)) = vs
  | [], vs, hx => by simp [evps] at hx; simp [hx]
  | (i, x) :: xs, vs, hx => by
    simp only [evps] at hx
    split at hx
    · rename_i v us h1 h2
      simp only [Option.some.injEq] at hx
      subst hx
      simp [h.ev h1, evps_map h h2]
    · cases hx

/-! ### The words -/
def om {α : Type} (o : Option α) (K : α → Prop) : Prop := match o with
  | some x => K x
  | none => False
theorem om_elim {α : Type} {o : Option α} {K : α → Prop} (h : om o K) : ∃ x, o = some x ∧ K x := by
  cases o with
  | none => exact h.elim
  | some x => exact ⟨x, rfl, h⟩
def bcase (t : Bool) (A B : Prop) : Prop := match t with
  | true => A
  | false => B
theorem bcase_iff {t : Bool} {A B : Prop} : bcase t A B ↔ (t = true → A) ∧ (t = false → B) := by cases t <;> simp [bcase]
@[simp] theorem bcase_true {A B : Prop} : bcase true A B = A := rfl
@[simp] theorem bcase_false {A B : Prop} : bcase false A B = B := rfl
def optP (a : Option Addr) (K : Addr → Prop) : Prop := match a with
  | some p => K p
  | none => False
@[simp] theorem optP_some {p : Addr} {K : Addr → Prop} : optP (some p) K = K p := rfl
theorem optP_elim {a : Option Addr} {K : Addr → Prop} (h : optP a K) : ∃ p, a = some p ∧ K p := by
  cases a with
  | none => exact h.elim
  | some p => exact ⟨p, rfl, h⟩

inductive Pat where
  | int (k : IntKind) | bool | str | ptr | slice | map | any
/-- Some value of this pattern, for which E holds, and K. -/
def Pat.got : Pat → (Value → Prop) → (Value → Prop) → Prop
  | .int k, E, K => ∃ x : Int, E (.int k x) ∧ K (.int k x)
  | .bool, E, K => ∃ b : Bool, E (.bool b) ∧ K (.bool b)
  | .str, E, K => ∃ s : ByteArray, E (.string s) ∧ K (.string s)
  | .ptr, E, K => ∃ p : Option Addr, E (.pointer p) ∧ K (.pointer p)
  | .slice, E, K => ∃ (p : Option Addr) (n c : Nat), E (.slice p n c) ∧ K (.slice p n c)
  | .map, E, K => ∃ r : Option Nat, E (.map r) ∧ K (.map r)
  | .any, E, K => ∃ v : Value, E v ∧ K v
theorem Pat.got_elim {p : Pat} {E K : Value → Prop} (h : p.got E K) : ∃ v, E v ∧ K v := by
  cases p <;> simp only [Pat.got] at h
  case slice => obtain ⟨p, n, c, h⟩ := h; exact ⟨_, h⟩
  all_goals (obtain ⟨x, h⟩ := h; exact ⟨_, h⟩)
def Pat.ex : Pat → (Value → Prop) → Prop
  | .int k, K => ∃ x : Int, K (.int k x)
  | .bool, K => ∃ b : Bool, K (.bool b)
  | .str, K => ∃ s : ByteArray, K (.string s)
  | .ptr, K => ∃ p : Option Addr, K (.pointer p)
  | .slice, K => ∃ (p : Option Addr) (n c : Nat), K (.slice p n c)
  | .map, K => ∃ r : Option Nat, K (.map r)
  | .any, K => ∃ v : Value, K v
theorem Pat.ex_elim {p : Pat} {K : Value → Prop} (h : p.ex K) : ∃ v, K v := by
  cases p <;> simp only [Pat.ex] at h
  case slice => obtain ⟨p, n, c, h⟩ := h; exact ⟨_, h⟩
  all_goals (obtain ⟨x, h⟩ := h; exact ⟨_, h⟩)
def gotAll : List Pat → Nat → (Nat → Value → Prop) → (List Value → Prop) → Prop
  | [], _, _, K => K []
  | p :: ps, i, E, K => p.got (E i) fun v => gotAll ps (i + 1) E fun vs => K (v :: vs)
theorem gotAll_elim : ∀ {ps : List Pat} {i : Nat} {E : Nat → Value → Prop} {K : List Value → Prop}, gotAll ps i E K → ∃ vs : List Value, vs.length = ps.length ∧ (∀ j v, vs[j]? = some v → E (i + j) v) ∧ K vs
  | [], i, E, K, h => ⟨[], rfl, by simp, h⟩
  | p :: ps, i, E, K, h => by
    obtain ⟨v, hv, h⟩ := Pat.got_elim h
    obtain ⟨vs, hl, hE, hK⟩ := gotAll_elim h
    refine ⟨v :: vs, by simp [hl], fun j u hj => ?_, hK⟩
    cases j with
    | zero => simp at hj; subst hj; simpa using hv
    | succ j => have := hE j u (by simpa using hj); rwa [show i + (j + 1) = i + 1 + j by omega]
def exPats : List Pat → (List Value → Prop) → Prop
  | [], F => F []
  | p :: ps, F => p.ex fun v => exPats ps fun vs => F (v :: vs)
theorem exPats_elim : ∀ {ps : List Pat} {F : List Value → Prop}, exPats ps F → ∃ vs, F vs
  | [], F, h => ⟨[], h⟩
  | p :: ps, F, h => by
    obtain ⟨v, h⟩ := Pat.ex_elim h
    obtain ⟨vs, h⟩ := exPats_elim h
    exact ⟨_, h⟩

/-- The cells of a type. -/
def cellPats (P : Program) : Nat → TypeId → List Pat
  | 0, _ => []
  | d + 1, t => match P.underlying t with
    | some (.struct fs) => fs.toList.flatMap fun f => cellPats P d f.type
    | some (.array n e) => (List.replicate n (cellPats P d e)).flatten
    | some (.int k) => [.int k]
    | some .bool => [.bool]
    | some .string => [.str]
    | some (.pointer _) => [.ptr]
    | some (.slice _) => [.slice]
    | some (.map _ _) => [.map]
    | some _ => [.any]
    | none => []
def isAggT (P : Program) (t : TypeId) : Option Bool := match P.underlying t with
  | some (.struct _) => some true
  | some (.array _ _) => some true
  | some _ => some false
  | none => none
def sizeT (P : Program) (t : TypeId) : Option Nat := (P.info? t).map (·.size)
def exType (P : Program) (t : TypeId) (F : Value → Prop) : Prop :=
  om (isAggT P t) fun ag => match ag, cellPats P 9 t with
    | true, ps => exPats ps fun vs => F (.agg ⟨vs⟩)
    | false, p :: _ => p.ex F
    | false, [] => False
theorem exType_elim {P : Program} {t : TypeId} {F : Value → Prop} (h : exType P t F) : ∃ v, F v := by
  obtain ⟨ag, _, h⟩ := om_elim h
  split at h
  · obtain ⟨vs, h⟩ := exPats_elim h; exact ⟨_, h⟩
  · exact Pat.ex_elim h
  · exact h.elim
def exTypes (P : Program) : List TypeId → (List Value → Prop) → Prop
  | [], F => F []
  | t :: ts, F => exType P t fun v => exTypes P ts fun vs => F (v :: vs)
theorem exTypes_elim {P : Program} : ∀ {ts : List TypeId} {F : List Value → Prop}, exTypes P ts F → ∃ vs, F vs
  | [], F, h => ⟨[], h⟩
  | t :: ts, F, h => by
    obtain ⟨v, h⟩ := exType_elim h
    obtain ⟨vs, h⟩ := exTypes_elim h
    exact ⟨_, h⟩
/-- The result v is of these types, and K. -/
def resW (P : Program) (ts : List TypeId) (v : Value) (K : Value → Prop) : Prop := match ts with
  | [] => v = .tuple #[] ∧ K (.tuple #[])
  | [t] => exType P t fun u => v = u ∧ K u
  | ts => exTypes P ts fun us => v = .tuple ⟨us⟩ ∧ K (.tuple ⟨us⟩)
theorem resW_elim {P : Program} {ts : List TypeId} {v : Value} {K : Value → Prop} (h : resW P ts v K) : K v := by
  unfold resW at h
  split at h
  · obtain ⟨he, h2⟩ := h; rw [he]; exact h2
  · obtain ⟨u, he, h2⟩ := exType_elim h; rw [he]; exact h2
  · obtain ⟨us, he, h2⟩ := exTypes_elim h; rw [he]; exact h2

/-! ### Calls: one ending, one world -/
def CallX (P : Program) (f : FuncId) (args : Array Value) (w : World) (v : Value) (w' : World) : Prop := Calls P f args w fun e w'' => e = .returned v ∧ w'' = w'
def CallR (P : Program) (f : FuncId) (args : Array Value) (w : World) (K : Value → World → Prop) : Prop := ∃ v w', CallX P f args w v w' ∧ K v w'
theorem CallR.mono {P : Program} {f : FuncId} {args : Array Value} {w : World} {K K' : Value → World → Prop} (h : CallR P f args w K) (hk : ∀ v w', K v w' → K' v w') : CallR P f args w K' := by
  obtain ⟨v, w', hc, h⟩ := h
  exact ⟨v, w', hc, hk _ _ h⟩
theorem CallR.calls {P : Program} {f : FuncId} {args : Array Value} {w : World} {K : Value → World → Prop} (h : CallR P f args w K) : Calls P f args w fun e w' => ∃ v, e = .returned v ∧ K v w' := by
  obtain ⟨v, w', hc, h⟩ := h
  exact hc.mono fun e w'' ⟨he, hw⟩ => ⟨v, he, hw ▸ h⟩
def RunR {α : Type} (P : Program) (s : Sem α) (w : World) (K : α → World → Prop) : Prop := ∃ v w', s.run P w = .ok v w' ∧ K v w'

/-- What an operation comes to: one value, one world. -/
def ResX (P : Program) (o : Oper) (a : Act) (w : World) (v : Value) (w' : World) : Prop :=
  (execOp a.eval o).run P w = .ok (.value v) w' ∨ ((execOp a.eval o).run P w = .ok .skip w' ∧ v = undef) ∨
    ∃ f args w1, (execOp a.eval o).run P w = .ok (.enter f args) w1 ∧ CallX P f args w1 v w'
theorem ResX.wp {P : Program} {o : Oper} {a : Act} {w w' : World} {v : Value} (h : ResX P o a w v w') {next : Act → World → Prop} {Q : Exit → Act → World → Prop} (hn : next (a.put o.dst v) w') : o.wp P a w next Q := by
  unfold Oper.wp
  rcases h with h | ⟨h, rfl⟩ | ⟨f, args, w1, h, hc⟩
  · rw [h]; exact hn
  · rw [h]; exact hn
  · rw [h]
    exact hc.mono fun e w'' ⟨he, hw⟩ => by subst he; subst hw; exact hn

/-! ### Numbers, as the operations tell them -/
def iAnd (k : IntKind) (a b : Int) : Int := k.wrap ((BitVec.ofInt k.bits a &&& BitVec.ofInt k.bits b).toNat : Int)
def iOr (k : IntKind) (a b : Int) : Int := k.wrap ((BitVec.ofInt k.bits a ||| BitVec.ofInt k.bits b).toNat : Int)
def iXor (k : IntKind) (a b : Int) : Int := k.wrap ((BitVec.ofInt k.bits a ^^^ BitVec.ofInt k.bits b).toNat : Int)
def iAndNot (k : IntKind) (a b : Int) : Int := k.wrap ((BitVec.ofInt k.bits a &&& ~~~BitVec.ofInt k.bits b).toNat : Int)
def iShl (k : IntKind) (a b : Int) : Int := k.wrap (a * 2 ^ (min b.toNat k.bits))
def iShr (k : IntKind) (a b : Int) : Int := a.fdiv (2 ^ (min b.toNat k.bits))
def iNot (k : IntKind) (a : Int) : Int := iXor k (if k.signed then -1 else k.max) a
def strEq (s t : ByteArray) : Bool := s.toList == t.toList
def strLt (s t : ByteArray) : Bool := Op.bytesLess s.toList t.toList

/-- Two values of one type whose cells are these: are they equal? (Numbers, bools, strings, structs of such, however deep.) -/
def eqFs (P : Program) (E : TypeId → List Value → List Value → Option Bool) : List Field → Nat → List Value → List Value → Option Bool
  | [], _, [], [] => some true
  | [], _, _, _ => none
  | f :: fs, off, xs, ys => bif f.name != "_" && f.offset == off && sizeT P f.type == some (P.cellsOf f.type) && Nat.ble (P.cellsOf f.type) xs.length && Nat.ble (P.cellsOf f.type) ys.length then
      match E f.type (xs.take (P.cellsOf f.type)) (ys.take (P.cellsOf f.type)), eqFs P E fs (off + P.cellsOf f.type) (xs.drop (P.cellsOf f.type)) (ys.drop (P.cellsOf f.type)) with
      | some b, some c => some (b && c)
      | _, _ => none
    else none
def eqT (P : Program) : Nat → TypeId → List Value → List Value → Option Bool
  | 0 => fun _ _ _ => none
  | d + 1 => fun t xs ys => match P.underlying t with
    | some (.int _) => match xs, ys with
      | [.int k a], [.int k' b] => if k = k' then some (a == b) else none
      | _, _ => none
    | some .bool => match xs, ys with
      | [.bool a], [.bool b] => some (a == b)
      | _, _ => none
    | some .string => match xs, ys with
      | [.string a], [.string b] => some (strEq a b)
      | _, _ => none
    | some (.struct fs) => bif P.stoodInHeld t then none else eqFs P (eqT P d) fs.toList 0 xs ys
    | _ => none

def isStruct (P : Program) (t : TypeId) : Prop := ∃ fs, P.underlying t = some (.struct fs)
def binW (P : Program) (op : BinOp) (t : TypeId) (x y : Value) (K : Value → Prop) : Prop := match op, x, y with
  | .shl, .int k a, .int _ b => 0 ≤ b ∧ K (.int k (iShl k a b))
  | .shr, .int k a, .int _ b => 0 ≤ b ∧ K (.int k (iShr k a b))
  | op, .int k a, .int k' b => if k = k' then
      match op with
      | .add => K (.int k (k.wrap (a + b)))
      | .sub => K (.int k (k.wrap (a - b)))
      | .mul => K (.int k (k.wrap (a * b)))
      | .quo => b ≠ 0 ∧ K (.int k (k.wrap (a.tdiv b)))
      | .rem => b ≠ 0 ∧ K (.int k (a.tmod b))
      | .and => K (.int k (iAnd k a b))
      | .or => K (.int k (iOr k a b))
      | .xor => K (.int k (iXor k a b))
      | .andNot => K (.int k (iAndNot k a b))
      | .eql => K (.bool (a == b))
      | .neq => K (.bool (a != b))
      | .lss => K (.bool (decide (a < b)))
      | .leq => K (.bool (decide (a ≤ b)))
      | .gtr => K (.bool (decide (a > b)))
      | .geq => K (.bool (decide (a ≥ b)))
      | _ => False
    else False
  | .eql, .string a, .string b => K (.bool (strEq a b))
  | .neq, .string a, .string b => K (.bool (!strEq a b))
  | .lss, .string a, .string b => K (.bool (strLt a b))
  | .leq, .string a, .string b => K (.bool (strLt a b || strEq a b))
  | .gtr, .string a, .string b => K (.bool (!(strLt a b || strEq a b)))
  | .geq, .string a, .string b => K (.bool (!strLt a b))
  | .eql, .bool a, .bool b => om (P.underlying t) fun d => match d with
    | .bool => K (.bool (a == b))
    | _ => False
  | .neq, .bool a, .bool b => om (P.underlying t) fun d => match d with
    | .bool => K (.bool (!(a == b)))
    | _ => False
  | .eql, .pointer a, .pointer none => om (P.underlying t) fun d => match d with
    | .pointer _ => K (.bool a.isNone)
    | _ => False
  | .neq, .pointer a, .pointer none => om (P.underlying t) fun d => match d with
    | .pointer _ => K (.bool (!a.isNone))
    | _ => False
  | .eql, .slice a _ _, .slice none _ _ => om (P.underlying t) fun d => match d with
    | .slice _ => K (.bool a.isNone)
    | _ => False
  | .neq, .slice a _ _, .slice none _ _ => om (P.underlying t) fun d => match d with
    | .slice _ => K (.bool (!a.isNone))
    | _ => False
  | .eql, .agg xs, .agg ys => bif P.eqGuardType P.depth t then False else isStruct P t ∧ om (eqT P 8 t xs.toList ys.toList) fun b => K (.bool b)
  | .neq, .agg xs, .agg ys => bif P.eqGuardType P.depth t then False else isStruct P t ∧ om (eqT P 8 t xs.toList ys.toList) fun b => K (.bool (!b))
  | _, _, _ => False
def unW (op : UnOp) (x : Value) (K : Value → Prop) : Prop := match op, x with
  | .neg, .int k n => K (.int k (k.wrap (0 - n)))
  | .xor, .int k n => K (.int k (iNot k n))
  | .not, .bool b => K (.bool !b)
  | _, _ => False
/-- n bytes from a on are xs. -/
def BytesAt (w : World) (a : Option Addr) (n : Nat) (xs : List Int) : Prop :=
  xs.length = n ∧ ∀ j v, xs[j]? = some v → ∃ p, a = some p ∧ w.cell? (p.add j) = some (.int .u8 v)
def markStr (w : World) (a : Addr) : World := match w.shape? a.block with
  | some (_, n) => w.freeze { block := a.block, off := n } 1
  | none => w
def convW (P : Program) (src dst : TypeId) (x : Value) (w : World) (K : Value → World → Prop) : Prop :=
  om (P.underlying src) fun s => om (P.underlying dst) fun d => match s, d, x with
    | .int _, .int k, .int _ n => K (.int k (k.wrap n)) w
    | .string, .string, .string b => K (.string b) w
    | .slice _, .slice e, .slice (some a) n c => bif src == dst then om (P.underlying e) fun ed => match ed with
        | .int .u8 => K (.slice (some a) n c) (markStr w a)
        | _ => False
      else False
    | .slice e, .string, .slice a n c => om (P.underlying e) fun ed => match ed with
      | .int .u8 => ∃ xs : List Int, BytesAt w a n xs ∧ K (.string (strOfNums xs)) w
      | _ => False
    | _, _, _ => False

/-! ### Memory -/
def StoreOk (w : World) (p : Addr) : Prop := (w.cell? p).isSome = true ∧ w.frozen? p = false
def putAll (w : World) (p : Addr) : Nat → List Value → World
  | _, [] => w
  | i, v :: vs => putAll (w.setCell (p.add i) v) p (i + 1) vs
def AllOk (w : World) (p : Addr) (n : Nat) : Prop := ∀ i, i < n → StoreOk w (p.add i)
def oneCells : List Value → Bool
  | [] => true
  | v :: vs => v.oneCell' && oneCells vs
def storeW (P : Program) (t : TypeId) (x v : Value) (w : World) (K : World → Prop) : Prop := match x with
  | .pointer a => optP a fun p => om (sizeT P t) fun n => match v with
    | .agg cs => bif Nat.beq cs.toList.length n && oneCells cs.toList then AllOk w p n ∧ K (putAll w p 0 cs.toList) else False
    | .tuple _ => False
    | v => bif Nat.beq 1 n then StoreOk w p ∧ K (w.setCell p v) else False
  | _ => False
def loadW (P : Program) (t : TypeId) (x : Value) (w : World) (K : Value → Prop) : Prop := match x with
  | .pointer a => optP a fun p => om (isAggT P t) fun ag => match ag, cellPats P 9 t with
    | true, ps => om (sizeT P t) fun n => bif Nat.beq ps.length n then gotAll ps 0 (fun i u => w.cell? (p.add i) = some u) fun us => K (.agg ⟨us⟩) else False
    | false, q :: _ => q.got (fun u => w.cell? p = some u) K
    | false, [] => False
  | _ => False
def cellsV : Value → List Value
  | .agg cs => cs.toList
  | v => [v]
/-- The parts laid into the cells. -/
def fillV (place : Nat → Option (Nat × Nat)) : List Value → List (Nat × Value) → Option (List Value)
  | cs, [] => some cs
  | cs, (i, v) :: rest => match place i with
    | none => none
    | some (off, size) => bif Nat.beq (cellsV v).length size && Nat.ble (off + size) cs.length then fillV place (cs.take off ++ (cellsV v ++ cs.drop (off + size))) rest else none
def zeroV (P : Program) (t : TypeId) : Option (List Value) := (P.info? t).bind fun i => i.zero.map cellsV
def placeV (P : Program) (fs : List Field) (i : Nat) : Option (Nat × Nat) := match fs[i]? with
  | some f => (sizeT P f.type).map fun s => (f.offset, s)
  | none => none
def allSized (P : Program) (fs : List Field) : Bool := fs.all fun f => (sizeT P f.type).isSome
def buildW (P : Program) (t : TypeId) (ps : List (Nat × Value)) (K : Value → Prop) : Prop :=
  om (zeroV P t) fun z => om (P.underlying t) fun d => match d with
    | .struct fs => bif allSized P fs.toList then om (fillV (placeV P fs.toList) z ps) fun cs => K (.agg ⟨cs⟩) else False
    | .array _ e => om (sizeT P e) fun s => om (fillV (fun i => some (i * s, s)) z ps) fun cs => K (.agg ⟨cs⟩)
    | _ => False
def repV : Nat → List Value → List Value
  | 0, _ => []
  | n + 1, z => z ++ repV n z
def buildSliceW (P : Program) (t : TypeId) (len : Nat) (ps : List (Nat × Value)) (w : World) (K : Value → World → Prop) : Prop :=
  om (P.underlying t) fun d => match d with
    | .slice e => om (sizeT P e) fun s => om (zeroV P e) fun z =>
      bif Nat.ble (len * s) 16777216 && Nat.beq z.length s && Nat.ble 1 s then om (fillV (fun i => some (i * s, s)) (repV len z) ps) fun cs => K (.slice (some ⟨w.heap.size, 0, none⟩) len len) (w.alloc (.cells ⟨cs⟩ e)) else False
    | _ => False
def fieldW (P : Program) (s : TypeId) (x : Value) (i : Nat) (K : Value → Prop) : Prop := match x with
  | .pointer a => optP a fun p => om (P.underlying s) fun d => match d with
    | .struct fs => om fs.toList[i]? fun f => om (sizeT P f.type) fun n => bif Nat.beq n 0 then False else K (.pointer (some (p.add f.offset)))
    | _ => False
  | _ => False
def indexW (P : Program) (t : TypeId) (x i : Value) (K : Value → Prop) : Prop := match x, i with
  | .slice a n c, .int _ i => om (P.underlying t) fun d => match d with
    | .slice e => om (sizeT P e) fun s => (0 ≤ i ∧ i < (n : Int)) ∧ optP a fun p => K (.pointer (some (p.add (i.toNat * s))))
    | _ => False
  | .pointer a, .int _ i => om (P.underlying t) fun d => match d with
    | .array n e => om (sizeT P e) fun s => (0 ≤ i ∧ i < (n : Int)) ∧ optP a fun p => K (.pointer (some (p.add (i.toNat * s))))
    | _ => False
  | _, _ => False
/-- byte i of a string -/
def byteAt (s : ByteArray) (i : Int) : Int := if h : i.toNat < s.size then ((s[i.toNat]'h).toNat : Int) else 0
def idxW (P : Program) (t : TypeId) (x i : Value) (K : Value → Prop) : Prop := match x, i with
  | .string s, .int _ i => om (P.underlying t) fun d => match d with
    | .string => (0 ≤ i ∧ i < (s.size : Int)) ∧ K (.int .u8 (byteAt s i))
    | _ => False
  | _, _ => False
def boundV (dflt : Nat) : Option Value → (Int → Prop) → Prop
  | none, K => K (dflt : Int)
  | some (.int _ i), K => K i
  | some _, _ => False
def cutAt (size m l : Nat) (a : Option Addr) : Option Addr := if m = l then a else a.map (·.add (l * size))
def sliceW (P : Program) (t : TypeId) (x : Value) (lo hi : Option Value) (K : Value → Prop) : Prop := match x with
  | .slice a n c => om (P.underlying t) fun d => match d with
    | .slice e => om (sizeT P e) fun s => boundV n hi fun h => boundV 0 lo fun l => (0 ≤ l ∧ l ≤ h ∧ h ≤ (c : Int)) ∧ K (.slice (cutAt s c l.toNat a) (h.toNat - l.toNat) (c - l.toNat))
    | _ => False
  | .string b => om (P.underlying t) fun d => match d with
    | .string => boundV b.size hi fun h => boundV 0 lo fun l => (0 ≤ l ∧ l ≤ h ∧ h ≤ (b.size : Int)) ∧ K (.string (b.extract l.toNat h.toNat))
    | _ => False
  | _ => False
end Go.Proofs.YtnjmkhhaodgpbaaX
