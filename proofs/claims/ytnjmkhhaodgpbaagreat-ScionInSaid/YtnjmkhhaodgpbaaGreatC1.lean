/- Part 1. -/
import Derived.Calls
import Derived.Laws.World
import Derived.Laws.Entries
import Derived.Laws.Cells
import Derived.Laws.IdiomCopy
import Derived.RowKit
import Derived.Laws.BytesArg
import Derived.Laws.StructEq
import Derived.Laws.BytesString
import Derived.ChangeKeysEq
import Derived.Still
import Derived.KernelRfl
import Derived.IntWalk
import Derived.Laws.AppendOwn
import Derived.Laws.OwnMore
import Derived.Below
import Derived.SizedLaws
import Derived.ChangeSlices
import Derived.Deep.Slices
import Derived.Laws.CopyRow
import Derived.Laws.Externs
import Derived.Lib.Overlaps
import Derived.Lib.AppendZerosOnto
set_option linter.unusedVariables false
set_option linter.unusedSimpArgs false
namespace Go.Proofs.YtnjmkhhaodgpbaaGreatX
abbrev QT := Value → World → Prop
abbrev Env := Nat → Option Value
def Env.nil : Env := fun _ => none
def Env.put (ρ : Env) (d : Option Nat) (v : Value) : Env := match d with
  | none => ρ
  | some d => fun i => bif Nat.beq i d then some v else ρ i
def Env.ev (ρ : Env) : Operand → Option Value
  | .tmp t => ρ t
  | .const v => some v
  | .global g => some (.pointer (some ⟨g, 0, none⟩))
  | .func f => some (.func (.func f) #[] #[])
def Env.le (ρ ρ' : Env) : Prop := ∀ i v, ρ i = some v → ρ' i = some v
theorem Env.le_nil (ρ : Env) : Env.nil.le ρ := fun _ _ h => by cases h
theorem Env.le_put {ρ ρ' : Env} {i : Nat} {v : Value} (h : ρ' i = some v) (hl : ρ.le ρ') : (ρ.put (some i) v).le ρ' := by
  intro j u hj
  simp only [Env.put] at hj
  cases hb : Nat.beq j i with
  | true =>
    rw [hb] at hj
    have := Nat.eq_of_beq_eq_true hb
    subst this
    simp only [cond_true, Option.some.injEq] at hj
    subst hj
    exact h
  | false =>
    rw [hb] at hj
    exact hl j u hj
structure Agree (n : Nat) (ρ : Env) (a : Act) : Prop where
  size : a.tmps.size = n
  at_ : ∀ i v, ρ i = some v → a.tmps[i]? = some v
  defers : a.defers = []
section
variable {n : Nat} {ρ ρ' : Env} {a : Act}
theorem Agree.mono (h : Agree n ρ' a) (hl : ρ.le ρ') : Agree n ρ a := ⟨h.size, fun i v hi => h.at_ i v (hl i v hi), h.defers⟩
theorem Agree.put (h : Agree n ρ a) {d : Option Nat} (hd : ∀ i, d = some i → i < n) (v : Value) : Agree n (ρ.put d v) (a.put d v) := by
  cases d with
  | none => exact h
  | some d =>
    have hlt := hd d rfl
    refine ⟨by simp [Act.put, h.size], fun i u hi => ?_, h.defers⟩
    simp only [Env.put] at hi
    cases hb : Nat.beq i d with
    | true =>
      rw [hb] at hi
      have := Nat.eq_of_beq_eq_true hb
      subst this
      simp only [cond_true, Option.some.injEq] at hi
      subst hi
      simp [Act.put, h.size, hlt]
    | false =>
      rw [hb] at hi
      have hne : d ≠ i := fun e => by subst e; simp at hb
      have := h.at_ i u hi
      simp only [Act.put, Array.getElem?_setIfInBounds_ne hne]
      exact this
theorem Agree.ev (h : Agree n ρ a) {x : Operand} {v : Value} (hx : ρ.ev x = some v) : a.eval x = v := by
  cases x with
  | tmp t =>
    have := h.at_ t v hx
    simp [Act.eval, Array.getD_eq_getD_getElem?, this]
  | const u => simpa [Env.ev, Act.eval] using hx
  | global g => simpa [Env.ev, Act.eval] using hx
  | func f => simpa [Env.ev, Act.eval] using hx
end
def evs (ρ : Env) : List Operand → Option (List Value)
  | [] => some []
  | x :: xs => match ρ.ev x, evs ρ xs with
    | some v, some vs => some (v :: vs)
    | _, _ => none
theorem evs_map {n : Nat} {ρ : Env} {a : Act} (h : Agree n ρ a) : ∀ {xs : List Operand} {vs : List Value}, evs ρ xs = some vs → xs.map a.eval = vs
  | [], vs, hx => by simp [evs] at hx; simp [hx]
  | x :: xs, vs, hx => by
    simp only [evs] at hx
    split at hx
    · rename_i v us h1 h2
      simp only [Option.some.injEq] at hx
      subst hx
      simp [h.ev h1, evs_map h h2]
    · cases hx
def evps (ρ : Env) : List (Nat × Operand) → Option (List (Nat × Value))
  | [] => some []
  | (i, x) :: xs => match ρ.ev x, evps ρ xs with
    | some v, some vs => some ((i, v) :: vs)
    | _, _ => none
theorem evps_map {n : Nat} {ρ : Env} {a : Act} (h : Agree n ρ a) : ∀ {xs : List (Nat × Operand)} {vs : List (Nat × Value)}, evps ρ xs = some vs → xs.map (fun p => (p.1, a.eval p.2)) = vs
  | [], vs, hx => by simp [evps] at hx; simp [hx]
  | (i, x) :: xs, vs, hx => by
    simp only [evps] at hx
    split at hx
    · rename_i v us h1 h2
      simp only [Option.some.injEq] at hx
      subst hx
      simp [h.ev h1, evps_map h h2]
    · cases hx
def om {α : Type} (o : Option α) (K : α → Prop) : Prop := match o with
  | some x => K x
  | none => False
theorem om_elim {α : Type} {o : Option α} {K : α → Prop} (h : om o K) : ∃ x, o = some x ∧ K x := by
  cases o with
  | none => exact h.elim
  | some x => exact ⟨x, rfl, h⟩
def bcase (t : Bool) (A B : Prop) : Prop := match t with
  | true => A
  | false => B
@[simp] theorem bcase_true {A B : Prop} : bcase true A B = A := rfl
@[simp] theorem bcase_false {A B : Prop} : bcase false A B = B := rfl
def optP (a : Option Addr) (K : Addr → Prop) : Prop := match a with
  | some p => K p
  | none => False
@[simp] theorem optP_some {p : Addr} {K : Addr → Prop} : optP (some p) K = K p := rfl
theorem optP_elim {a : Option Addr} {K : Addr → Prop} (h : optP a K) : ∃ p, a = some p ∧ K p := by
  cases a with
  | none => exact h.elim
  | some p => exact ⟨p, rfl, h⟩
inductive Pat where
  | int (k : IntKind) | bool | str | ptr | slice | map | any
def Pat.got : Pat → (Value → Prop) → (Value → Prop) → Prop
  | .int k, E, K => ∃ x : Int, E (.int k x) ∧ K (.int k x)
  | .bool, E, K => ∃ b : Bool, E (.bool b) ∧ K (.bool b)
  | .str, E, K => ∃ s : ByteArray, E (.string s) ∧ K (.string s)
  | .ptr, E, K => ∃ p : Option Addr, E (.pointer p) ∧ K (.pointer p)
  | .slice, E, K => ∃ (p : Option Addr) (n c : Nat), E (.slice p n c) ∧ K (.slice p n c)
  | .map, E, K => ∃ r : Option Nat, E (.map r) ∧ K (.map r)
  | .any, E, K => ∃ v : Value, E v ∧ K v
theorem Pat.got_elim {p : Pat} {E K : Value → Prop} (h : p.got E K) : ∃ v, E v ∧ K v := by
  cases p <;> simp only [Pat.got] at h
  case slice => obtain ⟨p, n, c, h⟩ := h; exact ⟨_, h⟩
  all_goals (obtain ⟨x, h⟩ := h; exact ⟨_, h⟩)
def Pat.ex : Pat → (Value → Prop) → Prop
  | .int k, K => ∃ x : Int, K (.int k x)
  | .bool, K => ∃ b : Bool, K (.bool b)
  | .str, K => ∃ s : ByteArray, K (.string s)
  | .ptr, K => ∃ p : Option Addr, K (.pointer p)
  | .slice, K => ∃ (p : Option Addr) (n c : Nat), K (.slice p n c)
  | .map, K => ∃ r : Option Nat, K (.map r)
  | .any, K => ∃ v : Value, K v
theorem Pat.ex_elim {p : Pat} {K : Value → Prop} (h : p.ex K) : ∃ v, K v := by
  cases p <;> simp only [Pat.ex] at h
  case slice => obtain ⟨p, n, c, h⟩ := h; exact ⟨_, h⟩
  all_goals (obtain ⟨x, h⟩ := h; exact ⟨_, h⟩)
def gotAll : List Pat → Nat → (Nat → Value → Prop) → (List Value → Prop) → Prop
  | [], _, _, K => K []
  | p :: ps, i, E, K => p.got (E i) fun v => gotAll ps (i + 1) E fun vs => K (v :: vs)
theorem gotAll_elim : ∀ {ps : List Pat} {i : Nat} {E : Nat → Value → Prop} {K : List Value → Prop}, gotAll ps i E K → ∃ vs : List Value, vs.length = ps.length ∧ (∀ j v, vs[j]? = some v → E (i + j) v) ∧ K vs
  | [], i, E, K, h => ⟨[], rfl, by simp, h⟩
  | p :: ps, i, E, K, h => by
    obtain ⟨v, hv, h⟩ := Pat.got_elim h
    obtain ⟨vs, hl, hE, hK⟩ := gotAll_elim h
    refine ⟨v :: vs, by simp [hl], fun j u hj => ?_, hK⟩
    cases j with
    | zero => simp at hj; subst hj; simpa using hv
    | succ j => have := hE j u (by simpa using hj); rwa [show i + (j + 1) = i + 1 + j by omega]
def exPats : List Pat → (List Value → Prop) → Prop
  | [], F => F []
  | p :: ps, F => p.ex fun v => exPats ps fun vs => F (v :: vs)
theorem exPats_elim : ∀ {ps : List Pat} {F : List Value → Prop}, exPats ps F → ∃ vs, F vs
  | [], F, h => ⟨[], h⟩
  | p :: ps, F, h => by
    obtain ⟨v, h⟩ := Pat.ex_elim h
    obtain ⟨vs, h⟩ := exPats_elim h
    exact ⟨_, h⟩
def cellPats (P : Program) : Nat → TypeId → List Pat
  | 0, _ => []
  | d + 1, t => match P.underlying t with
    | some (.struct fs) => fs.toList.flatMap fun f => cellPats P d f.type
    | some (.array n e) => (List.replicate n (cellPats P d e)).flatten
    | some (.int k) => [.int k]
    | some .bool => [.bool]
    | some .string => [.str]
    | some (.pointer _) => [.ptr]
    | some (.slice _) => [.slice]
    | some (.map _ _) => [.map]
    | some _ => [.any]
    | none => []
def isAggT (P : Program) (t : TypeId) : Option Bool := match P.underlying t with
  | some (.struct _) => some true
  | some (.array _ _) => some true
  | some _ => some false
  | none => none
def sizeT (P : Program) (t : TypeId) : Option Nat := (P.info? t).map (·.size)
def exType (P : Program) (t : TypeId) (F : Value → Prop) : Prop :=
  om (isAggT P t) fun ag => match ag, cellPats P 9 t with
    | true, ps => exPats ps fun vs => F (.agg ⟨vs⟩)
    | false, p :: _ => p.ex F
    | false, [] => False
theorem exType_elim {P : Program} {t : TypeId} {F : Value → Prop} (h : exType P t F) : ∃ v, F v := by
  obtain ⟨ag, _, h⟩ := om_elim h
  split at h
  · obtain ⟨vs, h⟩ := exPats_elim h; exact ⟨_, h⟩
  · exact Pat.ex_elim h
  · exact h.elim
def exTypes (P : Program) : List TypeId → (List Value → Prop) → Prop
  | [], F => F []
  | t :: ts, F => exType P t fun v => exTypes P ts fun vs => F (v :: vs)
theorem exTypes_elim {P : Program} : ∀ {ts : List TypeId} {F : List Value → Prop}, exTypes P ts F → ∃ vs, F vs
  | [], F, h => ⟨[], h⟩
  | t :: ts, F, h => by
    obtain ⟨v, h⟩ := exType_elim h
    obtain ⟨vs, h⟩ := exTypes_elim h
    exact ⟨_, h⟩
def resW (P : Program) (ts : List TypeId) (v : Value) (K : Value → Prop) : Prop := match ts with
  | [] => v = .tuple #[] ∧ K (.tuple #[])
  | [t] => exType P t fun u => v = u ∧ K u
  | ts => exTypes P ts fun us => v = .tuple ⟨us⟩ ∧ K (.tuple ⟨us⟩)
theorem resW_elim {P : Program} {ts : List TypeId} {v : Value} {K : Value → Prop} (h : resW P ts v K) : K v := by
  unfold resW at h
  split at h
  · obtain ⟨he, h2⟩ := h; rw [he]; exact h2
  · obtain ⟨u, he, h2⟩ := exType_elim h; rw [he]; exact h2
  · obtain ⟨us, he, h2⟩ := exTypes_elim h; rw [he]; exact h2
def CallX (P : Program) (f : FuncId) (args : Array Value) (w : World) (v : Value) (w' : World) : Prop := Calls P f args w fun e w'' => e = .returned v ∧ w'' = w'
def CallR (P : Program) (f : FuncId) (args : Array Value) (w : World) (K : QT) : Prop := ∃ v w', CallX P f args w v w' ∧ K v w'
theorem CallR.calls {P : Program} {f : FuncId} {args : Array Value} {w : World} {K : QT} (h : CallR P f args w K) : Calls P f args w fun e w' => ∃ v, e = .returned v ∧ K v w' := by
  obtain ⟨v, w', hc, h⟩ := h
  exact hc.mono fun e w'' ⟨he, hw⟩ => ⟨v, he, hw ▸ h⟩
def RunR {α : Type} (P : Program) (s : Sem α) (w : World) (K : α → World → Prop) : Prop := ∃ v w', s.run P w = .ok v w' ∧ K v w'
def ResX (P : Program) (o : Oper) (a : Act) (w : World) (v : Value) (w' : World) : Prop :=
  (execOp a.eval o).run P w = .ok (.value v) w' ∨ ((execOp a.eval o).run P w = .ok .skip w' ∧ v = undef) ∨
    ∃ f args w1, (execOp a.eval o).run P w = .ok (.enter f args) w1 ∧ CallX P f args w1 v w'
theorem ResX.wp {P : Program} {o : Oper} {a : Act} {w w' : World} {v : Value} (h : ResX P o a w v w') {next : Act → World → Prop} {Q : Exit → Act → World → Prop} (hn : next (a.put o.dst v) w') : o.wp P a w next Q := by
  unfold Oper.wp
  rcases h with h | ⟨h, rfl⟩ | ⟨f, args, w1, h, hc⟩
  · rw [h]; exact hn
  · rw [h]; exact hn
  · rw [h]
    exact hc.mono fun e w'' ⟨he, hw⟩ => by subst he; subst hw; exact hn
def iAnd (k : IntKind) (a b : Int) : Int := k.wrap ((BitVec.ofInt k.bits a &&& BitVec.ofInt k.bits b).toNat : Int)
def iOr (k : IntKind) (a b : Int) : Int := k.wrap ((BitVec.ofInt k.bits a ||| BitVec.ofInt k.bits b).toNat : Int)
def iXor (k : IntKind) (a b : Int) : Int := k.wrap ((BitVec.ofInt k.bits a ^^^ BitVec.ofInt k.bits b).toNat : Int)
def iAndNot (k : IntKind) (a b : Int) : Int := k.wrap ((BitVec.ofInt k.bits a &&& ~~~BitVec.ofInt k.bits b).toNat : Int)
def iShl (k : IntKind) (a b : Int) : Int := k.wrap (a * 2 ^ (min b.toNat k.bits))
def iShr (k : IntKind) (a b : Int) : Int := a.fdiv (2 ^ (min b.toNat k.bits))
def iNot (k : IntKind) (a : Int) : Int := iXor k (if k.signed then -1 else k.max) a
def strEq (s t : ByteArray) : Bool := s.toList == t.toList
def strLt (s t : ByteArray) : Bool := Op.bytesLess s.toList t.toList
def eqFs (P : Program) (E : TypeId → List Value → List Value → Option Bool) : List Field → Nat → List Value → List Value → Option Bool
  | [], _, [], [] => some true
  | [], _, _, _ => none
  | f :: fs, off, xs, ys => bif f.name != "_" && f.offset == off && sizeT P f.type == some (P.cellsOf f.type) && Nat.ble (P.cellsOf f.type) xs.length && Nat.ble (P.cellsOf f.type) ys.length then
      match E f.type (xs.take (P.cellsOf f.type)) (ys.take (P.cellsOf f.type)), eqFs P E fs (off + P.cellsOf f.type) (xs.drop (P.cellsOf f.type)) (ys.drop (P.cellsOf f.type)) with
      | some b, some c => some (b && c)
      | _, _ => none
    else none
def eqT (P : Program) : Nat → TypeId → List Value → List Value → Option Bool
  | 0 => fun _ _ _ => none
  | d + 1 => fun t xs ys => match P.underlying t with
    | some (.int _) => match xs, ys with
      | [.int k a], [.int k' b] => if k = k' then some (a == b) else none
      | _, _ => none
    | some .bool => match xs, ys with
      | [.bool a], [.bool b] => some (a == b)
      | _, _ => none
    | some .string => match xs, ys with
      | [.string a], [.string b] => some (strEq a b)
      | _, _ => none
    | some (.struct fs) => bif P.stoodInHeld t then none else eqFs P (eqT P d) fs.toList 0 xs ys
    | _ => none
def eqBs : List Value → List Value → Option Bool
  | [], [] => some true
  | .bool a :: xs, .bool b :: ys => match eqBs xs ys with
    | some r => some ((a == b) && r)
    | none => none
  | _, _ => none
def isArrB (P : Program) (t : TypeId) : Bool := match P.underlying t with
  | some (.array _ _) => true
  | _ => false
def eqArr (P : Program) (t : TypeId) (xs ys : List Value) : Option Bool := match P.underlying t with
  | some (.array n e) => match P.underlying e with
    | some .bool => match P.info? e with
      | some i => if i.size = 1 ∧ xs.length = n ∧ ys.length = n then eqBs xs ys else none
      | none => none
    | _ => none
  | _ => none
def isStruct (P : Program) (t : TypeId) : Prop := ∃ fs, P.underlying t = some (.struct fs)
def binW (P : Program) (op : BinOp) (t : TypeId) (x y : Value) (K : Value → Prop) : Prop := match op, x, y with
  | .shl, .int k a, .int _ b => 0 ≤ b ∧ K (.int k (iShl k a b))
  | .shr, .int k a, .int _ b => 0 ≤ b ∧ K (.int k (iShr k a b))
  | op, .int k a, .int k' b => if k = k' then
      match op with
      | .add => K (.int k (k.wrap (a + b)))
      | .sub => K (.int k (k.wrap (a - b)))
      | .mul => K (.int k (k.wrap (a * b)))
      | .quo => b ≠ 0 ∧ K (.int k (k.wrap (a.tdiv b)))
      | .rem => b ≠ 0 ∧ K (.int k (a.tmod b))
      | .and => K (.int k (iAnd k a b))
      | .or => K (.int k (iOr k a b))
      | .xor => K (.int k (iXor k a b))
      | .andNot => K (.int k (iAndNot k a b))
      | .eql => K (.bool (a == b))
      | .neq => K (.bool (a != b))
      | .lss => K (.bool (decide (a < b)))
      | .leq => K (.bool (decide (a ≤ b)))
      | .gtr => K (.bool (decide (a > b)))
      | .geq => K (.bool (decide (a ≥ b)))
      | _ => False
    else False
  | .eql, .string a, .string b => K (.bool (strEq a b))
  | .neq, .string a, .string b => K (.bool (!strEq a b))
  | .lss, .string a, .string b => K (.bool (strLt a b))
  | .leq, .string a, .string b => K (.bool (strLt a b || strEq a b))
  | .gtr, .string a, .string b => K (.bool (!(strLt a b || strEq a b)))
  | .geq, .string a, .string b => K (.bool (!strLt a b))
  | .eql, .bool a, .bool b => om (P.underlying t) fun d => match d with
    | .bool => K (.bool (a == b))
    | _ => False
  | .neq, .bool a, .bool b => om (P.underlying t) fun d => match d with
    | .bool => K (.bool (!(a == b)))
    | _ => False
  | .eql, .pointer a, .pointer none => om (P.underlying t) fun d => match d with
    | .pointer _ => K (.bool a.isNone)
    | _ => False
  | .neq, .pointer a, .pointer none => om (P.underlying t) fun d => match d with
    | .pointer _ => K (.bool (!a.isNone))
    | _ => False
  | .eql, .slice a _ _, .slice none _ _ => om (P.underlying t) fun d => match d with
    | .slice _ => K (.bool a.isNone)
    | _ => False
  | .neq, .slice a _ _, .slice none _ _ => om (P.underlying t) fun d => match d with
    | .slice _ => K (.bool (!a.isNone))
    | _ => False
  | .eql, .agg xs, .agg ys => bif P.eqGuardType P.depth t then False else bif isArrB P t then om (eqArr P t xs.toList ys.toList) (fun b => K (.bool b)) else isStruct P t ∧ om (eqT P 8 t xs.toList ys.toList) fun b => K (.bool b)
  | .neq, .agg xs, .agg ys => bif P.eqGuardType P.depth t then False else bif isArrB P t then om (eqArr P t xs.toList ys.toList) (fun b => K (.bool (!b))) else isStruct P t ∧ om (eqT P 8 t xs.toList ys.toList) fun b => K (.bool (!b))
  | _, _, _ => False
def unW (op : UnOp) (x : Value) (K : Value → Prop) : Prop := match op, x with
  | .neg, .int k n => K (.int k (k.wrap (0 - n)))
  | .xor, .int k n => K (.int k (iNot k n))
  | .not, .bool b => K (.bool !b)
  | _, _ => False
def BytesAt (w : World) (a : Option Addr) (n : Nat) (xs : List Int) : Prop :=
  xs.length = n ∧ ∀ j v, xs[j]? = some v → ∃ p, a = some p ∧ w.cell? (p.add j) = some (.int .u8 v)
def markStr (w : World) (a : Addr) : World := match w.shape? a.block with
  | some (_, n) => w.freeze { block := a.block, off := n } 1
  | none => w
def convW (P : Program) (src dst : TypeId) (x : Value) (w : World) (K : QT) : Prop :=
  om (P.underlying src) fun s => om (P.underlying dst) fun d => match s, d, x with
    | .int _, .int k, .int _ n => K (.int k (k.wrap n)) w
    | .string, .string, .string b => K (.string b) w
    | .slice _, .slice e, .slice (some a) n c => bif src == dst then om (P.underlying e) fun ed => match ed with
        | .int .u8 => K (.slice (some a) n c) (markStr w a)
        | _ => False
      else False
    | .slice e, .string, .slice a n c => om (P.underlying e) fun ed => match ed with
      | .int .u8 => ∃ xs : List Int, BytesAt w a n xs ∧ K (.string (strOfNums xs)) w
      | _ => False
    | _, _, _ => False
def StoreOk (w : World) (p : Addr) : Prop := (w.cell? p).isSome = true ∧ w.frozen? p = false
def putAll (w : World) (p : Addr) : Nat → List Value → World
  | _, [] => w
  | i, v :: vs => putAll (w.setCell (p.add i) v) p (i + 1) vs
def AllOk (w : World) (p : Addr) (n : Nat) : Prop := ∀ i, i < n → StoreOk w (p.add i)
def oneCells : List Value → Bool
  | [] => true
  | v :: vs => v.oneCell' && oneCells vs
def storeW (P : Program) (t : TypeId) (x v : Value) (w : World) (K : World → Prop) : Prop := match x with
  | .pointer a => optP a fun p => om (sizeT P t) fun n => match v with
    | .agg cs => bif Nat.beq cs.toList.length n && oneCells cs.toList then AllOk w p n ∧ K (putAll w p 0 cs.toList) else False
    | .tuple _ => False
    | v => bif Nat.beq 1 n then StoreOk w p ∧ K (w.setCell p v) else False
  | _ => False
def loadW (P : Program) (t : TypeId) (x : Value) (w : World) (K : Value → Prop) : Prop := match x with
  | .pointer a => optP a fun p => om (isAggT P t) fun ag => match ag, cellPats P 9 t with
    | true, ps => om (sizeT P t) fun n => bif Nat.beq ps.length n then gotAll ps 0 (fun i u => w.cell? (p.add i) = some u) fun us => K (.agg ⟨us⟩) else False
    | false, q :: _ => q.got (fun u => w.cell? p = some u) K
    | false, [] => False
  | _ => False
def cellsV : Value → List Value
  | .agg cs => cs.toList
  | v => [v]
def fillV (place : Nat → Option (Nat × Nat)) : List Value → List (Nat × Value) → Option (List Value)
  | cs, [] => some cs
  | cs, (i, v) :: rest => match place i with
    | none => none
    | some (off, size) => bif Nat.beq (cellsV v).length size && Nat.ble (off + size) cs.length then fillV place (cs.take off ++ (cellsV v ++ cs.drop (off + size))) rest else none
def zeroV (P : Program) (t : TypeId) : Option (List Value) := (P.info? t).bind fun i => i.zero.map cellsV
def placeV (P : Program) (fs : List Field) (i : Nat) : Option (Nat × Nat) := match fs[i]? with
  | some f => (sizeT P f.type).map fun s => (f.offset, s)
  | none => none
def allSized (P : Program) (fs : List Field) : Bool := fs.all fun f => (sizeT P f.type).isSome
def buildW (P : Program) (t : TypeId) (ps : List (Nat × Value)) (K : Value → Prop) : Prop :=
  om (zeroV P t) fun z => om (P.underlying t) fun d => match d with
    | .struct fs => bif allSized P fs.toList then om (fillV (placeV P fs.toList) z ps) fun cs => K (.agg ⟨cs⟩) else False
    | .array _ e => om (sizeT P e) fun s => om (fillV (fun i => some (i * s, s)) z ps) fun cs => K (.agg ⟨cs⟩)
    | _ => False
def repV : Nat → List Value → List Value
  | 0, _ => []
  | n + 1, z => z ++ repV n z
def buildSliceW (P : Program) (t : TypeId) (len : Nat) (ps : List (Nat × Value)) (w : World) (K : QT) : Prop :=
  om (P.underlying t) fun d => match d with
    | .slice e => om (sizeT P e) fun s => om (zeroV P e) fun z =>
      bif Nat.ble (len * s) 16777216 && Nat.beq z.length s && Nat.ble 1 s then om (fillV (fun i => some (i * s, s)) (repV len z) ps) fun cs => K (.slice (some ⟨w.heap.size, 0, none⟩) len len) (w.alloc (.cells ⟨cs⟩ e)) else False
    | _ => False
def fieldW (P : Program) (s : TypeId) (x : Value) (i : Nat) (K : Value → Prop) : Prop := match x with
  | .pointer a => optP a fun p => om (P.underlying s) fun d => match d with
    | .struct fs => om fs.toList[i]? fun f => om (sizeT P f.type) fun n => bif Nat.beq n 0 then False else K (.pointer (some (p.add f.offset)))
    | _ => False
  | _ => False
def indexW (P : Program) (t : TypeId) (x i : Value) (K : Value → Prop) : Prop := match x, i with
  | .slice a n c, .int _ i => om (P.underlying t) fun d => match d with
    | .slice e => om (sizeT P e) fun s => (0 ≤ i ∧ i < (n : Int)) ∧ optP a fun p => K (.pointer (some (p.add (i.toNat * s))))
    | _ => False
  | .pointer a, .int _ i => om (P.underlying t) fun d => match d with
    | .array n e => om (sizeT P e) fun s => (0 ≤ i ∧ i < (n : Int)) ∧ optP a fun p => K (.pointer (some (p.add (i.toNat * s))))
    | _ => False
  | _, _ => False
def byteAt (s : ByteArray) (i : Int) : Int := if h : i.toNat < s.size then ((s[i.toNat]'h).toNat : Int) else 0
def idxW (P : Program) (t : TypeId) (x i : Value) (K : Value → Prop) : Prop := match x, i with
  | .string s, .int _ i => om (P.underlying t) fun d => match d with
    | .string => (0 ≤ i ∧ i < (s.size : Int)) ∧ K (.int .u8 (byteAt s i))
    | _ => False
  | _, _ => False
def boundV (dflt : Nat) : Option Value → (Int → Prop) → Prop
  | none, K => K (dflt : Int)
  | some (.int _ i), K => K i
  | some _, _ => False
def cutAt (size m l : Nat) (a : Option Addr) : Option Addr := if m = l then a else a.map (·.add (l * size))
def sliceW (P : Program) (t : TypeId) (x : Value) (lo hi : Option Value) (K : Value → Prop) : Prop := match x with
  | .slice a n c => om (P.underlying t) fun d => match d with
    | .slice e => om (sizeT P e) fun s => boundV n hi fun h => boundV 0 lo fun l => (0 ≤ l ∧ l ≤ h ∧ h ≤ (c : Int)) ∧ K (.slice (cutAt s c l.toNat a) (h.toNat - l.toNat) (c - l.toNat))
    | _ => False
  | .string b => om (P.underlying t) fun d => match d with
    | .string => boundV b.size hi fun h => boundV 0 lo fun l => (0 ≤ l ∧ l ≤ h ∧ h ≤ (b.size : Int)) ∧ K (.string (b.extract l.toNat h.toNat))
    | _ => False
  | _ => False
end Go.Proofs.YtnjmkhhaodgpbaaGreatX
namespace Go.Proofs.YtnjmkhhaodgpbaaGreatX
open Go.RowKit
section
variable {P : Program} {w : World}
theorem run_typeInfo {t : TypeId} {i : TypeInfo} (h : P.info? t = some i) : (typeInfo t).run P w = .ok i w := by
  simp [typeInfo, h]
theorem sizeT_info {t n : Nat} (h : sizeT P t = some n) : ∃ i, P.info? t = some i ∧ i.size = n := by
  simpa [sizeT] using h
theorem run_sizeOf {t n : Nat} (h : sizeT P t = some n) : (sizeOf t).run P w = .ok n w := by
  obtain ⟨i, hi, rfl⟩ := sizeT_info h
  simp [sizeOf, run_typeInfo hi]
theorem run_isAgg {t : TypeId} {b : Bool} (h : isAggT P t = some b) : (isAgg t).run P w = .ok b w := by
  unfold isAggT at h
  split at h
  · rename_i fs hu; simp only [Option.some.injEq] at h; subst h; simp [isAgg, run_underlying hu]
  · rename_i n e hu; simp only [Option.some.injEq] at h; subst h; simp [isAgg, run_underlying hu]
  · rename_i d h1 h2 hu
    simp only [Option.some.injEq] at h
    subst h
    simp only [isAgg, Sem.run_bind, run_underlying hu, Result.andThen_ok]
    cases d <;> first | rfl | (exfalso; exact h1 _ hu) | (exfalso; exact h2 _ _ hu)
  · cases h
theorem run_zero {t : TypeId} {z : List Value} (h : zeroV P t = some z) : ∃ i v, P.info? t = some i ∧ i.zero = some v ∧ cellsV v = z ∧ (zeroValue t).run P w = .ok v w := by
  simp only [zeroV, Option.bind_eq_some_iff, Option.map_eq_some_iff] at h
  obtain ⟨i, hi, v, hv, hz⟩ := h
  exact ⟨i, v, hi, hv, hz, by simp [zeroValue, run_typeInfo hi, hv]⟩
theorem cells_toList (v : Value) : v.cells.toList = cellsV v := by cases v <;> rfl
theorem loadW_run {t : TypeId} {x : Value} {K : Value → Prop} (h : loadW P t x w K) : ∃ v, K v ∧ (Instr.loadAt t x).run P w = .ok v w := by
  unfold loadW at h
  split at h
  · rename_i a
    obtain ⟨p, rfl, h⟩ := optP_elim h
    obtain ⟨ag, hag, h⟩ := om_elim h
    split at h
    · rename_i ps
      obtain ⟨n, hn, h⟩ := om_elim h
      cases hb : Nat.beq (cellPats P 9 t).length n with
      | false => rw [hb] at h; exact h.elim
      | true =>
        rw [hb] at h
        have hl := Nat.eq_of_beq_eq_true hb
        obtain ⟨vs, hvl, hE, hK⟩ := gotAll_elim h
        refine ⟨_, hK, ?_⟩
        have hc := run_loadCells_list (P := P) (w := w) p vs (fun j v hj => by simpa using hE j v hj)
        rw [hvl, hl] at hc
        simp [Instr.loadAt, Instr.sureAddr, loadVar, run_isAgg hag, run_sizeOf hn, hc]
    · rename_i q _ _
      obtain ⟨v, hv, hK⟩ := Pat.got_elim h
      refine ⟨v, hK, ?_⟩
      simp [Instr.loadAt, Instr.sureAddr, loadVar, run_isAgg hag, hv]
    · exact h.elim
  · exact h.elim
theorem storeOk_run {p : Addr} {v : Value} (h : StoreOk w p) (h1 : v.oneCell' = true) : (store p v).run P w = .ok () (w.setCell p v) := by
  obtain ⟨u, hu⟩ := Option.isSome_iff_exists.1 h.1
  rw [run_store P w p v _ h1, hu]
  simp [h.2]
theorem StoreOk.set {p q : Addr} {v : Value} (h : StoreOk w p) : StoreOk (w.setCell q v) p := by
  refine ⟨?_, by simpa using h.2⟩
  by_cases he : q = p
  · subst he
    obtain ⟨u, hu⟩ := Option.isSome_iff_exists.1 h.1
    rw [World.cell?_setCell_same _ _ _ hu]
    rfl
  · rw [World.cell?_setCell_other _ _ _ _ he]
    exact h.1
theorem storeCells_run {p : Addr} : ∀ (vs : List Value) (i : Nat) (w : World), (∀ j, j < vs.length → StoreOk w (p.add (i + j))) → oneCells vs = true → (storeCells p vs i).run P w = .ok () (putAll w p i vs)
  | [], _, _, _, _ => rfl
  | v :: vs, i, w, h, h1 => by
    simp only [oneCells, Bool.and_eq_true] at h1
    have h0 := storeOk_run (P := P) (h 0 (by simp)) h1.1
    simp only [Nat.add_zero] at h0
    have ih := storeCells_run vs (i + 1) (w.setCell (p.add i) v) (fun j hj => by
      have := h (j + 1) (by simpa using hj)
      rw [show i + 1 + j = i + (j + 1) by omega]
      exact this.set) h1.2
    simp only [storeCells, Sem.run_bind, h0, Result.andThen_ok, ih, putAll]
theorem storeW_run {t : TypeId} {x v : Value} {K : World → Prop} (h : storeW P t x v w K) : ∃ w', K w' ∧ (Instr.storeAt t x v).run P w = .ok () w' := by
  unfold storeW at h
  split at h
  · obtain ⟨p, rfl, h⟩ := optP_elim h
    obtain ⟨n, hn, h⟩ := om_elim h
    have one : ∀ u : Value, u.oneCell' = true → u.cells = #[u] → (bif Nat.beq 1 n then StoreOk w p ∧ K (w.setCell p u) else False) → ∃ w', K w' ∧ (Instr.storeAt t (.pointer (some p)) u).run P w = .ok () w' := by
      intro u hone hc h9
      cases hb : Nat.beq 1 n with
      | false => rw [hb] at h9; exact h9.elim
      | true =>
        rw [hb] at h9
        have hl := Nat.eq_of_beq_eq_true hb
        clear h
        subst hl
        refine ⟨_, h9.2, ?_⟩
        have hs := storeOk_run (P := P) h9.1 hone
        simp only [Instr.storeAt, Instr.sureAddr, storeVar, hc, Sem.run_bind, Sem.run_pure, Result.andThen_ok, run_sizeOf hn]
        simp [storeCells, Addr.add, hs]
    cases v with
    | agg cs =>
      simp only at h
      cases hb : (Nat.beq cs.toList.length n && oneCells cs.toList) with
      | false => rw [hb] at h; exact h.elim
      | true =>
        rw [hb] at h
        simp only [Bool.and_eq_true] at hb
        have hl := Nat.eq_of_beq_eq_true hb.1
        refine ⟨_, h.2, ?_⟩
        have hs := storeCells_run (P := P) (p := p) cs.toList 0 w (fun j hj => by simpa using h.1 j (by omega)) hb.2
        have hsz : cs.size = n := by simpa using hl
        simp [Instr.storeAt, Instr.sureAddr, storeVar, run_sizeOf hn, Value.cells, hs, hsz]
    | tuple vs => exact h.elim
    | _ => exact one _ rfl rfl h
  · exact h.elim
theorem fill_run (place : Nat → Option (Nat × Nat)) : ∀ (ps : List (Nat × Value)) (cs rs : List Value), fillV place cs ps = some rs → Instr.fill place ⟨cs⟩ ps = some ⟨rs⟩
  | [], cs, rs, h => by simp [fillV] at h; subst h; rfl
  | (i, v) :: rest, cs, rs, h => by
    simp only [fillV] at h
    split at h
    · cases h
    · rename_i off size hp
      cases hb : (Nat.beq (cellsV v).length size && Nat.ble (off + size) cs.length) with
      | false => rw [hb] at h; cases h
      | true =>
        rw [hb] at h
        simp only [Bool.and_eq_true] at hb
        have hl := Nat.eq_of_beq_eq_true hb.1
        have hle := Nat.le_of_ble_eq_true hb.2
        have hvs : v.cells.size = size := by rw [← hl, ← cells_toList, Array.length_toList]
        simp only [Instr.fill, hp]
        rw [if_neg (by simp [hvs]; exact hle)]
        have key : v.cells.zipIdx.foldl (fun cs (c, j) => cs.setIfInBounds (off + j) c) (⟨cs⟩ : Array Value) = ⟨cs.take off ++ (cellsV v ++ cs.drop (off + size))⟩ := by
          have gen : ∀ (xs : List Value) (k : Nat) (acc : Array Value), off + k + xs.length ≤ acc.size →
              ∀ m, ((xs.zipIdx k).foldl (fun cs (p : Value × Nat) => cs.setIfInBounds (off + p.2) p.1) acc)[m]? = if off + k ≤ m ∧ m < off + k + xs.length then xs[m - (off + k)]? else acc[m]? := by
            intro xs
            induction xs with
            | nil => intro k acc _ m; simp only [List.zipIdx_nil, List.foldl_nil, List.length_nil]; rw [if_neg (by omega)]
            | cons x xs ih =>
              intro k acc hk m
              simp only [List.length_cons] at hk ⊢
              simp only [List.zipIdx_cons, List.foldl_cons]
              rw [ih (k + 1) _ (by simp; omega) m]
              by_cases h1 : off + (k + 1) ≤ m ∧ m < off + (k + 1) + xs.length
              · rw [if_pos h1, if_pos (by omega), show m - (off + k) = (m - (off + (k + 1))) + 1 by omega, List.getElem?_cons_succ]
              · rw [if_neg h1]
                by_cases h2 : m = off + k
                · subst h2
                  rw [if_pos (by omega), Nat.sub_self, Array.getElem?_setIfInBounds_self_of_lt (by omega)]
                  rfl
                · rw [if_neg (by omega), Array.getElem?_setIfInBounds_ne (by omega)]
          apply Array.ext_getElem?
          intro m
          have hg := gen v.cells.toList 0 ⟨cs⟩ (by rw [cells_toList, hl]; simpa using hle) m
          rw [← Array.toList_zipIdx, Array.foldl_toList] at hg
          refine hg.trans ?_
          rw [cells_toList, hl]
          simp only [Nat.add_zero, List.getElem?_toArray]
          rcases Nat.lt_or_ge m off with hm | hm
          · rw [if_neg (by omega), List.getElem?_append_left (by simp; omega), List.getElem?_take, if_pos hm]
          · have hlen : (List.take off cs).length = off := by simp; omega
            rw [List.getElem?_append_right (by omega), hlen]
            by_cases hm2 : m < off + size
            · rw [if_pos ⟨hm, hm2⟩, List.getElem?_append_left (by omega)]
            · rw [if_neg (by omega), List.getElem?_append_right (by omega), List.getElem?_drop, hl]
              congr 1
              omega
        rw [key]
        exact fill_run place rest _ _ h
theorem zero_cells {t : TypeId} {z : List Value} (h : zeroV P t = some z) : ∃ v, v.cells = ⟨z⟩ ∧ ∀ w, (zeroValue t).run P w = .ok v w := by
  obtain ⟨i, v, hi, hv, hz, _⟩ := run_zero (w := default) h
  refine ⟨v, ?_, fun w => by simp [zeroValue, run_typeInfo hi, hv]⟩
  rw [← hz, ← cells_toList]
theorem run_places {fs : Array Field} (h : allSized P fs.toList = true) :
    (fs.mapM fun f => do pure (f.offset, ← sizeOf f.type) : Sem (Array (Nat × Nat))).run P w = .ok ⟨fs.toList.map fun f => (f.offset, (sizeT P f.type).getD 0)⟩ w := by
  rw [Array.mapM_eq_mapM_toList]
  have gen : ∀ (l : List Field), allSized P l = true → (l.mapM fun f => do pure (f.offset, ← sizeOf f.type) : Sem (List (Nat × Nat))).run P w = .ok (l.map fun f => (f.offset, (sizeT P f.type).getD 0)) w := by
    intro l
    induction l with
    | nil => intro _; rfl
    | cons f l ih =>
      intro hl
      simp only [allSized, List.all_cons, Bool.and_eq_true] at hl
      obtain ⟨n, hn⟩ := Option.isSome_iff_exists.1 hl.1
      have := ih (by simpa [allSized] using hl.2)
      simp only [List.mapM_cons, Sem.run_bind, run_sizeOf hn, Result.andThen_ok, Sem.run_pure, this, List.map_cons, hn, Option.getD_some]
  simp only [Sem.run_map, gen fs.toList h, Result.andThen_ok]
theorem buildW_run {t : TypeId} {ps : List (Nat × Value)} {K : Value → Prop} (h : buildW P t ps K) : ∃ v, K v ∧ ∀ w : World, (Instr.build t ⟨ps⟩).run P w = .ok v w := by
  obtain ⟨z, hz, h⟩ := om_elim h
  obtain ⟨d, hd, h⟩ := om_elim h
  obtain ⟨zv, hzc, hzr⟩ := zero_cells hz
  split at h
  · rename_i fs
    cases hb : allSized P fs.toList with
    | false => rw [hb] at h; exact h.elim
    | true =>
      rw [hb] at h
      obtain ⟨cs, hc, h⟩ := om_elim h
      refine ⟨_, h, ?_⟩
      have hpl : ∀ i, ((⟨fs.toList.map fun f => (f.offset, (sizeT P f.type).getD 0)⟩ : Array (Nat × Nat))[i]?) = placeV P fs.toList i := by
        intro i
        simp only [placeV, List.getElem?_toArray, List.getElem?_map]
        cases hf : fs.toList[i]? with
        | none => rfl
        | some f =>
          have hm : f ∈ fs.toList := List.mem_of_getElem? hf
          simp only [allSized, List.all_eq_true] at hb
          obtain ⟨n, hn⟩ := Option.isSome_iff_exists.1 (hb f hm)
          simp [hn]
      have hfill := fill_run (placeV P fs.toList) ps z cs hc
      have hfun : (fun i => (⟨fs.toList.map fun f => (f.offset, (sizeT P f.type).getD 0)⟩ : Array (Nat × Nat))[i]?) = placeV P fs.toList := funext hpl
      intro w
      simp only [Instr.build, Sem.run_bind, hzr, Result.andThen_ok, run_underlying hd, run_places hb, hzc, hfun, hfill]
      rfl
  · rename_i n e
    obtain ⟨s, hs, h⟩ := om_elim h
    obtain ⟨cs, hc, h⟩ := om_elim h
    refine ⟨_, h, ?_⟩
    have hfill := fill_run (fun i => some (i * s, s)) ps z cs hc
    intro w
    simp only [Instr.build, Sem.run_bind, hzr, Result.andThen_ok, run_underlying hd, run_sizeOf hs, hzc, hfill]
    rfl
  · exact h.elim
theorem repV_length (z : List Value) : ∀ n, (repV n z).length = n * z.length
  | 0 => by simp [repV]
  | n + 1 => by rw [repV, List.length_append, repV_length z n, Nat.succ_mul]; omega
theorem repV_get {z : List Value} (hz : 0 < z.length) : ∀ (n i : Nat), i < n * z.length → (repV n z)[i]? = z[i % z.length]?
  | 0, i, h => by omega
  | n + 1, i, h => by
    rw [repV]
    by_cases hi : i < z.length
    · rw [List.getElem?_append_left hi, Nat.mod_eq_of_lt hi]
    · rw [List.getElem?_append_right (by omega), repV_get hz n (i - z.length) (by rw [Nat.succ_mul] at h; omega)]
      congr 1
      conv => rhs; rw [← Nat.sub_add_cancel (show z.length ≤ i by omega), Nat.add_mod_right]
theorem rep_range {z : List Value} (hz : 0 < z.length) (n : Nat) : ((Array.range (n * z.length)).map fun i => (⟨z⟩ : Array Value)[i % (⟨z⟩ : Array Value).size]!) = ⟨repV n z⟩ := by
  apply Array.ext'
  apply List.ext_getElem?
  intro i
  have hm := Nat.mod_lt i hz
  by_cases hi : i < n * z.length
  · rw [repV_get hz n i hi]
    simp [hi, List.getElem?_eq_getElem hm]
  · have hr : (repV n z)[i]? = none := List.getElem?_eq_none (by rw [repV_length]; omega)
    rw [hr]
    simp [hi]
theorem buildSliceW_run {t : TypeId} {len : Nat} {ps : List (Nat × Value)} {K : QT} (h : buildSliceW P t len ps w K) : ∃ v w', K v w' ∧ (Instr.buildSlice t len ⟨ps⟩).run P w = .ok v w' := by
  obtain ⟨d, hd, h⟩ := om_elim h
  split at h
  · rename_i e
    obtain ⟨s, hs, h⟩ := om_elim h
    obtain ⟨z, hz, h⟩ := om_elim h
    cases hb : (Nat.ble (len * s) 16777216 && Nat.beq z.length s && Nat.ble 1 s) with
    | false => rw [hb] at h; exact h.elim
    | true =>
      rw [hb] at h
      simp only [Bool.and_eq_true] at hb
      obtain ⟨⟨h1, h2⟩, h3⟩ := hb
      have h1 := Nat.le_of_ble_eq_true h1
      have h2 := Nat.eq_of_beq_eq_true h2
      have h3 := Nat.le_of_ble_eq_true h3
      obtain ⟨cs, hc, h⟩ := om_elim h
      obtain ⟨zv, hzc, hzr⟩ := zero_cells hz
      refine ⟨_, _, h, ?_⟩
      have hfill := fill_run (fun i => some (i * s, s)) ps (repV len z) cs hc
      subst h2
      have hrep := rep_range (z := z) (by omega) len
      by_cases h0 : len * z.length = 0
      · have hl0 : len = 0 := by
          rcases Nat.mul_eq_zero.1 h0 with h | h
          · exact h
          · omega
        subst hl0
        simp only [Instr.buildSlice, Sem.run_bind, run_underlying hd, Result.andThen_ok, run_sizeOf hs]
        simp only [Nat.zero_mul] at *
        simp only [repV] at hfill
        have hr0 : (Array.map (fun _ => (default : Value)) (Array.range 0)) = ⟨[]⟩ := by simp
        simp [hr0, hfill, newRow]
      · simp only [Instr.buildSlice, Sem.run_bind, run_underlying hd, Result.andThen_ok, run_sizeOf hs]
        rw [if_neg (by omega), if_neg h0]
        simp only [Sem.run_bind, hzr, Result.andThen_ok, Sem.run_pure, hzc, hrep, hfill]
        simp [newRow]
  · exact h.elim
theorem fieldW_run {s : TypeId} {x : Value} {i : Nat} {K : Value → Prop} (h : fieldW P s x i K) : ∃ v, K v ∧ ∀ w : World, (Instr.fieldAt s x i).run P w = .ok v w := by
  unfold fieldW at h
  split at h
  · obtain ⟨p, rfl, h⟩ := optP_elim h
    obtain ⟨d, hd, h⟩ := om_elim h
    split at h
    · rename_i fs
      obtain ⟨f, hf, h⟩ := om_elim h
      obtain ⟨n, hn, h⟩ := om_elim h
      cases hb : Nat.beq n 0 with
      | true => rw [hb] at h; exact h.elim
      | false =>
        rw [hb] at h
        have hne : n ≠ 0 := fun e => by subst e; cases hb
        refine ⟨_, h, ?_⟩
        have hf' : fs[i]? = some f := by simpa using hf
        intro w
        simp [Instr.fieldAt, run_underlying hd, hf', Instr.sureAddr, fieldPlace, run_sizeOf hn, hne]
    · exact h.elim
  · exact h.elim
theorem indexW_run {t : TypeId} {x i : Value} {K : Value → Prop} (h : indexW P t x i K) : ∃ v, K v ∧ ∀ w : World, (Instr.indexAt t x i).run P w = .ok v w := by
  unfold indexW at h
  split at h
  · rename_i a n c k i
    obtain ⟨d, hd, h⟩ := om_elim h
    split at h
    · rename_i e
      obtain ⟨s, hs, ⟨h0, h1⟩, h⟩ := om_elim h
      obtain ⟨p, rfl, h⟩ := optP_elim h
      refine ⟨_, h, ?_⟩
      intro w
      simp [Instr.indexAt, asIntOf, run_underlying hd, h0, h1, run_sizeOf hs]
    · exact h.elim
  · rename_i a k i
    obtain ⟨d, hd, h⟩ := om_elim h
    split at h
    · rename_i n e
      obtain ⟨s, hs, ⟨h0, h1⟩, h⟩ := om_elim h
      obtain ⟨p, rfl, h⟩ := optP_elim h
      refine ⟨_, h, ?_⟩
      intro w
      simp [Instr.indexAt, asIntOf, run_underlying hd, Instr.sureAddr, h0, h1, run_sizeOf hs]
    · exact h.elim
  · exact h.elim
theorem idxW_run {t : TypeId} {x i : Value} {K : Value → Prop} (h : idxW P t x i K) : ∃ v, K v ∧ ∀ w : World, (Instr.index t x i).run P w = .ok v w := by
  unfold idxW at h
  split at h
  · rename_i s k i
    obtain ⟨d, hd, h⟩ := om_elim h
    split at h
    · obtain ⟨⟨h0, h1⟩, h⟩ := h
      refine ⟨_, h, ?_⟩
      have hlt : i.toNat < s.size := by omega
      have hg : s[i.toNat]? = some (s[i.toNat]'hlt) := getElem?_pos s i.toNat hlt
      intro w
      simp [Instr.index, asIntOf, run_underlying hd, h0, hg, byteAt, hlt]
    · exact h.elim
  · exact h.elim
theorem bound_run {x : Value} {y : Nat} {code : BoundsCode} {i : Int} {k : IntKind} (hx : x = .int k i) (h0 : 0 ≤ i) (h1 : i ≤ (y : Int)) : (Instr.sliceBound x y code).run P w = .ok i.toNat w := by
  subst hx
  simp [Instr.sliceBound, asIntOf, h0, h1]
theorem boundV_elim {d : Nat} {o : Option Value} {K : Int → Prop} (h : boundV d o K) : (o = none ∧ K (d : Int)) ∨ ∃ k i, o = some (.int k i) ∧ K i := by
  unfold boundV at h
  split at h
  · exact .inl ⟨rfl, h⟩
  · exact .inr ⟨_, _, rfl, h⟩
  · exact h.elim
theorem sliceBounds_run {isS : Bool} {n c : Nat} {lo hi : Option Value} {l h : Int}
    (hh : (hi = none ∧ h = (n : Int)) ∨ ∃ k, hi = some (.int k h)) (hl : (lo = none ∧ l = 0) ∨ ∃ k, lo = some (.int k l)) (h0 : 0 ≤ l) (h1 : l ≤ h) (h2 : h ≤ (c : Int)) :
    (Instr.sliceBounds isS n c lo hi none).run P w = .ok (l.toNat, h.toNat, c) w := by
  have e2 : ∃ z : Unit, (match hi, (none : Option Value) with
      | some v, some _ => Instr.sliceBound v c .slice3B
      | some v, none => Instr.sliceBound v c (if isS then .sliceAcap else .sliceAlen)
      | none, none => pure n
      | none, some _ => stuck "Slice: max without high" : Sem Nat).run P w = .ok h.toNat w := by
    refine ⟨(), ?_⟩
    rcases hh with ⟨rfl, rfl⟩ | ⟨k, rfl⟩
    · simp
    · exact bound_run rfl (by omega) (by omega)
  have e1 : ∃ z : Unit, (match lo with
      | some v => Instr.sliceBound v h.toNat .sliceB
      | none => pure 0 : Sem Nat).run P w = .ok l.toNat w := by
    refine ⟨(), ?_⟩
    rcases hl with ⟨rfl, rfl⟩ | ⟨k, rfl⟩
    · simp
    · exact bound_run rfl (by omega) (by omega)
  obtain ⟨_, e2⟩ := e2
  obtain ⟨_, e1⟩ := e1
  simp only [Instr.sliceBounds, Sem.run_bind, Sem.run_pure, Result.andThen_ok]
  rcases hh with ⟨rfl, rfl⟩ | ⟨k, rfl⟩ <;> rcases hl with ⟨rfl, rfl⟩ | ⟨k', rfl⟩ <;> simp_all
theorem sliceW_run {t : TypeId} {x : Value} {lo hi : Option Value} {K : Value → Prop} (h : sliceW P t x lo hi K) : ∃ v, K v ∧ ∀ w : World, (Instr.sliceAt t x lo hi none).run P w = .ok v w := by
  unfold sliceW at h
  split at h
  · rename_i a n c
    obtain ⟨d, hd, h⟩ := om_elim h
    split at h
    · rename_i e
      obtain ⟨s, hs, h⟩ := om_elim h
      have key : ∀ hh ll, ((hi = none ∧ hh = (n : Int)) ∨ ∃ k, hi = some (.int k hh)) → ((lo = none ∧ ll = 0) ∨ ∃ k, lo = some (.int k ll)) → 0 ≤ ll ∧ ll ≤ hh ∧ hh ≤ (c : Int) →
          ∀ w : World, (Instr.sliceAt t (.slice a n c) lo hi none).run P w = .ok (.slice (cutAt s c ll.toNat a) (hh.toNat - ll.toNat) (c - ll.toNat)) w := by
        intro hh ll e1 e2 ⟨h0, h1, h2⟩ w
        have hb := sliceBounds_run (P := P) (w := w) (isS := true) e1 e2 h0 h1 h2
        simp [Instr.sliceAt, Instr.slice, run_underlying hd, hb, run_sizeOf hs, cutAt]
      rcases boundV_elim h with ⟨rfl, h5⟩ | ⟨k, hh, rfl, h5⟩ <;> rcases boundV_elim h5 with ⟨rfl, h6⟩ | ⟨k', ll, rfl, h6⟩
      · exact ⟨_, h6.2, key _ _ (.inl ⟨rfl, rfl⟩) (.inl ⟨rfl, rfl⟩) h6.1⟩
      · exact ⟨_, h6.2, key _ _ (.inl ⟨rfl, rfl⟩) (.inr ⟨_, rfl⟩) h6.1⟩
      · exact ⟨_, h6.2, key _ _ (.inr ⟨_, rfl⟩) (.inl ⟨rfl, rfl⟩) h6.1⟩
      · exact ⟨_, h6.2, key _ _ (.inr ⟨_, rfl⟩) (.inr ⟨_, rfl⟩) h6.1⟩
    · exact h.elim
  · rename_i b
    obtain ⟨d, hd, h⟩ := om_elim h
    split at h
    · have key : ∀ hh ll, ((hi = none ∧ hh = (b.size : Int)) ∨ ∃ k, hi = some (.int k hh)) → ((lo = none ∧ ll = 0) ∨ ∃ k, lo = some (.int k ll)) → 0 ≤ ll ∧ ll ≤ hh ∧ hh ≤ (b.size : Int) →
          ∀ w : World, (Instr.sliceAt t (.string b) lo hi none).run P w = .ok (.string (b.extract ll.toNat hh.toNat)) w := by
        intro hh ll e1 e2 ⟨h0, h1, h2⟩ w
        have hb := sliceBounds_run (P := P) (w := w) (isS := false) e1 e2 h0 h1 h2
        simp [Instr.sliceAt, Instr.slice, run_underlying hd, hb]
      rcases boundV_elim h with ⟨rfl, h5⟩ | ⟨k, hh, rfl, h5⟩ <;> rcases boundV_elim h5 with ⟨rfl, h6⟩ | ⟨k', ll, rfl, h6⟩
      · exact ⟨_, h6.2, key _ _ (.inl ⟨rfl, rfl⟩) (.inl ⟨rfl, rfl⟩) h6.1⟩
      · exact ⟨_, h6.2, key _ _ (.inl ⟨rfl, rfl⟩) (.inr ⟨_, rfl⟩) h6.1⟩
      · exact ⟨_, h6.2, key _ _ (.inr ⟨_, rfl⟩) (.inl ⟨rfl, rfl⟩) h6.1⟩
      · exact ⟨_, h6.2, key _ _ (.inr ⟨_, rfl⟩) (.inr ⟨_, rfl⟩) h6.1⟩
    · exact h.elim
  · exact h.elim
end
end Go.Proofs.YtnjmkhhaodgpbaaGreatX
namespace Go.Proofs.YtnjmkhhaodgpbaaGreatX
open Go.RowKit
section
variable {P : Program} {w : World}
def mkV (P : Program) (t : TypeId) (xs : List Value) : Value := match P.underlying t with
  | some (.struct _) => .agg ⟨xs⟩
  | _ => xs.headD undef
theorem run_part_mk {t off n d : Nat} {xs ys : List Value} {b : Bool} (hn : sizeT P t = some n) (hl : off + n ≤ xs.length) (he : eqT P d t ((xs.drop off).take n) ys = some b ∨ eqT P d t ys ((xs.drop off).take n) = some b) :
    (part t ⟨xs⟩ off).run P w = .ok (mkV P t ((xs.drop off).take n)) w := by
  have scal : ∀ dsc, P.underlying t = some dsc → (isAggT P t = some false) → (∀ fs, dsc ≠ .struct fs) → (∃ v, (xs.drop off).take n = [v]) → (part t ⟨xs⟩ off).run P w = .ok (mkV P t ((xs.drop off).take n)) w := by
    intro dsc hu ha hns ⟨v, hv⟩
    have hlen := congrArg List.length hv
    simp at hlen
    have hlt : off < xs.length := by omega
    have h1 : n = 1 := by omega
    subst h1
    simp only [part, Sem.run_bind, run_isAgg ha, Result.andThen_ok, Bool.false_eq_true, if_false, List.getElem?_toArray, List.getElem?_eq_getElem hlt, Sem.run_pure, mkV, hu]
    have hd : (xs.drop off).take 1 = [xs[off]] := by rw [List.drop_eq_getElem_cons hlt]; rfl
    rw [hd]
    cases dsc <;> first | rfl | exact absurd rfl (hns _)
  cases d with
  | zero => rcases he with he | he <;> simp [eqT] at he
  | succ d =>
    cases hu : P.underlying t with
    | none => rcases he with he | he <;> simp [eqT, hu] at he
    | some dsc =>
      have one : (∀ fs, dsc ≠ .struct fs) → ∃ v, (xs.drop off).take n = [v] := by
        intro hns
        rcases he with he | he <;> simp only [eqT, hu] at he <;> split at he <;>
          first
            | (exfalso; rename_i hq; simp only [Option.some.injEq] at hq; exact hns _ hq)
            | (split at he <;> first | exact ⟨_, by assumption⟩ | cases he)
            | cases he
      by_cases hs : ∃ fs, dsc = .struct fs
      · obtain ⟨fs, rfl⟩ := hs
        have ha : isAggT P t = some true := by simp [isAggT, hu]
        simp only [part, Sem.run_bind, run_isAgg ha, Result.andThen_ok, if_true, run_sizeOf hn, Sem.run_pure, mkV, hu]
        congr 2
        apply Array.ext'
        simp [List.extract_eq_take_drop]
      · have hns : ∀ fs, dsc ≠ .struct fs := fun fs e => hs ⟨fs, e⟩
        by_cases hag : isAggT P t = some false
        · exact scal dsc hu hag hns (one hns)
        · exfalso
          apply hag
          rcases he with he | he <;> simp only [eqT, hu] at he <;> split at he <;> first | (rename_i hq; simp only [Option.some.injEq] at hq; subst hq; simp [isAggT, hu]; done) | (rename_i hq; simp only [Option.some.injEq] at hq; exact absurd hq (hns _)) | cases he
theorem eqFields_T (d D : Nat) (ih : ∀ t xs ys b, eqT P d t xs ys = some b → (Op.equalIn D t (mkV P t xs) (mkV P t ys)).run P w = .ok b w) :
    ∀ (fs : List Field) (off : Nat) (xs ys : List Value) (b : Bool), eqFs P (eqT P d) fs off (xs.drop off) (ys.drop off) = some b → off ≤ xs.length → off ≤ ys.length → (Op.eqFields D ⟨xs⟩ ⟨ys⟩ fs).run P w = .ok b w
  | [], off, xs, ys, b, h, _, _ => by
    have hb : b = true := by
      unfold eqFs at h
      split at h
      · simpa using h.symm
      · cases h
      · contradiction
    subst hb
    simp [Op.eqFields]
  | f :: fs, off, xs, ys, b, h, h0, h1 => by
    simp only [eqFs] at h
    cases hc : (f.name != "_" && f.offset == off && sizeT P f.type == some (P.cellsOf f.type) && Nat.ble (P.cellsOf f.type) (xs.drop off).length && Nat.ble (P.cellsOf f.type) (ys.drop off).length) with
    | false => rw [hc] at h; cases h
    | true =>
      rw [hc] at h
      simp only [cond_true] at h
      simp only [Bool.and_eq_true, bne_iff_ne, ne_eq, beq_iff_eq] at hc
      obtain ⟨⟨⟨⟨hnm, hoff⟩, hn⟩, hx⟩, hy⟩ := hc
      have hx := Nat.le_of_ble_eq_true hx
      have hy := Nat.le_of_ble_eq_true hy
      split at h
      · rename_i b1 b2 e1 e2
        simp only [Option.some.injEq] at h
        subst h
        generalize P.cellsOf f.type = n at hn e1 e2 hx hy
        have lens : off + n ≤ xs.length ∧ off + n ≤ ys.length := by simp at hx hy; omega
        rw [List.drop_drop, List.drop_drop] at e2
        have r1 := ih f.type _ _ b1 e1
        have r2 := eqFields_T d D ih fs (off + n) xs ys b2 e2 lens.1 lens.2
        simp only [Op.eqFields, if_pos hnm, hoff, Sem.run_bind, run_part_mk hn lens.1 (.inl e1), run_part_mk hn lens.2 (.inr e1), Result.andThen_ok, r1]
        cases b1 <;> simp [r2]
      · cases h
theorem equalIn_T : ∀ (d t : Nat) (xs ys : List Value) (b : Bool), eqT P d t xs ys = some b → ∀ D, d ≤ D → (Op.equalIn D t (mkV P t xs) (mkV P t ys)).run P w = .ok b w
  | 0, t, xs, ys, b, h, _, _ => by simp [eqT] at h
  | d + 1, t, xs, ys, b, h, D, hD => by
    obtain ⟨D, rfl⟩ : ∃ m, D = m + 1 := ⟨D - 1, by omega⟩
    simp only [eqT] at h
    split at h
    · rename_i k hu
      split at h
      · split at h
        · rename_i hk
          subst hk
          simp only [Option.some.injEq] at h
          subst h
          simp [mkV, hu, Op.equalIn, run_underlying hu]
        · cases h
      · cases h
    · rename_i hu
      split at h
      · simp only [Option.some.injEq] at h
        subst h
        simp [mkV, hu, Op.equalIn, run_underlying hu]
      · cases h
    · rename_i hu
      split at h
      · simp only [Option.some.injEq] at h
        subst h
        simp [mkV, hu, Op.equalIn, run_underlying hu, strEq, beq_toListBytes]
      · cases h
    · rename_i fs hu
      cases hst : P.stoodInHeld t with
      | true => rw [hst] at h; cases h
      | false =>
        rw [hst] at h
        have hfo : P.fieldsOf t = fs := by simp [Program.fieldsOf, hu]
        simp only [mkV, hu]
        rw [run_equalIn_struct w D t ⟨xs⟩ ⟨ys⟩ (by rw [hfo]; exact hu) hst, hfo]
        exact eqFields_T d D (fun t' xs' ys' b' e => equalIn_T d t' xs' ys' b' e D (by omega)) fs.toList 0 xs ys b (by simpa using h) (by omega) (by omega)
    · cases h
theorem eqT_struct {d t : Nat} {xs ys : List Value} {b : Bool} (h : eqT P d t xs ys = some b) {fs : Array Field} (hu : P.underlying t = some (.struct fs)) : mkV P t xs = .agg ⟨xs⟩ ∧ mkV P t ys = .agg ⟨ys⟩ := by
  simp [mkV, hu]
theorem run_eqGuard_other (op : BinOp) (t : TypeId) (x y : Operand) (a b : Value) (h1 : ∀ cs, a ≠ .agg cs) (h2 : a ≠ .nilIface) : (eqGuard op t x y a b).run P w = .ok () w := by
  unfold eqGuard
  cases op <;> simp <;> (split <;> first | rfl | (exfalso; first | exact h2 rfl | exact h1 _ rfl) | simp)
theorem run_shift (op : BinOp) (k k' : IntKind) (a b : Int) (t : TypeId) (h : op = .shl ∨ op = .shr) : (binOp op t (.int k a) (.int k' b)).run P w = (Op.shift op k a k' b).run P w := by
  rcases h with rfl | rfl <;> rfl
theorem equal_succ (t : TypeId) (x y : Value) : Op.equal t x y = Op.equalIn (9999 + 1) t x y := rfl
theorem equalIn_ptr (d : Nat) {t e : TypeId} (hd : P.underlying t = some (.pointer e)) (a : Option Addr) : (Op.equalIn (d + 1) t (.pointer a) (.pointer none)).run P w = .ok a.isNone w := by
  cases a <;> simp [Op.equalIn, run_underlying hd]
theorem equalIn_slice (d : Nat) {t e : TypeId} (hd : P.underlying t = some (.slice e)) (a : Option Addr) (n c n' c' : Nat) : (Op.equalIn (d + 1) t (.slice a n c) (.slice none n' c')).run P w = .ok a.isNone w := by
  cases a <;> simp [Op.equalIn, run_underlying hd]
theorem eqItems_bs {e : TypeId} (he : P.underlying e = some .bool) (hp : P.plainKey e = true) (hc : P.cellsOf e = 1) (d : Nat) {xs ys : Array Value} : ∀ (m k : Nat) (b : Bool), eqBs (xs.toList.drop k) (ys.toList.drop k) = some b → xs.size = k + m → ys.size = k + m → (Op.eqItems (d + 1) e 1 xs ys (List.range' k m)).run P w = .ok b w
  | 0, k, b, h, h1, h2 => by
    rw [List.drop_eq_nil_of_le (by rw [Array.length_toList]; omega), List.drop_eq_nil_of_le (by rw [Array.length_toList]; omega)] at h
    simp only [eqBs, Option.some.injEq] at h
    subst h
    simp [Op.eqItems]
  | m + 1, k, b, h, h1, h2 => by
    have l1 : k < xs.toList.length := by rw [Array.length_toList]; omega
    have l2 : k < ys.toList.length := by rw [Array.length_toList]; omega
    rw [List.drop_eq_getElem_cons l1, List.drop_eq_getElem_cons l2] at h
    have hx : xs[k * 1]? = some (xs.toList[k]) := by rw [Nat.mul_one]; simp
    have hy : ys[k * 1]? = some (ys.toList[k]) := by rw [Nat.mul_one]; simp
    generalize xs.toList[k] = x at *
    generalize ys.toList[k] = y at *
    cases x with
    | bool a =>
      cases y with
      | bool c =>
        simp only [eqBs] at h
        cases hr : eqBs (xs.toList.drop (k + 1)) (ys.toList.drop (k + 1)) with
        | none => rw [hr] at h; cases h
        | some r =>
          rw [hr] at h
          simp only [Option.some.injEq] at h
          subst h
          have ih := eqItems_bs he hp hc d m (k + 1) r hr (by omega) (by omega)
          have p1 := run_part_plain (w := w) hp hx
          have p2 := run_part_plain (w := w) hp hy
          rw [List.range'_succ]
          have p3 : (Op.equalIn (d + 1) e (.bool a) (.bool c)).run P w = .ok (a == c) w := by simp [Op.equalIn, run_underlying he]
          simp only [Op.eqItems, Sem.run_bind, p1, p2, p3, Result.andThen_ok]
          cases hac : (a == c) with
          | false => simp
          | true => simpa using ih
      | _ => simp [eqBs] at h
    | _ => simp [eqBs] at h
theorem equalIn_arr {t e : TypeId} {n : Nat} {i : TypeInfo} {xs ys : Array Value} {b : Bool} (hu : P.underlying t = some (.array n e)) (hi : P.info? e = some i) (he : P.underlying e = some .bool) (hp : P.plainKey e = true) (hc : P.cellsOf e = 1) (h1 : xs.size = n) (h2 : ys.size = n) (h : eqBs xs.toList ys.toList = some b) (d : Nat) :
    (Op.equalIn (d + 2) t (.agg xs) (.agg ys)).run P w = .ok b w := by
  rw [run_equalIn_array w (d + 1) xs ys hu hi, hc, List.range_eq_range']
  exact eqItems_bs he hp hc d n 0 b (by simpa using h) (by omega) (by omega)
theorem eqArr_run {t : TypeId} {xs ys : Array Value} {b : Bool} (h : eqArr P t xs.toList ys.toList = some b) : (Op.equalIn 10000 t (.agg xs) (.agg ys)).run P w = .ok b w := by
  unfold eqArr at h
  split at h
  · rename_i n e hu
    split at h
    · rename_i he
      split at h
      · rename_i i hi
        split at h
        · rename_i hc
          obtain ⟨c1, c2, c3⟩ := hc
          exact equalIn_arr hu hi he (by simp [Program.plainKey, he]) (by simp [Program.cellsOf, hi, c1]) (by simpa using c2) (by simpa using c3) h 9998
        · cases h
      · cases h
    · cases h
  · cases h
theorem binW_run {op : BinOp} {t : TypeId} {x y : Value} {K : Value → Prop} (h : binW P op t x y K) :
    ∃ v, K v ∧ ∀ (w : World) (xo yo : Operand), (do eqGuard op t xo yo x y; binOp op t x y : Sem Value).run P w = .ok v w := by
  have nog : ∀ {v : Value}, (∀ cs, x ≠ .agg cs) → x ≠ .nilIface → (∀ w : World, (binOp op t x y).run P w = .ok v w) → ∀ (w : World) (xo yo : Operand), (do eqGuard op t xo yo x y; binOp op t x y : Sem Value).run P w = .ok v w := by
    intro v h1 h2 h3 w xo yo
    simp only [Sem.run_bind, run_eqGuard_other op t xo yo x y h1 h2, Result.andThen_ok, h3]
  unfold binW at h
  split at h
  · refine ⟨_, h.2, nog (by simp) (by simp) (fun w => ?_)⟩
    rw [run_shift _ _ _ _ _ _ (.inl rfl)]
    simp only [Op.shift, iShl]
    rw [if_neg (by omega)]
    rfl
  · refine ⟨_, h.2, nog (by simp) (by simp) (fun w => ?_)⟩
    rw [run_shift _ _ _ _ _ _ (.inr rfl)]
    simp only [Op.shift, iShr]
    rw [if_neg (by omega)]
    rfl
  · rename_i op k a k' b hn1 hn2
    split at h
    · rename_i hk
      subst hk
      split at h
      · exact ⟨_, h, nog (by simp) (by simp) (fun w => by simp [binOp, Op.intArith])⟩
      · exact ⟨_, h, nog (by simp) (by simp) (fun w => by simp [binOp, Op.intArith])⟩
      · exact ⟨_, h, nog (by simp) (by simp) (fun w => by simp [binOp, Op.intArith])⟩
      · exact ⟨_, h.2, nog (by simp) (by simp) (fun w => by simp [binOp, Op.intDiv, h.1])⟩
      · exact ⟨_, h.2, nog (by simp) (by simp) (fun w => by simp [binOp, Op.intDiv, h.1])⟩
      · exact ⟨_, h, nog (by simp) (by simp) (fun w => by simp [binOp, Op.intBits, iAnd])⟩
      · exact ⟨_, h, nog (by simp) (by simp) (fun w => by simp [binOp, Op.intBits, iOr])⟩
      · exact ⟨_, h, nog (by simp) (by simp) (fun w => by simp [binOp, Op.intBits, iXor])⟩
      · exact ⟨_, h, nog (by simp) (by simp) (fun w => by simp [binOp, Op.intBits, iAndNot])⟩
      · exact ⟨_, h, nog (by simp) (by simp) (fun w => by simp [binOp, Op.intCmp])⟩
      · exact ⟨_, h, nog (by simp) (by simp) (fun w => by simp [binOp, Op.intCmp])⟩
      · exact ⟨_, h, nog (by simp) (by simp) (fun w => by simp [binOp, Op.intCmp])⟩
      · exact ⟨_, h, nog (by simp) (by simp) (fun w => by simp [binOp, Op.intCmp])⟩
      · exact ⟨_, h, nog (by simp) (by simp) (fun w => by simp [binOp, Op.intCmp])⟩
      · exact ⟨_, h, nog (by simp) (by simp) (fun w => by simp [binOp, Op.intCmp])⟩
      · exact h.elim
    · exact h.elim
  · exact ⟨_, h, nog (by simp) (by simp) (fun w => by simp [binOp, Op.stringOp, strEq])⟩
  · exact ⟨_, h, nog (by simp) (by simp) (fun w => by simp [binOp, Op.stringOp, strEq])⟩
  · exact ⟨_, h, nog (by simp) (by simp) (fun w => by simp [binOp, Op.stringOp, strLt])⟩
  · exact ⟨_, h, nog (by simp) (by simp) (fun w => by simp [binOp, Op.stringOp, strLt, strEq])⟩
  · exact ⟨_, h, nog (by simp) (by simp) (fun w => by simp [binOp, Op.stringOp, strLt, strEq])⟩
  · exact ⟨_, h, nog (by simp) (by simp) (fun w => by simp [binOp, Op.stringOp, strLt])⟩
  · obtain ⟨d, hd, h⟩ := om_elim h
    split at h
    · refine ⟨_, h, nog (by simp) (by simp) (fun w => ?_)⟩
      simp only [binOp, Sem.run_bind, run_equalIn_bool w 9999 t _ _ hd, equal_succ, Result.andThen_ok, Sem.run_pure]
    · exact h.elim
  · obtain ⟨d, hd, h⟩ := om_elim h
    split at h
    · refine ⟨_, h, nog (by simp) (by simp) (fun w => ?_)⟩
      simp only [binOp, Sem.run_bind, run_equalIn_bool w 9999 t _ _ hd, equal_succ, Result.andThen_ok, Sem.run_pure]
    · exact h.elim
  · obtain ⟨d, hd, h⟩ := om_elim h
    split at h
    · refine ⟨_, h, nog (by simp) (by simp) (fun w => ?_)⟩
      simp only [binOp, Sem.run_bind, equalIn_ptr 9999 hd, equal_succ, Result.andThen_ok, Sem.run_pure]
    · exact h.elim
  · obtain ⟨d, hd, h⟩ := om_elim h
    split at h
    · refine ⟨_, h, nog (by simp) (by simp) (fun w => ?_)⟩
      simp only [binOp, Sem.run_bind, equalIn_ptr 9999 hd, equal_succ, Result.andThen_ok, Sem.run_pure]
    · exact h.elim
  · obtain ⟨d, hd, h⟩ := om_elim h
    split at h
    · refine ⟨_, h, nog (by simp) (by simp) (fun w => ?_)⟩
      simp only [binOp, Sem.run_bind, equalIn_slice 9999 hd, equal_succ, Result.andThen_ok, Sem.run_pure]
    · exact h.elim
  · obtain ⟨d, hd, h⟩ := om_elim h
    split at h
    · refine ⟨_, h, nog (by simp) (by simp) (fun w => ?_)⟩
      simp only [binOp, Sem.run_bind, equalIn_slice 9999 hd, equal_succ, Result.andThen_ok, Sem.run_pure]
    · exact h.elim
  · rename_i xs ys
    cases hg : P.eqGuardType P.depth t with
    | true => rw [hg] at h; exact h.elim
    | false =>
      rw [hg] at h
      cases ha : isArrB P t with
      | true =>
        rw [ha] at h
        obtain ⟨b, hb, h⟩ := om_elim h
        refine ⟨_, h, ?_⟩
        intro w xo yo
        have he := eqArr_run (w := w) hb
        simp only [Sem.run_bind, run_eqGuard_agg w .eql t xo yo xs ys hg, Result.andThen_ok, run_eql_struct, he]
      | false =>
        rw [ha] at h
        obtain ⟨⟨fs, hu⟩, h⟩ := h
        obtain ⟨b, hb, h⟩ := om_elim h
        refine ⟨_, h, ?_⟩
        have hagg : mkV P t xs.toList = .agg xs ∧ mkV P t ys.toList = .agg ys := eqT_struct hb hu
        intro w xo yo
        have he := equalIn_T (w := w) 8 t xs.toList ys.toList b hb 10000 (by omega)
        rw [hagg.1, hagg.2] at he
        simp only [Sem.run_bind, run_eqGuard_agg w .eql t xo yo xs ys hg, Result.andThen_ok, run_eql_struct, he]
  · rename_i xs ys
    cases hg : P.eqGuardType P.depth t with
    | true => rw [hg] at h; exact h.elim
    | false =>
      rw [hg] at h
      cases ha : isArrB P t with
      | true =>
        rw [ha] at h
        obtain ⟨b, hb, h⟩ := om_elim h
        refine ⟨_, h, ?_⟩
        intro w xo yo
        have he := eqArr_run (w := w) hb
        simp only [Sem.run_bind, run_eqGuard_agg w .neq t xo yo xs ys hg, Result.andThen_ok, run_neq_struct, he]
      | false =>
        rw [ha] at h
        obtain ⟨⟨fs, hu⟩, h⟩ := h
        obtain ⟨b, hb, h⟩ := om_elim h
        refine ⟨_, h, ?_⟩
        have hagg : mkV P t xs.toList = .agg xs ∧ mkV P t ys.toList = .agg ys := eqT_struct hb hu
        intro w xo yo
        have he := equalIn_T (w := w) 8 t xs.toList ys.toList b hb 10000 (by omega)
        rw [hagg.1, hagg.2] at he
        simp only [Sem.run_bind, run_eqGuard_agg w .neq t xo yo xs ys hg, Result.andThen_ok, run_neq_struct, he]
  · exact h.elim
theorem unW_run {op : UnOp} {x : Value} {K : Value → Prop} (h : unW op x K) : ∃ v, K v ∧ ∀ w : World, (Op.unary op x).run P w = .ok v w := by
  unfold unW at h
  split at h
  · exact ⟨_, h, fun w => by simp [Op.unary, Op.intArith]⟩
  · exact ⟨_, h, fun w => by simp [Op.unary, Op.intBits, iNot, iXor]⟩
  · exact ⟨_, h, fun w => by simp [Op.unary]⟩
  · exact h.elim
theorem markStringish_run (a : Addr) : (markStringish a).run P w = .ok () (markStr w a) := by
  unfold markStringish markStr
  simp only [Sem.run_bind, run_shape, Result.andThen_ok]
  cases w.shape? a.block with
  | none => rfl
  | some x => obtain ⟨t, n⟩ := x; rfl
theorem bytes_run {src dst e : TypeId} (hs : P.underlying src = some (.slice e)) (hd : P.underlying dst = some .string) (he : P.underlying e = some (.int .u8)) {a : Option Addr} {n c : Nat} {xs : List Int} (hB : BytesAt w a n xs) :
    (convert src dst (.slice a n c)).run P w = .ok (.string (strOfNums xs)) w := by
  obtain ⟨hl, hc⟩ := hB
  rcases a with _ | ⟨b, off, spot⟩
  · have hx : xs = [] := by
      cases xs with
      | nil => rfl
      | cons x xs => obtain ⟨p, hp, _⟩ := hc 0 x rfl; cases hp
    subst hx
    exact run_convert_bytes_nil w src e hs he n c dst hd
  · have hz : xs = [] ∨ spot = none := by
      cases xs with
      | nil => exact .inl rfl
      | cons x xs =>
        obtain ⟨p, hp, hq⟩ := hc 0 x rfl
        injection hp with hp
        subst hp
        cases spot with
        | none => exact .inr rfl
        | some s =>
          exfalso
          simp only [Addr.add, if_true, World.cell?] at hq
          split at hq <;> simp at hq
    rcases hz with rfl | rfl
    · simp at hl
      subst hl
      simp [convert, run_underlying hs, run_underlying hd, run_underlying he, Conv.bytesToString, loadCells, loadCellsFrom]
      rfl
    · refine run_convert_bytes_arg w src e hs he b off n c xs hl (fun i hi => ?_) dst hd
      have hi' : i < xs.length := by omega
      obtain ⟨p, hp, hq⟩ := hc i _ (List.getElem?_eq_getElem hi')
      injection hp with hp
      subst hp
      have ha : (⟨b, off, none⟩ : Addr).add i = ⟨b, off + i, none⟩ := by unfold Addr.add; split <;> simp_all
      rw [ha] at hq
      rw [hq]
      simp [List.getD_eq_getElem?_getD, List.getElem?_eq_getElem hi']
theorem convW_run {src dst : TypeId} {x : Value} {K : QT} (h : convW P src dst x w K) : ∃ v w', K v w' ∧ (convert src dst x).run P w = .ok v w' := by
  obtain ⟨s, hs, h⟩ := om_elim h
  obtain ⟨d, hd, h⟩ := om_elim h
  split at h
  · exact ⟨_, _, h, by simp [convert, run_underlying hs, run_underlying hd, Conv.intToInt]⟩
  · exact ⟨_, _, h, by simp [convert, run_underlying hs, run_underlying hd]⟩
  · rename_i e0 e a n c
    cases hb : (src == dst) with
    | false => rw [hb] at h; exact h.elim
    | true =>
      rw [hb] at h
      obtain ⟨ed, he, h⟩ := om_elim h
      split at h
      · refine ⟨_, _, h, ?_⟩
        simp [convert, run_underlying hs, run_underlying hd, run_underlying he, hb, markStringish_run]
      · exact h.elim
  · obtain ⟨ed, he, h⟩ := om_elim h
    split at h
    · obtain ⟨xs, ⟨hl, hc⟩, h⟩ := h
      refine ⟨_, _, h, ?_⟩
      exact bytes_run hs hd he ⟨hl, hc⟩
    · exact h.elim
  · exact h.elim
end
end Go.Proofs.YtnjmkhhaodgpbaaGreatX
namespace Go.Proofs.YtnjmkhhaodgpbaaGreatX
open Go.RowKit
def evo (ρ : Env) : Option Operand → (Option Value → Prop) → Prop
  | none, K => K none
  | some x, K => om (ρ.ev x) fun v => K (some v)
def max2 (a b : Int) : Int := if b > a then b else a
def min2 (a b : Int) : Int := if b < a then b else a
def builtinW (P : Program) (b : Builtin) (ts : Array TypeId) (t : TypeId) (args : List Value) (w : World) (K : QT) : Prop := match b with
  | .len => om ts.toList[0]? fun t0 => om (P.underlying t0) fun d => match d, args with
    | .slice _, [.slice _ n _] => K (.int .i64 (n : Int)) w
    | .string, [.string s] => K (.int .i64 (s.size : Int)) w
    | .map _ _, [m] => RunR P (Builtin.len_ ts t #[m]) w fun v w' => ∃ x : Int, v = .int .i64 x ∧ K (.int .i64 x) w'
    | _, _ => False
  | .cap => om ts.toList[0]? fun t0 => om (P.underlying t0) fun d => match d, args with
    | .slice _, [.slice _ _ c] => K (.int .i64 (c : Int)) w
    | _, _ => False
  | .max => match args with
    | [.int k a, .int _ b] => K (.int k (max2 a b)) w
    | _ => False
  | .min => match args with
    | [.int k a, .int _ b] => K (.int k (min2 a b)) w
    | _ => False
  | .append => RunR P (Builtin.append_ ts t ⟨args⟩) w fun v w' => ∃ (a : Option Addr) (n c : Nat), v = .slice a n c ∧ K (.slice a n c) w'
  | .copy => RunR P (Builtin.copy_ ts t ⟨args⟩) w fun v w' => ∃ x : Int, v = .int .i64 x ∧ K (.int .i64 x) w'
  | .clear => RunR P (Builtin.clear_ ts t ⟨args⟩) w fun v w' => v = .tuple #[] ∧ K (.tuple #[]) w'
  | .delete => RunR P (Builtin.delete_ ts t ⟨args⟩) w fun v w' => v = .tuple #[] ∧ K (.tuple #[]) w'
  | _ => False
def ExtR (P : Program) (f : FuncId) (args : Array Value) (w : World) (K : QT) : Prop := ∃ v w', (callFunc f args).run P w = .ok (.value v) w' ∧ K v w'
def callW (P : Program) (c : Call) (t : TypeId) (ρ : Env) (w : World) (K : QT) : Prop := match c.callee with
  | .value f => om (ρ.ev f) fun fv => om (evs ρ c.args.toList) fun args => match fv with
    | .func (.func g) first cap => om P.funcs[g]? fun fn => bif fn.body.isSome then CallR P g ⟨first.toList ++ args ++ cap.toList⟩ w fun v w' => resW P fn.resultTypes.toList v fun u => K u w' else ExtR P g ⟨first.toList ++ args ++ cap.toList⟩ w fun v w' => resW P fn.resultTypes.toList v fun u => K u w'
    | _ => False
  | .builtin b => om (evs ρ c.args.toList) fun args => builtinW P b c.argTypes t args w K
  | _ => False
def opW (P : Program) (o : Oper) (ρ : Env) (w : World) (K : QT) : Prop := match o.op with
  | .move x => om (ρ.ev x) fun v => K v w
  | .assign x => om (ρ.ev x) fun v => K v w
  | .pick c a b => om (ρ.ev c) fun v => match v with
    | .bool t => bcase t (om (ρ.ev a) fun v => K v w) (om (ρ.ev b) fun v => K v w)
    | _ => False
  | .alloc e => om (zeroV P e) fun z => K (.pointer (some ⟨w.heap.size, 0, none⟩)) (w.alloc (.cells ⟨z⟩ e))
  | .box e x => om (ρ.ev x) fun v => K (.pointer (some ⟨w.heap.size, 0, none⟩)) (w.alloc (.cells v.cells e))
  | .build t ps => om (evps ρ ps.toList) fun vs => buildW P t vs fun v => K v w
  | .buildSlice t n ps => om (evps ρ ps.toList) fun vs => buildSliceW P t n vs w K
  | .load t a => om (ρ.ev a) fun x => loadW P t x w fun v => K v w
  | .store t a x => om (ρ.ev a) fun p => om (ρ.ev x) fun v => storeW P t p v w fun w' => K undef w'
  | .nilCheck x => om (ρ.ev x) fun v => match v with
    | .pointer a => optP a fun p => K (.pointer (some p)) w
    | .func (.func f) a b => K (.func (.func f) a b) w
    | _ => False
  | .binOp op t x y _ => om (ρ.ev x) fun a => om (ρ.ev y) fun b => binW P op t a b fun v => K v w
  | .unOp op _ x => om (ρ.ev x) fun a => unW op a fun v => K v w
  | .convert s d x => om (ρ.ev x) fun a => convW P s d a w K
  | .makeFunc fn first cap => om (evs ρ first.toList) fun fs => om (evs ρ cap.toList) fun cs => K (.func fn ⟨fs⟩ ⟨cs⟩) w
  | .makeMap _ none => K (.map (some w.heap.size)) (w.alloc (.map #[] 0))
  | .slice t x lo hi none => om (ρ.ev x) fun v => evo ρ lo fun l => evo ρ hi fun h => sliceW P t v l h fun u => K u w
  | .slice t x lo hi (some m) => om (ρ.ev x) fun v => evo ρ lo fun l => evo ρ hi fun h => om (ρ.ev m) fun j => RunR P (Instr.sliceAt t v l h (some j)) w fun u w' => ∃ (a : Option Addr) (n c : Nat), u = .slice a n c ∧ K (.slice a n c) w'
  | .fieldAddr s x i => om (ρ.ev x) fun v => fieldW P s v i fun u => K u w
  | .indexAddr t x i => om (ρ.ev x) fun v => om (ρ.ev i) fun j => indexW P t v j fun u => K u w
  | .index t x i => om (ρ.ev x) fun v => om (ρ.ev i) fun j => idxW P t v j fun u => K u w
  | .extract x i => om (ρ.ev x) fun v => match v with
    | .tuple vs => om vs.toList[i]? fun u => K u w
    | _ => False
  | .makeSlice t l c => om (ρ.ev l) fun a => om (ρ.ev c) fun b => RunR P (Instr.makeSlice t a b) w fun v w' => ∃ (a : Option Addr) (n c : Nat), v = .slice a n c ∧ K (.slice a n c) w'
  | .lookup t m k ok => om (ρ.ev m) fun a => om (ρ.ev k) fun b => RunR P (Instr.lookup t a b ok) w fun v w' => om (P.underlying t) fun d => match d with
    | .map _ e => resW P (bif ok then [e, 4] else [e]) v fun u => K u w'
    | _ => False
  | .mapUpdate t m k x => om (ρ.ev m) fun a => om (ρ.ev k) fun b => om (ρ.ev x) fun c => RunR P (Instr.mapUpdate t a b c) w fun _ w' => K undef w'
  | .range t x => om (ρ.ev x) fun a => RunR P (Instr.range t a) w fun v w' => ∃ p : Addr, v = .pointer (some p) ∧ K (.pointer (some p)) w'
  | .next it s => om (ρ.ev it) fun a => RunR P (Instr.next a s o.type) w fun v w' => (v = .tuple #[.bool false] ∧ K (.tuple #[.bool false]) w') ∨ ∃ (k : Int) (e : Value), v = .tuple #[.bool true, .int .u64 k, e] ∧ K (.tuple #[.bool true, .int .u64 k, e]) w'
  | .entry it => om (ρ.ev it) fun a => RunR P (Instr.entry a) w fun v w' => ∃ (k : Int) (e : Value), v = .tuple #[.int .u64 k, e] ∧ K (.tuple #[.int .u64 k, e]) w'
  | .call c => callW P c o.type ρ w K
  | _ => False
def NoGr (P : Program) : Prop := P.funcs.all (fun f => f.name != "runtime.NumGoroutine") = true
section
variable {P : Program} {n : Nat} {ρ : Env} {a : Act} {w : World}
theorem resX_value {o : Oper} {v : Value} {w' : World} (h : (execOp a.eval o).run P w = .ok (.value v) w') : ResX P o a w v w' := .inl h
theorem resX_skip {o : Oper} {w' : World} (h : (execOp a.eval o).run P w = .ok .skip w') : ResX P o a w undef w' := .inr (.inl ⟨h, rfl⟩)
theorem evo_elim {x : Option Operand} {K : Option Value → Prop} (hA : Agree n ρ a) (h : evo ρ x K) : ∃ v, x.map a.eval = v ∧ K v := by
  cases x with
  | none => exact ⟨none, rfl, h⟩
  | some x =>
    obtain ⟨v, hv, h⟩ := om_elim h
    exact ⟨some v, by simp [hA.ev hv], h⟩
theorem map_evs {xs : Array Operand} {vs : List Value} (hA : Agree n ρ a) (h : evs ρ xs.toList = some vs) : xs.map a.eval = ⟨vs⟩ := by
  apply Array.ext'
  simp [evs_map hA h]
theorem map_evps {xs : Array (Nat × Operand)} {vs : List (Nat × Value)} (hA : Agree n ρ a) (h : evps ρ xs.toList = some vs) : (xs.map fun (i, x) => (i, a.eval x)) = ⟨vs⟩ := by
  apply Array.ext'
  simp only [Array.toList_map]
  exact evps_map hA h
theorem builtinW_run {b : Builtin} {ts : Array TypeId} {t : TypeId} {args : List Value} {K : QT} (h : builtinW P b ts t args w K) :
    ∃ v w', K v w' ∧ ∀ consts : Array Bool, (builtin b ts t consts ⟨args⟩).run P w = .ok (.value v) w' := by
  unfold builtinW at h
  split at h
  · obtain ⟨t0, h0, h⟩ := om_elim h
    obtain ⟨d, hd, h⟩ := om_elim h
    have h0' : ts[0]? = some t0 := by simpa using h0
    split at h
    · exact ⟨_, _, h, fun consts => by simp [builtin, Builtin.len_, h0', run_underlying hd, goInt]⟩
    · exact ⟨_, _, h, fun consts => by simp [builtin, Builtin.len_, h0', run_underlying hd, goInt]⟩
    · obtain ⟨v, w', hr, x, rfl, h⟩ := h
      exact ⟨_, _, h, fun consts => by simp only [builtin, Sem.run_bind, hr, Result.andThen_ok, Sem.run_pure]⟩
    · exact h.elim
  · obtain ⟨t0, h0, h⟩ := om_elim h
    obtain ⟨d, hd, h⟩ := om_elim h
    have h0' : ts[0]? = some t0 := by simpa using h0
    split at h
    · exact ⟨_, _, h, fun consts => by simp [builtin, Builtin.cap_, h0', run_underlying hd, goInt]⟩
    · exact h.elim
  · split at h
    · exact ⟨_, _, h, fun consts => by simp [builtin, Builtin.max_, Builtin.max2, max2]⟩
    · exact h.elim
  · split at h
    · exact ⟨_, _, h, fun consts => by simp [builtin, Builtin.min_, Builtin.min2, min2]⟩
    · exact h.elim
  · obtain ⟨v, w', hr, x, y, z, rfl, h⟩ := h
    exact ⟨_, _, h, fun consts => by simp only [builtin, Sem.run_bind, hr, Result.andThen_ok, Sem.run_pure]⟩
  · obtain ⟨v, w', hr, x, rfl, h⟩ := h
    exact ⟨_, _, h, fun consts => by simp only [builtin, Sem.run_bind, hr, Result.andThen_ok, Sem.run_pure]⟩
  · obtain ⟨v, w', hr, rfl, h⟩ := h
    exact ⟨_, _, h, fun consts => by simp only [builtin, Sem.run_bind, hr, Result.andThen_ok, Sem.run_pure]⟩
  · obtain ⟨v, w', hr, rfl, h⟩ := h
    exact ⟨_, _, h, fun consts => by simp only [builtin, Sem.run_bind, hr, Result.andThen_ok, Sem.run_pure]⟩
  · exact h.elim
theorem callFunc_run (hN : NoGr P) {g : FuncId} {fn : Func} (hf : P.funcs[g]? = some fn) (hb : fn.body.isSome = true) (args : Array Value) : (callFunc g args).run P w = .ok (.enter g args) w := by
  have hn : fn.name ≠ "runtime.NumGoroutine" := by
    have hm : fn ∈ P.funcs := Array.mem_of_getElem? hf
    have := Array.all_eq_true'.1 hN fn hm
    simpa using this
  obtain ⟨c, hc⟩ := Option.isSome_iff_exists.1 hb
  simp [callFunc, hf, hn, hc]
theorem opW_res (hN : NoGr P) (hA : Agree n ρ a) {o : Oper} {K : QT} (h : opW P o ρ w K) : ∃ v w', K v w' ∧ ResX P o a w v w' := by
  unfold opW at h
  split at h <;> rename_i ho
  · obtain ⟨v, hv, h⟩ := om_elim h
    exact ⟨_, _, h, resX_value (by simp [execOp, ho, hA.ev hv])⟩
  · obtain ⟨v, hv, h⟩ := om_elim h
    exact ⟨_, _, h, resX_value (by simp [execOp, ho, hA.ev hv])⟩
  · obtain ⟨v, hv, h⟩ := om_elim h
    split at h
    · rename_i t
      cases t with
      | true =>
        obtain ⟨u, hu, h⟩ := om_elim h
        exact ⟨_, _, h, resX_value (by simp [execOp, ho, hA.ev hv, asBool, hA.ev hu])⟩
      | false =>
        obtain ⟨u, hu, h⟩ := om_elim h
        exact ⟨_, _, h, resX_value (by simp [execOp, ho, hA.ev hv, asBool, hA.ev hu])⟩
    · exact h.elim
  · obtain ⟨z, hz, h⟩ := om_elim h
    obtain ⟨zv, hzc, hzr⟩ := zero_cells hz
    exact ⟨_, _, h, resX_value (by simp [execOp, ho, Instr.alloc, hzr, newVar, newRow, hzc])⟩
  · obtain ⟨v, hv, h⟩ := om_elim h
    exact ⟨_, _, h, resX_value (by simp [execOp, ho, hA.ev hv, Instr.box, newVar, newRow])⟩
  · obtain ⟨vs, hv, h⟩ := om_elim h
    obtain ⟨v, hK, hr⟩ := buildW_run h
    exact ⟨_, _, hK, resX_value (by simp only [execOp, ho, map_evps hA hv, Sem.run_bind, hr, Result.andThen_ok, Sem.run_pure])⟩
  · obtain ⟨vs, hv, h⟩ := om_elim h
    obtain ⟨v, w', hK, hr⟩ := buildSliceW_run h
    exact ⟨_, _, hK, resX_value (by simp only [execOp, ho, map_evps hA hv, Sem.run_bind, hr, Result.andThen_ok, Sem.run_pure])⟩
  · obtain ⟨x, hx, h⟩ := om_elim h
    obtain ⟨v, hK, hr⟩ := loadW_run h
    exact ⟨_, _, hK, resX_value (by simp only [execOp, ho, hA.ev hx, Sem.run_bind, hr, Result.andThen_ok, Sem.run_pure])⟩
  · obtain ⟨p, hp, h⟩ := om_elim h
    obtain ⟨x, hx, h⟩ := om_elim h
    obtain ⟨w', hK, hr⟩ := storeW_run h
    exact ⟨_, _, hK, resX_skip (by simp only [execOp, ho, hA.ev hp, hA.ev hx, Sem.run_bind, hr, Result.andThen_ok, Sem.run_pure])⟩
  · obtain ⟨v, hv, h⟩ := om_elim h
    split at h
    · obtain ⟨p, rfl, h⟩ := optP_elim h
      exact ⟨_, _, h, resX_value (by simp [execOp, ho, hA.ev hv])⟩
    · exact ⟨_, _, h, resX_value (by simp [execOp, ho, hA.ev hv])⟩
    · exact h.elim
  · obtain ⟨x, hx, h⟩ := om_elim h
    obtain ⟨y, hy, h⟩ := om_elim h
    obtain ⟨v, hK, hr⟩ := binW_run h
    exact ⟨_, _, hK, resX_value (by simp only [execOp, ho, hA.ev hx, hA.ev hy]; rw [Sem.run_bind, hr w _ _]; rfl)⟩
  · obtain ⟨x, hx, h⟩ := om_elim h
    obtain ⟨v, hK, hr⟩ := unW_run (P := P) h
    exact ⟨_, _, hK, resX_value (by simp only [execOp, ho, hA.ev hx, Sem.run_bind, hr, Result.andThen_ok, Sem.run_pure])⟩
  · obtain ⟨x, hx, h⟩ := om_elim h
    obtain ⟨v, w', hK, hr⟩ := convW_run h
    exact ⟨_, _, hK, resX_value (by simp only [execOp, ho, hA.ev hx, Sem.run_bind, hr, Result.andThen_ok, Sem.run_pure])⟩
  · obtain ⟨fs, hf, h⟩ := om_elim h
    obtain ⟨cs, hc, h⟩ := om_elim h
    exact ⟨_, _, h, resX_value (by simp [execOp, ho, map_evs hA hf, map_evs hA hc, Instr.makeFunc])⟩
  · exact ⟨_, _, h, resX_value (by simp [execOp, ho, Instr.makeMap])⟩
  · obtain ⟨x, hx, h⟩ := om_elim h
    obtain ⟨l, hl, h⟩ := evo_elim hA h
    obtain ⟨u, hu, h⟩ := evo_elim hA h
    obtain ⟨v, hK, hr⟩ := sliceW_run h
    exact ⟨_, _, hK, resX_value (by simp only [execOp, ho, hA.ev hx, hl, hu, Option.map_none, Sem.run_bind, hr, Result.andThen_ok, Sem.run_pure])⟩
  · obtain ⟨x, hx, h⟩ := om_elim h
    obtain ⟨l, hl, h⟩ := evo_elim hA h
    obtain ⟨u, hu, h⟩ := evo_elim hA h
    obtain ⟨j, hj, h⟩ := om_elim h
    obtain ⟨v, w', hr, p, q, r, rfl, h⟩ := h
    exact ⟨_, _, h, resX_value (by simp only [execOp, ho, hA.ev hx, hl, hu, Option.map_some, hA.ev hj, Sem.run_bind, hr, Result.andThen_ok, Sem.run_pure])⟩
  · obtain ⟨x, hx, h⟩ := om_elim h
    obtain ⟨v, hK, hr⟩ := fieldW_run h
    exact ⟨_, _, hK, resX_value (by simp only [execOp, ho, hA.ev hx, Sem.run_bind, hr, Result.andThen_ok, Sem.run_pure])⟩
  · obtain ⟨x, hx, h⟩ := om_elim h
    obtain ⟨y, hy, h⟩ := om_elim h
    obtain ⟨v, hK, hr⟩ := indexW_run h
    exact ⟨_, _, hK, resX_value (by simp only [execOp, ho, hA.ev hx, hA.ev hy, Sem.run_bind, hr, Result.andThen_ok, Sem.run_pure])⟩
  · obtain ⟨x, hx, h⟩ := om_elim h
    obtain ⟨y, hy, h⟩ := om_elim h
    obtain ⟨v, hK, hr⟩ := idxW_run h
    exact ⟨_, _, hK, resX_value (by simp only [execOp, ho, hA.ev hx, hA.ev hy, Sem.run_bind, hr, Result.andThen_ok, Sem.run_pure])⟩
  · obtain ⟨x, hx, h⟩ := om_elim h
    split at h
    · obtain ⟨u, hu, h⟩ := om_elim h
      simp only [Array.getElem?_toList] at hu
      exact ⟨_, _, h, resX_value (by simp [execOp, ho, hA.ev hx, Instr.extract, hu])⟩
    · exact h.elim
  · obtain ⟨x, hx, h⟩ := om_elim h
    obtain ⟨y, hy, h⟩ := om_elim h
    obtain ⟨v, w', hr, p, q, r, rfl, h⟩ := h
    exact ⟨_, _, h, resX_value (by simp only [execOp, ho, hA.ev hx, hA.ev hy, Sem.run_bind, hr, Result.andThen_ok, Sem.run_pure])⟩
  · obtain ⟨x, hx, h⟩ := om_elim h
    obtain ⟨y, hy, h⟩ := om_elim h
    obtain ⟨v, w', hr, h⟩ := h
    obtain ⟨d, hd, h⟩ := om_elim h
    split at h
    · have h := resW_elim h
      exact ⟨_, _, h, resX_value (by simp only [execOp, ho, hA.ev hx, hA.ev hy, Sem.run_bind, hr, Result.andThen_ok, Sem.run_pure])⟩
    · exact h.elim
  · obtain ⟨x, hx, h⟩ := om_elim h
    obtain ⟨y, hy, h⟩ := om_elim h
    obtain ⟨z, hz, h⟩ := om_elim h
    obtain ⟨v, w', hr, h⟩ := h
    exact ⟨_, _, h, resX_skip (by simp only [execOp, ho, hA.ev hx, hA.ev hy, hA.ev hz, Sem.run_bind, hr, Result.andThen_ok, Sem.run_pure])⟩
  · obtain ⟨x, hx, h⟩ := om_elim h
    obtain ⟨v, w', hr, p, rfl, h⟩ := h
    exact ⟨_, _, h, resX_value (by simp only [execOp, ho, hA.ev hx, Sem.run_bind, hr, Result.andThen_ok, Sem.run_pure])⟩
  · obtain ⟨x, hx, h⟩ := om_elim h
    obtain ⟨v, w', hr, h⟩ := h
    have h : K v w' := by rcases h with ⟨rfl, h⟩ | ⟨k, e, rfl, h⟩ <;> exact h
    exact ⟨_, _, h, resX_value (by simp only [execOp, ho, hA.ev hx, Sem.run_bind, hr, Result.andThen_ok, Sem.run_pure])⟩
  · obtain ⟨x, hx, h⟩ := om_elim h
    obtain ⟨v, w', hr, k, e, rfl, h⟩ := h
    exact ⟨_, _, h, resX_value (by simp only [execOp, ho, hA.ev hx, Sem.run_bind, hr, Result.andThen_ok, Sem.run_pure])⟩
  · rename_i c
    unfold callW at h
    split at h <;> rename_i hcal
    · obtain ⟨fv, hfv, h⟩ := om_elim h
      obtain ⟨args, hargs, h⟩ := om_elim h
      cases fv with
      | func f first cap =>
        cases f with
        | func g =>
          simp only at h
          obtain ⟨fn, hfn, h⟩ := om_elim h
          cases hb : fn.body.isSome with
          | false =>
            rw [hb] at h
            obtain ⟨v, w', hc, h⟩ := h
            refine ⟨v, w', resW_elim h, .inl ?_⟩
            simp only [execOp, ho, resolve, hcal, hA.ev hfv, map_evs hA hargs, Deferred.ofValue, Sem.run_bind, Sem.run_pure, Result.andThen_ok, invoke]
            rw [← hc]
            congr 2
            apply Array.ext'
            simp
          | true =>
            rw [hb] at h
            obtain ⟨v, w', hc, h⟩ := h
            refine ⟨v, w', resW_elim h, .inr (.inr ⟨g, _, w, ?_, hc⟩)⟩
            have hcf := callFunc_run (w := w) hN hfn hb ((first ++ (⟨args⟩ : Array Value)) ++ cap)
            simp only [execOp, ho, resolve, hcal, hA.ev hfv, map_evs hA hargs, Deferred.ofValue, Sem.run_bind, Sem.run_pure, Result.andThen_ok, invoke, hcf]
            congr 2
            apply Array.ext'
            simp
        | _ => exact h.elim
      | _ => exact h.elim
    · obtain ⟨args, hargs, h⟩ := om_elim h
      obtain ⟨v, w', hK, hr⟩ := builtinW_run h
      refine ⟨v, w', hK, resX_value ?_⟩
      simp only [execOp, ho, resolve, hcal, map_evs hA hargs, Sem.run_bind, Sem.run_pure, Result.andThen_ok, invoke, hr]
    · exact h.elim
  · exact h.elim
end
end Go.Proofs.YtnjmkhhaodgpbaaGreatX
namespace Go.Proofs.YtnjmkhhaodgpbaaGreatX
open Go.RowKit
def chOp (o : Oper) : Bool := match o.op with
  | .move _ => false
  | .assign _ => false
  | .pick .. => false
  | .build .. => false
  | .nilCheck _ => false
  | .binOp .. => false
  | .unOp .. => false
  | .convert .. => false
  | .makeFunc .. => false
  | .slice .. => false
  | .fieldAddr .. => false
  | .indexAddr .. => false
  | .index .. => false
  | .extract .. => false
  | .load .. => false
  | .call c => match c.callee with
    | .builtin .len => false
    | .builtin .cap => false
    | .builtin .max => false
    | .builtin .min => false
    | _ => true
  | _ => true
def chAt (ops : Array Oper) (i : Nat) : Bool := match ops.toList[i]? with
  | some o => chOp o
  | none => false
def dep (D : List Nat) (i j : Nat) : Bool := (D.getD j 0).testBit i
def comm (D : List Nat) (y x : Nat) : Bool := !dep D x y && !dep D y x
def StD (P : Program) (ops : Array Oper) (D : List Nat) (chk : Nat → World → Prop) (i : Nat) (o : Oper) (a : Act) (w : World) (v : Value) (w1 : World) : Prop :=
  (Region.wanted o (yielded ops a.tmps) = true ∧ ((chOp o = true ∧ ResX P o a w v w1 ∧ ∀ x, comm D i x = true → chAt ops x = false → chk x w ∧ chk x w1) ∨
    (chOp o = false ∧ w1 = w ∧ chk i w ∧ ∀ w2, chk i w2 → ResX P o a w2 v w2))) ∨
  (Region.wanted o (yielded ops a.tmps) = false ∧ v = undef ∧ w1 = w)
def RD (P : Program) (ops : Array Oper) (D : List Nat) (chk : Nat → World → Prop) : List Nat → Act → World → Act → World → Prop
  | [], a, w, a', w' => a' = a ∧ w' = w
  | i :: l, a, w, a', w' => ∃ o v w1, ops.toList[i]? = some o ∧ StD P ops D chk i o a w v w1 ∧ RD P ops D chk l (a.put o.dst v) w1 a' w'
section
variable {P : Program} {ops : Array Oper} {D : List Nat} {chk : Nat → World → Prop}
theorem ResX.put {o : Oper} {a : Act} {w w1 : World} {v u : Value} {d : Option Tmp} (hs : ∀ cs b, o.op ≠ .select cs b) (hd : ∀ e, d = some e → e ∉ o.looksAt ops) : ResX P o (a.put d u) w v w1 ↔ ResX P o a w v w1 := by
  unfold ResX
  rw [execOp_put o hs a d u hd]
theorem StD.put {i : Nat} {o : Oper} {a : Act} {w w1 : World} {v u : Value} {d : Option Tmp} (hs : ∀ cs b, o.op ≠ .select cs b) (hd : ∀ e, d = some e → e ∉ o.looksAt ops) :
    StD P ops D chk i o (a.put d u) w v w1 ↔ StD P ops D chk i o a w v w1 := by
  unfold StD
  rw [wanted_put o a d u hd]
  simp only [ResX.put hs hd]
theorem chAt_of {i : Nat} {o : Oper} (h : ops.toList[i]? = some o) : chAt ops i = chOp o := by simp only [chAt, h]
theorem swap (hsel : Region.noSelect ops = true) {y x : Nat} {oy ox : Oper} (hy : ops.toList[y]? = some oy) (hx : ops.toList[x]? = some ox) (hap : oy.apart ops ox = true)
    (hc : comm D y x = true) (hcx : comm D x y = true) (hch : ¬ (chOp oy = true ∧ chOp ox = true)) {a a' : Act} {w w' : World} {l : List Nat} (h : RD P ops D chk (y :: x :: l) a w a' w') : RD P ops D chk (x :: y :: l) a w a' w' := by
  obtain ⟨h1, h2, h3⟩ := Oper.apart_spec hap
  have sy : ∀ cs b, oy.op ≠ .select cs b := fun cs b => Region.noSelect_spec hsel y oy cs b (by simpa using hy)
  have sx : ∀ cs b, ox.op ≠ .select cs b := fun cs b => Region.noSelect_spec hsel x ox cs b (by simpa using hx)
  obtain ⟨oy', vy, w1, hy', hSy, ox', vx, w2, hx', hSx, hr⟩ := h
  rw [hy] at hy'
  rw [hx] at hx'
  injection hy' with hy'
  injection hx' with hx'
  subst hy'
  subst hx'
  rw [StD.put sx h1] at hSx
  have hput := Act.put_comm a (x := oy.dst) (y := ox.dst) vy vx h2
  rw [hput] at hr
  have key : ∃ w3, StD P ops D chk x ox a w vx w3 ∧ StD P ops D chk y oy a w3 vy w2 := by
    cases hcx' : chOp ox with
    | false =>
      have hw2 : w2 = w1 := by rcases hSx with ⟨_, ⟨h', _⟩ | ⟨_, h', _⟩⟩ | ⟨_, _, h'⟩ <;> first | exact h' | (rw [hcx'] at h'; cases h')
      subst hw2
      refine ⟨w, ?_, hSy⟩
      rcases hSx with ⟨hwx, ⟨h', _⟩ | ⟨_, _, hck, hres⟩⟩ | ⟨hwx, hv, _⟩
      · rw [hcx'] at h'; cases h'
      · refine .inl ⟨hwx, .inr ⟨hcx', rfl, ?_, hres⟩⟩
        rcases hSy with ⟨_, ⟨_, _, hob⟩ | ⟨_, he, _⟩⟩ | ⟨_, _, he⟩
        · exact (hob x hc (by rw [chAt_of hx, hcx'])).1
        · rw [← he]; exact hck
        · rw [← he]; exact hck
      · exact .inr ⟨hwx, hv, rfl⟩
    | true =>
      have hcy : chOp oy = false := by
        cases hb : chOp oy with
        | false => rfl
        | true => exact absurd ⟨hb, hcx'⟩ hch
      have hw1 : w1 = w := by rcases hSy with ⟨_, ⟨h', _⟩ | ⟨_, h', _⟩⟩ | ⟨_, _, h'⟩ <;> first | exact h' | (rw [hcy] at h'; cases h')
      subst hw1
      refine ⟨w2, hSx, ?_⟩
      rcases hSy with ⟨hwy, ⟨h', _⟩ | ⟨_, _, hck, hres⟩⟩ | ⟨hwy, hv, _⟩
      · rw [hcy] at h'; cases h'
      · refine .inl ⟨hwy, .inr ⟨hcy, rfl, ?_, hres⟩⟩
        rcases hSx with ⟨_, ⟨_, _, hob⟩ | ⟨h', _⟩⟩ | ⟨_, _, he⟩
        · exact (hob y hcx (by rw [chAt_of hy, hcy])).2
        · rw [hcx'] at h'; cases h'
        · rw [he]; exact hck
      · exact .inr ⟨hwy, hv, rfl⟩
  obtain ⟨w3, k1, k2⟩ := key
  exact ⟨ox, vx, w3, hx, k1, oy, vy, w2, hy, (StD.put sy h3).2 k2, hr⟩
def okO (ops : Array Oper) (D : List Nat) : List Nat → Bool
  | [] => true
  | i :: l => match ops.toList[i]? with
    | none => false
    | some o => !l.contains i && o.after.toList.all (fun e => !Region.binds .any e || (!l.contains e.on && e.on != i && Nat.blt e.on ops.toList.length)) &&
      l.all (fun j => !dep D j i && (dep D i j || match ops.toList[j]? with
        | some oj => o.apart ops oj
        | none => false)) && okO ops D l
theorem okO_drop : ∀ (l1 : List Nat) (i : Nat) (l2 : List Nat), okO ops D (l1 ++ i :: l2) = true → okO ops D (l1 ++ l2) = true
  | [], i, l2, h => by
    simp only [List.nil_append, okO] at h ⊢
    split at h
    · cases h
    · simp only [Bool.and_eq_true] at h
      exact h.2
  | k :: l1, i, l2, h => by
    simp only [List.cons_append, okO] at h ⊢
    split at h
    · cases h
    · rename_i o ho
      simp only [Bool.and_eq_true] at h ⊢
      obtain ⟨⟨⟨ha, hb⟩, hc⟩, hd⟩ := h
      refine ⟨⟨⟨?_, ?_⟩, ?_⟩, okO_drop l1 i l2 hd⟩
      · simp at ha ⊢
        exact ⟨ha.1, ha.2.2⟩
      · rw [List.all_eq_true] at hb ⊢
        intro e he
        have := hb e he
        simp only [Bool.or_eq_true, Bool.not_eq_true', Bool.and_eq_true] at this ⊢
        rcases this with h1 | h1
        · exact .inl h1
        · refine .inr ⟨⟨?_, h1.1.2⟩, h1.2⟩
          have h2 := h1.1.1
          simp at h2 ⊢
          exact ⟨h2.1, h2.2.2⟩
      · rw [List.all_eq_true] at hc ⊢
        intro j hj
        refine hc j ?_
        simp at hj ⊢
        rcases hj with h1 | h1
        · exact .inl h1
        · exact .inr (.inr h1)
theorem okO_pair : ∀ (l1 : List Nat) (i : Nat) (l2 : List Nat), okO ops D (l1 ++ i :: l2) = true → ∀ y ∈ l1, dep D i y = false ∧ (dep D y i = true ∨ ∃ oy oi, ops.toList[y]? = some oy ∧ ops.toList[i]? = some oi ∧ oy.apart ops oi = true) ∧ y ≠ i
  | [], _, _, _, y, hy => by cases hy
  | k :: l1, i, l2, h, y, hy => by
    simp only [List.cons_append, okO] at h
    split at h
    · cases h
    · rename_i o ho
      simp only [Bool.and_eq_true] at h
      obtain ⟨⟨⟨ha, hb⟩, hc⟩, hd⟩ := h
      rcases List.mem_cons.1 hy with rfl | hy
      · rw [List.all_eq_true] at hc
        have := hc i (by simp)
        simp only [Bool.and_eq_true, Bool.not_eq_true', Bool.or_eq_true] at this
        refine ⟨this.1, ?_, ?_⟩
        · rcases this.2 with h1 | h1
          · exact .inl h1
          · split at h1
            · rename_i oj hoj
              exact .inr ⟨o, oj, ho, hoj, h1⟩
            · cases h1
        · intro he
          subst he
          simp at ha
      · exact okO_pair l1 i l2 hd y hy
theorem okO_head {i : Nat} {l : List Nat} (h : okO ops D (i :: l) = true) : ∃ o, ops.toList[i]? = some o ∧ i ∉ l ∧ ∀ e ∈ o.after, Region.binds .any e = true → e.on ∉ l ∧ e.on ≠ i ∧ e.on < ops.size := by
  simp only [okO] at h
  split at h
  · cases h
  · rename_i o ho
    simp only [Bool.and_eq_true] at h
    obtain ⟨⟨⟨ha, hb⟩, hc⟩, hd⟩ := h
    refine ⟨o, ho, by simpa using ha, fun e he hbi => ?_⟩
    rw [List.all_eq_true] at hb
    have := hb e (by simpa using he)
    rw [hbi] at this
    simp at this
    refine ⟨this.1.1, this.1.2, ?_⟩
    exact this.2
theorem move_front (hsel : Region.noSelect ops = true) {x : Nat} {ox : Oper} (hx : ops.toList[x]? = some ox) : ∀ (l1 l2 : List Nat) {a a' : Act} {w w' : World},
    (∀ y ∈ l1, ∃ oy, ops.toList[y]? = some oy ∧ oy.apart ops ox = true ∧ comm D y x = true ∧ comm D x y = true ∧ ¬ (chOp oy = true ∧ chOp ox = true)) →
    RD P ops D chk (l1 ++ x :: l2) a w a' w' → RD P ops D chk (x :: (l1 ++ l2)) a w a' w'
  | [], l2, a, a', w, w', _, h => h
  | y :: l1, l2, a, a', w, w', hl, h => by
    obtain ⟨oy, hy, hap, c1, c2, hch⟩ := hl y (by simp)
    obtain ⟨o, v, w1, ho, hS, hr⟩ := h
    have ih := move_front hsel hx l1 l2 (fun z hz => hl z (by simp [hz])) hr
    exact swap hsel hy hx hap c1 c2 hch ⟨o, v, w1, ho, hS, ih⟩
def maskU (D : List Nat) (o : Oper) : Nat := o.after.toList.foldl (fun s e => bif Region.binds .any e then Nat.lor s (Nat.lor (2 ^ e.on) (D.getD e.on 0)) else s) 0
def okD (ops : Array Oper) (D : List Nat) : List Oper → Nat → Bool
  | [], _ => true
  | o :: l, j => o.after.toList.all (fun e => !Region.binds .any e || Nat.blt e.on j) && Nat.beq (Nat.land (D.getD j 0) (maskU D o)) (D.getD j 0) && okD ops D l (j + 1)
theorem okD_at : ∀ (l : List Oper) (k : Nat), okD ops D l k = true → ∀ j o, l[j]? = some o → (∀ e ∈ o.after, Region.binds .any e = true → e.on < k + j) ∧ Nat.land (D.getD (k + j) 0) (maskU D o) = D.getD (k + j) 0
  | [], _, _, j, o, h => by simp at h
  | x :: l, k, h, j, o, hj => by
    simp only [okD, Bool.and_eq_true] at h
    cases j with
    | zero =>
      simp at hj
      subst hj
      refine ⟨fun e he hb => ?_, Nat.eq_of_beq_eq_true h.1.2⟩
      have := List.all_eq_true.1 h.1.1 e (by simpa using he)
      rw [hb] at this
      simp at this
      simpa using this
    | succ j =>
      have := okD_at l (k + 1) h.2 j o (by simpa using hj)
      rwa [show k + (j + 1) = k + 1 + j by omega]
theorem maskU_bit {o : Oper} {i : Nat} (h : (maskU D o).testBit i = true) : ∃ e ∈ o.after, Region.binds .any e = true ∧ (e.on = i ∨ dep D i e.on = true) := by
  unfold maskU at h
  have gen : ∀ (l : List Edge) (s : Nat), (l.foldl (fun s e => bif Region.binds .any e then Nat.lor s (Nat.lor (2 ^ e.on) (D.getD e.on 0)) else s) s).testBit i = true →
      s.testBit i = true ∨ ∃ e ∈ l, Region.binds .any e = true ∧ (e.on = i ∨ dep D i e.on = true) := by
    intro l
    induction l with
    | nil => intro s h; exact .inl h
    | cons e l ih =>
      intro s h
      simp only [List.foldl_cons] at h
      rcases ih _ h with h1 | ⟨e', he', hb', h1⟩
      · cases hb : Region.binds .any e with
        | false => rw [hb] at h1; exact .inl h1
        | true =>
          rw [hb] at h1
          simp only [cond_true] at h1
          change (s ||| (2 ^ e.on ||| D.getD e.on 0)).testBit i = true at h1
          rw [Nat.testBit_or, Nat.testBit_or] at h1
          simp only [Bool.or_eq_true] at h1
          rcases h1 with h1 | h1 | h1
          · exact .inl h1
          · rw [Nat.testBit_two_pow] at h1
            exact .inr ⟨e, by simp, hb, .inl (by simpa using h1)⟩
          · exact .inr ⟨e, by simp, hb, .inr h1⟩
      · exact .inr ⟨e', by simp [he'], hb', h1⟩
  rcases gen o.after.toList 0 h with h1 | ⟨e, he, hb, h1⟩
  · simp at h1
  · exact ⟨e, by simpa using he, hb, h1⟩
def Closed (ops : Array Oper) (listed : Array Bool) : Prop := ∀ j o, ops.toList[j]? = some o → listed.getD j false = true → ∀ e ∈ o.after, Region.binds .any e = true → listed.getD e.on false = true
theorem dep_listed (hD : okD ops D ops.toList 0 = true) {listed : Array Bool} (hcl : Closed ops listed) : ∀ (j : Nat) {o : Oper}, ops.toList[j]? = some o → (∀ e ∈ o.after, Region.binds .any e = true → listed.getD e.on false = true) →
    ∀ i, dep D i j = true → listed.getD i false = true := by
  intro j
  induction j using Nat.strongRecOn with
  | _ j ih =>
    intro o ho hall i hi
    obtain ⟨hlt, hm⟩ := okD_at ops.toList 0 hD j o ho
    simp only [Nat.zero_add] at hlt hm
    have hbit : (maskU D o).testBit i = true := by
      unfold dep at hi
      rw [← hm] at hi
      change ((D.getD j 0) &&& (maskU D o)).testBit i = true at hi
      rw [Nat.testBit_and, Bool.and_eq_true] at hi
      exact hi.2
    obtain ⟨e, he, hb, hor⟩ := maskU_bit hbit
    have hl := hall e he hb
    rcases hor with rfl | hd
    · exact hl
    · have hlt' := hlt e he hb
      have hlt2 : e.on < ops.toList.length := by
        have := (List.getElem?_eq_some_iff.1 ho).1
        omega
      exact ih e.on hlt' (List.getElem?_eq_getElem hlt2) (hcl e.on _ (List.getElem?_eq_getElem hlt2) hl) i hd
theorem getD_set_self {listed : Array Bool} {i : Nat} (b : Bool) (h : i < listed.size) : (listed.setIfInBounds i true).getD i b = true := by
  simp [Array.getD_eq_getD_getElem?, h]
theorem getD_set_other {listed : Array Bool} {i j : Nat} (b : Bool) (h : i ≠ j) : (listed.setIfInBounds i true).getD j b = listed.getD j b := by
  simp [Array.getD_eq_getD_getElem?, Array.getElem?_setIfInBounds_ne h]
theorem okO_tail : ∀ (l : List Nat) (r : List Nat), okO ops D (l ++ r) = true → okO ops D r = true
  | [], r, h => h
  | z :: l, r, h => by
    simp only [List.cons_append, okO] at h
    split at h
    · cases h
    · simp only [Bool.and_eq_true] at h
      exact okO_tail l r h.2
theorem okO_nodup {l1 l2 : List Nat} {i : Nat} (h : okO ops D (l1 ++ i :: l2) = true) : i ∉ l1 ++ l2 := by
  intro hm
  rcases List.mem_append.1 hm with hm | hm
  · exact (okO_pair l1 i l2 h i hm).2.2 rfl
  · obtain ⟨_, _, hni, _⟩ := okO_head (okO_tail l1 _ h)
    exact hni hm
theorem go_succ (fuel t : Nat) (listed : Array Bool) : Region.linearise.go .any ops (fuel + 1) t listed [] = match (Region.ready .any ops listed)[t % (Region.ready .any ops listed).length]? with
        | some i => i :: Region.linearise.go .any ops fuel (t / (Region.ready .any ops listed).length) (listed.setIfInBounds i true) []
        | none => [] := by
  simp only [Region.linearise.go]
  change (match (Region.ready .any ops listed)[t % (Region.ready .any ops listed).length]? with
    | some i => Region.linearise.go .any ops fuel (t / (Region.ready .any ops listed).length) (listed.setIfInBounds i true) [i]
    | none => [].reverse) = _
  split
  · rename_i i hi
    rw [linearise_go_acc]
    rfl
  · rfl
theorem ready_nil {t : Nat} {listed : Array Bool} {rem : List Nat} (hsz : listed.size = ops.size) (hok : okO ops D rem = true) (hrem : ∀ i, i ∈ rem ↔ (i < ops.size ∧ listed.getD i true = false))
    (hi : (Region.ready .any ops listed)[t % (Region.ready .any ops listed).length]? = none) : rem = [] := by
  have hnil : Region.ready .any ops listed = [] := by
    cases hr : Region.ready .any ops listed with
    | nil => rfl
    | cons x xs =>
      rw [hr] at hi
      have hlt : t % (x :: xs).length < (x :: xs).length := Nat.mod_lt _ (by simp)
      rw [List.getElem?_eq_getElem hlt] at hi
      cases hi
  cases rem with
  | nil => rfl
  | cons i l =>
    exfalso
    obtain ⟨o, ho, hni, hall⟩ := okO_head hok
    have hun := (hrem i).1 (by simp)
    have : i ∈ Region.ready .any ops listed := by
      rw [mem_ready]
      refine ⟨hun.2, o, by simpa using ho, fun e he hb => ?_⟩
      obtain ⟨h1, h2, h3⟩ := hall e he hb
      have hnr : e.on ∉ i :: l := by simp [h1, h2]
      have hlt : e.on < listed.size := by omega
      have hnot := mt (hrem e.on).2 hnr
      simp only [not_and] at hnot
      have := hnot h3
      simp only [Array.getD_eq_getD_getElem?, Array.getElem?_eq_getElem hlt, Option.getD_some] at this ⊢
      simpa using this
    rw [hnil] at this
    cases this
theorem closed_set {listed : Array Bool} {i : Nat} {o : Oper} (hcl : Closed ops listed) (ho' : ops.toList[i]? = some o) (hall : ∀ e ∈ o.after, Region.binds .any e = true → listed.getD e.on false = true) (hil : i < listed.size) :
    Closed ops (listed.setIfInBounds i true) := by
  intro j oj hj hlj e he hb
  by_cases hji : j = i
  · subst hji
    rw [ho'] at hj
    injection hj with hj
    subst hj
    have := hall e he hb
    by_cases hei : j = e.on
    · rw [← hei]; exact getD_set_self _ hil
    · rw [getD_set_other _ hei]; exact this
  · rw [getD_set_other _ (Ne.symm hji)] at hlj
    have := hcl j oj hj hlj e he hb
    by_cases hei : i = e.on
    · rw [← hei]; exact getD_set_self _ hil
    · rw [getD_set_other _ hei]; exact this
theorem rem_set {listed : Array Bool} {l1 l2 : List Nat} {i : Nat} (hrem : ∀ j, j ∈ l1 ++ i :: l2 ↔ (j < ops.size ∧ listed.getD j true = false)) (hil : i < listed.size) (hnod : i ∉ l1 ++ l2) :
    ∀ j, j ∈ l1 ++ l2 ↔ (j < ops.size ∧ (listed.setIfInBounds i true).getD j true = false) := by
  intro j
  by_cases hji : j = i
  · subst hji
    rw [getD_set_self _ hil]
    simpa using hnod
  · rw [getD_set_other _ (Ne.symm hji), ← hrem j]
    simp [hji]
theorem draw_run {Q : Exit → Act → World → Prop} (hsel : Region.noSelect ops = true) (hD : okD ops D ops.toList 0 = true) {a' : Act} {w' : World} (hQ : Q .normal a' w') :
    ∀ (fuel t : Nat) (listed : Array Bool) (rem : List Nat) (a : Act) (w : World), listed.size = ops.size → okO ops D rem = true → (∀ i, i ∈ rem ↔ (i < ops.size ∧ listed.getD i true = false)) → rem.length ≤ fuel → Closed ops listed →
      RD P ops D chk rem a w a' w' → (Region.linearise.go .any ops fuel t listed []).filter (chAt ops) = rem.filter (chAt ops) → wpOps P ops Q (Region.linearise.go .any ops fuel t listed []) a w := by
  intro fuel
  induction fuel with
  | zero =>
    intro t listed rem a w hsz hok hrem hlen hcl h hf
    have : rem = [] := List.eq_nil_of_length_eq_zero (by omega)
    subst this
    obtain ⟨rfl, rfl⟩ := h
    simpa [Region.linearise.go, wpOps] using hQ
  | succ fuel ih =>
    intro t listed rem a w hsz hok hrem hlen hcl h hf
    have hgo : Region.linearise.go .any ops (fuel + 1) t listed [] = match (Region.ready .any ops listed)[t % (Region.ready .any ops listed).length]? with
        | some i => i :: Region.linearise.go .any ops fuel (t / (Region.ready .any ops listed).length) (listed.setIfInBounds i true) []
        | none => [] := by
      simp only [Region.linearise.go]
      change (match (Region.ready .any ops listed)[t % (Region.ready .any ops listed).length]? with
        | some i => Region.linearise.go .any ops fuel (t / (Region.ready .any ops listed).length) (listed.setIfInBounds i true) [i]
        | none => [].reverse) = _
      split
      · rename_i i hi
        rw [linearise_go_acc]
        rfl
      · rfl
    rw [hgo] at hf ⊢
    cases hi : (Region.ready .any ops listed)[t % (Region.ready .any ops listed).length]? with
    | none =>
      have hnil : Region.ready .any ops listed = [] := by
        cases hr : Region.ready .any ops listed with
        | nil => rfl
        | cons x xs =>
          rw [hr] at hi
          have hlt : t % (x :: xs).length < (x :: xs).length := Nat.mod_lt _ (by simp)
          rw [List.getElem?_eq_getElem hlt] at hi
          cases hi
      have hrn : rem = [] := by
        cases rem with
        | nil => rfl
        | cons i l =>
          exfalso
          obtain ⟨o, ho, hni, hall⟩ := okO_head hok
          have hun := (hrem i).1 (by simp)
          have : i ∈ Region.ready .any ops listed := by
            rw [mem_ready]
            refine ⟨hun.2, o, by simpa using ho, fun e he hb => ?_⟩
            obtain ⟨h1, h2, h3⟩ := hall e he hb
            have hnr : e.on ∉ i :: l := by simp [h1, h2]
            have hlt : e.on < listed.size := by omega
            have hnot := mt (hrem e.on).2 hnr
            simp only [not_and] at hnot
            have := hnot h3
            simp only [Array.getD_eq_getD_getElem?, Array.getElem?_eq_getElem hlt, Option.getD_some] at this ⊢
            simpa using this
          rw [hnil] at this
          cases this
      subst hrn
      obtain ⟨rfl, rfl⟩ := h
      simpa [wpOps] using hQ
    | some i =>
      rw [hi] at hf
      have hmem := List.mem_of_getElem? hi
      rw [mem_ready] at hmem
      obtain ⟨hun, o, ho, hall⟩ := hmem
      have ho' : ops.toList[i]? = some o := by simpa using ho
      have hlt : i < ops.size := (Array.getElem?_eq_some_iff.1 ho).1
      have hin : i ∈ rem := (hrem i).2 ⟨hlt, hun⟩
      obtain ⟨l1, l2, rfl⟩ := List.append_of_mem hin
      have hpair := okO_pair l1 i l2 hok
      have hndep : ∀ y ∈ l1, dep D y i = false := by
        intro y hy
        cases hd : dep D y i with
        | false => rfl
        | true =>
          have h1 := dep_listed hD hcl i ho' hall y hd
          have h2 := ((hrem y).1 (by simp [hy])).2
          have hylt : y < listed.size := by have := ((hrem y).1 (by simp [hy])).1; omega
          simp only [Array.getD_eq_getD_getElem?, Array.getElem?_eq_getElem hylt, Option.getD_some] at h1 h2
          rw [h1] at h2
          cases h2
      have hnch : ∀ y ∈ l1, ∀ oy, ops.toList[y]? = some oy → ¬ (chOp oy = true ∧ chOp o = true) := by
        rintro y hy oy hoy ⟨c1, c2⟩
        simp only [List.filter_cons, List.filter_append, chAt_of ho', c2, if_true] at hf
        have hne : l1.filter (chAt ops) ≠ [] := by
          intro he
          have : y ∈ l1.filter (chAt ops) := List.mem_filter.2 ⟨hy, by rw [chAt_of hoy, c1]⟩
          rw [he] at this
          cases this
        cases hl : l1.filter (chAt ops) with
        | nil => exact hne hl
        | cons z zs =>
          rw [hl] at hf
          simp only [List.cons_append, List.cons.injEq] at hf
          have hz : z ∈ l1 := (List.mem_filter.1 (by rw [hl]; simp : z ∈ l1.filter (chAt ops))).1
          exact (hpair z hz).2.2 hf.1.symm
      have hfront := move_front (P := P) (chk := chk) hsel ho' l1 l2 (fun y hy => by
        obtain ⟨p1, p2, p3⟩ := hpair y hy
        have hd := hndep y hy
        rcases p2 with p2 | ⟨oy, oi, hoy, hoi, hap⟩
        · rw [hd] at p2; cases p2
        · rw [ho'] at hoi
          injection hoi with hoi
          subst hoi
          exact ⟨oy, hoy, hap, by simp [comm, hd, p1], by simp [comm, hd, p1], hnch y hy oy hoy⟩) h
      obtain ⟨o2, v, w1, ho2, hS, hr⟩ := hfront
      rw [ho'] at ho2
      injection ho2 with ho2
      subst ho2
      have hf' : (Region.linearise.go .any ops fuel (t / (Region.ready .any ops listed).length) (listed.setIfInBounds i true) []).filter (chAt ops) = (l1 ++ l2).filter (chAt ops) := by
        cases hc : chOp o with
        | false =>
          simp only [List.filter_cons, List.filter_append, chAt_of ho', hc, Bool.false_eq_true, if_false] at hf ⊢
          exact hf
        | true =>
          have hl0 : l1.filter (chAt ops) = [] := by
            rw [List.filter_eq_nil_iff]
            intro y hy hcy
            obtain ⟨p1, p2, p3⟩ := hpair y hy
            rcases p2 with p2 | ⟨oy, oi, hoy, hoi, hap⟩
            · rw [hndep y hy] at p2; cases p2
            · exact hnch y hy oy hoy ⟨by rw [← chAt_of hoy]; exact hcy, hc⟩
          simp only [List.filter_cons, List.filter_append, chAt_of ho', hc, if_true, hl0, List.nil_append, List.cons.injEq, true_and] at hf ⊢
          exact hf
      have hil : i < listed.size := by omega
      have hcl' : Closed ops (listed.setIfInBounds i true) := by
        intro j oj hj hlj e he hb
        by_cases hji : j = i
        · subst hji
          rw [ho'] at hj
          injection hj with hj
          subst hj
          have := hall e he hb
          by_cases hei : j = e.on
          · rw [← hei]; exact getD_set_self _ hil
          · rw [getD_set_other _ hei]; exact this
        · rw [getD_set_other _ (Ne.symm hji)] at hlj
          have := hcl j oj hj hlj e he hb
          by_cases hei : i = e.on
          · rw [← hei]; exact getD_set_self _ hil
          · rw [getD_set_other _ hei]; exact this
      have hnod : i ∉ l1 ++ l2 := by
        intro hm
        rcases List.mem_append.1 hm with hm | hm
        · exact (hpair i hm).2.2 rfl
        · have : okO ops D (i :: l2) = true := by
            have gen : ∀ l, okO ops D (l ++ i :: l2) = true → okO ops D (i :: l2) = true := by
              intro l
              induction l with
              | nil => exact fun h => h
              | cons z l ihl =>
                intro h
                simp only [List.cons_append, okO] at h
                split at h
                · cases h
                · simp only [Bool.and_eq_true] at h
                  exact ihl h.2
            exact gen l1 hok
          obtain ⟨_, _, hni, _⟩ := okO_head this
          exact hni hm
      have ihn := ih (t / (Region.ready .any ops listed).length) (listed.setIfInBounds i true) (l1 ++ l2) (a.put o.dst v) w1 (by simpa using hsz) (okO_drop l1 i l2 hok) (fun j => by
        by_cases hji : j = i
        · subst hji
          rw [getD_set_self _ hil]
          simpa using hnod
        · rw [getD_set_other _ (Ne.symm hji), ← hrem j]
          simp [hji]) (by simp at hlen ⊢; omega) hcl' hr hf'
      rw [wpOps_cons]
      unfold wpOp
      simp only [ho]
      rcases hS with ⟨hw, ⟨hc, hres, _⟩ | ⟨hc, rfl, hck, hres⟩⟩ | ⟨hw, rfl, rfl⟩
      · simp only [hw, if_true]
        exact .inl (hres.wp ihn)
      · simp only [hw, if_true]
        exact .inl ((hres _ hck).wp ihn)
      · simp only [hw, Bool.false_eq_true, if_false]
        exact ihn
end
end Go.Proofs.YtnjmkhhaodgpbaaGreatX
namespace Go.Proofs.YtnjmkhhaodgpbaaGreatX
open Go.RowKit
def okDst (n : Nat) (o : Oper) : Bool := match o.dst with
  | none => true
  | some d => Nat.blt d n
theorem okDst_lt {n : Nat} {o : Oper} (h : okDst n o = true) : ∀ i, o.dst = some i → i < n := by
  intro i hi
  unfold okDst at h
  rw [hi] at h
  exact Nat.le_of_ble_eq_true h
theorem okDst_lt' {n : Nat} {ops : Array Oper} (hd : ops.toList.all (okDst n) = true) {i : Nat} {o : Oper} (ho : ops.toList[i]? = some o) : ∀ j, o.dst = some j → j < n :=
  okDst_lt (List.all_eq_true.1 hd o (List.mem_of_getElem? ho))
def pureW (P : Program) (o : Oper) (ρ : Env) (K : Value → Prop) : Prop := match o.op with
  | .move x => om (ρ.ev x) K
  | .assign x => om (ρ.ev x) K
  | .pick c a b => om (ρ.ev c) fun v => match v with
    | .bool t => bcase t (om (ρ.ev a) K) (om (ρ.ev b) K)
    | _ => False
  | .build t ps => om (evps ρ ps.toList) fun vs => buildW P t vs K
  | .nilCheck x => om (ρ.ev x) fun v => match v with
    | .pointer a => optP a fun p => K (.pointer (some p))
    | .func (.func f) a b => K (.func (.func f) a b)
    | _ => False
  | .binOp op t x y _ => om (ρ.ev x) fun a => om (ρ.ev y) fun b => binW P op t a b K
  | .unOp op _ x => om (ρ.ev x) fun a => unW op a K
  | .makeFunc fn first cap => om (evs ρ first.toList) fun fs => om (evs ρ cap.toList) fun cs => K (.func fn ⟨fs⟩ ⟨cs⟩)
  | .slice t x lo hi none => om (ρ.ev x) fun v => evo ρ lo fun l => evo ρ hi fun h => sliceW P t v l h K
  | .fieldAddr s x i => om (ρ.ev x) fun v => fieldW P s v i K
  | .indexAddr t x i => om (ρ.ev x) fun v => om (ρ.ev i) fun j => indexW P t v j K
  | .index t x i => om (ρ.ev x) fun v => om (ρ.ev i) fun j => idxW P t v j K
  | .extract x i => om (ρ.ev x) fun v => match v with
    | .tuple vs => om vs.toList[i]? K
    | _ => False
  | .convert s d x => om (ρ.ev x) fun v => om (P.underlying s) fun sd => om (P.underlying d) fun dd => match sd, dd, v with
    | .int _, .int k, .int _ n => K (.int k (k.wrap n))
    | .string, .string, .string b => K (.string b)
    | _, _, _ => False
  | .call c => match c.callee with
    | .builtin .len => om (evs ρ c.args.toList) fun args => om c.argTypes.toList[0]? fun t0 => om (P.underlying t0) fun d => match d, args with
      | .slice _, [.slice _ n _] => K (.int .i64 (n : Int))
      | .string, [.string s] => K (.int .i64 (s.size : Int))
      | _, _ => False
    | .builtin .cap => om (evs ρ c.args.toList) fun args => om c.argTypes.toList[0]? fun t0 => om (P.underlying t0) fun d => match d, args with
      | .slice _, [.slice _ _ c] => K (.int .i64 (c : Int))
      | _, _ => False
    | .builtin .max => om (evs ρ c.args.toList) fun args => match args with
      | [.int k a, .int _ b] => K (.int k (max2 a b))
      | _ => False
    | .builtin .min => om (evs ρ c.args.toList) fun args => match args with
      | [.int k a, .int _ b] => K (.int k (min2 a b))
      | _ => False
    | _ => False
  | _ => False
def LenM (P : Program) (ts : Array TypeId) (t : TypeId) (m : Value) (w : World) (x : Int) : Prop := (Builtin.len_ ts t #[m]).run P w = .ok (.int .i64 x) w
def rdW (P : Program) (o : Oper) (ρ : Env) (w : World) (K : Value → Option (World → Prop) → Prop) : Prop := match o.op with
  | .load t a => om (ρ.ev a) fun x => match x with
    | .pointer q => optP q fun p => om (isAggT P t) fun ag => match ag, cellPats P 9 t with
      | true, ps => om (sizeT P t) fun n => bif Nat.beq ps.length n then gotAll ps 0 (fun i u => w.cell? (p.add i) = some u) fun us => K (.agg ⟨us⟩) (some fun w' => ∀ j u, us[j]? = some u → w'.cell? (p.add j) = some u) else False
      | false, q :: _ => q.got (fun u => w.cell? p = some u) fun u => K u (some fun w' => w'.cell? p = some u)
      | false, [] => False
    | _ => False
  | .convert s d x => om (ρ.ev x) fun v => match v with
    | .slice a n c => om (P.underlying s) fun sd => om (P.underlying d) fun dd => match sd, dd with
      | .slice e, .string => om (P.underlying e) fun ed => match ed with
        | .int .u8 => ∃ xs : List Int, BytesAt w a n xs ∧ K (.string (strOfNums xs)) (some fun w' => BytesAt w' a n xs)
        | _ => False
      | _, _ => False
    | _ => pureW P o ρ fun u => K u none
  | .call c => match c.callee with
    | .builtin .len => om (evs ρ c.args.toList) fun args => match args with
      | [.map m] => ∃ x : Int, LenM P c.argTypes o.type (.map m) w x ∧ K (.int .i64 x) (some fun w' => LenM P c.argTypes o.type (.map m) w' x)
      | _ => pureW P o ρ fun u => K u none
    | _ => pureW P o ρ fun u => K u none
  | _ => pureW P o ρ fun u => K u none
def guardW (ops : Array Oper) (o : Oper) (ρ : Env) (R N : Env → Prop) : Prop := match o.guard with
  | none => R ρ
  | some (j, want) => om ((ops.toList[j]?).bind (·.dst)) fun d => om (ρ d) fun g => match g with
    | .bool t => bcase t
        (bif want then R (ρ.put (some d) (.bool true)) else N (ρ.put (some d) (.bool true)))
        (bif want then N (ρ.put (some d) (.bool false)) else R (ρ.put (some d) (.bool false)))
    | .tuple _ => N ρ
    | _ => False
abbrev Hist := List (Nat × World × World)
abbrev Pend := List (Nat × (World → Prop))
def histOk (D : List Nat) (i : Nat) (c : World → Prop) (R : Prop) : Hist → Prop
  | [] => R
  | (y, wb, wa) :: hs => bif comm D y i then (c wb ∧ c wa) ∧ histOk D i c R hs else histOk D i c R hs
def pendOk (D : List Nat) (i : Nat) (w w1 : World) (R : Prop) : Pend → Prop
  | [] => R
  | (x, c) :: ps => bif comm D i x then (c w ∧ c w1) ∧ pendOk D i w w1 R ps else pendOk D i w w1 R ps
def drawW (P : Program) (ops : Array Oper) (D : List Nat) (K : Env → World → Prop) : List Nat → Env → World → Hist → Pend → Prop
  | [], ρ, w, _, _ => K ρ w
  | i :: l, ρ, w, hs, ps => om ops.toList[i]? fun o => guardW ops o ρ
      (fun ρ => bif chOp o then opW P o ρ w fun v w1 => pendOk D i w w1 (drawW P ops D K l (ρ.put o.dst v) w1 ((i, w, w1) :: hs) ps) ps
        else rdW P o ρ w fun v c => match c with
          | some c => histOk D i c (drawW P ops D K l (ρ.put o.dst v) w hs ((i, c) :: ps)) hs
          | none => drawW P ops D K l (ρ.put o.dst v) w hs ps)
      (fun ρ => drawW P ops D K l (ρ.put o.dst undef) w hs ps)
def allOf : List (List Nat) → (List Nat → Prop) → Prop
  | [], _ => False
  | [π], f => f π
  | π :: l, f => f π ∧ allOf l f
theorem allOf_mem : ∀ {l : List (List Nat)} {f : List Nat → Prop}, allOf l f → ∀ π ∈ l, f π
  | [], _, h, _, _ => h.elim
  | [π], f, h, σ, hm => by simp at hm; subst hm; exact h
  | π :: τ :: l, f, h, σ, hm => by
    rcases List.mem_cons.1 hm with rfl | hm
    · exact h.1
    · exact allOf_mem h.2 σ hm
section
variable {P : Program} {n : Nat} {ρ : Env} {a : Act} {w : World} {ops : Array Oper} {D : List Nat}
theorem pureW_res (hA : Agree n ρ a) {o : Oper} {K : Value → Prop} (h : pureW P o ρ K) : ∃ v, K v ∧ ∀ w, ResX P o a w v w := by
  unfold pureW at h
  split at h <;> rename_i ho
  · obtain ⟨v, hv, h⟩ := om_elim h
    exact ⟨_, h, fun w => resX_value (by simp [execOp, ho, hA.ev hv])⟩
  · obtain ⟨v, hv, h⟩ := om_elim h
    exact ⟨_, h, fun w => resX_value (by simp [execOp, ho, hA.ev hv])⟩
  · obtain ⟨v, hv, h⟩ := om_elim h
    split at h
    · rename_i t
      cases t with
      | true =>
        obtain ⟨u, hu, h⟩ := om_elim h
        exact ⟨_, h, fun w => resX_value (by simp [execOp, ho, hA.ev hv, asBool, hA.ev hu])⟩
      | false =>
        obtain ⟨u, hu, h⟩ := om_elim h
        exact ⟨_, h, fun w => resX_value (by simp [execOp, ho, hA.ev hv, asBool, hA.ev hu])⟩
    · exact h.elim
  · obtain ⟨vs, hv, h⟩ := om_elim h
    obtain ⟨v, hK, hr⟩ := buildW_run h
    exact ⟨_, hK, fun w => resX_value (by simp only [execOp, ho, map_evps hA hv, Sem.run_bind, hr, Result.andThen_ok, Sem.run_pure])⟩
  · obtain ⟨v, hv, h⟩ := om_elim h
    split at h
    · obtain ⟨p, rfl, h⟩ := optP_elim h
      exact ⟨_, h, fun w => resX_value (by simp [execOp, ho, hA.ev hv])⟩
    · exact ⟨_, h, fun w => resX_value (by simp [execOp, ho, hA.ev hv])⟩
    · exact h.elim
  · obtain ⟨x, hx, h⟩ := om_elim h
    obtain ⟨y, hy, h⟩ := om_elim h
    obtain ⟨v, hK, hr⟩ := binW_run h
    exact ⟨_, hK, fun w => resX_value (by simp only [execOp, ho, hA.ev hx, hA.ev hy]; rw [Sem.run_bind, hr w _ _]; rfl)⟩
  · obtain ⟨x, hx, h⟩ := om_elim h
    obtain ⟨v, hK, hr⟩ := unW_run (P := P) h
    exact ⟨_, hK, fun w => resX_value (by simp only [execOp, ho, hA.ev hx, Sem.run_bind, hr, Result.andThen_ok, Sem.run_pure])⟩
  · obtain ⟨fs, hf, h⟩ := om_elim h
    obtain ⟨cs, hc, h⟩ := om_elim h
    exact ⟨_, h, fun w => resX_value (by simp [execOp, ho, map_evs hA hf, map_evs hA hc, Instr.makeFunc])⟩
  · obtain ⟨x, hx, h⟩ := om_elim h
    obtain ⟨l, hl, h⟩ := evo_elim hA h
    obtain ⟨u, hu, h⟩ := evo_elim hA h
    obtain ⟨v, hK, hr⟩ := sliceW_run h
    exact ⟨_, hK, fun w => resX_value (by simp only [execOp, ho, hA.ev hx, hl, hu, Option.map_none, Sem.run_bind, hr, Result.andThen_ok, Sem.run_pure])⟩
  · obtain ⟨x, hx, h⟩ := om_elim h
    obtain ⟨v, hK, hr⟩ := fieldW_run h
    exact ⟨_, hK, fun w => resX_value (by simp only [execOp, ho, hA.ev hx, Sem.run_bind, hr, Result.andThen_ok, Sem.run_pure])⟩
  · obtain ⟨x, hx, h⟩ := om_elim h
    obtain ⟨y, hy, h⟩ := om_elim h
    obtain ⟨v, hK, hr⟩ := indexW_run h
    exact ⟨_, hK, fun w => resX_value (by simp only [execOp, ho, hA.ev hx, hA.ev hy, Sem.run_bind, hr, Result.andThen_ok, Sem.run_pure])⟩
  · obtain ⟨x, hx, h⟩ := om_elim h
    obtain ⟨y, hy, h⟩ := om_elim h
    obtain ⟨v, hK, hr⟩ := idxW_run h
    exact ⟨_, hK, fun w => resX_value (by simp only [execOp, ho, hA.ev hx, hA.ev hy, Sem.run_bind, hr, Result.andThen_ok, Sem.run_pure])⟩
  · obtain ⟨x, hx, h⟩ := om_elim h
    split at h
    · obtain ⟨u, hu, h⟩ := om_elim h
      simp only [Array.getElem?_toList] at hu
      exact ⟨_, h, fun w => resX_value (by simp [execOp, ho, hA.ev hx, Instr.extract, hu])⟩
    · exact h.elim
  · obtain ⟨x, hx, h⟩ := om_elim h
    obtain ⟨sd, hs, h⟩ := om_elim h
    obtain ⟨dd, hd, h⟩ := om_elim h
    split at h
    · exact ⟨_, h, fun w => resX_value (by simp [execOp, ho, hA.ev hx, convert, run_underlying hs, run_underlying hd, Conv.intToInt])⟩
    · exact ⟨_, h, fun w => resX_value (by simp [execOp, ho, hA.ev hx, convert, run_underlying hs, run_underlying hd])⟩
    · exact h.elim
  · rename_i c
    split at h <;> rename_i hcal
    · obtain ⟨args, hargs, h⟩ := om_elim h
      obtain ⟨t0, h0, h⟩ := om_elim h
      obtain ⟨d, hd, h⟩ := om_elim h
      have h0' : c.argTypes[0]? = some t0 := by simpa using h0
      split at h
      · exact ⟨_, h, fun w => resX_value (by simp [execOp, ho, resolve, hcal, map_evs hA hargs, invoke, builtin, Builtin.len_, h0', run_underlying hd, goInt])⟩
      · exact ⟨_, h, fun w => resX_value (by simp [execOp, ho, resolve, hcal, map_evs hA hargs, invoke, builtin, Builtin.len_, h0', run_underlying hd, goInt])⟩
      · exact h.elim
    · obtain ⟨args, hargs, h⟩ := om_elim h
      obtain ⟨t0, h0, h⟩ := om_elim h
      obtain ⟨d, hd, h⟩ := om_elim h
      have h0' : c.argTypes[0]? = some t0 := by simpa using h0
      split at h
      · exact ⟨_, h, fun w => resX_value (by simp [execOp, ho, resolve, hcal, map_evs hA hargs, invoke, builtin, Builtin.cap_, h0', run_underlying hd, goInt])⟩
      · exact h.elim
    · obtain ⟨args, hargs, h⟩ := om_elim h
      split at h
      · exact ⟨_, h, fun w => resX_value (by simp [execOp, ho, resolve, hcal, map_evs hA hargs, invoke, builtin, Builtin.max_, Builtin.max2, max2])⟩
      · exact h.elim
    · obtain ⟨args, hargs, h⟩ := om_elim h
      split at h
      · exact ⟨_, h, fun w => resX_value (by simp [execOp, ho, resolve, hcal, map_evs hA hargs, invoke, builtin, Builtin.min_, Builtin.min2, min2])⟩
      · exact h.elim
    · exact h.elim
  · exact h.elim
def chkOf (c : Option (World → Prop)) : World → Prop := match c with
  | some c => c
  | none => fun _ => True
theorem rdW_res (hA : Agree n ρ a) {o : Oper} {K : Value → Option (World → Prop) → Prop} (h : rdW P o ρ w K) : ∃ v c, K v c ∧ chkOf c w ∧ ∀ w', chkOf c w' → ResX P o a w' v w' := by
  unfold rdW at h
  split at h <;> rename_i ho
  · rename_i t x0
    obtain ⟨x, hx, h⟩ := om_elim h
    split at h
    · obtain ⟨p, rfl, h⟩ := optP_elim h
      obtain ⟨ag, hag, h⟩ := om_elim h
      split at h
      · obtain ⟨m, hm, h⟩ := om_elim h
        cases hb : Nat.beq (cellPats P 9 t).length m with
        | false => rw [hb] at h; exact h.elim
        | true =>
          rw [hb] at h
          have hl := Nat.eq_of_beq_eq_true hb
          obtain ⟨vs, hvl, hE, hK⟩ := gotAll_elim h
          refine ⟨_, _, hK, fun j u hj => by simpa using hE j u hj, fun w' hc => resX_value ?_⟩
          have hcl := run_loadCells_list (P := P) (w := w') p vs (fun j v hj => hc j v hj)
          rw [hvl, hl] at hcl
          simp [execOp, ho, hA.ev hx, Instr.loadAt, Instr.sureAddr, loadVar, run_isAgg hag, run_sizeOf hm, hcl]
      · obtain ⟨v, hv, hK⟩ := Pat.got_elim h
        refine ⟨_, _, hK, hv, fun w' hc => resX_value ?_⟩
        have hc' : w'.cell? p = some v := hc
        simp [execOp, ho, hA.ev hx, Instr.loadAt, Instr.sureAddr, loadVar, run_isAgg hag, hc']
      · exact h.elim
    · exact h.elim
  · obtain ⟨x, hx, h⟩ := om_elim h
    split at h
    · obtain ⟨sd, hs, h⟩ := om_elim h
      obtain ⟨dd, hd, h⟩ := om_elim h
      split at h
      · obtain ⟨ed, he, h⟩ := om_elim h
        split at h
        · obtain ⟨xs, hB, hK⟩ := h
          refine ⟨_, _, hK, hB, fun w' hc => resX_value ?_⟩
          have this := fun c => bytes_run (P := P) (w := w') (c := c) hs hd he (show BytesAt w' _ _ _ from hc)
          simp only [execOp, ho, hA.ev hx, Sem.run_bind, this, Result.andThen_ok, Sem.run_pure]
        · exact h.elim
      · exact h.elim
    · obtain ⟨v, hK, hr⟩ := pureW_res hA h
      exact ⟨v, none, hK, trivial, fun w' _ => hr w'⟩
  · rename_i c
    split at h <;> rename_i hcal
    · obtain ⟨args, hargs, h⟩ := om_elim h
      split at h
      · rename_i m
        obtain ⟨x, hx, hK⟩ := h
        refine ⟨_, _, hK, hx, fun w' hc => resX_value ?_⟩
        have hc' : (Builtin.len_ c.argTypes o.type #[.map m]).run P w' = .ok (.int .i64 x) w' := hc
        simp [execOp, ho, resolve, hcal, map_evs hA hargs, invoke, builtin, hc']
      · obtain ⟨v, hK, hr⟩ := pureW_res hA h
        exact ⟨v, none, hK, trivial, fun w' _ => hr w'⟩
    · obtain ⟨v, hK, hr⟩ := pureW_res hA h
      exact ⟨v, none, hK, trivial, fun w' _ => hr w'⟩
  · obtain ⟨v, hK, hr⟩ := pureW_res hA h
    exact ⟨v, none, hK, trivial, fun w' _ => hr w'⟩
def boolOf : Value → Option Bool
  | .bool b => some b
  | _ => none
theorem guardW_elim (hA : Agree n ρ a) {o : Oper} {R N : Env → Prop} (h : guardW ops o ρ R N) :
    (∃ ρ' : Env, ρ'.le ρ ∧ Region.wanted o (yielded ops a.tmps) = true ∧ R ρ') ∨ (∃ ρ' : Env, ρ'.le ρ ∧ Region.wanted o (yielded ops a.tmps) = false ∧ N ρ') := by
  unfold guardW at h
  split at h
  · rename_i hg
    exact .inl ⟨ρ, fun _ _ h => h, by simp [Region.wanted, hg], h⟩
  · rename_i j want hg
    obtain ⟨d, hdst, h⟩ := om_elim h
    obtain ⟨g, hgv, h⟩ := om_elim h
    have hat := hA.at_ d g hgv
    have hy : yielded ops a.tmps j = boolOf g := by
      unfold yielded
      simp only [Array.getElem?_toList] at hdst
      rw [hdst]
      simp only [Option.bind_some, hat]
      cases g <;> rfl
    have hwant : Region.wanted o (yielded ops a.tmps) = (boolOf g == some want) := by
      unfold Region.wanted
      rw [hg]
      show (yielded ops a.tmps j == some want) = _
      rw [hy]
    rw [hwant]
    split at h
    · rename_i t
      have hput : ∀ b, t = b → (ρ.put (some d) (.bool b)).le ρ := fun b hb => Env.le_put (by rw [hgv, hb]) (fun _ _ h => h)
      cases t with
      | true =>
        simp only [bcase_true] at h
        cases want with
        | true => exact .inl ⟨_, hput _ rfl, rfl, h⟩
        | false => exact .inr ⟨_, hput _ rfl, rfl, h⟩
      | false =>
        simp only [bcase_false] at h
        cases want with
        | true => exact .inr ⟨_, hput _ rfl, rfl, h⟩
        | false => exact .inl ⟨_, hput _ rfl, rfl, h⟩
    · exact .inr ⟨ρ, fun _ _ h => h, rfl, h⟩
    · exact h.elim
theorem histOk_elim {i : Nat} {c : World → Prop} {R : Prop} : ∀ {hs : Hist}, histOk D i c R hs → R ∧ ∀ y wb wa, (y, wb, wa) ∈ hs → comm D y i = true → c wb ∧ c wa
  | [], h => ⟨h, by simp⟩
  | (z, wb, wa) :: hs, h => by
    simp only [histOk] at h
    cases hc : comm D z i with
    | true =>
      rw [hc] at h
      obtain ⟨hr, hall⟩ := histOk_elim h.2
      refine ⟨hr, fun y b e hm hcy => ?_⟩
      rcases List.mem_cons.1 hm with he | hm
      · injection he with e1 e2; injection e2 with e2 e3; subst e2; subst e3; exact h.1
      · exact hall y b e hm hcy
    | false =>
      rw [hc] at h
      obtain ⟨hr, hall⟩ := histOk_elim h
      refine ⟨hr, fun y b e hm hcy => ?_⟩
      rcases List.mem_cons.1 hm with he | hm
      · injection he with e1 e2; subst e1; rw [hc] at hcy; cases hcy
      · exact hall y b e hm hcy
theorem pendOk_elim {i : Nat} {w1 : World} {R : Prop} : ∀ {ps : Pend}, pendOk D i w w1 R ps → R ∧ ∀ x c, (x, c) ∈ ps → comm D i x = true → c w ∧ c w1
  | [], h => ⟨h, by simp⟩
  | (z, c) :: ps, h => by
    simp only [pendOk] at h
    cases hc : comm D i z with
    | true =>
      rw [hc] at h
      obtain ⟨hr, hall⟩ := pendOk_elim h.2
      refine ⟨hr, fun x c' hm hcy => ?_⟩
      rcases List.mem_cons.1 hm with he | hm
      · injection he with e1 e2; subst e2; exact h.1
      · exact hall x c' hm hcy
    | false =>
      rw [hc] at h
      obtain ⟨hr, hall⟩ := pendOk_elim h
      refine ⟨hr, fun x c' hm hcy => ?_⟩
      rcases List.mem_cons.1 hm with he | hm
      · injection he with e1 e2; subst e1; rw [hc] at hcy; cases hcy
      · exact hall x c' hm hcy
def upd (chk : Nat → World → Prop) (i : Nat) (c : World → Prop) : Nat → World → Prop := fun x => if x = i then c else chk x
theorem drawW_run (hN : NoGr P) {K : Env → World → Prop} (hd : ops.toList.all (okDst n) = true) : ∀ (π : List Nat), okO ops D π = true → ∀ (ρ : Env) (w : World) (hs : Hist) (ps : Pend) (chk0 : Nat → World → Prop) (a : Act),
    drawW P ops D K π ρ w hs ps → Agree n ρ a → (∀ x, x ∉ π → chAt ops x = false → chk0 x = (fun _ => True) ∨ (x, chk0 x) ∈ ps) →
    ∃ chk a' w' ρ', (∀ x, x ∉ π → chk x = chk0 x) ∧ (∀ y wb wa, (y, wb, wa) ∈ hs → ∀ x ∈ π, comm D y x = true → chAt ops x = false → chk x wb ∧ chk x wa) ∧ RD P ops D chk π a w a' w' ∧ Agree n ρ' a' ∧ K ρ' w'
  | [], _, ρ, w, hs, ps, chk0, a, h, hA, _ => ⟨chk0, a, w, ρ, fun _ _ => rfl, fun _ _ _ _ x hx => (by cases hx), ⟨rfl, rfl⟩, hA, h⟩
  | i :: l, hok, ρ, w, hs, ps, chk0, a, h, hA, hp => by
    obtain ⟨o, ho, h⟩ := om_elim h
    obtain ⟨o', ho', hni, _⟩ := okO_head hok
    have hokl : okO ops D l = true := okO_drop [] i l hok
    have hlt := okDst_lt' hd ho
    rcases guardW_elim (ops := ops) hA h with ⟨ρ1, hle, hw, h⟩ | ⟨ρ1, hle, hw, h⟩
    · have hA1 := hA.mono hle
      cases hc : chOp o with
      | true =>
        rw [hc] at h
        simp only [cond_true] at h
        obtain ⟨v, w1, hK, hres⟩ := opW_res hN hA1 h
        obtain ⟨hK, hpend⟩ := pendOk_elim hK
        obtain ⟨chk, a', w', ρ', e1, e2, e3, e4, e5⟩ := drawW_run hN hd l hokl _ _ _ _ chk0 _ hK (hA1.put hlt v) (fun x hx hch => by
          by_cases hxi : x = i
          · subst hxi; rw [chAt_of ho, hc] at hch; cases hch
          · exact hp x (by simp [hxi, hx]) hch)
        refine ⟨chk, a', w', ρ', fun x hx => e1 x (fun hm => hx (by simp [hm])), fun y wb wa hm x hx hcm hch => ?_, ⟨o, v, w1, ho, .inl ⟨hw, .inl ⟨hc, hres, fun x hcm hch => ?_⟩⟩, e3⟩, e4, e5⟩
        · rcases List.mem_cons.1 hx with rfl | hx
          · rw [chAt_of ho, hc] at hch; cases hch
          · exact e2 y wb wa (by simp [hm]) x hx hcm hch
        · by_cases hx : x ∈ l
          · exact e2 i w w1 (by simp) x hx hcm hch
          · rw [e1 x hx]
            by_cases hxi : x = i
            · subst hxi
              rw [chAt_of ho, hc] at hch
              cases hch
            · rcases hp x (by simp [hxi, hx]) hch with h1 | h1
              · rw [h1]; exact ⟨trivial, trivial⟩
              · exact hpend x _ h1 hcm
      | false =>
        rw [hc] at h
        simp only [cond_false] at h
        obtain ⟨v, c, hK, hck, hres⟩ := rdW_res hA1 h
        have fin : ∀ ps', drawW P ops D K l (ρ1.put o.dst v) w hs ps' → ((chkOf c = fun _ => True) ∨ (i, chkOf c) ∈ ps') → (∀ q ∈ ps, q ∈ ps') → (∀ y wb wa, (y, wb, wa) ∈ hs → comm D y i = true → chkOf c wb ∧ chkOf c wa) →
            ∃ chk a' w' ρ', (∀ x, x ∉ i :: l → chk x = chk0 x) ∧ (∀ y wb wa, (y, wb, wa) ∈ hs → ∀ x ∈ i :: l, comm D y x = true → chAt ops x = false → chk x wb ∧ chk x wa) ∧ RD P ops D chk (i :: l) a w a' w' ∧ Agree n ρ' a' ∧ K ρ' w' := by
          intro ps' hK' hin hsub hhist
          obtain ⟨chk, a', w', ρ', e1, e2, e3, e4, e5⟩ := drawW_run hN hd l hokl _ _ _ _ (upd chk0 i (chkOf c)) _ hK' (hA1.put hlt v) (fun x hx hch => by
            unfold upd
            by_cases hxi : x = i
            · subst hxi
              simp only [if_true]
              exact hin
            · simp only [if_neg hxi]
              rcases hp x (by simp [hxi, hx]) hch with h1 | h1
              · exact .inl h1
              · exact .inr (hsub _ h1))
          have hci : chk i = chkOf c := by rw [e1 i hni]; simp [upd]
          refine ⟨chk, a', w', ρ', fun x hx => ?_, fun y wb wa hm x hx hcm hch => ?_, ⟨o, v, w, ho, .inl ⟨hw, .inr ⟨hc, rfl, by rw [hci]; exact hck, fun w2 hw2 => hres w2 (by rw [← hci]; exact hw2)⟩⟩, e3⟩, e4, e5⟩
          · simp only [List.mem_cons, not_or] at hx
            rw [e1 x hx.2]
            simp [upd, hx.1]
          · rcases List.mem_cons.1 hx with rfl | hx
            · rw [hci]; exact hhist y wb wa hm hcm
            · exact e2 y wb wa hm x hx hcm hch
        cases c with
        | none => exact fin ps hK (.inl rfl) (fun _ h => h) (fun _ _ _ _ _ => ⟨trivial, trivial⟩)
        | some c =>
          obtain ⟨hK, hhist⟩ := histOk_elim hK
          exact fin _ hK (.inr (by simp [chkOf])) (fun q hq => by simp [hq]) (fun y wb wa hm hcm => hhist y wb wa hm hcm)
    · have hA1 := hA.mono hle
      obtain ⟨chk, a', w', ρ', e1, e2, e3, e4, e5⟩ := drawW_run hN hd l hokl _ _ _ _ (upd chk0 i (fun _ => True)) _ h (hA1.put hlt undef) (fun x hx hch => by
        unfold upd
        by_cases hxi : x = i
        · subst hxi
          simp
        · simp only [if_neg hxi]
          exact hp x (by simp [hxi, hx]) hch)
      have hci : chk i = fun _ => True := by rw [e1 i hni]; simp [upd]
      refine ⟨chk, a', w', ρ', fun x hx => ?_, fun y wb wa hm x hx hcm hch => ?_, ⟨o, undef, w, ho, .inr ⟨hw, rfl, rfl⟩, e3⟩, e4, e5⟩
      · simp only [List.mem_cons, not_or] at hx
        rw [e1 x hx.2]
        simp [upd, hx.1]
      · rcases List.mem_cons.1 hx with rfl | hx
        · rw [hci]; exact ⟨trivial, trivial⟩
        · exact e2 y wb wa hm x hx hcm hch
def exts (D : List Nat) : Nat → List Nat → List (List Nat)
  | 0, _ => [[]]
  | f + 1, rem => match rem with
    | [] => [[]]
    | c :: cs => ((c :: cs).filter fun x => (c :: cs).all fun y => !dep D y x).flatMap fun x => (exts D f ((c :: cs).erase x)).map (x :: ·)
def permO (ops : Array Oper) (π : List Nat) : Bool := Nat.ble π.length ops.toList.length && (List.range ops.toList.length).all fun i => π.contains i
def okDraw (ops : Array Oper) (D : List Nat) (orders : List (List Nat)) : Bool :=
  Region.noSelect ops && okD ops D ops.toList 0 && orders.all (fun π => okO ops D π && permO ops π) && match orders with
    | [] => false
    | π :: _ => (exts D π.length (π.filter (chAt ops))).all fun e => orders.any fun σ => σ.filter (chAt ops) == e
theorem filter_erase {p : Nat → Bool} {i : Nat} {l1 l2 : List Nat} (hp : p i = true) (h1 : i ∉ l1) : ((l1 ++ i :: l2).filter p).erase i = (l1 ++ l2).filter p := by
  rw [List.filter_append, List.filter_cons, if_pos hp, List.erase_append_right _ (fun hm => h1 (List.mem_filter.1 hm).1), List.erase_cons_head, List.filter_append]
theorem go_exts (hD : okD ops D ops.toList 0 = true) : ∀ (fuel t : Nat) (listed : Array Bool) (rem : List Nat), listed.size = ops.size → okO ops D rem = true → (∀ i, i ∈ rem ↔ (i < ops.size ∧ listed.getD i true = false)) → rem.length ≤ fuel → Closed ops listed →
    ∀ f, (rem.filter (chAt ops)).length ≤ f → (Region.linearise.go .any ops fuel t listed []).filter (chAt ops) ∈ exts D f (rem.filter (chAt ops)) := by
  have nil_in : ∀ f, ([] : List Nat) ∈ exts D f [] := fun f => by cases f <;> simp [exts]
  intro fuel
  induction fuel with
  | zero =>
    intro t listed rem hsz hok hrem hlen hcl f hf
    have : rem = [] := List.eq_nil_of_length_eq_zero (by omega)
    subst this
    simpa [Region.linearise.go] using nil_in f
  | succ fuel ih =>
    intro t listed rem hsz hok hrem hlen hcl f hf
    rw [go_succ]
    cases hi : (Region.ready .any ops listed)[t % (Region.ready .any ops listed).length]? with
    | none =>
      have hrn := ready_nil hsz hok hrem hi
      subst hrn
      simpa using nil_in f
    | some i =>
      have hmem := List.mem_of_getElem? hi
      rw [mem_ready] at hmem
      obtain ⟨hun, o, ho, hall⟩ := hmem
      have ho' : ops.toList[i]? = some o := by simpa using ho
      have hlt : i < ops.size := (Array.getElem?_eq_some_iff.1 ho).1
      have hin : i ∈ rem := (hrem i).2 ⟨hlt, hun⟩
      obtain ⟨l1, l2, rfl⟩ := List.append_of_mem hin
      have hpair := okO_pair l1 i l2 hok
      have hil : i < listed.size := by omega
      have hnod := okO_nodup hok
      have hni1 : i ∉ l1 := fun hm => hnod (List.mem_append.2 (.inl hm))
      have hcl' := closed_set hcl ho' hall hil
      have hih := ih (t / (Region.ready .any ops listed).length) (listed.setIfInBounds i true) (l1 ++ l2) (by simpa using hsz) (okO_drop l1 i l2 hok) (rem_set hrem hil hnod) (by simp at hlen ⊢; omega) hcl'
      cases hc : chOp o with
      | false =>
        have e1 : ∀ l, (i :: l).filter (chAt ops) = l.filter (chAt ops) := fun l => by simp [List.filter_cons, chAt_of ho', hc]
        have e2 : (l1 ++ i :: l2).filter (chAt ops) = (l1 ++ l2).filter (chAt ops) := by rw [List.filter_append, e1, List.filter_append]
        simp only []
        rw [e1, e2]
        rw [e2] at hf
        exact hih f hf
      | true =>
        have hpi : chAt ops i = true := by rw [chAt_of ho', hc]
        have hmemf : i ∈ (l1 ++ i :: l2).filter (chAt ops) := List.mem_filter.2 ⟨by simp, hpi⟩
        have hfe := filter_erase (p := chAt ops) (l2 := l2) hpi hni1
        have hlen2 : ((l1 ++ l2).filter (chAt ops)).length = ((l1 ++ i :: l2).filter (chAt ops)).length - 1 := by
          rw [← hfe, List.length_erase_of_mem hmemf]
        have hpos := List.length_pos_of_mem hmemf
        cases f with
        | zero => omega
        | succ f =>
          have hih' := hih f (by omega)
          simp only []
          rw [List.filter_cons, if_pos hpi]
          cases hz : (l1 ++ i :: l2).filter (chAt ops) with
          | nil => rw [hz] at hmemf; cases hmemf
          | cons z zs =>
            simp only [exts]
            rw [List.mem_flatMap]
            refine ⟨i, ?_, ?_⟩
            · rw [List.mem_filter]
              refine ⟨by rw [← hz]; exact hmemf, ?_⟩
              rw [List.all_eq_true]
              intro y hy
              rw [← hz] at hy
              have hyr := (List.mem_filter.1 hy).1
              cases hd : dep D y i with
              | false => rfl
              | true =>
                exfalso
                have h1 := dep_listed hD hcl i ho' hall y hd
                have h2 := (hrem y).1 hyr
                have hylt : y < listed.size := by have := h2.1; omega
                have h2 := h2.2
                simp only [Array.getD_eq_getD_getElem?, Array.getElem?_eq_getElem hylt, Option.getD_some] at h1 h2
                rw [h1] at h2
                cases h2
            · rw [List.mem_map]
              refine ⟨_, ?_, rfl⟩
              rw [← hz, hfe]
              exact hih'
theorem draw_region (hN : NoGr P) (hM : P.follows .mixedOrders = true) {orders : List (List Nat)} (hok : okDraw ops D orders = true) (hd : ops.toList.all (okDst n) = true) {K : Env → World → Prop}
    (h : allOf orders fun π => drawW P ops D K π ρ w.drew [] []) (hA : Agree n ρ a) (t : Nat) :
    ∃ ρ' a' w', wpOps P ops (fun e a1 w1 => e = .normal ∧ a1 = a' ∧ w1 = w') (Region.schedule (P.follows .mixedOrders) ops t) a w.drew ∧ Agree n ρ' a' ∧ K ρ' w' := by
  simp only [okDraw, Bool.and_eq_true] at hok
  obtain ⟨⟨⟨hsel, hD⟩, hall⟩, hex⟩ := hok
  rw [List.all_eq_true] at hall
  have hsch : Region.schedule (P.follows .mixedOrders) ops t = Region.linearise.go .any ops ops.size t (Array.replicate ops.size false) [] := by
    simp only [Region.schedule, hM, Bool.true_or, if_true]
    rfl
  rw [hsch]
  have hrem : ∀ π ∈ orders, ∀ i, i ∈ π ↔ (i < ops.size ∧ (Array.replicate ops.size false).getD i true = false) := by
    intro π hπ i
    have h2 := hall π hπ
    simp only [Bool.and_eq_true] at h2
    constructor
    · intro hi
      have hlt : i < ops.size := by
        obtain ⟨l1, l2, rfl⟩ := List.append_of_mem hi
        obtain ⟨o, ho, _⟩ := okO_head (okO_tail l1 _ h2.1)
        have := (List.getElem?_eq_some_iff.1 ho).1
        simpa using this
      exact ⟨hlt, by simp [Array.getD_eq_getD_getElem?, hlt]⟩
    · rintro ⟨hlt, _⟩
      have h3 := h2.2
      simp only [permO, Bool.and_eq_true, List.all_eq_true] at h3
      simpa using h3.2 i (by simpa using hlt)
  have hlen : ∀ π ∈ orders, π.length ≤ ops.size := by
    intro π hπ
    have h2 := hall π hπ
    simp only [Bool.and_eq_true] at h2
    have h3 := h2.2
    simp only [permO, Bool.and_eq_true] at h3
    simpa using Nat.le_of_ble_eq_true h3.1
  have hcl : Closed ops (Array.replicate ops.size false) := by
    intro j o ho hl
    exfalso
    by_cases hj : j < ops.size
    · simp [Array.getD_eq_getD_getElem?, hj] at hl
    · simp [Array.getD_eq_getD_getElem?, hj] at hl
  cases orders with
  | nil => simp at hex
  | cons π0 os =>
    have h0 := hall π0 (by simp)
    simp only [Bool.and_eq_true] at h0
    have hin := go_exts hD ops.size t (Array.replicate ops.size false) π0 (by simp) h0.1 (hrem π0 (by simp)) (hlen π0 (by simp)) hcl π0.length (List.length_filter_le _ _)
    simp only [List.all_eq_true] at hex
    have := hex _ hin
    rw [List.any_eq_true] at this
    obtain ⟨σ, hσ, he⟩ := this
    have he : σ.filter (chAt ops) = (Region.linearise.go .any ops ops.size t (Array.replicate ops.size false) []).filter (chAt ops) := by simpa using he
    have h1 := hall σ hσ
    simp only [Bool.and_eq_true] at h1
    obtain ⟨chk, a', w', ρ', _, _, hRD, hA', hK⟩ := drawW_run hN hd σ h1.1 ρ w.drew [] [] (fun _ _ => True) a (allOf_mem h σ hσ) hA (fun _ _ _ => .inl rfl)
    exact ⟨ρ', a', w', draw_run hsel hD ⟨rfl, rfl, rfl⟩ ops.size t _ σ a w.drew (by simp) h1.1 (hrem σ hσ) (hlen σ hσ) hcl hRD he.symm, hA', hK⟩
end
end Go.Proofs.YtnjmkhhaodgpbaaGreatX
namespace Go.Proofs.YtnjmkhhaodgpbaaGreatX
open Go.RowKit
def RunL (P : Program) (ops : Array Oper) : List Oper → Act → World → Act → World → Prop
  | [], a, w, a', w' => a' = a ∧ w' = w
  | o :: l, a, w, a', w' => if Region.wanted o (yielded ops a.tmps) = true then ∃ v w1, ResX P o a w v w1 ∧ RunL P ops l (a.put o.dst v) w1 a' w' else RunL P ops l (a.put o.dst undef) w a' w'
def dstOf (ops : Array Oper) (j : Nat) : Option Nat := (ops.toList[j]?).bind (·.dst)
def stepW (P : Program) (ops : Array Oper) (o : Oper) (ρ : Env) (w : World) (K : Env → World → Prop) : Prop := match o.guard with
  | none => opW P o ρ w fun v w' => K (ρ.put o.dst v) w'
  | some (j, want) => om (dstOf ops j) fun d => om (ρ d) fun g => match g with
    | .bool t => bcase t
        (bif want then opW P o (ρ.put (some d) (.bool true)) w fun v w' => K ((ρ.put (some d) (.bool true)).put o.dst v) w' else K ((ρ.put (some d) (.bool true)).put o.dst undef) w)
        (bif want then K ((ρ.put (some d) (.bool false)).put o.dst undef) w else opW P o (ρ.put (some d) (.bool false)) w fun v w' => K ((ρ.put (some d) (.bool false)).put o.dst v) w')
    | .tuple _ => K (ρ.put o.dst undef) w
    | _ => False
def stepsW (P : Program) (ops : Array Oper) : List Oper → (Env → World → Prop) → Env → World → Prop
  | [], K, ρ, w => K ρ w
  | o :: l, K, ρ, w => stepW P ops o ρ w fun ρ' w' => stepsW P ops l K ρ' w'
section
variable {P : Program} {n : Nat} {ops : Array Oper}
theorem stepW_run (hN : NoGr P) {o : Oper} (hd : okDst n o = true) {ρ : Env} {a : Act} {w : World} {K : Env → World → Prop} (hA : Agree n ρ a) (h : stepW P ops o ρ w K) :
    ∃ ρ' a' w', (∀ l a2 w2, RunL P ops l a' w' a2 w2 → RunL P ops (o :: l) a w a2 w2) ∧ Agree n ρ' a' ∧ K ρ' w' := by
  have hlt := okDst_lt hd
  unfold stepW at h
  split at h
  · rename_i hg
    obtain ⟨v, w', hK, hr⟩ := opW_res hN hA h
    refine ⟨_, _, _, fun l a2 w2 hl => ?_, hA.put hlt v, hK⟩
    have hw : Region.wanted o (yielded ops a.tmps) = true := by simp [Region.wanted, hg]
    simp only [RunL]
    rw [if_pos hw]
    exact ⟨v, w', hr, hl⟩
  · rename_i j want hg
    obtain ⟨d, hdst, h⟩ := om_elim h
    obtain ⟨g, hgv, h⟩ := om_elim h
    have hat := hA.at_ d g hgv
    have hy : yielded ops a.tmps j = match g with | .bool b => some b | _ => none := by
      unfold yielded
      simp only [dstOf, Array.getElem?_toList] at hdst
      rw [hdst]
      simp only [Option.bind_some, hat]
      cases g <;> rfl
    have run : ∀ (b : Bool), yielded ops a.tmps j = some b → b = want → (ρ' : Env) → ρ'.le ρ → (opW P o ρ' w fun v w' => K (ρ'.put o.dst v) w') →
        ∃ ρ' a' w', (∀ l a2 w2, RunL P ops l a' w' a2 w2 → RunL P ops (o :: l) a w a2 w2) ∧ Agree n ρ' a' ∧ K ρ' w' := by
      intro b hyb he ρ' hle h7
      subst he
      have hA' := hA.mono hle
      obtain ⟨v, w', hK, hr⟩ := opW_res hN hA' h7
      refine ⟨_, _, _, fun l a2 w2 hl => ?_, hA'.put hlt v, hK⟩
      have hw : Region.wanted o (yielded ops a.tmps) = true := by
        unfold Region.wanted
        rw [hg]
        show (yielded ops a.tmps j == some b) = true
        rw [hyb]
        cases b <;> rfl
      simp only [RunL]
      rw [if_pos hw]
      exact ⟨v, w', hr, hl⟩
    have skip : yielded ops a.tmps j ≠ some want → (ρ' : Env) → ρ'.le ρ → K (ρ'.put o.dst undef) w →
        ∃ ρ' a' w', (∀ l a2 w2, RunL P ops l a' w' a2 w2 → RunL P ops (o :: l) a w a2 w2) ∧ Agree n ρ' a' ∧ K ρ' w' := by
      intro hy ρ' hle h
      refine ⟨_, _, _, fun l a2 w2 hl => ?_, (hA.mono hle).put hlt undef, h⟩
      have hw : ¬ Region.wanted o (yielded ops a.tmps) = true := by simp [Region.wanted, hg, hy]
      simp only [RunL]
      rw [if_neg hw]
      exact hl
    split at h
    · rename_i t
      have hput : ∀ b, t = b → (ρ.put (some d) (.bool b)).le ρ := fun b hb => Env.le_put (by rw [hgv, hb]) (fun _ _ h => h)
      cases t with
      | true =>
        simp only [bcase_true] at h
        cases want with
        | true => exact run true hy rfl _ (hput _ rfl) h
        | false => exact skip (by rw [hy]; simp) _ (hput _ rfl) h
      | false =>
        simp only [bcase_false] at h
        cases want with
        | true => exact skip (by rw [hy]; simp) _ (hput _ rfl) h
        | false => exact run false hy rfl _ (hput _ rfl) h
    · exact skip (by rw [hy]; simp) _ (fun _ _ h => h) h
    · exact h.elim
theorem stepsW_run (hN : NoGr P) : ∀ (l : List Oper), l.all (okDst n) = true → ∀ {ρ : Env} {a : Act} {w : World} {K : Env → World → Prop}, Agree n ρ a → stepsW P ops l K ρ w →
    ∃ ρ' a' w', (∀ l2 a2 w2, RunL P ops l2 a' w' a2 w2 → RunL P ops (l ++ l2) a w a2 w2) ∧ Agree n ρ' a' ∧ K ρ' w'
  | [], _, ρ, a, w, K, hA, h => ⟨ρ, a, w, fun _ _ _ h => h, hA, h⟩
  | o :: l, hd, ρ, a, w, K, hA, h => by
    simp only [List.all_cons, Bool.and_eq_true] at hd
    obtain ⟨ρ1, a1, w1, h1, hA1, hK1⟩ := stepW_run hN hd.1 hA h
    obtain ⟨ρ2, a2, w2, h2, hA2, hK2⟩ := stepsW_run hN l hd.2 hA1 hK1
    exact ⟨ρ2, a2, w2, fun l2 a3 w3 h => h1 _ _ _ (h2 l2 a3 w3 h), hA2, hK2⟩
theorem wpOps_of_run {Q : Exit → Act → World → Prop} : ∀ (l : List Oper) (k : Nat) (a : Act) (w : World) (a' : Act) (w' : World), (∀ j, l[j]? = ops.toList[k + j]?) → k + l.length = ops.size → RunL P ops l a w a' w' → Q .normal a' w' →
    wpOps P ops Q ((List.range ops.size).drop k) a w
  | [], k, a, w, a', w', _, hk, h, hQ => by
    obtain ⟨rfl, rfl⟩ := h
    rw [List.drop_eq_nil_of_le (by simp at hk ⊢; omega)]
    exact hQ
  | o :: l, k, a, w, a', w', hl, hk, h, hQ => by
    simp only [List.length_cons] at hk
    have hlt : k < (List.range ops.size).length := by simp; omega
    have ho : ops[k]? = some o := by have := hl 0; simpa using this.symm
    have ih := fun a1 w1 h => wpOps_of_run (Q := Q) l (k + 1) a1 w1 a' w' (fun j => by have := hl (j + 1); simpa [Nat.add_assoc, Nat.add_comm 1 j] using this) (by omega) h hQ
    rw [List.drop_eq_getElem_cons hlt]
    simp only [List.getElem_range, wpOps, ho]
    simp only [RunL] at h
    by_cases hw : Region.wanted o (yielded ops a.tmps) = true
    · rw [if_pos hw] at h
      obtain ⟨v, w1, hr, h⟩ := h
      simp only [hw, if_true]
      exact .inl (hr.wp (ih _ _ h))
    · rw [if_neg hw] at h
      simp only [hw]
      exact ih _ _ h
end
abbrev Fuel := Nat → Nat
def setF (φ : Fuel) (j m : Nat) : Fuel := fun i => bif Nat.beq i j then m else φ i
abbrev Cont := Exit → Fuel → Env → World → Prop
inductive Ann where
  | leaf
  | reg (cuts : List (Nat × Nat))
  | draw (D : List Nat) (orders : List (List Nat))
  | seq (a b : Ann)
  | cond (a b : Ann)
  | block (a : Ann)
  | loop (j : Nat) (a : Ann)
  | join (j : Nat) (a : Ann)
def thenC (H : Fuel → Env → World → Prop) (K : Cont) : Cont
  | .normal => H
  | e => K e
def blockC (id : Nat) (K : Cont) : Cont
  | .exit i => bif Nat.beq i id then K .normal else K (.exit i)
  | e => K e
abbrev Segs := Nat → Fuel → Env → World → Prop
def regW (P : Program) (ops : Array Oper) (S : Segs) : List (Nat × Nat) → List Oper → (Fuel → Env → World → Prop) → Fuel → Env → World → Prop
  | [], l, K, φ, ρ, w => stepsW P ops l (K φ) ρ w
  | (n, j) :: _, l, K, φ, ρ, w => stepsW P ops (l.take n) (S j φ) ρ w
def regV (P : Program) (ops : Array Oper) (S : Segs) : List (Nat × Nat) → List Oper → (Fuel → Env → World → Prop) → Prop
  | [], _, _ => True
  | (n, j) :: cs, l, K => (∀ φ ρ w, S j φ ρ w → ∃ ρ' : Env, ρ'.le ρ ∧ regW P ops S cs (l.drop n) K φ ρ' w) ∧ regV P ops S cs (l.drop n) K
def W (P : Program) (S : Segs) : Ann → Code → Cont → Fuel → Env → World → Prop
  | .leaf, c, K, φ, ρ, w => match c with
    | .skip => K .normal φ ρ w
    | .ret => K .ret φ ρ w
    | .exit id => K (.exit id) φ ρ w
    | .region _ ops false => stepsW P ops ops.toList (K .normal φ) ρ w
    | _ => False
  | .reg cs, c, K, φ, ρ, w => match c with
    | .region _ ops false => regW P ops S cs ops.toList (K .normal) φ ρ w
    | _ => False
  | .draw D os, c, K, φ, ρ, w => match c with
    | .region _ ops true => allOf os fun π => drawW P ops D (K .normal φ) π ρ w.drew [] []
    | _ => False
  | .seq a b, c, K, φ, ρ, w => match c with
    | .seq x y => W P S a x (thenC (fun φ ρ w => W P S b y K φ ρ w) K) φ ρ w
    | _ => False
  | .cond a b, c, K, φ, ρ, w => match c with
    | .cond t x y => om (ρ.ev t) fun v => match v with
      | .bool t => bcase t (W P S a x K φ ρ w) (W P S b y K φ ρ w)
      | _ => False
    | _ => False
  | .block a, c, K, φ, ρ, w => match c with
    | .block id x => W P S a x (blockC id K) φ ρ w
    | _ => False
  | .loop j a, c, K, φ, ρ, w => match c with
    | .loop _ => ∃ m, S j (setF φ j m) ρ w
    | _ => False
  | .join j a, c, K, φ, ρ, w => S j φ ρ w
def V (P : Program) (S : Segs) : Ann → Code → Cont → Prop
  | .leaf, _, _ => True
  | .reg cs, c, K => match c with
    | .region _ ops false => regV P ops S cs ops.toList (K .normal)
    | _ => True
  | .draw _ _, _, _ => True
  | .seq a b, c, K => match c with
    | .seq x y => V P S a x (thenC (fun φ ρ w => W P S b y K φ ρ w) K) ∧ V P S b y K
    | _ => True
  | .cond a b, c, K => match c with
    | .cond _ x y => V P S a x K ∧ V P S b y K
    | _ => True
  | .block a, c, K => match c with
    | .block id x => V P S a x (blockC id K)
    | _ => True
  | .loop j a, c, K => match c with
    | .loop x => (∀ φ ρ w, S j φ ρ w → ∃ m, m < φ j ∧ ∃ ρ' : Env, ρ'.le ρ ∧ W P S a x (thenC (S j) K) (setF φ j m) ρ' w) ∧ V P S a x (thenC (S j) K)
    | _ => True
  | .join j a, c, K => (∀ φ ρ w, S j φ ρ w → ∃ ρ' : Env, ρ'.le ρ ∧ W P S a c K φ ρ' w) ∧ V P S a c K
def Ann.loops : Ann → List Nat
  | .leaf => []
  | .reg _ => []
  | .draw _ _ => []
  | .seq a b => a.loops ++ b.loops
  | .cond a b => a.loops ++ b.loops
  | .block a => a.loops
  | .loop j a => j :: a.loops
  | .join _ a => a.loops
def okAnn (n : Nat) : Ann → Code → Bool
  | .leaf, c => match c with
    | .region _ ops _ => ops.toList.all (okDst n)
    | _ => true
  | .reg _, c => match c with
    | .region _ ops _ => ops.toList.all (okDst n)
    | _ => true
  | .draw D os, c => match c with
    | .region _ ops _ => ops.toList.all (okDst n) && okDraw ops D os
    | _ => true
  | .seq a b, c => match c with
    | .seq x y => okAnn n a x && okAnn n b y
    | _ => true
  | .cond a b, c => match c with
    | .cond _ x y => okAnn n a x && okAnn n b y
    | _ => true
  | .block a, c => match c with
    | .block _ x => okAnn n a x
    | _ => true
  | .loop j a, c => match c with
    | .loop x => okAnn n a x && !(a.loops.contains j)
    | _ => true
  | .join _ a, c => okAnn n a c
def Ex (P : Program) (F : FuncId) (c : Code) (a : Act) (w : World) (e : Exit) (a' : Act) (w' : World) : Prop :=
  ∀ (b : Frame), b.fn = F → ∀ (k : List Item) (cs : List Frame), Arrives P (lone (b.at a (.code c :: k)) cs w) b k cs e a' w'
section
variable {P : Program} {S : Segs} {n : Nat} {F : FuncId}
theorem ex_wp {c : Code} {a a' : Act} {w w' : World} {e : Exit} (h : c.wp P (fun e1 a1 w1 => e1 = e ∧ a1 = a' ∧ w1 = w') a w) : Ex P F c a w e a' w' := by
  intro b _ k cs
  obtain ⟨e1, a1, w1, ⟨he, ha, hw⟩, h2⟩ := h b k cs
  rw [← he, ← ha, ← hw]
  exact h2
theorem ex_seq {x y : Code} {a a1 a2 : Act} {w w1 w2 : World} {e : Exit} (h : Ex P F x a w .normal a1 w1) (h2 : Ex P F y a1 w1 e a2 w2) : Ex P F (.seq x y) a w e a2 w2 :=
  fun b hb k cs => .of_steps (.head step_seq (h b hb (.code y :: k) cs)) (h2 b hb k cs)
theorem ex_seq_out {x y : Code} {a a1 : Act} {w w1 : World} {e : Exit} (h : Ex P F x a w e a1 w1) (hne : e ≠ .normal) : Ex P F (.seq x y) a w e a1 w1 :=
  fun b hb k cs => .of_steps (.one step_seq) (.pass (x := .code y) rfl (fun _ _ => .inl hne) (h b hb (.code y :: k) cs))
theorem ex_cond {t : Operand} {b : Bool} {x y : Code} {a a1 : Act} {w w1 : World} {e : Exit} (ht : a.eval t = .bool b) (h : Ex P F (if b then x else y) a w e a1 w1) : Ex P F (.cond t x y) a w e a1 w1 :=
  fun f hf k cs => .of_steps (.one (step_cond ht)) (h f hf k cs)
theorem ex_block {id : Nat} {x : Code} {a a1 : Act} {w w1 : World} {e : Exit} (h : Ex P F x a w e a1 w1) (hne : e ≠ .exit id) : Ex P F (.block id x) a w e a1 w1 := by
  intro b hb k cs
  have harr := h b hb (.inBlock id :: k) cs
  cases e with
  | normal => exact .head step_block (Steps.trans harr (.one step_inBlock))
  | exit i =>
    have hi : i ≠ id := fun e => hne (by rw [e])
    refine fun k' hk => .head step_block (harr k' ?_)
    have : (id == i) = false := by simp; exact fun h => hi h.symm
    simp [exitTo, this, hk]
  | goto l => exact fun k' hk => .head step_block (harr k' (by simp [gotoIn, hk]))
  | ret => exact .of_steps (.one step_block) harr
  | panic ch => exact .of_steps (.one step_block) harr
  | outgrown => exact .of_steps (b := b) (k := k) (cs := cs) (e := .outgrown) (.one step_block) harr
theorem ex_block_exit {id : Nat} {x : Code} {a a1 : Act} {w w1 : World} (h : Ex P F x a w (.exit id) a1 w1) : Ex P F (.block id x) a w .normal a1 w1 :=
  fun b hb k cs => .head step_block (h b hb (.inBlock id :: k) cs k (by simp [exitTo]))
def ExB (P : Program) (F : FuncId) (c : Code) (a : Act) (w : World) (e : Exit) (a' : Act) (w' : World) : Prop :=
  ∀ (b : Frame), b.fn = F → ∀ (k : List Item) (cs : List Frame), Arrives P (lone (b.at a (.code c :: .inLoop c :: k)) cs w) b k cs e a' w'
theorem exB_round {c : Code} {a a1 a2 : Act} {w w1 w2 : World} {e : Exit} (h : Ex P F c a w .normal a1 w1) (h2 : ExB P F c a1 w1 e a2 w2) : ExB P F c a w e a2 w2 := by
  intro b hb k cs
  exact Arrives.of_steps (Steps.trans (h b hb (.inLoop c :: k) cs) (.one step_inLoop)) (h2 b hb k cs)
theorem exB_out {c : Code} {a a1 : Act} {w w1 : World} {e : Exit} (h : Ex P F c a w e a1 w1) (hne : e ≠ .normal) : ExB P F c a w e a1 w1 := by
  intro b hb k cs
  exact .pass (x := .inLoop c) rfl (fun _ _ => .inl hne) (h b hb (.inLoop c :: k) cs)
theorem ex_loop {c : Code} {a a1 : Act} {w w1 : World} {e : Exit} (h : ExB P F c a w e a1 w1) : Ex P F (.loop c) a w e a1 w1 :=
  fun b hb k cs => .of_steps (.one step_loop) (h b hb k cs)
theorem ex_region {id : Nat} {ops : Array Oper} {a a' : Act} {w w' : World} (h : RunL P ops ops.toList a w a' w') : Ex P F (.region id ops false) a w .normal a' w' := by
  refine ex_wp (wp_region ?_)
  have := wpOps_of_run (P := P) (ops := ops) (Q := fun e1 a1 w1 => e1 = .normal ∧ a1 = a' ∧ w1 = w') ops.toList 0 a w a' w' (by simp) (by simp) h ⟨rfl, rfl, rfl⟩
  simpa using this
theorem ex_draw {id : Nat} {ops : Array Oper} {a a' : Act} {w w' : World} (h : wpOps P ops (fun e1 a1 w1 => e1 = .normal ∧ a1 = a' ∧ w1 = w') (Region.schedule (P.follows .mixedOrders) ops (w.tape w.drawn (.order F id))) a w.drew) :
    Ex P F (.region id ops true) a w .normal a' w' := by
  intro b hb k cs
  subst hb
  obtain ⟨e, a1, w1, ⟨he, ha, hw⟩, r⟩ := wp_ops _ a w.drew h b k cs
  subst he; subst ha; subst hw
  exact .of_steps (.one step_region_draw) r
theorem regW_run (hN : NoGr P) {ops : Array Oper} {K : Fuel → Env → World → Prop} : ∀ (cs : List (Nat × Nat)) (l : List Oper), l.all (okDst n) = true → regV P ops S cs l K →
    ∀ {φ : Fuel} {ρ : Env} {a : Act} {w : World}, Agree n ρ a → regW P ops S cs l K φ ρ w → ∃ ρ' a' w', RunL P ops l a w a' w' ∧ Agree n ρ' a' ∧ K φ ρ' w'
  | [], l, hd, _, φ, ρ, a, w, hA, h => by
    obtain ⟨ρ', a', w', hr, hA', hK⟩ := stepsW_run hN l hd hA h
    exact ⟨ρ', a', w', by simpa using hr [] a' w' ⟨rfl, rfl⟩, hA', hK⟩
  | (m, j) :: cs, l, hd, hv, φ, ρ, a, w, hA, h => by
    have hd1 : (l.take m).all (okDst n) = true := by
      rw [List.all_eq_true] at hd ⊢
      exact fun o ho => hd o (List.mem_of_mem_take ho)
    have hd2 : (l.drop m).all (okDst n) = true := by
      rw [List.all_eq_true] at hd ⊢
      exact fun o ho => hd o (List.mem_of_mem_drop ho)
    obtain ⟨ρ1, a1, w1, hr1, hA1, hS⟩ := stepsW_run hN (l.take m) hd1 hA h
    obtain ⟨ρ2, hle, h2⟩ := hv.1 φ ρ1 w1 hS
    obtain ⟨ρ3, a3, w3, hr3, hA3, hK⟩ := regW_run hN cs (l.drop m) hd2 hv.2 (hA1.mono hle) h2
    refine ⟨ρ3, a3, w3, ?_, hA3, hK⟩
    have := hr1 (l.drop m) a3 w3 hr3
    rwa [List.take_append_drop] at this
theorem sound (F : FuncId) (hN : NoGr P) (hM : P.follows .mixedOrders = true) : ∀ (an : Ann) (c : Code) (K : Cont), okAnn n an c = true → V P S an c K → ∀ (φ : Fuel) (ρ : Env) (w : World), W P S an c K φ ρ w → ∀ a, Agree n ρ a →
    ∃ e φ' ρ' a' w', Ex P F c a w e a' w' ∧ Agree n ρ' a' ∧ K e φ' ρ' w' ∧ ∀ i, i ∉ an.loops → φ' i = φ i
  | .leaf, c, K, hok, hv, φ, ρ, w, h, a, hA => by
    simp only [W] at h
    split at h
    · exact ⟨.normal, φ, ρ, a, w, ex_wp (wp_skip ⟨rfl, rfl, rfl⟩), hA, h, fun _ _ => rfl⟩
    · exact ⟨.ret, φ, ρ, a, w, ex_wp (wp_ret ⟨rfl, rfl, rfl⟩), hA, h, fun _ _ => rfl⟩
    · exact ⟨_, φ, ρ, a, w, ex_wp (wp_exit ⟨rfl, rfl, rfl⟩), hA, h, fun _ _ => rfl⟩
    · obtain ⟨ρ', a', w', hr, hA', hK⟩ := stepsW_run hN _ (by simpa [okAnn] using hok) hA h
      exact ⟨.normal, φ, ρ', a', w', ex_region (by simpa using hr [] a' w' ⟨rfl, rfl⟩), hA', hK, fun _ _ => rfl⟩
    · exact h.elim
  | .reg cs, c, K, hok, hv, φ, ρ, w, h, a, hA => by
    simp only [W] at h
    split at h
    · obtain ⟨ρ', a', w', hr, hA', hK⟩ := regW_run hN cs _ (by simpa [okAnn] using hok) hv hA h
      exact ⟨.normal, φ, ρ', a', w', ex_region hr, hA', hK, fun _ _ => rfl⟩
    · exact h.elim
  | .draw D os, c, K, hok, hv, φ, ρ, w, h, a, hA => by
    simp only [W] at h
    split at h
    · rename_i id ops
      simp only [okAnn, Bool.and_eq_true] at hok
      obtain ⟨ρ', a', w', hr, hA', hK⟩ := draw_region hN hM hok.2 hok.1 h hA (w.tape w.drawn (.order F id))
      exact ⟨.normal, φ, ρ', a', w', ex_draw hr, hA', hK, fun _ _ => rfl⟩
    · exact h.elim
  | .seq p q, c, K, hok, hv, φ, ρ, w, h, a, hA => by
    simp only [W] at h
    split at h
    · rename_i x y
      simp only [okAnn, Bool.and_eq_true] at hok
      obtain ⟨e, φ1, ρ1, a1, w1, hx, hA1, hK1, hf1⟩ := sound F hN hM p x _ hok.1 hv.1 φ ρ w h a hA
      by_cases he : e = .normal
      · subst he
        obtain ⟨e2, φ2, ρ2, a2, w2, hy, hA2, hK2, hf2⟩ := sound F hN hM q y K hok.2 hv.2 φ1 ρ1 w1 hK1 a1 hA1
        exact ⟨e2, φ2, ρ2, a2, w2, ex_seq hx hy, hA2, hK2, fun i hi => by
          simp only [Ann.loops, List.mem_append, not_or] at hi
          rw [hf2 i hi.2, hf1 i hi.1]⟩
      · refine ⟨e, φ1, ρ1, a1, w1, ex_seq_out hx he, hA1, ?_, fun i hi => by
          simp only [Ann.loops, List.mem_append, not_or] at hi
          exact hf1 i hi.1⟩
        cases e <;> first | exact absurd rfl he | exact hK1
    · exact h.elim
  | .cond p q, c, K, hok, hv, φ, ρ, w, h, a, hA => by
    simp only [W] at h
    split at h
    · rename_i t x y
      simp only [okAnn, Bool.and_eq_true] at hok
      obtain ⟨v, hvv, h⟩ := om_elim h
      split at h
      · rename_i b
        cases b with
        | true =>
          obtain ⟨e, φ1, ρ1, a1, w1, hx, hA1, hK1, hf1⟩ := sound F hN hM p x K hok.1 hv.1 φ ρ w h a hA
          exact ⟨e, φ1, ρ1, a1, w1, ex_cond (hA.ev hvv) hx, hA1, hK1, fun i hi => by
            simp only [Ann.loops, List.mem_append, not_or] at hi
            exact hf1 i hi.1⟩
        | false =>
          obtain ⟨e, φ1, ρ1, a1, w1, hx, hA1, hK1, hf1⟩ := sound F hN hM q y K hok.2 hv.2 φ ρ w h a hA
          exact ⟨e, φ1, ρ1, a1, w1, ex_cond (hA.ev hvv) hx, hA1, hK1, fun i hi => by
            simp only [Ann.loops, List.mem_append, not_or] at hi
            exact hf1 i hi.2⟩
      · exact h.elim
    · exact h.elim
  | .block p, c, K, hok, hv, φ, ρ, w, h, a, hA => by
    simp only [W] at h
    split at h
    · rename_i id x
      obtain ⟨e, φ1, ρ1, a1, w1, hx, hA1, hK1, hf1⟩ := sound F hN hM p x _ hok hv φ ρ w h a hA
      by_cases he : e = .exit id
      · subst he
        exact ⟨.normal, φ1, ρ1, a1, w1, ex_block_exit hx, hA1, by simpa [blockC] using hK1, hf1⟩
      · refine ⟨e, φ1, ρ1, a1, w1, ex_block hx he, hA1, ?_, hf1⟩
        cases e with
        | exit i =>
          have hne : Nat.beq i id = false := by
            cases hb : Nat.beq i id with
            | false => rfl
            | true => exact absurd (by rw [Nat.eq_of_beq_eq_true hb]) he
          simpa [blockC, hne] using hK1
        | _ => exact hK1
    · exact h.elim
  | .loop j p, c, K, hok, hv, φ, ρ, w, h, a, hA => by
    simp only [W] at h
    split at h
    · rename_i x
      simp only [okAnn, Bool.and_eq_true, Bool.not_eq_true'] at hok
      obtain ⟨m, h⟩ := h
      have key : ∀ (k : Nat) (φ : Fuel) (ρ : Env) (w : World) (a : Act), φ j = k → S j φ ρ w → Agree n ρ a →
          ∃ e φ' ρ' a' w', ExB P F x a w e a' w' ∧ Agree n ρ' a' ∧ K e φ' ρ' w' ∧ ∀ i, i ∉ j :: p.loops → φ' i = φ i := by
        intro k
        induction k using Nat.strongRecOn with
        | _ k ih =>
          intro φ ρ w a hk hS hA
          obtain ⟨m, hm, ρ1, hle, hW⟩ := hv.1 φ ρ w hS
          obtain ⟨e, φ1, ρ2, a1, w1, hx, hA1, hK1, hf1⟩ := sound F hN hM p x _ hok.1 hv.2 _ ρ1 w hW a (hA.mono hle)
          have hfj : φ1 j = m := by
            rw [hf1 j (by simpa using hok.2)]
            simp [setF]
          have hfi : ∀ i, i ∉ j :: p.loops → φ1 i = φ i := by
            intro i hi
            simp only [List.mem_cons, not_or] at hi
            rw [hf1 i hi.2]
            have : Nat.beq i j = false := by
              cases hb : Nat.beq i j with
              | false => rfl
              | true => exact absurd (Nat.eq_of_beq_eq_true hb) hi.1
            simp [setF, this]
          by_cases he : e = .normal
          · subst he
            obtain ⟨e2, φ2, ρ3, a2, w2, hB, hA2, hK2, hf2⟩ := ih m (by omega) φ1 ρ2 w1 a1 hfj hK1 hA1
            exact ⟨e2, φ2, ρ3, a2, w2, exB_round hx hB, hA2, hK2, fun i hi => by rw [hf2 i hi, hfi i hi]⟩
          · refine ⟨e, φ1, ρ2, a1, w1, exB_out hx he, hA1, ?_, hfi⟩
            cases e <;> first | exact absurd rfl he | exact hK1
      obtain ⟨e, φ', ρ', a', w', hB, hA', hK', hf⟩ := key _ (setF φ j m) ρ w a rfl h hA
      exact ⟨e, φ', ρ', a', w', ex_loop hB, hA', hK', fun i hi => by
        rw [hf i hi]
        simp only [Ann.loops, List.mem_cons, not_or] at hi
        have : Nat.beq i j = false := by
          cases hb : Nat.beq i j with
          | false => rfl
          | true => exact absurd (Nat.eq_of_beq_eq_true hb) hi.1
        simp [setF, this]⟩
    · exact h.elim
  | .join j p, c, K, hok, hv, φ, ρ, w, h, a, hA => by
    obtain ⟨ρ1, hle, h1⟩ := hv.1 φ ρ w h
    exact sound F hN hM p c K hok hv.2 φ ρ1 w h1 a (hA.mono hle)
end
end Go.Proofs.YtnjmkhhaodgpbaaGreatX
namespace Go.Proofs.YtnjmkhhaodgpbaaGreatX
open Go.RowKit
def argsEnv : Nat → List Value → Env
  | _, [] => Env.nil
  | i, v :: vs => (argsEnv (i + 1) vs).put (some i) v
def resultsW (P : Program) : List ResultVar → (List Value → Prop) → Env → World → Prop
  | [], K, _, _ => K []
  | .tmp t :: rs, K, ρ, w => om (ρ t) fun v => resultsW P rs (fun vs => K (v :: vs)) ρ w
  | .cell a t :: rs, K, ρ, w => om (ρ a) fun x => loadW P t x w fun v => resultsW P rs (fun vs => K (v :: vs)) ρ w
def oneV : List Value → Value
  | [v] => v
  | vs => .tuple ⟨vs⟩
def retC (P : Program) (fn : Func) (Q : QT) : Cont
  | .normal, _, ρ, w => resultsW P fn.results.toList (fun vs => Q (oneV vs) w) ρ w
  | .ret, _, ρ, w => resultsW P fn.results.toList (fun vs => Q (oneV vs) w) ρ w
  | _, _, _, _ => False
section
variable {P : Program} {n : Nat} {w : World}
theorem argsEnv_at : ∀ (vs : List Value) (i j : Nat) (v : Value), argsEnv i vs j = some v → i ≤ j ∧ vs[j - i]? = some v
  | [], _, _, _, h => by cases h
  | u :: vs, i, j, v, h => by
    simp only [argsEnv, Env.put] at h
    cases hb : Nat.beq j i with
    | true =>
      rw [hb] at h
      have := Nat.eq_of_beq_eq_true hb
      subst this
      simp only [cond_true, Option.some.injEq] at h
      subst h
      exact ⟨Nat.le_refl _, by simp⟩
    | false =>
      rw [hb] at h
      have hne : j ≠ i := fun e => by subst e; simp at hb
      obtain ⟨h1, h2⟩ := argsEnv_at vs (i + 1) j v h
      exact ⟨by omega, by rw [show j - i = (j - (i + 1)) + 1 by omega]; simpa using h2⟩
theorem agree_args {args : List Value} (h : args.length ≤ n) : Agree n (argsEnv 0 args) { tmps := (⟨args⟩ : Array Value) ++ Array.replicate (n - (⟨args⟩ : Array Value).size) undef, defers := [] } := by
  refine ⟨by simp; omega, fun i v hi => ?_, rfl⟩
  obtain ⟨_, h2⟩ := argsEnv_at args 0 i v hi
  simp only [Nat.sub_zero] at h2
  have hlt : i < args.length := (List.getElem?_eq_some_iff.1 h2).1
  rw [Array.getElem?_append_left (by simpa using hlt)]
  simpa using h2
def resStep (tmps : Array Value) : ResultVar → Sem Value
  | .tmp t => pure (tmps.getD t undef)
  | .cell a t => do loadVar t (← asAddr (tmps.getD a undef))
theorem results_eq (fn : Func) (tmps : Array Value) : results fn tmps = (do
    let vs ← fn.results.mapM (resStep tmps)
    pure (if h : vs.size = 1 then vs[0] else .tuple vs) : Sem Value) := by
  unfold results
  congr 1
theorem resultsW_run {ρ : Env} {a : Act} (hA : Agree n ρ a) : ∀ (rs : List ResultVar) {K : List Value → Prop}, resultsW P rs K ρ w → ∃ vs, K vs ∧ (rs.mapM (resStep a.tmps)).run P w = .ok vs w
  | [], K, h => ⟨[], h, rfl⟩
  | .tmp t :: rs, K, h => by
    obtain ⟨v, hv, h⟩ := om_elim h
    obtain ⟨vs, hK, hr⟩ := resultsW_run hA rs h
    have hat := hA.at_ t v hv
    refine ⟨v :: vs, hK, ?_⟩
    have h1 : (resStep a.tmps (.tmp t)).run P w = .ok v w := by simp [resStep, Array.getD_eq_getD_getElem?, hat]
    simp only [List.mapM_cons, Sem.run_bind, h1, Result.andThen_ok, hr, Sem.run_pure]
  | .cell x t :: rs, K, h => by
    obtain ⟨v, hv, h⟩ := om_elim h
    obtain ⟨u, h, hl⟩ := loadW_run h
    obtain ⟨vs, hK, hr⟩ := resultsW_run hA rs h
    have hat := hA.at_ x v hv
    refine ⟨u :: vs, hK, ?_⟩
    have h1 : (resStep a.tmps (.cell x t)).run P w = .ok u w := by
      simp only [resStep, Array.getD_eq_getD_getElem?, hat, Option.getD_some]
      cases v with
      | pointer p =>
        cases p with
        | none => simp [Instr.loadAt, Instr.sureAddr] at hl
        | some p => simpa [Instr.loadAt, Instr.sureAddr, asAddr] using hl
      | _ => simp [Instr.loadAt, Instr.sureAddr] at hl
    simp only [List.mapM_cons, Sem.run_bind, h1, Result.andThen_ok, hr, Sem.run_pure]
theorem retC_run {fn : Func} {Q : QT} {ρ : Env} {a : Act} (hA : Agree n ρ a) (h : resultsW P fn.results.toList (fun vs => Q (oneV vs) w) ρ w) : ∃ v, Q v w ∧ (results fn a.tmps).run P w = .ok v w := by
  obtain ⟨vs, hQ, hr⟩ := resultsW_run hA _ h
  refine ⟨_, hQ, ?_⟩
  rw [results_eq, Array.mapM_eq_mapM_toList]
  simp only [Sem.run_bind, Sem.run_map, hr, Result.andThen_ok, Sem.run_pure]
  congr 1
  cases vs with
  | nil => rfl
  | cons v vs => cases vs <;> rfl
theorem calls_of_ex {f : FuncId} {fn : Func} {c : Code} {args : Array Value} {e : Exit} {a' : Act} {w' : World} {v : Value} (hf : P.funcs[f]? = some fn) (hb : fn.body = some c)
    (h : Ex P f c { tmps := args ++ Array.replicate (fn.ntmps - args.size) undef, defers := [] } w e a' w') (he : e = .normal ∨ e = .ret) (hd : a'.defers = []) (hr : (results fn a'.tmps).run P w' = .ok v w') : CallX P f args w v w' := by
  intro cs
  let b : Frame := { (default : Frame) with fn := f, kind := .normal }
  have henter : Frame.enter P f args .normal = b.at { tmps := args ++ Array.replicate (fn.ntmps - args.size) undef, defers := [] } [.code c] := by
    simp [Frame.enter, Frame.at, hf, hb, b]
  have harr := h b rfl [] cs
  rw [← henter] at harr
  rcases he with rfl | rfl
  · exact ⟨.returned v, w', _, ⟨rfl, rfl⟩, Steps.trans harr (.one step_end), rfl, rfl, hd, rfl, fn, hf, hr⟩
  · obtain ⟨todo, hs⟩ := harr
    exact ⟨.returned v, w', _, ⟨rfl, rfl⟩, hs, rfl, rfl, hd, rfl, fn, hf, hr⟩
theorem fn_sound (hN : NoGr P) (hM : P.follows .mixedOrders = true) {f : FuncId} {fn : Func} {c : Code} {args : List Value} {Q : QT} {an : Ann} {S : Segs} {φ : Fuel} (hf : P.funcs[f]? = some fn) (hb : fn.body = some c)
    (hargs : Nat.ble args.length fn.ntmps = true) (hok : okAnn fn.ntmps an c = true) (hv : V P S an c (retC P fn Q)) (h : W P S an c (retC P fn Q) φ (argsEnv 0 args) w) : CallR P f ⟨args⟩ w Q := by
  obtain ⟨e, φ', ρ', a', w', hx, hA', hK, _⟩ := sound f hN hM an c _ hok hv φ _ w h _ (agree_args (Nat.le_of_ble_eq_true hargs))
  have hd := hA'.defers
  cases e with
  | normal =>
    obtain ⟨v, hQ, hr⟩ := retC_run hA' hK
    exact ⟨v, w', calls_of_ex hf hb hx (.inl rfl) hd hr, hQ⟩
  | ret =>
    obtain ⟨v, hQ, hr⟩ := retC_run hA' hK
    exact ⟨v, w', calls_of_ex hf hb hx (.inr rfl) hd hr, hQ⟩
  | _ => exact hK.elim
end
def ldI (k : IntKind) (w : World) (p : Addr) (K : Int → Prop) : Prop := ∃ x : Int, w.cell? p = some (.int k x) ∧ K x
def ldB (w : World) (p : Addr) (K : Bool → Prop) : Prop := ∃ x : Bool, w.cell? p = some (.bool x) ∧ K x
def ldS (w : World) (p : Addr) (K : ByteArray → Prop) : Prop := ∃ x : ByteArray, w.cell? p = some (.string x) ∧ K x
def ldP (w : World) (p : Addr) (K : Option Addr → Prop) : Prop := ∃ x : Option Addr, w.cell? p = some (.pointer x) ∧ K x
def ldSl (w : World) (p : Addr) (K : Option Addr → Nat → Nat → Prop) : Prop := ∃ (x : Option Addr) (n c : Nat), w.cell? p = some (.slice x n c) ∧ K x n c
def ldM (w : World) (p : Addr) (K : Option Nat → Prop) : Prop := ∃ x : Option Nat, w.cell? p = some (.map x) ∧ K x
def newK (w : World) (cs : Array Value) (e : TypeId) (K : Addr → World → Prop) : Prop := K ⟨w.heap.size, 0, none⟩ (w.alloc (.cells cs e))
def newM (w : World) (K : Nat → World → Prop) : Prop := K w.heap.size (w.alloc (.map #[] 0))
def drewK (w : World) (K : World → Prop) : Prop := K w.drew
def stK (w : World) (p : Addr) (v : Value) (K : World → Prop) : Prop := StoreOk w p ∧ K (w.setCell p v)
def stAll (w : World) (p : Addr) (vs : List Value) (K : World → Prop) : Prop := AllOk w p vs.length ∧ K (putAll w p 0 vs)
def qI (k : IntKind) (o : Option Value) (K : Int → Prop) : Prop := match o with
  | some (.int k' x) => if k' = k then K x else False
  | _ => False
def qB (o : Option Value) (K : Bool → Prop) : Prop := match o with
  | some (.bool x) => K x
  | _ => False
def qS (o : Option Value) (K : ByteArray → Prop) : Prop := match o with
  | some (.string x) => K x
  | _ => False
def qP (o : Option Value) (K : Option Addr → Prop) : Prop := match o with
  | some (.pointer x) => K x
  | _ => False
def qA (o : Option Value) (K : Addr → Prop) : Prop := match o with
  | some (.pointer (some x)) => K x
  | _ => False
def qSl (o : Option Value) (K : Option Addr → Nat → Nat → Prop) : Prop := match o with
  | some (.slice x n c) => K x n c
  | _ => False
def qF (f : FuncId) (o : Option Value) (K : List Value → Prop) : Prop := match o with
  | some (.func (.func g) ⟨[]⟩ ⟨vs⟩) => bif Nat.beq g f then K vs else False
  | _ => False
def qC (l : List Value) (K : Option Value → List Value → Prop) : Prop := match l with
  | v :: l => K (some v) l
  | [] => False
def qN (l : List Value) (K : Prop) : Prop := match l with
  | [] => K
  | _ => False
theorem qI_elim {k : IntKind} {o : Option Value} {K : Int → Prop} (h : qI k o K) : ∃ x, o = some (.int k x) ∧ K x := by
  unfold qI at h
  split at h
  · split at h
    · rename_i hk; subst hk; exact ⟨_, rfl, h⟩
    · exact h.elim
  · exact h.elim
theorem qB_elim {o : Option Value} {K : Bool → Prop} (h : qB o K) : ∃ x, o = some (.bool x) ∧ K x := by
  unfold qB at h
  split at h
  · exact ⟨_, rfl, h⟩
  · exact h.elim
theorem qS_elim {o : Option Value} {K : ByteArray → Prop} (h : qS o K) : ∃ x, o = some (.string x) ∧ K x := by
  unfold qS at h
  split at h
  · exact ⟨_, rfl, h⟩
  · exact h.elim
theorem qP_elim {o : Option Value} {K : Option Addr → Prop} (h : qP o K) : ∃ x, o = some (.pointer x) ∧ K x := by
  unfold qP at h
  split at h
  · exact ⟨_, rfl, h⟩
  · exact h.elim
theorem qA_elim {o : Option Value} {K : Addr → Prop} (h : qA o K) : ∃ x, o = some (.pointer (some x)) ∧ K x := by
  unfold qA at h
  split at h
  · exact ⟨_, rfl, h⟩
  · exact h.elim
theorem qSl_elim {o : Option Value} {K : Option Addr → Nat → Nat → Prop} (h : qSl o K) : ∃ x n c, o = some (.slice x n c) ∧ K x n c := by
  unfold qSl at h
  split at h
  · exact ⟨_, _, _, rfl, h⟩
  · exact h.elim
theorem qF_elim {f : FuncId} {o : Option Value} {K : List Value → Prop} (h : qF f o K) : ∃ vs, o = some (.func (.func f) ⟨[]⟩ ⟨vs⟩) ∧ K vs := by
  unfold qF at h
  split at h
  · rename_i g vs
    cases hb : Nat.beq g f with
    | true => rw [hb] at h; have := Nat.eq_of_beq_eq_true hb; subst this; exact ⟨_, rfl, h⟩
    | false => rw [hb] at h; exact h.elim
  · exact h.elim
theorem qC_elim {l : List Value} {K : Option Value → List Value → Prop} (h : qC l K) : ∃ v l', l = v :: l' ∧ K (some v) l' := by
  unfold qC at h
  split at h
  · exact ⟨_, _, rfl, h⟩
  · exact h.elim
theorem qN_elim {l : List Value} {K : Prop} (h : qN l K) : l = [] ∧ K := by
  unfold qN at h
  split at h
  · exact ⟨rfl, h⟩
  · exact h.elim
end Go.Proofs.YtnjmkhhaodgpbaaGreatX
namespace Go.Proofs.YtnjmkhhaodgpbaaGreatX
open Go.RowKit
theorem u64b {a : Int} (h : (Lit.int .u64 a).wf = true) : 0 ≤ a ∧ a ≤ 18446744073709551615 := by
  simp [Lit.wf, IntKind.min, IntKind.max, IntKind.signed, IntKind.bits] at h; omega
theorem u64w (n : Int) (h : 0 ≤ n) (h' : n ≤ 18446744073709551615) : IntKind.u64.wrap n = n := IntWalk.u64_in n ⟨h, h'⟩
theorem i64w (n : Int) (h : -9223372036854775808 ≤ n) (h' : n ≤ 9223372036854775807) : IntKind.i64.wrap n = n := IntWalk.i64_in n ⟨h, h'⟩
theorem tmod_pick (n m : Int) (hm : 0 < m) : (if Int.tmod n m < 0 then Int.tmod n m + m else Int.tmod n m) = n % m := by
  have h1 := Int.tmod_eq_emod (a := n) (b := m)
  have h2 := Int.emod_nonneg n (by omega : m ≠ 0)
  have h3 := Int.emod_lt_of_pos n hm
  rw [h1]
  split <;> split <;> omega
theorem bc_dec {p : Prop} [Decidable p] {A B : Prop} (h1 : p → A) (h2 : ¬ p → B) : bcase (decide p) A B := by
  by_cases h : p
  · rw [decide_eq_true h]; exact h1 h
  · rw [decide_eq_false h]; exact h2 h
theorem bc_pos {p : Prop} [Decidable p] {A B : Prop} (h : p) (a : A) : bcase (decide p) A B := by rw [decide_eq_true h]; exact a
theorem bc_neg {p : Prop} [Decidable p] {A B : Prop} (h : ¬ p) (b : B) : bcase (decide p) A B := by rw [decide_eq_false h]; exact b
theorem bc_bool {t : Bool} {A B : Prop} (h1 : t = true → A) (h2 : t = false → B) : bcase t A B := by cases t; exact h2 rfl; exact h1 rfl
theorem bc_eq {a b : Int} {A B : Prop} (h1 : a = b → A) (h2 : a ≠ b → B) : bcase (a == b) A B := bc_bool (fun h => h1 (by simpa using h)) (fun h => h2 (by simpa using h))
theorem bc_ne {a b : Int} {A B : Prop} (h1 : a ≠ b → A) (h2 : a = b → B) : bcase (a != b) A B := bc_bool (fun h => h1 (by simpa using h)) (fun h => h2 (by simpa using h))
theorem ld_int {k : IntKind} {w : World} {p : Addr} {x : Int} {K : Int → Prop} (h : w.cell? p = some (.int k x)) (hk : K x) : ldI k w p K := ⟨x, h, hk⟩
theorem opt_some {a : Option Addr} {p : Addr} {K : Addr → Prop} (h : a = some p) (hk : K p) : optP a K := by subst h; exact hk
end Go.Proofs.YtnjmkhhaodgpbaaGreatX
namespace Go.Proofs.YtnjmkhhaodgpbaaGreatX
open Go.RowKit
structure Fr (S : List Nat) (w w' : World) : Prop where
  os : w'.os = w.os
  tape : w'.tape = w.tape
  output : w'.output = w.output
  size : w.heap.size ≤ w'.heap.size
  block : ∀ k, k < w.heap.size → k ∉ S → w'.heap[k]? = w.heap[k]?
def fbl (p : Option Addr) : List Nat := match p with
  | some a => [a.block]
  | none => []
section
variable {S T : List Nat} {a b c w w' : World}
theorem Fr.refl (w : World) : Fr S w w := ⟨rfl, rfl, rfl, Nat.le_refl _, fun _ _ _ => rfl⟩
theorem Fr.trans (h : Fr S a b) (k : Fr T b c) (hT : ∀ x ∈ T, x ∈ S ∨ a.heap.size ≤ x) : Fr S a c :=
  ⟨k.os.trans h.os, k.tape.trans h.tape, k.output.trans h.output, Nat.le_trans h.size k.size, fun i hi hn =>
    (k.block i (Nat.lt_of_lt_of_le hi h.size) (fun hm => (hT i hm).elim hn (fun hl => absurd hi (by omega)))).trans (h.block i hi hn)⟩
theorem Fr.tr (h : Fr S a b) (k : Fr S b c) : Fr S a c := h.trans k fun x hx => .inl hx
theorem Fr.mono (h : Fr S a b) (hs : ∀ x ∈ S, x ∈ T) : Fr T a b := ⟨h.os, h.tape, h.output, h.size, fun k hk hn => h.block k hk (fun hm => hn (hs k hm))⟩
theorem Fr.any (h : Fr [] a b) : Fr T a b := h.mono fun x hx => by cases hx
theorem Fr.drew : Fr S w w.drew := ⟨rfl, rfl, rfl, Nat.le_refl _, fun _ _ _ => rfl⟩
theorem Fr.alloc (w : World) (o : Obj) : Fr S w (w.alloc o) := ⟨rfl, rfl, rfl, by simp, fun k hk _ => heap_alloc_old w o k hk⟩
theorem Fr.setCell {p : Addr} (hp : p.block ∈ S) (v : Value) : Fr S w (w.setCell p v) :=
  ⟨rfl, rfl, rfl, by simp, fun k hk hn => Below.heap_setCell _ _ _ _ (fun e => hn (e ▸ hp))⟩
theorem Fr.grown {row : Option Nat} (h : w.grownBy w' row) (hr : ∀ k, row = some k → k ∈ S) : Fr S w w' :=
  ⟨h.os, h.tape, h.output, h.size, fun k hk hn => h.block k hk (fun e => hn (hr k e.symm))⟩
theorem Fr.cell {p : Addr} {v : Value} (h : Fr S w w') (hc : w.cell? p = some v) (hn : p.block ∉ S) : w'.cell? p = some v :=
  (World.cell?_of_block (h.block p.block (World.block_lt_of_cell? w p hc) hn)).trans hc
theorem Fr.below {B : Nat} (h : Fr S w w') (hB : B ≤ w.heap.size) (hS : ∀ x ∈ S, B ≤ x) : Below B w w' :=
  ⟨h.os, h.tape, h.output, h.size, fun k hk => h.block k (by omega) (fun hm => absurd (hS k hm) (by omega))⟩
end
def Cells (w : World) (x : Option Addr) (us : List Value) : Prop := ∀ j u, us[j]? = some u → ∃ p, x = some p ∧ w.cell? (p.add j) = some u
section
variable {S T : List Nat} {w w' : World}
theorem Cells.keep {x : Option Addr} {us : List Value} (h : Fr S w w') (hc : Cells w x us) (hn : ∀ k ∈ fbl x, k ∉ S) : Cells w' x us := by
  intro j u hj
  obtain ⟨p, hp, hv⟩ := hc j u hj
  subst hp
  have hb : (p.add j).block = p.block := by unfold Addr.add; split <;> rfl
  exact ⟨p, rfl, h.cell hv (by rw [hb]; exact hn _ (by simp [fbl]))⟩
theorem Cells.keep' {x : Option Addr} {us : List Value} (h : Fr [] w w') (hc : Cells w x us) : Cells w' x us := hc.keep h (by simp)
theorem add_block (p : Addr) (j : Nat) : (p.add j).block = p.block := by unfold Addr.add; split <;> rfl
theorem add_add (p : Addr) (i j : Nat) : (p.add i).add j = p.add (i + j) := by
  unfold Addr.add
  by_cases h1 : i = 0
  · subst h1; simp
  · by_cases h2 : j = 0
    · subst h2; simp [h1]
    · rw [if_neg h1, if_neg h2, if_neg (by omega)]
      simp [Nat.add_assoc]
end
def at0 (g i : Nat) : Addr := ⟨g, i, none⟩
theorem add_at (g i j : Nat) : (at0 g i).add j = at0 g (i + j) := by unfold Addr.add at0; split <;> simp_all
def Blk (w : World) (g : Nat) (cs : List Value) (e : TypeId) : Prop := w.heap[g]? = some (.cells cs.toArray e (0, 0))
section
variable {S : List Nat} {w w' : World} {g i : Nat} {cs : List Value} {e : TypeId} {v : Value}
theorem Blk.lt (h : Blk w g cs e) : g < w.heap.size := (Array.getElem?_eq_some_iff.1 h).1
theorem Blk.cell (h : Blk w g cs e) (hi : cs[i]? = some v) : w.cell? (at0 g i) = some v := by
  unfold Blk at h
  simp [World.cell?, at0, h, hi]
theorem Blk.storeOk (h : Blk w g cs e) (hi : i < cs.length) : StoreOk w (at0 g i) := by
  refine ⟨by rw [h.cell (List.getElem?_eq_getElem hi)]; rfl, ?_⟩
  unfold Blk at h
  simp [World.frozen?, at0, h]
theorem Blk.set (h : Blk w g cs e) (i : Nat) (v : Value) : Blk (w.setCell (at0 g i) v) g (cs.set i v) e := by
  have hlt := h.lt
  unfold Blk at h ⊢
  simp [World.setCell, at0, Array.getElem?_modify, h]
theorem Blk.keep (h : Blk w g cs e) (hf : Fr S w w') (hn : g ∉ S) : Blk w' g cs e := (hf.block g h.lt hn).trans h
theorem Blk.keep' (h : Blk w g cs e) (hf : Fr [] w w') : Blk w' g cs e := h.keep hf (by simp)
theorem Blk.made (w : World) (cs : Array Value) (e : TypeId) : Blk (w.alloc (.cells cs e)) w.heap.size cs.toList e := by
  unfold Blk
  exact heap_alloc_new w _
end
theorem ld_sl {w : World} {p : Addr} {a : Option Addr} {n c : Nat} {K : Option Addr → Nat → Nat → Prop} (h : w.cell? p = some (.slice a n c)) (hk : K a n c) : ldSl w p K := ⟨a, n, c, h, hk⟩
theorem ld_bool {w : World} {p : Addr} {x : Bool} {K : Bool → Prop} (h : w.cell? p = some (.bool x)) (hk : K x) : ldB w p K := ⟨x, h, hk⟩
theorem ld_ptr {w : World} {p : Addr} {x : Option Addr} {K : Option Addr → Prop} (h : w.cell? p = some (.pointer x)) (hk : K x) : ldP w p K := ⟨x, h, hk⟩
theorem ld_map {w : World} {p : Addr} {x : Option Nat} {K : Option Nat → Prop} (h : w.cell? p = some (.map x)) (hk : K x) : ldM w p K := ⟨x, h, hk⟩
abbrev Own (e : TypeId) (sz : Nat) (w : World) (p : Option Addr) (n c : Nat) (xs : List Value) : Prop := w.ownsRow 0 e sz (.slice p n c) n xs
structure RowT (P : Program) (t e : TypeId) (sz bytes : Nat) : Prop where
  under : P.underlying t = some (.slice e)
  info : ∃ i z, P.info? e = some i ∧ i.zero = some z ∧ i.size = sz ∧ i.bytes = bytes ∧ z.cells.size = sz
  pos : 0 < sz
section
variable {P : Program} {t e : TypeId} {sz bytes : Nat} {w w' : World} {x : Option Addr} {n c m mc : Nat} {xs us : List Value} {S : List Nat}
theorem Own.keep {p : Option Addr} (h : Fr S w w') (ho : Own e sz w p n c xs) (hn : ∀ k ∈ fbl p, k ∉ S) : Own e sz w' p n c xs := by
  refine ⟨ho.1, ?_⟩
  rcases ho.2 with hv | ⟨g, cap, cur, hv, hb, hg, rest⟩
  · exact .inl hv
  · refine .inr ⟨g, cap, cur, hv, hb, ?_, rest⟩
    injection hv with h1 h2 h3
    rw [h.block g (Array.getElem?_eq_some_iff.1 hg).1 (hn _ (by rw [h1]; simp [fbl]))]
    exact hg
theorem Own.keep' {p : Option Addr} (h : Fr [] w w') (ho : Own e sz w p n c xs) : Own e sz w' p n c xs := ho.keep h (by simp)
theorem Own.lt {p : Option Addr} (ho : Own e sz w p n c xs) : ∀ k ∈ fbl p, k < w.heap.size := by
  intro k hk
  cases p with
  | none => cases hk
  | some a => exact (World.ownsRow.lt ho k (by simp [fbl] at hk; simp [Value.ownBlock, hk])).2
theorem Own.len {p : Option Addr} (ho : Own e sz w p n c xs) : xs.length = n * sz := ho.1
theorem Own.le {p : Option Addr} (ho : Own e sz w p n c xs) : n ≤ c := by
  rcases ho.2 with ⟨hv, hn⟩ | ⟨g, cap, cur, hv, _, _, hn, _⟩
  · injection hv with h1 h2 h3; omega
  · injection hv with h1 h2 h3; omega
theorem Own.nil : Own e sz w none 0 0 [] := World.ownsRow_nil w 0 e sz
theorem Own.none_c (ho : Own e sz w none n c xs) : n = 0 ∧ c = 0 ∧ xs = [] := by
  rcases ho.2 with ⟨hv, hn⟩ | ⟨g, cap, cur, hv, _⟩
  · injection hv with h1 h2 h3
    exact ⟨h2, h3, List.eq_nil_of_length_eq_zero (by rw [ho.1, h2]; simp)⟩
  · injection hv with h1 h2 h3; cases h1
theorem Own.cells {p : Option Addr} (ho : Own e sz w p n c xs) : Cells w p xs := by
  intro j u hj
  cases p with
  | none => obtain ⟨_, _, rfl⟩ := ho.none_c; simp at hj
  | some a =>
    rcases ho.2 with ⟨hv, hn⟩ | ⟨g, cap, cur, hv, hb, hg, rest⟩
    · injection hv with h1; cases h1
    · injection hv with h1 h2 h3
      injection h1 with h1
      subst h1
      exact ⟨_, rfl, World.ownsRow.cells ho (g := g) rfl j u hj⟩
theorem Own.made (cs : Array Value) (k : Nat) (hm : k ≤ maxLen) (hs : cs.size = k * sz) : Own e sz (w.alloc (.cells cs e)) (some ⟨w.heap.size, 0, none⟩) k k cs.toList :=
  World.ownsRow_lit w cs k (Nat.zero_le _) hm hs
theorem Own.blk {p : Addr} (ho : Own e sz w (some p) n c xs) : ∃ g cur, p = at0 g 0 ∧ Blk w g cur e ∧ cur.length = c * sz ∧ cur.take (n * sz) = xs := by
  rcases ho.2 with ⟨hv, _⟩ | ⟨g, cap, cur, hv, _, hg, _, _, hs, ht⟩
  · injection hv with h1; cases h1
  · injection hv with h1 h2 h3
    injection h1 with h1
    subst h1; subst h3
    exact ⟨g, cur.toList, rfl, hg, by simpa using hs, ht⟩
theorem Own.storeOk {p : Addr} (ho : Own e sz w (some p) n c xs) {i : Nat} (hi : i < xs.length) : StoreOk w (p.add i) := by
  obtain ⟨g, cur, rfl, hb, hl, ht⟩ := Own.blk ho
  rw [add_at, Nat.zero_add]
  refine hb.storeOk ?_
  have : i < (cur.take (n * sz)).length := by rw [ht]; exact hi
  simp at this
  omega
theorem Own.set {p : Addr} (ho : Own e sz w (some p) n c xs) {i : Nat} (hi : i < xs.length) (v : Value) : Own e sz (w.setCell (p.add i) v) (some p) n c (xs.set i v) := by
  have hle := Own.le ho
  have hlen := Own.len ho
  rcases ho.2 with ⟨hv, _⟩ | ⟨g, cap, cur, hv, _, hg, _, hm, hs, ht⟩
  · injection hv with h1; cases h1
  · injection hv with h1 h2 h3
    injection h1 with h1
    subst h1; subst h3
    refine ⟨by simpa using hlen, .inr ⟨g, c, cur.setIfInBounds i v, rfl, Nat.zero_le _, ?_, hle, hm, by simpa using hs, ?_⟩⟩
    · have hb : Blk w g cur.toList e := hg
      have := hb.set i v
      unfold Blk at this
      change (w.setCell ((at0 g 0).add i) v).heap[g]? = _
      rw [add_at, Nat.zero_add, this]
      have e1 : (cur.toList.set i v).toArray = cur.setIfInBounds i v := by apply Array.ext'; simp
      rw [e1]
    · simp only [Array.toList_setIfInBounds]
      rw [List.take_set, ht]
theorem app_own {p : Option Addr} (hT : RowT P t e sz bytes) {ty : TypeId} {K : QT} (ho : Own e sz w p n c xs) (hs : Cells w x us) (hl : us.length = m * sz) (h0 : x = none → mc = 0) (h1 : ∀ u ∈ us, u.oneCell' = true)
    (h63 : n + m ≤ maxLen) (hby : (n + m) * bytes ≤ 140737488355328)
    (hK : ∀ p' c' w', Own e sz w' p' (n + m) c' (xs ++ us) → Fr (fbl p) w w' → (∀ k ∈ fbl p', k ∈ fbl p ∨ w.heap.size ≤ k) → K (.slice p' (n + m) c') w') :
    RunR P (Builtin.append_ #[t, t] ty #[.slice p n c, .slice x m mc]) w K := by
  obtain ⟨i, z, hi, hz, hsz, hbyt, hzs⟩ := hT.info
  have ht := hT.under
  have hpos := hT.pos
  subst hsz
  subst hbyt
  have hsmall : n + m ≤ 9223372036854775807 := by simp only [maxLen] at h63; omega
  have hlen : (xs ++ us).length = (n + m) * i.size := by rw [List.length_append, ho.1, hl, Nat.add_mul]
  have grown : ∀ (old : Nat), old < n + m →
      Own e i.size (w.drew.alloc (.cells (xs.toArray ++ us.toArray ++ Builtin.zeroCells z.cells (grownCap w (n + m) old e - (n + m))) e)) (some ⟨w.heap.size, 0, none⟩) (n + m) (grownCap w (n + m) old e) (xs ++ us) := by
    intro old hold
    have hge := grownCap_ge w (n + m) old e
    have hcm : grownCap w (n + m) old e ≤ maxLen := grownCap_le_maxLen w (n + m) old e h63
    refine ⟨hlen, .inr ⟨w.heap.size, _, _, rfl, Nat.zero_le _, heap_alloc_new w.drew _, hge, hcm, ?_, ?_⟩⟩
    · simp only [Array.size_append, List.size_toArray, size_zeroCells, hzs, ho.1, hl, ← Nat.add_mul]
      congr 1
      omega
    · simp only [Array.toList_append, List.append_assoc]
      rw [← List.append_assoc, ← hlen]
      exact List.take_left
  cases x with
  | none =>
    have hus : us = [] := by
      cases us with
      | nil => rfl
      | cons u us => obtain ⟨q, hq, _⟩ := hs 0 u rfl; cases hq
    subst hus
    have hm : m = 0 := by
      rcases Nat.mul_eq_zero.1 (show m * i.size = 0 by simpa using hl.symm) with h | h
      · exact h
      · omega
    subst hm
    have := h0 rfl
    subst this
    have hr := run_append_owned_none (P := P) w 0 t ty e i i.size ht hi _ _ _ ho
    exact ⟨_, _, hr, hK p c w (by simpa using ho) (Fr.refl w) (fun k hk => .inl hk)⟩
  | some a =>
    have hnews : ∀ j u, us[j]? = some u → w.cell? (a.add j) = some u := fun j u hj => by
      obtain ⟨q, hq, hv⟩ := hs j u hj
      injection hq with hq
      subst hq
      exact hv
    rcases ho.2 with ⟨hv, hn⟩ | ⟨g, cap, cur, hv, hbg, hg, hnc, hcm, hcs, htake⟩
    · injection hv with e1 e2 e3
      subst e1
      subst e2
      subst e3
      have hx : xs = [] := List.eq_nil_of_length_eq_zero (by rw [ho.1]; simp)
      subst hx
      by_cases hm : m = 0
      · subst hm
        have hn : us = [] := List.eq_nil_of_length_eq_zero (by simpa using hl)
        subst hn
        refine ⟨.slice none 0 0, w, ?_, hK none 0 w (World.ownsRow_nil w 0 e i.size) (Fr.refl w) (fun k hk => .inl hk)⟩
        simp [Builtin.append_, run_underlying ht, sizeOf, typeInfo, hi, Builtin.lenOf, Builtin.firstCells, loadCells, loadCellsFrom]
      · have hr := run_append_nil (P := P) w t ty e i z ht hi hz a m mc us hl hnews (by omega) (by omega) (by have hb := hby; simp only [Nat.zero_add] at hb; omega)
        have hgr := grown 0 (by omega)
        simp only [Nat.zero_add, List.nil_append, Array.empty_append] at hgr hr hK
        exact ⟨_, _, hr, by
          have := hK (some ⟨w.heap.size, 0, none⟩) _ _ hgr ⟨rfl, rfl, rfl, by simp, fun k hk _ => heap_alloc_old w.drew _ k hk⟩ (fun k hk => .inr (by simp [fbl] at hk; omega))
          simpa using this⟩
    · injection hv with e1 e2 e3
      subst e1
      subst e3
      by_cases hroom : n + m ≤ c
      · have hfit : n * i.size + us.length ≤ cur.size := by rw [hl, hcs, ← Nat.add_mul]; exact Nat.mul_le_mul_right _ hroom
        have hr := run_append_room (P := P) w t ty e i ht hi g n c cur hg a m mc us hl hnews h1 hroom hfit
        refine ⟨_, _, hr, hK _ _ _ ⟨hlen, .inr ⟨g, c, _, rfl, hbg, setRow_heap w g cur _ e _ hg, hroom, hcm, ?_, ?_⟩⟩ ⟨rfl, rfl, rfl, by simp, fun k _ hk => setRow_other w g k _ (fun e => hk (by simp [fbl, e]))⟩ (fun k hk => .inl hk)⟩
        · simp only [List.size_toArray, List.length_append, List.length_take, List.length_drop, Array.length_toList]
          omega
        · rw [htake, ← hlen]
          exact List.take_left
      · have holds : ∀ j u, xs[j]? = some u → w.cell? ((⟨g, 0, none⟩ : Addr).add j) = some u := World.ownsRow.cells ho (g := g) rfl
        have hr := run_append_grow (P := P) w t ty e i z ht hi hz ⟨g, 0, none⟩ n c xs ho.1 holds a m mc us hl hnews (by omega) (by omega) (growslice_fits (by omega) hby)
        exact ⟨_, _, hr, hK _ _ _ (grown c (by omega)) ⟨rfl, rfl, rfl, by simp, fun k hk _ => heap_alloc_old w.drew _ k hk⟩ (fun k hk => .inr (by simp [fbl] at hk; omega))⟩
end
end Go.Proofs.YtnjmkhhaodgpbaaGreatX
namespace Go.Proofs.YtnjmkhhaodgpbaaGreatX
open Go.ChangeShapes Go.WideShapes Go.RowKit
def Lies {H : Type} (P : Program) (w : World) : Nat → TypeId → List Value → DataW H → Prop
  | 0, _, _, _ => True
  | n + 1, t, cs, d => match P.underlying t with
    | some (.int k) => ∃ x, cs = [.int k x] ∧ d = .lit (.int k x) ∧ (Lit.int k x).wf = true
    | some .bool => ∃ b, cs = [.bool b] ∧ d = .lit (.bool b)
    | some .string => ∃ s : ByteArray, cs = [.string s] ∧ d = .lit (.string s.data.toList) ∧ s.size ≤ maxLen
    | some (.slice e) => (cs = [.slice none 0 0] ∧ d = .nil) ∨ ∃ (a : Addr) (len cap : Nat) (elems rest : List (DataW H)), cs = [.slice (some a) len cap] ∧ d = .slice elems rest ∧ len ≤ cap ∧ cap ≤ maxLen ∧ elems.length = len ∧
        ∀ i y, elems[i]? = some y → ∃ cs' : List Value, cs'.length = P.cellsOf e ∧ (∀ j u, cs'[j]? = some u → w.cell? (a.add (i * P.cellsOf e + j)) = some u) ∧ Lies P w n e cs' y
    | some (.struct fs) => cs.length = P.cellsOf t ∧ ∃ ds : List (DataW H), d = .agg ds ∧ ds.length = fs.size ∧ ∀ (i : Nat) (f : Field) (y : DataW H), fs[i]? = some f → ds[i]? = some y → Lies P w n f.type ((cs.drop f.offset).take (P.cellsOf f.type)) y
    | _ => True
theorem lies_of_trod {H : Type} {enc : TypeId × Value → H} {P : Program} {w : World} {base : Nat} {spare : Nat → Bool} {held : Bool} : ∀ (n m : Nat) (t : TypeId) (cs : List Value) (x : DataW H × List MemPlace),
    DataW.trod enc P w base spare held m t cs = some x → Lies P w n t cs x.1
  | 0, _, _, _, _, _ => trivial
  | n + 1, m, t, cs, x, h => by
    unfold Lies
    split
    · rename_i k hu
      obtain ⟨y, rfl, hx, hw⟩ := DataW.trod_int hu h
      exact ⟨y, rfl, by rw [hx], hw⟩
    · rename_i hu
      obtain ⟨b, rfl, hx⟩ := DataW.trod_bool hu h
      exact ⟨b, rfl, by rw [hx]⟩
    · rename_i hu
      obtain ⟨s, rfl, hx, hs⟩ := DataW.trod_string hu h
      exact ⟨s, rfl, by rw [hx], hs⟩
    · rename_i e hu
      rcases DataW.trod_slice hu h with ⟨h1, h2⟩ | ⟨a, len, cap, elems, rest, n', _, rfl, hx, _, hl, hm, hlen, hel, _, _⟩
      · exact .inl ⟨h1, by rw [h2]⟩
      · refine .inr ⟨a, len, cap, _, _, rfl, by rw [hx], hl, hm, by simpa using hlen, fun i y hy => ?_⟩
        rw [List.getElem?_map] at hy
        have hlt : i < len := by
          cases he : elems[i]? with
          | none => rw [he] at hy; cases hy
          | some z => have := (List.getElem?_eq_some_iff.1 he).1; omega
        have hi := hel i hlt
        cases he : elems[i]? with
        | none => rw [he] at hy; cases hy
        | some z =>
          rw [he] at hy hi
          simp at hy
          subst hy
          obtain ⟨cs', h1, h2⟩ := Option.bind_eq_some_iff.1 hi
          obtain ⟨_, hcl, hcell⟩ := World.cells?_some h1
          refine ⟨cs', hcl, fun j u hj => ?_, lies_of_trod n n' e cs' z h2⟩
          have hjl : j < P.cellsOf e := by rw [← hcl]; exact (List.getElem?_eq_some_iff.1 hj).1
          have := hcell j hjl
          rw [add_add] at this
          rw [this, hj]
    · rename_i fs hu
      obtain ⟨xs, n', _, hx, hcl, hxl, hf⟩ := DataW.trod_struct hu h
      refine ⟨hcl, xs.map (·.1), by rw [hx], by simpa using hxl, fun i f y hfi hy => ?_⟩
      rw [List.getElem?_map] at hy
      have hi := hf i f hfi
      cases he : xs[i]? with
      | none => rw [he] at hy; cases hy
      | some z =>
        rw [he] at hy hi
        simp at hy
        subst hy
        exact lies_of_trod n n' _ _ z hi
    · trivial
theorem list_of {α β : Type} {R : Nat → α → β → Prop} : ∀ (l : List α) (k : Nat), (∀ i y, l[i]? = some y → ∃ z, R (k + i) y z) → ∃ zs : List β, zs.length = l.length ∧ ∀ i y z, l[i]? = some y → zs[i]? = some z → R (k + i) y z
  | [], k, _ => ⟨[], rfl, by simp⟩
  | a :: l, k, h => by
    obtain ⟨z, hz⟩ := h 0 a rfl
    obtain ⟨zs, hl, hr⟩ := list_of l (k + 1) (fun i y hy => by
      have := h (i + 1) y (by simpa using hy)
      rwa [show k + (i + 1) = k + 1 + i by omega] at this)
    refine ⟨z :: zs, by simp [hl], fun i y z' hy hz' => ?_⟩
    cases i with
    | zero => simp at hy hz'; subst hy; subst hz'; exact hz
    | succ i =>
      have := hr i y z' (by simpa using hy) (by simpa using hz')
      rwa [show k + 1 + i = k + (i + 1) by omega] at this
section
variable {H : Type} {P : Program} {w : World} {n : Nat} {t : TypeId} {cs : List Value} {d : DataW H}
theorem lies_int {k : IntKind} (hu : P.underlying t = some (.int k)) (h : Lies P w (n + 1) t cs d) : ∃ x, cs = [.int k x] ∧ d = .lit (.int k x) ∧ (Lit.int k x).wf = true := by
  unfold Lies at h; rw [hu] at h; exact h
theorem lies_bool (hu : P.underlying t = some .bool) (h : Lies P w (n + 1) t cs d) : ∃ b, cs = [.bool b] ∧ d = .lit (.bool b) := by
  unfold Lies at h; rw [hu] at h; exact h
theorem lies_slice {e : TypeId} (hu : P.underlying t = some (.slice e)) (h : Lies P w (n + 1) t cs d) : (cs = [.slice none 0 0] ∧ d = .nil) ∨ ∃ (a : Addr) (len cap : Nat) (elems rest : List (DataW H)), cs = [.slice (some a) len cap] ∧ d = .slice elems rest ∧ len ≤ cap ∧ cap ≤ maxLen ∧ elems.length = len ∧
        ∀ i y, elems[i]? = some y → ∃ cs' : List Value, cs'.length = P.cellsOf e ∧ (∀ j u, cs'[j]? = some u → w.cell? (a.add (i * P.cellsOf e + j)) = some u) ∧ Lies P w n e cs' y := by
  unfold Lies at h; rw [hu] at h; exact h
theorem lies_struct {fs : Array Field} (hu : P.underlying t = some (.struct fs)) (h : Lies P w (n + 1) t cs d) : cs.length = P.cellsOf t ∧ ∃ ds : List (DataW H), d = .agg ds ∧ ds.length = fs.size ∧
    ∀ (i : Nat) (f : Field) (y : DataW H), fs[i]? = some f → ds[i]? = some y → Lies P w n f.type ((cs.drop f.offset).take (P.cellsOf f.type)) y := by
  unfold Lies at h; rw [hu] at h; exact h
end
end Go.Proofs.YtnjmkhhaodgpbaaGreatX
namespace Go.Proofs.YtnjmkhhaodgpbaaGreatX
section
variable {H : Type} {P : Program} {ts : List TypeId} {ds : List (DataW H)} {t e : TypeId} {d : DataW H}
def SizedD (P : Program) (t : TypeId) (d : DataW H) : Prop := (d.weights P t).all (· ≤ reachBytes) = true
theorem sized_at : ∀ {ts : List TypeId} {ds : List (DataW H)} {j : Nat}, (DataW.weightsEach P ts ds).all (· ≤ reachBytes) = true → ts[j]? = some t → ds[j]? = some d → SizedD P t d
  | [], _, j, h, ht, _ => by simp at ht
  | _ :: _, [], j, h, _, hd => by simp at hd
  | t' :: ts, d' :: ds, j, h, ht, hd => by
    rw [DataW.weightsEach, List.all_append, Bool.and_eq_true] at h
    cases j with
    | zero => simp at ht hd; subst ht; subst hd; exact h.1
    | succ j => exact sized_at h.2 (by simpa using ht) (by simpa using hd)
theorem sized_field {fs : Array Field} {parts : List (DataW H)} {i : Nat} {f : Field} {y : DataW H} (hu : P.underlying t = some (.struct fs)) (h : SizedD P t (.agg parts)) (hf : fs[i]? = some f) (hy : parts[i]? = some y) : SizedD P f.type y := by
  unfold SizedD at h
  simp only [DataW.weights, hu] at h
  exact sized_at (j := i) h (by simp [hf]) hy
theorem sized_len {elems spare : List (DataW H)} (hu : P.underlying t = some (.slice e)) (h : SizedD P t (.slice elems spare)) : (elems.length + spare.length) * P.bytesOf e ≤ 140737488351232 := by
  unfold SizedD at h
  simp only [DataW.weights, hu, List.all_cons, Bool.and_eq_true, decide_eq_true_eq] at h
  exact h.1
theorem sized_all {y : DataW H} : ∀ {elems : List (DataW H)}, (DataW.weightsAll P e elems).all (· ≤ reachBytes) = true → y ∈ elems → SizedD P e y
  | [], _, hm => by cases hm
  | a :: l, h, hm => by
    rw [DataW.weightsAll, List.all_append, Bool.and_eq_true] at h
    rcases List.mem_cons.1 hm with rfl | hm
    · exact h.1
    · exact sized_all h.2 hm
theorem sized_elem {elems spare : List (DataW H)} {y : DataW H} (hu : P.underlying t = some (.slice e)) (h : SizedD P t (.slice elems spare)) (hm : y ∈ elems) : SizedD P e y := by
  unfold SizedD at h
  simp only [DataW.weights, hu, List.all_cons, List.all_append, Bool.and_eq_true] at h
  exact sized_all h.2.1 hm
end
end Go.Proofs.YtnjmkhhaodgpbaaGreatX
namespace Go.Proofs.YtnjmkhhaodgpbaaGreatX
open Go.RowKit
theorem putAll_blk {e : TypeId} {g : Nat} : ∀ (vs old pre post : List Value) (w : World), Blk w g (pre ++ old ++ post) e → old.length = vs.length → Blk (putAll w (at0 g 0) pre.length vs) g (pre ++ vs ++ post) e ∧ Fr [g] w (putAll w (at0 g 0) pre.length vs)
  | [], old, pre, post, w, h, hl => by
    have : old = [] := List.eq_nil_of_length_eq_zero (by simpa using hl)
    subst this
    exact ⟨h, Fr.refl w⟩
  | v :: vs, [], pre, post, w, h, hl => by simp at hl
  | v :: vs, u :: old, pre, post, w, h, hl => by
    simp only [putAll, add_at, Nat.zero_add]
    have h1 := h.set pre.length v
    rw [List.append_assoc, List.set_append_right _ _ (Nat.le_refl _), Nat.sub_self, List.cons_append, List.set_cons_zero] at h1
    have e1 : pre ++ v :: (old ++ post) = (pre ++ [v]) ++ old ++ post := by simp
    rw [e1] at h1
    obtain ⟨k1, k2⟩ := putAll_blk vs old (pre ++ [v]) post _ h1 (by simpa using hl)
    rw [List.length_append] at k1 k2
    refine ⟨by simpa using k1, ?_⟩
    exact (Fr.setCell (by simp [at0]) v).tr k2
theorem putAll_off {w : World} {g o : Nat} : ∀ (vs : List Value) (i : Nat) (w : World), putAll w (at0 g o) i vs = putAll w (at0 g 0) (o + i) vs
  | [], i, w => rfl
  | v :: vs, i, w => by
    simp only [putAll, add_at, Nat.zero_add]
    rw [putAll_off (w := w) vs (i + 1), Nat.add_assoc]
theorem stAll_blk {e : TypeId} {g o : Nat} {cs vs : List Value} {w : World} {K : World → Prop} (h : Blk w g cs e) (hl : o + vs.length ≤ cs.length)
    (hK : ∀ w', Blk w' g (cs.take o ++ vs ++ cs.drop (o + vs.length)) e → Fr [g] w w' → K w') : stAll w (at0 g o) vs K := by
  have e1 : cs = cs.take o ++ (cs.drop o).take vs.length ++ cs.drop (o + vs.length) := by
    rw [List.append_assoc, ← List.drop_drop, List.take_append_drop, List.take_append_drop]
  have ho : (cs.take o).length = o := by simp; omega
  refine ⟨fun i hi => ?_, ?_⟩
  · rw [add_at]; exact h.storeOk (by omega)
  · rw [putAll_off (w := w)]
    have h2 := h
    rw [e1] at h2
    obtain ⟨k1, k2⟩ := putAll_blk vs ((cs.drop o).take vs.length) (cs.take o) (cs.drop (o + vs.length)) w h2 (by simp; omega)
    rw [ho] at k1 k2
    exact hK _ k1 k2
end Go.Proofs.YtnjmkhhaodgpbaaGreatX
namespace Go.Proofs.YtnjmkhhaodgpbaaGreatX
open Go.RowKit
section
variable {P : Program} {w : World} {g o m mc dl dc sz bytes : Nat} {cur cs : List Value} {e el dT sT ty : TypeId} {K : QT}
theorem copy_blk {a : Addr} (hT : RowT P dT el sz bytes) (hb : Blk w g cur e) (hc : Cells w (some a) cs) (hn : cs.length = Nat.min m dl * sz) (hfit : o + cs.length ≤ cur.length) (h1 : ∀ v ∈ cs, v.oneCell' = true)
    (hK : ∀ w', Blk w' g (cur.take o ++ cs ++ cur.drop (o + cs.length)) e → Fr [g] w w' → K (.int .i64 ((Nat.min m dl : Nat) : Int)) w') : RunR P (Builtin.copy_ #[dT, sT] ty #[.slice (some (at0 g o)) dl dc, .slice (some a) m mc]) w K := by
  obtain ⟨i, z, hi, hz, hsz, hby, hzs⟩ := hT.info
  have hu := hT.under
  have hsrc : ∀ j v, cs[j]? = some v → w.cell? (a.add j) = some v := fun j v hj => by
    obtain ⟨q, hq, hv⟩ := hc j v hj
    injection hq with hq
    subst hq
    exact hv
  have hf := run_firstCells_some (P := P) w i.size (Nat.min m dl) a m mc cs (by rw [hsz]; exact hn) hsrc
  have hst := run_storeCells_at P g o e cs 0 cur.toArray w hb (by simpa using hfit) h1
  have hr : (Builtin.copy_ #[dT, sT] ty #[.slice (some (at0 g o)) dl dc, .slice (some a) m mc]).run P w = .ok (goInt (Nat.min m dl)) (w.setRow g (cur.take o ++ cs ++ cur.drop (o + cs.length)).toArray) := by
    simp only [Nat.add_zero] at hst
    have hst' : (storeCells (at0 g o) cs).run P w = _ := hst
    simp [Builtin.copy_, run_underlying hu, Builtin.lenOf, sizeOf, typeInfo, hi, hf, hst']
  refine ⟨_, _, hr, hK _ ?_ ⟨rfl, rfl, rfl, by simp, fun k _ hk => setRow_other w g k _ (fun e => hk (by simp [e]))⟩⟩
  have := setRow_heap w g cur.toArray (cur.take o ++ cs ++ cur.drop (o + cs.length)).toArray e (0, 0) hb
  exact this
def zs (z : Value) (n : Nat) : List Value := (Builtin.zeroCells z.cells n).toList
theorem zs_length (z : Value) (n : Nat) : (zs z n).length = n * z.cells.size := by unfold zs; rw [Array.length_toList, size_zeroCells]
theorem clear_blk {n : Nat} {z : Value} (hT : RowT P dT el sz bytes) (hz : (P.info? el).bind (·.zero) = some z) (hz1 : ∀ v ∈ zs z n, v.oneCell' = true) (hb : Blk w g cur e) (h0 : 0 < n) (hfit : o + n * sz ≤ cur.length)
    (hK : ∀ w', Blk w' g (cur.take o ++ zs z n ++ cur.drop (o + n * sz)) e → Fr [g] w w' → K (.tuple #[]) w') : RunR P (Builtin.clear_ #[dT] ty #[.slice (some (at0 g o)) n dc]) w K := by
  obtain ⟨i, z', hi, hz', hsz, hby, hzs⟩ := hT.info
  have hu := hT.under
  have : z' = z := by rw [hi] at hz; simp [hz'] at hz; exact hz
  subst this
  have hlen : (zs z' n).length = n * sz := by rw [zs_length, hzs]
  have hst := run_storeCells_at P g o e (zs z' n) 0 cur.toArray w hb (by simpa [hlen] using hfit) hz1
  simp only [Nat.add_zero, hlen] at hst
  have hst' : (storeCells (at0 g o) (Builtin.zeroCells z'.cells n).toList).run P w = _ := hst
  obtain ⟨k, rfl⟩ : ∃ k, n = k + 1 := ⟨n - 1, by omega⟩
  have hr : (Builtin.clear_ #[dT] ty #[.slice (some (at0 g o)) (k + 1) dc]).run P w = .ok (.tuple #[]) (w.setRow g (cur.take o ++ zs z' (k + 1) ++ cur.drop (o + (k + 1) * sz)).toArray) := by
    simp [Builtin.clear_, run_underlying hu, zeroValue, typeInfo, hi, hz', hst']
  refine ⟨_, _, hr, hK _ ?_ ⟨rfl, rfl, rfl, by simp, fun j _ hj => setRow_other w g j _ (fun e => hj (by simp [e]))⟩⟩
  exact setRow_heap w g cur.toArray (cur.take o ++ zs z' (k + 1) ++ cur.drop (o + (k + 1) * sz)).toArray e (0, 0) hb
theorem cut_at {s c l g : Nat} (h : c ≠ l) : cutAt s c l (some (at0 g 0)) = some (at0 g (l * s)) := by
  unfold cutAt
  rw [if_neg h]
  simp [add_at]
theorem toNat0 : Int.toNat ((0 : Nat) : Int) = 0 := rfl
theorem cutAt_zero' (s c : Nat) (a : Option Addr) : cutAt s c 0 a = a := by
  unfold cutAt
  split
  · rfl
  · cases a <;> simp [Addr.add]
theorem own_blk {n c : Nat} {xs : List Value} (hb : Blk w g cur e) (hl : cur.length = c * sz) (hn : n ≤ c) (hm : c ≤ maxLen) (ht : cur.take (n * sz) = xs) : Own e sz w (some (at0 g 0)) n c xs :=
  ⟨by rw [← ht, List.length_take, hl]; exact Nat.min_eq_left (Nat.mul_le_mul_right _ hn), .inr ⟨g, c, cur.toArray, rfl, Nat.zero_le _, hb, hn, hm, by simpa using hl, by simpa using ht⟩⟩
theorem own_max {p : Addr} {n c : Nat} {xs : List Value} (ho : Own e sz w (some p) n c xs) : c ≤ maxLen := by
  rcases ho.2 with ⟨hv, _⟩ | ⟨g, cap, cur, hv, _, hg, _, hm, hs, ht⟩
  · injection hv with h1; cases h1
  · injection hv with h1 h2 h3; omega
theorem slice3 {a : Option Addr} {n c l h m : Nat} (hT : RowT P dT el sz bytes) (h1 : l ≤ h) (h2 : h ≤ m) (h3 : m ≤ c)
    (hK : ∀ p, K (.slice p (h - l) (m - l)) w) : RunR P (Instr.sliceAt dT (.slice a n c) (some (.int .i64 (l : Int))) (some (.int .i64 (h : Int))) (some (.int .i64 (m : Int)))) w K := by
  obtain ⟨i, z, hi, _, hs, _⟩ := hT.info
  have x1 : ∀ (x y : Nat) (code : BoundsCode), x ≤ y → ∀ w : World, (Instr.sliceBound (.int .i64 (x : Int)) y code).run P w = .ok x w := fun x y code h w => by
    have : (0 : Int) ≤ (x : Int) ∧ (x : Int) ≤ (y : Int) := ⟨by omega, by omega⟩
    simp [Instr.sliceBound, asIntOf, this]
  refine ⟨_, w, ?_, hK (if m = l then a else a.map (·.add (l * sz)))⟩
  simp [Instr.sliceAt, Instr.slice, Instr.sliceBounds, run_underlying hT.under, x1 _ _ _ h1, x1 _ _ _ h2, x1 _ _ _ h3, sizeOf, typeInfo, hi, hs]
theorem overlaps_apart {a b : Nat} {ca cb : List Value} {o1 o2 la ka lb kb : Nat} {t tR : TypeId} (hT : RowT P t e sz bytes) (ha : Blk w a ca e) (hb : Blk w b cb e) (hne : a ≠ b) (hcb : 0 < cb.length) :
    (Extern.SlicesOverlaps.overlaps #[t, t] #[tR] #[.slice (some (at0 a o1)) la ka, .slice (some (at0 b o2)) lb kb]).run P w = .ok (.bool false) w := by
  have hsa : w.shape? a = some (e, ca.length) := by unfold Blk at ha; simp [World.shape?, ha]
  have hsb : w.shape? b = some (e, cb.length) := by unfold Blk at hb; simp [World.shape?, hb]
  have hfz : ∀ o, w.frozen? (at0 a o) = false := fun o => by unfold Blk at ha; simp [World.frozen?, at0, ha]
  obtain ⟨i, z, hi, _, hs, _⟩ := hT.info
  exact Lib.run_overlaps_apart (P := P) w t tR e hT.under sz (fun w => by simp [Go.sizeOf, typeInfo, hi, hs]) (at0 a o1) (at0 b o2) la ka lb kb hne e e ca.length cb.length hsa hsb (by omega) (hfz o1) (hfz ca.length)
theorem grow_blk {a : Addr} {n c k : Nat} {xs : List Value} {z : Value} (hT : RowT P dT el sz bytes) (hz : (P.info? el).bind (·.zero) = some z) (htn : P.underlying sT = some (.int .i64)) (hx : xs.length = n * sz) (hc : ∀ j u, xs[j]? = some u → w.cell? (a.add j) = some u)
    (h0 : 0 < k) (hg : c < n + k) (hm : n + k ≤ 1048576) (hby : bytes ≤ 4096)
    (hK : ∀ C w', n + k ≤ C → C ≤ maxLen → Blk w' w.heap.size (xs ++ zs z k ++ zs z (C - (n + k))) el → Fr [] w w' → K (.slice (some (at0 w.heap.size 0)) (n + k) C) w') :
    RunR P (Builtin.append_ #[dT, sT] dT #[.slice (some a) n c, .int .i64 (k : Int)]) w K := by
  obtain ⟨i, z', hi, hz', hsz, hbi, hzs⟩ := hT.info
  have : z' = z := by rw [hi] at hz; simp [hz'] at hz; exact hz
  subst this
  have hpos := hT.pos
  have hb1 : (n + k) * i.bytes ≤ 1048576 * 4096 := Nat.mul_le_mul (by omega) (by omega)
  have hb2 : k * i.bytes ≤ 1048576 * 4096 := Nat.mul_le_mul (by omega) (by omega)
  have hr := Lib.run_append_grow_zeros (P := P) (ty := dT) w dT sT el i z' .i64 .i64 hT.under htn hi hz' (some a) n c xs (by rw [hsz]; exact run_firstCells_some (P := P) w.drew sz n a n c xs hx (fun j u hj => hc j u hj)) k h0 (by omega) hg (by omega) (by omega) (growslice_fits hg (by omega))
  have hge := grownCap_ge w (n + k) c el
  have hcm : grownCap w (n + k) c el ≤ maxLen := grownCap_le_maxLen w _ c el (by simp only [maxLen]; omega)
  refine ⟨_, _, hr, hK _ _ hge hcm ?_ (Fr.drew.tr (Fr.alloc _ _))⟩
  have := Blk.made w.drew (xs.toArray ++ Builtin.zeroCells z'.cells k ++ Builtin.zeroCells z'.cells (grownCap w (n + k) c el - (n + k))) el
  simpa [zs] using this
end
end Go.Proofs.YtnjmkhhaodgpbaaGreatX
namespace Go.Proofs.YtnjmkhhaodgpbaaGreatX
set_option linter.unusedSectionVars false
structure Lin {α : Type} (lt : α → α → Bool) : Prop where
  irr : ∀ a, lt a a = false
  tr : ∀ a b c, lt a b = true → lt b c = true → lt a c = true
  tot : ∀ a b, lt a b = false → lt b a = false → a = b
def ilt (a b : Int) : Bool := decide (a < b)
theorem ilt_lin : Lin ilt := ⟨fun a => by simp [ilt], fun a b c h k => by simp [ilt] at *; omega, fun a b h k => by simp [ilt] at *; omega⟩
section
variable {α β γ : Type} {lt : α → α → Bool}
def rank (lt : α → α → Bool) (ks : List α) (k : α) : Nat := (ks.takeWhile fun x => lt x k).length
def Srt (lt : α → α → Bool) (ks : List α) : Prop := ks.Pairwise fun a b => lt a b = true
theorem rank_le (ks : List α) (k : α) : rank lt ks k ≤ ks.length := (List.takeWhile_sublist _).length_le
theorem takeWhile_rank (ks : List α) (k : α) : ks.takeWhile (fun x => lt x k) = ks.take (rank lt ks k) := by
  have h := List.takeWhile_append_dropWhile (p := fun x => lt x k) (l := ks)
  have : ks.take (rank lt ks k) = (ks.takeWhile (fun x => lt x k) ++ ks.dropWhile (fun x => lt x k)).take (rank lt ks k) := by rw [h]
  rw [this]
  unfold rank
  rw [List.take_left]
theorem dropWhile_rank (ks : List α) (k : α) : ks.dropWhile (fun x => lt x k) = ks.drop (rank lt ks k) := by
  have h := List.takeWhile_append_dropWhile (p := fun x => lt x k) (l := ks)
  have : ks.drop (rank lt ks k) = (ks.takeWhile (fun x => lt x k) ++ ks.dropWhile (fun x => lt x k)).drop (rank lt ks k) := by rw [h]
  rw [this]
  unfold rank
  rw [List.drop_left]
theorem rank_lt' {ks : List α} {k a : α} (h : a ∈ ks.take (rank lt ks k)) : lt a k = true := by
  rw [← takeWhile_rank] at h
  have : ∀ (l : List α), a ∈ l.takeWhile (fun x => lt x k) → lt a k = true := by
    intro l
    induction l with
    | nil => intro h; cases h
    | cons x l ih =>
      intro h
      rw [List.takeWhile_cons] at h
      split at h
      · rename_i hx
        rcases List.mem_cons.1 h with rfl | h
        · exact hx
        · exact ih h
      · cases h
  exact this ks h
theorem rank_ge' (hL : Lin lt) {ks : List α} {k a : α} (hs : Srt lt ks) (h : a ∈ ks.drop (rank lt ks k)) : lt a k = false := by
  rw [← dropWhile_rank] at h
  have : ∀ (l : List α), Srt lt l → a ∈ l.dropWhile (fun x => lt x k) → lt a k = false := by
    intro l
    induction l with
    | nil => intro _ h; cases h
    | cons x l ih =>
      intro hs h
      rw [List.dropWhile_cons] at h
      have hs' := List.pairwise_cons.1 hs
      split at h
      · exact ih hs'.2 h
      · rename_i hx
        rcases List.mem_cons.1 h with rfl | h
        · simpa using hx
        · cases he : lt a k with
          | false => rfl
          | true => exact absurd (hL.tr _ _ _ (hs'.1 a h) he) hx
  exact this ks hs h
theorem rank_lt {ks : List α} {k a : α} {i : Nat} (h : i < rank lt ks k) (hi : ks[i]? = some a) : lt a k = true :=
  rank_lt' (List.mem_iff_getElem?.2 ⟨i, by rw [List.getElem?_take, if_pos h]; exact hi⟩)
theorem rank_ge (hL : Lin lt) {ks : List α} {k a : α} {i : Nat} (hs : Srt lt ks) (h : rank lt ks k ≤ i) (hi : ks[i]? = some a) : lt a k = false :=
  rank_ge' hL hs (List.mem_iff_getElem?.2 ⟨i - rank lt ks k, by rw [List.getElem?_drop, show rank lt ks k + (i - rank lt ks k) = i by omega]; exact hi⟩)
abbrev keys (l : List (α × β)) : List α := l.map (·.1)
variable [DecidableEq α]
def at_ (lt : α → α → Bool) (l : List (α × β)) (k : α) : Nat := rank lt (keys l) k
def has (lt : α → α → Bool) (l : List (α × β)) (k : α) : Bool := decide ((keys l)[at_ lt l k]? = some k)
def get (lt : α → α → Bool) (l : List (α × β)) (k : α) : Option β := if has lt l k then (l[at_ lt l k]?).map (·.2) else none
def put (lt : α → α → Bool) (l : List (α × β)) (k : α) (v : β) : List (α × β) := if has lt l k then l.set (at_ lt l k) (k, v) else l.take (at_ lt l k) ++ (k, v) :: l.drop (at_ lt l k)
def drp (lt : α → α → Bool) (l : List (α × β)) (k : α) : List (α × β) := if has lt l k then l.take (at_ lt l k) ++ l.drop (at_ lt l k + 1) else l
def next (lt : α → α → Bool) (l : List (α × β)) (k : α) : Option α := (keys l)[if has lt l k then at_ lt l k + 1 else at_ lt l k]?
def after (lt : α → α → Bool) (l : List (α × β)) (k : α) : Option α := (next lt l k).or (keys l)[0]?
theorem at_le (l : List (α × β)) (k : α) : at_ lt l k ≤ l.length := by
  have := rank_le (lt := lt) (keys l) k
  simpa [at_] using this
theorem at_lt {l : List (α × β)} {k : α} (h : has lt l k = true) : at_ lt l k < l.length := by
  simp only [has, decide_eq_true_eq] at h
  have := (List.getElem?_eq_some_iff.1 h).1
  simpa using this
theorem split_has (hL : Lin lt) {l : List (α × β)} {k : α} (hs : Srt lt (keys l)) (h : has lt l k = true) :
    ∃ A B u, l = A ++ (k, u) :: B ∧ at_ lt l k = A.length ∧ (∀ e ∈ A, lt e.1 k = true) ∧ (∀ e ∈ B, lt k e.1 = true) := by
  have hlt := at_lt h
  simp only [has, decide_eq_true_eq] at h
  refine ⟨l.take (at_ lt l k), l.drop (at_ lt l k + 1), (l[at_ lt l k]).2, ?_, ?_, ?_, ?_⟩
  · have h2 := List.getElem?_eq_getElem hlt
    have h1 : (l[at_ lt l k]).1 = k := by
      rw [List.getElem?_map, h2] at h
      simpa using h
    have : (k, (l[at_ lt l k]).2) = l[at_ lt l k] := Prod.ext h1.symm rfl
    rw [this, List.getElem_cons_drop, List.take_append_drop]
  · simp; omega
  · intro e he
    refine rank_lt' (ks := keys l) ?_
    rw [← List.map_take]
    exact List.mem_map_of_mem he
  · intro e he
    have hp := List.pairwise_iff_getElem.1 hs
    obtain ⟨j, hj⟩ := List.mem_iff_getElem?.1 he
    rw [List.getElem?_drop] at hj
    obtain ⟨hj1, hj2⟩ := List.getElem?_eq_some_iff.1 hj
    obtain ⟨hk1, hk2⟩ := List.getElem?_eq_some_iff.1 h
    have := hp (at_ lt l k) (at_ lt l k + 1 + j) hk1 (by simpa using hj1) (by omega)
    rw [hk2] at this
    simpa [hj2] using this
theorem split_not (hL : Lin lt) {l : List (α × β)} {k : α} (hs : Srt lt (keys l)) (h : has lt l k = false) :
    ∃ A B, l = A ++ B ∧ at_ lt l k = A.length ∧ (∀ e ∈ A, lt e.1 k = true) ∧ (∀ e ∈ B, lt k e.1 = true) := by
  refine ⟨l.take (at_ lt l k), l.drop (at_ lt l k), (List.take_append_drop _ _).symm, ?_, ?_, ?_⟩
  · have := at_le (lt := lt) l k
    simp; omega
  · intro e he
    refine rank_lt' (ks := keys l) ?_
    rw [← List.map_take]
    exact List.mem_map_of_mem he
  · intro e he
    have h1 : lt e.1 k = false := by
      refine rank_ge' hL hs ?_
      rw [← List.map_drop]
      exact List.mem_map_of_mem he
    cases h2 : lt k e.1 with
    | true => rfl
    | false =>
      have heq := hL.tot _ _ h1 h2
      obtain ⟨j, hj⟩ := List.mem_iff_getElem?.1 he
      rw [List.getElem?_drop] at hj
      obtain ⟨hj1, hj2⟩ := List.getElem?_eq_some_iff.1 hj
      simp only [has, decide_eq_false_iff_not] at h
      exfalso
      cases j with
      | zero =>
        apply h
        rw [List.getElem?_map]
        simp only [Nat.add_zero] at hj
        rw [hj]
        simp [heq]
      | succ j =>
        have hp := List.pairwise_iff_getElem.1 hs
        have hlt : at_ lt l k < l.length := by omega
        have h3 := hp (at_ lt l k) (at_ lt l k + (j + 1)) (by simpa using hlt) (by simpa using hj1) (by omega)
        have h4 : (keys l)[at_ lt l k + (j + 1)]'(by simpa using hj1) = k := by simp [hj2, heq]
        rw [h4] at h3
        have h5 := rank_ge hL hs (k := k) (i := at_ lt l k) (Nat.le_refl _) (List.getElem?_eq_getElem (by simpa using hlt))
        rw [h3] at h5
        cases h5
section
variable (hL : Lin lt) {l : List (α × β)} (hs : Srt lt (keys l))
include hL hs
theorem has_iff {k : α} : has lt l k = true ↔ k ∈ keys l := by
  constructor
  · intro h
    simp only [has, decide_eq_true_eq] at h
    exact List.mem_iff_getElem?.2 ⟨_, h⟩
  · intro h
    cases hh : has lt l k with
    | true => rfl
    | false =>
      obtain ⟨A, B, rfl, _, h1, h2⟩ := split_not hL hs hh
      simp only [keys, List.map_append, List.mem_append, List.mem_map] at h
      rcases h with ⟨e, he, rfl⟩ | ⟨e, he, rfl⟩
      · have := h1 e he; rw [hL.irr] at this; cases this
      · have := h2 e he; rw [hL.irr] at this; cases this
theorem mem_uniq {k : α} {u v : β} (h1 : (k, u) ∈ l) (h2 : (k, v) ∈ l) : u = v := by
  have hk : has lt l k = true := (has_iff hL hs).2 (List.mem_map_of_mem h1)
  obtain ⟨A, B, x, rfl, _, a1, a2⟩ := split_has hL hs hk
  have key : ∀ y, (k, y) ∈ A ++ (k, x) :: B → y = x := by
    intro y hy
    rcases List.mem_append.1 hy with hy | hy
    · have := a1 _ hy; rw [hL.irr] at this; cases this
    · rcases List.mem_cons.1 hy with hy | hy
      · injection hy
      · have := a2 _ hy; rw [hL.irr] at this; cases this
  rw [key u h1, key v h2]
theorem get_iff {k : α} {v : β} : get lt l k = some v ↔ (k, v) ∈ l := by
  unfold get
  constructor
  · intro h
    split at h
    · rename_i hh
      obtain ⟨A, B, u, rfl, ha, _, _⟩ := split_has hL hs hh
      rw [ha] at h
      simp at h
      subst h
      simp
    · cases h
  · intro h
    have hk : has lt l k = true := (has_iff hL hs).2 (List.mem_map_of_mem h)
    rw [if_pos hk]
    obtain ⟨A, B, u, e, ha, _, _⟩ := split_has hL hs hk
    have : v = u := mem_uniq hL hs h (by rw [e]; simp)
    subst this
    rw [ha, e]
    simp
theorem put_srt {k : α} {v : β} : Srt lt (keys (put lt l k v)) := by
  unfold put
  cases hh : has lt l k with
  | true =>
    obtain ⟨A, B, u, e, ha, a1, a2⟩ := split_has hL hs hh
    rw [if_pos rfl, ha, e]
    rw [e] at hs
    simpa [keys] using hs
  | false =>
    obtain ⟨A, B, e, ha, a1, a2⟩ := split_not hL hs hh
    rw [if_neg (by simp), ha, e]
    rw [e] at hs
    rw [List.take_left, List.drop_left]
    unfold Srt keys at *
    rw [List.map_append, List.pairwise_append] at hs
    rw [List.map_append, List.map_cons, List.pairwise_append, List.pairwise_cons]
    refine ⟨hs.1, ⟨?_, hs.2.1⟩, ?_⟩
    · intro x hx
      obtain ⟨y, hy, rfl⟩ := List.mem_map.1 hx
      exact a2 y hy
    · intro x hx y hy
      obtain ⟨x', hx', rfl⟩ := List.mem_map.1 hx
      rcases List.mem_cons.1 hy with rfl | hy
      · exact a1 x' hx'
      · exact hs.2.2 _ hx _ hy
theorem mem_put {k : α} {v : β} {e : α × β} : e ∈ put lt l k v ↔ e = (k, v) ∨ (e.1 ≠ k ∧ e ∈ l) := by
  unfold put
  cases hh : has lt l k with
  | true =>
    obtain ⟨A, B, u, rfl, ha, a1, a2⟩ := split_has hL hs hh
    rw [if_pos rfl, ha]
    have : (A ++ (k, u) :: B).set A.length (k, v) = A ++ (k, v) :: B := by simp
    rw [this]
    simp only [List.mem_append, List.mem_cons]
    constructor
    · rintro (h | rfl | h)
      · exact .inr ⟨fun he => absurd (a1 e h) (by rw [he, hL.irr]; simp), .inl h⟩
      · exact .inl rfl
      · exact .inr ⟨fun he => absurd (a2 e h) (by rw [he, hL.irr]; simp), .inr (.inr h)⟩
    · rintro (rfl | ⟨h, h' | rfl | h'⟩)
      · exact .inr (.inl rfl)
      · exact .inl h'
      · exact absurd rfl h
      · exact .inr (.inr h')
  | false =>
    obtain ⟨A, B, rfl, ha, a1, a2⟩ := split_not hL hs hh
    rw [if_neg (by simp), ha, List.take_left, List.drop_left]
    simp only [List.mem_append, List.mem_cons]
    constructor
    · rintro (h | rfl | h)
      · exact .inr ⟨fun he => absurd (a1 e h) (by rw [he, hL.irr]; simp), .inl h⟩
      · exact .inl rfl
      · exact .inr ⟨fun he => absurd (a2 e h) (by rw [he, hL.irr]; simp), .inr h⟩
    · rintro (rfl | ⟨_, h | h⟩)
      · exact .inr (.inl rfl)
      · exact .inl h
      · exact .inr (.inr h)
theorem drp_srt {k : α} : Srt lt (keys (drp lt l k)) := by
  unfold drp
  split
  · have : (l.take (at_ lt l k) ++ l.drop (at_ lt l k + 1)).Sublist l := by
      have h1 : (l.drop (at_ lt l k + 1)).Sublist (l.drop (at_ lt l k)) := by
        rw [← List.drop_drop]; exact List.drop_sublist _ _
      have := (List.Sublist.refl (l.take (at_ lt l k))).append h1
      rwa [List.take_append_drop] at this
    exact List.Pairwise.sublist (this.map _) hs
  · exact hs
theorem mem_drp {k : α} {e : α × β} : e ∈ drp lt l k ↔ e.1 ≠ k ∧ e ∈ l := by
  unfold drp
  cases hh : has lt l k with
  | true =>
    obtain ⟨A, B, u, rfl, ha, a1, a2⟩ := split_has hL hs hh
    rw [if_pos rfl, ha]
    have : (A ++ (k, u) :: B).take A.length ++ (A ++ (k, u) :: B).drop (A.length + 1) = A ++ B := by simp
    rw [this]
    simp only [List.mem_append, List.mem_cons]
    constructor
    · rintro (h | h)
      · exact ⟨fun he => absurd (a1 e h) (by rw [he, hL.irr]; simp), .inl h⟩
      · exact ⟨fun he => absurd (a2 e h) (by rw [he, hL.irr]; simp), .inr (.inr h)⟩
    · rintro ⟨h, h' | rfl | h'⟩
      · exact .inl h'
      · exact absurd rfl h
      · exact .inr h'
  | false =>
    rw [if_neg (by simp)]
    refine ⟨fun h => ⟨fun he => ?_, h⟩, fun h => h.2⟩
    have := (has_iff hL hs (k := k)).2 (by rw [← he]; exact List.mem_map_of_mem h)
    rw [this] at hh; cases hh
end
theorem put_length {l : List (α × β)} {k : α} {v : β} : (put lt l k v).length = if has lt l k then l.length else l.length + 1 := by
  have := at_le (lt := lt) l k
  unfold put
  split <;> simp
  omega
theorem drp_length {l : List (α × β)} {k : α} : (drp lt l k).length = if has lt l k then l.length - 1 else l.length := by
  unfold drp
  split
  · rename_i h
    have := at_lt h
    simp
    omega
  · rfl
end
section
variable {β : Type} {f : β → List Value} {Z : Nat} (hf : ∀ v, (f v).length = Z)
include hf
theorem flat_length (l : List β) : (l.flatMap f).length = l.length * Z := by
  induction l with
  | nil => simp
  | cons x l ih => rw [List.flatMap_cons, List.length_append, ih, hf, List.length_cons, Nat.succ_mul]; omega
theorem flat_take (l : List β) (i : Nat) : (l.flatMap f).take (i * Z) = (l.take i).flatMap f := by
  induction l generalizing i with
  | nil => simp
  | cons x l ih =>
    cases i with
    | zero => simp
    | succ i =>
      rw [List.flatMap_cons, List.take_succ_cons, List.flatMap_cons, ← ih, Nat.succ_mul, Nat.add_comm (i * Z) Z, ← hf x, List.take_length_add_append]
theorem flat_drop (l : List β) (i : Nat) : (l.flatMap f).drop (i * Z) = (l.drop i).flatMap f := by
  induction l generalizing i with
  | nil => simp
  | cons x l ih =>
    cases i with
    | zero => simp
    | succ i =>
      rw [List.flatMap_cons, List.drop_succ_cons, ← ih, Nat.succ_mul, Nat.add_comm (i * Z) Z, ← hf x, List.drop_length_add_append]
theorem flat_get (l : List β) {i j : Nat} {v : β} {u : Value} (hi : l[i]? = some v) (hj : (f v)[j]? = some u) : (l.flatMap f)[i * Z + j]? = some u := by
  have h1 := flat_drop hf l i
  obtain ⟨hl, hv⟩ := List.getElem?_eq_some_iff.1 hi
  rw [← List.getElem?_drop, h1, ← List.getElem_cons_drop hl, hv, List.flatMap_cons]
  rw [List.getElem?_append_left (List.getElem?_eq_some_iff.1 hj).1]
  exact hj
theorem flat_ins (l : List β) (i : Nat) (v : β) : (l.take i ++ v :: l.drop i).flatMap f = (l.flatMap f).take (i * Z) ++ f v ++ (l.flatMap f).drop (i * Z) := by
  rw [flat_take hf, flat_drop hf]; simp
theorem flat_del (l : List β) (i : Nat) : (l.take i ++ l.drop (i + 1)).flatMap f = (l.flatMap f).take (i * Z) ++ (l.flatMap f).drop ((i + 1) * Z) := by
  rw [flat_take hf, flat_drop hf]; simp
end
theorem ld_str {w : World} {p : Addr} {x : ByteArray} {K : ByteArray → Prop} (h : w.cell? p = some (.string x)) (hk : K x) : ldS w p K := ⟨x, h, hk⟩
end Go.Proofs.YtnjmkhhaodgpbaaGreatX
namespace Go.Proofs.YtnjmkhhaodgpbaaGreatX
open Go.RowKit
def At (w : World) (p : Addr) (cs : List Value) : Prop := ∀ j u, cs[j]? = some u → w.cell? (p.add j) = some u
section
variable {w w' a b c : World} {g o i : Nat} {cs vs : List Value} {e : TypeId} {S T : List Nat}
theorem Blk.cat (h : Blk w g cs e) : At w (at0 g 0) cs := fun j u hj => by rw [add_at, Nat.zero_add]; exact h.cell hj
theorem At.keep {p : Addr} (h : At w p cs) (f : Fr S w w') (hn : p.block ∉ S) : At w' p cs := fun j u hj => f.cell (h j u hj) (by rw [add_block]; exact hn)
theorem At.keep' {p : Addr} (h : At w p cs) (f : Fr [] w w') : At w' p cs := h.keep f (by simp)
theorem Fr.loc (h : Fr S a b) (k : Fr [g] b c) (hg : a.heap.size ≤ g) : Fr S a c := h.trans k (fun x hx => .inr (by simp at hx; omega))
theorem Fr.inl (h : Fr S a b) (k : Fr [g] b c) (hg : g ∈ S) : Fr S a c := h.trans k (fun x hx => .inl (by simp at hx; subst hx; exact hg))
theorem Fr.sub (h : Fr S a b) (k : Fr T b c) (hT : ∀ x ∈ T, x ∈ S) : Fr S a c := h.trans k (fun x hx => .inl (hT x hx))
theorem newB {cs : Array Value} {K : Addr → World → Prop} (h : ∀ g w', Blk w' g cs.toList e → Fr [] w w' → w.heap.size ≤ g → K (at0 g 0) w') : newK w cs e K :=
  h w.heap.size _ (Blk.made w cs e) (Fr.alloc _ _) (Nat.le_refl _)
theorem stB {v : Value} {K : World → Prop} (h : Blk w g cs e) (hi : i < cs.length) (hK : ∀ w', Blk w' g (cs.set i v) e → Fr [g] w w' → K w') : stK w ((at0 g 0).add i) v K := by
  rw [add_at, Nat.zero_add]
  exact ⟨h.storeOk hi, hK _ (h.set i v) (Fr.setCell (by simp [at0]) v)⟩
theorem stAllB {K : World → Prop} (h : Blk w g cs e) (hl : vs.length = cs.length) (hK : ∀ w', Blk w' g vs e → Fr [g] w w' → K w') : stAll w (at0 g 0) vs K :=
  stAll_blk (o := 0) h (by omega) fun w' b f => hK w' (by rw [hl] at b; simpa using b) f
theorem drawn {K : World → Prop} (h : ∀ w', Fr [] w w' → w'.heap.size = w.heap.size → K w') : drewK w K := h _ Fr.drew rfl
end
section
variable {β : Type} {f : β → List Value} {Z : Nat} (hf : ∀ v, (f v).length = Z)
include hf
theorem flat_set (l : List β) {i : Nat} (hi : i < l.length) (v : β) : (l.set i v).flatMap f = (l.flatMap f).take (i * Z) ++ f v ++ (l.flatMap f).drop ((i + 1) * Z) := by
  rw [flat_take hf, flat_drop hf, List.set_eq_take_append_cons_drop, if_pos hi]
  simp
theorem own_at {e : TypeId} {w : World} {p : Option Addr} {n c : Nat} {l : List β} (h : Own e Z w p n c (l.flatMap f)) (hn : l.length = n) {i : Nat} {v : β} (hi : l[i]? = some v) : ∃ a, p = some a ∧ At w (a.add (i * Z)) (f v) := by
  have hl := (List.getElem?_eq_some_iff.1 hi).1
  cases p with
  | none => have := h.none_c.1; omega
  | some a =>
    refine ⟨a, rfl, fun j u hj => ?_⟩
    obtain ⟨q, hq, hc⟩ := h.cells _ _ (flat_get hf l hi hj)
    injection hq with hq
    subst hq
    rw [add_add]
    exact hc
omit hf in
theorem put_mid {cur fv : List Value} {a N z : Nat} (h1 : fv.length = z) (h2 : a + z ≤ N) (h3 : N ≤ cur.length) :
    (cur.take a ++ fv ++ cur.drop (a + z)).take N = (cur.take N).take a ++ fv ++ (cur.take N).drop (a + z) := by
  have hA : (cur.take a ++ fv).length = a + z := by rw [List.length_append, List.length_take]; omega
  rw [List.take_append, List.take_of_length_le (by omega), hA, List.take_take, Nat.min_eq_left (by omega), List.drop_take]
theorem own_put {e : TypeId} {w : World} {p : Option Addr} {n c : Nat} {l : List β} {K : World → Prop} (h : Own e Z w p n c (l.flatMap f)) {i : Nat} (hi : i < l.length) (hn : l.length = n) (v : β)
    (hK : ∀ w', Own e Z w' p n c ((l.set i v).flatMap f) → Fr (fbl p) w w' → K w') : optP p fun a => stAll w (a.add (i * Z)) (f v) K := by
  cases p with
  | none => have := h.none_c.1; omega
  | some a =>
    have hm := own_max h
    have hle := h.le
    obtain ⟨g, cur, rfl, hb, hcl, htk⟩ := Own.blk h
    refine opt_some rfl ?_
    rw [add_at, Nat.zero_add]
    have hiz : i * Z + Z ≤ n * Z := by rw [← Nat.succ_mul]; exact Nat.mul_le_mul_right _ (by omega)
    have hnz : n * Z ≤ c * Z := Nat.mul_le_mul_right _ hle
    have hfv := hf v
    refine stAll_blk hb (by omega) fun w' b fr => hK w' (own_blk b ?_ hle hm ?_) (fr.mono fun x hx => by simpa [fbl, at0] using hx)
    · simp only [List.length_append, List.length_take, List.length_drop]; omega
    · rw [flat_set hf l hi, hfv]
      have e1 : (i + 1) * Z = i * Z + Z := Nat.succ_mul i Z
      rw [e1, ← htk]
      exact put_mid hfv (by omega) (by omega)
end
end Go.Proofs.YtnjmkhhaodgpbaaGreatX
