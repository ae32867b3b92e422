/- A region that draws its order: what is told of it, and that the machine comes to it whatever is drawn. -/
import Derived.Test.YtnjmkhhaodgpbaaXDraw
namespace Go.Proofs.YtnjmkhhaodgpbaaX
open Go.RowKit
set_option linter.unusedVariables false
set_option linter.unusedSimpArgs false

def okDst (n : Nat) (o : Oper) : Bool := match o.dst with
  | none => true
  | some d => Nat.blt d n
theorem okDst_lt {n : Nat} {o : Oper} (h : okDst n o = true) : ∀ i, o.dst = some i → i < n := by
  intro i hi
  unfold okDst at h
  rw [hi] at h
  exact Nat.le_of_ble_eq_true h
theorem okDst_lt' {n : Nat} {ops : Array Oper} (hd : ops.toList.all (okDst n) = true) {i : Nat} {o : Oper} (ho : ops.toList[i]? = some o) : ∀ j, o.dst = some j → j < n :=
  okDst_lt (List.all_eq_true.1 hd o (List.mem_of_getElem? ho))
/-- What hangs on no memory. -/
def pureW (P : Program) (o : Oper) (ρ : Env) (K : Value → Prop) : Prop := match o.op with
  | .move x => om (ρ.ev x) K
  | .assign x => om (ρ.ev x) K
  | .pick c a b => om (ρ.ev c) fun v => match v with
    | .bool t => bcase t (om (ρ.ev a) K) (om (ρ.ev b) K)
    | _ => False
  | .build t ps => om (evps ρ ps.toList) fun vs => buildW P t vs K
  | .nilCheck x => om (ρ.ev x) fun v => match v with
    | .pointer a => optP a fun p => K (.pointer (some p))
    | .func (.func f) a b => K (.func (.func f) a b)
    | _ => False
  | .binOp op t x y _ => om (ρ.ev x) fun a => om (ρ.ev y) fun b => binW P op t a b K
  | .unOp op _ x => om (ρ.ev x) fun a => unW op a K
  | .makeFunc fn first cap => om (evs ρ first.toList) fun fs => om (evs ρ cap.toList) fun cs => K (.func fn ⟨fs⟩ ⟨cs⟩)
  | .slice t x lo hi none => om (ρ.ev x) fun v => evo ρ lo fun l => evo ρ hi fun h => sliceW P t v l h K
  | .fieldAddr s x i => om (ρ.ev x) fun v => fieldW P s v i K
  | .indexAddr t x i => om (ρ.ev x) fun v => om (ρ.ev i) fun j => indexW P t v j K
  | .index t x i => om (ρ.ev x) fun v => om (ρ.ev i) fun j => idxW P t v j K
  | .extract x i => om (ρ.ev x) fun v => match v with
    | .tuple vs => om vs.toList[i]? K
    | _ => False
  | .convert s d x => om (ρ.ev x) fun v => om (P.underlying s) fun sd => om (P.underlying d) fun dd => match sd, dd, v with
    | .int _, .int k, .int _ n => K (.int k (k.wrap n))
    | .string, .string, .string b => K (.string b)
    | _, _, _ => False
  | .call c => match c.callee with
    | .builtin .len => om (evs ρ c.args.toList) fun args => om c.argTypes.toList[0]? fun t0 => om (P.underlying t0) fun d => match d, args with
      | .slice _, [.slice _ n _] => K (.int .i64 (n : Int))
      | .string, [.string s] => K (.int .i64 (s.size : Int))
      | _, _ => False
    | .builtin .cap => om (evs ρ c.args.toList) fun args => om c.argTypes.toList[0]? fun t0 => om (P.underlying t0) fun d => match d, args with
      | .slice _, [.slice _ _ c] => K (.int .i64 (c : Int))
      | _, _ => False
    | .builtin .max => om (evs ρ c.args.toList) fun args => match args with
      | [.int k a, .int _ b] => K (.int k (max2 a b))
      | _ => False
    | .builtin .min => om (evs ρ c.args.toList) fun args => match args with
      | [.int k a, .int _ b] => K (.int k (min2 a b))
      | _ => False
    | _ => False
  | _ => False
/-- A map's length, as it is read. -/
def LenM (P : Program) (ts : Array TypeId) (t : TypeId) (m : Value) (w : World) (x : Int) : Prop := (Builtin.len_ ts t #[m]).run P w = .ok (.int .i64 x) w
/-- The value, and what must hold of a world for the operation to yield it there. -/
def rdW (P : Program) (o : Oper) (ρ : Env) (w : World) (K : Value → Option (World → Prop) → Prop) : Prop := match o.op with
  | .load t a => om (ρ.ev a) fun x => match x with
    | .pointer q => optP q fun p => om (isAggT P t) fun ag => match ag, cellPats P 9 t with
      | true, ps => om (sizeT P t) fun n => bif Nat.beq ps.length n then gotAll ps 0 (fun i u => w.cell? (p.add i) = some u) fun us => K (.agg ⟨us⟩) (some fun w' => ∀ j u, us[j]? = some u → w'.cell? (p.add j) = some u) else False
      | false, q :: _ => q.got (fun u => w.cell? p = some u) fun u => K u (some fun w' => w'.cell? p = some u)
      | false, [] => False
    | _ => False
  | .convert s d x => om (ρ.ev x) fun v => match v with
    | .slice a n c => om (P.underlying s) fun sd => om (P.underlying d) fun dd => match sd, dd with
      | .slice e, .string => om (P.underlying e) fun ed => match ed with
        | .int .u8 => ∃ xs : List Int, BytesAt w a n xs ∧ K (.string (strOfNums xs)) (some fun w' => BytesAt w' a n xs)
        | _ => False
      | _, _ => False
    | _ => pureW P o ρ fun u => K u none
  | .call c => match c.callee with
    | .builtin .len => om (evs ρ c.args.toList) fun args => match args with
      | [.map m] => ∃ x : Int, LenM P c.argTypes o.type (.map m) w x ∧ K (.int .i64 x) (some fun w' => LenM P c.argTypes o.type (.map m) w' x)
      | _ => pureW P o ρ fun u => K u none
    | _ => pureW P o ρ fun u => K u none
  | _ => pureW P o ρ fun u => K u none
def guardW (ops : Array Oper) (o : Oper) (ρ : Env) (R N : Env → Prop) : Prop := match o.guard with
  | none => R ρ
  | some (j, want) => om ((ops.toList[j]?).bind (·.dst)) fun d => om (ρ d) fun g => match g with
    | .bool t => bcase t
        (bif want then R (ρ.put (some d) (.bool true)) else N (ρ.put (some d) (.bool true)))
        (bif want then N (ρ.put (some d) (.bool false)) else R (ρ.put (some d) (.bool false)))
    | .tuple _ => N ρ
    | _ => False
abbrev Hist := List (Nat × World × World)
abbrev Pend := List (Nat × (World → Prop))
def histOk (D : List Nat) (i : Nat) (c : World → Prop) (R : Prop) : Hist → Prop
  | [] => R
  | (y, wb, wa) :: hs => bif comm D y i then (c wb ∧ c wa) ∧ histOk D i c R hs else histOk D i c R hs
def pendOk (D : List Nat) (i : Nat) (w w1 : World) (R : Prop) : Pend → Prop
  | [] => R
  | (x, c) :: ps => bif comm D i x then (c w ∧ c w1) ∧ pendOk D i w w1 R ps else pendOk D i w w1 R ps
def drawW (P : Program) (ops : Array Oper) (D : List Nat) (K : Env → World → Prop) : List Nat → Env → World → Hist → Pend → Prop
  | [], ρ, w, _, _ => K ρ w
  | i :: l, ρ, w, hs, ps => om ops.toList[i]? fun o => guardW ops o ρ
      (fun ρ => bif chOp o then opW P o ρ w fun v w1 => pendOk D i w w1 (drawW P ops D K l (ρ.put o.dst v) w1 ((i, w, w1) :: hs) ps) ps
        else rdW P o ρ w fun v c => match c with
          | some c => histOk D i c (drawW P ops D K l (ρ.put o.dst v) w hs ((i, c) :: ps)) hs
          | none => drawW P ops D K l (ρ.put o.dst v) w hs ps)
      (fun ρ => drawW P ops D K l (ρ.put o.dst undef) w hs ps)
def allOf : List (List Nat) → (List Nat → Prop) → Prop
  | [], _ => False
  | [π], f => f π
  | π :: l, f => f π ∧ allOf l f
theorem allOf_mem : ∀ {l : List (List Nat)} {f : List Nat → Prop}, allOf l f → ∀ π ∈ l, f π
  | [], _, h, _, _ => h.elim
  | [π], f, h, σ, hm => by simp at hm; subst hm; exact h
  | π :: τ :: l, f, h, σ, hm => by
    rcases List.mem_cons.1 hm with rfl | hm
    · exact h.1
    · exact allOf_mem h.2 σ hm

section
variable {P : Program} {n : Nat} {ρ : Env} {a : Act} {w : World} {ops : Array Oper} {D : List Nat}
theorem pureW_res (hA : Agree n ρ a) {o : Oper} {K : Value → Prop} (h : pureW P o ρ K) : ∃ v, K v ∧ ∀ w, ResX P o a w v w := by
  unfold pureW at h
  split at h <;> rename_i ho
  · obtain ⟨v, hv, h⟩ := om_elim h
    exact ⟨_, h, fun w => resX_value (by simp [execOp, ho, hA.ev hv])⟩
  · obtain ⟨v, hv, h⟩ := om_elim h
    exact ⟨_, h, fun w => resX_value (by simp [execOp, ho, hA.ev hv])⟩
  · obtain ⟨v, hv, h⟩ := om_elim h
    split at h
    · rename_i t
      cases t with
      | true =>
        obtain ⟨u, hu, h⟩ := om_elim h
        exact ⟨_, h, fun w => resX_value (by simp [execOp, ho, hA.ev hv, asBool, hA.ev hu])⟩
      | false =>
        obtain ⟨u, hu, h⟩ := om_elim h
        exact ⟨_, h, fun w => resX_value (by simp [execOp, ho, hA.ev hv, asBool, hA.ev hu])⟩
    · exact h.elim
  · obtain ⟨vs, hv, h⟩ := om_elim h
    obtain ⟨v, hK, hr⟩ := buildW_run h
    exact ⟨_, hK, fun w => resX_value (by simp only [execOp, ho, map_evps hA hv, Sem.run_bind, hr, Result.andThen_ok, Sem.run_pure])⟩
  · obtain ⟨v, hv, h⟩ := om_elim h
    split at h
    · obtain ⟨p, rfl, h⟩ := optP_elim h
      exact ⟨_, h, fun w => resX_value (by simp [execOp, ho, hA.ev hv])⟩
    · exact ⟨_, h, fun w => resX_value (by simp [execOp, ho, hA.ev hv])⟩
    · exact h.elim
  · obtain ⟨x, hx, h⟩ := om_elim h
    obtain ⟨y, hy, h⟩ := om_elim h
    obtain ⟨v, hK, hr⟩ := binW_run h
    exact ⟨_, hK, fun w => resX_value (by simp only [execOp, ho, hA.ev hx, hA.ev hy]; rw [Sem.run_bind, hr w _ _]; rfl)⟩
  · obtain ⟨x, hx, h⟩ := om_elim h
    obtain ⟨v, hK, hr⟩ := unW_run (P := P) h
    exact ⟨_, hK, fun w => resX_value (by simp only [execOp, ho, hA.ev hx, Sem.run_bind, hr, Result.andThen_ok, Sem.run_pure])⟩
  · obtain ⟨fs, hf, h⟩ := om_elim h
    obtain ⟨cs, hc, h⟩ := om_elim h
    exact ⟨_, h, fun w => resX_value (by simp [execOp, ho, map_evs hA hf, map_evs hA hc, Instr.makeFunc])⟩
  · obtain ⟨x, hx, h⟩ := om_elim h
    obtain ⟨l, hl, h⟩ := evo_elim hA h
    obtain ⟨u, hu, h⟩ := evo_elim hA h
    obtain ⟨v, hK, hr⟩ := sliceW_run h
    exact ⟨_, hK, fun w => resX_value (by simp only [execOp, ho, hA.ev hx, hl, hu, Option.map_none, Sem.run_bind, hr, Result.andThen_ok, Sem.run_pure])⟩
  · obtain ⟨x, hx, h⟩ := om_elim h
    obtain ⟨v, hK, hr⟩ := fieldW_run h
    exact ⟨_, hK, fun w => resX_value (by simp only [execOp, ho, hA.ev hx, Sem.run_bind, hr, Result.andThen_ok, Sem.run_pure])⟩
  · obtain ⟨x, hx, h⟩ := om_elim h
    obtain ⟨y, hy, h⟩ := om_elim h
    obtain ⟨v, hK, hr⟩ := indexW_run h
    exact ⟨_, hK, fun w => resX_value (by simp only [execOp, ho, hA.ev hx, hA.ev hy, Sem.run_bind, hr, Result.andThen_ok, Sem.run_pure])⟩
  · obtain ⟨x, hx, h⟩ := om_elim h
    obtain ⟨y, hy, h⟩ := om_elim h
    obtain ⟨v, hK, hr⟩ := idxW_run h
    exact ⟨_, hK, fun w => resX_value (by simp only [execOp, ho, hA.ev hx, hA.ev hy, Sem.run_bind, hr, Result.andThen_ok, Sem.run_pure])⟩
  · obtain ⟨x, hx, h⟩ := om_elim h
    split at h
    · obtain ⟨u, hu, h⟩ := om_elim h
      simp only [Array.getElem?_toList] at hu
      exact ⟨_, h, fun w => resX_value (by simp [execOp, ho, hA.ev hx, Instr.extract, hu])⟩
    · exact h.elim
  · obtain ⟨x, hx, h⟩ := om_elim h
    obtain ⟨sd, hs, h⟩ := om_elim h
    obtain ⟨dd, hd, h⟩ := om_elim h
    split at h
    · exact ⟨_, h, fun w => resX_value (by simp [execOp, ho, hA.ev hx, convert, run_underlying hs, run_underlying hd, Conv.intToInt])⟩
    · exact ⟨_, h, fun w => resX_value (by simp [execOp, ho, hA.ev hx, convert, run_underlying hs, run_underlying hd])⟩
    · exact h.elim
  · rename_i c
    split at h <;> rename_i hcal
    · obtain ⟨args, hargs, h⟩ := om_elim h
      obtain ⟨t0, h0, h⟩ := om_elim h
      obtain ⟨d, hd, h⟩ := om_elim h
      have h0' : c.argTypes[0]? = some t0 := by simpa using h0
      split at h
      · exact ⟨_, h, fun w => resX_value (by simp [execOp, ho, resolve, hcal, map_evs hA hargs, invoke, builtin, Builtin.len_, h0', run_underlying hd, goInt])⟩
      · exact ⟨_, h, fun w => resX_value (by simp [execOp, ho, resolve, hcal, map_evs hA hargs, invoke, builtin, Builtin.len_, h0', run_underlying hd, goInt])⟩
      · exact h.elim
    · obtain ⟨args, hargs, h⟩ := om_elim h
      obtain ⟨t0, h0, h⟩ := om_elim h
      obtain ⟨d, hd, h⟩ := om_elim h
      have h0' : c.argTypes[0]? = some t0 := by simpa using h0
      split at h
      · exact ⟨_, h, fun w => resX_value (by simp [execOp, ho, resolve, hcal, map_evs hA hargs, invoke, builtin, Builtin.cap_, h0', run_underlying hd, goInt])⟩
      · exact h.elim
    · obtain ⟨args, hargs, h⟩ := om_elim h
      split at h
      · exact ⟨_, h, fun w => resX_value (by simp [execOp, ho, resolve, hcal, map_evs hA hargs, invoke, builtin, Builtin.max_, Builtin.max2, max2])⟩
      · exact h.elim
    · obtain ⟨args, hargs, h⟩ := om_elim h
      split at h
      · exact ⟨_, h, fun w => resX_value (by simp [execOp, ho, resolve, hcal, map_evs hA hargs, invoke, builtin, Builtin.min_, Builtin.min2, min2])⟩
      · exact h.elim
    · exact h.elim
  · exact h.elim
def chkOf (c : Option (World → Prop)) : World → Prop := match c with
  | some c => c
  | none => fun _ => True
theorem rdW_res (hA : Agree n ρ a) {o : Oper} {K : Value → Option (World → Prop) → Prop} (h : rdW P o ρ w K) : ∃ v c, K v c ∧ chkOf c w ∧ ∀ w', chkOf c w' → ResX P o a w' v w' := by
  unfold rdW at h
  split at h <;> rename_i ho
  · rename_i t x0
    obtain ⟨x, hx, h⟩ := om_elim h
    split at h
    · obtain ⟨p, rfl, h⟩ := optP_elim h
      obtain ⟨ag, hag, h⟩ := om_elim h
      split at h
      · obtain ⟨m, hm, h⟩ := om_elim h
        cases hb : Nat.beq (cellPats P 9 t).length m with
        | false => rw [hb] at h; exact h.elim
        | true =>
          rw [hb] at h
          have hl := Nat.eq_of_beq_eq_true hb
          obtain ⟨vs, hvl, hE, hK⟩ := gotAll_elim h
          refine ⟨_, _, hK, fun j u hj => by simpa using hE j u hj, fun w' hc => resX_value ?_⟩
          have hcl := run_loadCells_list (P := P) (w := w') p vs (fun j v hj => hc j v hj)
          rw [hvl, hl] at hcl
          simp [execOp, ho, hA.ev hx, Instr.loadAt, Instr.sureAddr, loadVar, run_isAgg hag, run_sizeOf hm, hcl]
      · obtain ⟨v, hv, hK⟩ := Pat.got_elim h
        refine ⟨_, _, hK, hv, fun w' hc => resX_value ?_⟩
        have hc' : w'.cell? p = some v := hc
        simp [execOp, ho, hA.ev hx, Instr.loadAt, Instr.sureAddr, loadVar, run_isAgg hag, hc']
      · exact h.elim
    · exact h.elim
  · obtain ⟨x, hx, h⟩ := om_elim h
    split at h
    · obtain ⟨sd, hs, h⟩ := om_elim h
      obtain ⟨dd, hd, h⟩ := om_elim h
      split at h
      · obtain ⟨ed, he, h⟩ := om_elim h
        split at h
        · obtain ⟨xs, hB, hK⟩ := h
          refine ⟨_, _, hK, hB, fun w' hc => resX_value ?_⟩
          have this := fun c => bytes_run (P := P) (w := w') (c := c) hs hd he (show BytesAt w' _ _ _ from hc)
          simp only [execOp, ho, hA.ev hx, Sem.run_bind, this, Result.andThen_ok, Sem.run_pure]
        · exact h.elim
      · exact h.elim
    · obtain ⟨v, hK, hr⟩ := pureW_res hA h
      exact ⟨v, none, hK, trivial, fun w' _ => hr w'⟩
  · rename_i c
    split at h <;> rename_i hcal
    · obtain ⟨args, hargs, h⟩ := om_elim h
      split at h
      · rename_i m
        obtain ⟨x, hx, hK⟩ := h
        refine ⟨_, _, hK, hx, fun w' hc => resX_value ?_⟩
        have hc' : (Builtin.len_ c.argTypes o.type #[.map m]).run P w' = .ok (.int .i64 x) w' := hc
        simp [execOp, ho, resolve, hcal, map_evs hA hargs, invoke, builtin, hc']
      · obtain ⟨v, hK, hr⟩ := pureW_res hA h
        exact ⟨v, none, hK, trivial, fun w' _ => hr w'⟩
    · obtain ⟨v, hK, hr⟩ := pureW_res hA h
      exact ⟨v, none, hK, trivial, fun w' _ => hr w'⟩
  · obtain ⟨v, hK, hr⟩ := pureW_res hA h
    exact ⟨v, none, hK, trivial, fun w' _ => hr w'⟩
def boolOf : Value → Option Bool
  | .bool b => some b
  | _ => none
theorem guardW_elim (hA : Agree n ρ a) {o : Oper} {R N : Env → Prop} (h : guardW ops o ρ R N) :
    (∃ ρ' : Env, ρ'.le ρ ∧ Region.wanted o (yielded ops a.tmps) = true ∧ R ρ') ∨ (∃ ρ' : Env, ρ'.le ρ ∧ Region.wanted o (yielded ops a.tmps) = false ∧ N ρ') := by
  unfold guardW at h
  split at h
  · rename_i hg
    exact .inl ⟨ρ, fun _ _ h => h, by simp [Region.wanted, hg], h⟩
  · rename_i j want hg
    obtain ⟨d, hdst, h⟩ := om_elim h
    obtain ⟨g, hgv, h⟩ := om_elim h
    have hat := hA.at_ d g hgv
    have hy : yielded ops a.tmps j = boolOf g := by
      unfold yielded
      simp only [Array.getElem?_toList] at hdst
      rw [hdst]
      simp only [Option.bind_some, hat]
      cases g <;> rfl
    have hwant : Region.wanted o (yielded ops a.tmps) = (boolOf g == some want) := by
      unfold Region.wanted
      rw [hg]
      show (yielded ops a.tmps j == some want) = _
      rw [hy]
    rw [hwant]
    split at h
    · rename_i t
      have hput : ∀ b, t = b → (ρ.put (some d) (.bool b)).le ρ := fun b hb => Env.le_put (by rw [hgv, hb]) (fun _ _ h => h)
      cases t with
      | true =>
        simp only [bcase_true] at h
        cases want with
        | true => exact .inl ⟨_, hput _ rfl, rfl, h⟩
        | false => exact .inr ⟨_, hput _ rfl, rfl, h⟩
      | false =>
        simp only [bcase_false] at h
        cases want with
        | true => exact .inr ⟨_, hput _ rfl, rfl, h⟩
        | false => exact .inl ⟨_, hput _ rfl, rfl, h⟩
    · exact .inr ⟨ρ, fun _ _ h => h, rfl, h⟩
    · exact h.elim
theorem histOk_elim {i : Nat} {c : World → Prop} {R : Prop} : ∀ {hs : Hist}, histOk D i c R hs → R ∧ ∀ y wb wa, (y, wb, wa) ∈ hs → comm D y i = true → c wb ∧ c wa
  | [], h => ⟨h, by simp⟩
  | (z, wb, wa) :: hs, h => by
    simp only [histOk] at h
    cases hc : comm D z i with
    | true =>
      rw [hc] at h
      obtain ⟨hr, hall⟩ := histOk_elim h.2
      refine ⟨hr, fun y b e hm hcy => ?_⟩
      rcases List.mem_cons.1 hm with he | hm
      · injection he with e1 e2; injection e2 with e2 e3; subst e2; subst e3; exact h.1
      · exact hall y b e hm hcy
    | false =>
      rw [hc] at h
      obtain ⟨hr, hall⟩ := histOk_elim h
      refine ⟨hr, fun y b e hm hcy => ?_⟩
      rcases List.mem_cons.1 hm with he | hm
      · injection he with e1 e2; subst e1; rw [hc] at hcy; cases hcy
      · exact hall y b e hm hcy
theorem pendOk_elim {i : Nat} {w1 : World} {R : Prop} : ∀ {ps : Pend}, pendOk D i w w1 R ps → R ∧ ∀ x c, (x, c) ∈ ps → comm D i x = true → c w ∧ c w1
  | [], h => ⟨h, by simp⟩
  | (z, c) :: ps, h => by
    simp only [pendOk] at h
    cases hc : comm D i z with
    | true =>
      rw [hc] at h
      obtain ⟨hr, hall⟩ := pendOk_elim h.2
      refine ⟨hr, fun x c' hm hcy => ?_⟩
      rcases List.mem_cons.1 hm with he | hm
      · injection he with e1 e2; subst e2; exact h.1
      · exact hall x c' hm hcy
    | false =>
      rw [hc] at h
      obtain ⟨hr, hall⟩ := pendOk_elim h
      refine ⟨hr, fun x c' hm hcy => ?_⟩
      rcases List.mem_cons.1 hm with he | hm
      · injection he with e1 e2; subst e1; rw [hc] at hcy; cases hcy
      · exact hall x c' hm hcy
def upd (chk : Nat → World → Prop) (i : Nat) (c : World → Prop) : Nat → World → Prop := fun x => if x = i then c else chk x
theorem drawW_run (hN : NoGr P) {K : Env → World → Prop} (hd : ops.toList.all (okDst n) = true) : ∀ (π : List Nat), okO ops D π = true → ∀ (ρ : Env) (w : World) (hs : Hist) (ps : Pend) (chk0 : Nat → World → Prop) (a : Act),
    drawW P ops D K π ρ w hs ps → Agree n ρ a → (∀ x, x ∉ π → chAt ops x = false → chk0 x = (fun _ => True) ∨ (x, chk0 x) ∈ ps) →
    ∃ chk a' w' ρ', (∀ x, x ∉ π → chk x = chk0 x) ∧ (∀ y wb wa, (y, wb, wa) ∈ hs → ∀ x ∈ π, comm D y x = true → chAt ops x = false → chk x wb ∧ chk x wa) ∧ RD P ops D chk π a w a' w' ∧ Agree n ρ' a' ∧ K ρ' w'
  | [], _, ρ, w, hs, ps, chk0, a, h, hA, _ => ⟨chk0, a, w, ρ, fun _ _ => rfl, fun _ _ _ _ x hx => (by cases hx), ⟨rfl, rfl⟩, hA, h⟩
  | i :: l, hok, ρ, w, hs, ps, chk0, a, h, hA, hp => by
    obtain ⟨o, ho, h⟩ := om_elim h
    obtain ⟨o', ho', hni, _⟩ := okO_head hok
    have hokl : okO ops D l = true := okO_drop [] i l hok
    have hlt := okDst_lt' hd ho
    rcases guardW_elim (ops := ops) hA h with ⟨ρ1, hle, hw, h⟩ | ⟨ρ1, hle, hw, h⟩
    · have hA1 := hA.mono hle
      cases hc : chOp o with
      | true =>
        rw [hc] at h
        simp only [cond_true] at h
        obtain ⟨v, w1, hK, hres⟩ := opW_res hN hA1 h
        obtain ⟨hK, hpend⟩ := pendOk_elim hK
        obtain ⟨chk, a', w', ρ', e1, e2, e3, e4, e5⟩ := drawW_run hN hd l hokl _ _ _ _ chk0 _ hK (hA1.put hlt v) (fun x hx hch => by
          by_cases hxi : x = i
          · subst hxi; rw [chAt_of ho, hc] at hch; cases hch
          · exact hp x (by simp [hxi, hx]) hch)
        refine ⟨chk, a', w', ρ', fun x hx => e1 x (fun hm => hx (by simp [hm])), fun y wb wa hm x hx hcm hch => ?_, ⟨o, v, w1, ho, .inl ⟨hw, .inl ⟨hc, hres, fun x hcm hch => ?_⟩⟩, e3⟩, e4, e5⟩
        · rcases List.mem_cons.1 hx with rfl | hx
          · rw [chAt_of ho, hc] at hch; cases hch
          · exact e2 y wb wa (by simp [hm]) x hx hcm hch
        · by_cases hx : x ∈ l
          · exact e2 i w w1 (by simp) x hx hcm hch
          · rw [e1 x hx]
            by_cases hxi : x = i
            · subst hxi
              rw [chAt_of ho, hc] at hch
              cases hch
            · rcases hp x (by simp [hxi, hx]) hch with h1 | h1
              · rw [h1]; exact ⟨trivial, trivial⟩
              · exact hpend x _ h1 hcm
      | false =>
        rw [hc] at h
        simp only [cond_false] at h
        obtain ⟨v, c, hK, hck, hres⟩ := rdW_res hA1 h
        have fin : ∀ ps', drawW P ops D K l (ρ1.put o.dst v) w hs ps' → ((chkOf c = fun _ => True) ∨ (i, chkOf c) ∈ ps') → (∀ q ∈ ps, q ∈ ps') → (∀ y wb wa, (y, wb, wa) ∈ hs → comm D y i = true → chkOf c wb ∧ chkOf c wa) →
            ∃ chk a' w' ρ', (∀ x, x ∉ i :: l → chk x = chk0 x) ∧ (∀ y wb wa, (y, wb, wa) ∈ hs → ∀ x ∈ i :: l, comm D y x = true → chAt ops x = false → chk x wb ∧ chk x wa) ∧ RD P ops D chk (i :: l) a w a' w' ∧ Agree n ρ' a' ∧ K ρ' w' := by
          intro ps' hK' hin hsub hhist
          obtain ⟨chk, a', w', ρ', e1, e2, e3, e4, e5⟩ := drawW_run hN hd l hokl _ _ _ _ (upd chk0 i (chkOf c)) _ hK' (hA1.put hlt v) (fun x hx hch => by
            unfold upd
            by_cases hxi : x = i
            · subst hxi
              simp only [if_true]
              exact hin
            · simp only [if_neg hxi]
              rcases hp x (by simp [hxi, hx]) hch with h1 | h1
              · exact .inl h1
              · exact .inr (hsub _ h1))
          have hci : chk i = chkOf c := by rw [e1 i hni]; simp [upd]
          refine ⟨chk, a', w', ρ', fun x hx => ?_, fun y wb wa hm x hx hcm hch => ?_, ⟨o, v, w, ho, .inl ⟨hw, .inr ⟨hc, rfl, by rw [hci]; exact hck, fun w2 hw2 => hres w2 (by rw [← hci]; exact hw2)⟩⟩, e3⟩, e4, e5⟩
          · simp only [List.mem_cons, not_or] at hx
            rw [e1 x hx.2]
            simp [upd, hx.1]
          · rcases List.mem_cons.1 hx with rfl | hx
            · rw [hci]; exact hhist y wb wa hm hcm
            · exact e2 y wb wa hm x hx hcm hch
        cases c with
        | none => exact fin ps hK (.inl rfl) (fun _ h => h) (fun _ _ _ _ _ => ⟨trivial, trivial⟩)
        | some c =>
          obtain ⟨hK, hhist⟩ := histOk_elim hK
          exact fin _ hK (.inr (by simp [chkOf])) (fun q hq => by simp [hq]) (fun y wb wa hm hcm => hhist y wb wa hm hcm)
    · have hA1 := hA.mono hle
      obtain ⟨chk, a', w', ρ', e1, e2, e3, e4, e5⟩ := drawW_run hN hd l hokl _ _ _ _ (upd chk0 i (fun _ => True)) _ h (hA1.put hlt undef) (fun x hx hch => by
        unfold upd
        by_cases hxi : x = i
        · subst hxi
          simp
        · simp only [if_neg hxi]
          exact hp x (by simp [hxi, hx]) hch)
      have hci : chk i = fun _ => True := by rw [e1 i hni]; simp [upd]
      refine ⟨chk, a', w', ρ', fun x hx => ?_, fun y wb wa hm x hx hcm hch => ?_, ⟨o, undef, w, ho, .inr ⟨hw, rfl, rfl⟩, e3⟩, e4, e5⟩
      · simp only [List.mem_cons, not_or] at hx
        rw [e1 x hx.2]
        simp [upd, hx.1]
      · rcases List.mem_cons.1 hx with rfl | hx
        · rw [hci]; exact ⟨trivial, trivial⟩
        · exact e2 y wb wa hm x hx hcm hch

/-! ### Whatever is drawn -/
def exts (D : List Nat) : Nat → List Nat → List (List Nat)
  | 0, _ => [[]]
  | f + 1, rem => match rem with
    | [] => [[]]
    | c :: cs => ((c :: cs).filter fun x => (c :: cs).all fun y => !dep D y x).flatMap fun x => (exts D f ((c :: cs).erase x)).map (x :: ·)
def permO (ops : Array Oper) (π : List Nat) : Bool := Nat.ble π.length ops.toList.length && (List.range ops.toList.length).all fun i => π.contains i
def okDraw (ops : Array Oper) (D : List Nat) (orders : List (List Nat)) : Bool :=
  Region.noSelect ops && okD ops D ops.toList 0 && orders.all (fun π => okO ops D π && permO ops π) && match orders with
    | [] => false
    | π :: _ => (exts D π.length (π.filter (chAt ops))).all fun e => orders.any fun σ => σ.filter (chAt ops) == e
theorem filter_erase {p : Nat → Bool} {i : Nat} {l1 l2 : List Nat} (hp : p i = true) (h1 : i ∉ l1) : ((l1 ++ i :: l2).filter p).erase i = (l1 ++ l2).filter p := by
  rw [List.filter_append, List.filter_cons, if_pos hp, List.erase_append_right _ (fun hm => h1 (List.mem_filter.1 hm).1), List.erase_cons_head, List.filter_append]
theorem go_exts (hD : okD ops D ops.toList 0 = true) : ∀ (fuel t : Nat) (listed : Array Bool) (rem : List Nat), listed.size = ops.size → okO ops D rem = true → (∀ i, i ∈ rem ↔ (i < ops.size ∧ listed.getD i true = false)) → rem.length ≤ fuel → Closed ops listed →
    ∀ f, (rem.filter (chAt ops)).length ≤ f → (Region.linearise.go .any ops fuel t listed []).filter (chAt ops) ∈ exts D f (rem.filter (chAt ops)) := by
  have nil_in : ∀ f, ([] : List Nat) ∈ exts D f [] := fun f => by cases f <;> simp [exts]
  intro fuel
  induction fuel with
  | zero =>
    intro t listed rem hsz hok hrem hlen hcl f hf
    have : rem = [] := List.eq_nil_of_length_eq_zero (by omega)
    subst this
    simpa [Region.linearise.go] using nil_in f
  | succ fuel ih =>
    intro t listed rem hsz hok hrem hlen hcl f hf
    rw [go_succ]
    cases hi : (Region.ready .any ops listed)[t % (Region.ready .any ops listed).length]? with
    | none =>
      have hrn := ready_nil hsz hok hrem hi
      subst hrn
      simpa using nil_in f
    | some i =>
      have hmem := List.mem_of_getElem? hi
      rw [mem_ready] at hmem
      obtain ⟨hun, o, ho, hall⟩ := hmem
      have ho' : ops.toList[i]? = some o := by simpa using ho
      have hlt : i < ops.size := (Array.getElem?_eq_some_iff.1 ho).1
      have hin : i ∈ rem := (hrem i).2 ⟨hlt, hun⟩
      obtain ⟨l1, l2, rfl⟩ := List.append_of_mem hin
      have hpair := okO_pair l1 i l2 hok
      have hil : i < listed.size := by omega
      have hnod := okO_nodup hok
      have hni1 : i ∉ l1 := fun hm => hnod (List.mem_append.2 (.inl hm))
      have hcl' := closed_set hcl ho' hall hil
      have hih := ih (t / (Region.ready .any ops listed).length) (listed.setIfInBounds i true) (l1 ++ l2) (by simpa using hsz) (okO_drop l1 i l2 hok) (rem_set hrem hil hnod) (by simp at hlen ⊢; omega) hcl'
      cases hc : chOp o with
      | false =>
        have e1 : ∀ l, (i :: l).filter (chAt ops) = l.filter (chAt ops) := fun l => by simp [List.filter_cons, chAt_of ho', hc]
        have e2 : (l1 ++ i :: l2).filter (chAt ops) = (l1 ++ l2).filter (chAt ops) := by rw [List.filter_append, e1, List.filter_append]
        simp only []
        rw [e1, e2]
        rw [e2] at hf
        exact hih f hf
      | true =>
        have hpi : chAt ops i = true := by rw [chAt_of ho', hc]
        have hmemf : i ∈ (l1 ++ i :: l2).filter (chAt ops) := List.mem_filter.2 ⟨by simp, hpi⟩
        have hfe := filter_erase (p := chAt ops) (l2 := l2) hpi hni1
        have hlen2 : ((l1 ++ l2).filter (chAt ops)).length = ((l1 ++ i :: l2).filter (chAt ops)).length - 1 := by
          rw [← hfe, List.length_erase_of_mem hmemf]
        have hpos := List.length_pos_of_mem hmemf
        cases f with
        | zero => omega
        | succ f =>
          have hih' := hih f (by omega)
          simp only []
          rw [List.filter_cons, if_pos hpi]
          cases hz : (l1 ++ i :: l2).filter (chAt ops) with
          | nil => rw [hz] at hmemf; cases hmemf
          | cons z zs =>
            simp only [exts]
            rw [List.mem_flatMap]
            refine ⟨i, ?_, ?_⟩
            · rw [List.mem_filter]
              refine ⟨by rw [← hz]; exact hmemf, ?_⟩
              rw [List.all_eq_true]
              intro y hy
              rw [← hz] at hy
              have hyr := (List.mem_filter.1 hy).1
              cases hd : dep D y i with
              | false => rfl
              | true =>
                exfalso
                have h1 := dep_listed hD hcl i ho' hall y hd
                have h2 := (hrem y).1 hyr
                have hylt : y < listed.size := by have := h2.1; omega
                have h2 := h2.2
                simp only [Array.getD_eq_getD_getElem?, Array.getElem?_eq_getElem hylt, Option.getD_some] at h1 h2
                rw [h1] at h2
                cases h2
            · rw [List.mem_map]
              refine ⟨_, ?_, rfl⟩
              rw [← hz, hfe]
              exact hih'
theorem draw_region (hN : NoGr P) (hM : P.follows .mixedOrders = true) {orders : List (List Nat)} (hok : okDraw ops D orders = true) (hd : ops.toList.all (okDst n) = true) {K : Env → World → Prop}
    (h : allOf orders fun π => drawW P ops D K π ρ w.drew [] []) (hA : Agree n ρ a) (t : Nat) :
    ∃ ρ' a' w', wpOps P ops (fun e a1 w1 => e = .normal ∧ a1 = a' ∧ w1 = w') (Region.schedule (P.follows .mixedOrders) ops t) a w.drew ∧ Agree n ρ' a' ∧ K ρ' w' := by
  simp only [okDraw, Bool.and_eq_true] at hok
  obtain ⟨⟨⟨hsel, hD⟩, hall⟩, hex⟩ := hok
  rw [List.all_eq_true] at hall
  have hsch : Region.schedule (P.follows .mixedOrders) ops t = Region.linearise.go .any ops ops.size t (Array.replicate ops.size false) [] := by
    simp only [Region.schedule, hM, Bool.true_or, if_true]
    rfl
  rw [hsch]
  have hrem : ∀ π ∈ orders, ∀ i, i ∈ π ↔ (i < ops.size ∧ (Array.replicate ops.size false).getD i true = false) := by
    intro π hπ i
    have h2 := hall π hπ
    simp only [Bool.and_eq_true] at h2
    constructor
    · intro hi
      have hlt : i < ops.size := by
        obtain ⟨l1, l2, rfl⟩ := List.append_of_mem hi
        obtain ⟨o, ho, _⟩ := okO_head (okO_tail l1 _ h2.1)
        have := (List.getElem?_eq_some_iff.1 ho).1
        simpa using this
      exact ⟨hlt, by simp [Array.getD_eq_getD_getElem?, hlt]⟩
    · rintro ⟨hlt, _⟩
      have h3 := h2.2
      simp only [permO, Bool.and_eq_true, List.all_eq_true] at h3
      simpa using h3.2 i (by simpa using hlt)
  have hlen : ∀ π ∈ orders, π.length ≤ ops.size := by
    intro π hπ
    have h2 := hall π hπ
    simp only [Bool.and_eq_true] at h2
    have h3 := h2.2
    simp only [permO, Bool.and_eq_true] at h3
    simpa using Nat.le_of_ble_eq_true h3.1
  have hcl : Closed ops (Array.replicate ops.size false) := by
    intro j o ho hl
    exfalso
    by_cases hj : j < ops.size
    · simp [Array.getD_eq_getD_getElem?, hj] at hl
    · simp [Array.getD_eq_getD_getElem?, hj] at hl
  cases orders with
  | nil => simp at hex
  | cons π0 os =>
    have h0 := hall π0 (by simp)
    simp only [Bool.and_eq_true] at h0
    have hin := go_exts hD ops.size t (Array.replicate ops.size false) π0 (by simp) h0.1 (hrem π0 (by simp)) (hlen π0 (by simp)) hcl π0.length (List.length_filter_le _ _)
    simp only [List.all_eq_true] at hex
    have := hex _ hin
    rw [List.any_eq_true] at this
    obtain ⟨σ, hσ, he⟩ := this
    have he : σ.filter (chAt ops) = (Region.linearise.go .any ops ops.size t (Array.replicate ops.size false) []).filter (chAt ops) := by simpa using he
    have h1 := hall σ hσ
    simp only [Bool.and_eq_true] at h1
    obtain ⟨chk, a', w', ρ', _, _, hRD, hA', hK⟩ := drawW_run hN hd σ h1.1 ρ w.drew [] [] (fun _ _ => True) a (allOf_mem h σ hσ) hA (fun _ _ _ => .inl rfl)
    exact ⟨ρ', a', w', draw_run hsel hD ⟨rfl, rfl, rfl⟩ ops.size t _ σ a w.drew (by simp) h1.1 (hrem σ hσ) (hlen σ hσ) hcl hRD he.symm, hA', hK⟩
end
end Go.Proofs.YtnjmkhhaodgpbaaX
