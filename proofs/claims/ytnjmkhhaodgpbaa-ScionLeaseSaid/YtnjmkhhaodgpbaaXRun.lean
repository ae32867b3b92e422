/- An operation, a region, a body: told over the values that are known; and that the machine does so. -/
import Derived.Test.YtnjmkhhaodgpbaaXVals
namespace Go.Proofs.YtnjmkhhaodgpbaaX
open Go.RowKit
set_option linter.unusedVariables false
set_option linter.unusedSimpArgs false

def evo (ρ : Env) : Option Operand → (Option Value → Prop) → Prop
  | none, K => K none
  | some x, K => om (ρ.ev x) fun v => K (some v)
def max2 (a b : Int) : Int := if b > a then b else a
def min2 (a b : Int) : Int := if b < a then b else a
def builtinW (P : Program) (b : Builtin) (ts : Array TypeId) (t : TypeId) (args : List Value) (w : World) (K : Value → World → Prop) : Prop := match b with
  | .len => om ts.toList[0]? fun t0 => om (P.underlying t0) fun d => match d, args with
    | .slice _, [.slice _ n _] => K (.int .i64 (n : Int)) w
    | .string, [.string s] => K (.int .i64 (s.size : Int)) w
    | .map _ _, [m] => RunR P (Builtin.len_ ts t #[m]) w fun v w' => ∃ x : Int, v = .int .i64 x ∧ K (.int .i64 x) w'
    | _, _ => False
  | .cap => om ts.toList[0]? fun t0 => om (P.underlying t0) fun d => match d, args with
    | .slice _, [.slice _ _ c] => K (.int .i64 (c : Int)) w
    | _, _ => False
  | .max => match args with
    | [.int k a, .int _ b] => K (.int k (max2 a b)) w
    | _ => False
  | .min => match args with
    | [.int k a, .int _ b] => K (.int k (min2 a b)) w
    | _ => False
  | .append => RunR P (Builtin.append_ ts t ⟨args⟩) w fun v w' => ∃ (a : Option Addr) (n c : Nat), v = .slice a n c ∧ K (.slice a n c) w'
  | .copy => RunR P (Builtin.copy_ ts t ⟨args⟩) w fun v w' => ∃ x : Int, v = .int .i64 x ∧ K (.int .i64 x) w'
  | .clear => RunR P (Builtin.clear_ ts t ⟨args⟩) w fun v w' => v = .tuple #[] ∧ K (.tuple #[]) w'
  | .delete => RunR P (Builtin.delete_ ts t ⟨args⟩) w fun v w' => v = .tuple #[] ∧ K (.tuple #[]) w'
  | _ => False
/-- A function without a body: the model's own. -/
def ExtR (P : Program) (f : FuncId) (args : Array Value) (w : World) (K : Value → World → Prop) : Prop := ∃ v w', (callFunc f args).run P w = .ok (.value v) w' ∧ K v w'
def callW (P : Program) (c : Call) (t : TypeId) (ρ : Env) (w : World) (K : Value → World → Prop) : Prop := match c.callee with
  | .value f => om (ρ.ev f) fun fv => om (evs ρ c.args.toList) fun args => match fv with
    | .func (.func g) first cap => om P.funcs[g]? fun fn => bif fn.body.isSome then CallR P g ⟨first.toList ++ args ++ cap.toList⟩ w fun v w' => resW P fn.resultTypes.toList v fun u => K u w' else ExtR P g ⟨first.toList ++ args ++ cap.toList⟩ w fun v w' => resW P fn.resultTypes.toList v fun u => K u w'
    | _ => False
  | .builtin b => om (evs ρ c.args.toList) fun args => builtinW P b c.argTypes t args w K
  | _ => False
/-- One operation. -/
def opW (P : Program) (o : Oper) (ρ : Env) (w : World) (K : Value → World → Prop) : Prop := match o.op with
  | .move x => om (ρ.ev x) fun v => K v w
  | .assign x => om (ρ.ev x) fun v => K v w
  | .pick c a b => om (ρ.ev c) fun v => match v with
    | .bool t => bcase t (om (ρ.ev a) fun v => K v w) (om (ρ.ev b) fun v => K v w)
    | _ => False
  | .alloc e => om (zeroV P e) fun z => K (.pointer (some ⟨w.heap.size, 0, none⟩)) (w.alloc (.cells ⟨z⟩ e))
  | .box e x => om (ρ.ev x) fun v => K (.pointer (some ⟨w.heap.size, 0, none⟩)) (w.alloc (.cells v.cells e))
  | .build t ps => om (evps ρ ps.toList) fun vs => buildW P t vs fun v => K v w
  | .buildSlice t n ps => om (evps ρ ps.toList) fun vs => buildSliceW P t n vs w K
  | .load t a => om (ρ.ev a) fun x => loadW P t x w fun v => K v w
  | .store t a x => om (ρ.ev a) fun p => om (ρ.ev x) fun v => storeW P t p v w fun w' => K undef w'
  | .nilCheck x => om (ρ.ev x) fun v => match v with
    | .pointer a => optP a fun p => K (.pointer (some p)) w
    | .func (.func f) a b => K (.func (.func f) a b) w
    | _ => False
  | .binOp op t x y _ => om (ρ.ev x) fun a => om (ρ.ev y) fun b => binW P op t a b fun v => K v w
  | .unOp op _ x => om (ρ.ev x) fun a => unW op a fun v => K v w
  | .convert s d x => om (ρ.ev x) fun a => convW P s d a w K
  | .makeFunc fn first cap => om (evs ρ first.toList) fun fs => om (evs ρ cap.toList) fun cs => K (.func fn ⟨fs⟩ ⟨cs⟩) w
  | .makeMap _ none => K (.map (some w.heap.size)) (w.alloc (.map #[] 0))
  | .slice t x lo hi none => om (ρ.ev x) fun v => evo ρ lo fun l => evo ρ hi fun h => sliceW P t v l h fun u => K u w
  | .slice t x lo hi (some m) => om (ρ.ev x) fun v => evo ρ lo fun l => evo ρ hi fun h => om (ρ.ev m) fun j => RunR P (Instr.sliceAt t v l h (some j)) w fun u w' => ∃ (a : Option Addr) (n c : Nat), u = .slice a n c ∧ K (.slice a n c) w'
  | .fieldAddr s x i => om (ρ.ev x) fun v => fieldW P s v i fun u => K u w
  | .indexAddr t x i => om (ρ.ev x) fun v => om (ρ.ev i) fun j => indexW P t v j fun u => K u w
  | .index t x i => om (ρ.ev x) fun v => om (ρ.ev i) fun j => idxW P t v j fun u => K u w
  | .extract x i => om (ρ.ev x) fun v => match v with
    | .tuple vs => om vs.toList[i]? fun u => K u w
    | _ => False
  | .makeSlice t l c => om (ρ.ev l) fun a => om (ρ.ev c) fun b => RunR P (Instr.makeSlice t a b) w fun v w' => ∃ (a : Option Addr) (n c : Nat), v = .slice a n c ∧ K (.slice a n c) w'
  | .lookup t m k ok => om (ρ.ev m) fun a => om (ρ.ev k) fun b => RunR P (Instr.lookup t a b ok) w fun v w' => om (P.underlying t) fun d => match d with
    | .map _ e => resW P (bif ok then [e, 4] else [e]) v fun u => K u w'
    | _ => False
  | .mapUpdate t m k x => om (ρ.ev m) fun a => om (ρ.ev k) fun b => om (ρ.ev x) fun c => RunR P (Instr.mapUpdate t a b c) w fun _ w' => K undef w'
  | .range t x => om (ρ.ev x) fun a => RunR P (Instr.range t a) w fun v w' => ∃ p : Addr, v = .pointer (some p) ∧ K (.pointer (some p)) w'
  | .next it s => om (ρ.ev it) fun a => RunR P (Instr.next a s o.type) w K
  | .entry it => om (ρ.ev it) fun a => RunR P (Instr.entry a) w K
  | .call c => callW P c o.type ρ w K
  | _ => False

/-- No function of the program is the one that counts goroutines. -/
def NoGr (P : Program) : Prop := P.funcs.all (fun f => f.name != "runtime.NumGoroutine") = true

section
variable {P : Program} {n : Nat} {ρ : Env} {a : Act} {w : World}
theorem resX_value {o : Oper} {v : Value} {w' : World} (h : (execOp a.eval o).run P w = .ok (.value v) w') : ResX P o a w v w' := .inl h
theorem resX_skip {o : Oper} {w' : World} (h : (execOp a.eval o).run P w = .ok .skip w') : ResX P o a w undef w' := .inr (.inl ⟨h, rfl⟩)
theorem evo_elim {x : Option Operand} {K : Option Value → Prop} (hA : Agree n ρ a) (h : evo ρ x K) : ∃ v, x.map a.eval = v ∧ K v := by
  cases x with
  | none => exact ⟨none, rfl, h⟩
  | some x =>
    obtain ⟨v, hv, h⟩ := om_elim h
    exact ⟨some v, by simp [hA.ev hv], h⟩
theorem map_evs {xs : Array Operand} {vs : List Value} (hA : Agree n ρ a) (h : evs ρ xs.toList = some vs) : xs.map a.eval = ⟨vs⟩ := by
  apply Array.ext'
  simp [evs_map hA h]
theorem map_evps {xs : Array (Nat × Operand)} {vs : List (Nat × Value)} (hA : Agree n ρ a) (h : evps ρ xs.toList = some vs) : (xs.map fun (i, x) => (i, a.eval x)) = ⟨vs⟩ := by
  apply Array.ext'
  simp only [Array.toList_map]
  exact evps_map hA h
theorem builtinW_run {b : Builtin} {ts : Array TypeId} {t : TypeId} {args : List Value} {K : Value → World → Prop} (h : builtinW P b ts t args w K) :
    ∃ v w', K v w' ∧ ∀ consts : Array Bool, (builtin b ts t consts ⟨args⟩).run P w = .ok (.value v) w' := by
  unfold builtinW at h
  split at h
  · obtain ⟨t0, h0, h⟩ := om_elim h
    obtain ⟨d, hd, h⟩ := om_elim h
    have h0' : ts[0]? = some t0 := by simpa using h0
    split at h
    · exact ⟨_, _, h, fun consts => by simp [builtin, Builtin.len_, h0', run_underlying hd, goInt]⟩
    · exact ⟨_, _, h, fun consts => by simp [builtin, Builtin.len_, h0', run_underlying hd, goInt]⟩
    · obtain ⟨v, w', hr, x, rfl, h⟩ := h
      exact ⟨_, _, h, fun consts => by simp only [builtin, Sem.run_bind, hr, Result.andThen_ok, Sem.run_pure]⟩
    · exact h.elim
  · obtain ⟨t0, h0, h⟩ := om_elim h
    obtain ⟨d, hd, h⟩ := om_elim h
    have h0' : ts[0]? = some t0 := by simpa using h0
    split at h
    · exact ⟨_, _, h, fun consts => by simp [builtin, Builtin.cap_, h0', run_underlying hd, goInt]⟩
    · exact h.elim
  · split at h
    · exact ⟨_, _, h, fun consts => by simp [builtin, Builtin.max_, Builtin.max2, max2]⟩
    · exact h.elim
  · split at h
    · exact ⟨_, _, h, fun consts => by simp [builtin, Builtin.min_, Builtin.min2, min2]⟩
    · exact h.elim
  · obtain ⟨v, w', hr, x, y, z, rfl, h⟩ := h
    exact ⟨_, _, h, fun consts => by simp only [builtin, Sem.run_bind, hr, Result.andThen_ok, Sem.run_pure]⟩
  · obtain ⟨v, w', hr, x, rfl, h⟩ := h
    exact ⟨_, _, h, fun consts => by simp only [builtin, Sem.run_bind, hr, Result.andThen_ok, Sem.run_pure]⟩
  · obtain ⟨v, w', hr, rfl, h⟩ := h
    exact ⟨_, _, h, fun consts => by simp only [builtin, Sem.run_bind, hr, Result.andThen_ok, Sem.run_pure]⟩
  · obtain ⟨v, w', hr, rfl, h⟩ := h
    exact ⟨_, _, h, fun consts => by simp only [builtin, Sem.run_bind, hr, Result.andThen_ok, Sem.run_pure]⟩
  · exact h.elim
theorem callFunc_run (hN : NoGr P) {g : FuncId} {fn : Func} (hf : P.funcs[g]? = some fn) (hb : fn.body.isSome = true) (args : Array Value) : (callFunc g args).run P w = .ok (.enter g args) w := by
  have hn : fn.name ≠ "runtime.NumGoroutine" := by
    have hm : fn ∈ P.funcs := Array.mem_of_getElem? hf
    have := Array.all_eq_true'.1 hN fn hm
    simpa using this
  obtain ⟨c, hc⟩ := Option.isSome_iff_exists.1 hb
  simp [callFunc, hf, hn, hc]
theorem opW_res (hN : NoGr P) (hA : Agree n ρ a) {o : Oper} {K : Value → World → Prop} (h : opW P o ρ w K) : ∃ v w', K v w' ∧ ResX P o a w v w' := by
  unfold opW at h
  split at h <;> rename_i ho
  · obtain ⟨v, hv, h⟩ := om_elim h
    exact ⟨_, _, h, resX_value (by simp [execOp, ho, hA.ev hv])⟩
  · obtain ⟨v, hv, h⟩ := om_elim h
    exact ⟨_, _, h, resX_value (by simp [execOp, ho, hA.ev hv])⟩
  · obtain ⟨v, hv, h⟩ := om_elim h
    split at h
    · rename_i t
      cases t with
      | true =>
        obtain ⟨u, hu, h⟩ := om_elim h
        exact ⟨_, _, h, resX_value (by simp [execOp, ho, hA.ev hv, asBool, hA.ev hu])⟩
      | false =>
        obtain ⟨u, hu, h⟩ := om_elim h
        exact ⟨_, _, h, resX_value (by simp [execOp, ho, hA.ev hv, asBool, hA.ev hu])⟩
    · exact h.elim
  · obtain ⟨z, hz, h⟩ := om_elim h
    obtain ⟨zv, hzc, hzr⟩ := zero_cells hz
    exact ⟨_, _, h, resX_value (by simp [execOp, ho, Instr.alloc, hzr, newVar, newRow, hzc])⟩
  · obtain ⟨v, hv, h⟩ := om_elim h
    exact ⟨_, _, h, resX_value (by simp [execOp, ho, hA.ev hv, Instr.box, newVar, newRow])⟩
  · obtain ⟨vs, hv, h⟩ := om_elim h
    obtain ⟨v, hK, hr⟩ := buildW_run h
    exact ⟨_, _, hK, resX_value (by simp only [execOp, ho, map_evps hA hv, Sem.run_bind, hr, Result.andThen_ok, Sem.run_pure])⟩
  · obtain ⟨vs, hv, h⟩ := om_elim h
    obtain ⟨v, w', hK, hr⟩ := buildSliceW_run h
    exact ⟨_, _, hK, resX_value (by simp only [execOp, ho, map_evps hA hv, Sem.run_bind, hr, Result.andThen_ok, Sem.run_pure])⟩
  · obtain ⟨x, hx, h⟩ := om_elim h
    obtain ⟨v, hK, hr⟩ := loadW_run h
    exact ⟨_, _, hK, resX_value (by simp only [execOp, ho, hA.ev hx, Sem.run_bind, hr, Result.andThen_ok, Sem.run_pure])⟩
  · obtain ⟨p, hp, h⟩ := om_elim h
    obtain ⟨x, hx, h⟩ := om_elim h
    obtain ⟨w', hK, hr⟩ := storeW_run h
    exact ⟨_, _, hK, resX_skip (by simp only [execOp, ho, hA.ev hp, hA.ev hx, Sem.run_bind, hr, Result.andThen_ok, Sem.run_pure])⟩
  · obtain ⟨v, hv, h⟩ := om_elim h
    split at h
    · obtain ⟨p, rfl, h⟩ := optP_elim h
      exact ⟨_, _, h, resX_value (by simp [execOp, ho, hA.ev hv])⟩
    · exact ⟨_, _, h, resX_value (by simp [execOp, ho, hA.ev hv])⟩
    · exact h.elim
  · obtain ⟨x, hx, h⟩ := om_elim h
    obtain ⟨y, hy, h⟩ := om_elim h
    obtain ⟨v, hK, hr⟩ := binW_run h
    exact ⟨_, _, hK, resX_value (by simp only [execOp, ho, hA.ev hx, hA.ev hy]; rw [Sem.run_bind, hr w _ _]; rfl)⟩
  · obtain ⟨x, hx, h⟩ := om_elim h
    obtain ⟨v, hK, hr⟩ := unW_run (P := P) h
    exact ⟨_, _, hK, resX_value (by simp only [execOp, ho, hA.ev hx, Sem.run_bind, hr, Result.andThen_ok, Sem.run_pure])⟩
  · obtain ⟨x, hx, h⟩ := om_elim h
    obtain ⟨v, w', hK, hr⟩ := convW_run h
    exact ⟨_, _, hK, resX_value (by simp only [execOp, ho, hA.ev hx, Sem.run_bind, hr, Result.andThen_ok, Sem.run_pure])⟩
  · obtain ⟨fs, hf, h⟩ := om_elim h
    obtain ⟨cs, hc, h⟩ := om_elim h
    exact ⟨_, _, h, resX_value (by simp [execOp, ho, map_evs hA hf, map_evs hA hc, Instr.makeFunc])⟩
  · exact ⟨_, _, h, resX_value (by simp [execOp, ho, Instr.makeMap])⟩
  · obtain ⟨x, hx, h⟩ := om_elim h
    obtain ⟨l, hl, h⟩ := evo_elim hA h
    obtain ⟨u, hu, h⟩ := evo_elim hA h
    obtain ⟨v, hK, hr⟩ := sliceW_run h
    exact ⟨_, _, hK, resX_value (by simp only [execOp, ho, hA.ev hx, hl, hu, Option.map_none, Sem.run_bind, hr, Result.andThen_ok, Sem.run_pure])⟩
  · obtain ⟨x, hx, h⟩ := om_elim h
    obtain ⟨l, hl, h⟩ := evo_elim hA h
    obtain ⟨u, hu, h⟩ := evo_elim hA h
    obtain ⟨j, hj, h⟩ := om_elim h
    obtain ⟨v, w', hr, p, q, r, rfl, h⟩ := h
    exact ⟨_, _, h, resX_value (by simp only [execOp, ho, hA.ev hx, hl, hu, Option.map_some, hA.ev hj, Sem.run_bind, hr, Result.andThen_ok, Sem.run_pure])⟩
  · obtain ⟨x, hx, h⟩ := om_elim h
    obtain ⟨v, hK, hr⟩ := fieldW_run h
    exact ⟨_, _, hK, resX_value (by simp only [execOp, ho, hA.ev hx, Sem.run_bind, hr, Result.andThen_ok, Sem.run_pure])⟩
  · obtain ⟨x, hx, h⟩ := om_elim h
    obtain ⟨y, hy, h⟩ := om_elim h
    obtain ⟨v, hK, hr⟩ := indexW_run h
    exact ⟨_, _, hK, resX_value (by simp only [execOp, ho, hA.ev hx, hA.ev hy, Sem.run_bind, hr, Result.andThen_ok, Sem.run_pure])⟩
  · obtain ⟨x, hx, h⟩ := om_elim h
    obtain ⟨y, hy, h⟩ := om_elim h
    obtain ⟨v, hK, hr⟩ := idxW_run h
    exact ⟨_, _, hK, resX_value (by simp only [execOp, ho, hA.ev hx, hA.ev hy, Sem.run_bind, hr, Result.andThen_ok, Sem.run_pure])⟩
  · obtain ⟨x, hx, h⟩ := om_elim h
    split at h
    · obtain ⟨u, hu, h⟩ := om_elim h
      simp only [Array.getElem?_toList] at hu
      exact ⟨_, _, h, resX_value (by simp [execOp, ho, hA.ev hx, Instr.extract, hu])⟩
    · exact h.elim
  · obtain ⟨x, hx, h⟩ := om_elim h
    obtain ⟨y, hy, h⟩ := om_elim h
    obtain ⟨v, w', hr, p, q, r, rfl, h⟩ := h
    exact ⟨_, _, h, resX_value (by simp only [execOp, ho, hA.ev hx, hA.ev hy, Sem.run_bind, hr, Result.andThen_ok, Sem.run_pure])⟩
  · obtain ⟨x, hx, h⟩ := om_elim h
    obtain ⟨y, hy, h⟩ := om_elim h
    obtain ⟨v, w', hr, h⟩ := h
    obtain ⟨d, hd, h⟩ := om_elim h
    split at h
    · have h := resW_elim h
      exact ⟨_, _, h, resX_value (by simp only [execOp, ho, hA.ev hx, hA.ev hy, Sem.run_bind, hr, Result.andThen_ok, Sem.run_pure])⟩
    · exact h.elim
  · obtain ⟨x, hx, h⟩ := om_elim h
    obtain ⟨y, hy, h⟩ := om_elim h
    obtain ⟨z, hz, h⟩ := om_elim h
    obtain ⟨v, w', hr, h⟩ := h
    exact ⟨_, _, h, resX_skip (by simp only [execOp, ho, hA.ev hx, hA.ev hy, hA.ev hz, Sem.run_bind, hr, Result.andThen_ok, Sem.run_pure])⟩
  · obtain ⟨x, hx, h⟩ := om_elim h
    obtain ⟨v, w', hr, p, rfl, h⟩ := h
    exact ⟨_, _, h, resX_value (by simp only [execOp, ho, hA.ev hx, Sem.run_bind, hr, Result.andThen_ok, Sem.run_pure])⟩
  · obtain ⟨x, hx, h⟩ := om_elim h
    obtain ⟨v, w', hr, h⟩ := h
    exact ⟨_, _, h, resX_value (by simp only [execOp, ho, hA.ev hx, Sem.run_bind, hr, Result.andThen_ok, Sem.run_pure])⟩
  · obtain ⟨x, hx, h⟩ := om_elim h
    obtain ⟨v, w', hr, h⟩ := h
    exact ⟨_, _, h, resX_value (by simp only [execOp, ho, hA.ev hx, Sem.run_bind, hr, Result.andThen_ok, Sem.run_pure])⟩
  · rename_i c
    unfold callW at h
    split at h <;> rename_i hcal
    · obtain ⟨fv, hfv, h⟩ := om_elim h
      obtain ⟨args, hargs, h⟩ := om_elim h
      cases fv with
      | func f first cap =>
        cases f with
        | func g =>
          simp only at h
          obtain ⟨fn, hfn, h⟩ := om_elim h
          cases hb : fn.body.isSome with
          | false =>
            rw [hb] at h
            obtain ⟨v, w', hc, h⟩ := h
            refine ⟨v, w', resW_elim h, .inl ?_⟩
            simp only [execOp, ho, resolve, hcal, hA.ev hfv, map_evs hA hargs, Deferred.ofValue, Sem.run_bind, Sem.run_pure, Result.andThen_ok, invoke]
            rw [← hc]
            congr 2
            apply Array.ext'
            simp
          | true =>
            rw [hb] at h
            obtain ⟨v, w', hc, h⟩ := h
            refine ⟨v, w', resW_elim h, .inr (.inr ⟨g, _, w, ?_, hc⟩)⟩
            have hcf := callFunc_run (w := w) hN hfn hb ((first ++ (⟨args⟩ : Array Value)) ++ cap)
            simp only [execOp, ho, resolve, hcal, hA.ev hfv, map_evs hA hargs, Deferred.ofValue, Sem.run_bind, Sem.run_pure, Result.andThen_ok, invoke, hcf]
            congr 2
            apply Array.ext'
            simp
        | _ => exact h.elim
      | _ => exact h.elim
    · obtain ⟨args, hargs, h⟩ := om_elim h
      obtain ⟨v, w', hK, hr⟩ := builtinW_run h
      refine ⟨v, w', hK, resX_value ?_⟩
      simp only [execOp, ho, resolve, hcal, map_evs hA hargs, Sem.run_bind, Sem.run_pure, Result.andThen_ok, invoke, hr]
    · exact h.elim
  · exact h.elim
end
end Go.Proofs.YtnjmkhhaodgpbaaX
