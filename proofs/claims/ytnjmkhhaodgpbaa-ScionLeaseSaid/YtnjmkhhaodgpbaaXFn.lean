/- A function: what is told of its body is what a call comes to; the words that the texts of functions use. -/
import Derived.Test.YtnjmkhhaodgpbaaXBody
import Derived.KernelRfl
namespace Go.Proofs.YtnjmkhhaodgpbaaX
open Go.RowKit
set_option linter.unusedVariables false
set_option linter.unusedSimpArgs false

def argsEnv : Nat → List Value → Env
  | _, [] => Env.nil
  | i, v :: vs => (argsEnv (i + 1) vs).put (some i) v
def resultsW (P : Program) : List ResultVar → (List Value → Prop) → Env → World → Prop
  | [], K, _, _ => K []
  | .tmp t :: rs, K, ρ, w => om (ρ t) fun v => resultsW P rs (fun vs => K (v :: vs)) ρ w
  | .cell a t :: rs, K, ρ, w => om (ρ a) fun x => loadW P t x w fun v => resultsW P rs (fun vs => K (v :: vs)) ρ w
def oneV : List Value → Value
  | [v] => v
  | vs => .tuple ⟨vs⟩
def retC (P : Program) (fn : Func) (Q : Value → World → Prop) : Cont
  | .normal, _, ρ, w => resultsW P fn.results.toList (fun vs => Q (oneV vs) w) ρ w
  | .ret, _, ρ, w => resultsW P fn.results.toList (fun vs => Q (oneV vs) w) ρ w
  | _, _, _, _ => False
section
variable {P : Program} {n : Nat} {w : World}
theorem argsEnv_at : ∀ (vs : List Value) (i j : Nat) (v : Value), argsEnv i vs j = some v → i ≤ j ∧ vs[j - i]? = some v
  | [], _, _, _, h => by cases h
  | u :: vs, i, j, v, h => by
    simp only [argsEnv, Env.put] at h
    cases hb : Nat.beq j i with
    | true =>
      rw [hb] at h
      have := Nat.eq_of_beq_eq_true hb
      subst this
      simp only [cond_true, Option.some.injEq] at h
      subst h
      exact ⟨Nat.le_refl _, by simp⟩
    | false =>
      rw [hb] at h
      have hne : j ≠ i := fun e => by subst e; simp at hb
      obtain ⟨h1, h2⟩ := argsEnv_at vs (i + 1) j v h
      exact ⟨by omega, by rw [show j - i = (j - (i + 1)) + 1 by omega]; simpa using h2⟩
theorem agree_args {args : List Value} (h : args.length ≤ n) : Agree n (argsEnv 0 args) { tmps := (⟨args⟩ : Array Value) ++ Array.replicate (n - (⟨args⟩ : Array Value).size) undef, defers := [] } := by
  refine ⟨by simp; omega, fun i v hi => ?_, rfl⟩
  obtain ⟨_, h2⟩ := argsEnv_at args 0 i v hi
  simp only [Nat.sub_zero] at h2
  have hlt : i < args.length := (List.getElem?_eq_some_iff.1 h2).1
  rw [Array.getElem?_append_left (by simpa using hlt)]
  simpa using h2
def resStep (tmps : Array Value) : ResultVar → Sem Value
  | .tmp t => pure (tmps.getD t undef)
  | .cell a t => do loadVar t (← asAddr (tmps.getD a undef))
theorem results_eq (fn : Func) (tmps : Array Value) : results fn tmps = (do
    let vs ← fn.results.mapM (resStep tmps)
    pure (if h : vs.size = 1 then vs[0] else .tuple vs) : Sem Value) := by
  unfold results
  congr 1
theorem resultsW_run {ρ : Env} {a : Act} (hA : Agree n ρ a) : ∀ (rs : List ResultVar) {K : List Value → Prop}, resultsW P rs K ρ w → ∃ vs, K vs ∧ (rs.mapM (resStep a.tmps)).run P w = .ok vs w
  | [], K, h => ⟨[], h, rfl⟩
  | .tmp t :: rs, K, h => by
    obtain ⟨v, hv, h⟩ := om_elim h
    obtain ⟨vs, hK, hr⟩ := resultsW_run hA rs h
    have hat := hA.at_ t v hv
    refine ⟨v :: vs, hK, ?_⟩
    have h1 : (resStep a.tmps (.tmp t)).run P w = .ok v w := by simp [resStep, Array.getD_eq_getD_getElem?, hat]
    simp only [List.mapM_cons, Sem.run_bind, h1, Result.andThen_ok, hr, Sem.run_pure]
  | .cell x t :: rs, K, h => by
    obtain ⟨v, hv, h⟩ := om_elim h
    obtain ⟨u, h, hl⟩ := loadW_run h
    obtain ⟨vs, hK, hr⟩ := resultsW_run hA rs h
    have hat := hA.at_ x v hv
    refine ⟨u :: vs, hK, ?_⟩
    have h1 : (resStep a.tmps (.cell x t)).run P w = .ok u w := by
      simp only [resStep, Array.getD_eq_getD_getElem?, hat, Option.getD_some]
      cases v with
      | pointer p =>
        cases p with
        | none => simp [Instr.loadAt, Instr.sureAddr] at hl
        | some p => simpa [Instr.loadAt, Instr.sureAddr, asAddr] using hl
      | _ => simp [Instr.loadAt, Instr.sureAddr] at hl
    simp only [List.mapM_cons, Sem.run_bind, h1, Result.andThen_ok, hr, Sem.run_pure]
theorem retC_run {fn : Func} {Q : Value → World → Prop} {ρ : Env} {a : Act} (hA : Agree n ρ a) (h : resultsW P fn.results.toList (fun vs => Q (oneV vs) w) ρ w) : ∃ v, Q v w ∧ (results fn a.tmps).run P w = .ok v w := by
  obtain ⟨vs, hQ, hr⟩ := resultsW_run hA _ h
  refine ⟨_, hQ, ?_⟩
  rw [results_eq, Array.mapM_eq_mapM_toList]
  simp only [Sem.run_bind, Sem.run_map, hr, Result.andThen_ok, Sem.run_pure]
  congr 1
  cases vs with
  | nil => rfl
  | cons v vs => cases vs <;> rfl
theorem calls_of_ex {f : FuncId} {fn : Func} {c : Code} {args : Array Value} {e : Exit} {a' : Act} {w' : World} {v : Value} (hf : P.funcs[f]? = some fn) (hb : fn.body = some c)
    (h : Ex P f c { tmps := args ++ Array.replicate (fn.ntmps - args.size) undef, defers := [] } w e a' w') (he : e = .normal ∨ e = .ret) (hd : a'.defers = []) (hr : (results fn a'.tmps).run P w' = .ok v w') : CallX P f args w v w' := by
  intro cs
  let b : Frame := { (default : Frame) with fn := f, kind := .normal }
  have henter : Frame.enter P f args .normal = b.at { tmps := args ++ Array.replicate (fn.ntmps - args.size) undef, defers := [] } [.code c] := by
    simp [Frame.enter, Frame.at, hf, hb, b]
  have harr := h b rfl [] cs
  rw [← henter] at harr
  rcases he with rfl | rfl
  · exact ⟨.returned v, w', _, ⟨rfl, rfl⟩, Steps.trans harr (.one step_end), rfl, rfl, hd, rfl, fn, hf, hr⟩
  · obtain ⟨todo, hs⟩ := harr
    exact ⟨.returned v, w', _, ⟨rfl, rfl⟩, hs, rfl, rfl, hd, rfl, fn, hf, hr⟩
theorem fn_sound (hN : NoGr P) (hM : P.follows .mixedOrders = true) {f : FuncId} {fn : Func} {c : Code} {args : List Value} {Q : Value → World → Prop} {an : Ann} {S : Segs} {φ : Fuel} (hf : P.funcs[f]? = some fn) (hb : fn.body = some c)
    (hargs : Nat.ble args.length fn.ntmps = true) (hok : okAnn fn.ntmps an c = true) (hv : V P S an c (retC P fn Q)) (h : W P S an c (retC P fn Q) φ (argsEnv 0 args) w) : CallR P f ⟨args⟩ w Q := by
  obtain ⟨e, φ', ρ', a', w', hx, hA', hK, _⟩ := sound f hN hM an c _ hok hv φ _ w h _ (agree_args (Nat.le_of_ble_eq_true hargs))
  have hd := hA'.defers
  cases e with
  | normal =>
    obtain ⟨v, hQ, hr⟩ := retC_run hA' hK
    exact ⟨v, w', calls_of_ex hf hb hx (.inl rfl) hd hr, hQ⟩
  | ret =>
    obtain ⟨v, hQ, hr⟩ := retC_run hA' hK
    exact ⟨v, w', calls_of_ex hf hb hx (.inr rfl) hd hr, hQ⟩
  | _ => exact hK.elim
end

/-! ### The words of a function's text -/
def ldI (k : IntKind) (w : World) (p : Addr) (K : Int → Prop) : Prop := ∃ x : Int, w.cell? p = some (.int k x) ∧ K x
def ldB (w : World) (p : Addr) (K : Bool → Prop) : Prop := ∃ x : Bool, w.cell? p = some (.bool x) ∧ K x
def ldS (w : World) (p : Addr) (K : ByteArray → Prop) : Prop := ∃ x : ByteArray, w.cell? p = some (.string x) ∧ K x
def ldP (w : World) (p : Addr) (K : Option Addr → Prop) : Prop := ∃ x : Option Addr, w.cell? p = some (.pointer x) ∧ K x
def ldSl (w : World) (p : Addr) (K : Option Addr → Nat → Nat → Prop) : Prop := ∃ (x : Option Addr) (n c : Nat), w.cell? p = some (.slice x n c) ∧ K x n c
def ldM (w : World) (p : Addr) (K : Option Nat → Prop) : Prop := ∃ x : Option Nat, w.cell? p = some (.map x) ∧ K x
def ldV (w : World) (p : Addr) (K : Value → Prop) : Prop := ∃ x : Value, w.cell? p = some x ∧ K x
def newK (w : World) (cs : Array Value) (e : TypeId) (K : Addr → World → Prop) : Prop := K ⟨w.heap.size, 0, none⟩ (w.alloc (.cells cs e))
def newM (w : World) (K : Nat → World → Prop) : Prop := K w.heap.size (w.alloc (.map #[] 0))
def drewK (w : World) (K : World → Prop) : Prop := K w.drew
def stK (w : World) (p : Addr) (v : Value) (K : World → Prop) : Prop := StoreOk w p ∧ K (w.setCell p v)
def stAll (w : World) (p : Addr) (vs : List Value) (K : World → Prop) : Prop := AllOk w p vs.length ∧ K (putAll w p 0 vs)
theorem ldI_eq {k : IntKind} {w : World} {p : Addr} {x : Int} {K : Int → Prop} (h : w.cell? p = some (.int k x)) : ldI k w p K = K x := by
  simp [ldI, h]
theorem ldB_eq {w : World} {p : Addr} {x : Bool} {K : Bool → Prop} (h : w.cell? p = some (.bool x)) : ldB w p K = K x := by
  simp [ldB, h]
theorem ldS_eq {w : World} {p : Addr} {x : ByteArray} {K : ByteArray → Prop} (h : w.cell? p = some (.string x)) : ldS w p K = K x := by
  simp [ldS, h]
theorem ldP_eq {w : World} {p : Addr} {x : Option Addr} {K : Option Addr → Prop} (h : w.cell? p = some (.pointer x)) : ldP w p K = K x := by
  simp [ldP, h]
theorem ldSl_eq {w : World} {p : Addr} {x : Option Addr} {n c : Nat} {K : Option Addr → Nat → Nat → Prop} (h : w.cell? p = some (.slice x n c)) : ldSl w p K = K x n c := by
  apply propext
  constructor
  · rintro ⟨x', n', c', h', hk⟩
    rw [h] at h'
    injection h' with h'
    injection h' with h1 h2 h3
    subst h1; subst h2; subst h3
    exact hk
  · exact fun hk => ⟨x, n, c, h, hk⟩
theorem ldM_eq {w : World} {p : Addr} {x : Option Nat} {K : Option Nat → Prop} (h : w.cell? p = some (.map x)) : ldM w p K = K x := by
  simp [ldM, h]
theorem ldV_eq {w : World} {p : Addr} {x : Value} {K : Value → Prop} (h : w.cell? p = some x) : ldV w p K = K x := by
  simp [ldV, h]

/-! ### The values at a join, by their patterns -/
def qI (k : IntKind) (o : Option Value) (K : Int → Prop) : Prop := match o with
  | some (.int k' x) => if k' = k then K x else False
  | _ => False
def qB (o : Option Value) (K : Bool → Prop) : Prop := match o with
  | some (.bool x) => K x
  | _ => False
def qS (o : Option Value) (K : ByteArray → Prop) : Prop := match o with
  | some (.string x) => K x
  | _ => False
def qP (o : Option Value) (K : Option Addr → Prop) : Prop := match o with
  | some (.pointer x) => K x
  | _ => False
def qA (o : Option Value) (K : Addr → Prop) : Prop := match o with
  | some (.pointer (some x)) => K x
  | _ => False
def qSl (o : Option Value) (K : Option Addr → Nat → Nat → Prop) : Prop := match o with
  | some (.slice x n c) => K x n c
  | _ => False
def qM (o : Option Value) (K : Option Nat → Prop) : Prop := match o with
  | some (.map x) => K x
  | _ => False
def qMs (o : Option Value) (K : Nat → Prop) : Prop := match o with
  | some (.map (some x)) => K x
  | _ => False
def qV (o : Option Value) (K : Value → Prop) : Prop := match o with
  | some x => K x
  | _ => False
def qL (o : Option Value) (K : List Value → Prop) : Prop := match o with
  | some (.agg ⟨vs⟩) => K vs
  | _ => False
def qT (o : Option Value) (K : List Value → Prop) : Prop := match o with
  | some (.tuple ⟨vs⟩) => K vs
  | _ => False
def qF (f : FuncId) (o : Option Value) (K : List Value → Prop) : Prop := match o with
  | some (.func (.func g) ⟨[]⟩ ⟨vs⟩) => bif Nat.beq g f then K vs else False
  | _ => False
def qC (l : List Value) (K : Option Value → List Value → Prop) : Prop := match l with
  | v :: l => K (some v) l
  | [] => False
def qN (l : List Value) (K : Prop) : Prop := match l with
  | [] => K
  | _ => False
theorem qI_elim {k : IntKind} {o : Option Value} {K : Int → Prop} (h : qI k o K) : ∃ x, o = some (.int k x) ∧ K x := by
  unfold qI at h
  split at h
  · split at h
    · rename_i hk; subst hk; exact ⟨_, rfl, h⟩
    · exact h.elim
  · exact h.elim
theorem qB_elim {o : Option Value} {K : Bool → Prop} (h : qB o K) : ∃ x, o = some (.bool x) ∧ K x := by
  unfold qB at h
  split at h
  · exact ⟨_, rfl, h⟩
  · exact h.elim
theorem qS_elim {o : Option Value} {K : ByteArray → Prop} (h : qS o K) : ∃ x, o = some (.string x) ∧ K x := by
  unfold qS at h
  split at h
  · exact ⟨_, rfl, h⟩
  · exact h.elim
theorem qP_elim {o : Option Value} {K : Option Addr → Prop} (h : qP o K) : ∃ x, o = some (.pointer x) ∧ K x := by
  unfold qP at h
  split at h
  · exact ⟨_, rfl, h⟩
  · exact h.elim
theorem qA_elim {o : Option Value} {K : Addr → Prop} (h : qA o K) : ∃ x, o = some (.pointer (some x)) ∧ K x := by
  unfold qA at h
  split at h
  · exact ⟨_, rfl, h⟩
  · exact h.elim
theorem qSl_elim {o : Option Value} {K : Option Addr → Nat → Nat → Prop} (h : qSl o K) : ∃ x n c, o = some (.slice x n c) ∧ K x n c := by
  unfold qSl at h
  split at h
  · exact ⟨_, _, _, rfl, h⟩
  · exact h.elim
theorem qM_elim {o : Option Value} {K : Option Nat → Prop} (h : qM o K) : ∃ x, o = some (.map x) ∧ K x := by
  unfold qM at h
  split at h
  · exact ⟨_, rfl, h⟩
  · exact h.elim
theorem qMs_elim {o : Option Value} {K : Nat → Prop} (h : qMs o K) : ∃ x, o = some (.map (some x)) ∧ K x := by
  unfold qMs at h
  split at h
  · exact ⟨_, rfl, h⟩
  · exact h.elim
theorem qV_elim {o : Option Value} {K : Value → Prop} (h : qV o K) : ∃ x, o = some x ∧ K x := by
  unfold qV at h
  split at h
  · exact ⟨_, rfl, h⟩
  · exact h.elim
theorem qL_elim {o : Option Value} {K : List Value → Prop} (h : qL o K) : ∃ vs, o = some (.agg ⟨vs⟩) ∧ K vs := by
  unfold qL at h
  split at h
  · exact ⟨_, rfl, h⟩
  · exact h.elim
theorem qT_elim {o : Option Value} {K : List Value → Prop} (h : qT o K) : ∃ vs, o = some (.tuple ⟨vs⟩) ∧ K vs := by
  unfold qT at h
  split at h
  · exact ⟨_, rfl, h⟩
  · exact h.elim
theorem qF_elim {f : FuncId} {o : Option Value} {K : List Value → Prop} (h : qF f o K) : ∃ vs, o = some (.func (.func f) ⟨[]⟩ ⟨vs⟩) ∧ K vs := by
  unfold qF at h
  split at h
  · rename_i g vs
    cases hb : Nat.beq g f with
    | true => rw [hb] at h; have := Nat.eq_of_beq_eq_true hb; subst this; exact ⟨_, rfl, h⟩
    | false => rw [hb] at h; exact h.elim
  · exact h.elim
theorem qC_elim {l : List Value} {K : Option Value → List Value → Prop} (h : qC l K) : ∃ v l', l = v :: l' ∧ K (some v) l' := by
  unfold qC at h
  split at h
  · exact ⟨_, _, rfl, h⟩
  · exact h.elim
theorem qN_elim {l : List Value} {K : Prop} (h : qN l K) : l = [] ∧ K := by
  unfold qN at h
  split at h
  · exact ⟨rfl, h⟩
  · exact h.elim
end Go.Proofs.YtnjmkhhaodgpbaaX
