/- New; which requests may be. -/
import Derived.Test.YtdgoalhnkegbmaaL20Config
namespace Go.Proofs.YtdgoalhnkegbmaaX
open Go.RowKit
set_option linter.unusedVariables false
set_option linter.unusedSimpArgs false
set_option maxRecDepth 100000
def newC (c : Cfg) (node last : Int) : Cs := ⟨c, node, last, List.replicate (c.nodes + 1).toNat last, 0, []⟩
def newOk (c : Cfg) (node last : Int) : Prop := mayB c = true ∧ ¬ node < 1 ∧ ¬ node > c.nodes ∧ ¬ last > 72057594037927935
theorem may_calls {c : Cfg} (h : mayB c = true) : 1 ≤ c.calls ∧ c.calls ≤ 16 ∧ 1 ≤ c.window ∧ c.window ≤ 8 := by
  simp only [mayB, mayC, Bool.and_eq_true] at h
  have h1 := h.1.1.1.2.1.1.1.1.2
  have h2 := h.1.1.1.2.1.1.1.2
  unfold inB at h1 h2
  split at h1
  · split at h2
    · simp at h1 h2; omega
    · cases h2
  · cases h1
theorem makeU {w : World} {n : Nat} {K : Value → World → Prop} (hn : n ≤ 100000) (hK : ∀ p w', Own 22 1 w' (some p) n n (List.replicate n (Value.int .u64 0)) → Fr [] w w' → w.heap.size ≤ p.block → K (.slice (some p) n n) w') :
    RunR Try.prog (Instr.makeSlice 45 (.int .i64 (n : Int)) (.int .i64 (n : Int))) w K := by
  have hi : Try.prog.info? 22 = some Try.t22 := by kernel_rfl
  have hz : Try.t22.zero = some (Value.int .u64 0) := by kernel_rfl
  have hby : Try.t22.bytes = 8 := by kernel_rfl
  have hsz : Try.t22.size = 1 := by kernel_rfl
  have hu : Try.prog.underlying 45 = some (.slice 22) := by kernel_rfl
  have hmx : n ≤ maxLen := by simp only [maxLen]; omega
  obtain ⟨w', hr, ho, hg⟩ := run_make_full (P := Try.prog) w 0 45 22 Try.t22 (Value.int .u64 0) 1 hu hi hz hsz .i64 .i64 n (by rw [hby]; omega) hmx (Nat.zero_le _)
  refine ⟨_, _, hr, hK _ w' ?_ (Fr.grown hg (fun k hk => by cases hk)) (Nat.le_refl _)⟩
  have e : (madeCells (Value.int .u64 0).cells (n * 1)).toList = List.replicate n (Value.int .u64 0) := by
    rw [Nat.mul_one]
    exact toList_madeCells_one _ _
  rw [e] at ho
  exact ho
section
variable {w w' W : World} {Q : Value → World → Prop} {g gs gx gt : Nat} {ft al : List Nat} {S : Cs} {c : Cfg} {node last : Int}
theorem new_l0 {lp : Option Addr} {lc n : Nat} (hn : n ≤ 100000) (hgl : g ∉ fbl lp)
    (hK : ∀ w', Blk w' g (c.cells ++ [.int .i64 node, .int .u64 last, .slice lp n lc, .pointer (some (at0 gt 0)), .int .u64 0]) 74 → Own 22 1 w' lp n lc ((List.replicate n last).map (Value.int .u64)) → Fr (fbl lp) W w' → Q (.tuple #[.pointer (some (at0 g 0)), .int .i64 0]) w') :
    ∀ (f i : Nat) (w : World) (vs : List Int), n - i < f → i ≤ n → vs.length = n → (∀ j, j < i → vs[j]? = some last) → Blk w g (c.cells ++ [.int .i64 node, .int .u64 last, .slice lp n lc, .pointer (some (at0 gt 0)), .int .u64 0]) 74 → Own 22 1 w lp n lc (vs.map (Value.int .u64)) → Fr (fbl lp) W w → X10.l0 Q f last (at0 g 0) (n : Int) (i : Int) w
  | 0, i, w, vs, hf, _, _, _, _, _, _ => by omega
  | f + 1, i, w, vs, hf, hi, hv, hs, b, o, F => by
    rw [X10.l0]
    refine bc_dec (fun h1 => ld_sl (b.cat 24 _ rfl) ⟨⟨by omega, by omega⟩, ?_⟩) (fun h1 => ?_)
    · cases lp with
      | none => have := o.none_c.1; omega
      | some a =>
        have hlt : i < (vs.map (Value.int .u64)).length := by simp; omega
        refine opt_some rfl ?_
        rw [Int.toNat_natCast, Nat.mul_one]
        have f1 : Fr (fbl (some a)) w (w.setCell (a.add i) (.int .u64 last)) := Fr.setCell (by rw [add_block]; simp [fbl]) _
        refine ⟨o.storeOk hlt, ?_⟩
        rw [i64w ((i : Int) + 1) (by omega) (by omega), show (i : Int) + 1 = ((i + 1 : Nat) : Int) by omega]
        refine new_l0 hn hgl hK f (i + 1) _ (vs.set i last) (by omega) (by omega) (by simp [hv]) (fun j hj => ?_) (b.keep f1 hgl) ?_ (F.tr f1)
        · rw [List.getElem?_set]
          by_cases h : i = j
          · rw [if_pos h, if_pos (by omega)]
          · rw [if_neg h]; exact hs j (by omega)
        · have := o.set hlt (.int .u64 last)
          rw [List.map_set]
          exact this
    · have hin : i = n := by omega
      subst hin
      have : vs = List.replicate i last := by
        apply List.ext_getElem?
        intro j
        by_cases hj : j < i
        · rw [hs j hj, List.getElem?_replicate, if_pos hj]
        · rw [List.getElem?_eq_none (by omega), List.getElem?_replicate, if_neg hj]
      rw [this] at o
      exact hK w b o F
theorem new_spec (h0 : 0 ≤ c.drift) (hbad : ¬ newOk c node last → ∀ w', Fr [] w w' → Q (.tuple #[.pointer none, .int .i64 1]) w')
    (hK : newOk c node last → ∀ g ft al w', PC w' g ft al (newC c node last) → Fr [] w w' → (∀ x ∈ al, w.heap.size ≤ x) → Q (.tuple #[.pointer (some (at0 g 0)), .int .i64 0]) w') :
    CallR Try.prog 10 #[c.val, .int .i64 node, .int .u64 last] w Q := by
  apply X10.sound
  unfold X10.f
  refine newB fun g1 w2 b f2 _ => ?_
  have b : Blk w2 g1 c.cells 31 := b
  refine ld_Cfg (s := c) b.cat (may_spec fun w26 f26 => ⟨_, rfl, ?_⟩)
  have F := f2.tr f26
  have b26 := b.keep' f26
  refine bc_bool (fun h => hbad (fun hn => by rw [hn.1] at h; cases h) _ F) (fun h => bc_dec (fun h1 => hbad (fun hn => hn.2.1 h1) _ F) (fun h1 => ld_int (b26.cat 0 _ rfl) (bc_dec (fun h2 => hbad (fun hn => hn.2.2.1 h2) _ F) (fun h2 => bc_dec (fun h3 => hbad (fun hn => hn.2.2.2 h3) _ F) (fun h3 => ?_)))))
  have hm : mayB c = true := by simpa using h
  have hs := may_calls hm
  have hn := may_nodes hm
  unfold X10.j1
  refine ld_int (b26.cat 6 _ rfl) (new_CB (fun hb => by omega) fun _ _ w3 t3 f3 => ⟨_, _, rfl, bc_ne (fun h => absurd rfl h) (fun _ => drawn fun w6 f6 _ => ?_)⟩)
  have b6 := b26.keep' (f3.tr f6)
  have F6 := F.tr (f3.tr f6)
  refine ld_Cfg (s := c) b6.cat (ld_int (b6.cat 0 _ rfl) ?_)
  have en : IntKind.wrap .i64 (c.nodes + 1) = (((c.nodes + 1).toNat : Nat) : Int) := by rw [i64w _ (by omega) (by omega)]; omega
  rw [en]
  refine makeU (by omega) fun p w31 o31 f31 hp => ⟨_, _, _, rfl, ⟨b6.cat, (b6.keep' f31).cat⟩, newB fun g w34 b34 f34 h34 => ?_⟩
  have z := F.size
  have z3 := f3.size
  have z6 := f6.size
  have z31 := f31.size
  have F34 := F6.tr (f31.tr f34)
  have hlp := o31.lt
  have hpb : p.block < w31.heap.size := hlp _ (by simp [fbl])
  have b34 : Blk w34 g (c.cells ++ [.int .i64 node, .int .u64 last, .slice (some p) (c.nodes + 1).toNat (c.nodes + 1).toNat, .pointer (some (at0 w26.heap.size 0)), .int .u64 0]) 74 := b34
  have t34 := (t3.keep' f6).keep' (f31.tr f34)
  refine ld_sl (b34.cat 24 _ rfl) ⟨(c.nodes + 1).toNat + 1, ?_⟩
  have hgp : g ∉ fbl (some p) := fun hm => by simp [fbl] at hm; omega
  refine new_l0 (W := w34) (c := c) (gt := w26.heap.size) (by omega) hgp (fun w' bw ow Fw => ?_) _ 0 w34 (List.replicate (c.nodes + 1).toNat 0) (by omega) (by omega) (by simp) (fun j hj => by omega) b34 (by rw [List.map_replicate]; exact o31.keep' f34) (Fr.refl _)
  have z34 := f34.size
  have zw := Fw.size
  have lt3 : w26.heap.size < w3.heap.size := t3.lt _ (by simp)
  have lg := b34.lt
  have nrt : ∀ x ∈ [w26.heap.size], x ∉ fbl (some p) := fun x hx hm => by simp [fbl] at hx hm; omega
  have Fall : Fr [] w w' := F34.trans Fw (fun x hx => by simp [fbl] at hx; exact .inr (by omega))
  have tw := t34.keep Fw nrt
  refine hK ⟨hm, h1, h2, h3⟩ g (g :: (fbl (some p) ++ [w26.heap.size])) (g :: (fbl (some p) ++ [w26.heap.size])) w' ⟨some p, (c.nodes + 1).toNat, w26.heap.size, [w26.heap.size], [], ⟨?_, ?_, tw, ⟨rfl, fun i e he => by simp at he⟩, rfl, hgp, fun hx => ?_, fun x hx hm => nrt x hm hx, fun x hx => hx, fun x hx => ?_, ?_⟩⟩ Fall (fun x hx => ?_)
  · unfold ccells newC
    simp only [List.length_replicate]
    exact bw
  · unfold newC
    simp only [List.length_replicate]
    exact ow
  · simp at hx; omega
  · simp [fbl] at hx; omega
  · unfold newC
    simp only [List.length_replicate]
    omega
  · simp [fbl] at hx; omega
theorem right_ask {y : Cp} {fl : Int} (h1 : 1 ≤ S.node ∧ S.node ≤ 64) (h2 : 1 ≤ y.to ∧ y.to ≤ 64) (h3 : S.node ≠ y.to) (h4 : okSerial y.num) (h5 : 1 ≤ fl ∧ fl ≤ y.num) (h6 : 1 ≤ y.op ∧ y.op ≤ 6) (h7 : 0 ≤ y.field ∧ y.field ≤ 63)
    (h8 : okID (y.tn, y.ts)) (h9 : noID (y.tn, y.ts) ↔ (y.op = 1 ∨ y.op = 6)) (h10 : (∀ x ∈ y.refs, okID x) ∧ y.refs.length ≤ 2) : Right (askM S y fl) := by
  have k : (askM S y fl).kind = 1 := rfl
  refine ⟨by rw [k]; decide, h1, h2, h3, fun i hi => ?_⟩
  unfold okF
  rw [k]
  match i, hi with
  | 0, _ => rw [if_pos (by decide)]; exact h4
  | 1, _ => rw [if_pos (by decide)]; exact h5
  | 2, _ => rw [if_neg (by decide)]; rfl
  | 3, _ => rw [if_pos (by decide)]; exact h6
  | 4, _ => rw [if_pos (by decide)]; exact h7
  | 5, _ => rw [if_pos (by decide)]; exact ⟨h8, by unfold aimsNone; rw [k]; simp; exact h9⟩
  | 6, _ => rw [if_neg (by decide)]; rfl
  | 7, _ => rw [if_neg (by decide)]; rfl
  | 8, _ => rw [if_neg (by decide)]; rfl
  | 9, _ => rw [if_neg (by decide)]; rfl
  | 10, _ => rw [if_neg (by decide)]; rfl
  | 11, _ => rw [if_pos (by decide)]; trivial
  | 12, _ => rw [if_pos (by decide)]; exact h10
  | 13, _ => rw [if_neg (by decide)]; rfl
  | 14, _ => rw [if_neg (by decide)]; rfl
end
end Go.Proofs.YtdgoalhnkegbmaaX
