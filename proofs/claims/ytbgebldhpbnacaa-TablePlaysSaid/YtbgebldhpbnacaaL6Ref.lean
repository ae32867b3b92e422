/- The document's own table: what it lies as, and what its calls come to. -/
import Derived.Test.YtbgebldhpbnacaaTLocUI
import Derived.Test.YtbgebldhpbnacaaL6Full
namespace Go.Proofs.YtbgebldhpbnacaaX
open Go.RowKit
set_option linter.unusedVariables false
set_option linter.unusedSimpArgs false
set_option maxRecDepth 100000
abbrev ku (l : KV) : List Value := (keys l).map (Value.int .u64)
structure RefS (w : World) (g : Nat) (foot : List Nat) (most : Int) (l : KV) (pk pv : Option Addr) (ck cv : Nat) : Prop where
  blk : Blk w g [.int .i64 most, .slice pk l.length ck, .slice pv l.length cv] 61
  ks : Own 36 1 w pk l.length ck (ku l)
  vs : Own 3 1 w pv l.length cv (l.flatMap vc_UI)
  ft : foot = g :: (fbl pk ++ fbl pv)
  gk : g ∉ fbl pk
  gv : g ∉ fbl pv
  kv : ∀ x ∈ fbl pk, x ∉ fbl pv
  srt : Srt ilt (keys l)
  top : l.length ≤ 4096
def Ref (w : World) (g : Nat) (foot : List Nat) (most : Int) (l : KV) : Prop := ∃ pk pv ck cv, RefS w g foot most l pk pv ck cv
section
variable {w w' : World} {g : Nat} {foot S : List Nat} {most : Int} {l : KV} {Q : Value → World → Prop}
theorem Ref.keep (h : Ref w g foot most l) (f : Fr S w w') (hd : ∀ x ∈ foot, x ∉ S) : Ref w' g foot most l := by
  obtain ⟨pk, pv, ck, cv, t⟩ := h
  refine ⟨pk, pv, ck, cv, t.blk.keep f (hd g ?_), t.ks.keep f (fun x hx => hd x ?_), t.vs.keep f (fun x hx => hd x ?_), t.ft, t.gk, t.gv, t.kv, t.srt, t.top⟩ <;> rw [t.ft] <;> simp_all
theorem Ref.keep' (h : Ref w g foot most l) (f : Fr [] w w') : Ref w' g foot most l := h.keep f (by simp)
theorem Ref.lt (h : Ref w g foot most l) : ∀ x ∈ foot, x < w.heap.size := by
  obtain ⟨pk, pv, ck, cv, t⟩ := h
  intro x hx
  rw [t.ft] at hx
  rcases List.mem_cons.1 hx with rfl | hx
  · exact t.blk.lt
  · rcases List.mem_append.1 hx with hx | hx
    · exact t.ks.lt x hx
    · exact t.vs.lt x hx
theorem Ref.srt (h : Ref w g foot most l) : Srt ilt (keys l) := by obtain ⟨pk, pv, ck, cv, t⟩ := h; exact t.srt
theorem place_l0 {pk pv : Option Addr} {ck cv : Nat} {k : Int} (t : RefS w g foot most l pk pv ck cv) (hK : ∀ w', Fr [] w w' → Q (.tuple #[.int .i64 (at_ ilt l k : Int), .bool (has ilt l k)]) w') :
    ∀ (f i : Nat), l.length - i < f → i ≤ at_ ilt l k → X49.l0 Q f (some (at0 g 0)) k (i : Int) w
  | 0, i, hf, _ => by omega
  | f + 1, i, hf, hi => by
    have hal := at_le (lt := ilt) l k
    have htop := t.top
    rw [X49.l0]
    simp only [optP_some, add_at, Nat.zero_add]
    refine ld_sl (t.blk.cell rfl) (bc_dec (fun h1 => ?_) (fun h1 => ?_))
    · have hk : i < (keys l).length := by simp; omega
      have hg := List.getElem?_eq_getElem hk
      generalize (keys l)[i] = x at hg
      obtain ⟨q, hq, c⟩ := cell_43 t.ks.cells hg
      refine ld_sl (t.blk.cell rfl) ⟨⟨by omega, by omega⟩, opt_some hq (ld_int (by rw [Int.toNat_natCast]; exact c) (bc_dec (fun h2 => ?_) (fun h2 => ?_)))⟩
      · have hat : i = at_ ilt l k := by
          by_cases h : i < at_ ilt l k
          · have := rank_lt (lt := ilt) h hg; simp [ilt] at this; omega
          · omega
        unfold drewK
        have f0 : Fr [] w w.drew := Fr.drew
        obtain ⟨q', hq', c'⟩ := cell_43 (t.ks.keep' f0).cells hg
        refine ld_sl ((t.blk.keep' f0).cell rfl) ⟨⟨by omega, by omega⟩, opt_some hq' (ld_int (by rw [Int.toNat_natCast]; exact c') ?_)⟩
        have hh : has ilt l k = (x == k) := by
          unfold has
          rw [← hat, hg]
          by_cases e : x = k <;> simp [e]
        rw [← hh, hat]
        exact hK _ f0
      · have hlt : i < at_ ilt l k := by
          by_cases h : at_ ilt l k ≤ i
          · have := rank_ge ilt_lin t.srt h hg; simp [ilt] at this; omega
          · omega
        rw [show IntKind.wrap .i64 ((i : Int) + 1) = ((i + 1 : Nat) : Int) by rw [i64w _ (by omega) (by omega)]; omega]
        exact place_l0 t hK f (i + 1) (by omega) (by omega)
    · have hat : at_ ilt l k = l.length := by omega
      refine ld_sl (t.blk.cell rfl) ?_
      have hh : has ilt l k = false := by
        cases e : has ilt l k with
        | false => rfl
        | true => have := at_lt e; omega
      have := hK w (Fr.refl w)
      rw [hh, hat] at this
      exact this
theorem place_spec {k : Int} (h : Ref w g foot most l) (hK : ∀ w', Fr [] w w' → Q (.tuple #[.int .i64 (at_ ilt l k : Int), .bool (has ilt l k)]) w') : CallR Try.prog 49 #[.pointer (some (at0 g 0)), .int .u64 k] w Q := by
  obtain ⟨pk, pv, ck, cv, t⟩ := h
  refine X49.sound _ _ _ _ ?_
  exact ⟨l.length + 1, place_l0 t hK _ 0 (by omega) (by omega)⟩
def itup (o : Option Int) : Value := .tuple #[.int .i64 (o.getD 0), .bool o.isSome]
theorem rget_spec {k : Int} (h : Ref w g foot most l) (hK : ∀ w', Fr [] w w' → Q (itup (get ilt l k)) w') : CallR Try.prog 27 #[.pointer (some (at0 g 0)), .int .u64 k] w Q := by
  have h0 := h
  obtain ⟨pk, pv, ck, cv, t⟩ := h
  refine X27.sound _ _ _ _ (place_spec h0 fun w' f => ⟨_, _, rfl, ?_⟩)
  have hk := hK w' f
  unfold get at hk
  have htop := t.top
  refine bc_bool (fun hh => ?_) (fun hh => ?_)
  · rw [if_pos hh] at hk
    have hlt := at_lt hh
    have hi := List.getElem?_eq_getElem hlt
    simp only [optP_some, add_at, Nat.zero_add]
    obtain ⟨p, hp, hc⟩ := (t.vs.keep' f).cells _ _ (flat_get vc_len_UI l hi (j := 0) rfl)
    refine ld_sl ((t.blk.keep' f).cell rfl) ⟨⟨by omega, by omega⟩, opt_some hp (ld_int (by rw [Int.toNat_natCast]; exact hc) ?_)⟩
    rw [hi] at hk
    rw [hh]
    exact hk
  · rw [if_neg (by simp [hh])] at hk
    rw [hh]
    exact hk
/-- where the next key stands -/
def nextAt (l : KV) (k : Int) : Nat := if has ilt l k then at_ ilt l k + 1 else at_ ilt l k
theorem nextAt_iff (hs : Srt ilt (keys l)) {k x : Int} {i : Nat} (hi : (keys l)[i]? = some x) : k < x ↔ nextAt l k ≤ i := by
  unfold nextAt
  have hil := (List.getElem?_eq_some_iff.1 hi).1
  constructor
  · intro h
    have h1 : at_ ilt l k ≤ i := by
      by_cases h2 : i < at_ ilt l k
      · have := rank_lt (lt := ilt) h2 hi; simp [ilt] at this; omega
      · omega
    split
    · rename_i hh
      simp only [has, decide_eq_true_eq] at hh
      by_cases e : at_ ilt l k = i
      · rw [e, hi] at hh; injection hh with hh; omega
      · omega
    · exact h1
  · intro h
    have h1 : at_ ilt l k ≤ i := by split at h <;> omega
    have h2 := rank_ge ilt_lin hs (k := k) h1 hi
    simp [ilt] at h2
    by_cases e : x = k
    · subst e
      have hh : has ilt l x = true := (has_mem hs).2 (List.mem_iff_getElem?.2 ⟨i, hi⟩)
      rw [if_pos hh] at h
      simp only [has, decide_eq_true_eq] at hh
      obtain ⟨j1, e1⟩ := List.getElem?_eq_some_iff.1 hh
      obtain ⟨j2, e2⟩ := List.getElem?_eq_some_iff.1 hi
      have := List.pairwise_iff_getElem.1 hs _ _ j1 j2 (by omega)
      rw [e1, e2] at this
      simp [ilt] at this
    · omega
def utup (o : Option Int) : Value := .tuple #[.int .u64 (o.getD 0), .bool o.isSome]
theorem rnext_l0 {pk pv : Option Addr} {ck cv : Nat} {k : Int} (t : RefS w g foot most l pk pv ck cv) (hK : Q (utup (next ilt l k)) w) :
    ∀ (f i : Nat), l.length - i < f → i ≤ nextAt l k → i ≤ l.length → X30.l0 Q f (some (at0 g 0)) k 0 (i : Int) w
  | 0, i, hf, _, _ => by omega
  | f + 1, i, hf, hi, hil => by
    have htop := t.top
    rw [X30.l0]
    simp only [optP_some, add_at, Nat.zero_add]
    refine ld_sl (t.blk.cell rfl) (bc_dec (fun h1 => ?_) (fun h1 => ?_))
    · have hk : i < (keys l).length := by simp; omega
      have hg := List.getElem?_eq_getElem hk
      generalize (keys l)[i] = x at hg
      obtain ⟨q, hq, c⟩ := cell_43 t.ks.cells hg
      have hiff := nextAt_iff t.srt (k := k) hg
      refine ld_sl (t.blk.cell rfl) ⟨⟨by omega, by omega⟩, opt_some hq (ld_int (by rw [Int.toNat_natCast]; exact c) (bc_dec (fun h2 => ?_) (fun h2 => ?_)))⟩
      · have hat : nextAt l k = i := by have := hiff.1 (by omega); omega
        refine ld_sl (t.blk.cell rfl) ⟨⟨by omega, by omega⟩, opt_some hq (ld_int (by rw [Int.toNat_natCast]; exact c) ?_)⟩
        have : next ilt l k = some x := by unfold next; rw [← hg, ← hat]; rfl
        rw [this] at hK
        exact hK
      · rw [show IntKind.wrap .i64 ((i : Int) + 1) = ((i + 1 : Nat) : Int) by rw [i64w _ (by omega) (by omega)]; omega]
        refine rnext_l0 t hK f (i + 1) (by omega) ?_ (by omega)
        by_cases h : nextAt l k ≤ i
        · exact absurd (hiff.2 h) (by omega)
        · omega
    · have : next ilt l k = none := by
        unfold next
        exact List.getElem?_eq_none (by show (keys l).length ≤ nextAt l k; simp; omega)
      rw [this] at hK
      exact hK
theorem rnext_spec {k : Int} (h : Ref w g foot most l) (hK : Q (utup (next ilt l k)) w) : CallR Try.prog 30 #[.pointer (some (at0 g 0)), .int .u64 k] w Q := by
  obtain ⟨pk, pv, ck, cv, t⟩ := h
  refine X30.sound _ _ _ _ ?_
  exact ⟨l.length + 1, rnext_l0 t hK (l.length + 1) 0 (by omega) (Nat.zero_le _) (Nat.zero_le _)⟩
theorem rfirst_spec (h : Ref w g foot most l) (hK : Q (utup (keys l)[0]?) w) : CallR Try.prog 33 #[.pointer (some (at0 g 0))] w Q := by
  obtain ⟨pk, pv, ck, cv, t⟩ := h
  refine X33.sound _ _ _ ?_
  unfold X33.f
  simp only [optP_some, add_at, Nat.zero_add]
  refine ld_sl (t.blk.cell rfl) (bc_eq (fun h1 => ?_) (fun h1 => ?_))
  · rw [List.getElem?_eq_none (by have : l.length = 0 := by omega
                                  simp [this])] at hK
    exact hK
  · have hk : 0 < (keys l).length := by simp; omega
    have hg := List.getElem?_eq_getElem hk
    rw [hg] at hK
    generalize (keys l)[0] = x at hg hK
    obtain ⟨q, hq, c⟩ := cell_43 t.ks.cells hg
    exact ld_sl (t.blk.cell rfl) ⟨⟨by omega, by omega⟩, opt_some hq (ld_int c hK)⟩
theorem rafter_spec {k : Int} (h : Ref w g foot most l) (hK : Q (utup (after ilt l k)) w) : CallR Try.prog 31 #[.pointer (some (at0 g 0)), .int .u64 k] w Q := by
  refine X31.sound _ _ _ _ (rnext_spec h ⟨_, _, rfl, ?_⟩)
  unfold after at hK
  cases hn : next ilt l k with
  | none =>
    rw [hn] at hK
    exact bc_bool (fun h => by cases h) (fun _ => rfirst_spec h ⟨_, _, rfl, hK⟩)
  | some x =>
    rw [hn] at hK
    exact bc_bool (fun _ => hK) (fun h => by cases h)
end
/-! ### Rows that are laid anew -/
structure NR (W w : World) (e : TypeId) (q : Option Addr) (m c : Nat) (ys : List Value) : Prop where
  own : Own e 1 w q m c ys
  new : ∀ x ∈ fbl q, W.heap.size ≤ x
  fr : Fr [] W w
section
variable {W w w' : World} {e t : TypeId} {b : Nat} {q src : Option Addr} {m c k kc : Nat} {ys us xs : List Value} {K : Value → World → Prop}
theorem NR.keep (h : NR W w e q m c ys) (f : Fr [] w w') : NR W w' e q m c ys := ⟨h.own.keep' f, h.new, h.fr.tr f⟩
theorem NR.app (hT : RowT Try.prog t e 1 b) (hb : b ≤ 16) (h : NR W w e q m c ys) (hs : Cells w src us) (hl : us.length = k) (h0 : src = none → kc = 0) (h1 : ∀ u ∈ us, u.oneCell' = true) (hsz : m + k ≤ 8192)
    (hK : ∀ q' c' w', NR W w' e q' (m + k) c' (ys ++ us) → Fr (fbl q) w w' → K (.slice q' (m + k) c') w') : RunR Try.prog (Builtin.append_ #[t, t] t #[.slice q m c, .slice src k kc]) w K := by
  have := h.fr.size
  refine app_own hT h.own hs (by omega) h0 h1 (by simp only [maxLen]; omega) (Nat.le_trans (Nat.mul_le_mul (show m + k ≤ 8192 from hsz) hb) (by omega)) ?_
  intro p' c' w' o f n
  refine hK p' c' w' ⟨o, fun x hx => ?_, h.fr.trans f (fun x hx => .inr (h.new x hx))⟩ f
  rcases n x hx with h' | h'
  · exact h.new x h'
  · omega
theorem cells_take {p : Option Addr} (hc : Cells w p xs) (i : Nat) : Cells w p (xs.take i) := fun j u hj => hc j u (by
  rw [List.getElem?_take] at hj
  split at hj
  · exact hj
  · cases hj)
theorem cells_cut {p : Option Addr} {n c i : Nat} (ho : Own e 1 w p n c xs) (hi : i ≤ n) : Cells w (cutAt 1 c i p) (xs.drop i) ∧ (cutAt 1 c i p = none → c - i = 0) := by
  have hle := ho.le
  have hlen : xs.length = n := by have := ho.len; omega
  refine ⟨fun j u hj => ?_, fun hn => ?_⟩
  · rw [List.getElem?_drop] at hj
    obtain ⟨a, ha, hcell⟩ := ho.cells _ _ hj
    subst ha
    have hlt := (List.getElem?_eq_some_iff.1 hj).1
    refine ⟨a.add i, ?_, by rw [add_add]; exact hcell⟩
    unfold cutAt
    rw [if_neg (by omega)]
    simp
  · cases p with
    | none => have := ho.none_c; omega
    | some a => unfold cutAt at hn; split at hn <;> simp at hn
end
end Go.Proofs.YtbgebldhpbnacaaX
