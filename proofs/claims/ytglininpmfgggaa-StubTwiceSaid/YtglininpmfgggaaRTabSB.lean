/- The document's table of structs, within a block: place, Get, Put, Drop, First, Next, After. -/
import Derived.Test.YtglininpmfgggaaTTabSB
namespace Go.Proofs.YtglininpmfgggaaX
open Go.RowKit
set_option linter.unusedVariables false
set_option linter.unusedSimpArgs false
theorem cells_cut {Z c i n : Nat} {w : World} {p : Option Addr} {xs : List Value} (h : Cells w p xs) (hl : xs.length = n * Z) (hi : i ≤ n) (hc : n ≤ c) (h0 : p = none → c = 0) : Cells w (cutAt Z c i p) (xs.drop (i * Z)) ∧ (cutAt Z c i p = none → c - i = 0) := by
  unfold cutAt
  split
  · rename_i he
    have : i = n := by omega
    subst this
    rw [List.drop_eq_nil_of_le (by omega)]
    exact ⟨fun j u hj => by simp at hj, fun _ => by omega⟩
  · cases p with
    | none =>
      refine ⟨fun j u hj => ?_, fun _ => by have := h0 rfl; omega⟩
      rw [List.getElem?_drop] at hj
      obtain ⟨q, hq, _⟩ := h _ _ hj
      cases hq
    | some a =>
      refine ⟨fun j u hj => ?_, fun h => by cases h⟩
      rw [List.getElem?_drop] at hj
      obtain ⟨q, hq, hq2⟩ := h _ _ hj
      injection hq with hq
      subst hq
      exact ⟨_, rfl, by rw [add_add]; exact hq2⟩
theorem cells_take {w : World} {p : Option Addr} {xs : List Value} (h : Cells w p xs) (k : Nat) : Cells w p (xs.take k) := fun j u hj => by
  rw [List.getElem?_take] at hj
  split at hj
  · exact h j u hj
  · cases hj
theorem app_step {t e ty : TypeId} {Z B : Nat} (hT : RowT Try.prog t e Z B) {W w : World} {sp x : Option Addr} {sn sc k kc : Nat} {xs ys : List Value} {K : Option Addr → Nat → Nat → World → Prop} (o : Own e Z w sp sn sc xs) (hy : Cells w x ys) (hl : ys.length = k * Z) (h0 : x = none → kc = 0)
    (h1 : ∀ u ∈ ys, u.oneCell' = true) (hn : sn + k ≤ 1000000) (hB : B ≤ 1000) (hs : ∀ k ∈ fbl sp, W.heap.size ≤ k) (f : Fr [] W w)
    (hK : ∀ p c w', Own e Z w' p (sn + k) c (xs ++ ys) → (∀ k ∈ fbl p, W.heap.size ≤ k) → Fr [] W w' → Fr (fbl sp) w w' → K p (sn + k) c w') :
    RunR Try.prog (Builtin.append_ #[t, t] ty #[.slice sp sn sc, .slice x k kc]) w fun v w' => ∃ (p : Option Addr) (n c : Nat), v = .slice p n c ∧ K p n c w' := by
  have hsz := f.size
  refine app_own hT o hy hl h0 h1 (by simp only [maxLen]; omega) (Nat.le_trans (Nat.mul_le_mul hn hB) (by omega)) ?_
  intro p' c' w' o' f' e'
  exact ⟨p', sn + k, c', rfl, hK p' c' w' o' (fun j hj => by rcases e' j hj with h | h; exact hs j h; omega) (f.trans f' (fun j hj => .inr (hs j hj))) f'⟩
structure RT_SB (w : World) (g : Nat) (cs : List Value) (foot : List Nat) (most : Int) (l : List (Int × Stb)) (pk pv : Option Addr) (ck cv : Nat) : Prop where
  blk : Blk w g cs 71
  c0 : cs[24]? = some (.int .i64 most)
  c1 : cs[24 + 1]? = some (.slice pk l.length ck)
  c2 : cs[24 + 2]? = some (.slice pv l.length cv)
  ks : Own 22 1 w pk l.length ck ((keys l).map (Value.int .u64))
  vs : Own 51 9 w pv l.length cv (l.flatMap vc_SB)
  ft : foot = g :: (fbl pk ++ fbl pv)
  gk : g ∉ fbl pk
  gv : g ∉ fbl pv
  kv : ∀ x ∈ fbl pk, x ∉ fbl pv
  srt : Srt ilt (keys l)
  top : l.length ≤ 100000
section
variable {w w' : World} {g : Nat} {cs : List Value} {foot S : List Nat} {most : Int} {l : List (Int × Stb)} {pk pv : Option Addr} {ck cv : Nat} {Q : Value → World → Prop} {k : Int}
theorem RT_SB.keep (t : RT_SB w g cs foot most l pk pv ck cv) (f : Fr S w w') (hd : ∀ x ∈ foot, x ∉ S) : RT_SB w' g cs foot most l pk pv ck cv := by
  refine ⟨t.blk.keep f (hd g ?_), t.c0, t.c1, t.c2, t.ks.keep f (fun x hx => hd x ?_), t.vs.keep f (fun x hx => hd x ?_), t.ft, t.gk, t.gv, t.kv, t.srt, t.top⟩ <;> rw [t.ft] <;> simp_all
theorem RT_SB.keep' (t : RT_SB w g cs foot most l pk pv ck cv) (f : Fr [] w w') : RT_SB w' g cs foot most l pk pv ck cv := t.keep f (by simp)
theorem RT_SB.lt (t : RT_SB w g cs foot most l pk pv ck cv) : ∀ x ∈ foot, x < w.heap.size := by
  intro x hx
  rw [t.ft] at hx
  rcases List.mem_cons.1 hx with rfl | hx
  · exact t.blk.lt
  · rcases List.mem_append.1 hx with hx | hx
    · exact t.ks.lt x hx
    · exact t.vs.lt x hx
/-- another cell of the block is stored -/
theorem RT_SB.st (t : RT_SB w g cs foot most l pk pv ck cv) {i : Nat} {v : Value} (hi : i < cs.length) (h0 : i ≠ 24) (h1 : i ≠ 24 + 1) (h2 : i ≠ 24 + 2) {K : World → Prop}
    (hK : ∀ w', RT_SB w' g (cs.set i v) foot most l pk pv ck cv → Fr [g] w w' → K w') : stK w ((at0 g 0).add i) v K := by
  refine stB t.blk hi fun w' b f => hK w' ⟨b, ?_, ?_, ?_, t.ks.keep f (fun x hx hm => t.gk (by simp at hm; rwa [← hm])), t.vs.keep f (fun x hx hm => t.gv (by simp at hm; rwa [← hm])), t.ft, t.gk, t.gv, t.kv, t.srt, t.top⟩ f
  · rw [List.getElem?_set_ne h0]; exact t.c0
  · rw [List.getElem?_set_ne h1]; exact t.c1
  · rw [List.getElem?_set_ne h2]; exact t.c2
theorem RT_SB.m0 (t : RT_SB w g cs foot most l pk pv ck cv) : w.cell? ((at0 g 24).add 0) = some (.int .i64 most) := by rw [add_at]; exact t.blk.cell t.c0
theorem RT_SB.k1 (t : RT_SB w g cs foot most l pk pv ck cv) : w.cell? ((at0 g 24).add 1) = some (.slice pk l.length ck) := by rw [add_at]; exact t.blk.cell t.c1
theorem RT_SB.v2 (t : RT_SB w g cs foot most l pk pv ck cv) : w.cell? ((at0 g 24).add 2) = some (.slice pv l.length cv) := by rw [add_at]; exact t.blk.cell t.c2
theorem place_l0_SB (t : RT_SB w g cs foot most l pk pv ck cv) (hQ : ∀ w', Fr [] w w' → Q (.tuple #[.int .i64 (at_ ilt l k : Int), .bool (has ilt l k)]) w') :
    ∀ (m i : Nat), l.length - i < m → i ≤ at_ ilt l k → X85.l0 Q m (some (at0 g 24)) k (i : Int) w
  | 0, i, hm, _ => by omega
  | m + 1, i, hm, hi => by
    have hal := at_le (lt := ilt) l k
    have htop := t.top
    rw [X85.l0]
    simp only [optP_some]
    refine ld_sl t.k1 (bc_dec (fun h1 => ld_sl t.k1 ⟨⟨by omega, by omega⟩, ?_⟩) (fun h1 => ?_))
    · have hlt : i < (keys l).length := by simp; omega
      have hg := List.getElem?_eq_getElem hlt
      generalize (keys l)[i] = x at hg
      obtain ⟨a, ha, hx⟩ := cell_60 t.ks.cells hg
      refine opt_some ha (ld_int (by rw [Int.toNat_natCast]; exact hx) (bc_dec (fun hge => ?_) (fun hnl => ?_)))
      · have hr : i = at_ ilt l k := by
          by_cases h : i < at_ ilt l k
          · have := rank_lt (lt := ilt) h hg
            simp [ilt] at this
            omega
          · omega
        refine drawn fun w7 f7 _ => ?_
        have t7 := t.keep' f7
        obtain ⟨a7, ha7, hx7⟩ := cell_60 t7.ks.cells hg
        refine ld_sl t7.k1 ⟨⟨by omega, by omega⟩, opt_some ha7 (ld_int (by rw [Int.toNat_natCast]; exact hx7) ?_)⟩
        have : (x == k) = has ilt l k := by
          unfold has
          rw [← hr, hg]
          by_cases h : x = k <;> simp [h]
        rw [this, hr]
        exact hQ _ f7
      · have hlt2 : i < at_ ilt l k := by
          by_cases h : at_ ilt l k ≤ i
          · have := rank_ge ilt_lin t.srt h hg
            simp [ilt] at this
            omega
          · omega
        rw [i64w ((i : Int) + 1) (by omega) (by omega), show (i : Int) + 1 = ((i + 1 : Nat) : Int) by omega]
        exact place_l0_SB t hQ m (i + 1) (by omega) (by omega)
    · refine ld_sl t.k1 ?_
      have hr : at_ ilt l k = l.length := by omega
      have hh : has ilt l k = false := by
        unfold has
        rw [hr, List.getElem?_eq_none (by simp)]
        simp
      have := hQ w (Fr.refl w)
      rw [hr, hh] at this
      exact this
theorem place_SB (t : RT_SB w g cs foot most l pk pv ck cv) (hQ : ∀ w', Fr [] w w' → Q (.tuple #[.int .i64 (at_ ilt l k : Int), .bool (has ilt l k)]) w') : CallR Try.prog 85 #[.pointer (some (at0 g 24)), (Value.int .u64) k] w Q := by
  refine X85.sound _ _ _ _ ?_
  exact ⟨l.length + 1, place_l0_SB t hQ _ 0 (by omega) (by omega)⟩
theorem rget_SB (t : RT_SB w g cs foot most l pk pv ck cv) (hno : get ilt l k = none → ∀ w', Fr [] w w' → Q (.tuple #[(⟨0, 0, 0, 0, 0, 0, 0, 0, 0⟩ : Stb).val, .bool false]) w') (hK : ∀ v, get ilt l k = some v → ∀ w', Fr [] w w' → Q (.tuple #[v.val, .bool true]) w') :
    CallR Try.prog 67 #[.pointer (some (at0 g 24)), (Value.int .u64) k] w Q := by
  refine X67.sound _ _ _ _ ?_
  unfold X67.f
  simp only [optP_some]
  refine newB fun g1 w2 b1 f2 hg1 => ?_
  refine place_SB (t.keep' f2) fun w4 f4 => ⟨_, _, rfl, ?_⟩
  have f24 := f2.tr f4
  have t4 := t.keep' f24
  have b4 := b1.keep' f4
  have htop := t.top
  refine bc_bool (fun hh => ?_) (fun hh => ?_)
  · have hlt := at_lt hh
    rw [hh]
    refine ld_sl t4.v2 ⟨⟨by omega, by omega⟩, ?_⟩
    have hi := List.getElem?_eq_getElem hlt
    obtain ⟨p, hp, hc⟩ := own_at vc_len_SB t4.vs rfl hi
    rw [Int.toNat_natCast]
    refine opt_some hp (ld_Stb (s := (l[at_ ilt l k]).2) hc (stAllB b4 rfl fun w20 b20 f20 => ld_Stb (s := (l[at_ ilt l k]).2) b20.cat (stAllB b20 rfl fun w21 b21 f21 => ld_Stb (s := (l[at_ ilt l k]).2) b21.cat ?_)))
    exact hK _ (by unfold get; rw [if_pos hh, hi]; rfl) _ ((f24.loc f20 hg1).loc f21 hg1)
  · rw [hh]
    refine ld_Stb (s := ⟨0, 0, 0, 0, 0, 0, 0, 0, 0⟩) b4.cat (stAllB b4 rfl fun w20 b20 f20 => ld_Stb (s := ⟨0, 0, 0, 0, 0, 0, 0, 0, 0⟩) b20.cat ?_)
    exact hno (by unfold get; rw [if_neg (by simpa using hh)]) _ (f24.loc f20 hg1)
theorem rfirst_SB (t : RT_SB w g cs foot most l pk pv ck cv) (hQ : Q (.tuple #[(Value.int .u64) ((keys l)[0]?.getD 0), .bool (keys l)[0]?.isSome]) w) : CallR Try.prog 87 #[.pointer (some (at0 g 24))] w Q := by
  refine X87.sound _ _ _ ?_
  unfold X87.f
  simp only [optP_some]
  refine ld_sl t.k1 (bc_eq (fun h0 => ?_) (fun h0 => ld_sl t.k1 ⟨⟨by omega, by omega⟩, ?_⟩))
  · rw [List.getElem?_eq_none (by simp only [List.length_map]; omega)] at hQ
    exact hQ
  · have hlt : 0 < (keys l).length := by simp; omega
    have hg := List.getElem?_eq_getElem hlt
    rw [hg] at hQ
    obtain ⟨a, ha, hx⟩ := cell_60 t.ks.cells hg
    exact opt_some ha (ld_int hx hQ)
theorem rnext_l0_SB (t : RT_SB w g cs foot most l pk pv ck cv) (hQ : Q (.tuple #[(Value.int .u64) ((next ilt l k).getD 0), .bool (next ilt l k).isSome]) w) :
    ∀ (m i : Nat), l.length - i < m → i ≤ (if has ilt l k then at_ ilt l k + 1 else at_ ilt l k) → X86.l0 Q m (some (at0 g 24)) k 0 (i : Int) w
  | 0, i, hm, _ => by omega
  | m + 1, i, hm, hi => by
    have hal := at_le (lt := ilt) l k
    have htop := t.top
    have hil : i ≤ l.length := by
      split at hi
      · rename_i hh; have := at_lt hh; omega
      · omega
    rw [X86.l0]
    simp only [optP_some]
    refine ld_sl t.k1 (bc_dec (fun h1 => ld_sl t.k1 ⟨⟨by omega, by omega⟩, ?_⟩) (fun h1 => ?_))
    · have hlt : i < (keys l).length := by simp; omega
      have hg := List.getElem?_eq_getElem hlt
      generalize (keys l)[i] = x at hg
      obtain ⟨a, ha, hx⟩ := cell_60 t.ks.cells hg
      refine opt_some ha (ld_int (by rw [Int.toNat_natCast]; exact hx) (bc_dec (fun hgt => ld_sl t.k1 ⟨⟨by omega, by omega⟩, opt_some ha (ld_int (by rw [Int.toNat_natCast]; exact hx) ?_)⟩) (fun hng => ?_)))
      · have hr : i = (if has ilt l k then at_ ilt l k + 1 else at_ ilt l k) := by
          by_cases h : i < at_ ilt l k
          · have := rank_lt (lt := ilt) h hg
            simp [ilt] at this
            omega
          · split
            · rename_i hh
              by_cases he : i = at_ ilt l k
              · unfold has at hh
                rw [decide_eq_true_eq, ← he, hg] at hh
                injection hh with hh
                omega
              · rw [if_pos (by assumption)] at hi; omega
            · rw [if_neg (by assumption)] at hi; omega
        unfold next at hQ
        rw [← hr, hg] at hQ
        exact hQ
      · have hlt2 : i + 1 ≤ (if has ilt l k then at_ ilt l k + 1 else at_ ilt l k) := by
          by_cases h : i < at_ ilt l k
          · split <;> omega
          · have h2 := rank_ge ilt_lin (k := k) t.srt (Nat.le_of_not_lt h) hg
            simp [ilt] at h2
            have hxk : x = k := by omega
            subst hxk
            have hh : has ilt l x = true := (has_iff ilt_lin t.srt).2 (List.mem_of_getElem? hg)
            rw [if_pos hh]
            by_cases he : i = at_ ilt l x
            · omega
            · exfalso
              unfold has at hh
              rw [decide_eq_true_eq] at hh
              obtain ⟨q1, q2⟩ := List.getElem?_eq_some_iff.1 hh
              obtain ⟨q3, q4⟩ := List.getElem?_eq_some_iff.1 hg
              have := List.pairwise_iff_getElem.1 t.srt (at_ ilt l x) i q1 q3 (by omega)
              rw [q2, q4] at this
              simp [ilt] at this
        rw [i64w ((i : Int) + 1) (by omega) (by omega), show (i : Int) + 1 = ((i + 1 : Nat) : Int) by omega]
        exact rnext_l0_SB t hQ m (i + 1) (by omega) (by omega)
    · have hn : next ilt l k = none := by
        unfold next
        refine List.getElem?_eq_none ?_
        simp
        split <;> (split at hi <;> simp_all <;> omega)
      rw [hn] at hQ
      exact hQ
theorem rafter_SB (t : RT_SB w g cs foot most l pk pv ck cv) (hQ : Q (.tuple #[(Value.int .u64) ((after ilt l k).getD 0), .bool (after ilt l k).isSome]) w) : CallR Try.prog 68 #[.pointer (some (at0 g 24)), (Value.int .u64) k] w Q := by
  refine X68.sound _ _ _ _ ?_
  unfold X68.f
  refine X86.sound _ _ _ _ ⟨l.length + 1, rnext_l0_SB t ⟨_, _, rfl, ?_⟩ _ 0 (by omega) (by omega)⟩
  unfold after at hQ
  cases hn : next ilt l k with
  | some x => rw [hn] at hQ; exact bc_bool (fun _ => hQ) (fun h => by cases h)
  | none =>
    rw [hn] at hQ
    exact bc_bool (fun h => by cases h) (fun _ => rfirst_SB t ⟨_, _, rfl, hQ⟩)
end
end Go.Proofs.YtglininpmfgggaaX
