/- The stub table as it lies; its small calls. -/
import Derived.Test.YtglininpmfgggaaPStub
namespace Go.Proofs.YtglininpmfgggaaX
open Go.RowKit
set_option linter.unusedVariables false
set_option linter.unusedSimpArgs false
set_option maxRecDepth 100000
section
variable {w w' W : World} {Q : Value → World → Prop}
theorem At.sub {p : Addr} {cs : List Value} (h : At w p cs) (i j : Nat) {u : Value} (hu : cs[i + j]? = some u) : w.cell? ((p.add i).add j) = some u := by rw [add_add]; exact h _ _ hu
theorem At.inner {p : Addr} {cs vs : List Value} (h : At w p cs) (i : Nat) (hv : ∀ j u, vs[j]? = some u → cs[i + j]? = some u) : At w (p.add i) vs := fun j u hj => h.sub i j (hv j u hj)
theorem key_spec {nd sr : Int} (hQ : ∀ w', Fr [] w w' → Q (.int .u64 (keyOf nd sr)) w') : CallR Try.prog 30 #[.agg #[.int .i64 nd, .int .u64 sr]] w Q := by
  apply X30.sound
  unfold X30.f
  refine newB fun g w2 b f hg => ld_int (b.cat 0 _ rfl) ⟨by omega, ld_int (b.cat 1 _ rfl) (hQ _ f)⟩
theorem past_spec {a span now : Int} (hQ : Q (.bool (pastB a span now)) w) : CallR Try.prog 41 #[.int .u64 a, .int .u64 span, .int .u64 now] w Q := by
  apply X41.sound
  unfold X41.f
  unfold pastB at hQ
  exact bc_dec (fun h => by rw [if_pos h] at hQ; exact hQ) (fun h => by rw [if_neg h] at hQ; exact hQ)
theorem rpast_spec {a span now : Int} (hQ : Q (.bool (pastB a span now)) w) : CallR Try.prog 69 #[.int .u64 a, .int .u64 span, .int .u64 now] w Q := by
  apply X69.sound
  unfold X69.f
  unfold pastB at hQ
  exact bc_dec (fun h => by rw [if_pos h] at hQ; exact hQ) (fun h => by rw [if_neg h] at hQ; exact hQ)
theorem live_spec {a span now : Int} (hQ : Q (.bool (liveB a span now)) w) : CallR Try.prog 46 #[.int .u64 a, .int .u64 span, .int .u64 now] w Q := by
  apply X46.sound
  unfold X46.f
  unfold liveB at hQ
  exact bc_dec (fun h => by rw [if_pos h] at hQ; exact hQ) (fun h => by rw [if_neg h] at hQ; exact hQ)
theorem rlive_spec {a span now : Int} (hQ : Q (.bool (liveB a span now)) w) : CallR Try.prog 76 #[.int .u64 a, .int .u64 span, .int .u64 now] w Q := by
  apply X76.sound
  unfold X76.f
  unfold liveB at hQ
  exact bc_dec (fun h => by rw [if_pos h] at hQ; exact hQ) (fun h => by rw [if_neg h] at hQ; exact hQ)
theorem every_spec {span : Int} (hQ : Q (.int .u64 (everyN span)) w) : CallR Try.prog 44 #[.int .u64 span] w Q := by
  apply X44.sound
  exact ⟨by omega, hQ⟩
theorem wait_spec {a b c : Int} (hQ : Q (.int .u64 (waitN a b c)) w) : CallR Try.prog 64 #[.int .u64 a, .int .u64 b, .int .u64 c] w Q := by
  apply X64.sound
  unfold X64.f
  unfold waitN at hQ
  refine bc_eq (fun h => by rw [if_pos h] at hQ; exact hQ) (fun h => ⟨by omega, ?_⟩)
  rw [if_neg h] at hQ
  exact bc_dec (fun h => by rw [if_pos h] at hQ; exact hQ) (fun h => by rw [if_neg h] at hQ; exact hQ)
theorem in_spec {a b : Int} (hQ : Q (.bool (inB a b)) w) : CallR Try.prog 59 #[.int .i64 a, .int .i64 b] w Q := by
  apply X59.sound
  unfold X59.f
  unfold inB at hQ
  exact bc_dec (fun h => by rw [if_pos h] at hQ; exact hQ) (fun h => by rw [if_neg h] at hQ; exact hQ)
/-- the table's own cells -/
def pcells (gt : Nat) (S : Sn) : List Value := .pointer (some (at0 gt 0)) :: (S.c.cells ++ [.int .i64 S.node, .int .u64 S.seq, .int .u64 S.span, .int .u64 S.last])
structure PTa (w : World) (g gt : Nat) (ft : List Nat) (S : Sn) : Prop where
  blk : Blk w g (pcells gt S) 86
  tab : T_SB w (at0 gt 0) ft S.c.stubs S.l
  gn : g ∉ ft
theorem PTa.keep {g gt : Nat} {ft F : List Nat} {S : Sn} (h : PTa w g gt ft S) (f : Fr F w w') (hd : ∀ x ∈ g :: ft, x ∉ F) : PTa w' g gt ft S := ⟨h.blk.keep f (hd g (by simp)), h.tab.keep f (fun x hx => hd x (by simp [hx])), h.gn⟩
theorem PTa.keep' {g gt : Nat} {ft : List Nat} {S : Sn} (h : PTa w g gt ft S) (f : Fr [] w w') : PTa w' g gt ft S := h.keep f (by simp)
theorem PTa.lt {g gt : Nat} {ft : List Nat} {S : Sn} (h : PTa w g gt ft S) : ∀ x ∈ g :: ft, x < w.heap.size := fun x hx => by
  rcases List.mem_cons.1 hx with rfl | hx
  · exact h.blk.lt
  · exact h.tab.lt x hx
/-- what a call leaves behind -/
def Aft (w : World) (g gt : Nat) (ft : List Nat) (S' : Sn) (v : Value) (Q : Value → World → Prop) : Prop := ∀ ft' w', PTa w' g gt ft' S' → Fr (g :: ft) w w' → (∀ x ∈ ft', x ∈ ft ∨ w.heap.size ≤ x) → Q v w'
theorem Aft.same {g gt : Nat} {ft : List Nat} {S : Sn} {v : Value} (h : Aft w g gt ft S v Q) (t : PTa w g gt ft S) (f : Fr [] w w') : Q v w' := h ft w' (t.keep' f) f.any (fun x hx => .inl hx)
theorem Aft.later {g gt : Nat} {ft : List Nat} {S : Sn} {v : Value} (h : Aft w g gt ft S v Q) (f : Fr [] w w') : Aft w' g gt ft S v Q := fun ft' w2 t f2 e => h ft' w2 t (f.any.tr f2) (fun x hx => by
  have := f.size
  rcases e x hx with h | h
  · exact .inl h
  · exact .inr (by omega))
variable {g gt : Nat} {ft : List Nat} {S : Sn} {nd sr now : Int} {s : Stb}
theorem far_spec (t : PTa w g gt ft S) (hQ : ∀ w', Fr [] w w' → Q (.bool (farB S nd sr)) w') : CallR Try.prog 34 #[.pointer (some (at0 g 0)), .agg #[.int .i64 nd, .int .u64 sr]] w Q := by
  apply X34.sound
  unfold X34.f
  simp only [optP_some]
  refine newB fun g1 w2 b f hg => drawn fun w3 f3 _ => ?_
  have hb := t.blk.keep' (f.tr f3)
  have b3 := b.keep' f3
  have hq := hQ w3 (f.tr f3)
  unfold farB at hq
  refine ld_int (b3.cat 0 _ rfl) (bc_dec (fun h => ?_) (fun h => by rw [if_neg h] at hq; exact hq))
  rw [if_pos h] at hq
  refine ld_int (b3.cat 0 _ rfl) (ld_int (hb.cat.sub 1 0 rfl) (bc_dec (fun h => ?_) (fun h => by rw [if_neg h] at hq; exact hq)))
  rw [if_pos h] at hq
  refine ld_int (b3.cat 0 _ rfl) (ld_int (hb.cat 23 _ rfl) (bc_ne (fun h => ?_) (fun h => by rw [if_neg (fun hn => hn h)] at hq; exact hq)))
  rw [if_pos h] at hq
  refine ld_int (b3.cat 1 _ rfl) (bc_dec (fun h => ?_) (fun h => by rw [if_neg h] at hq; exact hq))
  rw [if_pos h] at hq
  exact ld_int (b3.cat 1 _ rfl) hq
theorem lapsed_spec (t : PTa w g gt ft S) (hQ : ∀ w', Fr [] w w' → Q (.bool (lapsedB S s now)) w') : CallR Try.prog 36 #[.pointer (some (at0 g 0)), s.val, .int .u64 now] w Q := by
  apply X36.sound
  unfold X36.f
  simp only [optP_some]
  refine newB fun g1 w2 b f hg => drawn fun w3 f3 _ => ?_
  have hb := t.blk.keep' (f.tr f3)
  have b3 := b.keep' f3
  have hq := hQ w3 (f.tr f3)
  unfold lapsedB at hq
  refine ld_int (b3.cat 2 _ rfl) (bc_eq (fun h => ?_) (fun h => by rw [if_neg h] at hq; exact hq))
  rw [if_pos h] at hq
  exact ld_int (b3.cat 5 _ rfl) (ld_int (hb.cat 25 _ rfl) (live_spec ⟨_, rfl, hq⟩))
theorem putF_srt {most : Int} {l : List (Int × Stb)} {k : Int} {v : Stb} (h : Srt ilt (keys l)) : Srt ilt (keys (putF most l k v)) := by
  unfold putF
  split
  · exact put_srt ilt_lin h
  · exact h
/-- Put, whatever it answers -/
theorem putT_spec {a : Addr} {most : Int} {l : List (Int × Stb)} {k : Int} {v : Stb} (h : T_SB w a ft most l)
    (hK : ∀ b ft' w', T_SB w' a ft' most (putF most l k v) → Fr ft w w' → (∀ x ∈ ft', x ∈ ft ∨ w.heap.size ≤ x) → Q (.bool b) w') : CallR Try.prog 61 #[.pointer (some a), .int .u64 k, v.val] w Q := by
  refine put_SB h (fun h1 h2 w' f => ?_) (fun h1 ft' w' t f e => ?_)
  · refine hK false ft w' ?_ f.any (fun x hx => .inl hx)
    have : putF most l k v = l := by unfold putF; rw [if_neg (by simp [h1]; omega)]
    rw [this]
    exact h.keep' f
  · refine hK true ft' w' ?_ f e
    have : putF most l k v = put ilt l k v := by unfold putF; rw [if_pos h1]
    rw [this]
    exact t
theorem put_spec (t : PTa w g gt ft S) (hK : Aft w g gt ft (putS S s) (.tuple #[]) Q) : CallR Try.prog 37 #[.pointer (some (at0 g 0)), s.val] w Q := by
  apply X37.sound
  unfold X37.f
  simp only [optP_some]
  refine newB fun g1 w2 b f hg => drawn fun w3 f3 _ => ?_
  have f03 := f.tr f3
  have t3 := t.keep' f03
  have b3 := b.keep' f3
  refine ld_ptr (t3.blk.cat 0 _ rfl) (ld_int (b3.cat.sub 0 0 rfl) (ld_int (b3.cat.sub 0 1 rfl) (key_spec fun w9 f9 => ⟨_, rfl, ⟨t3.blk.cat 0 _ rfl, (t3.keep' f9).blk.cat 0 _ rfl⟩, ?_⟩)))
  have f09 := f03.tr f9
  have t9 := t.keep' f09
  have b9 := b3.keep' f9
  refine ld_Stb (s := s) b9.cat ⟨⟨b3.cat, b9.cat⟩, putT_spec t9.tab fun b ft' w21 t21 f21 e21 => ⟨_, rfl, ?_⟩⟩
  have hsz := f09.size
  have hlt := t.lt
  refine hK ft' w21 ⟨t9.blk.keep f21 t.gn, t21, fun hm => ?_⟩ (f09.any.sub f21 fun x hx => by simp [hx]) (fun x hx => ?_)
  · rcases e21 g hm with h | h
    · exact t.gn h
    · have := hlt g (by simp); omega
  · rcases e21 x hx with h | h
    · exact .inl h
    · exact .inr (by omega)
/-- the program's Get of the rows -/
theorem getT_spec {a : Addr} {most : Int} {l : List (Int × Stb)} {k : Int} (h : T_SB w a ft most l) (hK : ∀ w', Fr [] w w' → Q (.tuple #[((get ilt l k).getD sZero).val, .bool (get ilt l k).isSome]) w') : CallR Try.prog 35 #[.pointer (some a), .int .u64 k] w Q :=
  get_SB h (fun hn w' f => by have := hK w' f; rw [hn] at this; exact this) (fun v hv w' f => by have := hK w' f; rw [hv] at this; exact this)
end
end Go.Proofs.YtglininpmfgggaaX
