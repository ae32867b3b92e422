/- What the claim needs of the calculus and of the walks, part 6: L20SI L20RGet L20RAwait L20RReply L20RStep QRRight L20RBegin L20RNew L20Two L20PlayS XT5 L20PlayB L20PlayR L20PlayM L20Play L20Steps. -/
import Derived.Test.YtdgoalhnkegbmaaGreatC5
namespace Go.Proofs.YtdgoalhnkegbmaaGreatX
open Go.RowKit
set_option linter.unusedVariables false
set_option linter.unusedSimpArgs false
theorem keyOf_inj {a b c d : Int} (ha : 0 ≤ a ∧ a < 256) (hc : 0 ≤ c ∧ c < 256) (hb : 0 ≤ b ∧ b ≤ 72057594037927935) (hd : 0 ≤ d ∧ d ≤ 72057594037927935) (h : keyOf a b = keyOf c d) : a = c ∧ b = d := by
  rw [keyOf_eq ha.1 ha.2 hb.1 (by omega), keyOf_eq hc.1 hc.2 hd.1 (by omega)] at h
  omega
theorem u64p (x : Int) : 0 ≤ IntKind.wrap .u64 x := by
  have : IntKind.wrap .u64 x = x % 18446744073709551616 := by unfold IntKind.wrap; rfl
  omega
theorem putF_srt {β : Type} {most : Int} {l : List (Int × β)} {k : Int} {v : β} (h : Srt ilt (keys l)) : Srt ilt (keys (putF most l k v)) := by
  unfold putF
  split
  · exact put_srt ilt_lin h
  · exact h
theorem putF_mem {β : Type} {most : Int} {l : List (Int × β)} {k : Int} {v : β} {e : Int × β} (hs : Srt ilt (keys l)) (he : e ∈ putF most l k v) : e = (k, v) ∨ e ∈ l := by
  unfold putF at he
  split at he
  · rcases (mem_put ilt_lin hs).1 he with h | h
    · exact .inl h
    · exact .inr h.2
  · exact .inr he
/-- a call that may be there -/
structure YW (S : Cs) (y : Cp) : Prop where
  ot : otherB S y.to = true
  n1 : 1 ≤ y.num
  n2 : y.num ≤ 72057594037927935
  wt : 0 ≤ y.wait
structure SI (S : Cs) : Prop where
  may : mayB S.c = true
  dr : 0 ≤ S.c.drift
  node : 1 ≤ S.node ∧ S.node ≤ S.c.nodes
  ll : (S.latest.length : Int) = S.c.nodes + 1
  lat : ∀ n ∈ S.latest, 0 ≤ n ∧ n ≤ 72057594037927935
  ent : ∀ e ∈ S.l, e.1 = keyOf e.2.to e.2.num ∧ YW S e.2
  srt : Srt ilt (keys S.l)
section
variable {S : Cs} {y : Cp} {k to num now v e : Int}
theorem other_rng (h : otherB S to = true) : 1 ≤ to ∧ to ≤ S.c.nodes ∧ to ≠ S.node := by
  unfold otherB at h
  by_cases a1 : to ≥ 1
  · rw [if_pos a1] at h
    by_cases a2 : to ≤ S.c.nodes
    · rw [if_pos a2] at h
      exact ⟨a1, a2, by simpa using h⟩
    · rw [if_neg a2] at h; cases h
  · rw [if_neg a1] at h; cases h
theorem other_of (h1 : 1 ≤ to) (h2 : to ≤ S.c.nodes) (h3 : to ≠ S.node) : otherB S to = true := by
  unfold otherB
  rw [if_pos h1, if_pos h2]
  simpa using h3
theorem SI.nodes (h : SI S) : 1 ≤ S.c.nodes ∧ S.c.nodes ≤ 64 := may_nodes h.may
theorem SI.latest (h : SI S) : 0 ≤ latestOf S to ∧ latestOf S to ≤ 72057594037927935 := by
  unfold latestOf
  cases hn : S.latest[to.toNat]? with
  | none => exact ⟨by decide, by decide⟩
  | some n => exact h.lat n (List.mem_of_getElem? hn)
theorem SI.put (h : SI S) (w : YW S y) : SI (putC S y) := ⟨h.may, h.dr, h.node, h.ll, h.lat, fun e he => by
  rcases putF_mem h.srt he with rfl | he
  · exact ⟨rfl, w.ot, w.n1, w.n2, w.wt⟩
  · obtain ⟨a, b⟩ := h.ent e he
    exact ⟨a, b.ot, b.n1, b.n2, b.wt⟩, putF_srt h.srt⟩
theorem SI.drop (h : SI S) : SI (dropC S k) := ⟨h.may, h.dr, h.node, h.ll, h.lat, fun e he => by
  obtain ⟨a, b⟩ := h.ent e ((mem_drp ilt_lin h.srt).1 he).2
  exact ⟨a, b.ot, b.n1, b.n2, b.wt⟩, drp_srt ilt_lin h.srt⟩
theorem SI.last (h : SI S) : SI { S with last := k } := ⟨h.may, h.dr, h.node, h.ll, h.lat, fun e he => by
  obtain ⟨a, b⟩ := h.ent e he
  exact ⟨a, b.ot, b.n1, b.n2, b.wt⟩, h.srt⟩
theorem SI.stlat (h : SI S) {i : Nat} (h0 : 0 ≤ v ∧ v ≤ 72057594037927935) : SI { S with latest := S.latest.set i v } := ⟨h.may, h.dr, h.node, by simp [h.ll], fun n hn => by
  rcases List.mem_or_eq_of_mem_set hn with hn | rfl
  · exact h.lat n hn
  · exact h0, fun e he => by
  obtain ⟨a, b⟩ := h.ent e he
  exact ⟨a, b.ot, b.n1, b.n2, b.wt⟩, h.srt⟩
theorem SI.geti (h : SI S) (hg : Go.Proofs.YtdgoalhnkegbmaaGreatX.get ilt S.l k = some y) : k = keyOf y.to y.num ∧ YW S y := h.ent _ ((get_iff ilt_lin h.srt).1 hg)
theorem YW.rng (h : SI S) (w : YW S y) : 1 ≤ y.to ∧ y.to ≤ 64 := by
  have := other_rng w.ot
  have := h.nodes
  omega
/-- a call got by its names -/
theorem SI.getC (h : SI S) (hn : 0 ≤ num) (hg : Go.Proofs.YtdgoalhnkegbmaaGreatX.getC S to num = some y) : y.to = to ∧ y.num = num ∧ YW S y ∧ Go.Proofs.YtdgoalhnkegbmaaGreatX.get ilt S.l (keyOf to num) = some y := by
  unfold Go.Proofs.YtdgoalhnkegbmaaGreatX.getC at hg
  split at hg
  · cases hg
  · rename_i hc
    have h1 : otherB S to = true := by
      cases ho : otherB S to with
      | true => rfl
      | false => exact absurd (.inl ho) hc
    have h2 : num ≤ 72057594037927935 := by
      by_cases hh : num > 72057594037927935
      · exact absurd (.inr hh) hc
      · omega
    obtain ⟨e1, w⟩ := h.geti hg
    have r1 := other_rng h1
    have r2 := YW.rng h w
    have hnd := h.nodes
    have := w.n1
    have := w.n2
    obtain ⟨a, b⟩ := keyOf_inj (by omega) (by omega) (by omega) (by omega) e1
    exact ⟨a.symm, b.symm, w, hg⟩
/-- what the document's Get answers is the same -/
theorem getC_doc (h : SI S) (hn : 0 ≤ num) : Go.Proofs.YtdgoalhnkegbmaaGreatX.getC S to num = if to < 1 ∨ to > 64 ∨ num > 72057594037927935 then none else Go.Proofs.YtdgoalhnkegbmaaGreatX.get ilt S.l (keyOf to num) := by
  unfold Go.Proofs.YtdgoalhnkegbmaaGreatX.getC
  have hnd := h.nodes
  by_cases hc : to < 1 ∨ to > 64 ∨ num > 72057594037927935
  · rw [if_pos hc, if_pos]
    rcases hc with hc | hc | hc
    · refine .inl ?_
      cases ho : otherB S to with
      | false => rfl
      | true => have := other_rng ho; omega
    · refine .inl ?_
      cases ho : otherB S to with
      | false => rfl
      | true => have := other_rng ho; omega
    · exact .inr hc
  · rw [if_neg hc]
    by_cases ho : otherB S to = true
    · rw [if_neg (by rintro (h1 | h1); · rw [ho] at h1; cases h1
                     · exact hc (.inr (.inr h1)))]
    · rw [if_pos (.inl (by simpa using ho))]
      cases hg : Go.Proofs.YtdgoalhnkegbmaaGreatX.get ilt S.l (keyOf to num) with
      | none => rfl
      | some y =>
        exfalso
        obtain ⟨e1, w⟩ := h.geti hg
        have r2 := YW.rng h w
        have := w.n1
        have := w.n2
        obtain ⟨a, _⟩ := keyOf_inj (by omega) (by omega) (by omega) (by omega) e1
        rw [a] at ho
        exact ho w.ot
theorem wait_pos (h : SI S) (w : 0 ≤ y.wait) : 0 ≤ waitN y.wait S.c.wait S.c.most := by
  have := may_wait h.may
  unfold waitN
  split
  · unfold min2; split <;> omega
  · split
    · omega
    · exact u64p _
theorem after_mem (h : after ilt S.l v = some k) : ∃ y, (k, y) ∈ S.l := by
  have hmem : k ∈ keys S.l := by
    unfold after next at h
    cases h1 : (keys S.l)[if has ilt S.l v = true then at_ ilt S.l v + 1 else at_ ilt S.l v]? with
    | some u => rw [h1, Option.some_or] at h; injection h with h; subst h; exact List.mem_of_getElem? h1
    | none => rw [h1, Option.none_or] at h; exact List.mem_of_getElem? h
  obtain ⟨e, he, rfl⟩ := List.mem_map.1 hmem
  exact ⟨e.2, he⟩
theorem SI.step (h : SI S) : SI (stepC S now).1 := by
  unfold stepC
  cases ha : after ilt S.l S.last with
  | none => exact h
  | some k =>
    simp only
    obtain ⟨y, hy⟩ := after_mem ha
    have hg := (get_iff ilt_lin h.srt).2 hy
    rw [hg]
    simp only [Option.getD_some]
    have w := (h.geti hg).2
    split
    · exact h.last.put ⟨w.ot, w.n1, w.n2, wait_pos h w.wt⟩
    · exact h.last
theorem SI.reply (h : SI S) {kind frm call code value : Int} {refs : List (Int × Int)} (hn : 0 ≤ call) : SI (replyC S kind to frm call code value refs).1 := by
  unfold replyC
  split
  · exact h
  · cases hg : Go.Proofs.YtdgoalhnkegbmaaGreatX.getC S frm call with
    | none => exact h
    | some y =>
      simp only
      have w := (h.getC hn hg).2.2.1
      split
      · exact h.put ⟨w.ot, w.n1, w.n2, w.wt⟩
      · split
        · exact h.drop
        · split <;> exact h
theorem SI.settle (h : SI S) (hn : 0 ≤ num) : SI (settleC S to num e).1 := by
  unfold settleC
  cases hg : Go.Proofs.YtdgoalhnkegbmaaGreatX.getC S to num with
  | none => exact h
  | some y =>
    simp only
    have w := (h.getC hn hg).2.2.1
    split
    · exact h
    · refine h.put ?_
      split <;> exact ⟨w.ot, w.n1, w.n2, w.wt⟩
theorem SI.await (h : SI S) (hn : 0 ≤ num) : SI (awaitC S to num now).1 := by
  unfold awaitC
  cases hg : Go.Proofs.YtdgoalhnkegbmaaGreatX.getC S to num with
  | none => exact h
  | some y =>
    simp only
    have w := (h.getC hn hg).2.2.1
    split
    · exact h
    · split
      · exact h.drop
      · split
        · exact h
        · split
          · exact h.drop
          · exact h.put ⟨w.ot, w.n1, w.n2, w.wt⟩
theorem SI.begin {r : Bool} {op field tn ts value : Int} {refs : List (Int × Int)} (h : SI S) (hr : r = true → 1 ≤ to ∧ to ≠ S.node) : SI (beginS S r to op field tn ts value refs now).1 := by
  unfold beginS
  split
  · exact h
  · rename_i hc
    have h2 : to ≤ S.c.nodes := by
      by_cases hh : to > S.c.nodes
      · exact absurd (.inl hh) hc
      · omega
    have hrt : r = true := by
      cases r with
      | true => rfl
      | false => exact absurd (.inr (.inl rfl)) hc
    obtain ⟨h1, h3⟩ := hr hrt
    split
    · exact h
    · split
      · exact h
      · rename_i hm
        have hl := h.latest (to := to)
        have e1 : IntKind.wrap .u64 (latestOf S to + 1) = latestOf S to + 1 := u64w _ (by omega) (by omega)
        rw [e1]
        refine (h.stlat (i := to.toNat) (v := latestOf S to + 1) (by omega)).put ⟨other_of h1 h2 h3, ?_, ?_, ?_⟩
        · show 1 ≤ latestOf S to + 1; omega
        · show latestOf S to + 1 ≤ _; omega
        · show (0 : Int) ≤ 0; omega
end
theorem SI.new {c : Cfg} {node last : Int} (h : newOk c node last) (h0 : 0 ≤ c.drift) (hl : 0 ≤ last) : SI (newC c node last) := by
  have hn := may_nodes h.1
  have h1 := h.2.1
  have h2 := h.2.2.1
  have h3 := h.2.2.2
  refine ⟨h.1, h0, ⟨by show 1 ≤ node; omega, by show node ≤ c.nodes; omega⟩, ?_, fun n hm => ?_, fun e he => (by cases he), by simp [newC, keys, Srt]⟩
  · show ((List.replicate (c.nodes + 1).toNat last).length : Int) = _
    rw [List.length_replicate]
    show _ = c.nodes + 1
    omega
  · have := List.eq_of_mem_replicate hm
    omega
end Go.Proofs.YtdgoalhnkegbmaaGreatX
namespace Go.Proofs.YtdgoalhnkegbmaaGreatX
open Go.RowKit
set_option linter.unusedVariables false
set_option linter.unusedSimpArgs false
set_option maxRecDepth 100000
section
variable {w w' W : World} {Q : Value → World → Prop} {g gs gm g1 gx gz : Nat} {ft al ft' al' F : List Nat} {S S' : Cs} {to num now k v e : Int} {x : Cl} {y : Cp} {rp sp : Option Addr} {rc sc : Nat}
theorem rget_spec (t : PR w g ft al S) (i : SI S) (hn : 0 ≤ num) (hno : getC S to num = none → ∀ w', Fr [] w w' → Q (.tuple #[clZ.val, .bool false]) w')
    (hso : ∀ x y w', getC S to num = some y → CRel w' ft al x y → Fr [] w w' → Q (.tuple #[x.val, .bool true]) w') : CallR Tryz.prog 57 #[.pointer (some (at0 g 0)), .int .i64 to, .int .u64 num] w Q := by
  apply X57.sound
  unfold X57.f
  simp only [optP_some]
  rw [getC_doc i hn] at hno hso
  refine newB fun g1 w2 b1 f2 h1 => ?_
  have b1 : Blk w2 g1 clZ.cells 50 := b1
  have hgal : g1 ∉ al := fun hm => by have := t.lt g1 hm; omega
  have z : (to < 1 ∨ to > 64 ∨ num > 72057594037927935) → ∀ w6, Fr [] w w6 → Q (.tuple #[clZ.val, .bool false]) w6 := fun hc w6 f6 => hno (by rw [if_pos hc]) w6 f6
  refine bc_dec (fun e => stAllB (vs := clZ.cells) b1 rfl fun w6 b6 f6 => ld_Cl (s := clZ) b6.cat (z (.inl e) w6 (f2.loc f6 h1))) (fun e1 => bc_dec (fun e => stAllB (vs := clZ.cells) b1 rfl fun w6 b6 f6 => ld_Cl (s := clZ) b6.cat (z (.inr (.inl e)) w6 (f2.loc f6 h1))) (fun e2 => bc_dec (fun e => stAllB (vs := clZ.cells) b1 rfl fun w6 b6 f6 => ld_Cl (s := clZ) b6.cat (z (.inr (.inr e)) w6 (f2.loc f6 h1))) (fun e3 => drawn fun w51 f51 _ => ?_)))
  have hnc : ¬ (to < 1 ∨ to > 64 ∨ num > 72057594037927935) := by omega
  rw [if_neg hnc] at hno hso
  refine rkey_spec ⟨_, rfl, ?_⟩
  have F51 := f2.tr f51
  have t51 := t.keep' F51
  have b51 := b1.keep' f51
  rw [add_at, Nat.zero_add]
  refine rgetT t51 (fun hg w57 f57 => ?_) (fun x y hg r w57 f57 => ?_)
  · refine ⟨_, _, _, _, _, _, _, _, _, _, _, _, _, _, _, _, _, _, _, _, rfl, stAllB (vs := clZ.cells) (b51.keep' f57) rfl fun w62 b62 f62 => ld_Cl (s := clZ) b62.cat ?_⟩
    exact hno hg w62 ((F51.tr f57).loc f62 h1)
  · refine ⟨_, _, _, _, _, _, _, _, _, _, _, _, _, _, _, _, _, _, _, _, rfl, stAllB (vs := x.cells) (b51.keep' f57) rfl fun w62 b62 f62 => ld_Cl (s := x) b62.cat ?_⟩
    exact hso x y w62 hg ((r.keep' f57).off hgal f62) ((F51.tr f57).loc f62 h1)
/-- a call in hand: its own block -/
structure HR (W w : World) (g : Nat) (ft al : List Nat) (S : Cs) (gx : Nat) (x : Cl) (y : Cp) : Prop where
  t : PR w g ft al S
  b : Blk w gx x.cells 50
  r : CRel w ft al x y
  nx : gx ∉ al
  wx : W.heap.size ≤ gx
  F : Fr ft W w
theorem HR.keep' (h : HR W w g ft al S gx x y) (f : Fr [] w w') : HR W w' g ft al S gx x y := ⟨h.t.keep' f, h.b.keep' f, h.r.keep' f, h.nx, h.wx, h.F.tr f.any⟩
theorem HR.off (h : HR W w g ft al S gx x y) {k : Nat} (hk : k ∉ al) (hkx : gx ≠ k) (hw : W.heap.size ≤ k) (f : Fr [k] w w') : HR W w' g ft al S gx x y := ⟨h.t.off hk f, h.b.off1 hkx f, h.r.off hk f, h.nx, h.wx, h.F.loc f hw⟩
/-- one of its cells is stored, no list -/
theorem HR.st (h : HR W w g ft al S gx x y) {i : Nat} {v : Value} (x' : Cl) (y' : Cp) (hi : i < 15) (he : x.cells.set i v = x'.cells) (hr : ∀ w', CRel w' ft al x y → CRel w' ft al x' y') {K : World → Prop} (hK : ∀ w', HR W w' g ft al S gx x' y' → Fr [gx] w w' → K w') : stK w ((at0 gx 0).add i) v K :=
  stB h.b (by rw [Cl.len]; exact hi) fun w' b' f => hK w' ⟨h.t.off h.nx f, by rw [← he]; exact b', hr w' (h.r.off h.nx f), h.nx, h.wx, h.F.loc f h.wx⟩ f
theorem HR.put (h : HR W w g ft al S gx x y) (hk : k = keyOf y.to y.num) (hK : ∀ b, AftR W g ft al (putC S y) (.bool b) Q) : CallR Tryz.prog 54 #[.pointer (some (at0 g 89)), .int .u64 k, x.val] w Q :=
  rputT h.t h.r hk fun b => (hK b).next h.F (fun x hx => .inl hx) (fun x hx => .inl hx)
/-- a call got from the table, in a block of its own -/
theorem HR.made (t : PR w g ft al S) (r : CRel w ft al x y) {zs : Array Value} (hz : zs.size = 15) {K : Addr → World → Prop} (hW : W.heap.size ≤ w.heap.size) (F : Fr ft W w) (hK : ∀ gx w', HR W w' g ft al S gx x y → Fr [] w w' → w.heap.size ≤ gx → K (at0 gx 0) w') :
    newK w zs 50 fun gx w2 => stAll w2 gx x.cells fun w3 => K gx w3 :=
  newB fun gx w2 b f hx => stAllB (vs := x.cells) b (by rw [Cl.len]; simpa using hz.symm) fun w3 b3 f3 => by
    have n := t.fresh hx
    exact hK gx w3 ⟨(t.keep' f).off n f3, b3, (r.keep' f).off n f3, n, by omega, (F.tr f.any).loc f3 (by omega)⟩ (f.loc f3 hx) hx
theorem rtwin_spec (hr : IdRow w rp rc y.refs) (hs : IdRow w sp sc y.result) (l1 : y.refs.length ≤ 8796093022208) (l2 : y.result.length ≤ 8796093022208)
    (hQ : ∀ rp' rc' sp' sc' w', IdRow w' rp' rc' y.refs → IdRow w' sp' sc' y.result → Fr [] w w' → (∀ k ∈ fbl rp', w.heap.size ≤ k) → (∀ k ∈ fbl sp', w.heap.size ≤ k) → Q (y.cl rp' rc' sp' sc').val w') :
    CallR Tryz.prog 51 #[(y.cl rp rc sp sc).val] w Q := by
  apply X51.sound
  unfold X51.f
  refine newB fun g1 w2 b1 f2 h1 => newB fun g3 w4 b3 f4 h3 => ?_
  have b1 : Blk w2 g1 (y.cl rp rc sp sc).cells 50 := b1
  have F4 := f2.tr f4
  have z2 := f2.size
  have z4 := f4.size
  have l1' := b1.lt
  have l3' := b3.lt
  have b14 := b1.keep' f4
  refine ld_sl (a := rp) (n := y.refs.length) (c := rc) (b14.cat 6 _ rfl) (rids_spec (hr.keep' F4) l1 fun rp' rc' w7 r7 n7 f7 => ⟨_, _, _, rfl, ?_⟩)
  have b17 := b14.keep' f7
  have b37 := b3.keep' f7
  have F7 := F4.tr f7
  have z7 := f7.size
  have nr : ∀ k ∈ fbl rp', w.heap.size ≤ k ∧ k ≠ g1 ∧ k ≠ g3 := fun k hk => by
    have := n7 k hk
    omega
  refine stB b17 (by rw [Cl.len]; omega) fun w9 b19 f9 => ?_
  have b19 : Blk w9 g1 (y.cl rp' rc' sp sc).cells 50 := b19
  have F9 := F7.loc f9 h1
  have b39 := b37.off1 (by omega) f9
  have r9 := IdRow.off r7 (fun hm => (nr _ hm).2.1 rfl) f9
  have hs9 := hs.keep' F9
  have lr9 := r9.lt
  refine ld_sl (a := sp) (n := y.result.length) (c := sc) (b19.cat 10 _ rfl) (rids_spec hs9 l2 fun sp' sc' w12 s12 n12 f12 => ⟨_, _, _, rfl, ?_⟩)
  have b112 := b19.keep' f12
  have b312 := b39.keep' f12
  have r12 := r9.keep' f12
  have F12 := F9.tr f12
  have z9 := f9.size
  have ns : ∀ k ∈ fbl sp', w.heap.size ≤ k ∧ k ≠ g1 ∧ k ≠ g3 := fun k hk => by
    have := n12 k hk
    omega
  refine stB b112 (by rw [Cl.len]; omega) fun w14 b114 f14 => ?_
  have b114 : Blk w14 g1 (y.cl rp' rc' sp' sc').cells 50 := b114
  have F14 := F12.loc f14 h1
  have b314 := b312.off1 (by omega) f14
  have r14 := IdRow.off r12 (fun hm => (nr _ hm).2.1 rfl) f14
  have s14 := IdRow.off s12 (fun hm => (ns _ hm).2.1 rfl) f14
  refine ld_Cl (s := y.cl rp' rc' sp' sc') b114.cat (stAllB (vs := (y.cl rp' rc' sp' sc').cells) b314 rfl fun w34 b34 f34 => ld_Cl (s := y.cl rp' rc' sp' sc') b34.cat ?_)
  exact hQ rp' rc' sp' sc' w34 (IdRow.off r14 (fun hm => (nr _ hm).2.2 rfl) f34) (IdRow.off s14 (fun hm => (ns _ hm).2.2 rfl) f34) (F14.loc f34 (by omega)) (fun k hk => (nr k hk).1) (fun k hk => (ns k hk).1)
theorem rsettle_spec (t : PR w g ft al S) (i : SI S) (hn : 0 ≤ num) (hK : AftR w g ft al (settleC S to num e).1 (.bool (settleC S to num e).2) Q) : CallR Tryz.prog 23 #[.pointer (some (at0 g 0)), .int .i64 to, .int .u64 num, .int .i64 e] w Q := by
  apply X23.sound
  unfold X23.f
  unfold settleC at hK
  refine rget_spec t i hn (fun hg w2 f2 => ?_) (fun x y w2 hg r f2 => ?_)
  · rw [hg] at hK
    refine ⟨_, _, _, _, _, _, _, _, _, _, _, _, _, _, _, _, _, _, _, _, rfl, newB fun g19 w20 b20 f20 h20 => stAllB (vs := clZ.cells) b20 rfl fun w21 b21 f21 => bc_bool (fun _ => ?_) (fun e => by cases e)⟩
    exact hK.same t ((f2.tr f20).loc f21 (by have := f2.size; omega))
  · rw [hg] at hK
    simp only at hK
    have t2 := t.keep' f2
    have z2 := f2.size
    obtain ⟨k1, k2, _, _⟩ := i.getC hn hg
    refine ⟨_, _, _, _, _, _, _, _, _, _, _, _, _, _, _, _, _, _, _, _, rfl, HR.made (W := w) t2 r rfl (by omega) f2.any fun gx w3 h f3 hx => bc_bool (fun e => by cases e) (fun _ => ?_)⟩
    have es : x.state = y.state := r.facts.2.2.1
    refine ld_int (h.b.cat 8 _ rfl) (bc_ne (fun hs => ?_) (fun hs => ?_))
    · rw [if_pos (by rw [← es]; exact hs)] at hK
      exact hK ft al w3 h.t h.F (fun x hx => .inl hx) (fun x hx => .inl hx)
    · rw [if_neg (by rw [← es]; simp [hs])] at hK
      unfold X23.j0
      simp only [optP_some]
      refine h.st { x with state := 3 } { y with state := 3 } (by omega) rfl (fun w' r => r.state 3) fun w1 h1 _ => bc_ne (fun he => ?_) (fun he => ?_)
      · rw [if_pos he] at hK
        refine h1.st { x with state := 3, code := e } { y with state := 3, code := e } (by omega) rfl (fun w' r => r.code e) fun w4 h4 _ => ?_
        refine h4.st { x with state := 3, code := e, back := 0 } { y with state := 3, code := e, back := 0 } (by omega) rfl (fun w' r => r.back 0) fun w5 h5 _ => ?_
        refine h5.st { x with state := 3, code := e, back := 0, resultp := none, resultn := 0, resultc := 0 } { y with state := 3, code := e, back := 0, result := [] } (by omega) rfl (fun w' r => r.noRes) fun w6 h6 _ => drawn fun w7 f7 _ => ?_
        have h7 := h6.keep' f7
        refine rkey_spec ⟨_, rfl, ld_Cl (s := { x with state := 3, code := e, back := 0, resultp := none, resultn := 0, resultc := 0 }) h7.b.cat ⟨⟨h7.b.cat, h7.b.cat⟩, ?_⟩⟩
        rw [add_at, Nat.zero_add]
        refine h7.put (by rw [← k1, ← k2]) fun b => ?_
        intro ft' al' w8 t8 f8 e8 e9
        exact ⟨b, rfl, hK ft' al' w8 t8 f8 e8 e9⟩
      · rw [if_neg (by simp [he])] at hK
        refine drawn fun w7 f7 _ => ?_
        have h7 := h1.keep' f7
        refine rkey_spec ⟨_, rfl, ld_Cl (s := { x with state := 3 }) h7.b.cat ⟨⟨h7.b.cat, h7.b.cat⟩, ?_⟩⟩
        rw [add_at, Nat.zero_add]
        refine h7.put (by rw [← k1, ← k2]) fun b => ?_
        intro ft' al' w8 t8 f8 e8 e9
        exact ⟨b, rfl, hK ft' al' w8 t8 f8 e8 e9⟩
end
end Go.Proofs.YtdgoalhnkegbmaaGreatX
namespace Go.Proofs.YtdgoalhnkegbmaaGreatX
open Go.RowKit
set_option linter.unusedVariables false
set_option linter.unusedSimpArgs false
set_option maxRecDepth 100000
section
variable {w w' W : World} {Q : Value → World → Prop} {g gs gx gz gm gt1 : Nat} {ft al ft' al' F : List Nat} {S S' : Cs} {k to num now fl e : Int} {x z : Cl} {y : Cp} {refs : List (Int × Int)} {rp sp : Option Addr} {rc sc : Nat} {m : Msg}
def AftAR (w : World) (g : Nat) (ft al : List Nat) (S' : Cs) (y : Cp) (V : Value → Value) (Q : Value → World → Prop) : Prop := ∀ x ft' al' w', CallN w w' al' x y → PR w' g ft' al' S' → Fr ft w w' → (∀ x ∈ ft', x ∈ ft ∨ w.heap.size ≤ x) → (∀ x ∈ al', x ∈ al ∨ w.heap.size ≤ x) → Q (V x.val) w'
theorem rawait_j0 {c : Bool} (h : HR w w' g ft al S gx x y) (b8 : Blk w' gz clZ.cells 50) (n8 : gz ∉ al) (n8x : gz ≠ gx) (w8 : w.heap.size ≤ gz) (hk1 : y.to = to) (hk2 : y.num = num) (hg : getC S to num = some y) (hc : c = decide (y.state = 4))
    (hK : AftAR w g ft al (awaitC S to num now).1 (awaitC S to num now).2.1 (fun v => .tuple #[v, .bool (awaitC S to num now).2.2.1, .int .i64 (awaitC S to num now).2.2.2]) Q) :
    X24.j0 Q (some (at0 g 0)) to num now (at0 gz 0) (at0 gx 0) c w' := by
  unfold X24.j0
  simp only [optP_some]
  obtain ⟨e1, e2, e3, e4, e5, e6⟩ := h.r.facts
  have zz := h.F.size
  unfold awaitC at hK
  rw [hg] at hK
  simp only at hK
  have zero : ∀ {S2 : Cs} {b : Bool} {v : Int} {w2 : World}, AftAR w g ft al S2 yZero (fun v' => .tuple #[v', .bool b, .int .i64 v]) Q → ∀ {ft2 al2 : List Nat}, PR w2 g ft2 al2 S2 → Fr ft w w2 → (∀ x ∈ ft2, x ∈ ft ∨ w.heap.size ≤ x) → (∀ x ∈ al2, x ∈ al ∨ w.heap.size ≤ x) → gz ∉ al2 → Blk w2 gz clZ.cells 50 →
      stAll w2 (at0 gz 0) clZ.cells fun w82 => ldI .i64 w82 ((at0 gz 0).add 0) fun x0 => ldI .u64 w82 ((at0 gz 0).add 1) fun x1 => ldI .i64 w82 ((at0 gz 0).add 2) fun x2 => ldI .i64 w82 ((at0 gz 0).add 3) fun x3 => ldI .i64 w82 ((at0 gz 0).add 4) fun x4 => ldI .u64 w82 ((at0 gz 0).add 5) fun x5 => ldSl w82 ((at0 gz 0).add 6) fun x6p x6n x6c => ldI .u64 w82 ((at0 gz 0).add 7) fun x7 => ldI .i64 w82 ((at0 gz 0).add 8) fun x8 => ldI .i64 w82 ((at0 gz 0).add 9) fun x9 => ldSl w82 ((at0 gz 0).add 10) fun x10p x10n x10c => ldI .u64 w82 ((at0 gz 0).add 11) fun x11 => ldI .u64 w82 ((at0 gz 0).add 12) fun x12 => ldI .u64 w82 ((at0 gz 0).add 13) fun x13 => ldI .u64 w82 ((at0 gz 0).add 14) fun x14 => Q (.tuple #[.agg #[.int .i64 x0, .int .u64 x1, .int .i64 x2, .int .i64 x3, .int .i64 x4, .int .u64 x5, .slice x6p x6n x6c, .int .u64 x7, .int .i64 x8, .int .i64 x9, .slice x10p x10n x10c, .int .u64 x11, .int .u64 x12, .int .u64 x13, .int .u64 x14], .bool b, .int .i64 v]) w82 := by
    intro S2 b v w2 hk ft2 al2 t2 f2 q1 q2 nz bz
    refine stAllB (vs := clZ.cells) bz rfl fun w82 b82 f82 => ld_Cl (s := clZ) b82.cat ?_
    exact hk clZ ft2 al2 w82 callN_zero (t2.off nz f82) (f2.loc f82 w8) q1 q2
  refine bc_bool (fun e => ?_) (fun e => ?_)
  · rw [if_pos (by rw [e] at hc; simpa using hc.symm)] at hK
    exact zero hK h.t h.F (fun x hx => .inl hx) (fun x hx => .inl hx) n8 b8
  · have n4 : ¬ y.state = 4 := by rw [e] at hc; simpa using hc.symm
    rw [if_neg n4] at hK
    refine ld_int (h.b.cat 8 _ rfl) (bc_eq (fun hs => ?_) (fun hs => ?_))
    · rw [if_pos (by rw [← e3]; exact hs)] at hK
      refine drawn fun w18 f18 _ => ?_
      have h18 := h.keep' f18
      refine rkey_spec ⟨_, rfl, ?_⟩
      rw [add_at, Nat.zero_add]
      refine rdropT h18.t fun b => ?_
      intro ft' al' w25 t25 f25 e25 e26
      have h22 := h18
      have F22 := h22.F
      have z22 := F22.size
      have nxf : gx ∉ ft := fun hm => h.nx (h.t.sub gx hm)
      have n8f : gz ∉ ft := fun hm => n8 (h.t.sub gz hm)
      have b25 := h22.b.keep f25 nxf
      have b825 := (b8.keep' f18).keep f25 n8f
      have l22 := h22.b.lt
      have l8 := (b8.keep' f18).lt
      have F25 := F22.tr f25
      have q1 : ∀ x ∈ ft', x ∈ ft ∨ w.heap.size ≤ x := fun x hx => (e25 x hx).imp id (fun h => by omega)
      have q2 : ∀ x ∈ al', x ∈ al ∨ w.heap.size ≤ x := fun x hx => (e26 x hx).imp id (fun h => by omega)
      have nz' : gz ∉ al' := fun hm => by
        rcases e26 gz hm with h | h
        · exact n8 h
        · omega
      obtain ⟨rp, rc, sp, sc, hx, r1, r2, r3, r4⟩ := h22.r.ex
      have r1' := r1.keep f25 (fun k hk => (r3 k hk).1)
      have r2' := r2.keep f25 (fun k hk => (r4 k hk).1)
      subst hx
      refine ⟨_, rfl, ld_Cl (s := y.cl rp rc sp sc) b25.cat (rtwin_spec r1' r2' h.r.lr h.r.ls fun rp' rc' sp' sc' w43 q43 s43 f43 m43 k43 => ?_)⟩
      refine ⟨_, _, _, _, _, _, _, _, _, _, _, _, _, _, _, _, _, _, _, rfl, stAllB (vs := (y.cl rp' rc' sp' sc').cells) (b825.keep' f43) rfl fun w59 b59 f59 => ld_Cl (s := y.cl rp' rc' sp' sc') b59.cat ?_⟩
      have z25 := F25.size
      have l825 := b825.lt
      refine hK (y.cl rp' rc' sp' sc') ft' al' w59 ⟨rp', rc', sp', sc', rfl, IdRow.off q43 (fun hm => by have := m43 _ hm; omega) f59, IdRow.off s43 (fun hm => by have := k43 _ hm; omega) f59, fun k hk => ⟨by have := m43 k hk; omega, fun hm => by have := m43 k hk; have := t25.lt k hm; omega⟩, fun k hk => ⟨by have := k43 k hk; omega, fun hm => by have := k43 k hk; have := t25.lt k hm; omega⟩⟩ ((t25.keep' f43).off nz' f59) ((F25.tr f43.any).loc f59 w8) q1 q2
    · rw [if_neg (by rw [← e3]; exact hs)] at hK
      refine drawn fun w75 f75 _ => ?_
      have h75 := h.keep' f75
      have b875 := b8.keep' f75
      refine ld_int (h75.b.cat 14 _ rfl) (ld_int (h75.t.cfg0 16 _ rfl) (rpast_spec ⟨_, rfl, bc_bool (fun hp => ?_) (fun hp => ?_)⟩))
      · rw [if_pos (by rw [← e6]; simpa using hp)] at hK
        exact zero hK h75.t h75.F (fun x hx => .inl hx) (fun x hx => .inl hx) n8 b875
      · rw [if_neg (by rw [← e6]; simpa using hp)] at hK
        refine ld_int (h75.b.cat 8 _ rfl) (bc_eq (fun h2 => ?_) (fun h2 => ?_))
        · rw [if_pos (by rw [← e3]; exact h2)] at hK
          refine drawn fun w18 f18 _ => ?_
          have h18 := h75.keep' f18
          refine rkey_spec ⟨_, rfl, ?_⟩
          rw [add_at, Nat.zero_add]
          refine rdropT h18.t fun b => ?_
          intro ft' al' w25 t25 f25 e25 e26
          have h22 := h18
          have F22 := h22.F
          have z22 := F22.size
          have n8f : gz ∉ ft := fun hm => n8 (h.t.sub gz hm)
          have b822 := b875.keep' f18
          have l822 := b822.lt
          exact ⟨_, rfl, zero hK t25 (F22.tr f25) (fun x hx => (e25 x hx).imp id (fun h => by omega)) (fun x hx => (e26 x hx).imp id (fun h => by omega)) (fun hm => by
            rcases e26 gz hm with h | h
            · exact n8 h
            · omega) (b822.keep f25 n8f)⟩
        · rw [if_neg (by rw [← e3]; exact h2)] at hK
          refine h75.st { x with state := 4 } { y with state := 4 } (by omega) rfl (fun w' r => r.state 4) fun w124 h124 f124 => ?_
          have b8124 := b875.off1 n8x f124
          refine drawn fun w123 f123 _ => rkey_spec ⟨_, rfl, ld_Cl (s := { x with state := 4 }) (h124.keep' f123).b.cat ⟨⟨(h124.keep' f123).b.cat, (h124.keep' f123).b.cat⟩, ?_⟩⟩
          rw [add_at, Nat.zero_add]
          refine rputT (h124.keep' f123).t (h124.keep' f123).r (by rw [← hk1, ← hk2]) fun b => ?_
          intro ft' al' w25 t25 f25 e25 e26
          have F22 := (h124.keep' f123).F
          have b8124 := b8124.keep' f123
          have z22 := F22.size
          have n8f : gz ∉ ft := fun hm => n8 (h.t.sub gz hm)
          have l822 := b8124.lt
          exact ⟨_, rfl, zero hK t25 (F22.tr f25) (fun x hx => (e25 x hx).imp id (fun h => by omega)) (fun x hx => (e26 x hx).imp id (fun h => by omega)) (fun hm => by
            rcases e26 gz hm with h | h
            · exact n8 h
            · omega) (b8124.keep f25 n8f)⟩
theorem rawait_spec (t : PR w g ft al S) (i : SI S) (hn : 0 ≤ num) (hK : AftAR w g ft al (awaitC S to num now).1 (awaitC S to num now).2.1 (fun v => .tuple #[v, .bool (awaitC S to num now).2.2.1, .int .i64 (awaitC S to num now).2.2.2]) Q) :
    CallR Tryz.prog 24 #[.pointer (some (at0 g 0)), .int .i64 to, .int .u64 num, .int .u64 now] w Q := by
  apply X24.sound
  unfold X24.f
  refine newB fun gz w2 bz f2 hz => rget_spec (t.keep' f2) i hn (fun hg w4 f4 => ?_) (fun x y w4 hg r f4 => ?_)
  · have bz : Blk w2 gz clZ.cells 50 := bz
    refine ⟨_, _, _, _, _, _, _, _, _, _, _, _, _, _, _, _, _, _, _, _, rfl, newB fun gx w22 bx f22 hx => stAllB (vs := clZ.cells) bx rfl fun w23 b23 f23 => bc_bool (fun _ => ?_) (fun e => by cases e)⟩
    unfold X24.j0
    have z2 := f2.size
    have z4 := f4.size
    have lz := bz.lt
    have F23 : Fr [] w w23 := ((f2.tr f4).tr f22).loc f23 (by omega)
    have bz23 := (bz.keep' (f4.tr f22)).off1 (by omega) f23
    unfold awaitC at hK
    rw [hg] at hK
    simp only at hK
    refine bc_bool (fun _ => stAllB (vs := clZ.cells) bz23 rfl fun w82 b82 f82 => ld_Cl (s := clZ) b82.cat ?_) (fun e => by cases e)
    exact hK clZ ft al w82 callN_zero ((t.keep' F23).off (fun hm => by have := t.lt gz hm; omega) f82) (F23.loc f82 hz).any (fun x hx => .inl hx) (fun x hx => .inl hx)
  · have bz : Blk w2 gz clZ.cells 50 := bz
    have z2 := f2.size
    have z4 := f4.size
    have lz := bz.lt
    have t4 := (t.keep' f2).keep' f4
    refine ⟨_, _, _, _, _, _, _, _, _, _, _, _, _, _, _, _, _, _, _, _, rfl, HR.made (W := w) t4 r rfl (by omega) (f2.tr f4).any fun gx w23 h f23 hx => bc_bool (fun e => by cases e) (fun _ => ld_int (h.b.cat 8 _ rfl) ?_)⟩
    refine rawait_j0 h (bz.keep' (f4.tr f23)) (fun hm => by have := t.lt gz hm; omega) (by omega) hz (i.getC hn hg).1 (i.getC hn hg).2.1 hg ?_ hK
    rw [r.facts.2.2.1]
    by_cases h4 : y.state = 4 <;> simp [h4]
end
end Go.Proofs.YtdgoalhnkegbmaaGreatX
namespace Go.Proofs.YtdgoalhnkegbmaaGreatX
open Go.RowKit
set_option linter.unusedVariables false
set_option linter.unusedSimpArgs false
set_option maxRecDepth 100000
section
variable {w w' W : World} {Q : Value → World → Prop} {g gs gx gz gm gt1 g1 g3 : Nat} {ft al ft' al' F : List Nat} {S S' : Cs} {k to num now fl e : Int} {x z : Cl} {y : Cp} {refs : List (Int × Int)} {rp sp : Option Addr} {rc sc : Nat} {m : Msg}
/-- an answer that is a row of IDs and a bool -/
def AftIR (w : World) (g : Nat) (ft al : List Nat) (S' : Cs) (l : List (Int × Int)) (b : Bool) (Q : Value → World → Prop) : Prop := ∀ p c ft' al' w', IdRow w' p c l → (∀ k ∈ fbl p, w.heap.size ≤ k ∧ k ∉ al') → PR w' g ft' al' S' → Fr ft w w' → (∀ x ∈ ft', x ∈ ft ∨ w.heap.size ≤ x) → (∀ x ∈ al', x ∈ al ∨ w.heap.size ≤ x) → Q (.tuple #[.slice p l.length c, .bool b]) w'
theorem AftIR.none {b : Bool} (hK : AftIR w g ft al S [] b Q) (t : PR w' g ft al S) (F : Fr ft w w') : Q (.tuple #[.slice none 0 0, .bool b]) w' := hK Option.none 0 ft al w' Own.nil (by simp [fbl]) t F (fun x hx => .inl hx) (fun x hx => .inl hx)
theorem rreply_spec {lc : Nat} (t : PR w g ft al S) (i : SI S) (hn : 0 ≤ m.call) (hr : Stays w ft rp m.refs) (h0r : rp = none → rc = 0) (hl : m.refs.length ≤ 8796093022208)
    (hK : AftIR w g ft al (replyC S m.kind m.to m.frm m.call m.code m.value m.refs).1 (replyC S m.kind m.to m.frm m.call m.code m.value m.refs).2.1 (replyC S m.kind m.to m.frm m.call m.code m.value m.refs).2.2 Q) :
    CallR Tryz.prog 21 #[.pointer (some (at0 g 0)), msgV m rp rc none lc] w Q := by
  apply X21.sound
  unfold X21.f
  simp only [optP_some]
  refine newB fun gm w2 bm f2 hgm => drawn fun w3 f3 _ => ?_
  have bm : Blk w2 gm (m.cells rp rc none lc) 63 := bm
  have F3 := f2.tr f3
  have t3 := t.keep' F3
  have b3 := bm.keep' f3
  have z2 := f2.size
  have z3 := f3.size
  have lm := bm.lt
  unfold replyC at hK
  have nope : (m.kind ≠ 2 ∨ m.to ≠ S.node ∨ otherB S m.frm = false) → ∀ {w4 : World}, Fr [] w w4 → Q (.tuple #[.slice none 0 0, .bool false]) w4 := fun hn w4 f4 => by
    rw [if_pos hn] at hK
    exact hK.none (t.keep' f4) f4.any
  have hoth : otherB S m.frm = if m.frm < 1 ∨ m.frm > S.c.nodes ∨ m.frm = S.node then false else true := by
    split
    · rename_i hc
      cases ho : otherB S m.frm with
      | false => rfl
      | true => have := other_rng ho; omega
    · exact other_of (by omega) (by omega) (by omega)
  refine ld_int (b3.cat 0 _ rfl) (bc_ne (fun h => nope (.inl h) F3) (fun h0 => ld_int (b3.cat 2 _ rfl) (ld_int t3.node (bc_ne (fun h => nope (.inr (.inl h)) F3) (fun h2 => ?_)))))
  refine ld_int (b3.cat 1 _ rfl) (bc_dec (fun e => nope (.inr (.inr (by rw [hoth, if_pos (.inl e)]))) F3) (fun e1 => ld_int (b3.cat 1 _ rfl) (ld_int (t3.cfg0 0 _ rfl) (bc_dec (fun e => nope (.inr (.inr (by rw [hoth, if_pos (.inr (.inl e))]))) F3) (fun e2 => ?_)))))
  refine ld_int (b3.cat 1 _ rfl) (ld_int t3.node (bc_eq (fun e => nope (.inr (.inr (by rw [hoth, if_pos (.inr (.inr e))]))) F3) (fun e3 => ?_)))
  have e1 : ¬ m.frm < 1 := e1
  have e2 : ¬ m.frm > S.c.nodes := e2
  have e3 : ¬ m.frm = S.node := e3
  have ho : otherB S m.frm = true := by rw [hoth, if_neg (by omega)]
  rw [if_neg (by
    rintro (h | h | h)
    · exact h h0
    · exact h h2
    · rw [ho] at h; cases h)] at hK
  unfold X21.j0
  simp only [optP_some]
  have nm : gm ∉ al := fun hm => by have := t.lt gm hm; omega
  refine ld_int (b3.cat 1 _ rfl) (ld_int (b3.cat 3 _ rfl) (rget_spec t3 i hn (fun hg w4 f4 => ?_) (fun x y w4 hg r f4 => ?_)))
  · rw [hg] at hK
    simp only at hK
    refine ⟨_, _, _, _, _, _, _, _, _, _, _, _, _, _, _, _, _, _, _, _, rfl, newB fun g21 w22 b22 f22 h22 => stAllB (vs := clZ.cells) b22 rfl fun w23 b23 f23 => bc_bool (fun _ => drawn fun w24 f24 _ => ?_) (fun e => by cases e)⟩
    have z4 := f4.size
    have F24 : Fr [] w3 w24 := ((f4.tr f22).loc f23 (by omega)).tr f24
    have bm24 := ((b3.keep' (f4.tr f22)).off1 (by omega) f23).keep' f24
    have t24 := t3.keep' F24
    obtain ⟨q0, q1, hc⟩ := t24.lat (to := m.frm) (by omega) (by omega)
    refine ld_int (bm24.cat 3 _ rfl) (ld_int t24.first (bc_dec (fun h => ?_) (fun h => ?_)))
    · refine ld_int (bm24.cat 3 _ rfl) (ld_int (bm24.cat 1 _ rfl) ⟨⟨q0, q1⟩, ld_int hc ?_⟩)
      have := hK.none t24 (F3.tr F24).any
      rw [decide_eq_true h, Bool.true_and] at this
      exact this
    · have := hK.none t24 (F3.tr F24).any
      rw [decide_eq_false h, Bool.false_and] at this
      exact this
  · rw [hg] at hK
    simp only at hK
    have t4 := t3.keep' f4
    have z4 := f4.size
    obtain ⟨hk1, hk2, _, _⟩ := i.getC hn hg
    refine ⟨_, _, _, _, _, _, _, _, _, _, _, _, _, _, _, _, _, _, _, _, rfl, HR.made (W := w) t4 r rfl (by omega) (F3.tr f4).any fun gx w23 h f23 hx => bc_bool (fun e => by cases e) (fun _ => ?_)⟩
    have es := r.facts.2.2.1
    have bm23 := b3.keep' (f4.tr f23)
    have z23 := f23.size
    have ngm : gm ≠ gx := by omega
    refine ld_int (h.b.cat 8 _ rfl) (bc_eq (fun h1 => ?_) (fun n1 => bc_eq (fun h4 => ?_) (fun n4 => ?_)))
    · rw [if_pos (by rw [← es]; exact h1)] at hK
      refine h.st { x with state := 2 } { y with state := 2 } (by omega) rfl (fun w' r => r.state 2) fun w33 h33 f33 => ?_
      have bm33 := bm23.off1 ngm f33
      refine ld_int (bm33.cat 12 _ rfl) (h33.st { x with state := 2, code := m.code } { y with state := 2, code := m.code } (by omega) rfl (fun w' r => r.code m.code) fun w35 h35 f35 => ?_)
      have bm35 := bm33.off1 ngm f35
      refine ld_int (bm35.cat 11 _ rfl) (h35.st { x with state := 2, code := m.code, back := m.value } { y with state := 2, code := m.code, back := m.value } (by omega) rfl (fun w' r => r.back m.value) fun w37 h37 f37 => ?_)
      have bm37 := bm35.off1 ngm f37
      have lx := h.b.lt
      have z33 := f33.size
      have z35 := f35.size
      have z37 := f37.size
      have F337 : Fr [gx] w w37 := ((((F3.tr (f4.tr f23)).any.tr f33).tr f35).tr f37)
      have hr37 := hr [gx] _ F337 (fun k hk => .inr (by simp at hk; omega))
      refine ld_sl (a := rp) (n := m.refs.length) (c := rc) (bm37.cat 10 _ rfl) (ridsC_spec hr37 h0r hl fun p c w40 r40 n40 f40 => ⟨_, _, _, rfl, ?_⟩)
      have h40 := h37.keep' f40
      have bm40 := bm37.keep' f40
      have np : ∀ k ∈ fbl p, w.heap.size ≤ k ∧ k ∉ al ∧ k ≠ gx ∧ k ≠ gm := fun k hk => by
        have hk2 : w37.heap.size ≤ k := n40 k hk
        refine ⟨by omega, fun hm => ?_, by omega, by omega⟩
        have := t.lt k hm
        omega
      refine stB h40.b (by rw [Cl.len]; omega) fun w42 b42 f42 => drawn fun w43 f43 _ => ?_
      have b47 : Blk w43 gx ({ x with state := 2, code := m.code, back := m.value, resultp := p, resultn := m.refs.length, resultc := c } : Cl).cells 50 := (show Blk w42 gx ({ x with state := 2, code := m.code, back := m.value, resultp := p, resultn := m.refs.length, resultc := c } : Cl).cells 50 from b42).keep' f43
      have t47 := (h40.t.off h.nx f42).keep' f43
      have r47 := (IdRow.off r40 (fun hm => (np _ hm).2.2.1 rfl) f42).keep' f43
      have bm47 := (bm40.off1 ngm f42).keep' f43
      have F47 : Fr ft w w43 := (h40.F.loc f42 h.wx).tr f43.any
      have tg : PR w43 g ft (al ++ fbl p) S := t47.grow (fun x hx => by simp [hx]) (fun x hx => by
        rcases List.mem_append.1 hx with hx | hx
        · exact t47.lt x hx
        · exact r47.lt x hx)
      have rg : CRel w43 ft (al ++ fbl p) { x with state := 2, code := m.code, back := m.value, resultp := p, resultn := m.refs.length, resultc := c } { y with state := 2, code := m.code, back := m.value, result := m.refs } :=
        CRel.res (y := { y with state := 2, code := m.code, back := m.value }) (x := { x with state := 2, code := m.code, back := m.value }) (((h40.r.off h.nx f42).keep' f43).mono (fun k _ hn => hn) (fun k hk _ => by simp [hk])) hl r47 (fun k hk => ⟨fun hm => (np k hk).2.1 (t.sub k hm), by simp [hk]⟩)
      have ek : keyOf x.to x.num = keyOf y.to y.num := by rw [r.facts.1, r.facts.2.1]
      refine ld_int (b47.cat 0 _ rfl) (ld_int (b47.cat 1 _ rfl) (rkey_spec ⟨_, rfl, ld_Cl (s := { x with state := 2, code := m.code, back := m.value, resultp := p, resultn := m.refs.length, resultc := c }) b47.cat ⟨⟨b47.cat, b47.cat⟩, ?_⟩⟩))
      rw [add_at, Nat.zero_add]
      refine rputT tg rg ek fun b => ?_
      intro ft' al' w64 t64 f64 e64 e65
      have z47w := F47.size
      have ngf : gm ∉ ft := fun hm => nm (t.sub gm hm)
      have bm64 := bm47.keep f64 ngf
      have F64 := F47.tr f64
      have hr64 := hr ft _ F64 (fun k hk => .inl hk)
      refine ⟨b, rfl, ld_sl (a := rp) (n := m.refs.length) (c := rc) (bm64.cat 10 _ rfl) (ridsC_spec hr64 h0r hl fun p2 c2 w69 r69 n69 f69 => ⟨_, _, _, rfl, ?_⟩)⟩
      have z64 := f64.size
      refine hK p2 c2 ft' al' w69 r69 (fun k hk => ⟨by have := n69 k hk; omega, fun hm => by have := n69 k hk; have := t64.lt k hm; omega⟩) (t64.keep' f69) (F64.tr f69.any) (fun k hk => (e64 k hk).imp id (fun h => by omega)) (fun k hk => ?_)
      rcases e65 k hk with h' | h'
      · rcases List.mem_append.1 h' with h' | h'
        · exact .inl h'
        · exact .inr (np k h').1
      · exact .inr (by omega)
    · rw [if_neg (by rw [← es]; exact n1), if_pos (by rw [← es]; exact h4)] at hK
      refine drawn fun w71 f71 _ => ?_
      have h71 := h.keep' f71
      obtain ⟨e1, e2, _⟩ := r.facts
      refine ld_int (h71.b.cat 0 _ rfl) (ld_int (h71.b.cat 1 _ rfl) (rkey_spec ⟨_, rfl, ?_⟩))
      rw [show keyOf x.to x.num = keyOf y.to y.num by rw [e1, e2], add_at, Nat.zero_add]
      refine rdropT h71.t fun b => ?_
      intro ft' al' w80 t80 f80 e80 e81
      have z77 := h71.F.size
      exact ⟨_, rfl, hK Option.none 0 ft' al' w80 Own.nil (by simp [fbl]) t80 (h71.F.tr f80) (fun k hk => (e80 k hk).imp id (fun h => by omega)) (fun k hk => (e81 k hk).imp id (fun h => by omega))⟩
    · rw [if_neg (by rw [← es]; exact n1), if_neg (by rw [← es]; exact n4)] at hK
      refine drawn fun w82 f82 _ => ld_int ((h.keep' f82).b.cat 8 _ rfl) ?_
      have h82 := h.keep' f82
      by_cases h3 : x.state = 3
      · rw [if_pos (by rw [← es]; exact h3)] at hK
        rw [show (x.state == 3) = true by simp [h3]]
        exact hK.none h82.t h82.F
      · rw [if_neg (by rw [← es]; exact h3)] at hK
        rw [show (x.state == 3) = false by simp [h3]]
        exact hK.none h82.t h82.F
end
end Go.Proofs.YtdgoalhnkegbmaaGreatX
namespace Go.Proofs.YtdgoalhnkegbmaaGreatX
open Go.RowKit
set_option linter.unusedVariables false
set_option linter.unusedSimpArgs false
set_option maxRecDepth 100000
section
variable {w w' W : World} {Q : Value → World → Prop} {g gs gx gz gm gt1 g1 g3 : Nat} {ft al ft' al' F : List Nat} {S S' : Cs} {k to num now fl : Int} {x z : Cl} {y : Cp} {e : Int × Cp} {refs : List (Int × Int)} {rp sp : Option Addr} {rc sc : Nat} {m : Msg}
theorem keys_lt {i j : Nat} {a b : Int × Cp} (h : Srt ilt (keys S.l)) (ha : S.l[i]? = some a) (hb : S.l[j]? = some b) (hij : i < j) : a.1 < b.1 := by
  have hp := List.pairwise_iff_getElem.1 h
  have hi := (List.getElem?_eq_some_iff.1 ha)
  have hj := (List.getElem?_eq_some_iff.1 hb)
  obtain ⟨hi1, hi2⟩ := hi
  obtain ⟨hj1, hj2⟩ := hj
  have := hp i j (by simp; omega) (by simp; omega) hij
  simp only [keys, List.getElem_map, hi2, hj2, ilt, decide_eq_true_eq] at this
  exact this
theorem YW.keyv (i : SI S) (w : YW S y) : keyOf y.to y.num = y.to * 72057594037927936 + y.num := by
  have := YW.rng i w
  have := w.n1
  have := w.n2
  exact keyOf_eq (by omega) (by omega) (by omega) (by omega)
theorem floor_hit (i : SI S) (ho : otherB S to = true) {n : Nat} (he : S.l[n]? = some e) (ht : e.2.to = to) (hb : ∀ j f, j < n → S.l[j]? = some f → f.2.to ≠ to) : floorC S to = e.2.num := by
  have hr := other_rng ho
  have hnd := i.nodes
  obtain ⟨e1, yw⟩ := i.ent e (List.mem_of_getElem? he)
  have ek := YW.keyv i yw
  have n1 := yw.n1
  have n2 := yw.n2
  have k0 : keyOf to 0 = to * 72057594037927936 := by rw [keyOf_eq (by omega) (by omega) (by omega) (by omega)]; omega
  have hn : n < S.l.length := (List.getElem?_eq_some_iff.1 he).1
  have hat : at_ ilt S.l (keyOf to 0) = n := by
    by_cases h1 : n < at_ ilt S.l (keyOf to 0)
    · have := rank_lt (lt := ilt) h1 (show (keys S.l)[n]? = some e.1 by rw [keysG_get, he]; rfl)
      simp [ilt] at this
      omega
    · by_cases h2 : at_ ilt S.l (keyOf to 0) < n
      · have hlt : at_ ilt S.l (keyOf to 0) < S.l.length := by omega
        have hf := List.getElem?_eq_getElem hlt
        generalize S.l[at_ ilt S.l (keyOf to 0)] = f at hf
        have hge := rank_ge ilt_lin i.srt (Nat.le_refl _) (show (keys S.l)[at_ ilt S.l (keyOf to 0)]? = some f.1 by rw [keysG_get, hf]; rfl)
        simp [ilt] at hge
        have hne := hb _ f h2 hf
        have hlt2 := keys_lt i.srt hf he h2
        obtain ⟨f1, fw⟩ := i.ent f (List.mem_of_getElem? hf)
        have fk := YW.keyv i fw
        have := fw.n1
        have := fw.n2
        omega
      · omega
  have hh : has ilt S.l (keyOf to 0) = false := by
    unfold has
    rw [hat, keysG_get, he]
    simp
    omega
  unfold floorC
  rw [if_neg (by rw [ho]; simp)]
  have hnx : next ilt S.l (keyOf to 0) = some e.1 := by
    unfold next
    rw [hh, if_neg (by simp), hat, keysG_get, he]
    rfl
  rw [hnx]
  simp only
  rw [e1, key_shr (by omega) (by omega) (by omega) (by omega), if_neg (by simp [ht]), key_and (by omega) (by omega) (by omega) (by omega)]
theorem floor_miss (i : SI S) (ho : otherB S to = true) (hb : ∀ f ∈ S.l, f.2.to ≠ to) : floorC S to = IntKind.wrap .u64 (latestOf S to + 1) := by
  have hnd := i.nodes
  unfold floorC
  rw [if_neg (by rw [ho]; simp)]
  cases hn : next ilt S.l (keyOf to 0) with
  | none => rfl
  | some k =>
    simp only
    unfold next at hn
    obtain ⟨e, he, rfl⟩ := List.mem_map.1 (List.mem_of_getElem? hn)
    obtain ⟨e1, yw⟩ := i.ent e he
    have := YW.rng i yw
    have := yw.n1
    have := yw.n2
    rw [e1, key_shr (by omega) (by omega) (by omega) (by omega), if_pos (hb e he)]
theorem rfloor_l0 {pk pv : Option Addr} {ck cv : Nat} {lm : List (Int × Cl)} (t : PRa w g ft al S pk pv ck cv lm) (i : SI S) (ho : otherB S to = true) (hQ : Q (.int .u64 (floorC S to)) w) :
    ∀ (f n : Nat), S.l.length - n < f → n ≤ S.l.length → (∀ j e, j < n → S.l[j]? = some e → e.2.to ≠ to) → X32.l0 Q f (some (at0 g 0)) to (n : Int) w
  | 0, n, hf, _, _ => absurd hf (Nat.not_lt_zero _)
  | f + 1, n, hf, hn, hb => by
    rw [X32.l0]
    simp only [optP_some]
    have hlen := t.rel.len
    have htop := t.tab.top
    have hv : w.cell? (((at0 g 0).add 89).add 2) = some (.slice pv lm.length cv) := by rw [add_at, Nat.zero_add]; exact t.tab.v2
    refine ld_sl hv (bc_dec (fun h1 => ld_sl hv ⟨⟨by omega, by omega⟩, ?_⟩) (fun h1 => ?_))
    · have hlt : n < lm.length := by omega
      have hl := List.getElem?_eq_getElem hlt
      generalize lm[n] = a at hl
      obtain ⟨e, he, ek, r⟩ := t.rel.el n a hl
      obtain ⟨p, hp, hx⟩ := own_at vc_len_CB t.tab.vs rfl hl
      have hx' : At w (p.add (Int.toNat (n : Int) * 15)) a.2.cells := by rw [Int.toNat_natCast]; exact hx
      have eto := r.facts.1
      have enum := r.facts.2.1
      refine opt_some hp (ld_int (hx' 0 _ rfl) (bc_eq (fun hh => ?_) (fun hh => ?_)))
      · refine ld_sl hv ⟨⟨by omega, by omega⟩, opt_some hp (ld_int (hx' 1 _ rfl) ?_)⟩
        have := floor_hit i ho he (by rw [← eto]; exact hh) hb
        rw [this, ← enum] at hQ
        exact hQ
      · rw [i64w ((n : Int) + 1) (by omega) (by omega), show (n : Int) + 1 = ((n + 1 : Nat) : Int) by omega]
        refine rfloor_l0 t i ho hQ f (n + 1) (by omega) (by omega) (fun j e' hj he' => ?_)
        by_cases hjn : j < n
        · exact hb j e' hjn he'
        · have : j = n := by omega
          subst this
          rw [he] at he'
          injection he' with he'
          subst he'
          rw [← eto]
          exact hh
    · have hr := other_rng ho
      have hpr : PR w g ft al S := ⟨pk, pv, ck, cv, lm, t⟩
      obtain ⟨q0, q1, hc⟩ := hpr.lat (to := to) (by omega) (by omega)
      refine ⟨⟨q0, q1⟩, ld_int hc ?_⟩
      have := floor_miss i ho (fun f' hf' => by
        obtain ⟨j, hj⟩ := List.getElem?_of_mem hf'
        exact hb j f' (by have := (List.getElem?_eq_some_iff.1 hj).1; omega) hj)
      rw [this] at hQ
      exact hQ
theorem rfloor_spec (t : PR w g ft al S) (i : SI S) (hQ : ∀ w', Fr [] w w' → Q (.int .u64 (floorC S to)) w') : CallR Tryz.prog 32 #[.pointer (some (at0 g 0)), .int .i64 to] w Q := by
  apply X32.sound
  unfold X32.f
  simp only [optP_some]
  have q := hQ w (Fr.refl _)
  have zero : otherB S to = false → Q (.int .u64 0) w := fun ho => by
    unfold floorC at q
    rw [if_pos ho] at q
    exact q
  refine bc_dec (fun h => zero ?_) (fun h => ld_int (t.cfg0 0 _ rfl) (bc_dec (fun h2 => zero ?_) (fun h2 => ld_int t.node (bc_eq (fun h3 => zero ?_) (fun h3 => ?_)))))
  · cases ho : otherB S to with
    | false => rfl
    | true => have := other_rng ho; omega
  · cases ho : otherB S to with
    | false => rfl
    | true => have := other_rng ho; have h2 : to > S.c.nodes := h2; omega
  · cases ho : otherB S to with
    | false => rfl
    | true => have := other_rng ho; omega
  · have h2 : ¬ to > S.c.nodes := h2
    unfold X32.j1
    obtain ⟨pk, pv, ck, cv, lm, t'⟩ := t
    exact ⟨S.l.length + 1, rfloor_l0 t' i (other_of (by omega) (by omega) h3) q _ 0 (by omega) (by omega) (fun j e hj => by omega)⟩
def AftMR (w : World) (g : Nat) (ft al : List Nat) (S' : Cs) (y : Cp) (m : Msg) (b : Bool) (Q : Value → World → Prop) : Prop := ∀ (x : Cl) mp mc ft' al' w', CallN w w' al' x y → IdRow w' mp mc m.refs → (∀ k ∈ fbl mp, w.heap.size ≤ k ∧ k ∉ al') → PR w' g ft' al' S' → Fr ft w w' → (∀ x ∈ ft', x ∈ ft ∨ w.heap.size ≤ x) → (∀ x ∈ al', x ∈ al ∨ w.heap.size ≤ x) → Q (.tuple #[x.val, msgV m mp mc none 0, .bool b]) w'
theorem rstep_j0 (h : HR w w' g ft al S gx x y) (sb : SB w w' al gx g1 g3 gt1 z) (zr : ZR w w' al [g1, g3, gx, gt1] z y) (i : SI S) (yw : YW S y) (hk : k = keyOf y.to y.num)
    (hK : AftMR w g ft al (putC S (againS S y now)) y (askM (putC S (againS S y now)) y (floorC (putC S (againS S y now)) y.to)) true Q) : X18.j0 Q (some (at0 g 0)) now (at0 g1 0) (at0 g3 0) k (at0 gx 0) (at0 gt1 0) w' := by
  unfold X18.j0
  simp only [optP_some]
  refine h.st { x with sent := now } { y with sent := now } (by omega) rfl (fun w' r => r.sent now) fun w1 h1 f1 => drawn fun w2 f2 _ => ?_
  have zr2 := (zr.keep f1 (fun k hk => .inr (by simp at hk; simp [hk]))).keep' f2
  have sb2 := (sb.offx f1).keep' f2
  have h2 := h1.keep' f2
  have ew : ({ x with sent := now } : Cl).wait = y.wait := h.r.facts.2.2.2.2.1
  have hmw := may_wait i.may
  refine ld_int (h2.b.cat 13 _ rfl) (ld_int (h2.t.cfg0 14 _ rfl) (ld_int (h2.t.cfg0 15 _ rfl) ?_))
  rw [ew]
  refine rwait_spec yw.wt (by omega) (by omega) ⟨_, rfl, ?_⟩
  refine h2.st { x with sent := now, wait := waitN y.wait S.c.wait S.c.most } (againS S y now) (by omega) rfl (fun w' r => r.wait _) fun w11a h11a f11 => drawn fun w11 f11b _ => ?_
  have h11 := h11a.keep' f11b
  have sb11 := (sb2.offx f11).keep' f11b
  have zr11 := (zr2.keep f11 (fun k hk => .inr (by simp at hk; simp [hk]))).keep' f11b
  refine ld_Cl (s := { x with sent := now, wait := waitN y.wait S.c.wait S.c.most }) h11.b.cat ?_
  rw [add_at, Nat.zero_add]
  refine rputT h11.t h11.r hk fun b => ?_
  intro ft' al' w28 t28 f28 e28 e29
  have nf : ∀ {k : Nat}, k ∉ al → k ∉ ft := fun hk hm => hk (h.t.sub _ hm)
  have F28 := h11.F.tr f28
  have z11 := h11.F.size
  have q1 : ∀ x ∈ ft', x ∈ ft ∨ w.heap.size ≤ x := fun x hx => (e28 x hx).imp id (fun h => by omega)
  have q2 : ∀ x ∈ al', x ∈ al ∨ w.heap.size ≤ x := fun x hx => (e29 x hx).imp id (fun h => by omega)
  have na : ∀ {k : Nat}, k ∉ al → k < w11.heap.size → k ∉ al' := fun hk hl hm => by
    rcases e29 _ hm with h | h
    · exact hk h
    · omega
  have l1 := sb11.b1.lt
  have l3 := sb11.b3.lt
  have lt1 := sb11.bt.lt
  have lx := h11.b.lt
  have n1 := na sb.n1 l1
  have n3 := na sb.n3 l3
  have b1 := sb11.b1.keep f28 (nf sb.n1)
  have b3 := sb11.b3.keep f28 (nf sb.n3)
  have bt := sb11.bt.keep f28 (nf sb.nt)
  have bx := h11.b.keep f28 (nf h.nx)
  obtain ⟨rp, rc, sp, sc, hx, r1, r2, r3, r4⟩ := h11.r.ex
  have r28 : IdRow w28 rp rc y.refs := r1.keep f28 (fun k hk => (r3 k hk).1)
  rw [hx] at bx
  have s28 : SI (putC S (againS S y now)) := i.put ⟨yw.ot, yw.n1, yw.n2, wait_pos i yw.wt⟩
  have ids : ∀ {w : World}, At w (at0 gx 0) ((againS S y now).cl rp rc sp sc).cells → ∀ j u, ([.int .i64 y.tn, .int .u64 y.ts] : List Value)[j]? = some u → w.cell? (((at0 gx 0).add 4).add j) = some u := fun b j u hj => by
    refine b.sub 4 j ?_
    match j, hj with
    | 0, hj => exact hj
    | 1, hj => exact hj
  refine ⟨b, rfl, drawn fun w29 f29 _ => ld_Cl (s := z) (bt.keep' f29).cat ?_⟩
  have bx29 := bx.keep' f29
  have bt29 := bt.keep' f29
  have t29 := t28.keep' f29
  refine ld_int t29.node (ld_int (bx29.cat 0 _ rfl) (ld_int (bx29.cat 1 _ rfl) (ld_int (bx29.cat 0 _ rfl) (rfloor_spec t29 s28 fun w54 f54 => ⟨_, rfl, ?_⟩))))
  have bx54 := bx29.keep' f54
  have bt54 := bt29.keep' f54
  have t54 := t29.keep' f54
  refine ⟨⟨bx29.cat 1 _ rfl, bx54.cat 1 _ rfl⟩, ⟨bx29.cat 0 _ rfl, bx54.cat 0 _ rfl⟩, ⟨t29.node, t54.node⟩, ⟨bt29.cat, bt54.cat⟩, ?_⟩
  refine ld_int (bx54.cat 2 _ rfl) ⟨⟨bx29.cat 2 _ rfl, bx54.cat 2 _ rfl⟩, ld_int (bx54.cat 3 _ rfl) ⟨⟨bx29.cat 3 _ rfl, bx54.cat 3 _ rfl⟩, ld_int (ids bx54.cat 0 _ rfl) (ld_int (ids bx54.cat 1 _ rfl) ⟨⟨ids bx29.cat, ids bx54.cat⟩, ld_int (bx54.cat 7 _ rfl) ⟨⟨bx29.cat 7 _ rfl, bx54.cat 7 _ rfl⟩, ?_⟩⟩)⟩⟩
  refine ld_sl (a := rp) (n := y.refs.length) (c := rc) (bx54.cat 6 _ rfl) ⟨⟨bx29.cat 6 _ rfl, bx54.cat 6 _ rfl⟩, rids_spec ((r28.keep' f29).keep' f54) h11.r.lr fun mp mc w63 m63 n63 f63 => ⟨_, _, _, rfl, ?_⟩⟩
  have bx63 := bx54.keep' f63
  have bt63 := bt54.keep' f63
  have t63 := t54.keep' f63
  have f65' := f29.tr (f54.tr f63)
  have z28 := f28.size
  have z63 := f65'.size
  have z54 := (f29.tr f54).size
  refine ⟨⟨bx54.cat 7 _ rfl, bx63.cat 7 _ rfl⟩, ⟨ids bx54.cat, ids bx63.cat⟩, ⟨bx54.cat 3 _ rfl, bx63.cat 3 _ rfl⟩, ⟨bx54.cat 2 _ rfl, bx63.cat 2 _ rfl⟩, ⟨bx54.cat 1 _ rfl, bx63.cat 1 _ rfl⟩, ⟨bx54.cat 0 _ rfl, bx63.cat 0 _ rfl⟩, ⟨t54.node, t63.node⟩, ⟨bt54.cat, bt63.cat⟩, ?_⟩
  refine stAllB (vs := z.cells) (b1.keep' f65') rfl fun w85 b85 f85 => ?_
  have b385 := (b3.keep' f65').off1 sb.d13.symm f85
  have bx85 := bx63.off1 sb.x1 f85
  have t85 := t63.off n1 f85
  refine ⟨⟨bx63.cat 7 _ rfl, bx85.cat 7 _ rfl⟩, ⟨ids bx63.cat, ids bx85.cat⟩, ⟨bx63.cat 3 _ rfl, bx85.cat 3 _ rfl⟩, ⟨bx63.cat 2 _ rfl, bx85.cat 2 _ rfl⟩, ⟨bx63.cat 1 _ rfl, bx85.cat 1 _ rfl⟩, ⟨bx63.cat 0 _ rfl, bx85.cat 0 _ rfl⟩, ⟨t63.node, t85.node⟩, ?_⟩
  refine stAllB (vs := (askM (putC S (againS S y now)) (againS S y now) (floorC (putC S (againS S y now)) y.to)).cells mp mc none 0) b385 rfl fun w86 b86 f86 => ?_
  have b186 := b85.off1 sb.d13 f86
  refine ld_Cl (s := z) b186.cat (ld_Mg (m := askM (putC S (againS S y now)) (againS S y now) (floorC (putC S (againS S y now)) y.to)) (rp := mp) (rc := mc) (lp := none) (lc := 0) b86.cat ?_)
  have mb : ∀ k ∈ fbl mp, w54.heap.size ≤ k := n63
  have m85 : IdRow w85 mp mc y.refs := IdRow.off m63 (fun hm => by have := mb _ hm; omega) f85
  have m86 : IdRow w86 mp mc y.refs := IdRow.off m85 (fun hm => by have := mb _ hm; omega) f86
  have t86 := ((t28.keep' f65').off n1 f85).off n3 f86
  have zr86 := ((((zr11.re (fun k hk hl => na hk hl)).keep f28 (fun k hk => .inl (List.mem_append.2 (.inl (h.t.sub k hk))))).keep' f65').keep f85 (fun k hk => .inr (by simp at hk; simp [hk]))).keep f86 (fun k hk => .inr (by simp at hk; simp [hk]))
  exact hK z mp mc ft' al' w86 (zr86.call (fun k hk => List.mem_append.2 (.inr hk))) m86 (fun k hk => ⟨by have := mb k hk; omega, fun hm => by have := mb k hk; have := t28.lt k hm; omega⟩) t86 (((F28.tr f65'.any).loc f85 sb.w1).loc f86 sb.w3) q1 q2
theorem rstep_spec (t : PR w g ft al S) (i : SI S) (hK : AftMR w g ft al (stepC S now).1 (stepC S now).2.1 (stepM S now) (stepC S now).2.2 Q) : CallR Tryz.prog 18 #[.pointer (some (at0 g 0)), .int .u64 now] w Q := by
  apply X18.sound
  unfold X18.f
  simp only [optP_some]
  refine newB fun g1 w2 b1 f2 h1 => newB fun g3 w4 b3 f4 h3 => drawn fun w5 f5 _ => ?_
  have b1 : Blk w2 g1 clZ.cells 50 := b1
  have b3 : Blk w4 g3 (mZ.cells none 0 none 0) 63 := b3
  have F5 := (f2.tr f4).tr f5
  have z2 := f2.size
  have z4 := f4.size
  have z5 := f5.size
  have l1 := b1.lt
  have l3 := b3.lt
  have t5 := t.keep' F5
  have n1 : g1 ∉ al := fun hm => by have := t.lt g1 hm; omega
  have n3 : g3 ∉ al := fun hm => by have := t.lt g3 hm; omega
  -- nothing is sent: the answer z, an empty message
  have none_ : ∀ {z : Cl} {y0 : Cp} {bs : List Nat} {S2 : Cs} {w2 : World}, PR w2 g ft al S2 → Fr ft w w2 → Blk w2 g1 clZ.cells 50 → Blk w2 g3 (mZ.cells none 0 none 0) 63 → ZR w w2 al (g1 :: g3 :: bs) z y0 → AftMR w g ft al S2 y0 mZ false Q →
      stAll w2 (at0 g1 0) z.cells fun w14 => stAll w14 (at0 g3 0) (mZ.cells none 0 none 0) fun w15 => ldI .i64 w15 ((at0 g1 0).add 0) fun x0 => ldI .u64 w15 ((at0 g1 0).add 1) fun x1 => ldI .i64 w15 ((at0 g1 0).add 2) fun x2 => ldI .i64 w15 ((at0 g1 0).add 3) fun x3 => ldI .i64 w15 ((at0 g1 0).add 4) fun x4 => ldI .u64 w15 ((at0 g1 0).add 5) fun x5 => ldSl w15 ((at0 g1 0).add 6) fun x6p x6n x6c => ldI .u64 w15 ((at0 g1 0).add 7) fun x7 => ldI .i64 w15 ((at0 g1 0).add 8) fun x8 => ldI .i64 w15 ((at0 g1 0).add 9) fun x9 => ldSl w15 ((at0 g1 0).add 10) fun x10p x10n x10c => ldI .u64 w15 ((at0 g1 0).add 11) fun x11 => ldI .u64 w15 ((at0 g1 0).add 12) fun x12 => ldI .u64 w15 ((at0 g1 0).add 13) fun x13 => ldI .u64 w15 ((at0 g1 0).add 14) fun x14 =>
        ldI .i64 w15 ((at0 g3 0).add 0) fun y0 => ldI .i64 w15 ((at0 g3 0).add 1) fun y1 => ldI .i64 w15 ((at0 g3 0).add 2) fun y2 => ldI .u64 w15 ((at0 g3 0).add 3) fun y3 => ldI .u64 w15 ((at0 g3 0).add 4) fun y4 => ldI .i64 w15 ((at0 g3 0).add 5) fun y5 => ldI .i64 w15 ((at0 g3 0).add 6) fun y6 => ldI .i64 w15 ((at0 g3 0).add 7) fun y7 => ldI .i64 w15 ((at0 g3 0).add 8) fun y8 => ldI .u64 w15 ((at0 g3 0).add 9) fun y9 => ldSl w15 ((at0 g3 0).add 10) fun y10p y10n y10c => ldI .u64 w15 ((at0 g3 0).add 11) fun y11 => ldI .i64 w15 ((at0 g3 0).add 12) fun y12 => ldI .u64 w15 ((at0 g3 0).add 13) fun y13 => ldI .i64 w15 ((at0 g3 0).add 14) fun y14 => ldI .u64 w15 ((at0 g3 0).add 15) fun y15 => ldI .i64 w15 ((at0 g3 0).add 16) fun y16 => ldI .u64 w15 ((at0 g3 0).add 17) fun y17 => ldSl w15 ((at0 g3 0).add 18) fun y18p y18n y18c =>
        Q (.tuple #[.agg #[.int .i64 x0, .int .u64 x1, .int .i64 x2, .int .i64 x3, .int .i64 x4, .int .u64 x5, .slice x6p x6n x6c, .int .u64 x7, .int .i64 x8, .int .i64 x9, .slice x10p x10n x10c, .int .u64 x11, .int .u64 x12, .int .u64 x13, .int .u64 x14], .agg #[.int .i64 y0, .int .i64 y1, .int .i64 y2, .int .u64 y3, .int .u64 y4, .int .i64 y5, .int .i64 y6, .int .i64 y7, .int .i64 y8, .int .u64 y9, .slice y10p y10n y10c, .int .u64 y11, .int .i64 y12, .int .u64 y13, .int .i64 y14, .int .u64 y15, .int .i64 y16, .int .u64 y17, .slice y18p y18n y18c], .bool false]) w15 := by
    intro z y0 bs S2 w2 t2 f2 b1 b3 zr hk
    refine stAllB (vs := z.cells) b1 rfl fun w14 b14 f14 => stAllB (vs := mZ.cells none 0 none 0) (b3.off1 (by omega) f14) rfl fun w15 b15 f15 => ?_
    refine ld_Cl (s := z) (b14.off1 (by omega) f15).cat (ld_Mg (m := mZ) (rp := none) (rc := 0) (lp := none) (lc := 0) b15.cat ?_)
    exact hk z none 0 ft al w15 (((zr.keep f14 (fun k hk => .inr (by simp at hk; simp [hk]))).keep f15 (fun k hk => .inr (by simp at hk; simp [hk]))).call (fun k hk => hk)) Own.nil (by simp [fbl]) ((t2.off n1 f14).off n3 f15) ((f2.loc f14 h1).loc f15 (by omega)) (fun x hx => .inl hx) (fun x hx => .inl hx)
  have b15 := b1.keep' (f4.tr f5)
  have b35 := b3.keep' f5
  refine ld_int t5.last ?_
  rw [add_at, Nat.zero_add]
  refine rafterT t5 ⟨_, _, rfl, ?_⟩
  unfold stepM at hK
  unfold stepC at hK
  cases ha : after ilt S.l S.last with
  | none =>
    rw [ha] at hK
    exact bc_bool (fun _ => none_ (z := clZ) (bs := []) t5 F5.any b15 b35 ZR.zero hK) (fun e => by cases e)
  | some kk =>
    rw [ha] at hK
    simp only at hK
    refine bc_bool (fun e => by cases e) (fun _ => ?_)
    refine t5.stlast fun w51 t51 f51' => ?_
    have nf : ∀ {k : Nat}, k ∉ al → k ∉ ft := fun hk hm => hk (t.sub _ hm)
    have b151 := b15.keep f51' (nf n1)
    have b351 := b35.keep f51' (nf n3)
    have F51 : Fr ft w w51 := F5.any.tr f51'
    have z51 := f51'.size
    have i51 : SI { S with last := kk } := i.last
    refine rgetT t51 (fun hg => ?_) (fun x y hg r w55 f55 => ?_)
    · exfalso
      obtain ⟨y, hy⟩ := after_mem ha
      have := (get_iff ilt_lin i.srt).2 hy
      have hg' : get ilt S.l kk = none := hg
      rw [this] at hg'
      cases hg'
    · have hgS : get ilt S.l kk = some y := hg
      rw [hgS] at hK
      simp only [Option.getD_some] at hK
      have z55 := f55.size
      have t55 := t51.keep' f55
      obtain ⟨ekk, yw⟩ := i.geti hgS
      have yw51 : YW { S with last := kk } y := ⟨yw.ot, yw.n1, yw.n2, yw.wt⟩
      have r55 := r.keep' f55
      refine ⟨_, _, _, _, _, _, _, _, _, _, _, _, _, _, _, _, _, _, _, _, rfl, HR.made (W := w) t55 r55 rfl (by have := F51.size; omega) (F51.tr f55.any) fun gx w74 h f74 hx => ?_⟩
      have b174 := b151.keep' (f55.tr f74)
      have b374 := b351.keep' (f55.tr f74)
      obtain ⟨rp, rc, sp, sc, hxe, r1, r2, r3, r4⟩ := h.r.ex
      have hbx := h.b
      rw [hxe] at hbx
      refine ld_Cl (s := y.cl rp rc sp sc) hbx.cat (rtwin_spec r1 r2 h.r.lr h.r.ls fun rp' rc' sp' sc' w91 q1 q2 f91 m1 m2 => ?_)
      have h91 := h.keep' f91
      have l91 := q1.lt
      have ls91 := q2.lt
      refine ⟨_, _, _, _, _, _, _, _, _, _, _, _, _, _, _, _, _, _, _, rfl, newB fun gt1 w108 bt f108 ht => stAllB (vs := (y.cl rp' rc' sp' sc').cells) bt rfl fun w109 b109 f109 => ?_⟩
      have z51w := F51.size
      have z74 := f74.size
      have z91 := f91.size
      have lx := h.b.lt
      have nt : gt1 ∉ al := h91.t.fresh ht
      have F109 : Fr [] w91 w109 := f108.loc f109 ht
      have h109 : HR w w109 g ft al { S with last := kk } gx x y := (h91.keep' f108).off nt (by omega) (by omega) f109
      have b1109 := (b174.keep' (f91.tr f108)).off1 (by omega) f109
      have b3109 := (b374.keep' (f91.tr f108)).off1 (by omega) f109
      have l151 := b151.lt
      have l351 := b351.lt
      have sb : SB w w109 al gx g1 g3 gt1 (y.cl rp' rc' sp' sc') := ⟨b1109, b3109, b109, n1, n3, nt, by omega, by omega, by omega, by omega, by omega, by omega, h1, by omega⟩
      obtain ⟨e1, e2, e3, e4, e5, e6⟩ := h.r.facts
      have zr : ZR w w109 al [g1, g3, gx, gt1] (y.cl rp' rc' sp' sc') y := by
        have q109 := IdRow.off (q1.keep' f108) (fun hm => by have := l91 gt1 hm; omega) f109
        have s109 := IdRow.off (q2.keep' f108) (fun hm => by have := ls91 gt1 hm; omega) f109
        refine ⟨rp', rc', sp', sc', rfl, q109, s109, fun k hk => ?_, fun k hk => ?_⟩
        · have h1 := m1 k hk
          have h2 := l91 k hk
          refine ⟨by omega, fun hm => ?_, fun hm => ?_⟩
          · have := t.lt k hm; omega
          · simp at hm; omega
        · have h1 := m2 k hk
          have h2 := ls91 k hk
          refine ⟨by omega, fun hm => ?_, fun hm => ?_⟩
          · have := t.lt k hm; omega
          · simp at hm; omega
      have nosend : ∀ {w2 : World}, Fr [] w109 w2 → sendsB S y now = false → ldI .i64 w2 ((at0 gt1 0).add 0) fun x0 => ldI .u64 w2 ((at0 gt1 0).add 1) fun x1 => ldI .i64 w2 ((at0 gt1 0).add 2) fun x2 => ldI .i64 w2 ((at0 gt1 0).add 3) fun x3 => ldI .i64 w2 ((at0 gt1 0).add 4) fun x4 => ldI .u64 w2 ((at0 gt1 0).add 5) fun x5 => ldSl w2 ((at0 gt1 0).add 6) fun x6p x6n x6c => ldI .u64 w2 ((at0 gt1 0).add 7) fun x7 => ldI .i64 w2 ((at0 gt1 0).add 8) fun x8 => ldI .i64 w2 ((at0 gt1 0).add 9) fun x9 => ldSl w2 ((at0 gt1 0).add 10) fun x10p x10n x10c => ldI .u64 w2 ((at0 gt1 0).add 11) fun x11 => ldI .u64 w2 ((at0 gt1 0).add 12) fun x12 => ldI .u64 w2 ((at0 gt1 0).add 13) fun x13 => ldI .u64 w2 ((at0 gt1 0).add 14) fun x14 =>
          stAll w2 (at0 g1 0) [.int .i64 x0, .int .u64 x1, .int .i64 x2, .int .i64 x3, .int .i64 x4, .int .u64 x5, .slice x6p x6n x6c, .int .u64 x7, .int .i64 x8, .int .i64 x9, .slice x10p x10n x10c, .int .u64 x11, .int .u64 x12, .int .u64 x13, .int .u64 x14] fun w14 => stAll w14 (at0 g3 0) (mZ.cells none 0 none 0) fun w15 => ldI .i64 w15 ((at0 g1 0).add 0) fun x0 => ldI .u64 w15 ((at0 g1 0).add 1) fun x1 => ldI .i64 w15 ((at0 g1 0).add 2) fun x2 => ldI .i64 w15 ((at0 g1 0).add 3) fun x3 => ldI .i64 w15 ((at0 g1 0).add 4) fun x4 => ldI .u64 w15 ((at0 g1 0).add 5) fun x5 => ldSl w15 ((at0 g1 0).add 6) fun x6p x6n x6c => ldI .u64 w15 ((at0 g1 0).add 7) fun x7 => ldI .i64 w15 ((at0 g1 0).add 8) fun x8 => ldI .i64 w15 ((at0 g1 0).add 9) fun x9 => ldSl w15 ((at0 g1 0).add 10) fun x10p x10n x10c => ldI .u64 w15 ((at0 g1 0).add 11) fun x11 => ldI .u64 w15 ((at0 g1 0).add 12) fun x12 => ldI .u64 w15 ((at0 g1 0).add 13) fun x13 => ldI .u64 w15 ((at0 g1 0).add 14) fun x14 =>
        ldI .i64 w15 ((at0 g3 0).add 0) fun y0 => ldI .i64 w15 ((at0 g3 0).add 1) fun y1 => ldI .i64 w15 ((at0 g3 0).add 2) fun y2 => ldI .u64 w15 ((at0 g3 0).add 3) fun y3 => ldI .u64 w15 ((at0 g3 0).add 4) fun y4 => ldI .i64 w15 ((at0 g3 0).add 5) fun y5 => ldI .i64 w15 ((at0 g3 0).add 6) fun y6 => ldI .i64 w15 ((at0 g3 0).add 7) fun y7 => ldI .i64 w15 ((at0 g3 0).add 8) fun y8 => ldI .u64 w15 ((at0 g3 0).add 9) fun y9 => ldSl w15 ((at0 g3 0).add 10) fun y10p y10n y10c => ldI .u64 w15 ((at0 g3 0).add 11) fun y11 => ldI .i64 w15 ((at0 g3 0).add 12) fun y12 => ldI .u64 w15 ((at0 g3 0).add 13) fun y13 => ldI .i64 w15 ((at0 g3 0).add 14) fun y14 => ldI .u64 w15 ((at0 g3 0).add 15) fun y15 => ldI .i64 w15 ((at0 g3 0).add 16) fun y16 => ldI .u64 w15 ((at0 g3 0).add 17) fun y17 => ldSl w15 ((at0 g3 0).add 18) fun y18p y18n y18c =>
        Q (.tuple #[.agg #[.int .i64 x0, .int .u64 x1, .int .i64 x2, .int .i64 x3, .int .i64 x4, .int .u64 x5, .slice x6p x6n x6c, .int .u64 x7, .int .i64 x8, .int .i64 x9, .slice x10p x10n x10c, .int .u64 x11, .int .u64 x12, .int .u64 x13, .int .u64 x14], .agg #[.int .i64 y0, .int .i64 y1, .int .i64 y2, .int .u64 y3, .int .u64 y4, .int .i64 y5, .int .i64 y6, .int .i64 y7, .int .i64 y8, .int .u64 y9, .slice y10p y10n y10c, .int .u64 y11, .int .i64 y12, .int .u64 y13, .int .i64 y14, .int .u64 y15, .int .i64 y16, .int .u64 y17, .slice y18p y18n y18c], .bool false]) w15 := by
        intro w2 f2 hs
        rw [hs] at hK
        simp only [Bool.false_eq_true, if_false] at hK
        have h2 := h109.keep' f2
        exact ld_Cl (s := y.cl rp' rc' sp' sc') (b109.keep' f2).cat (none_ (z := y.cl rp' rc' sp' sc') h2.t h2.F (b1109.keep' f2) (b3109.keep' f2) (zr.keep' f2) hK)
      have send : ∀ {w2 : World}, Fr [] w109 w2 → sendsB S y now = true → X18.j0 Q (some (at0 g 0)) now (at0 g1 0) (at0 g3 0) kk (at0 gx 0) (at0 gt1 0) w2 := by
        intro w2 f2 hs
        rw [hs] at hK
        simp only [if_true] at hK
        exact rstep_j0 (h109.keep' f2) (sb.keep' f2) (zr.keep' f2) i51 yw51 ekk hK
      have hxb : Blk w109 gx (y.cl rp rc sp sc).cells 50 := by have := h109.b; rw [hxe] at this; exact this
      refine ld_int (hxb.cat 8 _ rfl) (bc_ne (fun n1' => ld_int (hxb.cat 8 _ rfl) (bc_ne (fun n4 => ?_) (fun e4' => ?_))) (fun e1' => ?_))
      · refine nosend (Fr.refl _) ?_
        unfold sendsB
        rw [decide_eq_false (by rintro (h | h); · exact n1' h
                                · exact n4 h)]
        rfl
      · refine ld_int (hxb.cat 12 _ rfl) (ld_int (hxb.cat 13 _ rfl) (rpast_spec ⟨_, rfl, bc_bool (fun hp => nosend (Fr.refl _) ?_) (fun hp => send (Fr.refl _) ?_)⟩))
        · have hp' : pastB y.sent y.wait now = false := by have h : (!pastB y.sent y.wait now) = true := hp; simpa using h
          unfold sendsB; rw [hp', Bool.and_false]
        · have hp' : pastB y.sent y.wait now = true := by have h : (!pastB y.sent y.wait now) = false := hp; simpa using h
          have e4'' : y.state = 4 := e4'
          unfold sendsB; rw [hp', decide_eq_true (.inr e4'')]; rfl
      · refine ld_int (hxb.cat 12 _ rfl) (ld_int (hxb.cat 13 _ rfl) (rpast_spec ⟨_, rfl, bc_bool (fun hp => nosend (Fr.refl _) ?_) (fun hp => send (Fr.refl _) ?_)⟩))
        · have hp' : pastB y.sent y.wait now = false := by have h : (!pastB y.sent y.wait now) = true := hp; simpa using h
          unfold sendsB; rw [hp', Bool.and_false]
        · have hp' : pastB y.sent y.wait now = true := by have h : (!pastB y.sent y.wait now) = false := hp; simpa using h
          have e1'' : y.state = 1 := e1'
          unfold sendsB; rw [hp', decide_eq_true (.inl e1'')]; rfl
end
end Go.Proofs.YtdgoalhnkegbmaaGreatX
namespace Go.Proofs.YtdgoalhnkegbmaaGreatX
open Go.RowKit
set_option linter.unusedVariables false
set_option linter.unusedSimpArgs false
set_option maxRecDepth 100000
/-- the document's words for the fields -/
def fname : Nat → ByteArray
  | 0 => ⟨#[99, 97, 108, 108]⟩
  | 1 => ⟨#[102, 108, 111, 111, 114]⟩
  | 2 => ⟨#[105, 116, 101, 109]⟩
  | 3 => ⟨#[111, 112]⟩
  | 4 => ⟨#[102, 105, 101, 108, 100]⟩
  | 5 => ⟨#[116, 97, 114, 103, 101, 116]⟩
  | 6 => ⟨#[115, 101, 113]⟩
  | 7 => ⟨#[118, 111, 117, 99, 104, 101, 114]⟩
  | 8 => ⟨#[97, 116]⟩
  | 9 => ⟨#[100, 105, 115, 116]⟩
  | 10 => ⟨#[99, 111, 100, 101]⟩
  | 11 => ⟨#[118, 97, 108, 117, 101]⟩
  | 12 => ⟨#[114, 101, 102, 115]⟩
  | 13 => ⟨#[115, 116, 97, 109, 112]⟩
  | _ => ⟨#[108, 105, 115, 116]⟩
def kindS : List ByteArray := [(⟨#[]⟩ : ByteArray), (⟨#[99, 97, 108, 108, 32, 102, 108, 111, 111, 114, 32, 111, 112, 32, 102, 105, 101, 108, 100, 32, 116, 97, 114, 103, 101, 116, 32, 118, 97, 108, 117, 101, 32, 114, 101, 102, 115]⟩ : ByteArray), (⟨#[99, 97, 108, 108, 32, 99, 111, 100, 101, 32, 118, 97, 108, 117, 101, 32, 114, 101, 102, 115]⟩ : ByteArray), (⟨#[99, 97, 108, 108]⟩ : ByteArray), (⟨#[116, 97, 114, 103, 101, 116, 32, 115, 101, 113, 32, 118, 111, 117, 99, 104, 101, 114, 32, 97, 116, 32, 100, 105, 115, 116]⟩ : ByteArray), (⟨#[116, 97, 114, 103, 101, 116, 32, 115, 101, 113, 32, 97, 116, 32, 99, 111, 100, 101]⟩ : ByteArray), (⟨#[116, 97, 114, 103, 101, 116, 32, 115, 101, 113]⟩ : ByteArray), (⟨#[116, 97, 114, 103, 101, 116, 32, 115, 101, 113]⟩ : ByteArray), (⟨#[99, 97, 108, 108, 32, 105, 116, 101, 109, 32, 111, 112, 32, 116, 97, 114, 103, 101, 116]⟩ : ByteArray), (⟨#[99, 97, 108, 108, 32, 105, 116, 101, 109, 32, 99, 111, 100, 101, 32, 115, 116, 97, 109, 112, 32, 108, 105, 115, 116]⟩ : ByteArray), (⟨#[99, 97, 108, 108, 32, 105, 116, 101, 109, 32, 116, 97, 114, 103, 101, 116, 32, 115, 116, 97, 109, 112]⟩ : ByteArray), (⟨#[99, 97, 108, 108, 32, 105, 116, 101, 109]⟩ : ByteArray)]
/-- is a word among words? -/
def hasLoop (s t : ByteArray) : Nat → Nat → Nat → Bool
  | 0, _, _ => false
  | k + 1, a, i => if i ≤ s.size then
      if i = s.size then (if strEq (s.extract a i) t then true else hasLoop s t k (i + 1) (i + 1))
      else if byteAt s (i : Int) = 32 then (if strEq (s.extract a i) t then true else hasLoop s t k (i + 1) (i + 1)) else hasLoop s t k a (i + 1)
    else false
theorem has_fin : ∀ k : Fin 11, ∀ i : Fin 15, hasLoop (kindS.getD (k.val + 1) ⟨#[]⟩) (fname i.val) 40 0 0 = hasF ((k.val + 1 : Nat) : Int) i.val := by decide +kernel
section
variable {w : World} {Q : Value → World → Prop}
theorem has_l0 {s t : ByteArray} (hs : s.size ≤ 1000) (f : Nat) : ∀ (a i : Nat), s.size + 1 - i < f → a ≤ i → i ≤ s.size + 1 → Q (.bool (hasLoop s t f a i)) w → X83.l0 Q f t s (a : Int) (i : Int) w := by
  induction f with
  | zero => intro a i hf; omega
  | succ f ih =>
    intro a i hf ha hi hQ
    rw [X83.l0]
    rw [hasLoop] at hQ
    have e1 : IntKind.wrap .i64 ((i : Int) + 1) = ((i + 1 : Nat) : Int) := by rw [i64w _ (by omega) (by omega)]; omega
    rw [e1]
    refine bc_dec (fun h1 => ?_) (fun h1 => ?_)
    · rw [if_pos (by omega)] at hQ
      refine bc_eq (fun h2 => ?_) (fun h2 => ?_)
      · rw [if_pos (by omega)] at hQ
        refine ⟨⟨by omega, by omega, by omega⟩, ?_⟩
        simp only [Int.toNat_natCast]
        refine bc_bool (fun h => ?_) (fun h => ?_)
        · rw [if_pos h] at hQ; exact hQ
        · rw [if_neg (by simp [h])] at hQ
          exact ih _ _ (by omega) (by omega) (by omega) hQ
      · rw [if_neg (by omega)] at hQ
        refine ⟨⟨by omega, by omega⟩, bc_eq (fun h3 => ?_) (fun h3 => ?_)⟩
        · rw [if_pos h3] at hQ
          refine ⟨⟨by omega, by omega, by omega⟩, ?_⟩
          simp only [Int.toNat_natCast]
          refine bc_bool (fun h => ?_) (fun h => ?_)
          · rw [if_pos h] at hQ; exact hQ
          · rw [if_neg (by simp [h])] at hQ
            exact ih _ _ (by omega) (by omega) (by omega) hQ
        · rw [if_neg h3] at hQ
          exact ih _ _ (by omega) (by omega) (by omega) hQ
    · rw [if_neg (by omega)] at hQ
      exact hQ
theorem kindS_size : ∀ k : Fin 11, (kindS.getD (k.val + 1) ⟨#[]⟩).size ≤ 38 := by decide +kernel
theorem has_spec {k : Int} (i : Nat) (hi : i < 15) (hQ : ∀ w', Fr [] w w' → Q (.bool (hasF k i)) w') : CallR Tryz.prog 83 #[.int .i64 k, .string (fname i)] w Q := by
  refine X83.sound _ _ _ _ ?_
  unfold X83.f newK
  rw [show (⟨w.heap.size, 0, none⟩ : Addr) = at0 w.heap.size 0 from rfl]
  obtain ⟨hb, f⟩ := made (w := w) (cs := #[.string (⟨#[]⟩ : ByteArray), .string (⟨#[]⟩ : ByteArray), .string (⟨#[]⟩ : ByteArray), .string (⟨#[]⟩ : ByteArray), .string (⟨#[]⟩ : ByteArray), .string (⟨#[]⟩ : ByteArray), .string (⟨#[]⟩ : ByteArray), .string (⟨#[]⟩ : ByteArray), .string (⟨#[]⟩ : ByteArray), .string (⟨#[]⟩ : ByteArray), .string (⟨#[]⟩ : ByteArray), .string (⟨#[]⟩ : ByteArray)]) (e := 127)
  generalize w.alloc _ = w2 at *
  refine stAll_blk hb (by simp) ?_
  intro w3 b3 f3
  have f03 : Fr [] w w3 := f.trans f3 (fun x hx => by simp at hx; exact .inr (by omega))
  have hout : ¬ (1 ≤ k ∧ k ≤ 11) → hasF k i = false := fun h => by unfold hasF; rw [fieldsN_out h]; simp
  have hq := hQ w3 f03
  refine bc_dec (fun h1 => ?_) (fun h1 => bc_dec (fun h2 => ?_) (fun h2 => ?_))
  · rw [hout (by omega)] at hq; exact hq
  · rw [hout (by omega)] at hq; exact hq
  · have hfin := has_fin ⟨k.toNat - 1, by omega⟩ ⟨i, hi⟩
    have hsz := kindS_size ⟨k.toNat - 1, by omega⟩
    simp only [] at hfin hsz
    rw [show k.toNat - 1 + 1 = k.toNat by omega] at hfin hsz
    rw [show ((k.toNat : Nat) : Int) = k by omega] at hfin
    unfold X83.j1
    refine ⟨⟨by omega, by omega⟩, ?_⟩
    rw [add_at, Nat.zero_add, Nat.mul_one]
    have hl : k.toNat < kindS.length := by show k.toNat < 12; omega
    have hc : w3.cell? (at0 w.heap.size k.toNat) = some (.string (kindS.getD k.toNat ⟨#[]⟩)) := by
      refine b3.cell ?_
      rw [List.getD_eq_getElem?_getD, List.getElem?_eq_getElem hl]
      show (kindS.map Value.string)[k.toNat]? = _
      rw [List.getElem?_map, List.getElem?_eq_getElem hl]
      rfl
    refine ld_str hc ⟨40, has_l0 (by omega) 40 0 0 (by omega) (by omega) (by omega) ?_⟩
    rw [hfin]
    exact hq
theorem within_spec {n lo hi : Int} (hQ : ∀ b : Bool, (b = true ↔ lo ≤ n ∧ n ≤ hi) → Q (.bool b) w) : CallR Tryz.prog 80 #[.int .i64 n, .int .i64 lo, .int .i64 hi] w Q := by
  refine X80.sound _ _ _ _ _ ?_
  exact bc_dec (fun h => hQ _ (by simp; omega)) (fun h => hQ _ (by simp; omega))
theorem rnumber_spec {h : Bool} {n lo hi : Int} (hQ : ∀ b : Bool, (b = true ↔ numberR h n lo hi) → Q (.bool b) w) : CallR Tryz.prog 98 #[.bool h, .int .i64 n, .int .i64 lo, .int .i64 hi] w Q := by
  refine X98.sound _ _ _ _ _ _ ?_
  unfold numberR at hQ
  cases h with
  | false => exact bc_bool (fun _ => hQ _ (by simp)) (fun h => by cases h)
  | true => exact bc_bool (fun h => by cases h) (fun _ => within_spec fun b hb => ⟨_, rfl, hQ _ (by simpa using hb)⟩)
theorem rserial_spec {h : Bool} {n : Int} (hQ : ∀ b : Bool, (b = true ↔ serialR h n) → Q (.bool b) w) : CallR Tryz.prog 97 #[.bool h, .int .u64 n] w Q := by
  refine X97.sound _ _ _ _ ?_
  unfold serialR at hQ
  cases h with
  | false => exact bc_bool (fun _ => hQ _ (by simp)) (fun h => by cases h)
  | true => exact bc_bool (fun h => by cases h) (fun _ => bc_dec (fun h => hQ _ (by simp [okSerial]; omega)) (fun h => hQ _ (by simp [okSerial]; omega)))
theorem none_spec {x y : Int} (hQ : Ans Q (noID (x, y)) w) : CallR Tryz.prog 61 #[.agg #[.int .i64 x, .int .u64 y]] w Q := by
  refine X61.sound _ _ _ _ ?_
  unfold X61.f newK
  obtain ⟨hb, f⟩ := made (w := w) (cs := #[.int .i64 x, .int .u64 y]) (e := 37)
  rw [show (⟨w.heap.size, 0, none⟩ : Addr) = at0 w.heap.size 0 from rfl]
  simp only [add_at, Nat.zero_add]
  generalize w.alloc _ = w2 at *
  refine ld_int (hb.cell rfl) (bc_eq (fun h => ld_int (hb.cell rfl) (hQ _ _ ?_ f)) (fun h => hQ _ _ ?_ f))
  · simp [noID, h]
  · simp [noID, h]
theorem id_spec {x y : Int} (hQ : Ans Q (okID (x, y)) w) : CallR Tryz.prog 84 #[.agg #[.int .i64 x, .int .u64 y]] w Q := by
  refine X84.sound _ _ _ _ ?_
  unfold X84.f newK
  obtain ⟨hb, f⟩ := made (w := w) (cs := #[.int .i64 x, .int .u64 y]) (e := 37)
  rw [show (⟨w.heap.size, 0, none⟩ : Addr) = at0 w.heap.size 0 from rfl]
  simp only [add_at, Nat.zero_add]
  generalize w.alloc _ = w2 at *
  refine ld_int (hb.cell rfl) (bc_eq (fun h => ld_int (hb.cell rfl) (hQ _ _ ?_ f)) (fun h => ld_int (hb.cell rfl) (bc_dec (fun h1 => ld_int (hb.cell rfl) (bc_dec (fun h2 => ld_int (hb.cell rfl) (bc_dec (fun h3 => ld_int (hb.cell rfl) (hQ _ _ ?_ f)) (fun h3 => hQ _ _ ?_ f))) (fun h2 => hQ _ _ ?_ f))) (fun h1 => hQ _ _ ?_ f))))
  all_goals simp only [okID, okSerial, decide_eq_true_eq, beq_iff_eq]
  all_goals first | omega | exact ⟨fun hh => (by cases hh), fun hh => by omega⟩
end
section
variable {w : World} {Q : Value → World → Prop} {m : Msg} {rp lp : Option Addr} {rc lc g : Nat}
/-- what is false is answered at once -/
theorem Ans.no {P : Prop} {w w' : World} {Q : Value → World → Prop} (h : Ans Q P w) (f : Fr [] w w') (hn : ¬ P) : Q (.bool false) w' := h _ _ ⟨fun h => (by cases h), fun h => absurd h hn⟩ f
theorem Ans.le {P P' : Prop} {w w' : World} {Q : Value → World → Prop} (h : Ans Q P w) (f : Fr [] w w') (e : P' ↔ P) : Ans Q P' w' := fun b w2 hb f2 => h b w2 (hb.trans e) (f.tr f2)
theorem not_true {b : Bool} {P : Prop} (h : b = true ↔ P) (e : (!b) = true) : ¬ P := fun hp => by rw [h.2 hp] at e; cases e
theorem of_not {b : Bool} {P : Prop} (h : b = true ↔ P) (e : (!b) = false) : P := h.1 (by cases b; cases e; rfl)
def nP0 (m : Msg) : Prop := (hasF m.kind 11 = true ∨ m.value = 0) ∧ (hasF m.kind 8 = true ∨ m.at_ = 0) ∧ (hasF m.kind 13 = true ∨ m.stamp = 0)
def nP1 (m : Msg) : Prop := (if hasF m.kind 1 then 1 ≤ m.floor ∧ m.floor ≤ m.call else m.floor = 0) ∧ nP0 m
def nP2 (m : Msg) : Prop := (serialR (hasF m.kind 6) m.seq ∧ numberR (hasF m.kind 7) m.voucher 1 64 ∧ numberR (hasF m.kind 9) m.dist 1 40) ∧ nP1 m
theorem num_j0 (hb : Blk w g (m.cells rp rc lp lc) 63) (hQ : Ans Q (nP0 m) w) : X81.j0 Q (at0 g 0) m.kind w := by
  unfold X81.j0
  simp only [add_at, Nat.zero_add, Nat.add_zero]
  unfold nP0 at hQ
  -- the last one, whatever came ahead
  have last : ∀ {w'} {a : Prop} {b : Prop}, Fr [] w w' → ((hasF m.kind 11 = true ∨ m.value = 0)) → (hasF m.kind 8 = true ∨ m.at_ = 0) → CallR Tryz.prog 83 #[.int .i64 m.kind, .string (⟨#[115, 116, 97, 109, 112]⟩ : ByteArray)] w' fun v7 w8 => ∃ (y9 : Bool), v7 = .bool y9 ∧ bcase y9 (Q (.bool true) w8) (ldI .u64 w8 (at0 g 17) fun x10 => Q (.bool (x10 == (0 : Int))) w8) := by
    intro w' _ _ f h1 h2
    refine has_spec 13 (by omega) fun w2 f2 => ⟨_, rfl, bc_bool (fun h3 => ?_) (fun h3 => ?_)⟩
    · exact hQ _ _ (by simp [h1, h2, h3]) (f.tr f2)
    · refine ld_int ((hb.keep' (f.tr f2)).cell rfl) (hQ _ _ (by simp [h1, h2, h3]) (f.tr f2))
  have mid : ∀ {w'}, Fr [] w w' → ((hasF m.kind 11 = true ∨ m.value = 0)) → CallR Tryz.prog 83 #[.int .i64 m.kind, .string (⟨#[97, 116]⟩ : ByteArray)] w' fun v4 w5 => ∃ (y6 : Bool), v4 = .bool y6 ∧ bcase y6 (CallR Tryz.prog 83 #[.int .i64 m.kind, .string (⟨#[115, 116, 97, 109, 112]⟩ : ByteArray)] w5 fun v7 w8 => ∃ (y9 : Bool), v7 = .bool y9 ∧ bcase y9 (Q (.bool true) w8) (ldI .u64 w8 (at0 g 17) fun x10 => Q (.bool (x10 == (0 : Int))) w8)) (ldI .u64 w5 (at0 g 15) fun x11 => bcase (x11 == (0 : Int)) (CallR Tryz.prog 83 #[.int .i64 m.kind, .string (⟨#[115, 116, 97, 109, 112]⟩ : ByteArray)] w5 fun v12 w13 => ∃ (y14 : Bool), v12 = .bool y14 ∧ bcase y14 (Q (.bool true) w13) (ldI .u64 w13 (at0 g 17) fun x15 => Q (.bool (x15 == (0 : Int))) w13)) (Q (.bool false) w5)) := by
    intro w' f h1
    refine has_spec 8 (by omega) fun w2 f2 => ⟨_, rfl, bc_bool (fun h2 => last (a := True) (b := True) (f.tr f2) h1 (.inl h2)) (fun h2 => ?_)⟩
    refine ld_int ((hb.keep' (f.tr f2)).cell rfl) (bc_eq (fun h3 => last (a := True) (b := True) (f.tr f2) h1 (.inr h3)) (fun h3 => hQ.no (f.tr f2) ?_))
    simp [h2, h3]
  refine has_spec 11 (by omega) fun w2 f2 => ⟨_, rfl, bc_bool (fun h1 => mid f2 (.inl h1)) (fun h1 => ?_)⟩
  refine ld_int ((hb.keep' f2).cell rfl) (bc_eq (fun h2 => mid f2 (.inr h2)) (fun h2 => hQ.no f2 ?_))
  simp [h1, h2]
theorem num_j1 (hb : Blk w g (m.cells rp rc lp lc) 63) (hQ : Ans Q (nP1 m) w) : X81.j1 Q (at0 g 0) m.kind w := by
  unfold X81.j1
  simp only [add_at, Nat.zero_add, Nat.add_zero]
  unfold nP1 at hQ
  refine has_spec 1 (by omega) fun w2 f2 => ⟨_, rfl, bc_bool (fun h1 => ?_) (fun h1 => ?_)⟩
  · have b2 := hb.keep' f2
    refine ld_int (b2.cell rfl) (bc_dec (fun h => hQ.no f2 (by rw [if_pos h1]; omega)) (fun h2 => ?_))
    refine ld_int (b2.cell rfl) (ld_int (b2.cell rfl) (bc_dec (fun h => hQ.no f2 (by rw [if_pos h1]; omega)) (fun h3 => ?_)))
    refine has_spec 1 (by omega) fun w3 f3 => ⟨_, rfl, ?_⟩
    rw [h1]
    refine bc_bool (fun h => by cases h) (fun _ => num_j0 (b2.keep' f3) (hQ.le (f2.tr f3) ?_))
    rw [if_pos h1]
    exact ⟨fun h => ⟨⟨by omega, by omega⟩, h⟩, fun h => h.2⟩
  · refine has_spec 1 (by omega) fun w3 f3 => ⟨_, rfl, ?_⟩
    rw [h1]
    have b3 := hb.keep' (f2.tr f3)
    refine bc_bool (fun _ => ?_) (fun h => by cases h)
    refine ld_int (b3.cell rfl) (bc_ne (fun h => hQ.no (f2.tr f3) (by rw [if_neg (by simp [h1])]; exact fun hh => h hh.1)) (fun h => num_j0 b3 (hQ.le (f2.tr f3) ?_)))
    rw [if_neg (by simp [h1])]
    exact ⟨fun hh => ⟨h, hh⟩, fun hh => hh.2⟩
theorem num_j2 (hb : Blk w g (m.cells rp rc lp lc) 63) (hQ : Ans Q (nP2 m) w) : X81.j2 Q (at0 g 0) m.kind w := by
  unfold X81.j2 drewK
  simp only [add_at, Nat.zero_add, Nat.add_zero]
  unfold nP2 at hQ
  have f0 : Fr [] w w.drew := Fr.drew
  have c : ∀ {w'}, Fr [] w w' → Blk w' g (m.cells rp rc lp lc) 63 := fun f => hb.keep' f
  refine has_spec 6 (by omega) fun w2 f2 => ⟨_, rfl, ?_⟩
  have g2 := f0.tr f2
  refine ld_int ((c g2).cell rfl) ⟨⟨(c f0).cell rfl, (c g2).cell rfl⟩, rserial_spec fun b1 hb1 => ⟨_, rfl, bc_bool (fun e => hQ.no g2 fun h => not_true hb1 e h.1.1) (fun e1 => ?_)⟩⟩
  refine has_spec 7 (by omega) fun w3 f3 => ⟨_, rfl, ?_⟩
  have g3 := g2.tr f3
  refine ld_int ((c g3).cell rfl) ⟨⟨(c g2).cell rfl, (c g3).cell rfl⟩, rnumber_spec fun b2 hb2 => ⟨_, rfl, bc_bool (fun e => hQ.no g3 fun h => not_true hb2 e h.1.2.1) (fun e2 => ?_)⟩⟩
  refine has_spec 9 (by omega) fun w4 f4 => ⟨_, rfl, ?_⟩
  have g4 := g3.tr f4
  refine ld_int ((c g4).cell rfl) ⟨⟨(c g3).cell rfl, (c g4).cell rfl⟩, rnumber_spec fun b3 hb3 => ⟨_, rfl, bc_bool (fun e => hQ.no g4 fun h => not_true hb3 e h.1.2.2) (fun e3 => ?_)⟩⟩
  exact num_j1 (c g4) (hQ.le g4 ⟨fun h => ⟨⟨of_not hb1 e1, of_not hb2 e2, of_not hb3 e3⟩, h⟩, fun h => h.2⟩)
theorem num_j3 (hb : Blk w g (m.cells rp rc lp lc) 63) (hQ : Ans Q (numbersR m) w) : X81.j3 Q (at0 g 0) m.kind (opsN m.kind) (codesN m.kind) w := by
  unfold X81.j3 drewK
  simp only [add_at, Nat.zero_add, Nat.add_zero]
  unfold numbersR at hQ
  have f0 : Fr [] w w.drew := Fr.drew
  have c : ∀ {w'}, Fr [] w w' → Blk w' g (m.cells rp rc lp lc) 63 := fun f => hb.keep' f
  refine has_spec 0 (by omega) fun w2 f2 => ⟨_, rfl, ?_⟩
  have g2 := f0.tr f2
  refine ld_int ((c g2).cell rfl) ⟨⟨(c f0).cell rfl, (c g2).cell rfl⟩, rserial_spec fun b1 hb1 => ⟨_, rfl, bc_bool (fun e => hQ.no g2 fun h => not_true hb1 e h.1.1) (fun e1 => ?_)⟩⟩
  refine has_spec 3 (by omega) fun w3 f3 => ⟨_, rfl, ?_⟩
  have g3 := g2.tr f3
  refine ld_int ((c g3).cell rfl) ⟨⟨(c g2).cell rfl, (c g3).cell rfl⟩, rnumber_spec fun b2 hb2 => ⟨_, rfl, bc_bool (fun e => hQ.no g3 fun h => not_true hb2 e h.1.2.1) (fun e2 => ?_)⟩⟩
  refine has_spec 4 (by omega) fun w4 f4 => ⟨_, rfl, ?_⟩
  have g4 := g3.tr f4
  refine ld_int ((c g4).cell rfl) ⟨⟨(c g3).cell rfl, (c g4).cell rfl⟩, rnumber_spec fun b3 hb3 => ⟨_, rfl, bc_bool (fun e => hQ.no g4 fun h => not_true hb3 e h.1.2.2.1) (fun e3 => ?_)⟩⟩
  refine has_spec 2 (by omega) fun w5 f5 => ⟨_, rfl, ?_⟩
  have g5 := g4.tr f5
  refine ld_int ((c g5).cell rfl) ⟨⟨(c g4).cell rfl, (c g5).cell rfl⟩, rnumber_spec fun b4 hb4 => ⟨_, rfl, bc_bool (fun e => hQ.no g5 fun h => not_true hb4 e h.1.2.2.2.1) (fun e4 => ?_)⟩⟩
  refine has_spec 10 (by omega) fun w6 f6 => ⟨_, rfl, ?_⟩
  have g6 := g5.tr f6
  refine ld_int ((c g6).cell rfl) ⟨⟨(c g5).cell rfl, (c g6).cell rfl⟩, rnumber_spec fun b5 hb5 => ⟨_, rfl, bc_bool (fun e => hQ.no g6 fun h => not_true hb5 e h.1.2.2.2.2) (fun e5 => ?_)⟩⟩
  exact num_j2 (c g6) (hQ.le g6 ⟨fun h => ⟨⟨of_not hb1 e1, of_not hb2 e2, of_not hb3 e3, of_not hb4 e4, of_not hb5 e5⟩, h⟩, fun h => h.2⟩)
theorem rnumbers_spec (hQ : Ans Q (numbersR m) w) : CallR Tryz.prog 81 #[msgV m rp rc lp lc] w Q := by
  apply X81.sound
  unfold X81.f newK
  obtain ⟨hb, f⟩ := made (w := w) (cs := (m.cells rp rc lp lc).toArray) (e := 63)
  rw [show (⟨w.heap.size, 0, none⟩ : Addr) = at0 w.heap.size 0 from rfl]
  simp only [add_at, Nat.zero_add, Nat.add_zero]
  generalize w.alloc _ = w2 at *
  have go := num_j3 hb (hQ.le f Iff.rfl)
  refine ld_int (hb.cell rfl) ?_
  unfold X81.j4
  refine bc_eq (fun h8 => ?_) (fun h8 => ?_)
  · have e1 : opsN m.kind = 3 := by unfold opsN; rw [if_pos h8]
    have e2 : codesN m.kind = 10 := by unfold codesN; rw [if_neg (by omega)]
    rw [e1, e2] at go
    exact bc_eqf (by omega) go
  · have e1 : opsN m.kind = 6 := by unfold opsN; rw [if_neg h8]
    rw [e1] at go
    unfold codesN at go
    refine bc_eq (fun h9 => ?_) (fun h9 => ?_)
    · rw [if_pos h9] at go; exact go
    · rw [if_neg h9] at go; exact go
theorem rtarget_spec (hQ : Ans Q (targetR m) w) : CallR Tryz.prog 82 #[msgV m rp rc lp lc] w Q := by
  apply X82.sound
  unfold X82.f newK
  obtain ⟨hb, f⟩ := made (w := w) (cs := (m.cells rp rc lp lc).toArray) (e := 63)
  rw [show (⟨w.heap.size, 0, none⟩ : Addr) = at0 w.heap.size 0 from rfl]
  simp only [add_at, Nat.zero_add, Nat.add_zero]
  generalize w.alloc _ = w2 at *
  unfold targetR at hQ
  refine ld_int (hb.cell rfl) (has_spec 5 (by omega) fun w3 f3 => ⟨_, rfl, ?_⟩)
  have b3 := hb.keep' f3
  have g3 := f.tr f3
  refine bc_bool (fun h => ?_) (fun h => ?_)
  · have hh : hasF m.kind 5 = false := by cases e : hasF m.kind 5; rfl; rw [e] at h; cases h
    rw [if_neg (by simp [hh])] at hQ
    exact ld_int (b3.cell rfl) (ld_int (b3.cell rfl) (none_spec fun b w4 hb4 f4 => ⟨_, rfl, hQ _ _ hb4 (g3.tr f4)⟩))
  · have hh : hasF m.kind 5 = true := by cases e : hasF m.kind 5; rw [e] at h; cases h; rfl
    rw [if_pos hh] at hQ
    have key : ∀ (c : Bool), (c = true ↔ aimsNone m) → CallR Tryz.prog 84 #[.agg #[.int .i64 m.tn, .int .u64 m.ts]] w3 fun v16 w17 => ∃ (y18 : Bool), v16 = .bool y18 ∧ bcase y18 (ldI .i64 w17 (at0 w.heap.size 8) fun x19 => ldI .u64 w17 (at0 w.heap.size 9) fun x20 => CallR Tryz.prog 61 #[.agg #[.int .i64 x19, .int .u64 x20]] w17 fun v21 w22 => ∃ (y23 : Bool), v21 = .bool y23 ∧ Q (.bool (y23 == c)) w22) (Q (.bool false) w17) := by
      intro c hc
      refine id_spec fun b w4 hb4 f4 => ⟨_, rfl, bc_bool (fun e => ?_) (fun e => ?_)⟩
      · have b4 := b3.keep' f4
        refine ld_int (b4.cell rfl) (ld_int (b4.cell rfl) (none_spec fun d w5 hd f5 => ⟨_, rfl, hQ _ _ ?_ ((g3.tr f4).tr f5)⟩))
        have h1 := hb4.1 e
        rw [← hc, ← hd]
        cases d <;> cases c <;> simp [h1]
      · exact hQ.no (g3.tr f4) fun h => by rw [hb4.2 h.1] at e; cases e
    refine ld_int (b3.cell rfl) (bc_eq (fun h1 => ?_) (fun h1 => ?_))
    · refine ld_int (b3.cell rfl) (bc_eq (fun h2 => ?_) (fun h2 => ?_))
      · exact ld_int (b3.cell rfl) (ld_int (b3.cell rfl) (key true (by simp [aimsNone, h1, h2])))
      · refine ld_int (b3.cell rfl) (bc_eq (fun h3 => ?_) (fun h3 => ?_))
        · exact ld_int (b3.cell rfl) (ld_int (b3.cell rfl) (key true (by simp [aimsNone, h1, h3])))
        · refine ld_int (b3.cell rfl) (bc_eq (fun h4 => by omega) (fun h4 => ?_))
          exact ld_int (b3.cell rfl) (ld_int (b3.cell rfl) (key false (by simp [aimsNone, h1, h2, h3])))
    · refine ld_int (b3.cell rfl) (bc_eq (fun h2 => ?_) (fun h2 => ?_))
      · exact ld_int (b3.cell rfl) (ld_int (b3.cell rfl) (ld_int (b3.cell rfl) (key (m.op == 3) (by simp [aimsNone, h1, h2]))))
      · exact ld_int (b3.cell rfl) (ld_int (b3.cell rfl) (key false (by simp [aimsNone, h1, h2])))
end
section
variable {w : World} {Q : Value → World → Prop} {m : Msg} {rp lp : Option Addr} {rc lc g : Nat}
theorem rr_l1 (hb : Blk w g (m.cells rp rc lp lc) 63) (h : MM w m rp rc lp lc) (hQ : Ans Q (rise m.list) w) (f : Nat) : ∀ (i : Nat) (w' : World), m.list.length - i < f → Fr [] w w' → i ≤ m.list.length → riseTo m.list i → X60.l1 Q f (at0 g 0) (i : Int) w' := by
  induction f with
  | zero => intro i w' hf; omega
  | succ f ih =>
    intro i w' hf hw hi hp
    rw [X60.l1]
    have hsz := h.lsz
    have b1 := hb.keep' hw
    simp only [add_at, Nat.zero_add, Nat.add_zero]
    generalize hN : (72057594037927935 : Int) = N
    refine ld_sl (b1.cell rfl) (bc_dec (fun h1 => ?_) (fun h1 => ?_))
    · have g2 : Fr [] w w'.drew := hw.tr Fr.drew
      have b2 := hb.keep' g2
      have hc := h.list.keep' g2
      have hlt : i < m.list.length := by omega
      have hg := List.getElem?_eq_getElem hlt
      generalize m.list[i] = x at hg
      obtain ⟨q, hq, c0⟩ := cell_u64 hc hg
      have no : ¬ rise m.list → Q (.bool false) w'.drew := fun hn => hQ.no g2 hn
      unfold drewK
      have e2 : IntKind.wrap .i64 ((i : Int) + 1) = ((i + 1 : Nat) : Int) := by rw [i64w _ (by omega) (by omega)]; omega
      rw [e2]
      have c0' : w'.drew.cell? (q.add (Int.toNat (i : Int) * 1)) = some (.int .u64 x) := by rw [Int.toNat_natCast]; exact c0
      refine ld_sl (b2.cell rfl) ⟨⟨by omega, by omega⟩, opt_some hq (ld_int c0' (bc_dec (fun h2 => no fun hr => ?_) (fun h2 => ?_)))⟩
      · have := (hr i x hg).1.1; omega
      refine ld_sl (b2.cell rfl) ⟨⟨by omega, by omega⟩, opt_some hq (ld_int c0' (bc_dec (fun h3 => no fun hr => ?_) (fun h3 => ?_)))⟩
      · have := (hr i x hg).1.2; omega
      have hok : okSerial x := ⟨by omega, by omega⟩
      refine bc_dec (fun h0 => ?_) (fun h0 => ?_)
      · have e1 : IntKind.wrap .i64 ((i : Int) - 1) = ((i - 1 : Nat) : Int) := by rw [i64w _ (by omega) (by omega)]; omega
        rw [e1]
        have hlt1 : i - 1 < m.list.length := by omega
        have hg1 := List.getElem?_eq_getElem hlt1
        generalize m.list[i - 1] = y at hg1
        obtain ⟨q1, hq1, c1⟩ := cell_u64 hc hg1
        refine ld_sl (b2.cell rfl) ⟨⟨by omega, by omega⟩, opt_some hq (ld_int c0' (ld_sl (b2.cell rfl) ⟨⟨by omega, by omega⟩, opt_some hq1 (ld_int (by rw [Int.toNat_natCast]; exact c1) (bc_dec (fun hle => no fun hr => ?_) (fun hle => ?_)))⟩))⟩
        · have := (hr i x hg).2 (i - 1) y (by omega) hg1; omega
        · refine ih (i + 1) _ (by omega) g2 (by omega) (fun j z hj hz => ?_)
          by_cases e : j = i
          · subst e
            rw [hg] at hz; injection hz with hz; subst hz
            refine ⟨hok, fun k u hk hu => ?_⟩
            have : k = j - 1 := by omega
            subst this
            rw [hg1] at hu; injection hu with hu; omega
          · exact hp j z (by omega) hz
      · refine ih (i + 1) _ (by omega) g2 (by omega) (fun j z hj hz => ?_)
        have : j = 0 := by omega
        subst this
        have : i = 0 := by omega
        subst this
        rw [hg] at hz; injection hz with hz; subst hz
        exact ⟨hok, fun k u hk => by omega⟩
    · have : i = m.list.length := by omega
      subst this
      exact hQ _ _ ⟨fun _ => riseTo_all.1 hp, fun _ => rfl⟩ hw
theorem rr_l0 (hb : Blk w g (m.cells rp rc lp lc) 63) (h : MM w m rp rc lp lc) (hQ : Ans Q ((∀ x ∈ m.refs, okID x) ∧ rise m.list) w) (f : Nat) : ∀ (i : Nat) (w' : World), m.refs.length - i < f → Fr [] w w' → i ≤ m.refs.length → (∀ x ∈ m.refs.take i, okID x) → X60.l0 Q f (at0 g 0) (i : Int) w' := by
  induction f with
  | zero => intro i w' hf; omega
  | succ f ih =>
    intro i w' hf hw hi hp
    rw [X60.l0]
    have hsz := h.rsz
    have b1 := hb.keep' hw
    simp only [add_at, Nat.zero_add, Nat.add_zero]
    refine ld_sl (b1.cell rfl) (bc_dec (fun h1 => ?_) (fun h1 => ?_))
    · have hlt : i < m.refs.length := by omega
      have hg := List.getElem?_eq_getElem hlt
      have htk : m.refs.take (i + 1) = m.refs.take i ++ [m.refs[i]] := (List.take_append_getElem hlt).symm
      have hmem : m.refs[i] ∈ m.refs := List.getElem_mem hlt
      generalize m.refs[i] = x at hg htk hmem
      have hc := h.refs.keep' hw
      obtain ⟨q, hq, c0⟩ := hc _ _ (flat_get idc_len m.refs hg (j := 0) rfl)
      obtain ⟨q', hq', c1⟩ := hc _ _ (flat_get idc_len m.refs hg (j := 1) rfl)
      rw [hq] at hq'; injection hq' with hq'; subst hq'
      refine ld_sl (b1.cell rfl) ⟨⟨by omega, by omega⟩, opt_some hq ?_⟩
      rw [Int.toNat_natCast]
      simp only [add_add]
      refine ld_int c0 (ld_int c1 (id_spec fun b w4 hb4 f4 => ⟨_, rfl, bc_bool (fun e => hQ.no (hw.tr f4) fun hh => not_true hb4 e (hh.1 x hmem)) (fun e => ?_)⟩))
      rw [show IntKind.wrap .i64 ((i : Int) + 1) = ((i + 1 : Nat) : Int) by rw [i64w _ (by omega) (by omega)]; omega]
      refine ih (i + 1) w4 (by omega) (hw.tr f4) (by omega) (fun y hy => ?_)
      rw [htk] at hy
      rcases List.mem_append.1 hy with hy | hy
      · exact hp y hy
      · rw [List.mem_singleton.1 hy]; exact of_not hb4 e
    · have ht : m.refs.take i = m.refs := List.take_of_length_le (by omega)
      rw [ht] at hp
      exact ⟨m.list.length + 1, rr_l1 b1 (h.keep' hw) (hQ.le hw ⟨fun h => ⟨hp, h⟩, fun h => h.2⟩) _ 0 w' (by omega) (Fr.refl _) (by omega) (fun j _ hj => by omega)⟩
theorem rr_j2 (hb : Blk w g (m.cells rp rc lp lc) 63) (h : MM w m rp rc lp lc) (hQ : Ans Q ((∀ x ∈ m.refs, okID x) ∧ rise m.list) w) : X60.j2 Q (at0 g 0) w :=
  ⟨m.refs.length + 1, rr_l0 hb h hQ _ 0 w (by omega) (Fr.refl _) (by omega) (by simp)⟩
def rP3 (m : Msg) : Prop := (0 < m.refs.length → hasF m.kind 12 = true) ∧ m.refs.length ≤ 2 ∧ (0 < m.list.length → hasF m.kind 14 = true) ∧ m.list.length ≤ 64 ∧ (∀ x ∈ m.refs, okID x) ∧ rise m.list
theorem rr_j3 (hb : Blk w g (m.cells rp rc lp lc) 63) (h : MM w m rp rc lp lc) (hQ : Ans Q (rP3 m) w) : X60.j3 Q (at0 g 0) w := by
  unfold X60.j3
  simp only [add_at, Nat.zero_add, Nat.add_zero]
  unfold rP3 at hQ
  have c : ∀ {w'}, Fr [] w w' → Blk w' g (m.cells rp rc lp lc) 63 := fun f => hb.keep' f
  -- from the list's length on
  have two : ∀ {w'}, Fr [] w w' → (0 < m.refs.length → hasF m.kind 12 = true) → ldSl w' (at0 g 10) fun x6p x6n x6c => bcase (decide (((x6n : Nat) : Int) > (2 : Int))) (Q (.bool false) w') (ldSl w' (at0 g 18) fun x7p x7n x7c => bcase (decide (((x7n : Nat) : Int) > (0 : Int))) (ldI .i64 w' (at0 g 0) fun x8 => CallR Tryz.prog 83 #[.int .i64 x8, .string (⟨#[108, 105, 115, 116]⟩ : ByteArray)] w' fun v9 w10 => ∃ (y11 : Bool), v9 = .bool y11 ∧ bcase (!y11) (Q (.bool false) w10) (ldSl w10 (at0 g 18) fun x12p x12n x12c => bcase (decide (((x12n : Nat) : Int) > (64 : Int))) (Q (.bool false) w10) (X60.j2 Q (at0 g 0) w10))) (ldSl w' (at0 g 18) fun x13p x13n x13c => bcase (decide (((x13n : Nat) : Int) > (64 : Int))) (Q (.bool false) w') (X60.j2 Q (at0 g 0) w'))) := by
    intro w' f h12
    refine ld_sl ((c f).cell rfl) (bc_dec (fun h1 => hQ.no f fun hh => ?_) (fun h1 => ?_))
    · have := hh.2.1; omega
    refine ld_sl ((c f).cell rfl) (bc_dec (fun h2 => ?_) (fun h2 => ?_))
    · refine ld_int ((c f).cell rfl) (has_spec 14 (by omega) fun w4 f4 => ⟨_, rfl, bc_bool (fun e => hQ.no (f.tr f4) fun hh => ?_) (fun e => ?_)⟩)
      · rw [hh.2.2.1 (by omega)] at e; cases e
      have h14 : hasF m.kind 14 = true := by cases he : hasF m.kind 14; rw [he] at e; cases e; rfl
      refine ld_sl ((c (f.tr f4)).cell rfl) (bc_dec (fun h3 => hQ.no (f.tr f4) fun hh => ?_) (fun h3 => ?_))
      · have := hh.2.2.2.1; omega
      exact rr_j2 (c (f.tr f4)) (h.keep' (f.tr f4)) (hQ.le (f.tr f4) ⟨fun hh => ⟨h12, by omega, fun _ => h14, by omega, hh⟩, fun hh => hh.2.2.2.2⟩)
    · refine ld_sl ((c f).cell rfl) (bc_dec (fun h3 => hQ.no f fun hh => ?_) (fun h3 => ?_))
      · have := hh.2.2.2.1; omega
      exact rr_j2 (c f) (h.keep' f) (hQ.le f ⟨fun hh => ⟨h12, by omega, fun hx => by omega, by omega, hh⟩, fun hh => hh.2.2.2.2⟩)
  refine ld_sl (hb.cell rfl) (bc_dec (fun h0 => ?_) (fun h0 => two (Fr.refl w) fun hx => by omega))
  refine ld_int (hb.cell rfl) (has_spec 12 (by omega) fun w4 f4 => ⟨_, rfl, bc_bool (fun e => hQ.no f4 fun hh => ?_) (fun e => ?_)⟩)
  · rw [hh.1 (by omega)] at e; cases e
  have h12 : hasF m.kind 12 = true := by cases he : hasF m.kind 12; rw [he] at e; cases e; rfl
  exact two f4 fun _ => h12
theorem rRight_spec (h : MM w m rp rc lp lc) (hQ : Ans Q (Right m) w) : CallR Tryz.prog 60 #[msgV m rp rc lp lc] w Q := by
  have hQ : Ans Q (RightR m) w := hQ.le (Fr.refl w) (right_iff m).symm
  apply X60.sound
  unfold X60.f newK
  obtain ⟨hb, f⟩ := made (w := w) (cs := (m.cells rp rc lp lc).toArray) (e := 63)
  rw [show (⟨w.heap.size, 0, none⟩ : Addr) = at0 w.heap.size 0 from rfl]
  simp only [add_at, Nat.zero_add, Nat.add_zero]
  have h2 := h.keep' f
  generalize w.alloc _ = w2 at *
  refine ld_int (hb.cell rfl) (within_spec fun b1 hb1 => ⟨_, rfl, bc_bool (fun e => hQ.no f fun hh => not_true hb1 e hh.1) (fun e1 => ?_)⟩)
  refine ld_int (hb.cell rfl) (within_spec fun b2 hb2 => ⟨_, rfl, bc_bool (fun e => hQ.no f fun hh => not_true hb2 e hh.2.1) (fun e2 => ?_)⟩)
  refine ld_int (hb.cell rfl) (within_spec fun b3 hb3 => ⟨_, rfl, bc_bool (fun e => hQ.no f fun hh => not_true hb3 e hh.2.2.1) (fun e3 => ?_)⟩)
  refine ld_int (hb.cell rfl) (ld_int (hb.cell rfl) (bc_eq (fun e => hQ.no f fun hh => hh.2.2.2.1 e) (fun e4 => ?_)))
  refine ld_msg hb (rnumbers_spec (m := m) (rp := rp) (rc := rc) (lp := lp) (lc := lc) fun b5 w5 hb5 f5 => ⟨_, rfl, bc_bool (fun e => hQ.no (f.tr f5) fun hh => not_true hb5 e hh.2.2.2.2.1) (fun e5 => ?_)⟩)
  have bb5 := hb.keep' f5
  refine ld_msg bb5 (rtarget_spec (m := m) (rp := rp) (rc := rc) (lp := lp) (lc := lc) fun b6 w6 hb6 f6 => ⟨_, rfl, bc_bool (fun e => hQ.no ((f.tr f5).tr f6) fun hh => not_true hb6 e hh.2.2.2.2.2.1) (fun e6 => ?_)⟩)
  refine rr_j3 (bb5.keep' f6) (h2.keep' (f5.tr f6)) (hQ.le ((f.tr f5).tr f6) ?_)
  exact ⟨fun hh => ⟨of_not hb1 e1, of_not hb2 e2, of_not hb3 e3, e4, of_not hb5 e5, of_not hb6 e6, hh⟩, fun hh => hh.2.2.2.2.2.2⟩
end
end Go.Proofs.YtdgoalhnkegbmaaGreatX
namespace Go.Proofs.YtdgoalhnkegbmaaGreatX
open Go.RowKit
set_option linter.unusedVariables false
set_option linter.unusedSimpArgs false
set_option maxRecDepth 100000
section
variable {w w' W : World} {Q : Value → World → Prop} {g gs gx gz gm gt1 g1 g3 : Nat} {ft al ft' al' F : List Nat} {S S' : Cs} {k to num now fl op field tn ts value : Int} {x z : Cl} {y : Cp} {refs : List (Int × Int)} {rp sp : Option Addr} {rc sc : Nat} {m : Msg}
/-- what Begin comes to once the request may be -/
def beginIn (S : Cs) (to op field tn ts value : Int) (refs : List (Int × Int)) (now : Int) : Cs × Int × Int :=
  if (S.l.length : Int) ≥ S.c.calls ∨ IntKind.wrap .u64 (IntKind.wrap .u64 (latestOf S to + 1) - floorC S to) ≥ IntKind.wrap .u64 S.c.window then (S, 0, 6)
  else if latestOf S to = 72057594037927935 then (S, 0, 7)
  else (putC { S with latest := S.latest.set to.toNat (IntKind.wrap .u64 (latestOf S to + 1)) } ⟨to, IntKind.wrap .u64 (latestOf S to + 1), op, field, tn, ts, refs, value, 1, 0, [], 0, now, 0, now⟩, IntKind.wrap .u64 (latestOf S to + 1), 0)
theorem rbegin_j0 (t : PR w g ft al S) (i : SI S) (ho : otherB S to = true) (bx : Blk w gx (idcs tn ts) 37) (hx : gx ∉ al) (hr : Stays w ft rp refs) (h0r : rp = none → rc = 0) (hl : refs.length ≤ 8796093022208) (hxW : W.heap.size ≤ gx) (hft : ∀ k ∈ ft, k < W.heap.size) (F : Fr [] W w)
    (hc : ¬ ((S.l.length : Int) ≥ S.c.calls ∨ IntKind.wrap .u64 (IntKind.wrap .u64 (latestOf S to + 1) - floorC S to) ≥ IntKind.wrap .u64 S.c.window))
    (hK : AftR W g ft al (beginIn S to op field tn ts value refs now).1 (.tuple #[.int .u64 (beginIn S to op field tn ts value refs now).2.1, .int .i64 (beginIn S to op field tn ts value refs now).2.2]) Q) :
    X26.j0 Q (some (at0 g 0)) to op field value rp refs.length rc now (at0 gx 0) w := by
  unfold X26.j0
  simp only [optP_some]
  unfold beginIn at hK
  rw [if_neg hc] at hK
  have hro := other_rng ho
  have hlt := i.latest (to := to)
  obtain ⟨q0, q1, c1⟩ := t.lat (to := to) (by omega) (by omega)
  refine ⟨⟨q0, q1⟩, ld_int c1 (bc_dec (fun h => ?_) (fun h => drawn fun w3 f3 _ => ?_))⟩
  · rw [if_pos (by omega)] at hK
    exact hK ft al w t F.any (fun x hx => .inl hx) (fun x hx => .inl hx)
  rw [if_neg (by omega)] at hK
  have t3 := t.keep' f3
  obtain ⟨_, _, c3⟩ := t3.lat (to := to) (by omega) (by omega)
  refine ⟨⟨q0, q1⟩, ld_int c3 ⟨⟨q0, q1⟩, t3.stlat (by omega) (by omega) fun w7 t7 f7 => ?_⟩⟩
  have hv : latestOf { S with latest := S.latest.set to.toNat (IntKind.wrap .u64 (latestOf S to + 1)) } to = IntKind.wrap .u64 (latestOf S to + 1) := by
    have := i.ll
    unfold latestOf
    rw [List.getElem?_set_self (by omega)]
    rfl
  obtain ⟨_, _, c7⟩ := t7.lat (to := to) (by omega) (by show to ≤ S.c.nodes; omega)
  rw [hv] at c7
  refine ⟨⟨q0, q1⟩, ld_int c7 (drawn fun w10 f10 _ => rkey_spec ⟨_, rfl, ?_⟩)⟩
  have hxft : gx ∉ ft := fun hm => hx (t.sub gx hm)
  have b10 := ((bx.keep' f3).keep f7 hxft).keep' f10
  have t10 := t7.keep' f10
  have r10 := hr ft w10 ((f3.any.tr f7).tr f10.any) (fun k hk => .inl hk)
  have F10 : Fr ft W w10 := ((F.tr f3).any.tr f7).tr f10.any
  refine ld_int (b10.cat 0 _ rfl) (ld_int (b10.cat 1 _ rfl) ⟨⟨b10.cat, b10.cat⟩, ridsC_spec r10 h0r hl fun rq cq w18 r18 n18 f18 => ⟨_, _, _, rfl, ⟨b10.cat, (b10.keep' f18).cat⟩, ?_⟩⟩)
  have t18 := t10.keep' f18
  have z10 := F10.size
  have F18 := F10.tr f18.any
  obtain ⟨y, hy⟩ : ∃ y : Cp, y = ⟨to, IntKind.wrap .u64 (latestOf S to + 1), op, field, tn, ts, refs, value, 1, 0, [], 0, now, 0, now⟩ := ⟨_, rfl⟩
  have hrq : IdRow w18 rq cq y.refs := by rw [hy]; exact r18
  have hnr : ∀ k ∈ fbl rq, k ∉ ft := fun k hk hm => by have := n18 k hk; have := hft k hm; omega
  have tg : PR w18 g ft (al ++ fbl rq) { S with latest := S.latest.set to.toNat (IntKind.wrap .u64 (latestOf S to + 1)) } := t18.grow (fun x hx => by simp [hx]) (fun x hx => by
    rcases List.mem_append.1 hx with hx | hx
    · exact t18.lt x hx
    · exact r18.lt x hx)
  have rg : CRel w18 ft (al ++ fbl rq) (y.cl rq cq none 0) y := ⟨by rw [hy]; exact hl, by rw [hy]; simp, rq, cq, none, 0, rfl, hrq, by rw [hy]; exact Own.nil, fun k hk => ⟨hnr k hk, by simp [hk]⟩, fun k hk => by simp [fbl] at hk⟩
  rw [add_at, Nat.zero_add]
  have := rputT (Q := fun v w => ∃ y22, v = .bool y22 ∧ Q (.tuple #[.int .u64 (IntKind.wrap .u64 (latestOf S to + 1)), .int .i64 0]) w) tg rg (k := keyOf to (IntKind.wrap .u64 (latestOf S to + 1))) (by rw [hy]) fun b => ?_
  · rw [hy] at this
    exact this
  · intro ft' al' w21 t21 f21 e21 e22
    refine ⟨b, rfl, ?_⟩
    rw [← hy] at hK
    refine hK ft' al' w21 t21 (F18.tr f21) (fun k hk => (e21 k hk).imp id (fun h => by have := F18.size; omega)) (fun k hk => ?_)
    rcases e22 k hk with h | h
    · rcases List.mem_append.1 h with h | h
      · exact .inl h
      · exact .inr (by have := n18 k h; omega)
    · exact .inr (by have := F18.size; omega)
theorem rbegin_j1 (t : PR w g ft al S) (i : SI S) (ho : otherB S to = true) (bx : Blk w gx (idcs tn ts) 37) (hx : gx ∉ al) (hr : Stays w ft rp refs) (h0r : rp = none → rc = 0) (hl : refs.length ≤ 8796093022208) (hxW : W.heap.size ≤ gx) (hft : ∀ k ∈ ft, k < W.heap.size) (F : Fr [] W w)
    (hK : AftR W g ft al (beginIn S to op field tn ts value refs now).1 (.tuple #[.int .u64 (beginIn S to op field tn ts value refs now).2.1, .int .i64 (beginIn S to op field tn ts value refs now).2.2]) Q) :
    X26.j1 Q (some (at0 g 0)) to op field value rp refs.length rc now (at0 gx 0) w := by
  unfold X26.j1
  simp only [optP_some]
  have hro := other_rng ho
  refine drawn fun w1 f1 _ => ?_
  have t1 := t.keep' f1
  have full : ((S.l.length : Int) ≥ S.c.calls ∨ IntKind.wrap .u64 (IntKind.wrap .u64 (latestOf S to + 1) - floorC S to) ≥ IntKind.wrap .u64 S.c.window) → ∀ {w2 : World}, Fr [] w1 w2 → Q (.tuple #[.int .u64 0, .int .i64 6]) w2 := fun hh w2 f2 => by
    unfold beginIn at hK
    rw [if_pos hh] at hK
    exact hK ft al w2 (t1.keep' f2) ((F.tr f1).tr f2).any (fun x hx => .inl hx) (fun x hx => .inl hx)
  obtain ⟨pk, pv, ck, cv, lm, t1'⟩ := id t1
  have hlen := t1'.rel.len
  have hv : w1.cell? (((at0 g 0).add 89).add 2) = some (.slice pv lm.length cv) := by rw [add_at, Nat.zero_add]; exact t1'.tab.v2
  refine ld_sl hv (ld_int (t1.cfg0 6 _ rfl) (bc_dec (fun h => full (.inl (by rw [← hlen]; exact h)) (Fr.refl _)) (fun h => ?_)))
  obtain ⟨q0, q1, c1⟩ := t1.lat (to := to) (by omega) (by omega)
  refine ⟨⟨q0, q1⟩, ld_int c1 (rfloor_spec t1 i fun w9 f9 => ⟨_, rfl, ⟨c1, f9.cell' c1⟩, ?_⟩)⟩
  have t9 := t1.keep' f9
  refine ld_int (t9.cfg0 7 _ rfl) ⟨⟨t1.cfg0 7 _ rfl, t9.cfg0 7 _ rfl⟩, bc_dec (fun h2 => full (.inr h2) f9) (fun h2 => ?_)⟩
  have F9 := f1.tr f9
  exact rbegin_j0 (W := W) t9 i ho (bx.keep' F9) hx (hr.keep' F9) h0r hl hxW hft (F.tr F9) (fun hh => hh.elim (fun hh => h (by rw [hlen]; exact hh)) h2) hK
theorem rbegin_spec (t : PR w g ft al S) (i : SI S) (hr : Stays w ft rp refs) (h0r : rp = none → rc = 0) (hle : refs.length ≤ rc) (hl : refs.length ≤ 8796093022208) {r : Bool} (hR : r = true ↔ Right (askM S (newY to op field tn ts value refs now) 1))
    (hK : AftR w g ft al (beginS S r to op field tn ts value refs now).1 (.tuple #[.int .u64 (beginS S r to op field tn ts value refs now).2.1, .int .i64 (beginS S r to op field tn ts value refs now).2.2]) Q) :
    CallR Tryz.prog 26 #[.pointer (some (at0 g 0)), .int .i64 to, .int .i64 op, .int .i64 field, .agg #[.int .i64 tn, .int .u64 ts], .int .u64 value, .slice rp refs.length rc, .int .u64 now] w Q := by
  apply X26.sound
  unfold X26.f
  simp only [optP_some]
  refine newB fun g1 w2 b1 f2 h1 => drawn fun w3 f3 _ => ?_
  have b1 : Blk w2 g1 (idcs tn ts) 37 := b1
  have b13 := b1.keep' f3
  have F3 := f2.tr f3
  have t3 := t.keep' F3
  refine ld_int t3.node (ld_int (b13.cat 0 _ rfl) (ld_int (b13.cat 1 _ rfl) (newB fun g8 w9 b8 f9 h8 => ⟨⟨b13.cat, (b13.keep' f9).cat⟩, ⟨t3.node, (t3.keep' f9).node⟩, ?_⟩)))
  refine stAllB (vs := (askM S (newY to op field tn ts value refs now) 1).cells rp rc none 0) b8 rfl fun w10 b10 f10 => ?_
  have z2 := f2.size
  have z3 := f3.size
  have z9 := f9.size
  have l1 := b1.lt
  have F10 : Fr [] w w10 := (F3.tr f9).loc f10 (by omega)
  have t10 := t.keep' F10
  have b110 := (b13.keep' f9).off1 (by omega) f10
  have r10 := hr.keep' F10
  have hx : g1 ∉ al := fun hm => by have := t.lt g1 hm; omega
  have hft : ∀ k ∈ ft, k < w.heap.size := fun k hk => t.lt k (t.sub k hk)
  have bad : (to > S.c.nodes ∨ r = false ∨ (noneB tn ts = false ∧ tn ≠ to)) → ∀ {w2 : World}, Fr [] w10 w2 → Q (.tuple #[.int .u64 0, .int .i64 1]) w2 := fun hb w2 f2 => by
    unfold beginS at hK
    rw [if_pos hb] at hK
    exact hK.same t (F10.tr f2)
  refine ld_int (t10.cfg0 0 _ rfl) (bc_dec (fun hn => bad (.inl hn) (Fr.refl _)) (fun hn => ?_))
  refine ld_Mg (m := askM S (newY to op field tn ts value refs now) 1) (rp := rp) (rc := rc) (lp := none) (lc := 0) b10.cat ?_
  have hmm : MM w10 (askM S (newY to op field tn ts value refs now) 1) rp rc none 0 := ⟨r10.cells, hle, h0r, by show refs.length * 16 ≤ _; omega, fun j u hj => by simp [askM] at hj, by simp [askM], fun _ => rfl, by simp [askM]⟩
  refine rRight_spec hmm fun b w33 hb f33 => ⟨_, rfl, bc_bool (fun e => bad (.inr (.inl ?_)) f33) (fun e => ?_)⟩
  · cases r with
    | false => rfl
    | true => rw [hb.2 (hR.1 rfl)] at e; cases e
  have hrt : Right (askM S (newY to op field tn ts value refs now) 1) := hb.1 (by simpa using e)
  have hrr : r = true := hR.2 hrt
  have ht := right_to hrt
  have ho : otherB S to = true := by
    have h3 : S.node ≠ to := ht.2.2
    exact other_of ht.1 (by have hn : ¬ to > S.c.nodes := hn; omega) (fun h => h3 h.symm)
  have b133 := b110.keep' f33
  refine ld_int (b133.cat 0 _ rfl) (ld_int (b133.cat 1 _ rfl) (none_spec fun b2 w38 hb2 f38 => ⟨_, rfl, ?_⟩))
  have F38 := F10.tr (f33.tr f38)
  have eb2 : b2 = noneB tn ts := by
    have : b2 = true ↔ noneB tn ts = true := by
      rw [hb2]
      unfold noID noneB
      simp
    cases b2 <;> cases hh : noneB tn ts <;> simp_all
  have good : ¬ (to > S.c.nodes ∨ r = false ∨ (noneB tn ts = false ∧ tn ≠ to)) → X26.j1 Q (some (at0 g 0)) to op field value rp refs.length rc now (at0 g1 0) w38 := fun hg => by
    have ebg : beginS S r to op field tn ts value refs now = beginIn S to op field tn ts value refs now := by
      unfold beginS beginIn
      rw [if_neg hg]
    rw [ebg] at hK
    exact rbegin_j1 (W := w) (t.keep' F38) i ho (b133.keep' f38) hx (hr.keep' F38) h0r hl h1 hft F38 hK
  refine bc_bool (fun e2 => ld_int ((b133.keep' f38).cat 0 _ rfl) (bc_ne (fun h3 => bad (.inr (.inr ⟨by rw [← eb2]; simpa using e2, h3⟩)) (f33.tr f38)) (fun h3 => good ?_))) (fun e2 => good ?_)
  · rintro (h | h | h)
    · exact hn h
    · rw [hrr] at h; cases h
    · exact h.2 h3
  · rintro (h | h | h)
    · exact hn h
    · rw [hrr] at h; cases h
    · rw [← eb2] at h
      have : b2 = true := by simpa using e2
      rw [this] at h
      cases h.1
end
end Go.Proofs.YtdgoalhnkegbmaaGreatX
namespace Go.Proofs.YtdgoalhnkegbmaaGreatX
open Go.RowKit
set_option linter.unusedVariables false
set_option linter.unusedSimpArgs false
set_option maxRecDepth 100000
section
variable {w w' W : World} {Q : Value → World → Prop} {g gs gx gt : Nat} {ft al : List Nat} {S : Cs} {c : Cfg} {node last : Int} {y : Cp} {m : Msg} {rp sp rp' sp' : Option Addr} {rc sc rc' sc' : Nat}
abbrev ntail (c : Cfg) (last : Int) : List Value := [.int .u64 last, .int .i64 c.calls, .slice none 0 0, .slice none 0 0, .int .u64 0]
theorem rnew_l0 (hK : ∀ w', Blk w' g (c.cells ++ .int .i64 node :: ((List.replicate 65 last).map (Value.int .u64) ++ ntail c last)) 59 → Fr [g] W w' → Q (.pointer (some (at0 g 0))) w') :
    ∀ (f i : Nat) (w : World) (vs : List Int), 65 - i < f → i ≤ 65 → vs.length = 65 → (∀ j, j < i → vs[j]? = some last) → Blk w g (c.cells ++ .int .i64 node :: (vs.map (Value.int .u64) ++ ntail c last)) 59 → Fr [g] W w → X6.l0 Q f last (at0 g 0) (i : Int) w
  | 0, i, w, vs, hf, _, _, _, _, _ => absurd hf (Nat.not_lt_zero _)
  | f + 1, i, w, vs, hf, hi, hv, hs, b, F => by
    rw [X6.l0]
    refine bc_dec (fun h1 => ⟨⟨by omega, by omega⟩, ?_⟩) (fun h1 => ?_)
    · rw [Int.toNat_natCast, Nat.mul_one, add_add]
      have hlen : (c.cells ++ .int .i64 node :: (vs.map (Value.int .u64) ++ ntail c last)).length = 93 := by
        rw [List.length_append, List.length_cons, List.length_append, List.length_map, hv]
        rfl
      refine stB b (by rw [hlen]; omega) fun w1 b1 f1 => ?_
      have e : (c.cells ++ .int .i64 node :: (vs.map (Value.int .u64) ++ ntail c last)).set (23 + i) (.int .u64 last) = c.cells ++ .int .i64 node :: ((vs.set i last).map (Value.int .u64) ++ ntail c last) := by
        rw [Nat.add_comm]
        show c.cells ++ .int .i64 node :: (vs.map (Value.int .u64) ++ ntail c last).set i (.int .u64 last) = _
        rw [List.set_append_left _ _ (by rw [List.length_map, hv]; omega), ← List.map_set]
      rw [e] at b1
      rw [i64w ((i : Int) + 1) (by omega) (by omega), show (i : Int) + 1 = ((i + 1 : Nat) : Int) by omega]
      refine rnew_l0 hK f (i + 1) w1 (vs.set i last) (by omega) (by omega) (by simp [hv]) (fun j hj => ?_) b1 (F.tr f1)
      rw [List.getElem?_set]
      by_cases h : i = j
      · rw [if_pos h, if_pos (by omega)]
      · rw [if_neg h]; exact hs j (by omega)
    · have hin : i = 65 := by omega
      subst hin
      have : vs = List.replicate 65 last := by
        apply List.ext_getElem?
        intro j
        by_cases hj : j < 65
        · rw [hs j hj, List.getElem?_replicate, if_pos hj]
        · rw [List.getElem?_eq_none (by omega), List.getElem?_replicate, if_neg hj]
      rw [this] at b
      exact hK w b F
theorem rnew_spec (hbad : ¬ newOk c node last → ∀ w', Fr [] w w' → Q (.pointer none) w')
    (hK : newOk c node last → ∀ g w', PR w' g [g] [g] (newC c node last) → Fr [] w w' → w.heap.size ≤ g → Q (.pointer (some (at0 g 0))) w') :
    CallR Tryz.prog 6 #[c.val, .int .i64 node, .int .u64 last] w Q := by
  apply X6.sound
  unfold X6.f
  refine newB fun g1 w2 b f2 _ => ?_
  have b : Blk w2 g1 c.cells 27 := b
  refine ld_Cfg (s := c) b.cat (may_spec fun w26 f26 => ⟨_, rfl, ?_⟩)
  have F := f2.tr f26
  have b26 := b.keep' f26
  refine bc_bool (fun h => hbad (fun hn => by rw [hn.1] at h; cases h) _ F) (fun h => bc_dec (fun h1 => hbad (fun hn => hn.2.1 h1) _ F) (fun h1 => ld_int (b26.cat 0 _ rfl) (bc_dec (fun h2 => hbad (fun hn => hn.2.2.1 h2) _ F) (fun h2 => bc_dec (fun h3 => hbad (fun hn => hn.2.2.2 h3) _ F) (fun h3 => ?_)))))
  have hm : mayB c = true := by simpa using h
  have hs := may_calls hm
  have hn := may_nodes hm
  unfold X6.j1
  refine ld_Cfg (s := c) b26.cat (newB fun g w24 b24 f24 h24 => ?_)
  have z := F.size
  have l26 := b26.lt
  refine ld_int ((b26.keep' f24).cat 6 _ rfl) ?_
  rw [add_add]
  have b24 : Blk w24 g (c.cells ++ .int .i64 node :: ((List.replicate 65 (0 : Int)).map (Value.int .u64) ++ [.int .u64 last, .int .i64 0, .slice none 0 0, .slice none 0 0, .int .u64 0])) 59 := b24
  refine stB b24 (by show 89 < 93; omega) fun w26' b26' f26' => ?_
  have b26' : Blk w26' g (c.cells ++ .int .i64 node :: ((List.replicate 65 (0 : Int)).map (Value.int .u64) ++ ntail c last)) 59 := b26'
  have F26 : Fr [] w w26' := (F.tr f24).loc f26' (by omega)
  refine ⟨66, rnew_l0 (W := w26') (c := c) (node := node) (fun w' bw Fw => ?_) _ 0 w26' (List.replicate 65 0) (by omega) (by omega) (by simp) (fun j hj => by omega) b26' (Fr.refl _)⟩
  have Fall : Fr [] w w' := F26.loc Fw (by omega)
  have hlen : (c.nodes + 1).toNat ≤ 65 := by omega
  have elat : lats (newC c node last) = List.replicate 65 last := by
    unfold lats newC
    simp only [List.length_replicate]
    rw [List.replicate_append_replicate]
    congr 1
    omega
  have ecell : rcells (newC c node last) 0 none none 0 0 = c.cells ++ .int .i64 node :: ((List.replicate 65 last).map (Value.int .u64) ++ ntail c last) := by
    unfold rcells
    rw [elat]
    rfl
  refine hK ⟨hm, h1, h2, h3⟩ g w' ⟨none, none, 0, 0, [], ⟨?_, ⟨rfl, fun i e he => by simp at he⟩, fun x hx => hx, fun x hx => ?_, ?_, ?_, ?_⟩⟩ Fall (by omega)
  · have l65 : (newC c node last).latest.length ≤ 65 := by unfold newC; simp only [List.length_replicate]; exact hlen
    refine ⟨?_, rc_tail l65 0 none none 0 0 1, rc_tail l65 0 none none 0 0 2, rc_tail l65 0 none none 0 0 3, Own.nil, Own.nil, by simp [fbl], by simp [fbl], by simp [fbl], by simp [fbl], by simp [keys, Srt], by simp⟩
    show Blk w' g (rcells (newC c node last) 0 none none 0 0) _
    rw [ecell]
    exact bw
  · simp at hx
    rw [hx]
    exact bw.lt
  · unfold newC
    simp only [List.length_replicate]
    omega
  · unfold newC
    simp only [List.length_replicate]
    exact hlen
  · show c.calls ≤ 4096
    omega
/-- two calls alike -/
theorem hcall_spec (r1 : IdRow w rp rc y.refs) (s1 : IdRow w sp sc y.result) (r2 : IdRow w rp' rc' y.refs) (s2 : IdRow w sp' sc' y.result) (l1 : y.refs.length ≤ 8796093022208) (l2 : y.result.length ≤ 8796093022208) (hQ : ∀ w', Fr [] w w' → Q (.bool true) w') :
    CallR Tryz.prog 19 #[(y.cl rp rc sp sc).val, (y.cl rp' rc' sp' sc').val] w Q := by
  apply X19.sound
  unfold X19.f
  refine newB fun g1 w2 b1 f2 _ => newB fun g3 w4 b3 f4 _ => ?_
  have b1 : Blk w4 g1 (y.cl rp rc sp sc).cells 50 := b1.keep' f4
  have b3 : Blk w4 g3 (y.cl rp' rc' sp' sc').cells 50 := b3
  have F4 := f2.tr f4
  refine ld_int (b1.cat 0 _ rfl) (ld_int (b3.cat 0 _ rfl) (bc_eqt' rfl (ld_int (b1.cat 1 _ rfl) (ld_int (b3.cat 1 _ rfl) (bc_eqt' rfl (ld_int (b1.cat 2 _ rfl) (ld_int (b3.cat 2 _ rfl) (bc_eqt' rfl (ld_int (b1.cat 3 _ rfl) (ld_int (b3.cat 3 _ rfl) (bc_eqt' rfl ?_)))))))))))
  refine ld_int (b1.cat.sub 4 0 rfl) (ld_int (b1.cat.sub 4 1 rfl) (ld_int (b3.cat.sub 4 0 rfl) (ld_int (b3.cat.sub 4 1 rfl) ⟨isS37, bc_bool (fun _ => ?_) (fun h => ?_)⟩)))
  · refine ld_int (b1.cat 7 _ rfl) (ld_int (b3.cat 7 _ rfl) (bc_eqt' rfl (ld_int (b1.cat 8 _ rfl) (ld_int (b3.cat 8 _ rfl) (bc_eqt' rfl (ld_int (b1.cat 9 _ rfl) (ld_int (b3.cat 9 _ rfl) (bc_eqt' rfl (ld_int (b1.cat 11 _ rfl) (ld_int (b3.cat 11 _ rfl) (bc_eqt' rfl ?_)))))))))))
    refine ld_int (b1.cat 12 _ rfl) (ld_int (b3.cat 12 _ rfl) (bc_eqt' rfl (ld_int (b1.cat 13 _ rfl) (ld_int (b3.cat 13 _ rfl) (bc_eqt' rfl (ld_int (b1.cat 14 _ rfl) (ld_int (b3.cat 14 _ rfl) (bc_eqt' rfl ?_))))))))
    refine ld_sl (a := rp) (n := y.refs.length) (c := rc) (b1.cat 6 _ rfl) (ld_sl (a := rp') (n := y.refs.length) (c := rc') (b3.cat 6 _ rfl) (ids_spec (r1.keep' F4).cells (r2.keep' F4).cells (by omega) fun w34 f34 => ⟨_, rfl, bc_bool (fun _ => ?_) (fun h => by simp at h)⟩))
    have F34 := F4.tr f34
    refine ld_sl (a := sp) (n := y.result.length) (c := sc) ((b1.keep' f34).cat 10 _ rfl) (ld_sl (a := sp') (n := y.result.length) (c := sc') ((b3.keep' f34).cat 10 _ rfl) (ids_spec (s1.keep' F34).cells (s2.keep' F34).cells (by omega) fun w39 f39 => ⟨_, rfl, ?_⟩))
    have := hQ w39 (F34.tr f39)
    simpa using this
  · exfalso
    have : ((y.tn == y.tn) && ((y.ts == y.ts) && true)) = false := h
    simp at this
theorem numbers0_spec (hQ : ∀ w', Fr [] w w' → Q (.bool true) w') : CallR Tryz.prog 56 #[.slice none 0 0, .slice none 0 0] w Q := by
  apply X56.sound
  unfold X56.f
  refine bc_ne (fun h => absurd rfl h) (fun _ => ⟨1, ?_⟩)
  rw [X56.l0]
  exact bc_dec (fun h => by simp at h) (fun _ => hQ w (Fr.refl _))
/-- two messages alike, without a list -/
theorem same_spec (hl : m.list = []) (r1 : IdRow w rp rc m.refs) (r2 : IdRow w rp' rc' m.refs) (l1 : m.refs.length ≤ 8796093022208) (hQ : ∀ w', Fr [] w w' → Q (.bool true) w') :
    CallR Tryz.prog 20 #[msgV m rp rc none 0, msgV m rp' rc' none 0] w Q := by
  apply X20.sound
  unfold X20.f
  have hll : m.list.length = 0 := by rw [hl]; rfl
  refine newB fun g1 w2 b1 f2 _ => newB fun g3 w4 b3 f4 _ => ?_
  have b1 : Blk w4 g1 (m.cells rp rc none 0) 63 := b1.keep' f4
  have b3 : Blk w4 g3 (m.cells rp' rc' none 0) 63 := b3
  have F4 := f2.tr f4
  have ne : ∀ {a : Int} {A B : Prop}, B → bcase (a != a) A B := fun h => bc_ne (fun hh => absurd rfl hh) (fun _ => h)
  refine ld_int (b1.cat 0 _ rfl) (ld_int (b3.cat 0 _ rfl) (ne (ld_int (b1.cat 1 _ rfl) (ld_int (b3.cat 1 _ rfl) (ne (ld_int (b1.cat 2 _ rfl) (ld_int (b3.cat 2 _ rfl) (ne (ld_int (b1.cat 3 _ rfl) (ld_int (b3.cat 3 _ rfl) (ne ?_)))))))))))
  refine ld_int (b1.cat 4 _ rfl) (ld_int (b3.cat 4 _ rfl) (ne (ld_int (b1.cat 5 _ rfl) (ld_int (b3.cat 5 _ rfl) (ne (ld_int (b1.cat 6 _ rfl) (ld_int (b3.cat 6 _ rfl) (ne (ld_int (b1.cat 7 _ rfl) (ld_int (b3.cat 7 _ rfl) (ne ?_)))))))))))
  refine ld_int (b1.cat.sub 8 0 rfl) (ld_int (b1.cat.sub 8 1 rfl) (ld_int (b3.cat.sub 8 0 rfl) (ld_int (b3.cat.sub 8 1 rfl) ⟨isS37, bc_bool (fun h => ?_) (fun _ => ?_)⟩)))
  · exfalso
    have : (!((m.tn == m.tn) && ((m.ts == m.ts) && true))) = true := h
    simp at this
  refine ld_int (b1.cat 11 _ rfl) (ld_int (b3.cat 11 _ rfl) (ne (ld_int (b1.cat 12 _ rfl) (ld_int (b3.cat 12 _ rfl) (ne ?_)))))
  unfold X20.j0
  refine ld_int (b1.cat 13 _ rfl) (ld_int (b3.cat 13 _ rfl) (bc_eqt' rfl (ld_int (b1.cat 14 _ rfl) (ld_int (b3.cat 14 _ rfl) (bc_eqt' rfl (ld_int (b1.cat 15 _ rfl) (ld_int (b3.cat 15 _ rfl) (bc_eqt' rfl (ld_int (b1.cat 16 _ rfl) (ld_int (b3.cat 16 _ rfl) (bc_eqt' rfl ?_)))))))))))
  refine ld_int (b1.cat 17 _ rfl) (ld_int (b3.cat 17 _ rfl) (bc_eqt' rfl ?_))
  refine ld_sl (a := rp) (n := m.refs.length) (c := rc) (b1.cat 10 _ rfl) (ld_sl (a := rp') (n := m.refs.length) (c := rc') (b3.cat 10 _ rfl) (ids_spec (r1.keep' F4).cells (r2.keep' F4).cells (by omega) fun w34 f34 => ⟨_, rfl, bc_bool (fun _ => ?_) (fun h => by simp at h)⟩))
  have F34 := F4.tr f34
  refine ld_sl (a := none) (n := m.list.length) (c := 0) ((b1.keep' f34).cat 18 _ rfl) (ld_sl (a := none) (n := m.list.length) (c := 0) ((b3.keep' f34).cat 18 _ rfl) ?_)
  rw [hll]
  exact numbers0_spec fun w39 f39 => ⟨_, rfl, hQ w39 (F34.tr f39)⟩
end
end Go.Proofs.YtdgoalhnkegbmaaGreatX
namespace Go.Proofs.YtdgoalhnkegbmaaGreatX
open Go.RowKit
set_option linter.unusedVariables false
set_option linter.unusedSimpArgs false
set_option maxRecDepth 100000
/-- the world from which on the tables are new, but for those blocks of theirs that were there -/
structure Base where
  w : World
  D : List Nat
structure P2 (W : Base) (w : World) (g : Nat) (ft al : List Nat) (S : Cs) (h : Nat) (fr ar : List Nat) (R : Cs) : Prop where
  t : PC w g ft al S
  r : PR w h fr ar R
  sep : ∀ k ∈ al, k ∉ ar
  n1 : ∀ k ∈ al, k ∈ W.D ∨ W.w.heap.size ≤ k
  n2 : ∀ k ∈ ar, k ∈ W.D ∨ W.w.heap.size ≤ k
  F : Fr W.D W.w w
/-- what changes no more than the tables and what is new -/
structure T2 (w : World) (al ar : List Nat) (w' : World) (al' ar' : List Nat) : Prop where
  f : Fr (al ++ ar) w w'
  a : ∀ k ∈ al', k ∈ al ++ ar ∨ w.heap.size ≤ k
  r : ∀ k ∈ ar', k ∈ al ++ ar ∨ w.heap.size ≤ k
/-- beside both tables -/
def Out (W : Base) (al ar : List Nat) (k : Nat) : Prop := k ∉ al ∧ k ∉ ar ∧ W.w.heap.size ≤ k
structure SR (W : Base) (w : World) (al ar : List Nat) (p : Option Addr) (c : Nat) (l : List (Int × Int)) : Prop where
  r : IdRow w p c l
  o : ∀ k ∈ fbl p, Out W al ar k
structure OB (W : Base) (w : World) (al ar : List Nat) (x : Nat) (cs : List Value) (e : TypeId) : Prop where
  b : Blk w x cs e
  o : Out W al ar x
section
variable {W : Base} {w w' w2 : World} {Q : Value → World → Prop} {g h x : Nat} {ft al ft' al' fr ar fr' ar' al2 ar2 X : List Nat} {S S' R R' : Cs} {p : Option Addr} {c : Nat} {l : List (Int × Int)} {cs : List Value} {e : TypeId} {y : Cp} {z : Cl}
theorem T2.keep (f : Fr [] w w') : T2 w al ar w' al ar := ⟨f.any, fun _ h => .inl (List.mem_append.2 (.inl h)), fun _ h => .inl (List.mem_append.2 (.inr h))⟩
theorem T2.tr (t : T2 w al ar w' al' ar') (u : T2 w' al' ar' w2 al2 ar2) : T2 w al ar w2 al2 ar2 := by
  have z := t.f.size
  have both : ∀ k, k ∈ al' ++ ar' → k ∈ al ++ ar ∨ w.heap.size ≤ k := fun k hk => by
    rcases List.mem_append.1 hk with h | h
    · exact t.a k h
    · exact t.r k h
  refine ⟨t.f.trans u.f both, fun k hk => ?_, fun k hk => ?_⟩
  · rcases u.a k hk with h | h
    · exact both k h
    · exact .inr (by omega)
  · rcases u.r k hk with h | h
    · exact both k h
    · exact .inr (by omega)
theorem T2.off (hx : w.heap.size ≤ x) (f0 : Fr [] w w') (f : Fr [x] w' w2) : T2 w al ar w2 al ar := ⟨(f0.loc f hx).any, fun _ h => .inl (List.mem_append.2 (.inl h)), fun _ h => .inl (List.mem_append.2 (.inr h))⟩
theorem T2.out (t : T2 w al ar w' al' ar') (o : Out W al ar x) (hl : x < w.heap.size) : Out W al' ar' x := ⟨fun hm => by
  rcases t.a x hm with h | h
  · exact (List.mem_append.1 h).elim o.1 o.2.1
  · omega, fun hm => by
  rcases t.r x hm with h | h
  · exact (List.mem_append.1 h).elim o.1 o.2.1
  · omega, o.2.2⟩
theorem Out.non (o : Out W al ar x) : x ∉ al ++ ar := fun hm => (List.mem_append.1 hm).elim o.1 o.2.1
theorem T2.sr (t : T2 w al ar w' al' ar') (s : SR W w al ar p c l) : SR W w' al' ar' p c l := ⟨s.r.keep t.f (fun k hk => (s.o k hk).non), fun k hk => t.out (s.o k hk) (s.r.lt k hk)⟩
theorem T2.ob (t : T2 w al ar w' al' ar') (s : OB W w al ar x cs e) : OB W w' al' ar' x cs e := ⟨s.b.keep t.f s.o.non, t.out s.o s.b.lt⟩
theorem P2.keep' (p : P2 W w g ft al S h fr ar R) (f : Fr [] w w') : P2 W w' g ft al S h fr ar R := ⟨p.t.keep' f, p.r.keep' f, p.sep, p.n1, p.n2, p.F.tr f.any⟩
theorem P2.offL (p : P2 W w g ft al S h fr ar R) (hx : ∀ k ∈ X, Out W al ar k) (f : Fr X w w') : P2 W w' g ft al S h fr ar R :=
  ⟨p.t.keep f (fun k hk hm => (hx k hm).1 hk), p.r.keep f (fun k hk hm => (hx k hm).2.1 hk), p.sep, p.n1, p.n2, p.F.news f (fun k hk => (hx k hk).2.2)⟩
theorem P2.off (p : P2 W w g ft al S h fr ar R) (hx : Out W al ar x) (f : Fr [x] w w') : P2 W w' g ft al S h fr ar R := p.offL (fun k hk => by simp at hk; rw [hk]; exact hx) f
theorem P2.new (p : P2 W w g ft al S h fr ar R) (hx : w.heap.size ≤ x) : Out W al ar x := ⟨p.t.fresh hx, p.r.fresh hx, by have := p.F.size; omega⟩
theorem P2.nextT (p : P2 W w g ft al S h fr ar R) (t' : PC w' g ft' al' S') (f : Fr ft w w') (e : ∀ x ∈ al', x ∈ al ∨ w.heap.size ≤ x) : P2 W w' g ft' al' S' h fr ar R ∧ T2 w al ar w' al' ar := by
  have z := p.F.size
  refine ⟨⟨t', p.r.keep f (fun k hk hm => p.sep k (p.t.sub k hm) hk), fun k hk hm => ?_, fun k hk => ?_, p.n2, p.F.trans f (fun k hk => p.n1 k (p.t.sub k hk))⟩, f.mono (fun k hk => List.mem_append.2 (.inl (p.t.sub k hk))), fun k hk => (e k hk).imp (fun h => List.mem_append.2 (.inl h)) id, fun _ h => .inl (List.mem_append.2 (.inr h))⟩
  · rcases e k hk with h | h
    · exact p.sep k h hm
    · have := p.r.lt k hm; omega
  · rcases e k hk with h | h
    · exact p.n1 k h
    · exact .inr (by omega)
theorem P2.nextR (p : P2 W w g ft al S h fr ar R) (r' : PR w' h fr' ar' R') (f : Fr fr w w') (e : ∀ x ∈ ar', x ∈ ar ∨ w.heap.size ≤ x) : P2 W w' g ft al S h fr' ar' R' ∧ T2 w al ar w' al ar' := by
  have z := p.F.size
  refine ⟨⟨p.t.keep f (fun k hk hm => p.sep k hk (p.r.sub k hm)), r', fun k hk hm => ?_, p.n1, fun k hk => ?_, p.F.trans f (fun k hk => p.n2 k (p.r.sub k hk))⟩, f.mono (fun k hk => List.mem_append.2 (.inr (p.r.sub k hk))), fun _ h => .inl (List.mem_append.2 (.inl h)), fun k hk => (e k hk).imp (fun h => List.mem_append.2 (.inr h)) id⟩
  · rcases e k hm with h | h
    · exact p.sep k hk h
    · have := p.t.lt k hk; omega
  · rcases e k hk with h | h
    · exact p.n2 k h
    · exact .inr (by omega)
/-- rows that are new with the program's call -/
theorem P2.srT (q : P2 W w g ft al S h fr ar R) (r : IdRow w' p c l) (n : ∀ k ∈ fbl p, w.heap.size ≤ k ∧ k ∉ al') : SR W w' al' ar p c l := ⟨r, fun k hk => ⟨(n k hk).2, q.r.fresh (n k hk).1, by have := (n k hk).1; have := q.F.size; omega⟩⟩
theorem P2.srR (q : P2 W w g ft al S h fr ar R) (r : IdRow w' p c l) (n : ∀ k ∈ fbl p, w.heap.size ≤ k ∧ k ∉ ar') : SR W w' al ar' p c l := ⟨r, fun k hk => ⟨q.t.fresh (n k hk).1, (n k hk).2, by have := (n k hk).1; have := q.F.size; omega⟩⟩
theorem P2.srN (q : P2 W w g ft al S h fr ar R) (r : IdRow w' p c l) (n : ∀ k ∈ fbl p, w.heap.size ≤ k) : SR W w' al ar p c l := ⟨r, fun k hk => q.new (n k hk)⟩
theorem P2.cnT (q : P2 W w g ft al S h fr ar R) (n : CallN w w' al' z y) : ∃ rp rc sp sc, z = y.cl rp rc sp sc ∧ SR W w' al' ar rp rc y.refs ∧ SR W w' al' ar sp sc y.result := by
  obtain ⟨rp, rc, sp, sc, hz, r, s, n1, n2⟩ := n
  exact ⟨rp, rc, sp, sc, hz, q.srT r n1, q.srT s n2⟩
theorem P2.cnR (q : P2 W w g ft al S h fr ar R) (n : CallN w w' ar' z y) : ∃ rp rc sp sc, z = y.cl rp rc sp sc ∧ SR W w' al ar' rp rc y.refs ∧ SR W w' al ar' sp sc y.result := by
  obtain ⟨rp, rc, sp, sc, hz, r, s, n1, n2⟩ := n
  exact ⟨rp, rc, sp, sc, hz, q.srR r n1, q.srR s n2⟩
theorem SR.keep' (s : SR W w al ar p c l) (f : Fr [] w w') : SR W w' al ar p c l := ⟨s.r.keep' f, s.o⟩
theorem OB.keep' (s : OB W w al ar x cs e) (f : Fr [] w w') : OB W w' al ar x cs e := ⟨s.b.keep' f, s.o⟩
theorem P2.rebase (q : P2 W w g ft al S h fr ar R) : P2 ⟨w, al ++ ar⟩ w g ft al S h fr ar R := ⟨q.t, q.r, q.sep, fun k hk => .inl (List.mem_append.2 (.inl hk)), fun k hk => .inl (List.mem_append.2 (.inr hk)), Fr.refl _⟩
theorem P2.t2 (q : P2 ⟨w, al ++ ar⟩ w' g ft' al' S' h fr' ar' R') : T2 w al ar w' al' ar' := ⟨q.F, q.n1, q.n2⟩
theorem P2.unbase (q0 : P2 W w g ft al S h fr ar R) (q : P2 ⟨w, al ++ ar⟩ w' g ft' al' S' h fr' ar' R') : P2 W w' g ft' al' S' h fr' ar' R' := by
  have z := q0.F.size
  have both : ∀ k, k ∈ al ++ ar → k ∈ W.D ∨ W.w.heap.size ≤ k := fun k hk => by
    rcases List.mem_append.1 hk with h | h
    · exact q0.n1 k h
    · exact q0.n2 k h
  refine ⟨q.t, q.r, q.sep, fun k hk => ?_, fun k hk => ?_, q0.F.trans q.F both⟩
  · rcases q.n1 k hk with h | h
    · exact both k h
    · exact .inr (Nat.le_trans z h)
  · rcases q.n2 k hk with h | h
    · exact both k h
    · exact .inr (Nat.le_trans z h)
end
/-- a row of IDs is written over -/
theorem sr_put {W : Base} {w : World} {al ar : List Nat} {p : Option Addr} {c n i : Nat} {l : List (Int × Int)} {K : World → Prop} (s : SR W w al ar p c l) (hn : l.length = n) (hi : i < n) (v : Int × Int)
    (hK : ∀ w' l', SR W w' al ar p c l' → l'.length = n → Fr (fbl p) w w' → K w') : optP p fun a => stAll w (a.add (i * 2)) (idc v) K :=
  own_put (f := idc) (fun _ => rfl) s.r (by omega) rfl v fun w' o f => hK w' (l.set i v) ⟨by unfold IdRow; rw [List.length_set]; exact o, s.o⟩ (by simp [hn]) f
end Go.Proofs.YtdgoalhnkegbmaaGreatX
namespace Go.Proofs.YtdgoalhnkegbmaaGreatX
open Go.RowKit
set_option linter.unusedVariables false
set_option linter.unusedSimpArgs false
/-- no list of the calls is longer than B -/
def Szd (B : Nat) (S : Cs) : Prop := ∀ e ∈ S.l, e.2.refs.length ≤ B ∧ e.2.result.length ≤ B
structure PlayTo (S : Cs) (x : Sq) (S' : Cs) : Prop where
  i : SI S'
  c : S'.c = S.c
  node : S'.node = S.node
  lat : 3 ≤ x.what % 10 → S'.latest = S.latest
  sz : ∀ B, 2 ≤ B → x.refs.length ≤ B → Szd B S → Szd B S'
section
variable {S S' : Cs} {x : Sq} {B : Nat} {y : Cp} {k to num now e kind frm call code value op field tn ts : Int} {refs : List (Int × Int)} {r : Bool}
theorem szd_put (i : SI S) (h : Szd B S) (h1 : y.refs.length ≤ B) (h2 : y.result.length ≤ B) : Szd B (putC S y) := fun e he => by
  rcases putF_mem i.srt he with rfl | he
  · exact ⟨h1, h2⟩
  · exact h e he
theorem szd_drop (i : SI S) (h : Szd B S) : Szd B (dropC S k) := fun e he => h e ((mem_drp ilt_lin i.srt).1 he).2
theorem szd_get (i : SI S) (h : Szd B S) (hg : Go.Proofs.YtdgoalhnkegbmaaGreatX.get ilt S.l k = some y) : y.refs.length ≤ B ∧ y.result.length ≤ B := h _ ((get_iff ilt_lin i.srt).1 hg)
theorem szd_getC (i : SI S) (h : Szd B S) (hn : 0 ≤ num) (hg : Go.Proofs.YtdgoalhnkegbmaaGreatX.getC S to num = some y) : y.refs.length ≤ B ∧ y.result.length ≤ B := szd_get i h (i.getC hn hg).2.2.2
theorem szd_step (i : SI S) (h : Szd B S) : Szd B (stepC S now).1 := by
  unfold stepC
  cases ha : after ilt S.l S.last with
  | none => exact h
  | some kk =>
    simp only
    obtain ⟨y, hy⟩ := after_mem ha
    have hg := (get_iff ilt_lin i.srt).2 hy
    rw [hg]
    simp only [Option.getD_some]
    have hz := szd_get i h hg
    split
    · exact szd_put (S := { S with last := kk }) i.last h hz.1 hz.2
    · exact h
theorem szd_reply (i : SI S) (hn : 0 ≤ call) (hr : refs.length ≤ B) (h : Szd B S) : Szd B (replyC S kind to frm call code value refs).1 := by
  unfold replyC
  split
  · exact h
  · cases hg : Go.Proofs.YtdgoalhnkegbmaaGreatX.getC S frm call with
    | none => exact h
    | some y =>
      simp only
      have hz := szd_getC i h hn hg
      split
      · exact szd_put i h hz.1 hr
      · split
        · exact szd_drop i h
        · split <;> exact h
theorem szd_settle (i : SI S) (hn : 0 ≤ num) (h : Szd B S) : Szd B (settleC S to num e).1 := by
  unfold settleC
  cases hg : Go.Proofs.YtdgoalhnkegbmaaGreatX.getC S to num with
  | none => exact h
  | some y =>
    simp only
    have hz := szd_getC i h hn hg
    split
    · exact h
    · refine szd_put i h ?_ ?_
      · split <;> exact hz.1
      · split
        · simp
        · exact hz.2
theorem szd_await (i : SI S) (hn : 0 ≤ num) (h : Szd B S) : Szd B (awaitC S to num now).1 := by
  unfold awaitC
  cases hg : Go.Proofs.YtdgoalhnkegbmaaGreatX.getC S to num with
  | none => exact h
  | some y =>
    simp only
    have hz := szd_getC i h hn hg
    split
    · exact h
    · split
      · exact szd_drop i h
      · split
        · exact h
        · split
          · exact szd_drop i h
          · exact szd_put i h hz.1 hz.2
theorem szd_begin (i : SI S) (hr : refs.length ≤ B) (h : Szd B S) : Szd B (beginS S r to op field tn ts value refs now).1 := by
  unfold beginS
  split
  · exact h
  · split
    · exact h
    · split
      · exact h
      · intro e he
        have he : e ∈ (putF S.c.calls S.l _ _) := he
        rcases putF_mem i.srt he with rfl | he
        · exact ⟨hr, by simp⟩
        · exact h e he
theorem same_step : (stepC S now).1.c = S.c ∧ (stepC S now).1.node = S.node ∧ (stepC S now).1.latest = S.latest := by
  unfold stepC
  cases after ilt S.l S.last with
  | none => exact ⟨rfl, rfl, rfl⟩
  | some kk => simp only; split <;> exact ⟨rfl, rfl, rfl⟩
theorem same_reply : (replyC S kind to frm call code value refs).1.c = S.c ∧ (replyC S kind to frm call code value refs).1.node = S.node ∧ (replyC S kind to frm call code value refs).1.latest = S.latest := by
  unfold replyC
  split
  · exact ⟨rfl, rfl, rfl⟩
  · cases Go.Proofs.YtdgoalhnkegbmaaGreatX.getC S frm call with
    | none => exact ⟨rfl, rfl, rfl⟩
    | some y => simp only; split; · exact ⟨rfl, rfl, rfl⟩
                split; · exact ⟨rfl, rfl, rfl⟩
                split <;> exact ⟨rfl, rfl, rfl⟩
theorem same_settle : (settleC S to num e).1.c = S.c ∧ (settleC S to num e).1.node = S.node ∧ (settleC S to num e).1.latest = S.latest := by
  unfold settleC
  cases Go.Proofs.YtdgoalhnkegbmaaGreatX.getC S to num with
  | none => exact ⟨rfl, rfl, rfl⟩
  | some y => simp only; split <;> exact ⟨rfl, rfl, rfl⟩
theorem same_await : (awaitC S to num now).1.c = S.c ∧ (awaitC S to num now).1.node = S.node ∧ (awaitC S to num now).1.latest = S.latest := by
  unfold awaitC
  cases Go.Proofs.YtdgoalhnkegbmaaGreatX.getC S to num with
  | none => exact ⟨rfl, rfl, rfl⟩
  | some y =>
    simp only
    split; · exact ⟨rfl, rfl, rfl⟩
    split; · exact ⟨rfl, rfl, rfl⟩
    split; · exact ⟨rfl, rfl, rfl⟩
    split <;> exact ⟨rfl, rfl, rfl⟩
theorem same_begin : (beginS S r to op field tn ts value refs now).1.c = S.c ∧ (beginS S r to op field tn ts value refs now).1.node = S.node := by
  unfold beginS
  split; · exact ⟨rfl, rfl⟩
  split; · exact ⟨rfl, rfl⟩
  split <;> exact ⟨rfl, rfl⟩
theorem to_step (i : SI S) : PlayTo S x (stepC S now).1 := ⟨i.step, same_step.1, same_step.2.1, fun _ => same_step.2.2, fun B _ _ h => szd_step i h⟩
theorem to_reply (i : SI S) (hn : 0 ≤ call) : PlayTo S x (replyC S kind to frm call code value x.refs).1 := ⟨i.reply hn, same_reply.1, same_reply.2.1, fun _ => same_reply.2.2, fun B _ hr h => szd_reply i hn hr h⟩
theorem to_settle (i : SI S) (hn : 0 ≤ num) : PlayTo S x (settleC S to num e).1 := ⟨i.settle hn, same_settle.1, same_settle.2.1, fun _ => same_settle.2.2, fun B _ _ h => szd_settle i hn h⟩
theorem to_await (i : SI S) (hn : 0 ≤ num) : PlayTo S x (awaitC S to num now).1 := ⟨i.await hn, same_await.1, same_await.2.1, fun _ => same_await.2.2, fun B _ _ h => szd_await i hn h⟩
theorem to_begin (i : SI S) (hw : ¬ 3 ≤ x.what % 10) (hr : r = true → 1 ≤ to ∧ to ≠ S.node) (hl : refs.length ≤ 2 ∨ refs = x.refs) : PlayTo S x (beginS S r to op field tn ts value refs now).1 :=
  ⟨i.begin hr, same_begin.1, same_begin.2, fun h => absurd h hw, fun B h2 hx h => szd_begin i (hl.elim (fun h' => Nat.le_trans h' h2) (fun h' => by rw [h']; exact hx)) h⟩
end
end Go.Proofs.YtdgoalhnkegbmaaGreatX
namespace Go.Proofs.YtdgoalhnkegbmaaGreatX
open Go.RowKit
set_option linter.unusedVariables false
set_option maxRecDepth 100000
/-! ### mooring/mooringlaw20.play: function 8 -/
def X8.l1 (Q : Value → World → Prop) : Nat → (Option Addr) → Nat → Nat → Bool → Int → World → Prop
  | 0, _, _, _, _, _, _ => False
  | k + 1, t20p, t20n, t20c, t24, t26, w => bcase (decide (t26 < ((t20n : Nat) : Int))) ((0 ≤ t26 ∧ t26 < ((t20n : Nat) : Int)) ∧ optP t20p fun p1 => stAll w (p1.add (Int.toNat t26 * 2)) [.int .i64 (8 : Int), .int .u64 (8 : Int)] fun w2 => X8.l1 Q k t20p t20n t20c t24 (IntKind.wrap .i64 (t26 + (1 : Int))) w2) (Q (.bool t24) w)
def X8.l0 (Q : Value → World → Prop) : Nat → Addr → (Option Addr) → Nat → Nat → Bool → Int → World → Prop
  | 0, _, _, _, _, _, _, _ => False
  | k + 1, t19, t20p, t20n, t20c, t24, t25, w => ldSl w (t19.add 10) fun x1p x1n x1c => bcase (decide (t25 < ((x1n : Nat) : Int))) (ldSl w (t19.add 10) fun x2p x2n x2c => (0 ≤ t25 ∧ t25 < ((x2n : Nat) : Int)) ∧ optP x2p fun p3 => stAll w (p3.add (Int.toNat t25 * 2)) [.int .i64 (9 : Int), .int .u64 (9 : Int)] fun w4 => X8.l0 Q k t19 t20p t20n t20c t24 (IntKind.wrap .i64 (t25 + (1 : Int))) w4) (∃ m5, X8.l1 Q m5 t20p t20n t20c t24 (0 : Int) w)
def X8.l2 (Q : Value → World → Prop) : Nat → (Option Addr) → Nat → Nat → Bool → Int → World → Prop
  | 0, _, _, _, _, _, _ => False
  | k + 1, t38p, t38n, t38c, t43, t44, w => bcase (decide (t44 < ((t38n : Nat) : Int))) ((0 ≤ t44 ∧ t44 < ((t38n : Nat) : Int)) ∧ optP t38p fun p1 => stAll w (p1.add (Int.toNat t44 * 2)) [.int .i64 (7 : Int), .int .u64 (7 : Int)] fun w2 => X8.l2 Q k t38p t38n t38c t43 (IntKind.wrap .i64 (t44 + (1 : Int))) w2) (Q (.bool t43) w)
def X8.j4 (Q : Value → World → Prop) (t19 : Addr) (t20p : Option Addr) (t20n : Nat) (t20c : Nat) (t24 : Bool) (w : World) : Prop := ∃ m1, X8.l0 Q m1 t19 t20p t20n t20c t24 (0 : Int) w
def X8.j5 (Q : Value → World → Prop) (t0 : Option Addr) (t1 : Option Addr) (t18 : Addr) (w : World) : Prop := ldI .i64 w (t18.add 0) fun x1 => ldI .i64 w (t18.add 1) fun x2 => ldI .i64 w (t18.add 2) fun x3 => ldI .u64 w (t18.add 3) fun x4 => ldI .u64 w (t18.add 4) fun x5 => ldI .i64 w (t18.add 5) fun x6 => ldI .i64 w (t18.add 6) fun x7 => ldI .i64 w (t18.add 7) fun x8 => ldI .i64 w (t18.add 8) fun x9 => ldI .u64 w (t18.add 9) fun x10 => ldSl w (t18.add 10) fun x11p x11n x11c => ldI .u64 w (t18.add 11) fun x12 => ldI .i64 w (t18.add 12) fun x13 => ldI .u64 w (t18.add 13) fun x14 => ldI .i64 w (t18.add 14) fun x15 => ldI .u64 w (t18.add 15) fun x16 => ldI .i64 w (t18.add 16) fun x17 => ldI .u64 w (t18.add 17) fun x18 => ldSl w (t18.add 18) fun x19p x19n x19c => newK w #[.int .i64 (0 : Int), .int .i64 (0 : Int), .int .i64 (0 : Int), .int .u64 (0 : Int), .int .u64 (0 : Int), .int .i64 (0 : Int), .int .i64 (0 : Int), .int .i64 (0 : Int), .int .i64 (0 : Int), .int .u64 (0 : Int), .slice none 0 0, .int .u64 (0 : Int), .int .i64 (0 : Int), .int .u64 (0 : Int), .int .i64 (0 : Int), .int .u64 (0 : Int), .int .i64 (0 : Int), .int .u64 (0 : Int), .slice none 0 0] 63 fun g20 w21 => stAll w21 g20 [.int .i64 x1, .int .i64 x2, .int .i64 x3, .int .u64 x4, .int .u64 x5, .int .i64 x6, .int .i64 x7, .int .i64 x8, .int .i64 x9, .int .u64 x10, .slice x11p x11n x11c, .int .u64 x12, .int .i64 x13, .int .u64 x14, .int .i64 x15, .int .u64 x16, .int .i64 x17, .int .u64 x18, .slice x19p x19n x19c] fun w22 => newK w22 #[] 37 fun g23 w24 => ldSl w24 (t18.add 10) fun x25p x25n x25c => RunR Tryz.prog (Builtin.append_ #[38, 38] 38 #[.slice (some g23) 0 0, .slice x25p x25n x25c]) w24 fun v26 w27 => ∃ (s28p : Option Addr) (s28n s28c : Nat), v26 = .slice s28p s28n s28c ∧ stK w27 (g20.add 10) (.slice s28p s28n s28c) fun w29 => ldI .i64 w29 (g20.add 0) fun x30 => ldI .i64 w29 (g20.add 1) fun x31 => ldI .i64 w29 (g20.add 2) fun x32 => ldI .u64 w29 (g20.add 3) fun x33 => ldI .u64 w29 (g20.add 4) fun x34 => ldI .i64 w29 (g20.add 5) fun x35 => ldI .i64 w29 (g20.add 6) fun x36 => ldI .i64 w29 (g20.add 7) fun x37 => ldI .i64 w29 (g20.add 8) fun x38 => ldI .u64 w29 (g20.add 9) fun x39 => ldSl w29 (g20.add 10) fun x40p x40n x40c => ldI .u64 w29 (g20.add 11) fun x41 => ldI .i64 w29 (g20.add 12) fun x42 => ldI .u64 w29 (g20.add 13) fun x43 => ldI .i64 w29 (g20.add 14) fun x44 => ldI .u64 w29 (g20.add 15) fun x45 => ldI .i64 w29 (g20.add 16) fun x46 => ldI .u64 w29 (g20.add 17) fun x47 => ldSl w29 (g20.add 18) fun x48p x48n x48c => CallR Tryz.prog 15 #[.pointer t0, .agg #[.int .i64 x30, .int .i64 x31, .int .i64 x32, .int .u64 x33, .int .u64 x34, .int .i64 x35, .int .i64 x36, .int .i64 x37, .int .i64 x38, .int .u64 x39, .slice x40p x40n x40c, .int .u64 x41, .int .i64 x42, .int .u64 x43, .int .i64 x44, .int .u64 x45, .int .i64 x46, .int .u64 x47, .slice x48p x48n x48c]] w29 fun v49 w50 => ∃ (y51p : Option Addr) (y51n y51c : Nat) (y52 : Bool), v49 = .tuple #[.slice y51p y51n y51c, .bool y52] ∧ ldI .i64 w50 (t18.add 0) fun x53 => ldI .i64 w50 (t18.add 1) fun x54 => ldI .i64 w50 (t18.add 2) fun x55 => ldI .u64 w50 (t18.add 3) fun x56 => ldI .u64 w50 (t18.add 4) fun x57 => ldI .i64 w50 (t18.add 5) fun x58 => ldI .i64 w50 (t18.add 6) fun x59 => ldI .i64 w50 (t18.add 7) fun x60 => ldI .i64 w50 (t18.add 8) fun x61 => ldI .u64 w50 (t18.add 9) fun x62 => ldSl w50 (t18.add 10) fun x63p x63n x63c => ldI .u64 w50 (t18.add 11) fun x64 => ldI .i64 w50 (t18.add 12) fun x65 => ldI .u64 w50 (t18.add 13) fun x66 => ldI .i64 w50 (t18.add 14) fun x67 => ldI .u64 w50 (t18.add 15) fun x68 => ldI .i64 w50 (t18.add 16) fun x69 => ldI .u64 w50 (t18.add 17) fun x70 => ldSl w50 (t18.add 18) fun x71p x71n x71c => CallR Tryz.prog 21 #[.pointer t1, .agg #[.int .i64 x53, .int .i64 x54, .int .i64 x55, .int .u64 x56, .int .u64 x57, .int .i64 x58, .int .i64 x59, .int .i64 x60, .int .i64 x61, .int .u64 x62, .slice x63p x63n x63c, .int .u64 x64, .int .i64 x65, .int .u64 x66, .int .i64 x67, .int .u64 x68, .int .i64 x69, .int .u64 x70, .slice x71p x71n x71c]] w50 fun v72 w73 => ∃ (y74p : Option Addr) (y74n y74c : Nat) (y75 : Bool), v72 = .tuple #[.slice y74p y74n y74c, .bool y75] ∧ bcase (y52 == y75) (CallR Tryz.prog 22 #[.slice y51p y51n y51c, .slice y74p y74n y74c] w73 fun v76 w77 => ∃ (y78 : Bool), v76 = .bool y78 ∧ X8.j4 Q g20 y51p y51n y51c y78 w77) (X8.j4 Q g20 y51p y51n y51c false w73)
def X8.j6 (Q : Value → World → Prop) (t0 : Option Addr) (t1 : Option Addr) (t6 : Addr) (t18 : Addr) (w : World) : Prop := ldI .i64 w (t6.add 3) fun x1 => (9 : Int) ≠ 0 ∧ bcase ((Int.tmod x1 (9 : Int)) == (0 : Int)) (ldI .i64 w (t6.add 2) fun x2 => stK w (t18.add 2) (.int .i64 x2) fun w3 => X8.j5 Q t0 t1 t18 w3) (X8.j5 Q t0 t1 t18 w)
def X8.j10 (Q : Value → World → Prop) (t38p : Option Addr) (t38n : Nat) (t38c : Nat) (t43 : Bool) (w : World) : Prop := ∃ m1, X8.l2 Q m1 t38p t38n t38c t43 (0 : Int) w
def X8.j11 (Q : Value → World → Prop) (t0 : Option Addr) (t1 : Option Addr) (t3 : Int) (t6 : Addr) (t9 : Int) (t34 : Int) (t35 : Int) (t36 : Addr) (t37p : Option Addr) (t37n : Nat) (t37c : Nat) (w : World) : Prop := newK w #[] 37 fun g1 w2 => RunR Tryz.prog (Builtin.append_ #[38, 38] 38 #[.slice (some g1) 0 0, .slice t37p t37n t37c]) w2 fun v3 w4 => ∃ (s5p : Option Addr) (s5n s5c : Nat), v3 = .slice s5p s5n s5c ∧ ldI .i64 w4 (t36.add 0) fun x6 => ldI .u64 w4 (t36.add 1) fun x7 => ldI .u64 w4 (t6.add 5) fun x8 => CallR Tryz.prog 13 #[.pointer t0, .int .i64 t9, .int .i64 t34, .int .i64 t35, .agg #[.int .i64 x6, .int .u64 x7], .int .u64 x8, .slice s5p s5n s5c, .int .u64 t3] w4 fun v9 w10 => ∃ (y11 : Int) (y12 : Int), v9 = .tuple #[.int .u64 y11, .int .i64 y12] ∧ ldI .i64 w10 (t36.add 0) fun x13 => ldI .u64 w10 (t36.add 1) fun x14 => ldI .u64 w10 (t6.add 5) fun x15 => CallR Tryz.prog 26 #[.pointer t1, .int .i64 t9, .int .i64 t34, .int .i64 t35, .agg #[.int .i64 x13, .int .u64 x14], .int .u64 x15, .slice t37p t37n t37c, .int .u64 t3] w10 fun v16 w17 => ∃ (y18 : Int) (y19 : Int), v16 = .tuple #[.int .u64 y18, .int .i64 y19] ∧ bcase (y11 == y18) (bcase (y12 == y19) (CallR Tryz.prog 22 #[.slice s5p s5n s5c, .slice t37p t37n t37c] w17 fun v20 w21 => ∃ (y22 : Bool), v20 = .bool y22 ∧ X8.j10 Q s5p s5n s5c y22 w21) (X8.j10 Q s5p s5n s5c false w17)) (X8.j10 Q s5p s5n s5c false w17)
def X8.j7 (Q : Value → World → Prop) (t0 : Option Addr) (t1 : Option Addr) (t3 : Int) (t6 : Addr) (t9 : Int) (t10 : Int) (t233 : Bool) (w : World) : Prop := bcase t233 (CallR Tryz.prog 17 #[.pointer t0, .int .i64 t9, .int .u64 t10, .int .u64 t3] w fun v1 w2 => ∃ (y3 : Int) (y4 : Int) (y5 : Int) (y6 : Int) (y7 : Int) (y8 : Int) (y9p : Option Addr) (y9n y9c : Nat) (y10 : Int) (y11 : Int) (y12 : Int) (y13p : Option Addr) (y13n y13c : Nat) (y14 : Int) (y15 : Int) (y16 : Int) (y17 : Int) (y18 : Bool) (y19 : Int), v1 = .tuple #[.agg #[.int .i64 y3, .int .u64 y4, .int .i64 y5, .int .i64 y6, .int .i64 y7, .int .u64 y8, .slice y9p y9n y9c, .int .u64 y10, .int .i64 y11, .int .i64 y12, .slice y13p y13n y13c, .int .u64 y14, .int .u64 y15, .int .u64 y16, .int .u64 y17], .bool y18, .int .i64 y19] ∧ newK w2 #[.int .i64 (0 : Int), .int .u64 (0 : Int), .int .i64 (0 : Int), .int .i64 (0 : Int), .int .i64 (0 : Int), .int .u64 (0 : Int), .slice none 0 0, .int .u64 (0 : Int), .int .i64 (0 : Int), .int .i64 (0 : Int), .slice none 0 0, .int .u64 (0 : Int), .int .u64 (0 : Int), .int .u64 (0 : Int), .int .u64 (0 : Int)] 50 fun g20 w21 => stAll w21 g20 [.int .i64 y3, .int .u64 y4, .int .i64 y5, .int .i64 y6, .int .i64 y7, .int .u64 y8, .slice y9p y9n y9c, .int .u64 y10, .int .i64 y11, .int .i64 y12, .slice y13p y13n y13c, .int .u64 y14, .int .u64 y15, .int .u64 y16, .int .u64 y17] fun w22 => CallR Tryz.prog 24 #[.pointer t1, .int .i64 t9, .int .u64 t10, .int .u64 t3] w22 fun v23 w24 => ∃ (y25 : Int) (y26 : Int) (y27 : Int) (y28 : Int) (y29 : Int) (y30 : Int) (y31p : Option Addr) (y31n y31c : Nat) (y32 : Int) (y33 : Int) (y34 : Int) (y35p : Option Addr) (y35n y35c : Nat) (y36 : Int) (y37 : Int) (y38 : Int) (y39 : Int) (y40 : Bool) (y41 : Int), v23 = .tuple #[.agg #[.int .i64 y25, .int .u64 y26, .int .i64 y27, .int .i64 y28, .int .i64 y29, .int .u64 y30, .slice y31p y31n y31c, .int .u64 y32, .int .i64 y33, .int .i64 y34, .slice y35p y35n y35c, .int .u64 y36, .int .u64 y37, .int .u64 y38, .int .u64 y39], .bool y40, .int .i64 y41] ∧ newK w24 #[.int .i64 (0 : Int), .int .u64 (0 : Int), .int .i64 (0 : Int), .int .i64 (0 : Int), .int .i64 (0 : Int), .int .u64 (0 : Int), .slice none 0 0, .int .u64 (0 : Int), .int .i64 (0 : Int), .int .i64 (0 : Int), .slice none 0 0, .int .u64 (0 : Int), .int .u64 (0 : Int), .int .u64 (0 : Int), .int .u64 (0 : Int)] 50 fun g42 w43 => stAll w43 g42 [.int .i64 y25, .int .u64 y26, .int .i64 y27, .int .i64 y28, .int .i64 y29, .int .u64 y30, .slice y31p y31n y31c, .int .u64 y32, .int .i64 y33, .int .i64 y34, .slice y35p y35n y35c, .int .u64 y36, .int .u64 y37, .int .u64 y38, .int .u64 y39] fun w44 => bcase (y18 == y40) (bcase (y19 == y41) (ldI .i64 w44 (g20.add 0) fun x45 => ldI .u64 w44 (g20.add 1) fun x46 => ldI .i64 w44 (g20.add 2) fun x47 => ldI .i64 w44 (g20.add 3) fun x48 => ldI .i64 w44 (g20.add 4) fun x49 => ldI .u64 w44 (g20.add 5) fun x50 => ldSl w44 (g20.add 6) fun x51p x51n x51c => ldI .u64 w44 (g20.add 7) fun x52 => ldI .i64 w44 (g20.add 8) fun x53 => ldI .i64 w44 (g20.add 9) fun x54 => ldSl w44 (g20.add 10) fun x55p x55n x55c => ldI .u64 w44 (g20.add 11) fun x56 => ldI .u64 w44 (g20.add 12) fun x57 => ldI .u64 w44 (g20.add 13) fun x58 => ldI .u64 w44 (g20.add 14) fun x59 => ldI .i64 w44 (g42.add 0) fun x60 => ldI .u64 w44 (g42.add 1) fun x61 => ldI .i64 w44 (g42.add 2) fun x62 => ldI .i64 w44 (g42.add 3) fun x63 => ldI .i64 w44 (g42.add 4) fun x64 => ldI .u64 w44 (g42.add 5) fun x65 => ldSl w44 (g42.add 6) fun x66p x66n x66c => ldI .u64 w44 (g42.add 7) fun x67 => ldI .i64 w44 (g42.add 8) fun x68 => ldI .i64 w44 (g42.add 9) fun x69 => ldSl w44 (g42.add 10) fun x70p x70n x70c => ldI .u64 w44 (g42.add 11) fun x71 => ldI .u64 w44 (g42.add 12) fun x72 => ldI .u64 w44 (g42.add 13) fun x73 => ldI .u64 w44 (g42.add 14) fun x74 => CallR Tryz.prog 19 #[.agg #[.int .i64 x45, .int .u64 x46, .int .i64 x47, .int .i64 x48, .int .i64 x49, .int .u64 x50, .slice x51p x51n x51c, .int .u64 x52, .int .i64 x53, .int .i64 x54, .slice x55p x55n x55c, .int .u64 x56, .int .u64 x57, .int .u64 x58, .int .u64 x59], .agg #[.int .i64 x60, .int .u64 x61, .int .i64 x62, .int .i64 x63, .int .i64 x64, .int .u64 x65, .slice x66p x66n x66c, .int .u64 x67, .int .i64 x68, .int .i64 x69, .slice x70p x70n x70c, .int .u64 x71, .int .u64 x72, .int .u64 x73, .int .u64 x74]] w44 fun v75 w76 => ∃ (y77 : Bool), v75 = .bool y77 ∧ Q (.bool y77) w76) (Q (.bool false) w44)) (Q (.bool false) w44)) (drewK w fun w78 => (optP t1 fun p79 => ldI .i64 w78 ((p79.add 0).add 0) fun x80 => ldI .i64 w78 ((p79.add 0).add 1) fun x81 => ldI .i64 w78 ((p79.add 0).add 2) fun x82 => ldI .i64 w78 ((p79.add 0).add 3) fun x83 => ldI .i64 w78 ((p79.add 0).add 4) fun x84 => ldI .i64 w78 ((p79.add 0).add 5) fun x85 => ldI .i64 w78 ((p79.add 0).add 6) fun x86 => ldI .i64 w78 ((p79.add 0).add 7) fun x87 => ldI .i64 w78 ((p79.add 0).add 8) fun x88 => ldI .i64 w78 ((p79.add 0).add 9) fun x89 => ldI .i64 w78 ((p79.add 0).add 10) fun x90 => ldI .u64 w78 ((p79.add 0).add 11) fun x91 => ldI .u64 w78 ((p79.add 0).add 12) fun x92 => ldI .u64 w78 ((p79.add 0).add 13) fun x93 => ldI .u64 w78 ((p79.add 0).add 14) fun x94 => ldI .u64 w78 ((p79.add 0).add 15) fun x95 => ldI .u64 w78 ((p79.add 0).add 16) fun x96 => ldI .i64 w78 ((p79.add 0).add 17) fun x97 => ldI .i64 w78 ((p79.add 0).add 18) fun x98 => ldI .i64 w78 ((p79.add 0).add 19) fun x99 => ldI .u64 w78 ((p79.add 0).add 20) fun x100 => ldI .u64 w78 ((p79.add 0).add 21) fun x101 => ldI .i64 w78 (t6.add 0) fun x102 => ldI .i64 w78 (t6.add 1) fun x103 => ldI .i64 w78 (t6.add 2) fun x104 => ldI .i64 w78 (t6.add 3) fun x105 => ldI .u64 w78 (t6.add 4) fun x106 => ldI .u64 w78 (t6.add 5) fun x107 => ldI .i64 w78 (t6.add 6) fun x108 => ldI .u64 w78 (t6.add 7) fun x109 => ldSl w78 (t6.add 8) fun x110p x110n x110c => ldB w78 (t6.add 9) fun x111 => CallR Tryz.prog 25 #[.agg #[.int .i64 x80, .int .i64 x81, .int .i64 x82, .int .i64 x83, .int .i64 x84, .int .i64 x85, .int .i64 x86, .int .i64 x87, .int .i64 x88, .int .i64 x89, .int .i64 x90, .int .u64 x91, .int .u64 x92, .int .u64 x93, .int .u64 x94, .int .u64 x95, .int .u64 x96, .int .i64 x97, .int .i64 x98, .int .i64 x99, .int .u64 x100, .int .u64 x101], .agg #[.int .i64 x102, .int .i64 x103, .int .i64 x104, .int .i64 x105, .int .u64 x106, .int .u64 x107, .int .i64 x108, .int .u64 x109, .slice x110p x110n x110c, .bool x111]] w78 fun v112 w113 => ∃ (y114 : Int) (y115 : Int) (y116 : Int) (y117 : Int) (y118 : Int) (y119p : Option Addr) (y119n y119c : Nat), v112 = .tuple #[.int .i64 y114, .int .i64 y115, .int .i64 y116, .agg #[.int .i64 y117, .int .u64 y118], .slice y119p y119n y119c] ∧ newK w113 #[.int .i64 (0 : Int), .int .u64 (0 : Int)] 37 fun g120 w121 => ((∀ j u, ([.int .i64 x102, .int .i64 x103, .int .i64 x104, .int .i64 x105, .int .u64 x106, .int .u64 x107, .int .i64 x108, .int .u64 x109, .slice x110p x110n x110c, .bool x111] : List Value)[j]? = some u → World.cell? w113 (t6.add j) = some u) ∧ (∀ j u, ([.int .i64 x102, .int .i64 x103, .int .i64 x104, .int .i64 x105, .int .u64 x106, .int .u64 x107, .int .i64 x108, .int .u64 x109, .slice x110p x110n x110c, .bool x111] : List Value)[j]? = some u → World.cell? w121 (t6.add j) = some u)) ∧ ((∀ j u, ([.int .i64 x80, .int .i64 x81, .int .i64 x82, .int .i64 x83, .int .i64 x84, .int .i64 x85, .int .i64 x86, .int .i64 x87, .int .i64 x88, .int .i64 x89, .int .i64 x90, .int .u64 x91, .int .u64 x92, .int .u64 x93, .int .u64 x94, .int .u64 x95, .int .u64 x96, .int .i64 x97, .int .i64 x98, .int .i64 x99, .int .u64 x100, .int .u64 x101] : List Value)[j]? = some u → World.cell? w113 ((p79.add 0).add j) = some u) ∧ (∀ j u, ([.int .i64 x80, .int .i64 x81, .int .i64 x82, .int .i64 x83, .int .i64 x84, .int .i64 x85, .int .i64 x86, .int .i64 x87, .int .i64 x88, .int .i64 x89, .int .i64 x90, .int .u64 x91, .int .u64 x92, .int .u64 x93, .int .u64 x94, .int .u64 x95, .int .u64 x96, .int .i64 x97, .int .i64 x98, .int .i64 x99, .int .u64 x100, .int .u64 x101] : List Value)[j]? = some u → World.cell? w121 ((p79.add 0).add j) = some u)) ∧ stAll w121 g120 [.int .i64 y117, .int .u64 y118] fun w122 => X8.j11 Q t0 t1 t3 t6 y114 y115 y116 g120 y119p y119n y119c w122) ∧ (optP t1 fun p123 => ldI .i64 w78 ((p123.add 0).add 0) fun x124 => ldI .i64 w78 ((p123.add 0).add 1) fun x125 => ldI .i64 w78 ((p123.add 0).add 2) fun x126 => ldI .i64 w78 ((p123.add 0).add 3) fun x127 => ldI .i64 w78 ((p123.add 0).add 4) fun x128 => ldI .i64 w78 ((p123.add 0).add 5) fun x129 => ldI .i64 w78 ((p123.add 0).add 6) fun x130 => ldI .i64 w78 ((p123.add 0).add 7) fun x131 => ldI .i64 w78 ((p123.add 0).add 8) fun x132 => ldI .i64 w78 ((p123.add 0).add 9) fun x133 => ldI .i64 w78 ((p123.add 0).add 10) fun x134 => ldI .u64 w78 ((p123.add 0).add 11) fun x135 => ldI .u64 w78 ((p123.add 0).add 12) fun x136 => ldI .u64 w78 ((p123.add 0).add 13) fun x137 => ldI .u64 w78 ((p123.add 0).add 14) fun x138 => ldI .u64 w78 ((p123.add 0).add 15) fun x139 => ldI .u64 w78 ((p123.add 0).add 16) fun x140 => ldI .i64 w78 ((p123.add 0).add 17) fun x141 => ldI .i64 w78 ((p123.add 0).add 18) fun x142 => ldI .i64 w78 ((p123.add 0).add 19) fun x143 => ldI .u64 w78 ((p123.add 0).add 20) fun x144 => ldI .u64 w78 ((p123.add 0).add 21) fun x145 => ldI .i64 w78 (t6.add 0) fun x146 => ldI .i64 w78 (t6.add 1) fun x147 => ldI .i64 w78 (t6.add 2) fun x148 => ldI .i64 w78 (t6.add 3) fun x149 => ldI .u64 w78 (t6.add 4) fun x150 => ldI .u64 w78 (t6.add 5) fun x151 => ldI .i64 w78 (t6.add 6) fun x152 => ldI .u64 w78 (t6.add 7) fun x153 => ldSl w78 (t6.add 8) fun x154p x154n x154c => ldB w78 (t6.add 9) fun x155 => newK w78 #[.int .i64 (0 : Int), .int .u64 (0 : Int)] 37 fun g156 w157 => ((∀ j u, ([.int .i64 x146, .int .i64 x147, .int .i64 x148, .int .i64 x149, .int .u64 x150, .int .u64 x151, .int .i64 x152, .int .u64 x153, .slice x154p x154n x154c, .bool x155] : List Value)[j]? = some u → World.cell? w78 (t6.add j) = some u) ∧ (∀ j u, ([.int .i64 x146, .int .i64 x147, .int .i64 x148, .int .i64 x149, .int .u64 x150, .int .u64 x151, .int .i64 x152, .int .u64 x153, .slice x154p x154n x154c, .bool x155] : List Value)[j]? = some u → World.cell? w157 (t6.add j) = some u)) ∧ ((∀ j u, ([.int .i64 x124, .int .i64 x125, .int .i64 x126, .int .i64 x127, .int .i64 x128, .int .i64 x129, .int .i64 x130, .int .i64 x131, .int .i64 x132, .int .i64 x133, .int .i64 x134, .int .u64 x135, .int .u64 x136, .int .u64 x137, .int .u64 x138, .int .u64 x139, .int .u64 x140, .int .i64 x141, .int .i64 x142, .int .i64 x143, .int .u64 x144, .int .u64 x145] : List Value)[j]? = some u → World.cell? w78 ((p123.add 0).add j) = some u) ∧ (∀ j u, ([.int .i64 x124, .int .i64 x125, .int .i64 x126, .int .i64 x127, .int .i64 x128, .int .i64 x129, .int .i64 x130, .int .i64 x131, .int .i64 x132, .int .i64 x133, .int .i64 x134, .int .u64 x135, .int .u64 x136, .int .u64 x137, .int .u64 x138, .int .u64 x139, .int .u64 x140, .int .i64 x141, .int .i64 x142, .int .i64 x143, .int .u64 x144, .int .u64 x145] : List Value)[j]? = some u → World.cell? w157 ((p123.add 0).add j) = some u)) ∧ CallR Tryz.prog 25 #[.agg #[.int .i64 x124, .int .i64 x125, .int .i64 x126, .int .i64 x127, .int .i64 x128, .int .i64 x129, .int .i64 x130, .int .i64 x131, .int .i64 x132, .int .i64 x133, .int .i64 x134, .int .u64 x135, .int .u64 x136, .int .u64 x137, .int .u64 x138, .int .u64 x139, .int .u64 x140, .int .i64 x141, .int .i64 x142, .int .i64 x143, .int .u64 x144, .int .u64 x145], .agg #[.int .i64 x146, .int .i64 x147, .int .i64 x148, .int .i64 x149, .int .u64 x150, .int .u64 x151, .int .i64 x152, .int .u64 x153, .slice x154p x154n x154c, .bool x155]] w157 fun v158 w159 => ∃ (y160 : Int) (y161 : Int) (y162 : Int) (y163 : Int) (y164 : Int) (y165p : Option Addr) (y165n y165c : Nat), v158 = .tuple #[.int .i64 y160, .int .i64 y161, .int .i64 y162, .agg #[.int .i64 y163, .int .u64 y164], .slice y165p y165n y165c] ∧ stAll w159 g156 [.int .i64 y163, .int .u64 y164] fun w166 => X8.j11 Q t0 t1 t3 t6 y160 y161 y162 g156 y165p y165n y165c w166))
def X8.j8 (Q : Value → World → Prop) (t0 : Option Addr) (t1 : Option Addr) (t3 : Int) (t6 : Addr) (t9 : Int) (t10 : Int) (t112 : Int) (t143 : Bool) (w : World) : Prop := bcase t143 (drewK w fun w1 => (optP t1 fun p2 => ldI .i64 w1 (p2.add 22) fun x3 => ldI .i64 w1 (t6.add 2) fun x4 => CallR Tryz.prog 10 #[.int .i64 x4, .int .i64 (11 : Int)] w1 fun v5 w6 => ∃ (y7 : Int), v5 = .int .i64 y7 ∧ (World.cell? w1 (p2.add 22) = some (.int .i64 x3) ∧ World.cell? w6 (p2.add 22) = some (.int .i64 x3)) ∧ ldI .u64 w6 (t6.add 5) fun x8 => (World.cell? w1 (t6.add 5) = some (.int .u64 x8) ∧ World.cell? w6 (t6.add 5) = some (.int .u64 x8)) ∧ ldSl w6 (t6.add 8) fun x9p x9n x9c => (World.cell? w1 (t6.add 8) = some (.slice x9p x9n x9c) ∧ World.cell? w6 (t6.add 8) = some (.slice x9p x9n x9c)) ∧ newK w6 #[.int .i64 (0 : Int), .int .i64 (0 : Int), .int .i64 (0 : Int), .int .u64 (0 : Int), .int .u64 (0 : Int), .int .i64 (0 : Int), .int .i64 (0 : Int), .int .i64 (0 : Int), .int .i64 (0 : Int), .int .u64 (0 : Int), .slice none 0 0, .int .u64 (0 : Int), .int .i64 (0 : Int), .int .u64 (0 : Int), .int .i64 (0 : Int), .int .u64 (0 : Int), .int .i64 (0 : Int), .int .u64 (0 : Int), .slice none 0 0] 63 fun g10 w11 => (World.cell? w6 (t6.add 8) = some (.slice x9p x9n x9c) ∧ World.cell? w11 (t6.add 8) = some (.slice x9p x9n x9c)) ∧ (World.cell? w6 (t6.add 5) = some (.int .u64 x8) ∧ World.cell? w11 (t6.add 5) = some (.int .u64 x8)) ∧ (World.cell? w6 (t6.add 2) = some (.int .i64 x4) ∧ World.cell? w11 (t6.add 2) = some (.int .i64 x4)) ∧ (World.cell? w6 (p2.add 22) = some (.int .i64 x3) ∧ World.cell? w11 (p2.add 22) = some (.int .i64 x3)) ∧ stAll w11 g10 [.int .i64 (2 : Int), .int .i64 t9, .int .i64 x3, .int .u64 t10, .int .u64 (0 : Int), .int .i64 (0 : Int), .int .i64 (0 : Int), .int .i64 (0 : Int), .int .i64 (0 : Int), .int .u64 (0 : Int), .slice x9p x9n x9c, .int .u64 x8, .int .i64 y7, .int .u64 (0 : Int), .int .i64 (0 : Int), .int .u64 (0 : Int), .int .i64 (0 : Int), .int .u64 (0 : Int), .slice none 0 0] fun w12 => X8.j6 Q t0 t1 t6 g10 w12) ∧ (optP t1 fun p13 => ldI .i64 w1 (p13.add 22) fun x14 => ldI .i64 w1 (t6.add 2) fun x15 => ldI .u64 w1 (t6.add 5) fun x16 => ldSl w1 (t6.add 8) fun x17p x17n x17c => newK w1 #[.int .i64 (0 : Int), .int .i64 (0 : Int), .int .i64 (0 : Int), .int .u64 (0 : Int), .int .u64 (0 : Int), .int .i64 (0 : Int), .int .i64 (0 : Int), .int .i64 (0 : Int), .int .i64 (0 : Int), .int .u64 (0 : Int), .slice none 0 0, .int .u64 (0 : Int), .int .i64 (0 : Int), .int .u64 (0 : Int), .int .i64 (0 : Int), .int .u64 (0 : Int), .int .i64 (0 : Int), .int .u64 (0 : Int), .slice none 0 0] 63 fun g18 w19 => (World.cell? w1 (t6.add 8) = some (.slice x17p x17n x17c) ∧ World.cell? w19 (t6.add 8) = some (.slice x17p x17n x17c)) ∧ (World.cell? w1 (t6.add 5) = some (.int .u64 x16) ∧ World.cell? w19 (t6.add 5) = some (.int .u64 x16)) ∧ (World.cell? w1 (t6.add 2) = some (.int .i64 x15) ∧ World.cell? w19 (t6.add 2) = some (.int .i64 x15)) ∧ (World.cell? w1 (p13.add 22) = some (.int .i64 x14) ∧ World.cell? w19 (p13.add 22) = some (.int .i64 x14)) ∧ CallR Tryz.prog 10 #[.int .i64 x15, .int .i64 (11 : Int)] w19 fun v20 w21 => ∃ (y22 : Int), v20 = .int .i64 y22 ∧ (World.cell? w19 (t6.add 8) = some (.slice x17p x17n x17c) ∧ World.cell? w21 (t6.add 8) = some (.slice x17p x17n x17c)) ∧ (World.cell? w19 (t6.add 5) = some (.int .u64 x16) ∧ World.cell? w21 (t6.add 5) = some (.int .u64 x16)) ∧ (World.cell? w19 (p13.add 22) = some (.int .i64 x14) ∧ World.cell? w21 (p13.add 22) = some (.int .i64 x14)) ∧ stAll w21 g18 [.int .i64 (2 : Int), .int .i64 t9, .int .i64 x14, .int .u64 t10, .int .u64 (0 : Int), .int .i64 (0 : Int), .int .i64 (0 : Int), .int .i64 (0 : Int), .int .i64 (0 : Int), .int .u64 (0 : Int), .slice x17p x17n x17c, .int .u64 x16, .int .i64 y22, .int .u64 (0 : Int), .int .i64 (0 : Int), .int .u64 (0 : Int), .int .i64 (0 : Int), .int .u64 (0 : Int), .slice none 0 0] fun w23 => X8.j6 Q t0 t1 t6 g18 w23)) (bcase (t112 == (7 : Int)) (ldI .i64 w (t6.add 2) fun x24 => (3 : Int) ≠ 0 ∧ bcase ((Int.tmod x24 (3 : Int)) == (0 : Int)) (CallR Tryz.prog 16 #[.pointer t0, .int .i64 t9, .int .u64 t10, .int .i64 (4 : Int)] w fun v25 w26 => ∃ (y27 : Bool), v25 = .bool y27 ∧ CallR Tryz.prog 23 #[.pointer t1, .int .i64 t9, .int .u64 t10, .int .i64 (4 : Int)] w26 fun v28 w29 => ∃ (y30 : Bool), v28 = .bool y30 ∧ Q (.bool (y27 == y30)) w29) (CallR Tryz.prog 16 #[.pointer t0, .int .i64 t9, .int .u64 t10, .int .i64 (0 : Int)] w fun v31 w32 => ∃ (y33 : Bool), v31 = .bool y33 ∧ CallR Tryz.prog 23 #[.pointer t1, .int .i64 t9, .int .u64 t10, .int .i64 (0 : Int)] w32 fun v34 w35 => ∃ (y36 : Bool), v34 = .bool y36 ∧ Q (.bool (y33 == y36)) w35)) (bcase (t112 == (8 : Int)) (X8.j7 Q t0 t1 t3 t6 t9 t10 (t112 == (8 : Int)) w) (X8.j7 Q t0 t1 t3 t6 t9 t10 (t112 == (9 : Int)) w)))
def X8.j9 (Q : Value → World → Prop) (t0 : Option Addr) (t1 : Option Addr) (t3 : Int) (t6 : Addr) (t9 : Int) (t10 : Int) (t112 : Int) (t113 : Bool) (w : World) : Prop := bcase t113 (CallR Tryz.prog 14 #[.pointer t0, .int .u64 t3] w fun v1 w2 => ∃ (y3 : Int) (y4 : Int) (y5 : Int) (y6 : Int) (y7 : Int) (y8 : Int) (y9p : Option Addr) (y9n y9c : Nat) (y10 : Int) (y11 : Int) (y12 : Int) (y13p : Option Addr) (y13n y13c : Nat) (y14 : Int) (y15 : Int) (y16 : Int) (y17 : Int) (y18 : Int) (y19 : Int) (y20 : Int) (y21 : Int) (y22 : Int) (y23 : Int) (y24 : Int) (y25 : Int) (y26 : Int) (y27 : Int) (y28p : Option Addr) (y28n y28c : Nat) (y29 : Int) (y30 : Int) (y31 : Int) (y32 : Int) (y33 : Int) (y34 : Int) (y35 : Int) (y36p : Option Addr) (y36n y36c : Nat) (y37 : Bool), v1 = .tuple #[.agg #[.int .i64 y3, .int .u64 y4, .int .i64 y5, .int .i64 y6, .int .i64 y7, .int .u64 y8, .slice y9p y9n y9c, .int .u64 y10, .int .i64 y11, .int .i64 y12, .slice y13p y13n y13c, .int .u64 y14, .int .u64 y15, .int .u64 y16, .int .u64 y17], .agg #[.int .i64 y18, .int .i64 y19, .int .i64 y20, .int .u64 y21, .int .u64 y22, .int .i64 y23, .int .i64 y24, .int .i64 y25, .int .i64 y26, .int .u64 y27, .slice y28p y28n y28c, .int .u64 y29, .int .i64 y30, .int .u64 y31, .int .i64 y32, .int .u64 y33, .int .i64 y34, .int .u64 y35, .slice y36p y36n y36c], .bool y37] ∧ newK w2 #[.int .i64 (0 : Int), .int .u64 (0 : Int), .int .i64 (0 : Int), .int .i64 (0 : Int), .int .i64 (0 : Int), .int .u64 (0 : Int), .slice none 0 0, .int .u64 (0 : Int), .int .i64 (0 : Int), .int .i64 (0 : Int), .slice none 0 0, .int .u64 (0 : Int), .int .u64 (0 : Int), .int .u64 (0 : Int), .int .u64 (0 : Int)] 50 fun g38 w39 => newK w39 #[.int .i64 (0 : Int), .int .i64 (0 : Int), .int .i64 (0 : Int), .int .u64 (0 : Int), .int .u64 (0 : Int), .int .i64 (0 : Int), .int .i64 (0 : Int), .int .i64 (0 : Int), .int .i64 (0 : Int), .int .u64 (0 : Int), .slice none 0 0, .int .u64 (0 : Int), .int .i64 (0 : Int), .int .u64 (0 : Int), .int .i64 (0 : Int), .int .u64 (0 : Int), .int .i64 (0 : Int), .int .u64 (0 : Int), .slice none 0 0] 63 fun g40 w41 => stAll w41 g38 [.int .i64 y3, .int .u64 y4, .int .i64 y5, .int .i64 y6, .int .i64 y7, .int .u64 y8, .slice y9p y9n y9c, .int .u64 y10, .int .i64 y11, .int .i64 y12, .slice y13p y13n y13c, .int .u64 y14, .int .u64 y15, .int .u64 y16, .int .u64 y17] fun w42 => stAll w42 g40 [.int .i64 y18, .int .i64 y19, .int .i64 y20, .int .u64 y21, .int .u64 y22, .int .i64 y23, .int .i64 y24, .int .i64 y25, .int .i64 y26, .int .u64 y27, .slice y28p y28n y28c, .int .u64 y29, .int .i64 y30, .int .u64 y31, .int .i64 y32, .int .u64 y33, .int .i64 y34, .int .u64 y35, .slice y36p y36n y36c] fun w43 => CallR Tryz.prog 18 #[.pointer t1, .int .u64 t3] w43 fun v44 w45 => ∃ (y46 : Int) (y47 : Int) (y48 : Int) (y49 : Int) (y50 : Int) (y51 : Int) (y52p : Option Addr) (y52n y52c : Nat) (y53 : Int) (y54 : Int) (y55 : Int) (y56p : Option Addr) (y56n y56c : Nat) (y57 : Int) (y58 : Int) (y59 : Int) (y60 : Int) (y61 : Int) (y62 : Int) (y63 : Int) (y64 : Int) (y65 : Int) (y66 : Int) (y67 : Int) (y68 : Int) (y69 : Int) (y70 : Int) (y71p : Option Addr) (y71n y71c : Nat) (y72 : Int) (y73 : Int) (y74 : Int) (y75 : Int) (y76 : Int) (y77 : Int) (y78 : Int) (y79p : Option Addr) (y79n y79c : Nat) (y80 : Bool), v44 = .tuple #[.agg #[.int .i64 y46, .int .u64 y47, .int .i64 y48, .int .i64 y49, .int .i64 y50, .int .u64 y51, .slice y52p y52n y52c, .int .u64 y53, .int .i64 y54, .int .i64 y55, .slice y56p y56n y56c, .int .u64 y57, .int .u64 y58, .int .u64 y59, .int .u64 y60], .agg #[.int .i64 y61, .int .i64 y62, .int .i64 y63, .int .u64 y64, .int .u64 y65, .int .i64 y66, .int .i64 y67, .int .i64 y68, .int .i64 y69, .int .u64 y70, .slice y71p y71n y71c, .int .u64 y72, .int .i64 y73, .int .u64 y74, .int .i64 y75, .int .u64 y76, .int .i64 y77, .int .u64 y78, .slice y79p y79n y79c], .bool y80] ∧ newK w45 #[.int .i64 (0 : Int), .int .u64 (0 : Int), .int .i64 (0 : Int), .int .i64 (0 : Int), .int .i64 (0 : Int), .int .u64 (0 : Int), .slice none 0 0, .int .u64 (0 : Int), .int .i64 (0 : Int), .int .i64 (0 : Int), .slice none 0 0, .int .u64 (0 : Int), .int .u64 (0 : Int), .int .u64 (0 : Int), .int .u64 (0 : Int)] 50 fun g81 w82 => newK w82 #[.int .i64 (0 : Int), .int .i64 (0 : Int), .int .i64 (0 : Int), .int .u64 (0 : Int), .int .u64 (0 : Int), .int .i64 (0 : Int), .int .i64 (0 : Int), .int .i64 (0 : Int), .int .i64 (0 : Int), .int .u64 (0 : Int), .slice none 0 0, .int .u64 (0 : Int), .int .i64 (0 : Int), .int .u64 (0 : Int), .int .i64 (0 : Int), .int .u64 (0 : Int), .int .i64 (0 : Int), .int .u64 (0 : Int), .slice none 0 0] 63 fun g83 w84 => stAll w84 g81 [.int .i64 y46, .int .u64 y47, .int .i64 y48, .int .i64 y49, .int .i64 y50, .int .u64 y51, .slice y52p y52n y52c, .int .u64 y53, .int .i64 y54, .int .i64 y55, .slice y56p y56n y56c, .int .u64 y57, .int .u64 y58, .int .u64 y59, .int .u64 y60] fun w85 => stAll w85 g83 [.int .i64 y61, .int .i64 y62, .int .i64 y63, .int .u64 y64, .int .u64 y65, .int .i64 y66, .int .i64 y67, .int .i64 y68, .int .i64 y69, .int .u64 y70, .slice y71p y71n y71c, .int .u64 y72, .int .i64 y73, .int .u64 y74, .int .i64 y75, .int .u64 y76, .int .i64 y77, .int .u64 y78, .slice y79p y79n y79c] fun w86 => bcase (y37 == y80) (ldI .i64 w86 (g38.add 0) fun x87 => ldI .u64 w86 (g38.add 1) fun x88 => ldI .i64 w86 (g38.add 2) fun x89 => ldI .i64 w86 (g38.add 3) fun x90 => ldI .i64 w86 (g38.add 4) fun x91 => ldI .u64 w86 (g38.add 5) fun x92 => ldSl w86 (g38.add 6) fun x93p x93n x93c => ldI .u64 w86 (g38.add 7) fun x94 => ldI .i64 w86 (g38.add 8) fun x95 => ldI .i64 w86 (g38.add 9) fun x96 => ldSl w86 (g38.add 10) fun x97p x97n x97c => ldI .u64 w86 (g38.add 11) fun x98 => ldI .u64 w86 (g38.add 12) fun x99 => ldI .u64 w86 (g38.add 13) fun x100 => ldI .u64 w86 (g38.add 14) fun x101 => ldI .i64 w86 (g81.add 0) fun x102 => ldI .u64 w86 (g81.add 1) fun x103 => ldI .i64 w86 (g81.add 2) fun x104 => ldI .i64 w86 (g81.add 3) fun x105 => ldI .i64 w86 (g81.add 4) fun x106 => ldI .u64 w86 (g81.add 5) fun x107 => ldSl w86 (g81.add 6) fun x108p x108n x108c => ldI .u64 w86 (g81.add 7) fun x109 => ldI .i64 w86 (g81.add 8) fun x110 => ldI .i64 w86 (g81.add 9) fun x111 => ldSl w86 (g81.add 10) fun x112p x112n x112c => ldI .u64 w86 (g81.add 11) fun x113 => ldI .u64 w86 (g81.add 12) fun x114 => ldI .u64 w86 (g81.add 13) fun x115 => ldI .u64 w86 (g81.add 14) fun x116 => CallR Tryz.prog 19 #[.agg #[.int .i64 x87, .int .u64 x88, .int .i64 x89, .int .i64 x90, .int .i64 x91, .int .u64 x92, .slice x93p x93n x93c, .int .u64 x94, .int .i64 x95, .int .i64 x96, .slice x97p x97n x97c, .int .u64 x98, .int .u64 x99, .int .u64 x100, .int .u64 x101], .agg #[.int .i64 x102, .int .u64 x103, .int .i64 x104, .int .i64 x105, .int .i64 x106, .int .u64 x107, .slice x108p x108n x108c, .int .u64 x109, .int .i64 x110, .int .i64 x111, .slice x112p x112n x112c, .int .u64 x113, .int .u64 x114, .int .u64 x115, .int .u64 x116]] w86 fun v117 w118 => ∃ (y119 : Bool), v117 = .bool y119 ∧ bcase y119 (ldI .i64 w118 (g40.add 0) fun x120 => ldI .i64 w118 (g40.add 1) fun x121 => ldI .i64 w118 (g40.add 2) fun x122 => ldI .u64 w118 (g40.add 3) fun x123 => ldI .u64 w118 (g40.add 4) fun x124 => ldI .i64 w118 (g40.add 5) fun x125 => ldI .i64 w118 (g40.add 6) fun x126 => ldI .i64 w118 (g40.add 7) fun x127 => ldI .i64 w118 (g40.add 8) fun x128 => ldI .u64 w118 (g40.add 9) fun x129 => ldSl w118 (g40.add 10) fun x130p x130n x130c => ldI .u64 w118 (g40.add 11) fun x131 => ldI .i64 w118 (g40.add 12) fun x132 => ldI .u64 w118 (g40.add 13) fun x133 => ldI .i64 w118 (g40.add 14) fun x134 => ldI .u64 w118 (g40.add 15) fun x135 => ldI .i64 w118 (g40.add 16) fun x136 => ldI .u64 w118 (g40.add 17) fun x137 => ldSl w118 (g40.add 18) fun x138p x138n x138c => ldI .i64 w118 (g83.add 0) fun x139 => ldI .i64 w118 (g83.add 1) fun x140 => ldI .i64 w118 (g83.add 2) fun x141 => ldI .u64 w118 (g83.add 3) fun x142 => ldI .u64 w118 (g83.add 4) fun x143 => ldI .i64 w118 (g83.add 5) fun x144 => ldI .i64 w118 (g83.add 6) fun x145 => ldI .i64 w118 (g83.add 7) fun x146 => ldI .i64 w118 (g83.add 8) fun x147 => ldI .u64 w118 (g83.add 9) fun x148 => ldSl w118 (g83.add 10) fun x149p x149n x149c => ldI .u64 w118 (g83.add 11) fun x150 => ldI .i64 w118 (g83.add 12) fun x151 => ldI .u64 w118 (g83.add 13) fun x152 => ldI .i64 w118 (g83.add 14) fun x153 => ldI .u64 w118 (g83.add 15) fun x154 => ldI .i64 w118 (g83.add 16) fun x155 => ldI .u64 w118 (g83.add 17) fun x156 => ldSl w118 (g83.add 18) fun x157p x157n x157c => CallR Tryz.prog 20 #[.agg #[.int .i64 x120, .int .i64 x121, .int .i64 x122, .int .u64 x123, .int .u64 x124, .int .i64 x125, .int .i64 x126, .int .i64 x127, .int .i64 x128, .int .u64 x129, .slice x130p x130n x130c, .int .u64 x131, .int .i64 x132, .int .u64 x133, .int .i64 x134, .int .u64 x135, .int .i64 x136, .int .u64 x137, .slice x138p x138n x138c], .agg #[.int .i64 x139, .int .i64 x140, .int .i64 x141, .int .u64 x142, .int .u64 x143, .int .i64 x144, .int .i64 x145, .int .i64 x146, .int .i64 x147, .int .u64 x148, .slice x149p x149n x149c, .int .u64 x150, .int .i64 x151, .int .u64 x152, .int .i64 x153, .int .u64 x154, .int .i64 x155, .int .u64 x156, .slice x157p x157n x157c]] w118 fun v158 w159 => ∃ (y160 : Bool), v158 = .bool y160 ∧ Q (.bool y160) w159) (Q (.bool false) w118)) (Q (.bool false) w86)) (bcase (t112 == (5 : Int)) (X8.j8 Q t0 t1 t3 t6 t9 t10 t112 (t112 == (5 : Int)) w) (X8.j8 Q t0 t1 t3 t6 t9 t10 t112 (t112 == (6 : Int)) w))
def X8.j12 (Q : Value → World → Prop) (t0 : Option Addr) (t1 : Option Addr) (t3 : Int) (t6 : Addr) (t9 : Int) (t10 : Int) (w : World) : Prop := ldI .i64 w (t6.add 0) fun x1 => CallR Tryz.prog 10 #[.int .i64 x1, .int .i64 (10 : Int)] w fun v2 w3 => ∃ (y4 : Int), v2 = .int .i64 y4 ∧ bcase (y4 == (3 : Int)) (X8.j9 Q t0 t1 t3 t6 t9 t10 y4 (y4 == (3 : Int)) w3) (X8.j9 Q t0 t1 t3 t6 t9 t10 y4 (y4 == (4 : Int)) w3)
def X8.j3 (Q : Value → World → Prop) (t0 : Option Addr) (t1 : Option Addr) (t3 : Int) (t6 : Addr) (t9 : Int) (t10 : Int) (t89 : Bool) (w : World) : Prop := bcase t89 (drewK w fun w1 => (optP t1 fun p2 => ldSl w1 ((p2.add 89).add 2) fun x3p x3n x3c => ldI .i64 w1 (t6.add 3) fun x4 => optP t1 fun p5 => ldSl w1 ((p5.add 89).add 2) fun x6p x6n x6c => CallR Tryz.prog 10 #[.int .i64 x4, .int .i64 ((x6n : Nat) : Int)] w1 fun v7 w8 => ∃ (y9 : Int), v7 = .int .i64 y9 ∧ (World.cell? w1 ((p2.add 89).add 2) = some (.slice x3p x3n x3c) ∧ World.cell? w8 ((p2.add 89).add 2) = some (.slice x3p x3n x3c)) ∧ (0 ≤ y9 ∧ y9 < ((x3n : Nat) : Int)) ∧ optP x3p fun p10 => ldI .i64 w8 ((p10.add (Int.toNat y9 * 15)).add 0) fun x11 => ldI .u64 w8 ((p10.add (Int.toNat y9 * 15)).add 1) fun x12 => ldI .i64 w8 ((p10.add (Int.toNat y9 * 15)).add 2) fun x13 => ldI .i64 w8 ((p10.add (Int.toNat y9 * 15)).add 3) fun x14 => ldI .i64 w8 ((p10.add (Int.toNat y9 * 15)).add 4) fun x15 => ldI .u64 w8 ((p10.add (Int.toNat y9 * 15)).add 5) fun x16 => ldSl w8 ((p10.add (Int.toNat y9 * 15)).add 6) fun x17p x17n x17c => ldI .u64 w8 ((p10.add (Int.toNat y9 * 15)).add 7) fun x18 => ldI .i64 w8 ((p10.add (Int.toNat y9 * 15)).add 8) fun x19 => ldI .i64 w8 ((p10.add (Int.toNat y9 * 15)).add 9) fun x20 => ldSl w8 ((p10.add (Int.toNat y9 * 15)).add 10) fun x21p x21n x21c => ldI .u64 w8 ((p10.add (Int.toNat y9 * 15)).add 11) fun x22 => ldI .u64 w8 ((p10.add (Int.toNat y9 * 15)).add 12) fun x23 => ldI .u64 w8 ((p10.add (Int.toNat y9 * 15)).add 13) fun x24 => ldI .u64 w8 ((p10.add (Int.toNat y9 * 15)).add 14) fun x25 => newK w8 #[.int .i64 (0 : Int), .int .u64 (0 : Int), .int .i64 (0 : Int), .int .i64 (0 : Int), .int .i64 (0 : Int), .int .u64 (0 : Int), .slice none 0 0, .int .u64 (0 : Int), .int .i64 (0 : Int), .int .i64 (0 : Int), .slice none 0 0, .int .u64 (0 : Int), .int .u64 (0 : Int), .int .u64 (0 : Int), .int .u64 (0 : Int)] 50 fun g26 w27 => ((∀ j u, ([.int .i64 x11, .int .u64 x12, .int .i64 x13, .int .i64 x14, .int .i64 x15, .int .u64 x16, .slice x17p x17n x17c, .int .u64 x18, .int .i64 x19, .int .i64 x20, .slice x21p x21n x21c, .int .u64 x22, .int .u64 x23, .int .u64 x24, .int .u64 x25] : List Value)[j]? = some u → World.cell? w8 ((p10.add (Int.toNat y9 * 15)).add j) = some u) ∧ (∀ j u, ([.int .i64 x11, .int .u64 x12, .int .i64 x13, .int .i64 x14, .int .i64 x15, .int .u64 x16, .slice x17p x17n x17c, .int .u64 x18, .int .i64 x19, .int .i64 x20, .slice x21p x21n x21c, .int .u64 x22, .int .u64 x23, .int .u64 x24, .int .u64 x25] : List Value)[j]? = some u → World.cell? w27 ((p10.add (Int.toNat y9 * 15)).add j) = some u)) ∧ (World.cell? w8 ((p5.add 89).add 2) = some (.slice x6p x6n x6c) ∧ World.cell? w27 ((p5.add 89).add 2) = some (.slice x6p x6n x6c)) ∧ (World.cell? w8 (t6.add 3) = some (.int .i64 x4) ∧ World.cell? w27 (t6.add 3) = some (.int .i64 x4)) ∧ (World.cell? w8 ((p2.add 89).add 2) = some (.slice x3p x3n x3c) ∧ World.cell? w27 ((p2.add 89).add 2) = some (.slice x3p x3n x3c)) ∧ stAll w27 g26 [.int .i64 x11, .int .u64 x12, .int .i64 x13, .int .i64 x14, .int .i64 x15, .int .u64 x16, .slice x17p x17n x17c, .int .u64 x18, .int .i64 x19, .int .i64 x20, .slice x21p x21n x21c, .int .u64 x22, .int .u64 x23, .int .u64 x24, .int .u64 x25] fun w28 => ldI .i64 w28 (g26.add 0) fun x29 => ldI .u64 w28 (g26.add 1) fun x30 => X8.j12 Q t0 t1 t3 t6 x29 x30 w28) ∧ (optP t1 fun p31 => ldSl w1 ((p31.add 89).add 2) fun x32p x32n x32c => ldI .i64 w1 (t6.add 3) fun x33 => optP t1 fun p34 => ldSl w1 ((p34.add 89).add 2) fun x35p x35n x35c => newK w1 #[.int .i64 (0 : Int), .int .u64 (0 : Int), .int .i64 (0 : Int), .int .i64 (0 : Int), .int .i64 (0 : Int), .int .u64 (0 : Int), .slice none 0 0, .int .u64 (0 : Int), .int .i64 (0 : Int), .int .i64 (0 : Int), .slice none 0 0, .int .u64 (0 : Int), .int .u64 (0 : Int), .int .u64 (0 : Int), .int .u64 (0 : Int)] 50 fun g36 w37 => (World.cell? w1 ((p34.add 89).add 2) = some (.slice x35p x35n x35c) ∧ World.cell? w37 ((p34.add 89).add 2) = some (.slice x35p x35n x35c)) ∧ (World.cell? w1 (t6.add 3) = some (.int .i64 x33) ∧ World.cell? w37 (t6.add 3) = some (.int .i64 x33)) ∧ (World.cell? w1 ((p31.add 89).add 2) = some (.slice x32p x32n x32c) ∧ World.cell? w37 ((p31.add 89).add 2) = some (.slice x32p x32n x32c)) ∧ CallR Tryz.prog 10 #[.int .i64 x33, .int .i64 ((x35n : Nat) : Int)] w37 fun v38 w39 => ∃ (y40 : Int), v38 = .int .i64 y40 ∧ (World.cell? w37 ((p31.add 89).add 2) = some (.slice x32p x32n x32c) ∧ World.cell? w39 ((p31.add 89).add 2) = some (.slice x32p x32n x32c)) ∧ (0 ≤ y40 ∧ y40 < ((x32n : Nat) : Int)) ∧ optP x32p fun p41 => ldI .i64 w39 ((p41.add (Int.toNat y40 * 15)).add 0) fun x42 => ldI .u64 w39 ((p41.add (Int.toNat y40 * 15)).add 1) fun x43 => ldI .i64 w39 ((p41.add (Int.toNat y40 * 15)).add 2) fun x44 => ldI .i64 w39 ((p41.add (Int.toNat y40 * 15)).add 3) fun x45 => ldI .i64 w39 ((p41.add (Int.toNat y40 * 15)).add 4) fun x46 => ldI .u64 w39 ((p41.add (Int.toNat y40 * 15)).add 5) fun x47 => ldSl w39 ((p41.add (Int.toNat y40 * 15)).add 6) fun x48p x48n x48c => ldI .u64 w39 ((p41.add (Int.toNat y40 * 15)).add 7) fun x49 => ldI .i64 w39 ((p41.add (Int.toNat y40 * 15)).add 8) fun x50 => ldI .i64 w39 ((p41.add (Int.toNat y40 * 15)).add 9) fun x51 => ldSl w39 ((p41.add (Int.toNat y40 * 15)).add 10) fun x52p x52n x52c => ldI .u64 w39 ((p41.add (Int.toNat y40 * 15)).add 11) fun x53 => ldI .u64 w39 ((p41.add (Int.toNat y40 * 15)).add 12) fun x54 => ldI .u64 w39 ((p41.add (Int.toNat y40 * 15)).add 13) fun x55 => ldI .u64 w39 ((p41.add (Int.toNat y40 * 15)).add 14) fun x56 => ((∀ j u, ([.int .i64 x42, .int .u64 x43, .int .i64 x44, .int .i64 x45, .int .i64 x46, .int .u64 x47, .slice x48p x48n x48c, .int .u64 x49, .int .i64 x50, .int .i64 x51, .slice x52p x52n x52c, .int .u64 x53, .int .u64 x54, .int .u64 x55, .int .u64 x56] : List Value)[j]? = some u → World.cell? w1 ((p41.add (Int.toNat y40 * 15)).add j) = some u) ∧ (∀ j u, ([.int .i64 x42, .int .u64 x43, .int .i64 x44, .int .i64 x45, .int .i64 x46, .int .u64 x47, .slice x48p x48n x48c, .int .u64 x49, .int .i64 x50, .int .i64 x51, .slice x52p x52n x52c, .int .u64 x53, .int .u64 x54, .int .u64 x55, .int .u64 x56] : List Value)[j]? = some u → World.cell? w37 ((p41.add (Int.toNat y40 * 15)).add j) = some u)) ∧ stAll w39 g36 [.int .i64 x42, .int .u64 x43, .int .i64 x44, .int .i64 x45, .int .i64 x46, .int .u64 x47, .slice x48p x48n x48c, .int .u64 x49, .int .i64 x50, .int .i64 x51, .slice x52p x52n x52c, .int .u64 x53, .int .u64 x54, .int .u64 x55, .int .u64 x56] fun w57 => ldI .i64 w57 (g36.add 0) fun x58 => ldI .u64 w57 (g36.add 1) fun x59 => X8.j12 Q t0 t1 t3 t6 x58 x59 w57)) (X8.j12 Q t0 t1 t3 t6 t9 t10 w)
def X8.f (a0 : Option Addr) (a1 : Option Addr) (a2_0 : Int) (a2_1 : Int) (a2_2 : Int) (a2_3 : Int) (a2_4 : Int) (a2_5 : Int) (a2_6 : Int) (a2_7 : Int) (a2_8p : Option Addr) (a2_8n : Nat) (a2_8c : Nat) (a2_9 : Bool) (a3 : Int) (w : World) (Q : Value → World → Prop) : Prop := newK w #[.int .i64 a2_0, .int .i64 a2_1, .int .i64 a2_2, .int .i64 a2_3, .int .u64 a2_4, .int .u64 a2_5, .int .i64 a2_6, .int .u64 a2_7, .slice a2_8p a2_8n a2_8c, .bool a2_9] 40 fun g1 w2 => ldI .i64 w2 (g1.add 1) fun x3 => ldI .u64 w2 (g1.add 4) fun x4 => ldB w2 (g1.add 9) fun x5 => bcase x5 (drewK w2 fun w6 => ldI .i64 w6 (g1.add 1) fun x7 => optP a1 fun p8 => ldI .i64 w6 ((p8.add 0).add 0) fun x9 => CallR Tryz.prog 10 #[.int .i64 x7, .int .i64 x9] w6 fun v10 w11 => ∃ (y12 : Int), v10 = .int .i64 y12 ∧ drewK w11 fun w13 => optP a1 fun p14 => (0 ≤ (IntKind.wrap .i64 ((1 : Int) + y12)) ∧ (IntKind.wrap .i64 ((1 : Int) + y12)) < ((65 : Nat) : Int)) ∧ ldI .u64 w13 ((p14.add 23).add (Int.toNat (IntKind.wrap .i64 ((1 : Int) + y12)) * 1)) fun x15 => optP a1 fun p16 => (0 ≤ (IntKind.wrap .i64 ((1 : Int) + y12)) ∧ (IntKind.wrap .i64 ((1 : Int) + y12)) < ((65 : Nat) : Int)) ∧ ldI .u64 w13 ((p16.add 23).add (Int.toNat (IntKind.wrap .i64 ((1 : Int) + y12)) * 1)) fun x17 => ldI .u64 w13 (g1.add 4) fun x18 => (4 : Int) ≠ 0 ∧ optP a1 fun p19 => ldSl w13 ((p19.add 89).add 2) fun x20p x20n x20c => bcase (decide (((x20n : Nat) : Int) > (0 : Int))) (ldI .u64 w13 (g1.add 4) fun x21 => (3 : Int) ≠ 0 ∧ X8.j3 Q a0 a1 a3 g1 (IntKind.wrap .i64 ((1 : Int) + y12)) (IntKind.wrap .u64 (x15 - (min2 x17 (Int.tmod x18 (4 : Int))))) (decide ((Int.tmod x21 (3 : Int)) > (0 : Int))) w13) (X8.j3 Q a0 a1 a3 g1 (IntKind.wrap .i64 ((1 : Int) + y12)) (IntKind.wrap .u64 (x15 - (min2 x17 (Int.tmod x18 (4 : Int))))) false w13)) (X8.j12 Q a0 a1 a3 g1 x3 x4 w2)
def X8.S (Q : Value → World → Prop) : Segs
  | 0, φ, ρ, w => qA (ρ 19) fun t19 => qSl (ρ 20) fun t20p t20n t20c => qB (ρ 24) fun t24 => qI .i64 (ρ 25) fun t25 => X8.l0 Q (φ 0) t19 t20p t20n t20c t24 t25 w
  | 1, φ, ρ, w => qSl (ρ 20) fun t20p t20n t20c => qB (ρ 24) fun t24 => qI .i64 (ρ 26) fun t26 => X8.l1 Q (φ 1) t20p t20n t20c t24 t26 w
  | 2, φ, ρ, w => qSl (ρ 38) fun t38p t38n t38c => qB (ρ 43) fun t43 => qI .i64 (ρ 44) fun t44 => X8.l2 Q (φ 2) t38p t38n t38c t43 t44 w
  | 3, φ, ρ, w => qP (ρ 0) fun t0 => qP (ρ 1) fun t1 => qI .u64 (ρ 3) fun t3 => qA (ρ 6) fun t6 => qI .i64 (ρ 9) fun t9 => qI .u64 (ρ 10) fun t10 => qB (ρ 89) fun t89 => X8.j3 Q t0 t1 t3 t6 t9 t10 t89 w
  | 4, φ, ρ, w => qA (ρ 19) fun t19 => qSl (ρ 20) fun t20p t20n t20c => qB (ρ 24) fun t24 => X8.j4 Q t19 t20p t20n t20c t24 w
  | 5, φ, ρ, w => qP (ρ 0) fun t0 => qP (ρ 1) fun t1 => qA (ρ 18) fun t18 => X8.j5 Q t0 t1 t18 w
  | 6, φ, ρ, w => qP (ρ 0) fun t0 => qP (ρ 1) fun t1 => qA (ρ 6) fun t6 => qA (ρ 18) fun t18 => X8.j6 Q t0 t1 t6 t18 w
  | 7, φ, ρ, w => qP (ρ 0) fun t0 => qP (ρ 1) fun t1 => qI .u64 (ρ 3) fun t3 => qA (ρ 6) fun t6 => qI .i64 (ρ 9) fun t9 => qI .u64 (ρ 10) fun t10 => qB (ρ 233) fun t233 => X8.j7 Q t0 t1 t3 t6 t9 t10 t233 w
  | 8, φ, ρ, w => qP (ρ 0) fun t0 => qP (ρ 1) fun t1 => qI .u64 (ρ 3) fun t3 => qA (ρ 6) fun t6 => qI .i64 (ρ 9) fun t9 => qI .u64 (ρ 10) fun t10 => qI .i64 (ρ 112) fun t112 => qB (ρ 143) fun t143 => X8.j8 Q t0 t1 t3 t6 t9 t10 t112 t143 w
  | 9, φ, ρ, w => qP (ρ 0) fun t0 => qP (ρ 1) fun t1 => qI .u64 (ρ 3) fun t3 => qA (ρ 6) fun t6 => qI .i64 (ρ 9) fun t9 => qI .u64 (ρ 10) fun t10 => qI .i64 (ρ 112) fun t112 => qB (ρ 113) fun t113 => X8.j9 Q t0 t1 t3 t6 t9 t10 t112 t113 w
  | 10, φ, ρ, w => qSl (ρ 38) fun t38p t38n t38c => qB (ρ 43) fun t43 => X8.j10 Q t38p t38n t38c t43 w
  | 11, φ, ρ, w => qP (ρ 0) fun t0 => qP (ρ 1) fun t1 => qI .u64 (ρ 3) fun t3 => qA (ρ 6) fun t6 => qI .i64 (ρ 9) fun t9 => qI .i64 (ρ 34) fun t34 => qI .i64 (ρ 35) fun t35 => qA (ρ 36) fun t36 => qSl (ρ 37) fun t37p t37n t37c => X8.j11 Q t0 t1 t3 t6 t9 t34 t35 t36 t37p t37n t37c w
  | 12, φ, ρ, w => qP (ρ 0) fun t0 => qP (ρ 1) fun t1 => qI .u64 (ρ 3) fun t3 => qA (ρ 6) fun t6 => qI .i64 (ρ 9) fun t9 => qI .u64 (ρ 10) fun t10 => X8.j12 Q t0 t1 t3 t6 t9 t10 w
  | _, _, _, _ => False
noncomputable def X8.an : Ann := (.seq .leaf (.seq .leaf (.seq .leaf (.seq (.seq .leaf (.cond (.seq (.draw [0, 1, 0, 4, 12, 28, 60, 127, 255, 511] [[0, 1, 2, 3, 4, 5, 6, 7, 8, 9]]) (.seq (.draw [0, 0, 1, 5, 15, 31, 0, 0, 64, 320, 960, 1984, 0, 4096, 12288, 32704, 65535, 131071] [[0, 1, 2, 3, 4, 5, 6, 7, 8, 9, 10, 11, 12, 13, 14, 15, 16, 17]]) (.seq .leaf (.join 3 (.cond (.seq (.draw [0, 1, 3, 7, 15, 0, 32, 0, 128, 384, 896, 1920, 3968, 8160, 16383, 32767, 0, 131071] [[0, 1, 2, 3, 4, 5, 6, 7, 8, 9, 10, 11, 12, 13, 14, 15, 16, 17], [0, 1, 2, 3, 4, 5, 6, 7, 8, 9, 10, 11, 12, 16, 13, 14, 15, 17]]) (.seq .leaf .leaf)) .leaf))))) .leaf)) (.join 12 (.seq (.seq .leaf (.block (.seq (.seq .leaf (.cond .leaf .leaf)) (.join 9 (.cond (.seq .leaf (.seq .leaf (.seq .leaf .leaf))) (.seq (.seq .leaf (.cond .leaf .leaf)) (.join 8 (.cond (.seq (.draw [0, 0, 2, 6, 14, 0, 0, 64, 192, 0, 512, 0, 2048, 8191, 0, 32767] [[0, 1, 2, 3, 4, 5, 6, 7, 8, 9, 10, 11, 12, 13, 14, 15], [0, 1, 2, 3, 4, 5, 6, 7, 9, 10, 11, 12, 14, 8, 13, 15]]) (.join 6 (.seq (.seq .leaf (.cond .leaf .leaf)) (.join 5 (.seq .leaf (.seq .leaf (.seq .leaf (.seq .leaf (.seq .leaf (.join 4 (.seq (.seq .leaf (.block (.loop 0 (.seq (.seq .leaf (.cond .leaf .leaf)) (.seq (.block .leaf) .leaf))))) (.seq (.seq .leaf (.block (.loop 1 (.seq (.seq .leaf (.cond .leaf .leaf)) (.seq (.block .leaf) .leaf))))) (.seq .leaf .leaf))))))))))))) (.seq .leaf (.cond (.seq .leaf (.seq (.seq .leaf (.cond .leaf .leaf)) (.seq .leaf .leaf))) (.seq (.seq .leaf (.cond .leaf .leaf)) (.join 7 (.cond (.seq .leaf (.seq .leaf (.seq .leaf .leaf))) .leaf))))))))))))) (.seq (.draw [0, 1, 3, 7, 0, 31, 63, 127, 127, 127, 127, 127, 0, 4351, 12799, 29695, 63487, 131071] [[0, 1, 2, 3, 4, 5, 6, 7, 8, 9, 10, 11, 12, 13, 14, 15, 16, 17], [0, 1, 2, 3, 4, 12, 5, 6, 7, 8, 9, 10, 11, 13, 14, 15, 16, 17]]) (.join 11 (.seq .leaf (.seq .leaf (.seq .leaf (.seq .leaf (.join 10 (.seq (.seq .leaf (.block (.loop 2 (.seq (.seq .leaf (.cond .leaf .leaf)) (.seq (.block .leaf) .leaf))))) (.seq .leaf .leaf)))))))))))))))
noncomputable def X8.c : Code := Tryz.f8.body.getD .skip
theorem X8.v (Q : Value → World → Prop) : V Tryz.prog (X8.S Q) X8.an X8.c (retC Tryz.prog Tryz.f8 Q) := ⟨trivial, ⟨trivial, ⟨trivial, ⟨⟨trivial, ⟨⟨trivial, ⟨trivial, ⟨trivial, ⟨(by
    intro φ ρ w h
    simp only [X8.S] at h
    obtain ⟨t0, e0, h⟩ := qP_elim h
    obtain ⟨t1, e1, h⟩ := qP_elim h
    obtain ⟨t3, e3, h⟩ := qI_elim h
    obtain ⟨t6, e6, h⟩ := qA_elim h
    obtain ⟨t9, e9, h⟩ := qI_elim h
    obtain ⟨t10, e10, h⟩ := qI_elim h
    obtain ⟨t89, e89, h⟩ := qB_elim h
    exact ⟨(((((((Env.nil.put (some 0) (.pointer t0)).put (some 1) (.pointer t1)).put (some 3) (.int .u64 t3)).put (some 6) (.pointer (some t6))).put (some 9) (.int .i64 t9)).put (some 10) (.int .u64 t10)).put (some 89) (.bool t89)), Env.le_put e89 (Env.le_put e10 (Env.le_put e9 (Env.le_put e6 (Env.le_put e3 (Env.le_put e1 (Env.le_put e0 (Env.le_nil _))))))), Eq.mp (by kernel_rfl) h⟩), ⟨⟨trivial, ⟨trivial, trivial⟩⟩, trivial⟩⟩⟩⟩⟩, trivial⟩⟩, ⟨(by
    intro φ ρ w h
    simp only [X8.S] at h
    obtain ⟨t0, e0, h⟩ := qP_elim h
    obtain ⟨t1, e1, h⟩ := qP_elim h
    obtain ⟨t3, e3, h⟩ := qI_elim h
    obtain ⟨t6, e6, h⟩ := qA_elim h
    obtain ⟨t9, e9, h⟩ := qI_elim h
    obtain ⟨t10, e10, h⟩ := qI_elim h
    exact ⟨((((((Env.nil.put (some 0) (.pointer t0)).put (some 1) (.pointer t1)).put (some 3) (.int .u64 t3)).put (some 6) (.pointer (some t6))).put (some 9) (.int .i64 t9)).put (some 10) (.int .u64 t10)), Env.le_put e10 (Env.le_put e9 (Env.le_put e6 (Env.le_put e3 (Env.le_put e1 (Env.le_put e0 (Env.le_nil _)))))), Eq.mp (by kernel_rfl) h⟩), ⟨⟨trivial, ⟨⟨trivial, ⟨trivial, trivial⟩⟩, ⟨(by
    intro φ ρ w h
    simp only [X8.S] at h
    obtain ⟨t0, e0, h⟩ := qP_elim h
    obtain ⟨t1, e1, h⟩ := qP_elim h
    obtain ⟨t3, e3, h⟩ := qI_elim h
    obtain ⟨t6, e6, h⟩ := qA_elim h
    obtain ⟨t9, e9, h⟩ := qI_elim h
    obtain ⟨t10, e10, h⟩ := qI_elim h
    obtain ⟨t112, e112, h⟩ := qI_elim h
    obtain ⟨t113, e113, h⟩ := qB_elim h
    exact ⟨((((((((Env.nil.put (some 0) (.pointer t0)).put (some 1) (.pointer t1)).put (some 3) (.int .u64 t3)).put (some 6) (.pointer (some t6))).put (some 9) (.int .i64 t9)).put (some 10) (.int .u64 t10)).put (some 112) (.int .i64 t112)).put (some 113) (.bool t113)), Env.le_put e113 (Env.le_put e112 (Env.le_put e10 (Env.le_put e9 (Env.le_put e6 (Env.le_put e3 (Env.le_put e1 (Env.le_put e0 (Env.le_nil _)))))))), Eq.mp (by kernel_rfl) h⟩), ⟨⟨trivial, ⟨trivial, ⟨trivial, trivial⟩⟩⟩, ⟨⟨trivial, ⟨trivial, trivial⟩⟩, ⟨(by
    intro φ ρ w h
    simp only [X8.S] at h
    obtain ⟨t0, e0, h⟩ := qP_elim h
    obtain ⟨t1, e1, h⟩ := qP_elim h
    obtain ⟨t3, e3, h⟩ := qI_elim h
    obtain ⟨t6, e6, h⟩ := qA_elim h
    obtain ⟨t9, e9, h⟩ := qI_elim h
    obtain ⟨t10, e10, h⟩ := qI_elim h
    obtain ⟨t112, e112, h⟩ := qI_elim h
    obtain ⟨t143, e143, h⟩ := qB_elim h
    exact ⟨((((((((Env.nil.put (some 0) (.pointer t0)).put (some 1) (.pointer t1)).put (some 3) (.int .u64 t3)).put (some 6) (.pointer (some t6))).put (some 9) (.int .i64 t9)).put (some 10) (.int .u64 t10)).put (some 112) (.int .i64 t112)).put (some 143) (.bool t143)), Env.le_put e143 (Env.le_put e112 (Env.le_put e10 (Env.le_put e9 (Env.le_put e6 (Env.le_put e3 (Env.le_put e1 (Env.le_put e0 (Env.le_nil _)))))))), Eq.mp (by kernel_rfl) h⟩), ⟨⟨trivial, ⟨(by
    intro φ ρ w h
    simp only [X8.S] at h
    obtain ⟨t0, e0, h⟩ := qP_elim h
    obtain ⟨t1, e1, h⟩ := qP_elim h
    obtain ⟨t6, e6, h⟩ := qA_elim h
    obtain ⟨t18, e18, h⟩ := qA_elim h
    exact ⟨((((Env.nil.put (some 0) (.pointer t0)).put (some 1) (.pointer t1)).put (some 6) (.pointer (some t6))).put (some 18) (.pointer (some t18))), Env.le_put e18 (Env.le_put e6 (Env.le_put e1 (Env.le_put e0 (Env.le_nil _)))), Eq.mp (by kernel_rfl) h⟩), ⟨⟨trivial, ⟨trivial, trivial⟩⟩, ⟨(by
    intro φ ρ w h
    simp only [X8.S] at h
    obtain ⟨t0, e0, h⟩ := qP_elim h
    obtain ⟨t1, e1, h⟩ := qP_elim h
    obtain ⟨t18, e18, h⟩ := qA_elim h
    exact ⟨(((Env.nil.put (some 0) (.pointer t0)).put (some 1) (.pointer t1)).put (some 18) (.pointer (some t18))), Env.le_put e18 (Env.le_put e1 (Env.le_put e0 (Env.le_nil _))), Eq.mp (by kernel_rfl) h⟩), ⟨trivial, ⟨trivial, ⟨trivial, ⟨trivial, ⟨trivial, ⟨(by
    intro φ ρ w h
    simp only [X8.S] at h
    obtain ⟨t19, e19, h⟩ := qA_elim h
    obtain ⟨t20p, t20n, t20c, e20, h⟩ := qSl_elim h
    obtain ⟨t24, e24, h⟩ := qB_elim h
    exact ⟨(((Env.nil.put (some 19) (.pointer (some t19))).put (some 20) (.slice t20p t20n t20c)).put (some 24) (.bool t24)), Env.le_put e24 (Env.le_put e20 (Env.le_put e19 (Env.le_nil _))), Eq.mp (by kernel_rfl) h⟩), ⟨⟨trivial, ⟨(by
    intro φ ρ w h
    simp only [X8.S] at h
    obtain ⟨t19, e19, h⟩ := qA_elim h
    obtain ⟨t20p, t20n, t20c, e20, h⟩ := qSl_elim h
    obtain ⟨t24, e24, h⟩ := qB_elim h
    obtain ⟨t25, e25, h⟩ := qI_elim h
    cases hk : φ 0 with
    | zero => rw [hk] at h; exact h.elim
    | succ k => rw [hk] at h; exact ⟨k, Nat.lt_succ_self k, ((((Env.nil.put (some 19) (.pointer (some t19))).put (some 20) (.slice t20p t20n t20c)).put (some 24) (.bool t24)).put (some 25) (.int .i64 t25)), Env.le_put e25 (Env.le_put e24 (Env.le_put e20 (Env.le_put e19 (Env.le_nil _)))), Eq.mp (by kernel_rfl) h⟩), ⟨⟨trivial, ⟨trivial, trivial⟩⟩, ⟨trivial, trivial⟩⟩⟩⟩, ⟨⟨trivial, ⟨(by
    intro φ ρ w h
    simp only [X8.S] at h
    obtain ⟨t20p, t20n, t20c, e20, h⟩ := qSl_elim h
    obtain ⟨t24, e24, h⟩ := qB_elim h
    obtain ⟨t26, e26, h⟩ := qI_elim h
    cases hk : φ 1 with
    | zero => rw [hk] at h; exact h.elim
    | succ k => rw [hk] at h; exact ⟨k, Nat.lt_succ_self k, (((Env.nil.put (some 20) (.slice t20p t20n t20c)).put (some 24) (.bool t24)).put (some 26) (.int .i64 t26)), Env.le_put e26 (Env.le_put e24 (Env.le_put e20 (Env.le_nil _))), Eq.mp (by kernel_rfl) h⟩), ⟨⟨trivial, ⟨trivial, trivial⟩⟩, ⟨trivial, trivial⟩⟩⟩⟩, ⟨trivial, trivial⟩⟩⟩⟩⟩⟩⟩⟩⟩⟩⟩⟩⟩, ⟨trivial, ⟨⟨trivial, ⟨⟨trivial, ⟨trivial, trivial⟩⟩, ⟨trivial, trivial⟩⟩⟩, ⟨⟨trivial, ⟨trivial, trivial⟩⟩, ⟨(by
    intro φ ρ w h
    simp only [X8.S] at h
    obtain ⟨t0, e0, h⟩ := qP_elim h
    obtain ⟨t1, e1, h⟩ := qP_elim h
    obtain ⟨t3, e3, h⟩ := qI_elim h
    obtain ⟨t6, e6, h⟩ := qA_elim h
    obtain ⟨t9, e9, h⟩ := qI_elim h
    obtain ⟨t10, e10, h⟩ := qI_elim h
    obtain ⟨t233, e233, h⟩ := qB_elim h
    exact ⟨(((((((Env.nil.put (some 0) (.pointer t0)).put (some 1) (.pointer t1)).put (some 3) (.int .u64 t3)).put (some 6) (.pointer (some t6))).put (some 9) (.int .i64 t9)).put (some 10) (.int .u64 t10)).put (some 233) (.bool t233)), Env.le_put e233 (Env.le_put e10 (Env.le_put e9 (Env.le_put e6 (Env.le_put e3 (Env.le_put e1 (Env.le_put e0 (Env.le_nil _))))))), Eq.mp (by kernel_rfl) h⟩), ⟨⟨trivial, ⟨trivial, ⟨trivial, trivial⟩⟩⟩, trivial⟩⟩⟩⟩⟩⟩⟩⟩⟩⟩⟩⟩, ⟨trivial, ⟨(by
    intro φ ρ w h
    simp only [X8.S] at h
    obtain ⟨t0, e0, h⟩ := qP_elim h
    obtain ⟨t1, e1, h⟩ := qP_elim h
    obtain ⟨t3, e3, h⟩ := qI_elim h
    obtain ⟨t6, e6, h⟩ := qA_elim h
    obtain ⟨t9, e9, h⟩ := qI_elim h
    obtain ⟨t34, e34, h⟩ := qI_elim h
    obtain ⟨t35, e35, h⟩ := qI_elim h
    obtain ⟨t36, e36, h⟩ := qA_elim h
    obtain ⟨t37p, t37n, t37c, e37, h⟩ := qSl_elim h
    exact ⟨(((((((((Env.nil.put (some 0) (.pointer t0)).put (some 1) (.pointer t1)).put (some 3) (.int .u64 t3)).put (some 6) (.pointer (some t6))).put (some 9) (.int .i64 t9)).put (some 34) (.int .i64 t34)).put (some 35) (.int .i64 t35)).put (some 36) (.pointer (some t36))).put (some 37) (.slice t37p t37n t37c)), Env.le_put e37 (Env.le_put e36 (Env.le_put e35 (Env.le_put e34 (Env.le_put e9 (Env.le_put e6 (Env.le_put e3 (Env.le_put e1 (Env.le_put e0 (Env.le_nil _))))))))), Eq.mp (by kernel_rfl) h⟩), ⟨trivial, ⟨trivial, ⟨trivial, ⟨trivial, ⟨(by
    intro φ ρ w h
    simp only [X8.S] at h
    obtain ⟨t38p, t38n, t38c, e38, h⟩ := qSl_elim h
    obtain ⟨t43, e43, h⟩ := qB_elim h
    exact ⟨((Env.nil.put (some 38) (.slice t38p t38n t38c)).put (some 43) (.bool t43)), Env.le_put e43 (Env.le_put e38 (Env.le_nil _)), Eq.mp (by kernel_rfl) h⟩), ⟨⟨trivial, ⟨(by
    intro φ ρ w h
    simp only [X8.S] at h
    obtain ⟨t38p, t38n, t38c, e38, h⟩ := qSl_elim h
    obtain ⟨t43, e43, h⟩ := qB_elim h
    obtain ⟨t44, e44, h⟩ := qI_elim h
    cases hk : φ 2 with
    | zero => rw [hk] at h; exact h.elim
    | succ k => rw [hk] at h; exact ⟨k, Nat.lt_succ_self k, (((Env.nil.put (some 38) (.slice t38p t38n t38c)).put (some 43) (.bool t43)).put (some 44) (.int .i64 t44)), Env.le_put e44 (Env.le_put e43 (Env.le_put e38 (Env.le_nil _))), Eq.mp (by kernel_rfl) h⟩), ⟨⟨trivial, ⟨trivial, trivial⟩⟩, ⟨trivial, trivial⟩⟩⟩⟩, ⟨trivial, trivial⟩⟩⟩⟩⟩⟩⟩⟩⟩⟩⟩⟩⟩⟩⟩
theorem X8.sound (a0 : Option Addr) (a1 : Option Addr) (a2_0 : Int) (a2_1 : Int) (a2_2 : Int) (a2_3 : Int) (a2_4 : Int) (a2_5 : Int) (a2_6 : Int) (a2_7 : Int) (a2_8p : Option Addr) (a2_8n : Nat) (a2_8c : Nat) (a2_9 : Bool) (a3 : Int) (w : World) (Q : Value → World → Prop) (h : X8.f a0 a1 a2_0 a2_1 a2_2 a2_3 a2_4 a2_5 a2_6 a2_7 a2_8p a2_8n a2_8c a2_9 a3 w Q) : CallR Tryz.prog 8 #[.pointer a0, .pointer a1, .agg #[.int .i64 a2_0, .int .i64 a2_1, .int .i64 a2_2, .int .i64 a2_3, .int .u64 a2_4, .int .u64 a2_5, .int .i64 a2_6, .int .u64 a2_7, .slice a2_8p a2_8n a2_8c, .bool a2_9], .int .u64 a3] w Q :=
  fn_sound noGr mixed Tryz.func8 (c := X8.c) (an := X8.an) (S := X8.S Q) (φ := fun _ => 0) (args := [.pointer a0, .pointer a1, .agg #[.int .i64 a2_0, .int .i64 a2_1, .int .i64 a2_2, .int .i64 a2_3, .int .u64 a2_4, .int .u64 a2_5, .int .i64 a2_6, .int .u64 a2_7, .slice a2_8p a2_8n a2_8c, .bool a2_9], .int .u64 a3]) (by kernel_rfl) (by kernel_rfl) (by kernel_rfl) (X8.v Q) (Eq.mp (by kernel_rfl) h)
/-! ### mooring/mooringlaw20.CallerPlays: function 3 -/
def X3.j1 (Q : Value → World → Prop) (b0 : Option Addr → Nat → Nat → Addr → Option Addr → Option Addr → Int → Int → World → Prop) (t3p : Option Addr) (t3n : Nat) (t3c : Nat) (t9 : Addr) (t10 : Option Addr) (t12 : Option Addr) (t13 : Int) (t14 : Int) (w : World) : Prop := drewK w fun w1 => (0 ≤ t14 ∧ t14 < ((t3n : Nat) : Int)) ∧ optP t3p fun p2 => ldI .u64 w1 ((p2.add (Int.toNat t14 * 10)).add 5) fun x3 => ldI .u64 w1 (t9.add 16) fun x4 => (3 : Int) ≠ 0 ∧ (IntKind.wrap .u64 ((IntKind.wrap .u64 (Int.tdiv x4 (3 : Int))) + (1 : Int))) ≠ 0 ∧ (0 ≤ t14 ∧ t14 < ((t3n : Nat) : Int)) ∧ optP t3p fun p5 => ldI .i64 w1 ((p5.add (Int.toNat t14 * 10)).add 0) fun x6 => ldI .i64 w1 ((p5.add (Int.toNat t14 * 10)).add 1) fun x7 => ldI .i64 w1 ((p5.add (Int.toNat t14 * 10)).add 2) fun x8 => ldI .i64 w1 ((p5.add (Int.toNat t14 * 10)).add 3) fun x9 => ldI .u64 w1 ((p5.add (Int.toNat t14 * 10)).add 4) fun x10 => ldI .u64 w1 ((p5.add (Int.toNat t14 * 10)).add 5) fun x11 => ldI .i64 w1 ((p5.add (Int.toNat t14 * 10)).add 6) fun x12 => ldI .u64 w1 ((p5.add (Int.toNat t14 * 10)).add 7) fun x13 => ldSl w1 ((p5.add (Int.toNat t14 * 10)).add 8) fun x14p x14n x14c => ldB w1 ((p5.add (Int.toNat t14 * 10)).add 9) fun x15 => CallR Tryz.prog 8 #[.pointer t10, .pointer t12, .agg #[.int .i64 x6, .int .i64 x7, .int .i64 x8, .int .i64 x9, .int .u64 x10, .int .u64 x11, .int .i64 x12, .int .u64 x13, .slice x14p x14n x14c, .bool x15], .int .u64 (IntKind.wrap .u64 (t13 + (Int.tmod x3 (IntKind.wrap .u64 ((IntKind.wrap .u64 (Int.tdiv x4 (3 : Int))) + (1 : Int))))))] w1 fun v16 w17 => ∃ (y18 : Bool), v16 = .bool y18 ∧ bcase (!y18) (Q (.bool false) w17) (CallR Tryz.prog 9 #[.pointer t10, .pointer t12] w17 fun v19 w20 => ∃ (y21 : Bool), v19 = .bool y21 ∧ bcase (!y21) (Q (.bool false) w20) (b0 t3p t3n t3c t9 t10 t12 (IntKind.wrap .u64 (t13 + (Int.tmod x3 (IntKind.wrap .u64 ((IntKind.wrap .u64 (Int.tdiv x4 (3 : Int))) + (1 : Int)))))) (IntKind.wrap .i64 (t14 + (1 : Int))) w20))
def X3.l0 (Q : Value → World → Prop) : Nat → (Option Addr) → Nat → Nat → Addr → (Option Addr) → (Option Addr) → Int → Int → World → Prop
  | 0, _, _, _, _, _, _, _, _, _ => False
  | k + 1, t3p, t3n, t3c, t9, t10, t12, t13, t14, w => bcase (decide (t14 < ((t3n : Nat) : Int))) (bcase (decide (t14 < (200 : Int))) (X3.j1 Q (X3.l0 Q k) t3p t3n t3c t9 t10 t12 t13 t14 w) (Q (.bool true) w)) (Q (.bool true) w)
def X3.j2 (Q : Value → World → Prop) (t3p : Option Addr) (t3n : Nat) (t3c : Nat) (t9 : Addr) (t10 : Option Addr) (t12 : Option Addr) (w : World) : Prop := ldI .u64 w (t9.add 20) fun x1 => ∃ m2, X3.l0 Q m2 t3p t3n t3c t9 t10 t12 x1 (0 : Int) w
def X3.f (a0_0 : Int) (a0_1 : Int) (a0_2 : Int) (a0_3 : Int) (a0_4 : Int) (a0_5 : Int) (a0_6 : Int) (a0_7 : Int) (a0_8 : Int) (a0_9 : Int) (a0_10 : Int) (a0_11 : Int) (a0_12 : Int) (a0_13 : Int) (a0_14 : Int) (a0_15 : Int) (a0_16 : Int) (a0_17 : Int) (a0_18 : Int) (a0_19 : Int) (a0_20 : Int) (a0_21 : Int) (a1 : Int) (a2 : Int) (a3p : Option Addr) (a3n : Nat) (a3c : Nat) (w : World) (Q : Value → World → Prop) : Prop := newK w #[.int .i64 a0_0, .int .i64 a0_1, .int .i64 a0_2, .int .i64 a0_3, .int .i64 a0_4, .int .i64 a0_5, .int .i64 a0_6, .int .i64 a0_7, .int .i64 a0_8, .int .i64 a0_9, .int .i64 a0_10, .int .i64 a0_11, .int .i64 a0_12, .int .i64 a0_13, .int .i64 a0_14, .int .i64 a0_15, .int .i64 a0_16, .int .i64 a0_17, .int .i64 a0_18, .int .i64 a0_19, .int .u64 a0_20, .int .u64 a0_21] 24 fun g1 w2 => ldI .i64 w2 (g1.add 0) fun x3 => ldI .i64 w2 (g1.add 1) fun x4 => ldI .i64 w2 (g1.add 2) fun x5 => ldI .i64 w2 (g1.add 3) fun x6 => ldI .i64 w2 (g1.add 4) fun x7 => ldI .i64 w2 (g1.add 5) fun x8 => ldI .i64 w2 (g1.add 6) fun x9 => ldI .i64 w2 (g1.add 7) fun x10 => ldI .i64 w2 (g1.add 8) fun x11 => ldI .i64 w2 (g1.add 9) fun x12 => ldI .i64 w2 (g1.add 10) fun x13 => ldI .i64 w2 (g1.add 11) fun x14 => ldI .i64 w2 (g1.add 12) fun x15 => ldI .i64 w2 (g1.add 13) fun x16 => ldI .i64 w2 (g1.add 14) fun x17 => ldI .i64 w2 (g1.add 15) fun x18 => ldI .i64 w2 (g1.add 16) fun x19 => ldI .i64 w2 (g1.add 17) fun x20 => ldI .i64 w2 (g1.add 18) fun x21 => ldI .i64 w2 (g1.add 19) fun x22 => ldI .u64 w2 (g1.add 20) fun x23 => ldI .u64 w2 (g1.add 21) fun x24 => CallR Tryz.prog 4 #[.agg #[.int .i64 x3, .int .i64 x4, .int .i64 x5, .int .i64 x6, .int .i64 x7, .int .i64 x8, .int .i64 x9, .int .i64 x10, .int .i64 x11, .int .i64 x12, .int .i64 x13, .int .i64 x14, .int .i64 x15, .int .i64 x16, .int .i64 x17, .int .i64 x18, .int .i64 x19, .int .i64 x20, .int .i64 x21, .int .i64 x22, .int .u64 x23, .int .u64 x24]] w2 fun v25 w26 => ∃ (y27 : Int) (y28 : Int) (y29 : Int) (y30 : Int) (y31 : Int) (y32 : Int) (y33 : Int) (y34 : Int) (y35 : Int) (y36 : Int) (y37 : Int) (y38 : Int) (y39 : Int) (y40 : Int) (y41 : Int) (y42 : Int) (y43 : Int) (y44 : Int) (y45 : Int) (y46 : Int) (y47 : Int) (y48 : Int), v25 = .agg #[.int .i64 y27, .int .i64 y28, .int .i64 y29, .int .i64 y30, .int .i64 y31, .int .i64 y32, .int .i64 y33, .int .i64 y34, .int .i64 y35, .int .i64 y36, .int .i64 y37, .int .u64 y38, .int .u64 y39, .int .u64 y40, .int .u64 y41, .int .u64 y42, .int .u64 y43, .int .i64 y44, .int .i64 y45, .int .i64 y46, .int .u64 y47, .int .u64 y48] ∧ newK w26 #[.int .i64 (0 : Int), .int .i64 (0 : Int), .int .i64 (0 : Int), .int .i64 (0 : Int), .int .i64 (0 : Int), .int .i64 (0 : Int), .int .i64 (0 : Int), .int .i64 (0 : Int), .int .i64 (0 : Int), .int .i64 (0 : Int), .int .i64 (0 : Int), .int .u64 (0 : Int), .int .u64 (0 : Int), .int .u64 (0 : Int), .int .u64 (0 : Int), .int .u64 (0 : Int), .int .u64 (0 : Int), .int .i64 (0 : Int), .int .i64 (0 : Int), .int .i64 (0 : Int), .int .u64 (0 : Int), .int .u64 (0 : Int)] 27 fun g49 w50 => stAll w50 g49 [.int .i64 y27, .int .i64 y28, .int .i64 y29, .int .i64 y30, .int .i64 y31, .int .i64 y32, .int .i64 y33, .int .i64 y34, .int .i64 y35, .int .i64 y36, .int .i64 y37, .int .u64 y38, .int .u64 y39, .int .u64 y40, .int .u64 y41, .int .u64 y42, .int .u64 y43, .int .i64 y44, .int .i64 y45, .int .i64 y46, .int .u64 y47, .int .u64 y48] fun w51 => ldI .i64 w51 (g49.add 0) fun x52 => ldI .i64 w51 (g49.add 1) fun x53 => ldI .i64 w51 (g49.add 2) fun x54 => ldI .i64 w51 (g49.add 3) fun x55 => ldI .i64 w51 (g49.add 4) fun x56 => ldI .i64 w51 (g49.add 5) fun x57 => ldI .i64 w51 (g49.add 6) fun x58 => ldI .i64 w51 (g49.add 7) fun x59 => ldI .i64 w51 (g49.add 8) fun x60 => ldI .i64 w51 (g49.add 9) fun x61 => ldI .i64 w51 (g49.add 10) fun x62 => ldI .u64 w51 (g49.add 11) fun x63 => ldI .u64 w51 (g49.add 12) fun x64 => ldI .u64 w51 (g49.add 13) fun x65 => ldI .u64 w51 (g49.add 14) fun x66 => ldI .u64 w51 (g49.add 15) fun x67 => ldI .u64 w51 (g49.add 16) fun x68 => ldI .i64 w51 (g49.add 17) fun x69 => ldI .i64 w51 (g49.add 18) fun x70 => ldI .i64 w51 (g49.add 19) fun x71 => ldI .u64 w51 (g49.add 20) fun x72 => ldI .u64 w51 (g49.add 21) fun x73 => CallR Tryz.prog 5 #[.agg #[.int .i64 x52, .int .i64 x53, .int .i64 x54, .int .i64 x55, .int .i64 x56, .int .i64 x57, .int .i64 x58, .int .i64 x59, .int .i64 x60, .int .i64 x61, .int .i64 x62, .int .u64 x63, .int .u64 x64, .int .u64 x65, .int .u64 x66, .int .u64 x67, .int .u64 x68, .int .i64 x69, .int .i64 x70, .int .i64 x71, .int .u64 x72, .int .u64 x73], .int .i64 a1, .int .u64 a2] w51 fun v74 w75 => ∃ (y76 : Option Addr) (y77 : Int), v74 = .tuple #[.pointer y76, .int .i64 y77] ∧ ldI .i64 w75 (g49.add 0) fun x78 => ldI .i64 w75 (g49.add 1) fun x79 => ldI .i64 w75 (g49.add 2) fun x80 => ldI .i64 w75 (g49.add 3) fun x81 => ldI .i64 w75 (g49.add 4) fun x82 => ldI .i64 w75 (g49.add 5) fun x83 => ldI .i64 w75 (g49.add 6) fun x84 => ldI .i64 w75 (g49.add 7) fun x85 => ldI .i64 w75 (g49.add 8) fun x86 => ldI .i64 w75 (g49.add 9) fun x87 => ldI .i64 w75 (g49.add 10) fun x88 => ldI .u64 w75 (g49.add 11) fun x89 => ldI .u64 w75 (g49.add 12) fun x90 => ldI .u64 w75 (g49.add 13) fun x91 => ldI .u64 w75 (g49.add 14) fun x92 => ldI .u64 w75 (g49.add 15) fun x93 => ldI .u64 w75 (g49.add 16) fun x94 => ldI .i64 w75 (g49.add 17) fun x95 => ldI .i64 w75 (g49.add 18) fun x96 => ldI .i64 w75 (g49.add 19) fun x97 => ldI .u64 w75 (g49.add 20) fun x98 => ldI .u64 w75 (g49.add 21) fun x99 => CallR Tryz.prog 6 #[.agg #[.int .i64 x78, .int .i64 x79, .int .i64 x80, .int .i64 x81, .int .i64 x82, .int .i64 x83, .int .i64 x84, .int .i64 x85, .int .i64 x86, .int .i64 x87, .int .i64 x88, .int .u64 x89, .int .u64 x90, .int .u64 x91, .int .u64 x92, .int .u64 x93, .int .u64 x94, .int .i64 x95, .int .i64 x96, .int .i64 x97, .int .u64 x98, .int .u64 x99], .int .i64 a1, .int .u64 a2] w75 fun v100 w101 => ∃ (y102 : Option Addr), v100 = .pointer y102 ∧ CallR Tryz.prog 7 #[] w101 fun v103 w104 => ∃ (y105 : Bool), v103 = .bool y105 ∧ bcase (!y105) (Q (.bool false) w104) (bcase (Option.isNone y102) (bcase (y77 == (1 : Int)) (Q (.bool (Option.isNone y76)) w104) (Q (.bool false) w104)) (bcase (y77 != (0 : Int)) (Q (.bool false) w104) (bcase (Option.isNone y76) (Q (.bool false) w104) (X3.j2 Q a3p a3n a3c g49 y76 y102 w104))))
def X3.S (Q : Value → World → Prop) : Segs
  | 0, φ, ρ, w => qSl (ρ 3) fun t3p t3n t3c => qA (ρ 9) fun t9 => qP (ρ 10) fun t10 => qP (ρ 12) fun t12 => qI .u64 (ρ 13) fun t13 => qI .i64 (ρ 14) fun t14 => X3.l0 Q (φ 0) t3p t3n t3c t9 t10 t12 t13 t14 w
  | 1, φ, ρ, w => qSl (ρ 3) fun t3p t3n t3c => qA (ρ 9) fun t9 => qP (ρ 10) fun t10 => qP (ρ 12) fun t12 => qI .u64 (ρ 13) fun t13 => qI .i64 (ρ 14) fun t14 => X3.j1 Q (X3.l0 Q (φ 0)) t3p t3n t3c t9 t10 t12 t13 t14 w
  | 2, φ, ρ, w => qSl (ρ 3) fun t3p t3n t3c => qA (ρ 9) fun t9 => qP (ρ 10) fun t10 => qP (ρ 12) fun t12 => X3.j2 Q t3p t3n t3c t9 t10 t12 w
  | _, _, _, _ => False
noncomputable def X3.an : Ann := (.seq .leaf (.seq .leaf (.seq .leaf (.seq .leaf (.seq (.seq .leaf (.cond (.seq .leaf .leaf) .leaf)) (.seq (.seq .leaf (.cond (.seq .leaf .leaf) .leaf)) (.seq (.seq .leaf (.cond (.seq .leaf .leaf) .leaf)) (.join 2 (.seq .leaf (.seq (.seq .leaf (.block (.loop 0 (.seq (.seq .leaf (.cond .leaf .leaf)) (.join 1 (.seq (.block (.seq (.draw [0, 0, 0, 6, 14, 30, 0, 64, 192, 448, 1022, 2047, 4095] [[0, 1, 2, 3, 4, 5, 6, 7, 8, 9, 10, 11, 12]]) (.seq .leaf (.cond (.seq .leaf .leaf) .leaf)))) .leaf)))))) (.seq .leaf .leaf)))))))))))
noncomputable def X3.c : Code := Tryz.f3.body.getD .skip
theorem X3.v (Q : Value → World → Prop) : V Tryz.prog (X3.S Q) X3.an X3.c (retC Tryz.prog Tryz.f3 Q) := ⟨trivial, ⟨trivial, ⟨trivial, ⟨trivial, ⟨⟨trivial, ⟨⟨trivial, trivial⟩, trivial⟩⟩, ⟨⟨trivial, ⟨⟨trivial, trivial⟩, trivial⟩⟩, ⟨⟨trivial, ⟨⟨trivial, trivial⟩, trivial⟩⟩, ⟨(by
    intro φ ρ w h
    simp only [X3.S] at h
    obtain ⟨t3p, t3n, t3c, e3, h⟩ := qSl_elim h
    obtain ⟨t9, e9, h⟩ := qA_elim h
    obtain ⟨t10, e10, h⟩ := qP_elim h
    obtain ⟨t12, e12, h⟩ := qP_elim h
    exact ⟨((((Env.nil.put (some 3) (.slice t3p t3n t3c)).put (some 9) (.pointer (some t9))).put (some 10) (.pointer t10)).put (some 12) (.pointer t12)), Env.le_put e12 (Env.le_put e10 (Env.le_put e9 (Env.le_put e3 (Env.le_nil _)))), Eq.mp (by kernel_rfl) h⟩), ⟨trivial, ⟨⟨trivial, ⟨(by
    intro φ ρ w h
    simp only [X3.S] at h
    obtain ⟨t3p, t3n, t3c, e3, h⟩ := qSl_elim h
    obtain ⟨t9, e9, h⟩ := qA_elim h
    obtain ⟨t10, e10, h⟩ := qP_elim h
    obtain ⟨t12, e12, h⟩ := qP_elim h
    obtain ⟨t13, e13, h⟩ := qI_elim h
    obtain ⟨t14, e14, h⟩ := qI_elim h
    cases hk : φ 0 with
    | zero => rw [hk] at h; exact h.elim
    | succ k => rw [hk] at h; exact ⟨k, Nat.lt_succ_self k, ((((((Env.nil.put (some 3) (.slice t3p t3n t3c)).put (some 9) (.pointer (some t9))).put (some 10) (.pointer t10)).put (some 12) (.pointer t12)).put (some 13) (.int .u64 t13)).put (some 14) (.int .i64 t14)), Env.le_put e14 (Env.le_put e13 (Env.le_put e12 (Env.le_put e10 (Env.le_put e9 (Env.le_put e3 (Env.le_nil _)))))), Eq.mp (by kernel_rfl) h⟩), ⟨⟨trivial, ⟨trivial, trivial⟩⟩, ⟨(by
    intro φ ρ w h
    simp only [X3.S] at h
    obtain ⟨t3p, t3n, t3c, e3, h⟩ := qSl_elim h
    obtain ⟨t9, e9, h⟩ := qA_elim h
    obtain ⟨t10, e10, h⟩ := qP_elim h
    obtain ⟨t12, e12, h⟩ := qP_elim h
    obtain ⟨t13, e13, h⟩ := qI_elim h
    obtain ⟨t14, e14, h⟩ := qI_elim h
    exact ⟨((((((Env.nil.put (some 3) (.slice t3p t3n t3c)).put (some 9) (.pointer (some t9))).put (some 10) (.pointer t10)).put (some 12) (.pointer t12)).put (some 13) (.int .u64 t13)).put (some 14) (.int .i64 t14)), Env.le_put e14 (Env.le_put e13 (Env.le_put e12 (Env.le_put e10 (Env.le_put e9 (Env.le_put e3 (Env.le_nil _)))))), Eq.mp (by kernel_rfl) h⟩), ⟨⟨trivial, ⟨trivial, ⟨⟨trivial, trivial⟩, trivial⟩⟩⟩, trivial⟩⟩⟩⟩⟩, ⟨trivial, trivial⟩⟩⟩⟩⟩⟩⟩⟩⟩⟩⟩
theorem X3.sound (a0_0 : Int) (a0_1 : Int) (a0_2 : Int) (a0_3 : Int) (a0_4 : Int) (a0_5 : Int) (a0_6 : Int) (a0_7 : Int) (a0_8 : Int) (a0_9 : Int) (a0_10 : Int) (a0_11 : Int) (a0_12 : Int) (a0_13 : Int) (a0_14 : Int) (a0_15 : Int) (a0_16 : Int) (a0_17 : Int) (a0_18 : Int) (a0_19 : Int) (a0_20 : Int) (a0_21 : Int) (a1 : Int) (a2 : Int) (a3p : Option Addr) (a3n : Nat) (a3c : Nat) (w : World) (Q : Value → World → Prop) (h : X3.f a0_0 a0_1 a0_2 a0_3 a0_4 a0_5 a0_6 a0_7 a0_8 a0_9 a0_10 a0_11 a0_12 a0_13 a0_14 a0_15 a0_16 a0_17 a0_18 a0_19 a0_20 a0_21 a1 a2 a3p a3n a3c w Q) : CallR Tryz.prog 3 #[.agg #[.int .i64 a0_0, .int .i64 a0_1, .int .i64 a0_2, .int .i64 a0_3, .int .i64 a0_4, .int .i64 a0_5, .int .i64 a0_6, .int .i64 a0_7, .int .i64 a0_8, .int .i64 a0_9, .int .i64 a0_10, .int .i64 a0_11, .int .i64 a0_12, .int .i64 a0_13, .int .i64 a0_14, .int .i64 a0_15, .int .i64 a0_16, .int .i64 a0_17, .int .i64 a0_18, .int .i64 a0_19, .int .u64 a0_20, .int .u64 a0_21], .int .i64 a1, .int .u64 a2, .slice a3p a3n a3c] w Q :=
  fn_sound noGr mixed Tryz.func3 (c := X3.c) (an := X3.an) (S := X3.S Q) (φ := fun _ => 0) (args := [.agg #[.int .i64 a0_0, .int .i64 a0_1, .int .i64 a0_2, .int .i64 a0_3, .int .i64 a0_4, .int .i64 a0_5, .int .i64 a0_6, .int .i64 a0_7, .int .i64 a0_8, .int .i64 a0_9, .int .i64 a0_10, .int .i64 a0_11, .int .i64 a0_12, .int .i64 a0_13, .int .i64 a0_14, .int .i64 a0_15, .int .i64 a0_16, .int .i64 a0_17, .int .i64 a0_18, .int .i64 a0_19, .int .u64 a0_20, .int .u64 a0_21], .int .i64 a1, .int .u64 a2, .slice a3p a3n a3c]) (by kernel_rfl) (by kernel_rfl) (by kernel_rfl) (X3.v Q) (Eq.mp (by kernel_rfl) h)
/-! ### mooring/mooringlaw20.same: function 9 -/
def X9.l2 (Q : Value → World → Prop) (b1 : Option Addr → Option Addr → Int → World → Prop) : Nat → (Option Addr) → (Option Addr) → Int → Int → World → Prop
  | 0, _, _, _, _, _ => False
  | k + 1, t0, t1, t6, t7, w => bcase (decide (t7 ≤ (5 : Int))) (newK w #[.int .i64 (0 : Int), .int .u64 (0 : Int)] 37 fun g1 w2 => stAll w2 g1 [.int .i64 t6, .int .u64 t7] fun w3 => drewK w3 fun w4 => ldI .i64 w4 (g1.add 0) fun x5 => ldI .u64 w4 (g1.add 1) fun x6 => CallR Tryz.prog 33 #[.pointer t0, .agg #[.int .i64 x5, .int .u64 x6]] w4 fun v7 w8 => ∃ (y9 : Bool), v7 = .bool y9 ∧ ldI .i64 w8 (g1.add 0) fun x10 => ldI .u64 w8 (g1.add 1) fun x11 => ((∀ j u, ([.int .i64 x10, .int .u64 x11] : List Value)[j]? = some u → World.cell? w4 (g1.add j) = some u) ∧ (∀ j u, ([.int .i64 x10, .int .u64 x11] : List Value)[j]? = some u → World.cell? w8 (g1.add j) = some u)) ∧ CallR Tryz.prog 34 #[.pointer t1, .agg #[.int .i64 x10, .int .u64 x11]] w8 fun v12 w13 => ∃ (y14 : Bool), v12 = .bool y14 ∧ bcase (!(y9 == y14)) (Q (.bool false) w13) (X9.l2 Q b1 k t0 t1 t6 (IntKind.wrap .u64 (t7 + (1 : Int))) w13)) (b1 t0 t1 (IntKind.wrap .i64 (t6 + (1 : Int))) w)
def X9.l1 (Q : Value → World → Prop) : Nat → (Option Addr) → (Option Addr) → Int → World → Prop
  | 0, _, _, _, _ => False
  | k + 1, t0, t1, t6, w => bcase (decide (t6 ≤ (3 : Int))) (∃ m1, X9.l2 Q (X9.l1 Q k) m1 t0 t1 t6 (0 : Int) w) (Q (.bool true) w)
def X9.l0 (Q : Value → World → Prop) : Nat → (Option Addr) → (Option Addr) → Int → World → Prop
  | 0, _, _, _, _ => False
  | k + 1, t0, t1, t5, w => optP t1 fun p1 => ldI .i64 w ((p1.add 0).add 0) fun x2 => bcase (decide (t5 ≤ (IntKind.wrap .i64 (x2 + (1 : Int))))) (CallR Tryz.prog 31 #[.pointer t0, .int .i64 t5] w fun v3 w4 => ∃ (y5 : Int), v3 = .int .u64 y5 ∧ CallR Tryz.prog 32 #[.pointer t1, .int .i64 t5] w4 fun v6 w7 => ∃ (y8 : Int), v6 = .int .u64 y8 ∧ bcase (y5 != y8) (Q (.bool false) w7) (X9.l0 Q k t0 t1 (IntKind.wrap .i64 (t5 + (1 : Int))) w7)) (∃ m9, X9.l1 Q m9 t0 t1 (0 : Int) w)
def X9.j3 (Q : Value → World → Prop) (t0 : Option Addr) (t1 : Option Addr) (w : World) : Prop := ∃ m1, X9.l0 Q m1 t0 t1 (-1 : Int) w
def X9.f (a0 : Option Addr) (a1 : Option Addr) (w : World) (Q : Value → World → Prop) : Prop := drewK w fun w1 => CallR Tryz.prog 28 #[.pointer a0] w1 fun v2 w3 => ∃ (y4p : Option Addr) (y4n y4c : Nat), v2 = .slice y4p y4n y4c ∧ optP a1 fun p5 => ldSl w3 ((p5.add 89).add 2) fun x6p x6n x6c => (World.cell? w1 ((p5.add 89).add 2) = some (.slice x6p x6n x6c) ∧ World.cell? w3 ((p5.add 89).add 2) = some (.slice x6p x6n x6c)) ∧ CallR Tryz.prog 27 #[.slice y4p y4n y4c, .slice x6p x6n x6c] w3 fun v7 w8 => ∃ (y9 : Bool), v7 = .bool y9 ∧ bcase (!y9) (Q (.bool false) w8) (CallR Tryz.prog 29 #[.pointer a0] w8 fun v10 w11 => ∃ (y12p : Option Addr) (y12n y12c : Nat), v10 = .slice y12p y12n y12c ∧ CallR Tryz.prog 30 #[.pointer a1] w11 fun v13 w14 => ∃ (y15p : Option Addr) (y15n y15c : Nat), v13 = .slice y15p y15n y15c ∧ CallR Tryz.prog 22 #[.slice y12p y12n y12c, .slice y15p y15n y15c] w14 fun v16 w17 => ∃ (y18 : Bool), v16 = .bool y18 ∧ bcase (!y18) (Q (.bool false) w17) (X9.j3 Q a0 a1 w17))
def X9.S (Q : Value → World → Prop) : Segs
  | 0, φ, ρ, w => qP (ρ 0) fun t0 => qP (ρ 1) fun t1 => qI .i64 (ρ 5) fun t5 => X9.l0 Q (φ 0) t0 t1 t5 w
  | 1, φ, ρ, w => qP (ρ 0) fun t0 => qP (ρ 1) fun t1 => qI .i64 (ρ 6) fun t6 => X9.l1 Q (φ 1) t0 t1 t6 w
  | 2, φ, ρ, w => qP (ρ 0) fun t0 => qP (ρ 1) fun t1 => qI .i64 (ρ 6) fun t6 => qI .u64 (ρ 7) fun t7 => X9.l2 Q (X9.l1 Q (φ 1)) (φ 2) t0 t1 t6 t7 w
  | 3, φ, ρ, w => qP (ρ 0) fun t0 => qP (ρ 1) fun t1 => X9.j3 Q t0 t1 w
  | _, _, _, _ => False
noncomputable def X9.an : Ann := (.seq .leaf (.seq (.seq (.draw [0, 1, 0, 4, 12, 28, 60, 127, 255, 511, 1023, 2047, 1023, 8191, 16383, 32767, 65535] [[0, 1, 2, 3, 4, 5, 6, 7, 8, 9, 10, 11, 12, 13, 14, 15, 16]]) (.cond (.seq .leaf .leaf) .leaf)) (.join 3 (.seq (.seq .leaf (.block (.loop 0 (.seq (.seq .leaf (.cond .leaf .leaf)) (.seq (.block (.seq .leaf (.cond (.seq .leaf .leaf) .leaf))) .leaf))))) (.seq (.seq .leaf (.block (.loop 1 (.seq (.seq .leaf (.cond .leaf .leaf)) (.seq (.block (.seq .leaf (.block (.loop 2 (.seq (.seq .leaf (.cond .leaf .leaf)) (.seq (.block (.seq .leaf (.seq (.draw [0, 0, 3, 0, 0, 31, 63] [[0, 1, 2, 3, 4, 5, 6]]) (.cond (.seq .leaf .leaf) .leaf)))) .leaf)))))) .leaf))))) (.seq .leaf .leaf))))))
noncomputable def X9.c : Code := Tryz.f9.body.getD .skip
theorem X9.v (Q : Value → World → Prop) : V Tryz.prog (X9.S Q) X9.an X9.c (retC Tryz.prog Tryz.f9 Q) := ⟨trivial, ⟨⟨trivial, ⟨⟨trivial, trivial⟩, trivial⟩⟩, ⟨(by
    intro φ ρ w h
    simp only [X9.S] at h
    obtain ⟨t0, e0, h⟩ := qP_elim h
    obtain ⟨t1, e1, h⟩ := qP_elim h
    exact ⟨((Env.nil.put (some 0) (.pointer t0)).put (some 1) (.pointer t1)), Env.le_put e1 (Env.le_put e0 (Env.le_nil _)), Eq.mp (by kernel_rfl) h⟩), ⟨⟨trivial, ⟨(by
    intro φ ρ w h
    simp only [X9.S] at h
    obtain ⟨t0, e0, h⟩ := qP_elim h
    obtain ⟨t1, e1, h⟩ := qP_elim h
    obtain ⟨t5, e5, h⟩ := qI_elim h
    cases hk : φ 0 with
    | zero => rw [hk] at h; exact h.elim
    | succ k => rw [hk] at h; exact ⟨k, Nat.lt_succ_self k, (((Env.nil.put (some 0) (.pointer t0)).put (some 1) (.pointer t1)).put (some 5) (.int .i64 t5)), Env.le_put e5 (Env.le_put e1 (Env.le_put e0 (Env.le_nil _))), Eq.mp (by kernel_rfl) h⟩), ⟨⟨trivial, ⟨trivial, trivial⟩⟩, ⟨⟨trivial, ⟨⟨trivial, trivial⟩, trivial⟩⟩, trivial⟩⟩⟩⟩, ⟨⟨trivial, ⟨(by
    intro φ ρ w h
    simp only [X9.S] at h
    obtain ⟨t0, e0, h⟩ := qP_elim h
    obtain ⟨t1, e1, h⟩ := qP_elim h
    obtain ⟨t6, e6, h⟩ := qI_elim h
    cases hk : φ 1 with
    | zero => rw [hk] at h; exact h.elim
    | succ k => rw [hk] at h; exact ⟨k, Nat.lt_succ_self k, (((Env.nil.put (some 0) (.pointer t0)).put (some 1) (.pointer t1)).put (some 6) (.int .i64 t6)), Env.le_put e6 (Env.le_put e1 (Env.le_put e0 (Env.le_nil _))), Eq.mp (by kernel_rfl) h⟩), ⟨⟨trivial, ⟨trivial, trivial⟩⟩, ⟨⟨trivial, ⟨(by
    intro φ ρ w h
    simp only [X9.S] at h
    obtain ⟨t0, e0, h⟩ := qP_elim h
    obtain ⟨t1, e1, h⟩ := qP_elim h
    obtain ⟨t6, e6, h⟩ := qI_elim h
    obtain ⟨t7, e7, h⟩ := qI_elim h
    cases hk : φ 2 with
    | zero => rw [hk] at h; exact h.elim
    | succ k => rw [hk] at h; exact ⟨k, Nat.lt_succ_self k, ((((Env.nil.put (some 0) (.pointer t0)).put (some 1) (.pointer t1)).put (some 6) (.int .i64 t6)).put (some 7) (.int .u64 t7)), Env.le_put e7 (Env.le_put e6 (Env.le_put e1 (Env.le_put e0 (Env.le_nil _)))), Eq.mp (by kernel_rfl) h⟩), ⟨⟨trivial, ⟨trivial, trivial⟩⟩, ⟨⟨trivial, ⟨trivial, ⟨⟨trivial, trivial⟩, trivial⟩⟩⟩, trivial⟩⟩⟩⟩, trivial⟩⟩⟩⟩, ⟨trivial, trivial⟩⟩⟩⟩⟩⟩
theorem X9.sound (a0 : Option Addr) (a1 : Option Addr) (w : World) (Q : Value → World → Prop) (h : X9.f a0 a1 w Q) : CallR Tryz.prog 9 #[.pointer a0, .pointer a1] w Q :=
  fn_sound noGr mixed Tryz.func9 (c := X9.c) (an := X9.an) (S := X9.S Q) (φ := fun _ => 0) (args := [.pointer a0, .pointer a1]) (by kernel_rfl) (by kernel_rfl) (by kernel_rfl) (X9.v Q) (Eq.mp (by kernel_rfl) h)
end Go.Proofs.YtdgoalhnkegbmaaGreatX
namespace Go.Proofs.YtdgoalhnkegbmaaGreatX
open Go.RowKit
set_option linter.unusedVariables false
set_option linter.unusedSimpArgs false
set_option maxRecDepth 100000
/-- a row of IDs, handed in or beside the tables -/
structure RowIn (w : World) (al ar : List Nat) (p : Option Addr) (c : Nat) (l : List (Int × Int)) : Prop where
  cells : Cells w p (l.flatMap idc)
  nil : p = none → c = 0
  le : l.length ≤ c
  by_ : l.length ≤ 8796093022208
  o : l ≠ [] → ∀ k ∈ fbl p, k ∉ al ∧ k ∉ ar ∧ k < w.heap.size
section
variable {W : Base} {w w' w2 : World} {Q : Value → World → Prop} {g h x0 gs gt : Nat} {ft al ft' al' fr ar fr' ar' al2 ar2 X : List Nat} {S S' R R' : Cs} {p rp : Option Addr} {c rc : Nat} {l refs : List (Int × Int)} {cs : List Value} {e : TypeId} {y : Cp} {z : Cl} {C : Cfg} {x : Sq} {now to op field tn ts num : Int}
theorem cells_lt {cs : List Value} (hc : Cells w p cs) (hn : cs ≠ []) : ∀ k ∈ fbl p, k < w.heap.size := fun k hk => by
  match cs, hn with
  | u :: us, _ =>
    obtain ⟨a, ha, hv⟩ := hc 0 u rfl
    subst ha
    have := World.block_lt_of_cell? w _ hv
    rw [add_block] at this
    simp [fbl] at hk
    omega
theorem RowIn.of_sr (s : SR W w al ar p c l) (hl : l.length ≤ 8796093022208) : RowIn w al ar p c l := ⟨s.r.cells, fun hp => by have := s.r; subst hp; exact this.none_c.2.1, s.r.le, hl, fun _ k hk => ⟨(s.o k hk).1, (s.o k hk).2.1, s.r.lt k hk⟩⟩
theorem RowIn.of_arg {V : World} (q : P2 ⟨V, []⟩ w g ft al S h fr ar R) (hc : Cells V p (l.flatMap idc)) (h0 : p = none → c = 0) (hle : l.length ≤ c) (hl : l.length ≤ 8796093022208) : RowIn w al ar p c l :=
  ⟨hc.keep' q.F, h0, hle, hl, fun hn k hk => by
    have hk2 := cells_lt hc (fun h => hn (by
      cases l with
      | nil => rfl
      | cons a b => simp at h)) k hk
    have hz : V.heap.size ≤ w.heap.size := q.F.size
    refine ⟨fun hm => ?_, fun hm => ?_, by omega⟩
    · rcases q.n1 k hm with h | h
      · cases h
      · have h : V.heap.size ≤ k := h
        omega
    · rcases q.n2 k hm with h | h
      · cases h
      · have h : V.heap.size ≤ k := h
        omega⟩
theorem RowIn.next (s : RowIn w al ar p c l) (t : T2 w al ar w' al' ar') : RowIn w' al' ar' p c l := by
  by_cases hn : l = []
  · subst hn
    exact ⟨fun j u hj => by simp at hj, s.nil, s.le, s.by_, fun h => absurd rfl h⟩
  · have o := s.o hn
    have z := t.f.size
    have non : ∀ k ∈ fbl p, k ∉ al ++ ar := fun k hk hm => (List.mem_append.1 hm).elim (o k hk).1 (o k hk).2.1
    refine ⟨s.cells.keep t.f non, s.nil, s.le, s.by_, fun _ k hk => ⟨fun hm => ?_, fun hm => ?_, by have := (o k hk).2.2; omega⟩⟩
    · rcases t.a k hm with h | h
      · exact non k hk h
      · have := (o k hk).2.2; omega
    · rcases t.r k hm with h | h
      · exact non k hk h
      · have := (o k hk).2.2; omega
theorem RowIn.keep' (s : RowIn w al ar p c l) (f : Fr [] w w') : RowIn w' al ar p c l := s.next (T2.keep f)
theorem RowIn.stays (s : RowIn w al ar p c l) (hf : ∀ k ∈ fr, k ∈ ar) : Stays w fr p l := fun F w' f hF => by
  by_cases hn : l = []
  · subst hn
    exact fun j u hj => by simp at hj
  · refine s.cells.keep f (fun k hk hm => ?_)
    have o := s.o hn k hk
    rcases hF k hm with h | h
    · exact o.2.1 (hf k h)
    · omega
theorem args_raw (hx : x.near = false) (hQ : ∀ w', Fr [] w w' → Q (.tuple #[.int .i64 x.to, .int .i64 x.op, .int .i64 x.field, .agg #[.int .i64 x.tn, .int .u64 x.ts], .slice rp x.refs.length rc]) w') :
    CallR Tryz.prog 25 #[C.val, x.val rp rc] w Q := by
  apply X25.sound
  unfold X25.f
  refine newB fun g1 w2 b1 f2 h1 => newB fun g3 w4 b3 f4 h3 => newB fun g5 w6 b5 f6 h5 => ?_
  have l34 := b3.lt
  have b3 : Blk w6 g3 (x.cells rp rc) 40 := b3.keep' f6
  have z2 := f2.size
  have z4 := f4.size
  have z6 := f6.size
  refine ld_bool (b3.cat 9 _ rfl) (bc_bool (fun _ => drawn fun w8 f8 _ => ?_) (fun h => by rw [hx] at h; cases h))
  have b38 := b3.keep' f8
  refine ld_int (b38.cat 1 _ rfl) (ld_int (b38.cat 2 _ rfl) (ld_int (b38.cat 3 _ rfl) (ld_int (b38.cat.sub 6 0 rfl) (ld_int (b38.cat.sub 6 1 rfl) (ld_sl (a := rp) (n := x.refs.length) (c := rc) (b38.cat 8 _ rfl) (stAllB (vs := idc (x.tn, x.ts)) (b5.keep' f8) rfl fun w15 b15 f15 => ?_))))))
  have l3 := b3.lt
  have l5 := b5.lt
  have b315 := b38.off1 (by omega) f15
  refine ⟨⟨b38.cat 8 _ rfl, b315.cat 8 _ rfl⟩, ld_int (b15.cat 0 _ rfl) (ld_int (b15.cat 1 _ rfl) (hQ w15 ?_))⟩
  exact ((f2.tr (f4.tr f6)).tr f8).loc f15 (by omega)
/-- the rows in hand are written over -/
theorem wipe2 {b : Bool} {n : Nat} (hn : n ≤ 8796093022208) (hQ : ∀ w', P2 W w' g ft al S h fr ar R → Q (.bool b) w') :
    ∀ (f i : Nat) (w : World) (l : List (Int × Int)), n - i < f → i ≤ n → P2 W w g ft al S h fr ar R → SR W w al ar p c l → l.length = n → X8.l2 Q f p n c b (i : Int) w
  | 0, i, w, l, hf, _, _, _, _ => absurd hf (Nat.not_lt_zero _)
  | f + 1, i, w, l, hf, hi, q, s, hl => by
    rw [X8.l2]
    refine bc_dec (fun h1 => ⟨⟨by omega, by omega⟩, ?_⟩) (fun h1 => hQ w q)
    rw [Int.toNat_natCast]
    refine sr_put s hl (by omega) (7, 7) fun w' l' s' hl' f' => ?_
    rw [i64w ((i : Int) + 1) (by omega) (by omega), show (i : Int) + 1 = ((i + 1 : Nat) : Int) by omega]
    exact wipe2 hn hQ f (i + 1) w' l' (by omega) (by omega) (q.offL s.o f') s' hl'
theorem wipe1 {b : Bool} {n : Nat} (hn : n ≤ 8796093022208) (hQ : ∀ w', P2 W w' g ft al S h fr ar R → Q (.bool b) w') :
    ∀ (f i : Nat) (w : World) (l : List (Int × Int)), n - i < f → i ≤ n → P2 W w g ft al S h fr ar R → SR W w al ar p c l → l.length = n → X8.l1 Q f p n c b (i : Int) w
  | 0, i, w, l, hf, _, _, _, _ => absurd hf (Nat.not_lt_zero _)
  | f + 1, i, w, l, hf, hi, q, s, hl => by
    rw [X8.l1]
    refine bc_dec (fun h1 => ⟨⟨by omega, by omega⟩, ?_⟩) (fun h1 => hQ w q)
    rw [Int.toNat_natCast]
    refine sr_put s hl (by omega) (8, 8) fun w' l' s' hl' f' => ?_
    rw [i64w ((i : Int) + 1) (by omega) (by omega), show (i : Int) + 1 = ((i + 1 : Nat) : Int) by omega]
    exact wipe1 hn hQ f (i + 1) w' l' (by omega) (by omega) (q.offL s.o f') s' hl'
theorem wipe0 {b : Bool} {n k c2 gm : Nat} {p2 : Option Addr} {cm : List Value} {l2 : List (Int × Int)} (hn : n ≤ 8796093022208) (hk : k ≤ 8796093022208) (hcm : cm[10]? = some (.slice p2 k c2)) (hd : ∀ j ∈ fbl p2, j ∉ fbl p ∧ j ≠ gm) (hQ : ∀ w', P2 W w' g ft al S h fr ar R → Q (.bool b) w') :
    ∀ (f i : Nat) (w : World) (l2 : List (Int × Int)), k - i < f → i ≤ k → P2 W w g ft al S h fr ar R → Blk w gm cm 63 → SR W w al ar p c l → l.length = n → SR W w al ar p2 c2 l2 → l2.length = k → X8.l0 Q f (at0 gm 0) p n c b (i : Int) w
  | 0, i, w, l2, hf, _, _, _, _, _, _, _ => absurd hf (Nat.not_lt_zero _)
  | f + 1, i, w, l2, hf, hi, q, bm, s, hl, s2, hl2 => by
    rw [X8.l0]
    refine ld_sl (bm.cat 10 _ hcm) (bc_dec (fun h1 => ld_sl (bm.cat 10 _ hcm) ⟨⟨by omega, by omega⟩, ?_⟩) (fun h1 => ⟨n + 1, wipe1 hn hQ _ 0 w l (by omega) (by omega) q s hl⟩))
    rw [Int.toNat_natCast]
    refine sr_put s2 hl2 (by omega) (9, 9) fun w' l' s' hl' f' => ?_
    rw [i64w ((i : Int) + 1) (by omega) (by omega), show (i : Int) + 1 = ((i + 1 : Nat) : Int) by omega]
    exact wipe0 (l2 := l2) hn hk hcm hd hQ f (i + 1) w' l' (by omega) (by omega) (q.offL s2.o f') (bm.keep f' (fun hm => (hd _ hm).2 rfl)) ⟨s.r.keep f' (fun j hj hm => (hd j hm).1 hj), s.o⟩ hl s' hl'
theorem right_dec (P : Prop) : ∃ r : Bool, r = true ↔ P := by
  by_cases hp : P
  · exact ⟨true, fun _ => hp, fun _ => rfl⟩
  · exact ⟨false, fun h => (by cases h), fun h => absurd h hp⟩
theorem play_begin (q : P2 W w g ft al S h fr ar S) (i : SI S) (bs : OB W w al ar gs (x.cells rp rc) 40) (bt : OB W w al ar gt (idc (tn, ts)) 37) (ri : RowIn w al ar p c refs) (hw : ¬ 3 ≤ x.what % 10) (hl : refs.length ≤ 2 ∨ refs = x.refs)
    (hQ : ∀ S' ft' al' fr' ar' w', P2 W w' g ft' al' S' h fr' ar' S' → PlayTo S x S' → Q (.bool true) w') : X8.j11 Q (some (at0 g 0)) (some (at0 h 0)) now (at0 gs 0) to op field (at0 gt 0) p refs.length c w := by
  unfold X8.j11
  refine newB fun g1 w2 b1 f2 h1 => copyIdsC (ri.cells.keep' f2) ri.nil ri.by_ b1 fun p5 c5 w4 r5 n5 f4 => ?_
  have z2 := f2.size
  have F4 : Fr [] w w4 := f2.loc f4 h1
  have q4 := q.keep' F4
  have s5 : SR W w4 al ar p5 c5 refs := q.srN r5 (fun k hk => by rcases n5 k hk with h | h <;> omega)
  have bt4 := bt.keep' F4
  have bs4 := bs.keep' F4
  have ri4 := ri.keep' F4
  obtain ⟨r, hR⟩ := right_dec (Right (askM S (newY to op field tn ts x.n refs now) 1))
  refine ld_int (bt4.b.cat 0 _ rfl) (ld_int (bt4.b.cat 1 _ rfl) (ld_int (bs4.b.cat 5 _ rfl) (begin_spec q4.t s5.r ri.by_ hR ?_)))
  intro ft' al' w10 t10 f10 e10 a10
  obtain ⟨q10, T10⟩ := q4.nextT t10 f10 a10
  have bt10 := T10.ob bt4
  have bs10 := T10.ob bs4
  have ri10 := ri4.next T10
  have s10 := T10.sr s5
  refine ⟨_, _, rfl, ld_int (bt10.b.cat 0 _ rfl) (ld_int (bt10.b.cat 1 _ rfl) (ld_int (bs10.b.cat 5 _ rfl) (rbegin_spec q10.r i (ri10.stays q10.r.sub) ri.nil ri.le ri.by_ hR ?_)))⟩
  intro fr' ar' w17 r17 f17 e17 a17
  obtain ⟨q17, T17⟩ := q10.nextR r17 f17 a17
  have ri17 := ri10.next T17
  have s17 := T17.sr s10
  have hlen := ri.by_
  refine ⟨_, _, rfl, bc_bool (fun _ => bc_bool (fun _ => ids_spec s17.r.cells ri17.cells (by omega) fun w21 f21 => ⟨_, rfl, ?_⟩) (fun e => by simp at e)) (fun e => by simp at e)⟩
  unfold X8.j10
  refine ⟨refs.length + 1, wipe2 (R := (beginS S r to op field tn ts x.n refs now).1) ri.by_ (fun w' q' => ?_) _ 0 w21 refs (by omega) (by omega) (q17.keep' f21) (s17.keep' f21) rfl⟩
  rw [decide_eq_true (show refs = refs from rfl)]
  refine hQ _ _ _ _ _ w' q' (to_begin i hw (fun hr => ?_) hl)
  have hh := right_to (hR.1 hr)
  exact ⟨hh.1, fun e => hh.2.2 e.symm⟩
end
end Go.Proofs.YtdgoalhnkegbmaaGreatX
namespace Go.Proofs.YtdgoalhnkegbmaaGreatX
open Go.RowKit
set_option linter.unusedVariables false
set_option linter.unusedSimpArgs false
set_option maxRecDepth 100000
section
variable {W : Base} {w w' w2 : World} {Q : Value → World → Prop} {g h x0 gs gt gm : Nat} {ft al ft' al' fr ar fr' ar' al2 ar2 X : List Nat} {S S' R R' : Cs} {p rp : Option Addr} {c rc B : Nat} {l refs : List (Int × Int)} {cs : List Value} {e : TypeId} {y : Cp} {z : Cl} {C : Cfg} {x : Sq} {now to op field tn ts num what : Int} {m : Msg}
theorem stepM_list : (stepM S now).list = [] := by unfold stepM; split <;> rfl
theorem szd_top (t : PC w g ft al S) : Szd 8796093022208 S := fun f hf => t.lens hf
theorem step_lens (i : SI S) (h : Szd B S) : (stepC S now).2.1.refs.length ≤ B ∧ (stepC S now).2.1.result.length ≤ B := by
  unfold stepC
  cases ha : after ilt S.l S.last with
  | none => exact ⟨by simp, by simp⟩
  | some kk =>
    simp only
    obtain ⟨y, hy⟩ := after_mem ha
    have hg := (get_iff ilt_lin i.srt).2 hy
    rw [hg]
    simp only [Option.getD_some]
    have hz := szd_get i h hg
    split <;> exact hz
theorem stepM_lens (i : SI S) (h : Szd B S) : (stepM S now).refs.length ≤ B := by
  unfold stepM
  split
  · exact (step_lens i h).1
  · simp
theorem await_lens (i : SI S) (h : Szd B S) (hn : 0 ≤ num) : (awaitC S to num now).2.1.refs.length ≤ B ∧ (awaitC S to num now).2.1.result.length ≤ B := by
  unfold awaitC
  cases hg : Go.Proofs.YtdgoalhnkegbmaaGreatX.getC S to num with
  | none => exact ⟨by simp, by simp⟩
  | some y =>
    simp only
    have hz := szd_getC i h hn hg
    split
    · exact ⟨by simp, by simp⟩
    · split
      · exact hz
      · split
        · exact ⟨by simp, by simp⟩
        · split <;> exact ⟨by simp, by simp⟩
/-- what play goes on with -/
def Went (W : Base) (g h : Nat) (S : Cs) (x : Sq) (Q : Value → World → Prop) : Prop := ∀ S' ft' al' fr' ar' w', P2 W w' g ft' al' S' h fr' ar' S' → PlayTo S x S' → Q (.bool true) w'
theorem play_await (q : P2 W w g ft al S h fr ar S) (i : SI S) (hn : 0 ≤ num) (hQ : Went W g h S x Q) :
    X8.j7 Q (some (at0 g 0)) (some (at0 h 0)) now (at0 gs 0) to num true w := by
  unfold X8.j7
  refine bc_bool (fun _ => ?_) (fun e => by cases e)
  refine await_spec q.t ?_
  intro z1 ft1 al1 w2 c2 t2 f2 e2 a2
  obtain ⟨q2, T2'⟩ := q.nextT t2 f2 a2
  obtain ⟨rp, rc, sp, sc, hz, r1, s1⟩ := q.cnT c2
  subst hz
  refine ⟨_, _, _, _, _, _, _, _, _, _, _, _, _, _, _, _, _, _, _, _, _, rfl, newB fun g20 w21 b20 f21 h20 => stAllB (vs := ((awaitC S to num now).2.1.cl rp rc sp sc).cells) b20 rfl fun w22 b22 f22 => ?_⟩
  have o20 := q2.new h20
  have T22 : T2 w2 al1 ar w22 al1 ar := T2.off h20 f21 f22
  have q22 := (q2.keep' f21).off o20 f22
  have r22 := T22.sr r1
  have s22 := T22.sr s1
  have ob22 : OB W w22 al1 ar g20 ((awaitC S to num now).2.1.cl rp rc sp sc).cells 50 := ⟨b22, o20⟩
  refine rawait_spec q22.r i hn ?_
  intro z2 fr2 ar2 w24 c24 r24 f24 e24 a24
  obtain ⟨q24, T24⟩ := q22.nextR r24 f24 a24
  obtain ⟨rp', rc', sp', sc', hz2, r3, s3⟩ := q22.cnR c24
  subst hz2
  refine ⟨_, _, _, _, _, _, _, _, _, _, _, _, _, _, _, _, _, _, _, _, _, rfl, newB fun g42 w43 b42 f43 h42 => stAllB (vs := ((awaitC S to num now).2.1.cl rp' rc' sp' sc').cells) b42 rfl fun w44 b44 f44 => ?_⟩
  have o42 := q24.new h42
  have T44 : T2 w24 al1 ar2 w44 al1 ar2 := T2.off h42 f43 f44
  have q44 := (q24.keep' f43).off o42 f44
  have ob44 := T44.ob (T24.ob ob22)
  have r1' := T44.sr (T24.sr r22)
  have s1' := T44.sr (T24.sr s22)
  have r3' := T44.sr r3
  have s3' := T44.sr s3
  have hl := await_lens (to := to) (now := now) i (szd_top q.t) hn
  refine bc_bool (fun _ => bc_eqt' rfl (ld_Cl (s := (awaitC S to num now).2.1.cl rp rc sp sc) ob44.b.cat (ld_Cl (s := (awaitC S to num now).2.1.cl rp' rc' sp' sc') b44.cat (hcall_spec r1'.r s1'.r r3'.r s3'.r hl.1 hl.2 fun w76 f76 => ⟨_, rfl, ?_⟩)))) (fun e => by simp at e)
  exact hQ _ _ _ _ _ w76 (q44.keep' f76) (to_await i hn)
theorem play_step (q : P2 W w g ft al S h fr ar S) (i : SI S) (hQ : Went W g h S x Q) :
    X8.j9 Q (some (at0 g 0)) (some (at0 h 0)) now (at0 gs 0) to num what true w := by
  unfold X8.j9
  refine bc_bool (fun _ => ?_) (fun e => by cases e)
  refine step_spec q.t ?_
  intro z1 mp mc ft1 al1 w2 c2 m2 n2 t2 f2 e2 a2
  obtain ⟨q2, T2'⟩ := q.nextT t2 f2 a2
  obtain ⟨rp, rc, sp, sc, hz, r1, s1⟩ := q.cnT c2
  have m1 := q.srT m2 n2
  subst hz
  refine ⟨_, _, _, _, _, _, _, _, _, _, _, _, _, _, _, _, _, _, _, _, _, _, _, _, _, _, _, _, _, _, _, _, _, _, _, _, _, _, _, _, _, _, _, rfl, newB fun g38 w39 b38 f39 h38 => newB fun g40 w41 b40 f41 h40 => ?_⟩
  have l38 := b38.lt
  refine stAllB (vs := ((stepC S now).2.1.cl rp rc sp sc).cells) (b38.keep' f41) rfl fun w42 b42 f42 => ?_
  refine stAllB (vs := (stepM S now).cells mp mc none 0) (b40.off1 (by omega) f42) rfl fun w43 b43 f43 => ?_
  have z39 := f39.size
  have o38 := q2.new h38
  have o40 := q2.new (x := g40) (by omega)
  have T43 : T2 w2 al1 ar w43 al1 ar := T2.off (by omega) ((f39.tr f41).loc f42 h38) f43
  have q43 := (((q2.keep' f39).keep' f41).off o38 f42).off o40 f43
  have ob1 : OB W w43 al1 ar g38 ((stepC S now).2.1.cl rp rc sp sc).cells 50 := ⟨b42.off1 (by omega) f43, o38⟩
  have ob2 : OB W w43 al1 ar g40 ((stepM S now).cells mp mc none 0) 63 := ⟨b43, o40⟩
  have r43 := T43.sr r1
  have s43 := T43.sr s1
  have m43 := T43.sr m1
  refine rstep_spec q43.r i ?_
  intro z2 mp' mc' fr2 ar2 w45 c45 m45 n45 t45 f45 e45 a45
  obtain ⟨q45, T45⟩ := q43.nextR t45 f45 a45
  obtain ⟨rp', rc', sp', sc', hz2, r3, s3⟩ := q43.cnR c45
  have m3 := q43.srR m45 n45
  subst hz2
  refine ⟨_, _, _, _, _, _, _, _, _, _, _, _, _, _, _, _, _, _, _, _, _, _, _, _, _, _, _, _, _, _, _, _, _, _, _, _, _, _, _, _, _, _, _, rfl, newB fun g81 w82 b81 f82 h81 => newB fun g83 w84 b83 f84 h83 => ?_⟩
  have l81 := b81.lt
  refine stAllB (vs := ((stepC S now).2.1.cl rp' rc' sp' sc').cells) (b81.keep' f84) rfl fun w85 b85 f85 => ?_
  refine stAllB (vs := (stepM S now).cells mp' mc' none 0) (b83.off1 (by omega) f85) rfl fun w86 b86 f86 => ?_
  have z82 := f82.size
  have o81 := q45.new h81
  have o83 := q45.new (x := g83) (by omega)
  have T86 : T2 w45 al1 ar2 w86 al1 ar2 := T2.off (by omega) ((f82.tr f84).loc f85 h81) f86
  have q86 := (((q45.keep' f82).keep' f84).off o81 f85).off o83 f86
  have T := T45.tr T86
  have ob1' := T.ob ob1
  have ob2' := T.ob ob2
  have b85' := b85.off1 (by omega) f86
  have hl := step_lens (now := now) i (szd_top q.t)
  refine bc_bool (fun _ => ld_Cl (s := (stepC S now).2.1.cl rp rc sp sc) ob1'.b.cat (ld_Cl (s := (stepC S now).2.1.cl rp' rc' sp' sc') b85'.cat (hcall_spec (T.sr r43).r (T.sr s43).r (T86.sr r3).r (T86.sr s3).r hl.1 hl.2 fun w118 f118 => ⟨_, rfl, bc_bool (fun _ => ?_) (fun e => by cases e)⟩))) (fun e => by simp at e)
  refine ld_Mg (m := stepM S now) (rp := mp) (rc := mc) (lp := none) (lc := 0) (ob2'.b.keep' f118).cat (ld_Mg (m := stepM S now) (rp := mp') (rc := mc') (lp := none) (lc := 0) (b86.keep' f118).cat ?_)
  exact same_spec stepM_list ((T.sr m43).r.keep' f118) ((T86.sr m3).r.keep' f118) (stepM_lens i (szd_top q.t)) fun w159 f159 => ⟨_, rfl, hQ _ _ _ _ _ w159 ((q86.keep' f118).keep' f159) (to_step i)⟩
theorem play_settle {e : Int} (q : P2 W w g ft al S h fr ar S) (i : SI S) (hn : 0 ≤ num) (hQ : Went W g h S x Q) :
    CallR Tryz.prog 16 #[.pointer (some (at0 g 0)), .int .i64 to, .int .u64 num, .int .i64 e] w fun v25 w26 => ∃ (y27 : Bool), v25 = .bool y27 ∧ CallR Tryz.prog 23 #[.pointer (some (at0 h 0)), .int .i64 to, .int .u64 num, .int .i64 e] w26 fun v28 w29 => ∃ (y30 : Bool), v28 = .bool y30 ∧ Q (.bool (y27 == y30)) w29 := by
  refine settle_spec q.t ?_
  intro ft1 al1 w2 t2 f2 e2 a2
  obtain ⟨q2, T2'⟩ := q.nextT t2 f2 a2
  refine ⟨_, rfl, rsettle_spec q2.r i hn ?_⟩
  intro fr3 ar3 w4 t4 f4 e4 a4
  obtain ⟨q4, T4⟩ := q2.nextR t4 f4 a4
  refine ⟨_, rfl, ?_⟩
  have := hQ _ _ _ _ _ w4 q4 (to_settle (x := x) i hn)
  simpa using this
end
end Go.Proofs.YtdgoalhnkegbmaaGreatX
namespace Go.Proofs.YtdgoalhnkegbmaaGreatX
open Go.RowKit
set_option linter.unusedVariables false
set_option linter.unusedSimpArgs false
set_option maxRecDepth 100000
section
variable {W : Base} {w w' w2 : World} {Q : Value → World → Prop} {g h x0 gs gt gm : Nat} {ft al ft' al' fr ar fr' ar' al2 ar2 X : List Nat} {S S' R R' : Cs} {p rp : Option Addr} {c rc B : Nat} {l refs : List (Int × Int)} {cs : List Value} {e : TypeId} {y : Cp} {z : Cl} {C : Cfg} {x : Sq} {now to op field tn ts num what kind frm call code value : Int} {m : Msg}
theorem reply_len : (replyC S kind to frm call code value refs).2.1.length ≤ refs.length := by
  unfold replyC
  split
  · simp
  · cases Go.Proofs.YtdgoalhnkegbmaaGreatX.getC S frm call with
    | none => simp
    | some y => simp only; split; · simp
                split; · simp
                split <;> simp
theorem play_j5 (q : P2 W w g ft al S h fr ar S) (i : SI S) (hn : 0 ≤ m.call) (hl : m.list = []) (om : OB W w al ar gm (m.cells rp rc none 0) 63) (ri : RowIn w al ar rp rc m.refs) (hr : m.refs = x.refs) (hQ : Went W g h S x Q) :
    X8.j5 Q (some (at0 g 0)) (some (at0 h 0)) (at0 gm 0) w := by
  unfold X8.j5
  have hll : m.list.length = 0 := by rw [hl]; rfl
  refine ld_Mg (m := m) (rp := rp) (rc := rc) (lp := none) (lc := 0) om.b.cat (newB fun g20 w21 b20 f21 h20 => stAllB (vs := m.cells rp rc none 0) b20 rfl fun w22 b22 f22 => newB fun g23 w24 b23 f24 h23 => ?_)
  have F22 : Fr [] w w22 := f21.loc f22 h20
  have F24 := F22.tr f24
  have ri24 := ri.keep' F24
  have om24 := om.keep' F24
  have l22 := b22.lt
  have z24 := F24.size
  have z242 := f24.size
  refine ld_sl (a := rp) (n := m.refs.length) (c := rc) (om24.b.cat 10 _ rfl) (copyIdsC ri24.cells ri.nil ri.by_ b23 fun p28 c28 w27 r28 n28 f27 => ?_)
  have z22 := F22.size
  have F27 : Fr [] w w27 := F24.loc f27 (by omega)
  have z27 := F27.size
  have n20 : ∀ j ∈ fbl p28, j ≠ g20 ∧ w.heap.size ≤ j := fun j hj => by rcases n28 j hj with h | h <;> omega
  have b27 := (b22.keep' f24).off1 (by omega) f27
  refine stB b27 (by simp [Msg.cells]) fun w29 b29 f29 => ?_
  have b29 : Blk w29 g20 (m.cells p28 c28 none 0) 63 := b29
  have F29 : Fr [] w w29 := F27.loc f29 h20
  have q29 := q.keep' F29
  have om29 := om.keep' F29
  have ri29 := ri.keep' F29
  have r29 : IdRow w29 p28 c28 m.refs := IdRow.off r28 (fun hm => (n20 _ hm).1 rfl) f29
  have s29 : SR W w29 al ar p28 c28 m.refs := q.srN r29 (fun k hk => (n20 k hk).2)
  have o20 : OB W w29 al ar g20 (m.cells p28 c28 none 0) 63 := ⟨b29, q.new h20⟩
  refine ld_Mg (m := m) (rp := p28) (rc := c28) (lp := none) (lc := 0) b29.cat ?_
  have hsub := q29.t.sub
  refine reply_spec' (m := m) (lc := 0) q29.t s29.r ri.by_ (fun k hk hm => (s29.o k hk).1 (hsub k hm)) ?_
  intro tp tc ft1 al1 w50 r50 n50 t50 f50 e50 a50
  obtain ⟨q50, T50⟩ := q29.nextT t50 f50 a50
  have sa := q29.srT r50 n50
  have om50 := T50.ob om29
  have ri50 := ri29.next T50
  refine ⟨_, _, _, _, rfl, ld_Mg (m := m) (rp := rp) (rc := rc) (lp := none) (lc := 0) om50.b.cat (rreply_spec (m := m) (lc := 0) q50.r i hn (ri50.stays q50.r.sub) ri.nil ri.by_ ?_)⟩
  intro tp2 tc2 fr1 ar1 w73 r73 n73 t73 f73 e73 a73
  obtain ⟨q73, T73⟩ := q50.nextR t73 f73 a73
  have hlen : (replyC S m.kind m.to m.frm m.call m.code m.value m.refs).2.1.length ≤ 8796093022208 := Nat.le_trans reply_len ri.by_
  have sa73 := T73.sr sa
  refine ⟨_, _, _, _, rfl, bc_bool (fun _ => ids_spec sa73.r.cells r73.cells (by omega) fun w77 f77 => ⟨_, rfl, ?_⟩) (fun e => by simp at e)⟩
  unfold X8.j4
  have T := T50.tr T73
  have o77 := (T.ob o20).keep' f77
  have s77 := (T.sr s29).keep' f77
  have l29 := s29.r.lt
  have k29 := b29.lt
  refine ⟨m.refs.length + 1, wipe0 (gm := g20) (cm := m.cells p28 c28 none 0) (l2 := m.refs) (R := (replyC S m.kind m.to m.frm m.call m.code m.value m.refs).1) hlen ri.by_ rfl (fun j hj => ⟨fun hm => ?_, (n20 j hj).1⟩) (fun w' q' => ?_) _ 0 w77 m.refs (by omega) (by omega) (q73.keep' f77) o77.b (sa73.keep' f77) rfl s77 rfl⟩
  · have := l29 j hj
    have := (n50 j hm).1
    omega
  · rw [decide_eq_true (show (replyC S m.kind m.to m.frm m.call m.code m.value m.refs).2.1 = (replyC S m.kind m.to m.frm m.call m.code m.value m.refs).2.1 from rfl)]
    refine hQ _ _ _ _ _ w' q' ?_
    rw [hr]
    exact to_reply i hn
theorem play_j6 {nd cd : Int} (q : P2 W w g ft al S h fr ar S) (i : SI S) (hn : 0 ≤ num) (bs : OB W w al ar gs (x.cells rp rc) 40) (om : OB W w al ar gm ((⟨2, to, nd, num, 0, 0, 0, 0, 0, 0, x.refs, x.n, cd, 0, 0, 0, 0, 0, []⟩ : Msg).cells rp rc none 0) 63) (hg : x.refs ≠ [] → gm ∉ fbl rp) (ri : RowIn w al ar rp rc x.refs) (hQ : Went W g h S x Q) :
    X8.j6 Q (some (at0 g 0)) (some (at0 h 0)) (at0 gs 0) (at0 gm 0) w := by
  unfold X8.j6
  refine ld_int (bs.b.cat 3 _ rfl) ⟨by omega, bc_bool (fun _ => ld_int (bs.b.cat 2 _ rfl) (stB om.b (by simp [Msg.cells]) fun w3 b3 f3 => ?_)) (fun _ => ?_)⟩
  · have b3 : Blk w3 gm ((⟨2, to, x.op, num, 0, 0, 0, 0, 0, 0, x.refs, x.n, cd, 0, 0, 0, 0, 0, []⟩ : Msg).cells rp rc none 0) 63 := b3
    have q3 := q.off om.o f3
    refine play_j5 (m := ⟨2, to, x.op, num, 0, 0, 0, 0, 0, 0, x.refs, x.n, cd, 0, 0, 0, 0, 0, []⟩) q3 i hn rfl ⟨b3, om.o⟩ ⟨?_, ri.nil, ri.le, ri.by_, fun h k hk => ⟨(ri.o h k hk).1, (ri.o h k hk).2.1, by have := (ri.o h k hk).2.2; have := f3.size; omega⟩⟩ rfl hQ
    by_cases he : x.refs = []
    · exact fun j u hj => by
        have hj : (x.refs.flatMap idc)[j]? = some u := hj
        rw [he] at hj
        simp at hj
    · exact ri.cells.keep f3 (fun k hk hm => hg he (by simp at hm; rwa [← hm]))
  · exact play_j5 (m := ⟨2, to, nd, num, 0, 0, 0, 0, 0, 0, x.refs, x.n, cd, 0, 0, 0, 0, 0, []⟩) q i hn rfl om ri rfl hQ
theorem play_j8 (q : P2 W w g ft al S h fr ar S) (i : SI S) (hn : 0 ≤ num) (bs : OB W w al ar gs (x.cells rp rc) 40) (ri : RowIn w al ar rp rc x.refs) (hQ : Went W g h S x Q) :
    X8.j8 Q (some (at0 g 0)) (some (at0 h 0)) now (at0 gs 0) to num what true w := by
  unfold X8.j8
  refine bc_bool (fun _ => drawn fun w1 f1 _ => ⟨?_, ?_⟩) (fun e => by cases e)
  · have q1 := q.keep' f1
    have bs1 := bs.keep' f1
    have ri1 := ri.keep' f1
    simp only [optP_some]
    refine ld_int q1.r.node (ld_int (bs1.b.cat 2 _ rfl) (pick_spec (by omega) (by omega) ⟨_, rfl, ⟨q1.r.node, q1.r.node⟩, ld_int (bs1.b.cat 5 _ rfl) ⟨⟨bs1.b.cat 5 _ rfl, bs1.b.cat 5 _ rfl⟩, ld_sl (a := rp) (n := x.refs.length) (c := rc) (bs1.b.cat 8 _ rfl) ⟨⟨bs1.b.cat 8 _ rfl, bs1.b.cat 8 _ rfl⟩, newB fun g10 w11 b10 f11 h10 => ?_⟩⟩⟩))
    have bs11 := bs1.keep' f11
    have q11 := q1.keep' f11
    refine ⟨⟨bs1.b.cat 8 _ rfl, bs11.b.cat 8 _ rfl⟩, ⟨bs1.b.cat 5 _ rfl, bs11.b.cat 5 _ rfl⟩, ⟨bs1.b.cat 2 _ rfl, bs11.b.cat 2 _ rfl⟩, ⟨q1.r.node, q11.r.node⟩, ?_⟩
    refine stAllB (vs := (⟨2, to, S.node, num, 0, 0, 0, 0, 0, 0, x.refs, x.n, x.op % 11, 0, 0, 0, 0, 0, []⟩ : Msg).cells rp rc none 0) b10 rfl fun w12 b12 f12 => ?_
    have o10 := q1.new h10
    have T : T2 w1 al ar w12 al ar := T2.off h10 f11 f12
    exact play_j6 (q11.off o10 f12) i hn (T.ob bs1) ⟨b12, o10⟩ (fun he hm => by have := (ri1.o he g10 hm).2.2; omega) (ri1.next T) hQ
  · have q1 := q.keep' f1
    have bs1 := bs.keep' f1
    have ri1 := ri.keep' f1
    simp only [optP_some]
    refine ld_int q1.r.node (ld_int (bs1.b.cat 2 _ rfl) (ld_int (bs1.b.cat 5 _ rfl) (ld_sl (a := rp) (n := x.refs.length) (c := rc) (bs1.b.cat 8 _ rfl) (newB fun g10 w11 b10 f11 h10 => ?_))))
    have bs11 := bs1.keep' f11
    have q11 := q1.keep' f11
    refine ⟨⟨bs1.b.cat 8 _ rfl, bs11.b.cat 8 _ rfl⟩, ⟨bs1.b.cat 5 _ rfl, bs11.b.cat 5 _ rfl⟩, ⟨bs1.b.cat 2 _ rfl, bs11.b.cat 2 _ rfl⟩, ⟨q1.r.node, q11.r.node⟩, ?_⟩
    refine pick_spec (by omega) (by omega) ⟨_, rfl, ⟨bs11.b.cat 8 _ rfl, bs11.b.cat 8 _ rfl⟩, ⟨bs11.b.cat 5 _ rfl, bs11.b.cat 5 _ rfl⟩, ⟨q11.r.node, q11.r.node⟩, ?_⟩
    refine stAllB (vs := (⟨2, to, S.node, num, 0, 0, 0, 0, 0, 0, x.refs, x.n, x.op % 11, 0, 0, 0, 0, 0, []⟩ : Msg).cells rp rc none 0) b10 rfl fun w12 b12 f12 => ?_
    have o10 := q1.new h10
    have T : T2 w1 al ar w12 al ar := T2.off h10 f11 f12
    exact play_j6 (q11.off o10 f12) i hn (T.ob bs1) ⟨b12, o10⟩ (fun he hm => by have := (ri1.o he g10 hm).2.2; omega) (ri1.next T) hQ
end
end Go.Proofs.YtdgoalhnkegbmaaGreatX
namespace Go.Proofs.YtdgoalhnkegbmaaGreatX
open Go.RowKit
set_option linter.unusedVariables false
set_option linter.unusedSimpArgs false
set_option maxRecDepth 100000
section
variable {W : Base} {w w' w2 : World} {Q : Value → World → Prop} {g h x0 gs gt gm : Nat} {ft al ft' al' fr ar fr' ar' al2 ar2 X : List Nat} {S S' R R' : Cs} {p rp : Option Addr} {c rc B : Nat} {l refs : List (Int × Int)} {cs : List Value} {e : TypeId} {y : Cp} {z : Cl} {C : Cfg} {x : Sq} {now to op field tn ts num what kind frm call code value : Int} {m : Msg}
theorem args_any (hw : SqW x) (hn : 1 ≤ C.nodes ∧ C.nodes ≤ 64) (q : P2 W w g ft al S h fr ar R) (ri : RowIn w al ar rp rc x.refs)
    (hQ : ∀ to op field tn ts refs p c w', RowIn w' al ar p c refs → (refs.length ≤ 2 ∨ refs = x.refs) → Fr [] w w' → Q (.tuple #[.int .i64 to, .int .i64 op, .int .i64 field, .agg #[.int .i64 tn, .int .u64 ts], .slice p refs.length c]) w') :
    CallR Tryz.prog 25 #[C.val, x.val rp rc] w Q := by
  by_cases hx : x.near = true
  · refine args_spec hw hn ri.cells hx fun p c w' r n f => hQ _ _ _ _ _ _ p c w' ?_ ?_ f
    · have hl : (argRefs x).length ≤ 2 := by unfold argRefs; rw [List.length_map, List.length_take]; omega
      exact RowIn.of_sr (q.srN r n) (by omega)
    · left
      unfold argRefs
      rw [List.length_map, List.length_take]
      omega
  · exact args_raw (by simpa using hx) fun w' f => hQ _ _ _ _ _ _ _ _ w' (ri.keep' f) (.inr rfl) f
theorem P2.grow (q : P2 W w g ft al S h fr ar R) (o : Out W al ar x0) (hx : x0 < w.heap.size) : P2 W w g ft (x0 :: al) S h fr ar R :=
  ⟨q.t.grow (fun k hk => by simp [hk]) (fun k hk => by rcases List.mem_cons.1 hk with h | h; · rw [h]; exact hx
                                                       · exact q.t.lt k h), q.r, fun k hk => by rcases List.mem_cons.1 hk with h | h; · rw [h]; exact o.2.1
                                                                                                · exact q.sep k h, fun k hk => by rcases List.mem_cons.1 hk with h | h; · rw [h]; exact .inr o.2.2
                                                                                                                                  · exact q.n1 k h, q.n2, q.F⟩
theorem RowIn.grow (s : RowIn w al ar p c l) (hx : w.heap.size ≤ x0) : RowIn w (x0 :: al) ar p c l := ⟨s.cells, s.nil, s.le, s.by_, fun hn k hk => by
  have o := s.o hn k hk
  refine ⟨fun hm => ?_, o.2.1, o.2.2⟩
  rcases List.mem_cons.1 hm with h | h
  · omega
  · exact o.1 h⟩
theorem RowIn.st (s : RowIn w (x0 :: al) ar p c l) (f : Fr [x0] w w') : RowIn w' al ar p c l := by
  by_cases hn : l = []
  · subst hn
    exact ⟨fun j u hj => by simp at hj, s.nil, s.le, s.by_, fun h => absurd rfl h⟩
  · have z := f.size
    exact ⟨s.cells.keep f (fun k hk hm => (s.o hn k hk).1 (by simp at hm; simp [hm])), s.nil, s.le, s.by_, fun _ k hk => ⟨fun hm => (s.o hn k hk).1 (by simp [hm]), (s.o hn k hk).2.1, by have := (s.o hn k hk).2.2; omega⟩⟩
theorem play_j7f (hx : SqW x) (q : P2 W w g ft al S h fr ar S) (i : SI S) (bs : OB W w al ar gs (x.cells rp rc) 40) (ri : RowIn w al ar rp rc x.refs) (hw : ¬ 3 ≤ x.what % 10) (hQ : Went W g h S x Q) :
    X8.j7 Q (some (at0 g 0)) (some (at0 h 0)) now (at0 gs 0) to num false w := by
  unfold X8.j7
  simp only [optP_some]
  refine bc_bool (fun e => by cases e) (fun _ => drawn fun w1 f1 _ => ?_)
  have q1 := q.keep' f1
  have bs1 := bs.keep' f1
  have ri1 := ri.keep' f1
  constructor
  · refine ld_Cfg (s := S.c) q1.r.cfg0 (ld_Sq (x := x) (p := rp) (c := rc) bs1.b.cat (args_any hx i.nodes q1 ri1 fun to op field tn ts refs p c w2 ri2 hl f2 => ⟨_, _, _, _, _, _, _, _, rfl, newB fun g3 w3 b3 f3 h3 => ?_⟩))
    have F3 := f2.tr f3
    have q3 := q1.keep' F3
    have bs3 := bs1.keep' F3
    refine ⟨⟨(bs1.keep' f2).b.cat, bs3.b.cat⟩, ⟨(q1.keep' f2).r.cfg0, q3.r.cfg0⟩, stAllB (vs := idc (tn, ts)) b3 rfl fun w4 b4 f4 => ?_⟩
    have z2 := f2.size
    have o3 := q1.new (x := g3) (by omega)
    have T : T2 w2 al ar w4 al ar := T2.off h3 f3 f4
    exact play_begin (q3.off o3 f4) i (T.ob (bs1.keep' f2)) ⟨b4, o3⟩ (ri2.next T) hw hl hQ
  · refine ld_Cfg (s := S.c) q1.r.cfg0 (ld_Sq (x := x) (p := rp) (c := rc) bs1.b.cat (newB fun g3 w3 b3 f3 h3 => ?_))
    have q3 := q1.keep' f3
    have bs3 := bs1.keep' f3
    have l3 := b3.lt
    have o3 := q1.new h3
    have z3 := f3.size
    refine ⟨⟨bs1.b.cat, bs3.b.cat⟩, ⟨q1.r.cfg0, q3.r.cfg0⟩, args_any hx i.nodes (q3.grow o3 l3) ((ri1.grow h3).keep' f3) fun to op field tn ts refs p c w2 ri2 hl f2 => ⟨_, _, _, _, _, _, _, _, rfl, ?_⟩⟩
    refine stAllB (vs := idc (tn, ts)) (b3.keep' f2) rfl fun w4 b4 f4 => ?_
    have T : T2 w1 al ar w4 al ar := T2.off h3 (f3.tr f2) f4
    exact play_begin ((q3.keep' f2).off o3 f4) i (T.ob bs1) ⟨b4, o3⟩ (ri2.st f4) hw hl hQ
theorem play_j8f (hx : SqW x) (q : P2 W w g ft al S h fr ar S) (i : SI S) (hn : 0 ≤ num) (bs : OB W w al ar gs (x.cells rp rc) 40) (ri : RowIn w al ar rp rc x.refs) (hw : what = 7 ∨ what = 8 ∨ what = 9 ∨ ¬ 3 ≤ x.what % 10) (hQ : Went W g h S x Q) :
    X8.j8 Q (some (at0 g 0)) (some (at0 h 0)) now (at0 gs 0) to num what false w := by
  unfold X8.j8
  refine bc_bool (fun e => by cases e) (fun _ => bc_eq (fun h7 => ?_) (fun h7 => bc_eq (fun h8 => ?_) (fun h8 => ?_)))
  · exact ld_int (bs.b.cat 2 _ rfl) ⟨by omega, bc_bool (fun _ => play_settle q i hn hQ) (fun _ => play_settle q i hn hQ)⟩
  · rw [show (what == 8) = true by simp [h8]]
    exact play_await q i hn hQ
  · by_cases h9 : what = 9
    · rw [show (what == 9) = true by simp [h9]]
      exact play_await q i hn hQ
    · rw [show (what == 9) = false by simp [h9]]
      exact play_j7f hx q i bs ri (by omega) hQ
theorem play_j9f (hx : SqW x) (q : P2 W w g ft al S h fr ar S) (i : SI S) (hn : 0 ≤ num) (bs : OB W w al ar gs (x.cells rp rc) 40) (ri : RowIn w al ar rp rc x.refs) (hw : what = x.what % 10) (h3 : what ≠ 3) (h4 : what ≠ 4) (hQ : Went W g h S x Q) :
    X8.j9 Q (some (at0 g 0)) (some (at0 h 0)) now (at0 gs 0) to num what false w := by
  unfold X8.j9
  have hm := md (n := x.what) (m := 10) (by omega)
  refine bc_bool (fun e => by cases e) (fun _ => bc_eq (fun h5 => ?_) (fun h5 => ?_))
  · rw [show (what == 5) = true by simp [h5]]
    exact play_j8 q i hn bs ri hQ
  · by_cases h6 : what = 6
    · rw [show (what == 6) = true by simp [h6]]
      exact play_j8 q i hn bs ri hQ
    · rw [show (what == 6) = false by simp [h6]]
      exact play_j8f hx q i hn bs ri (by omega) hQ
theorem play_j12 (hx : SqW x) (q : P2 W w g ft al S h fr ar S) (i : SI S) (hn : 0 ≤ num) (bs : OB W w al ar gs (x.cells rp rc) 40) (ri : RowIn w al ar rp rc x.refs) (hQ : Went W g h S x Q) :
    X8.j12 Q (some (at0 g 0)) (some (at0 h 0)) now (at0 gs 0) to num w := by
  unfold X8.j12
  refine ld_int (bs.b.cat 0 _ rfl) (pick_spec (by omega) (by omega) ⟨_, rfl, bc_eq (fun h3 => ?_) (fun h3 => ?_)⟩)
  · rw [show (x.what % 10 == 3) = true by simp [h3]]
    exact play_step q i hQ
  · by_cases h4 : x.what % 10 = 4
    · rw [show (x.what % 10 == 4) = true by simp [h4]]
      exact play_step q i hQ
    · rw [show (x.what % 10 == 4) = false by simp [h4]]
      exact play_j9f hx q i hn bs ri rfl h3 h4 hQ
/-- a row of the document's, by its place -/
theorem PR.vals (t : PR w h fr ar R) : ∃ (pv : Option Addr) (cv : Nat), w.cell? (((at0 h 0).add 89).add 2) = some (.slice pv R.l.length cv) ∧ ∀ i, i < R.l.length → ∃ (a : Addr) (x : Cl) (e : Int × Cp), pv = some a ∧ R.l[i]? = some e ∧ x.to = e.2.to ∧ x.num = e.2.num ∧ At w (a.add (i * 15)) x.cells := by
  obtain ⟨pk, pv, ck, cv, lm, t⟩ := t
  refine ⟨pv, cv, by rw [add_at, ← t.rel.len]; exact t.tab.v2, fun i hi => ?_⟩
  have hlt : i < lm.length := by rw [t.rel.len]; exact hi
  have he := List.getElem?_eq_getElem hlt
  generalize lm[i] = e at he
  obtain ⟨f, h1, h2, h3⟩ := t.rel.el i e he
  obtain ⟨a, ha, hat⟩ := own_at vc_len_CB t.tab.vs rfl he
  obtain ⟨e1, e2, _⟩ := h3.facts
  exact ⟨a, e.2, f, ha, h1, e1, e2, hat⟩
theorem play_j3 {b : Bool} (hx : SqW x) (q : P2 W w g ft al S h fr ar S) (i : SI S) (hn : 0 ≤ num) (bs : OB W w al ar gs (x.cells rp rc) 40) (ri : RowIn w al ar rp rc x.refs) (hb : b = true → 0 < S.l.length) (hQ : Went W g h S x Q) :
    X8.j3 Q (some (at0 g 0)) (some (at0 h 0)) now (at0 gs 0) to num b w := by
  unfold X8.j3
  simp only [optP_some]
  refine bc_bool (fun e => drawn fun w1 f1 _ => ?_) (fun _ => play_j12 hx q i hn bs ri hQ)
  have hlen := hb e
  have q1 := q.keep' f1
  have bs1 := bs.keep' f1
  have ri1 := ri.keep' f1
  have hsz := q.t.size
  obtain ⟨pv, cv, hv, hel⟩ := q1.r.vals
  have hm := md (n := x.field) (m := (S.l.length : Int)) (by omega)
  obtain ⟨a, z, e, ha, he, e1, e2, hat⟩ := hel (x.field % (S.l.length : Int)).toNat (by omega)
  have hen : 0 ≤ z.num := by
    rw [e2]
    have := (i.ent e (List.mem_of_getElem? he)).2.n1
    omega
  constructor
  · refine ld_sl hv (ld_int (bs1.b.cat 3 _ rfl) (ld_sl hv (pick_spec (by omega) (by omega) ⟨_, rfl, ⟨hv, hv⟩, ⟨hm.1, hm.2⟩, opt_some ha (ld_Cl (s := z) hat (newB fun g26 w27 b26 f27 h26 => ?_))⟩)))
    have q27 := q1.keep' f27
    have hv27 := f27.cell' hv
    have bs27 := bs1.keep' f27
    refine ⟨⟨hat, hat.keep' f27⟩, ⟨hv, hv27⟩, ⟨bs1.b.cat 3 _ rfl, bs27.b.cat 3 _ rfl⟩, ⟨hv, hv27⟩, stAllB (vs := z.cells) b26 rfl fun w28 b28 f28 => ld_int (b28.cat 0 _ rfl) (ld_int (b28.cat 1 _ rfl) ?_)⟩
    have T : T2 w1 al ar w28 al ar := T2.off h26 f27 f28
    exact play_j12 hx (q27.off (q1.new h26) f28) i hen (T.ob bs1) (ri1.next T) hQ
  · refine ld_sl hv (ld_int (bs1.b.cat 3 _ rfl) (ld_sl hv (newB fun g26 w27 b26 f27 h26 => ?_)))
    have q27 := q1.keep' f27
    have hv27 := f27.cell' hv
    have bs27 := bs1.keep' f27
    refine ⟨⟨hv, hv27⟩, ⟨bs1.b.cat 3 _ rfl, bs27.b.cat 3 _ rfl⟩, ⟨hv, hv27⟩, pick_spec (by omega) (by omega) ⟨_, rfl, ⟨hv27, hv27⟩, ⟨hm.1, hm.2⟩, opt_some ha (ld_Cl (s := z) (hat.keep' f27) ⟨⟨hat, hat.keep' f27⟩, stAllB (vs := z.cells) b26 rfl fun w28 b28 f28 => ld_int (b28.cat 0 _ rfl) (ld_int (b28.cat 1 _ rfl) ?_)⟩)⟩⟩
    have T : T2 w1 al ar w28 al ar := T2.off h26 f27 f28
    exact play_j12 hx (q27.off (q1.new h26) f28) i hen (T.ob bs1) (ri1.next T) hQ
theorem play_spec (hx : SqW x) (q : P2 W w g ft al S h fr ar S) (i : SI S) (ri : RowIn w al ar rp rc x.refs) (hQ : Went W g h S x Q) :
    CallR Tryz.prog 8 #[.pointer (some (at0 g 0)), .pointer (some (at0 h 0)), x.val rp rc, .int .u64 now] w Q := by
  apply X8.sound
  unfold X8.f
  simp only [optP_some]
  refine newB fun g1 w2 b1 f2 h1 => ?_
  have q2 := q.keep' f2
  have ri2 := ri.keep' f2
  have b1 : OB W w2 al ar g1 (x.cells rp rc) 40 := ⟨b1, q.new h1⟩
  refine ld_int (b1.b.cat 1 _ rfl) (ld_int (b1.b.cat 4 _ rfl) (ld_bool (b1.b.cat 9 _ rfl) (bc_bool (fun _ => drawn fun w6 f6 _ => ?_) (fun _ => play_j12 hx q2 i hx.num.1 b1 ri2 hQ))))
  have q6 := q2.keep' f6
  have b6 := b1.keep' f6
  have hnd := i.nodes
  have hm := md (n := x.to) (m := S.c.nodes) (by omega)
  refine ld_int (b6.b.cat 1 _ rfl) (ld_int (q6.r.cfg0 0 _ rfl) (pick_spec (by omega) (by omega) ⟨_, rfl, drawn fun w13 f13 _ => ?_⟩))
  have q13 := q6.keep' f13
  have b13 := b6.keep' f13
  have ri13 := (ri2.keep' f6).keep' f13
  rw [i64w (1 + x.to % S.c.nodes) (by omega) (by omega)]
  obtain ⟨k0, k1, k2⟩ := q13.r.lat (to := 1 + x.to % S.c.nodes) (by omega) (by omega)
  obtain ⟨pv, cv, hv, _⟩ := q13.r.vals
  refine ⟨⟨k0, k1⟩, ld_int k2 ⟨⟨k0, k1⟩, ld_int k2 (ld_int (b13.b.cat 4 _ rfl) ⟨by omega, ld_sl hv (bc_dec (fun hl => ld_int (b13.b.cat 4 _ rfl) ⟨by omega, ?_⟩) (fun hl => ?_))⟩)⟩⟩
  · exact play_j3 hx q13 i (u64p _) b13 ri13 (fun _ => by omega) hQ
  · exact play_j3 hx q13 i (u64p _) b13 ri13 (fun h => by cases h) hQ
/-- play, and what it leaves of all else -/
theorem play_specT (hx : SqW x) (q : P2 W w g ft al S h fr ar S) (i : SI S) (ri : RowIn w al ar rp rc x.refs) (hQ : ∀ S' ft' al' fr' ar' w', P2 W w' g ft' al' S' h fr' ar' S' → T2 w al ar w' al' ar' → PlayTo S x S' → Q (.bool true) w') :
    CallR Tryz.prog 8 #[.pointer (some (at0 g 0)), .pointer (some (at0 h 0)), x.val rp rc, .int .u64 now] w Q :=
  play_spec hx q.rebase i ri fun S' ft' al' fr' ar' w' q' pt => hQ S' ft' al' fr' ar' w' (q.unbase q') q'.t2 pt
end
end Go.Proofs.YtdgoalhnkegbmaaGreatX
namespace Go.Proofs.YtdgoalhnkegbmaaGreatX
open Go.RowKit
set_option linter.unusedVariables false
set_option linter.unusedSimpArgs false
set_option maxRecDepth 100000
structure StepsAt (W : World) (a : Option Addr) (l : List Sq) : Prop where
  at_ : ∀ i x, l[i]? = some x → ∃ p rp rc, a = some p ∧ At W (p.add (i * 10)) (x.cells rp rc) ∧ Cells W rp (x.refs.flatMap idc) ∧ (rp = none → rc = 0) ∧ x.refs.length ≤ rc
  wf : ∀ x ∈ l, SqW x
theorem steps_of_lies {H : Type} {W : World} {a : Option Addr} {len cap : Nat} {d : DataW H} (h : Lies Tryz.prog W 6 25 [.slice a len cap] d) (hs : SizedD Tryz.prog 25 d) : ∃ l : List Sq, l.length = len ∧ StepsAt W a l ∧ ∀ B, (∀ elems rest, d = .slice elems rest → ∀ y ∈ elems, refsD y ≤ B) → ∀ x ∈ l, x.refs.length ≤ B := by
  rcases lies_slice Tryz.underlying25 h with ⟨h1, h2⟩ | ⟨p, n, c, elems, rest, h1, h2, hl, hm, hlen, hel⟩
  · simp only [List.cons.injEq, Value.slice.injEq, and_true] at h1
    obtain ⟨rfl, rfl, rfl⟩ := h1
    exact ⟨[], rfl, ⟨fun i x hx => by simp at hx, fun x hx => by cases hx⟩, fun B _ x hx => by cases hx⟩
  · simp only [List.cons.injEq, Value.slice.injEq, and_true] at h1
    obtain ⟨rfl, rfl, rfl⟩ := h1
    subst h2
    have hc : Tryz.prog.cellsOf 40 = 10 := by kernel_rfl
    obtain ⟨l, hll, hx⟩ := list_of (R := fun i (y : DataW H) (x : Sq) => (∃ rp rc, At W (p.add (i * 10)) (x.cells rp rc) ∧ Cells W rp (x.refs.flatMap idc) ∧ (rp = none → rc = 0) ∧ x.refs.length ≤ rc) ∧ SqW x ∧ x.refs.length ≤ refsD y) elems 0 (fun i y hy => by
      obtain ⟨cs', hcl, hcell, hly⟩ := hel i y hy
      obtain ⟨x, rp, rc, hxc, h3, h4, h5, h6, h7⟩ := step_of_lies (n := 1) hly (sized_elem Tryz.underlying25 hs (List.mem_of_getElem? hy))
      refine ⟨x, ⟨rp, rc, fun j u hj => ?_, h3, h4, h6⟩, h5, h7⟩
      rw [Nat.zero_add, add_add]
      have := hcell j u (by rw [hxc]; exact hj)
      rw [hc] at this
      exact this)
    have get : ∀ i x, l[i]? = some x → (∃ rp rc, At W (p.add (i * 10)) (x.cells rp rc) ∧ Cells W rp (x.refs.flatMap idc) ∧ (rp = none → rc = 0) ∧ x.refs.length ≤ rc) ∧ SqW x ∧ ∃ y ∈ elems, x.refs.length ≤ refsD y := fun i x hi => by
      have hlt : i < elems.length := by have := (List.getElem?_eq_some_iff.1 hi).1; omega
      have := hx i _ x (List.getElem?_eq_getElem hlt) hi
      rw [Nat.zero_add] at this
      exact ⟨this.1, this.2.1, _, List.getElem_mem hlt, this.2.2⟩
    refine ⟨l, by omega, ⟨fun i x hi => ?_, fun x hm => ?_⟩, fun B hB x hm => ?_⟩
    · obtain ⟨⟨rp, rc, h1, h2, h3, h4⟩, _⟩ := get i x hi
      exact ⟨p, rp, rc, rfl, h1, h2, h3, h4⟩
    · obtain ⟨i, hi⟩ := List.getElem?_of_mem hm
      exact (get i x hi).2.1
    · obtain ⟨i, hi⟩ := List.getElem?_of_mem hm
      obtain ⟨y, hy, hl⟩ := (get i x hi).2.2
      exact Nat.le_trans hl (hB _ _ rfl y hy)
/-- two new tables -/
theorem two_new {W w w' : World} {g h : Nat} {ft al : List Nat} {S : Cs} (p : PL W w g ft al S) (f : Fr [] w w') (r : PR w' h [h] [h] S) (hn : w.heap.size ≤ h) : P2 ⟨W, []⟩ w' g ft al S h [h] [h] S := by
  have z := p.F.size
  refine ⟨p.t.keep' f, r, fun k hk hm => ?_, fun k hk => .inr (p.new k hk), fun k hk => .inr ?_, p.F.tr f⟩
  · have := p.t.lt k hk
    simp at hm
    omega
  · simp at hk
    show W.heap.size ≤ k
    omega
end Go.Proofs.YtdgoalhnkegbmaaGreatX
