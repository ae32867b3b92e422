/- StubTurn, the plain law: in as many steps as there are stubs each has its turn. -/
import Derived.Test.YtglininpmfgggaaPStub
namespace Go.Proofs.YtglininpmfgggaaX
open Go.RowKit
set_option linter.unusedVariables false
set_option linter.unusedSimpArgs false
theorem keys_get {l : List (Int × Stb)} (i : Nat) : (keys l)[i]? = (l[i]?).map (·.1) := by unfold keys; rw [List.getElem?_map]
theorem at_eq {l : List (Int × Stb)} {p : Nat} {k : Int} (hs : Srt ilt (keys l)) (hk : (keys l)[p]? = some k) : has ilt l k = true ∧ at_ ilt l k = p := by
  have hh : has ilt l k = true := (has_iff ilt_lin hs).2 (List.mem_of_getElem? hk)
  refine ⟨hh, ?_⟩
  have ha : (keys l)[at_ ilt l k]? = some k := by unfold has at hh; exact of_decide_eq_true hh
  unfold Srt at hs
  rw [List.pairwise_iff_getElem] at hs
  obtain ⟨h1, e1⟩ := List.getElem?_eq_some_iff.1 hk
  obtain ⟨h2, e2⟩ := List.getElem?_eq_some_iff.1 ha
  rcases Nat.lt_trichotomy (at_ ilt l k) p with h | h | h
  · have := hs _ _ h2 h1 h
    rw [e1, e2] at this; simp [ilt] at this
  · exact h
  · have := hs _ _ h1 h2 h
    rw [e1, e2] at this; simp [ilt] at this
theorem get_at {l : List (Int × Stb)} {p : Nat} {e : Int × Stb} (hs : Srt ilt (keys l)) (hk : l[p]? = some e) : get ilt l e.1 = some e.2 :=
  (get_iff ilt_lin hs).2 (List.mem_of_getElem? hk)
theorem put_at {l : List (Int × Stb)} {p : Nat} {k : Int} {v : Stb} (hs : Srt ilt (keys l)) (hk : (keys l)[p]? = some k) : put ilt l k v = l.set p (k, v) := by
  obtain ⟨h1, h2⟩ := at_eq hs hk
  unfold put
  rw [if_pos h1, h2]
theorem putF_at {most : Int} {l : List (Int × Stb)} {p : Nat} {k : Int} {v : Stb} (hs : Srt ilt (keys l)) (hk : (keys l)[p]? = some k) : putF most l k v = l.set p (k, v) := by
  unfold putF
  rw [if_pos (.inl (at_eq hs hk).1), put_at hs hk]
theorem after_at {l : List (Int × Stb)} {p : Nat} {k : Int} (hs : Srt ilt (keys l)) (hk : (keys l)[p]? = some k) : after ilt l k = (keys l)[if p + 1 < l.length then p + 1 else 0]? := by
  obtain ⟨h1, h2⟩ := at_eq hs hk
  unfold after next
  rw [if_pos h1, h2]
  split
  · rename_i h
    rw [keys_get, List.getElem?_eq_getElem h]; rfl
  · rename_i h
    rw [keys_get (p + 1), List.getElem?_eq_none (by omega)]; rfl
theorem after_some {l : List (Int × Stb)} (hn : 0 < l.length) (k : Int) : ∃ p, p < l.length ∧ after ilt l k = (keys l)[p]? := by
  unfold after next
  generalize (if has ilt l k = true then at_ ilt l k + 1 else at_ ilt l k) = x
  by_cases h : x < l.length
  · exact ⟨x, h, by rw [keys_get, List.getElem?_eq_getElem h]; rfl⟩
  · exact ⟨0, hn, by rw [keys_get x, List.getElem?_eq_none (by omega)]; rfl⟩
theorem after_none {l : List (Int × Stb)} (hn : l.length = 0) (k : Int) : after ilt l k = none := by
  obtain rfl := List.eq_nil_of_length_eq_zero hn
  unfold after next
  simp [keys]
/-- stubs that ask, all sent then, all waiting so long -/
structure AskI (c : Cfg) (s0 w0 : Int) (S : Sn) : Prop where
  c : S.c = c
  node : S.node = 1
  ent : ∀ e ∈ S.l, e.1 = keyOf e.2.nd e.2.sr ∧ e.2.state = 1 ∧ e.2.sent = s0 ∧ e.2.wait = w0
  srt : Srt ilt (keys S.l)
theorem ask_fresh {c : Cfg} {S : Sn} {nd sr : Int} (h : AskI c 50 0 S) : AskI c 50 0 (freshS S nd sr 2 50).1 := by
  unfold freshS
  split
  · exact h
  · unfold putS
    refine ⟨h.c, h.node, fun e he => ?_, ?_⟩
    · have he : e ∈ putF S.c.stubs S.l (keyOf nd sr) ⟨nd, sr, 1, IntKind.wrap .u64 (S.seq + 1), 2, 50, 50, 0, 1⟩ := he
      unfold putF at he
      split at he
      · rcases (mem_put ilt_lin h.srt).1 he with rfl | ⟨_, he⟩
        · exact ⟨rfl, rfl, rfl, rfl⟩
        · exact h.ent e he
      · exact h.ent e he
    · show Srt ilt (keys (putF S.c.stubs S.l (keyOf nd sr) ⟨nd, sr, 1, IntKind.wrap .u64 (S.seq + 1), 2, 50, 50, 0, 1⟩))
      unfold putF
      split
      · exact put_srt ilt_lin h.srt
      · exact h.srt
theorem ask_want {c : Cfg} {S : Sn} {nd sr : Int} (h : AskI c 50 0 S) : AskI c 50 0 (wantS S nd sr 2 50).1 := by
  unfold wantS
  split
  · exact h
  · cases hg : get ilt S.l (keyOf nd sr) with
    | some s =>
      have := h.ent _ ((get_iff ilt_lin h.srt).1 hg)
      have hl : lapsedB S s 50 = false := by unfold lapsedB; rw [if_neg (by have := this.2.1; simp only at this; omega)]
      simp only
      rw [if_pos (by have := this.2.1; simp only at this; omega), hl]
      exact h
    | none =>
      simp only
      split
      · exact h
      · exact ask_fresh h
def dOf (n p0 j : Nat) : Nat := if p0 ≤ j then j - p0 else j + n - p0
def pOf (n p0 i : Nat) : Nat := if p0 + i < n then p0 + i else p0 + i - n
theorem pOf_lt {n p0 i : Nat} (h : p0 < n) (hi : i < n) : pOf n p0 i < n := by unfold pOf; split <;> omega
theorem dOf_p {n p0 i j : Nat} (h : p0 < n) (hi : i < n) (hj : j < n) : dOf n p0 j = i ↔ j = pOf n p0 i := by unfold pOf dOf; split <;> split <;> omega
theorem dOf_lt {n p0 j : Nat} (h : p0 < n) (hj : j < n) : dOf n p0 j < n := by unfold dOf; split <;> omega
theorem pOf_next {n p0 i : Nat} (h : p0 < n) (hi : i < n) : (if pOf n p0 i + 1 < n then pOf n p0 i + 1 else 0) = pOf n p0 (i + 1) := by unfold pOf; split <;> split <;> split <;> omega
theorem pOf_end {n p0 : Nat} (h : p0 < n) : pOf n p0 n = p0 := by unfold pOf; split <;> omega
def idsOf (l : List (Int × Stb)) : List (Int × Int) := l.map fun e => (e.2.nd, e.2.sr)
def mark (B : List (Int × Stb)) (now w1 : Int) (p0 i : Nat) : List (Int × Stb) := B.mapIdx fun j e => (e.1, if dOf B.length p0 j < i then { e.2 with sent := now, wait := w1 } else e.2)
theorem mark_len {B : List (Int × Stb)} {now w1 : Int} {p0 i : Nat} : (mark B now w1 p0 i).length = B.length := by simp [mark]
theorem mark_get {B : List (Int × Stb)} {now w1 : Int} {p0 i j : Nat} : (mark B now w1 p0 i)[j]? = (B[j]?).map fun e => (e.1, if dOf B.length p0 j < i then { e.2 with sent := now, wait := w1 } else e.2) := by
  unfold mark; rw [List.getElem?_mapIdx]
theorem mark_keys {B : List (Int × Stb)} {now w1 : Int} {p0 i : Nat} : keys (mark B now w1 p0 i) = keys B := by
  apply List.ext_getElem?
  intro j
  rw [keys_get, keys_get, mark_get]
  cases B[j]? <;> rfl
theorem mark_ids {B : List (Int × Stb)} {now w1 : Int} {p0 i : Nat} : idsOf (mark B now w1 p0 i) = idsOf B := by
  apply List.ext_getElem?
  intro j
  unfold idsOf
  rw [List.getElem?_map, List.getElem?_map, mark_get]
  cases B[j]? with
  | none => rfl
  | some e => simp only [Option.map_some]; split <;> rfl
theorem mark_zero {B : List (Int × Stb)} {now w1 : Int} {p0 : Nat} : mark B now w1 p0 0 = B := by
  apply List.ext_getElem?
  intro j
  rw [mark_get]
  cases B[j]? <;> simp
theorem mark_next {B : List (Int × Stb)} {now w1 : Int} {p0 i : Nat} {e : Int × Stb} (h : p0 < B.length) (hi : i < B.length) (he : B[pOf B.length p0 i]? = some e) :
    (mark B now w1 p0 i).set (pOf B.length p0 i) (e.1, { e.2 with sent := now, wait := w1 }) = mark B now w1 p0 (i + 1) := by
  apply List.ext_getElem?
  intro j
  rw [List.getElem?_set, mark_len, mark_get, mark_get]
  have hp := pOf_lt h hi
  by_cases hj : j < B.length
  · by_cases hq : pOf B.length p0 i = j
    · subst hq
      rw [if_pos rfl, if_pos hp, he]
      have := (dOf_p h hi hp).2 rfl
      simp only [Option.map_some]
      rw [if_pos (by omega)]
    · rw [if_neg hq, List.getElem?_eq_getElem hj]
      have : ¬ dOf B.length p0 j = i := fun hd => hq ((dOf_p h hi hj).1 hd).symm
      simp only [Option.map_some]
      by_cases h1 : dOf B.length p0 j < i
      · rw [if_pos h1, if_pos (by omega)]
      · rw [if_neg h1, if_neg (by omega)]
  · rw [if_neg (by omega), List.getElem?_eq_none (by omega)]
    simp
/-- a round under way: i of the stubs had their turn -/
structure RdI (c : Cfg) (B : List (Int × Stb)) (now w1 : Int) (p0 : Nat) (S : Sn) (i : Nat) : Prop where
  c : S.c = c
  node : S.node = 1
  l : S.l = mark B now w1 p0 i
  cur : after ilt S.l S.last = (keys B)[pOf B.length p0 i]?
structure Base (B : List (Int × Stb)) (s0 w0 : Int) : Prop where
  ent : ∀ e ∈ B, e.1 = keyOf e.2.nd e.2.sr ∧ e.2.state = 1 ∧ e.2.sent = s0 ∧ e.2.wait = w0
  srt : Srt ilt (keys B)
theorem rd_start {c : Cfg} {s0 w0 now w1 : Int} {S : Sn} (h : AskI c s0 w0 S) (hn : 0 < S.l.length) : Base S.l s0 w0 ∧ ∃ p0, p0 < S.l.length ∧ RdI c S.l now w1 p0 S 0 := by
  refine ⟨⟨h.ent, h.srt⟩, ?_⟩
  obtain ⟨p, hp, ha⟩ := after_some hn S.last
  refine ⟨p, hp, h.c, h.node, mark_zero.symm, ?_⟩
  rw [ha]
  unfold pOf
  rw [if_pos (by omega)]; rfl
theorem turn_due {S : Sn} {s : Stb} {now : Int} (h1 : s.state = 1) (h2 : pastB s.sent s.wait now = true) : turnS S s now = (sentS S s now, dirtyM S s now) := by
  unfold turnS; rw [if_pos ⟨h1, h2⟩]
theorem turn_not {S : Sn} {s : Stb} {now : Int} (h1 : s.state = 1) (h2 : pastB s.sent s.wait now = false) : turnS S s now = (s, mZero) := by
  have hl : lapsedB S s now = false := by unfold lapsedB; rw [if_neg (by omega)]
  unfold turnS
  rw [if_neg (by simp [h2]), hl, if_neg (by simp), if_neg (by omega), if_neg (by omega)]
theorem rd_step {c : Cfg} {B : List (Int × Stb)} {s0 w0 now w1 : Int} {p0 i : Nat} {S : Sn} (b : Base B s0 w0) (h : RdI c B now w1 p0 S i) (hp : p0 < B.length) (hi : i < B.length) (hd : pastB s0 w0 now = true) (hw : waitN w0 c.wait c.most = w1) :
    ∃ e, B[pOf B.length p0 i]? = some e ∧ (stepS S now).2 = (dirtyM S e.2 now, true) ∧ RdI c B now w1 p0 (stepS S now).1 (i + 1) := by
  have hq := pOf_lt hp hi
  have he := List.getElem?_eq_getElem hq
  generalize B[pOf B.length p0 i] = e at he
  have hk : (keys B)[pOf B.length p0 i]? = some e.1 := by rw [keys_get, he]; rfl
  have hkS : (keys S.l)[pOf B.length p0 i]? = some e.1 := by rw [h.l, mark_keys]; exact hk
  have hsS : Srt ilt (keys S.l) := by rw [h.l, mark_keys]; exact b.srt
  have hlS : S.l.length = B.length := by rw [h.l, mark_len]
  have hge : S.l[pOf B.length p0 i]? = some e := by
    rw [h.l, mark_get, he]
    have := (dOf_p hp hi hq).2 rfl
    simp only [Option.map_some]
    rw [if_neg (by omega)]
  have hg := get_at hsS hge
  obtain ⟨e1, e2, e3, e4⟩ := b.ent e (List.mem_of_getElem? he)
  have ht : turnS S e.2 now = (sentS S e.2 now, dirtyM S e.2 now) := turn_due e2 (by rw [e3, e4]; exact hd)
  have hs : stepS S now = (putS { S with last := e.1 } (sentS S e.2 now), dirtyM S e.2 now, true) := by
    unfold stepS
    rw [h.cur, hk]
    simp only
    rw [hg]
    simp only [Option.getD_some]
    rw [ht]
    rfl
  refine ⟨e, he, by rw [hs], ?_⟩
  rw [hs]
  have hss : sentS S e.2 now = { e.2 with sent := now, wait := w1 } := by
    unfold sentS; rw [e4, h.c, hw]
  have hl' : (putS { S with last := e.1 } (sentS S e.2 now)).l = mark B now w1 p0 (i + 1) := by
    show putF S.c.stubs S.l (keyOf e.2.nd e.2.sr) (sentS S e.2 now) = _
    rw [← e1, putF_at hsS hkS, hss, h.l, mark_next hp hi he]
  refine ⟨h.c, h.node, hl', ?_⟩
  show after ilt (putS { S with last := e.1 } (sentS S e.2 now)).l e.1 = _
  rw [hl', after_at (p := pOf B.length p0 i) (by rw [mark_keys]; exact b.srt) (by rw [mark_keys]; exact hk), mark_keys, mark_len, pOf_next hp hi]
theorem not_past {a w : Int} (h : 1 ≤ w) : pastB a w a = false := by
  unfold pastB
  rw [if_pos (by omega), Int.sub_self, show IntKind.wrap .u64 0 = 0 by decide, decide_eq_false (by omega)]
theorem rd_end {c : Cfg} {B : List (Int × Stb)} {s0 w0 now w1 : Int} {p0 : Nat} {S : Sn} (b : Base B s0 w0) (h : RdI c B now w1 p0 S B.length) (hp : p0 < B.length) (hw : 1 ≤ w1) :
    (stepS S now).2.2 = false ∧ AskI c now w1 (stepS S now).1 ∧ idsOf (stepS S now).1.l = idsOf B := by
  have he := List.getElem?_eq_getElem hp
  generalize B[p0] = e at he
  have hall : ∀ e' ∈ S.l, e'.1 = keyOf e'.2.nd e'.2.sr ∧ e'.2.state = 1 ∧ e'.2.sent = now ∧ e'.2.wait = w1 := by
    intro e' hm
    rw [h.l] at hm
    obtain ⟨j, hj⟩ := List.getElem?_of_mem hm
    rw [mark_get] at hj
    cases hb : B[j]? with
    | none => rw [hb] at hj; cases hj
    | some x =>
      rw [hb] at hj
      have hjl := (List.getElem?_eq_some_iff.1 hb).1
      have := dOf_lt hp hjl
      simp only [Option.map_some, Option.some.injEq] at hj
      rw [if_pos this] at hj
      obtain ⟨x1, x2, x3, x4⟩ := b.ent x (List.mem_of_getElem? hb)
      subst hj
      exact ⟨x1, x2, rfl, rfl⟩
  have hsS : Srt ilt (keys S.l) := by rw [h.l, mark_keys]; exact b.srt
  have hlS : S.l.length = B.length := by rw [h.l, mark_len]
  have heS := List.getElem?_eq_getElem (show p0 < S.l.length by omega)
  generalize S.l[p0] = x at heS
  have hkS : (keys S.l)[p0]? = some x.1 := by rw [keys_get, heS]; rfl
  have hcur : after ilt S.l S.last = some x.1 := by
    rw [h.cur, pOf_end hp, ← hkS, h.l, mark_keys]
  obtain ⟨x1, x2, x3, x4⟩ := hall x (List.mem_of_getElem? heS)
  have ht : turnS S x.2 now = (x.2, mZero) := turn_not x2 (by rw [x3, x4]; exact not_past hw)
  have hs : stepS S now = (putS { S with last := x.1 } x.2, mZero, false) := by
    unfold stepS
    rw [hcur]
    simp only
    rw [get_at hsS heS]
    simp only [Option.getD_some]
    rw [ht]
    rfl
  have hl : (putS { S with last := x.1 } x.2).l = S.l := by
    show putF S.c.stubs S.l (keyOf x.2.nd x.2.sr) x.2 = _
    rw [← x1, putF_at hsS hkS]
    apply List.ext_getElem?
    intro j
    rw [List.getElem?_set]
    split
    · rename_i h1
      subst h1
      rw [if_pos (by omega), heS]
    · rfl
  rw [hs]
  refine ⟨rfl, ⟨h.c, h.node, fun e' hm => hall e' (by rw [← hl]; exact hm), ?_⟩, ?_⟩
  · show Srt ilt (keys (putS { S with last := x.1 } x.2).l)
    rw [hl]; exact hsS
  · show idsOf (putS { S with last := x.1 } x.2).l = _
    rw [hl, h.l, mark_ids]
theorem rd_none {c : Cfg} {s0 w0 now w1 : Int} {S : Sn} (h : AskI c s0 w0 S) (hn : S.l.length = 0) : (stepS S now).2.2 = false ∧ AskI c now w1 (stepS S now).1 ∧ idsOf (stepS S now).1.l = idsOf S.l := by
  have hs : stepS S now = (S, mZero, false) := by unfold stepS; rw [after_none hn]
  rw [hs]
  have := List.eq_nil_of_length_eq_zero hn
  exact ⟨rfl, ⟨h.c, h.node, fun e he => (by rw [this] at he; cases he), h.srt⟩, rfl⟩
/-- one has one ID alone -/
theorem ids_one {B : List (Int × Stb)} {s0 w0 : Int} (b : Base B s0 w0) {i j : Nat} {x y : Int × Stb} (hi : B[i]? = some x) (hj : B[j]? = some y) (h1 : x.2.nd = y.2.nd) (h2 : x.2.sr = y.2.sr) : i = j := by
  have ex := (b.ent x (List.mem_of_getElem? hi)).1
  have ey := (b.ent y (List.mem_of_getElem? hj)).1
  have hk : x.1 = y.1 := by rw [ex, ey, h1, h2]
  have a1 := (at_eq b.srt (p := i) (k := x.1) (by rw [keys_get, hi]; rfl)).2
  have a2 := (at_eq b.srt (p := j) (k := x.1) (by rw [keys_get, hj, hk]; rfl)).2
  omega
end Go.Proofs.YtglininpmfgggaaX
