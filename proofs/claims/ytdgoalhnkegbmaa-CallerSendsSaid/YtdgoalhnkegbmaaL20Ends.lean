/- CallerEnds: near the last number calls are begun up to it, and then no more. -/
import Derived.Test.YtdgoalhnkegbmaaL20Known
namespace Go.Proofs.YtdgoalhnkegbmaaX
open Go.RowKit
set_option linter.unusedVariables false
set_option linter.unusedSimpArgs false
set_option maxRecDepth 100000
theorem keyOf_eq {nd sr : Int} (h0 : 0 ≤ nd) (h1 : nd < 256) (h2 : 0 ≤ sr) (h3 : sr < 72057594037927936) : keyOf nd sr = nd * 72057594037927936 + sr := by
  obtain ⟨n, rfl⟩ : ∃ n : Nat, nd = (n : Int) := ⟨nd.toNat, by omega⟩
  obtain ⟨s, rfl⟩ : ∃ s : Nat, sr = (s : Int) := ⟨sr.toNat, by omega⟩
  unfold keyOf
  rw [u64w (n : Int) (by omega) (by omega)]
  have hN : n * 72057594037927936 < 18446744073709551616 := by omega
  have e1 : iShl .u64 (n : Int) 56 = ((n * 72057594037927936 : Nat) : Int) := by
    unfold iShl
    have e : min (56 : Int).toNat IntKind.u64.bits = 56 := by decide
    rw [e]
    have e2 : (n : Int) * 2 ^ 56 = ((n * 72057594037927936 : Nat) : Int) := by
      rw [show (2 : Int) ^ 56 = 72057594037927936 by decide +kernel]; omega
    rw [e2]
    exact u64w _ (by omega) (by omega)
  rw [e1]
  have a1 : (BitVec.ofInt 64 ((n * 72057594037927936 : Nat) : Int)).toNat = n * 72057594037927936 := by rw [BitVec.toNat_ofInt]; omega
  have a2 : (BitVec.ofInt 64 (s : Int)).toNat = s := by rw [BitVec.toNat_ofInt]; omega
  unfold iOr
  change IntKind.wrap .u64 ((BitVec.ofInt 64 ((n * 72057594037927936 : Nat) : Int) ||| BitVec.ofInt 64 (s : Int)).toNat : Int) = _
  rw [BitVec.toNat_or, a1, a2]
  have e3 : n * 72057594037927936 ||| s = n * 72057594037927936 + s := by
    have hs : s < 2 ^ 56 := by rw [show (2 : Nat) ^ 56 = 72057594037927936 by decide +kernel]; omega
    have := Nat.two_pow_add_eq_or_of_lt hs n
    rw [show (2 : Nat) ^ 56 = 72057594037927936 by decide +kernel, Nat.mul_comm] at this
    exact this.symm
  rw [e3, u64w _ (by omega) (by omega)]
  omega
theorem key_shr {nd sr : Int} (h0 : 0 ≤ nd) (h1 : nd < 256) (h2 : 0 ≤ sr) (h3 : sr < 72057594037927936) : IntKind.wrap .i64 (iShr .u64 (keyOf nd sr) 56) = nd := by
  rw [keyOf_eq h0 h1 h2 h3]
  unfold iShr
  have e : min (56 : Int).toNat IntKind.u64.bits = 56 := by decide
  rw [e, show (2 : Int) ^ 56 = 72057594037927936 by decide +kernel, Int.fdiv_eq_ediv_of_nonneg _ (by omega)]
  rw [show (nd * 72057594037927936 + sr) / 72057594037927936 = nd by omega]
  exact i64w _ (by omega) (by omega)
theorem key_and {nd sr : Int} (h0 : 0 ≤ nd) (h1 : nd < 256) (h2 : 0 ≤ sr) (h3 : sr < 72057594037927936) : iAnd .u64 (keyOf nd sr) 72057594037927935 = sr := by
  rw [keyOf_eq h0 h1 h2 h3]
  obtain ⟨n, rfl⟩ : ∃ n : Nat, nd = (n : Int) := ⟨nd.toNat, by omega⟩
  obtain ⟨s, rfl⟩ : ∃ s : Nat, sr = (s : Int) := ⟨sr.toNat, by omega⟩
  unfold iAnd
  have a1 : (BitVec.ofInt 64 ((n : Int) * 72057594037927936 + (s : Int))).toNat = n * 72057594037927936 + s := by rw [BitVec.toNat_ofInt]; omega
  have a2 : (BitVec.ofInt 64 (72057594037927935 : Int)).toNat = 2 ^ 56 - 1 := by rw [BitVec.toNat_ofInt]; decide +kernel
  change IntKind.wrap .u64 ((BitVec.ofInt 64 ((n : Int) * 72057594037927936 + (s : Int)) &&& BitVec.ofInt 64 (72057594037927935 : Int)).toNat : Int) = _
  rw [BitVec.toNat_and, a1, a2, Nat.and_two_pow_sub_one_eq_mod, show (2 : Nat) ^ 56 = 72057594037927936 by decide +kernel]
  rw [show (n * 72057594037927936 + s) % 72057594037927936 = s by omega]
  exact u64w _ (by omega) (by omega)
theorem takeWhile_all {α : Type} {p : α → Bool} : ∀ {l : List α}, (∀ x ∈ l, p x = true) → l.takeWhile p = l
  | [], _ => rfl
  | a :: l, h => by rw [List.takeWhile_cons, if_pos (h a (by simp)), takeWhile_all (fun x hx => h x (by simp [hx]))]
theorem at_last {β : Type} {l : List (Int × β)} {k : Int} (h : ∀ e ∈ l, e.1 < k) : at_ ilt l k = l.length := by
  unfold at_ rank
  have : (keys l).takeWhile (fun x => ilt x k) = keys l := by
    apply takeWhile_all
    intro x hx
    obtain ⟨e, he, rfl⟩ := List.mem_map.1 hx
    unfold ilt
    exact decide_eq_true (h e he)
  rw [this]
  simp [keys]
theorem has_last {β : Type} {l : List (Int × β)} {k : Int} (h : ∀ e ∈ l, e.1 < k) : has ilt l k = false := by
  unfold has
  rw [at_last h, List.getElem?_eq_none (by simp [keys])]
  simp
theorem put_last {β : Type} {l : List (Int × β)} {k : Int} {v : β} (h : ∀ e ∈ l, e.1 < k) : put ilt l k v = l ++ [(k, v)] := by
  unfold put
  rw [has_last h, if_neg (by simp), at_last h, List.take_length, List.drop_length]
theorem at_first {β : Type} {l : List (Int × β)} {k : Int} (h : ∀ e ∈ l, k < e.1) : at_ ilt l k = 0 := by
  unfold at_ rank
  cases l with
  | nil => rfl
  | cons e l =>
    have := h e (by simp)
    have hn : ilt e.1 k = false := by unfold ilt; exact decide_eq_false (by omega)
    simp [keys, List.takeWhile, hn]
theorem next_first {β : Type} {l : List (Int × β)} {k : Int} (h : ∀ e ∈ l, k < e.1) : next ilt l k = (keys l)[0]? := by
  have hh : has ilt l k = false := by
    unfold has
    rw [at_first h]
    cases l with
    | nil => simp [keys]
    | cons e l =>
      have := h e (by simp)
      simp [keys]
      omega
  unfold next
  rw [hh, if_neg (by simp), at_first h]
/-- calls to one node alone, their numbers one behind the other -/
structure RunI (C : Cfg) (to b : Int) (i : Nat) (S : Cs) : Prop where
  c : S.c = C
  node : S.node = 1
  ll : (S.latest.length : Int) = C.nodes + 1
  lat : latestOf S to = b + i
  len : S.l.length = i
  el : ∀ (j : Nat) (e : Int × Cp), S.l[j]? = some e → e.1 = keyOf to (b + 1 + j)
theorem run_floor {c : Cfg} {to b : Int} {i : Nat} {S : Cs} (h : RunI c to b i S) (h1 : 2 ≤ to) (h2 : to ≤ c.nodes) (h3 : to < 256) (hb : 0 ≤ b) (hm : b + i ≤ 72057594037927935) : floorC S to = b + 1 := by
  have ho : otherB S to = true := by
    unfold otherB
    rw [if_pos (by omega), if_pos (by rw [h.c]; exact h2), h.node]
    simp; omega
  unfold floorC
  rw [if_neg (by rw [ho]; simp)]
  have hlt : ∀ e ∈ S.l, keyOf to 0 < e.1 := fun e he => by
    obtain ⟨j, hj⟩ := List.getElem?_of_mem he
    have hjl := (List.getElem?_eq_some_iff.1 hj).1
    have hl := h.len
    rw [h.el j e hj, keyOf_eq (by omega) h3 (by omega) (by omega), keyOf_eq (by omega) h3 (by omega) (by omega)]
    omega
  rw [next_first hlt, keysG_get]
  cases hi : S.l[0]? with
  | none =>
    have : i = 0 := by
      have := List.getElem?_eq_none_iff.1 hi
      have hl := h.len; omega
    have hl := h.lat
    simp only [Option.map_none]
    rw [hl, this, u64w _ (by omega) (by omega)]
    omega
  | some e =>
    have hil := (List.getElem?_eq_some_iff.1 hi).1
    have hl := h.len
    simp only [Option.map_some]
    rw [h.el 0 e hi, key_shr (by omega) h3 (by omega) (by omega), if_neg (by simp), key_and (by omega) h3 (by omega) (by omega)]
    omega
theorem run_begin {c : Cfg} {to b op field tn ts value now : Int} {refs : List (Int × Int)} {i : Nat} {S : Cs} (h : RunI c to b i S) (h1 : 2 ≤ to) (h2 : to ≤ c.nodes) (h3 : to < 256) (hb : 0 ≤ b) (hm : b + i < 72057594037927935) (hc : (i : Int) < c.calls) (hw : (i : Int) < c.window) (hw2 : c.window ≤ 8) (ht : noneB tn ts = true ∨ tn = to) :
    beginS S true to op field tn ts value refs now = (putC { S with latest := S.latest.set to.toNat (b + i + 1) } ⟨to, b + i + 1, op, field, tn, ts, refs, value, 1, 0, [], 0, now, 0, now⟩, b + i + 1, 0) ∧
    RunI c to b (i + 1) (beginS S true to op field tn ts value refs now).1 ∧ (beginS S true to op field tn ts value refs now).1.l = S.l ++ [(keyOf to (b + i + 1), ⟨to, b + i + 1, op, field, tn, ts, refs, value, 1, 0, [], 0, now, 0, now⟩)] := by
  have hl := h.len
  have hlat := h.lat
  have e1 : IntKind.wrap .u64 (latestOf S to + 1) = b + i + 1 := by rw [hlat]; exact u64w _ (by omega) (by omega)
  have e2 : beginS S true to op field tn ts value refs now = (putC { S with latest := S.latest.set to.toNat (b + i + 1) } ⟨to, b + i + 1, op, field, tn, ts, refs, value, 1, 0, [], 0, now, 0, now⟩, b + i + 1, 0) := by
    unfold beginS
    rw [if_neg (by
      rintro (hh | hh | hh)
      · rw [h.c] at hh; omega
      · cases hh
      · rcases ht with ht | ht
        · rw [ht] at hh; cases hh.1
        · exact hh.2 ht)]
    rw [e1, run_floor h h1 h2 h3 hb (by omega)]
    rw [if_neg (by
      rintro (hh | hh)
      · rw [h.c] at hh; omega
      · rw [h.c, u64w (b + i + 1 - (b + 1)) (by omega) (by omega), u64w c.window (by omega) (by omega)] at hh; omega)]
    rw [if_neg (by rw [hlat]; omega)]
  have hlt : ∀ e ∈ S.l, e.1 < keyOf to (b + i + 1) := fun e he => by
    obtain ⟨j, hj⟩ := List.getElem?_of_mem he
    have hjl := (List.getElem?_eq_some_iff.1 hj).1
    rw [h.el j e hj, keyOf_eq (by omega) h3 (by omega) (by omega), keyOf_eq (by omega) h3 (by omega) (by omega)]
    omega
  have e3 : (putC { S with latest := S.latest.set to.toNat (b + i + 1) } ⟨to, b + i + 1, op, field, tn, ts, refs, value, 1, 0, [], 0, now, 0, now⟩).l = S.l ++ [(keyOf to (b + i + 1), ⟨to, b + i + 1, op, field, tn, ts, refs, value, 1, 0, [], 0, now, 0, now⟩)] := by
    show putF S.c.calls S.l (keyOf to (b + i + 1)) _ = _
    unfold putF
    rw [if_pos (.inr (by rw [h.c]; omega)), put_last hlt]
  rw [e2]
  refine ⟨rfl, ⟨h.c, h.node, ?_, ?_, ?_, fun j e he => ?_⟩, e3⟩
  · show ((S.latest.set to.toNat (b + i + 1)).length : Int) = _
    rw [List.length_set]; exact h.ll
  · show ((S.latest.set to.toNat (b + i + 1))[to.toNat]?).getD 0 = _
    have hll := h.ll
    rw [List.getElem?_set_self (by omega)]
    show b + i + 1 = _
    omega
  · rw [e3]; simp [hl]
  · rw [e3] at he
    by_cases hj : j < i
    · rw [List.getElem?_append_left (by omega)] at he
      exact h.el j e he
    · have hj2 := (List.getElem?_eq_some_iff.1 he).1
      simp at hj2
      have hj3 : j = i := by omega
      subst hj3
      rw [List.getElem?_append_right (by omega), hl] at he
      simp at he
      subst he
      show keyOf to (b + j + 1) = keyOf to (b + 1 + j)
      rw [show b + j + 1 = b + 1 + (j : Int) by omega]
theorem run_new {c : Cfg} {to b : Int} (h1 : 2 ≤ to) (h2 : to ≤ c.nodes) : RunI c to b 0 (newC c 1 b) := by
  refine ⟨rfl, rfl, ?_, ?_, rfl, fun j e he => by simp [newC] at he⟩
  · show ((List.replicate (c.nodes + 1).toNat b).length : Int) = _
    rw [List.length_replicate]; omega
  · show ((List.replicate (c.nodes + 1).toNat b)[to.toNat]?).getD 0 = _
    rw [List.getElem?_replicate, if_pos (by omega)]
    show b = _
    omega
theorem raw_open {H : Type} {W : World} {cs : Array Value} {d : DataW H} (h : Lies Try.prog W 6 24 cs.toList d) : ∃ r : Raw, cs = r.cells.toArray ∧ RawW r := by
  obtain ⟨r, hr, w1, w2⟩ := Raw_of_lies (n := 4) h
  exact ⟨r, by apply Array.ext'; exact hr, ⟨(u64b w1).1, (u64b w2).1⟩⟩
theorem conf_rng (r : Raw) : 2 ≤ (configOf r).nodes ∧ (configOf r).nodes ≤ 4 ∧ 1 ≤ (configOf r).calls ∧ (configOf r).calls ≤ 6 ∧ 1 ≤ (configOf r).window ∧ (configOf r).window ≤ 4 := by
  have a0 := md (n := r.nodes) (m := 3) (by omega)
  have a1 := md (n := r.calls) (m := 6) (by omega)
  have a2 := md (n := r.window) (m := 4) (by omega)
  show 2 ≤ 2 + r.nodes % 3 ∧ 2 + r.nodes % 3 ≤ 4 ∧ 1 ≤ 1 + r.calls % 6 ∧ 1 + r.calls % 6 ≤ 6 ∧ 1 ≤ 1 + r.window % 4 ∧ 1 + r.window % 4 ≤ 4
  omega
theorem conf_ok {r : Raw} (hr : RawW r) (s : Int) (h1 : s ≤ 72057594037927935) : newOk (configOf r) 1 s := ⟨may_config hr, by omega, by have := conf_rng r; omega, by omega⟩
section
variable {w w' W : World} {Q : Value → World → Prop} {g gs gx : Nat} {ft al ft' al' : List Nat} {S S' : Cs} {c : Cfg}
theorem eR {S : Cs} (h : S.node = 1) : true = true ↔ Right (askM S (newY 2 1 0 0 0 0 [] 0) 1) := by
  refine ⟨fun _ => right_ask (by omega) (by show 1 ≤ (2 : Int) ∧ (2 : Int) ≤ 64; omega) (by show S.node ≠ 2; omega) (by show okSerial 1; unfold okSerial; omega) (by show (1 : Int) ≤ 1 ∧ (1 : Int) ≤ 1; omega) (by show 1 ≤ (1 : Int) ∧ (1 : Int) ≤ 6; omega) (by show 0 ≤ (0 : Int) ∧ (0 : Int) ≤ 63; omega) ?_ ?_ ⟨fun x hx => (by cases hx), by show 0 ≤ 2; omega⟩, fun _ => rfl⟩
  · show okID (0, 0)
    unfold okID
    exact .inl ⟨rfl, rfl⟩
  · show noID (0, 0) ↔ _
    unfold noID
    exact ⟨fun _ => .inl rfl, fun _ => ⟨rfl, rfl⟩⟩
theorem ends_l0 {left : Nat} (hn : 2 ≤ c.nodes) (hl : (left : Int) < c.calls ∧ (left : Int) < c.window) (hc : c.calls ≤ 16 ∧ c.window ≤ 8) (hQ : ∀ w', Fr [] W w' → Q (.bool true) w') :
    ∀ (f i : Nat) (w : World) (ft al : List Nat) (S : Cs), left - i < f → i ≤ left → PL W w g ft al S → RunI c 2 (72057594037927935 - left) i S → X5.l0 Q f (left : Int) (some (at0 g 0)) (i : Int) w
  | 0, i, w, ft, al, S, hf, _, _, _ => by omega
  | f + 1, i, w, ft, al, S, hf, hi, p, h => by
    rw [X5.l0]
    refine bc_dec (fun h1 => ?_) (fun h1 => ?_)
    · obtain ⟨e1, e2, _⟩ := run_begin (op := 1) (field := 0) (tn := 0) (ts := 0) (value := 0) (now := 0) (refs := []) h (by omega) hn (by omega) (by omega) (by omega) (by omega) (by omega) hc.2 (.inl rfl)
      refine begin_spec (refs := []) (rp := none) (rc := 0) p.t Own.nil (by simp) (eR h.node) ?_
      intro ft' al' w2 t2 f2 e3 a2
      refine ⟨_, _, rfl, bc_ne (fun hh => absurd (by rw [e1]) hh) (fun _ => ?_)⟩
      rw [i64w ((i : Int) + 1) (by omega) (by omega), show (i : Int) + 1 = ((i + 1 : Nat) : Int) by omega]
      exact ends_l0 hn hl hc hQ f (i + 1) w2 ft' al' _ (by omega) (by omega) (p.next t2 f2 a2) e2
    · have hi' : i = left := by omega
      subst hi'
      have hlat := h.lat
      have hlen := h.len
      have e1 : beginS S true 2 1 0 0 0 0 [] 0 = (S, 0, 7) := by
        unfold beginS
        rw [if_neg (by
          rintro (hh | hh | hh)
          · rw [h.c] at hh; omega
          · cases hh
          · exact absurd hh.1 (by decide)), run_floor h (by omega) hn (by omega) (by omega) (by omega)]
        have el : latestOf S 2 = 72057594037927935 := by rw [hlat]; omega
        rw [el, u64w (72057594037927935 + 1) (by omega) (by omega), if_neg (by
          rintro (hh | hh)
          · rw [h.c] at hh; omega
          · rw [h.c, u64w (72057594037927935 + 1 - (72057594037927935 - (i : Int) + 1)) (by omega) (by omega), u64w c.window (by omega) (by omega)] at hh; omega), if_pos rfl]
      refine begin_spec (refs := []) (rp := none) (rc := 0) p.t Own.nil (by simp) (eR h.node) ?_
      rw [e1]
      intro ft' al' w6 t6 f6 e3 a6
      have p6 := p.next t6 f6 a6
      refine ⟨_, _, rfl, bc_eqt' rfl (all_spec t6 fun pp cc xs w10 o10 a10 f10 n10 => ⟨_, _, _, rfl, ?_⟩)⟩
      have := hQ w10 (p6.F.tr f10)
      rw [hlen]
      simpa using this
theorem callerEnds_row {H : Type} {cs : Array Value} {d : DataW H} (h : Lies Try.prog W 6 24 cs.toList d) (hs : SizedD Try.prog 24 d) (left : Int) (_ : (Lit.int .i64 left).wf = true) :
    CallR Try.prog 5 #[.agg cs, .int .i64 left] W fun v w' => v = .bool true ∧ Fr [] W w' := by
  obtain ⟨r, rfl, hr⟩ := raw_open h
  apply X5.sound
  unfold X5.f
  have cr := conf_rng r
  have dr := (drift_half r).1
  refine newB fun g1 w2 b f2 _ => ?_
  have b : Blk w2 g1 r.cells 24 := b
  refine ld_Raw (s := r) b.cat (config_spec (r := r) fun w26 f26 => ⟨_, _, _, _, _, _, _, _, _, _, _, _, _, _, _, _, _, _, _, _, _, _, rfl, newB fun gc w50 bc f50 h50 => stAllB (vs := (configOf r).cells) bc rfl fun w51 b51 f51 => ?_⟩)
  have F26 := f2.tr f26
  have F51 : Fr [] W w51 := (F26.tr f50).loc f51 (by have := F26.size; omega)
  have hmin : 0 < min2 (configOf r).calls (configOf r).window ∧ min2 (configOf r).calls (configOf r).window ≤ 4 ∧ min2 (configOf r).calls (configOf r).window ≤ (configOf r).calls ∧ min2 (configOf r).calls (configOf r).window ≤ (configOf r).window := by
    unfold min2; split <;> omega
  refine ld_int (b51.cat 6 _ rfl) (ld_int (b51.cat 7 _ rfl) (pick_spec hmin.1 (by omega) ⟨_, rfl, ?_⟩))
  have hm := md (n := left) (m := min2 (configOf r).calls (configOf r).window) hmin.1
  generalize left % min2 (configOf r).calls (configOf r).window = lf at hm
  obtain ⟨k, rfl⟩ : ∃ k : Nat, lf = (k : Int) := ⟨lf.toNat, by omega⟩
  have e4 : IntKind.wrap .u64 (72057594037927935 - IntKind.wrap .u64 (k : Int)) = 72057594037927935 - k := by rw [u64w (k : Int) (by omega) (by omega), u64w _ (by omega) (by omega)]
  rw [e4]
  refine ld_Cfg (s := configOf r) b51.cat (newL (conf_ok hr _ (by omega)) dr fun g ft al w80 p => ⟨_, _, rfl, known_spec fun w84 f84 => ⟨_, rfl, bc_bool (fun h => by cases h) (fun _ => bc_ne (fun h => absurd rfl h) (fun _ => bc_bool (fun h => by cases h) (fun _ => ?_)))⟩⟩)
  unfold X5.j1
  exact ⟨k + 1, ends_l0 (W := w51) (c := configOf r) (left := k) (by omega) (by omega) (by omega) (fun w' f' => ⟨rfl, F51.tr f'⟩) _ 0 w84 ft al _ (by omega) (by omega) (p.keep' f84) (run_new (by omega) (by omega))⟩
end
end Go.Proofs.YtdgoalhnkegbmaaX
