/- CallerLate: a call let go is held until its reply comes; the reply is then let go of. -/
import Derived.Test.YtdgoalhnkegbmaaL20Ends
import Derived.Test.YtdgoalhnkegbmaaL20Held
namespace Go.Proofs.YtdgoalhnkegbmaaX
open Go.RowKit
set_option linter.unusedVariables false
set_option linter.unusedSimpArgs false
set_option maxRecDepth 100000
section
variable {β : Type} {k q : Int} {y z : β}
theorem at_self1 : at_ ilt [(k, y)] k = 0 := by
  have hn : ilt k k = false := by unfold ilt; exact decide_eq_false (by omega)
  unfold at_ rank keys
  simp [List.takeWhile, hn]
theorem has_self1 : has ilt [(k, y)] k = true := by
  unfold has
  rw [at_self1]
  simp [keys]
theorem get_self1 : get ilt [(k, y)] k = some y := by
  unfold get
  rw [has_self1, at_self1]
  rfl
theorem put_self1 : put ilt [(k, y)] k z = [(k, z)] := by
  unfold put
  rw [has_self1, at_self1]
  rfl
theorem drp_self1 : drp ilt [(k, y)] k = [] := by
  unfold drp
  rw [has_self1, at_self1]
  rfl
theorem next_lt1 (h : q < k) : next ilt [(k, y)] q = some k := by
  rw [next_first (by intro e he; simp at he; subst he; exact h)]
  rfl
theorem after_lt1 (h : q < k) : after ilt [(k, y)] q = some k := by
  unfold after
  rw [next_lt1 h]
  rfl
end
abbrev K1 : Int := 144115188075855873
theorem key21 : keyOf 2 1 = K1 := by rw [keyOf_eq (by omega) (by omega) (by omega) (by omega)]; rfl
theorem past0 {a : Int} (h0 : 0 ≤ a) (h1 : a ≤ 4294967295) {s : Int} (hs : s ≤ a) : pastB 0 s a = true := by
  unfold pastB
  rw [if_pos (by omega), u64w (a - 0) (by omega) (by omega)]
  exact decide_eq_true (by omega)
/-- the table with one call alone -/
def oneS (C : Cfg) (lat : List Int) (last : Int) (y : Cp) : Cs := ⟨C, 1, 0, lat, last, [(K1, y)]⟩
def y1 : Cp := ⟨2, 1, 3, 0, 2, 3, [(1, 7)], 0, 1, 0, [], 0, 0, 0, 0⟩
abbrev y4 : Cp := { y1 with state := 4 }
section
variable {C : Cfg} {lat : List Int} {last now : Int} {y : Cp}
theorem one_other (hn : 2 ≤ C.nodes) : otherB (oneS C lat last y) 2 = true := by
  unfold otherB
  rw [if_pos (by omega), if_pos (show 2 ≤ (oneS C lat last y).c.nodes from hn)]
  rfl
theorem one_get (hn : 2 ≤ C.nodes) : getC (oneS C lat last y) 2 1 = some y := by
  unfold getC
  rw [if_neg (by rw [one_other hn]; simp), key21]
  exact get_self1
theorem one_floor (hn : 2 ≤ C.nodes) : floorC (oneS C lat last y) 2 = 1 := by
  unfold floorC
  rw [if_neg (by rw [one_other hn]; simp)]
  have h : keyOf 2 0 < K1 := by rw [keyOf_eq (by omega) (by omega) (by omega) (by omega)]; decide
  show (match next ilt [(K1, y)] (keyOf 2 0) with
  | none => IntKind.wrap .u64 (latestOf (oneS C lat last y) 2 + 1)
  | some k => if IntKind.wrap .i64 (iShr .u64 k 56) ≠ 2 then IntKind.wrap .u64 (latestOf (oneS C lat last y) 2 + 1) else iAnd .u64 k 72057594037927935) = 1
  rw [next_lt1 h]
  show (if IntKind.wrap .i64 (iShr .u64 K1 56) ≠ 2 then IntKind.wrap .u64 (latestOf (oneS C lat last y) 2 + 1) else iAnd .u64 K1 72057594037927935) = 1
  rw [← key21, key_shr (by omega) (by omega) (by omega) (by omega), if_neg (by simp), key_and (by omega) (by omega) (by omega) (by omega)]
theorem one_put {z : Cp} (h1 : z.to = 2) (h2 : z.num = 1) : putC (oneS C lat last y) z = oneS C lat last z := by
  show { oneS C lat last y with l := putF C.calls [(K1, y)] (keyOf z.to z.num) z } = _
  rw [h1, h2, key21]
  unfold putF
  rw [has_self1, if_pos (.inl rfl), put_self1]
  rfl
theorem one_await (hn : 2 ≤ C.nodes) (hp : 1 ≤ C.patience ∧ C.patience ≤ 4294967295) : awaitC (oneS C lat last y1) 2 1 C.patience = (oneS C lat last y4, yZero, false, 3) := by
  unfold awaitC
  rw [one_get hn]
  show (if (1 : Int) = 4 then _ else if (1 : Int) = 3 then _ else if pastB 0 C.patience C.patience = false then _ else if (1 : Int) = 2 then _ else _) = _
  rw [if_neg (by decide), if_neg (by decide), past0 (by omega) hp.2 (Int.le_refl _), if_neg (by decide), if_neg (by decide), one_put rfl rfl]
theorem one_step (hp : 1 ≤ now ∧ now ≤ 4294967295) : stepC (oneS C lat 0 y4) now = (oneS C lat K1 (againS (oneS C lat 0 y4) y4 now), y4, true) := by
  unfold stepC
  have e0 : after ilt (oneS C lat 0 y4).l (oneS C lat 0 y4).last = some K1 := after_lt1 (show (0 : Int) < K1 by decide)
  have e : get ilt (oneS C lat 0 y4).l K1 = some y4 := get_self1
  have es : sendsB (oneS C lat 0 y4) y4 now = true := by
    show (decide ((4 : Int) = 1 ∨ (4 : Int) = 4) && pastB 0 0 now) = true
    rw [past0 (by omega) hp.2 (by omega)]
    rfl
  rw [e0]
  simp only [e, Option.getD_some, es, if_true]
  show (putC (oneS C lat K1 y4) (againS (oneS C lat 0 y4) y4 now), y4, true) = _
  rw [one_put rfl rfl]
theorem one_reply {refs : List (Int × Int)} {z : Cp} (hn : 2 ≤ C.nodes) (h1 : z.to = 2) (h2 : z.num = 1) (h4 : z.state = 4) : replyC (oneS C lat last z) 2 1 2 1 0 0 refs = (⟨C, 1, 0, lat, last, []⟩, [], true) := by
  unfold replyC
  rw [if_neg (by rw [one_other hn]; simp [oneS]), one_get hn]
  simp only [h1, h2, h4]
  rw [if_neg (by decide), if_pos trivial]
  show ({ oneS C lat last z with l := drp ilt [(K1, z)] (keyOf 2 1) }, [], true) = _
  rw [key21, drp_self1]
  rfl
def noS (C : Cfg) (lat : List Int) (last : Int) : Cs := ⟨C, 1, 0, lat, last, []⟩
theorem no_other (hn : 2 ≤ C.nodes) : otherB (noS C lat last) 2 = true := by
  unfold otherB
  rw [if_pos (by omega), if_pos (show 2 ≤ (noS C lat last).c.nodes from hn)]
  rfl
theorem no_get {n : Int} : getC (noS C lat last) 2 n = none := by
  unfold getC
  split
  · rfl
  · rfl
theorem no_reply {refs : List (Int × Int)} {n : Int} (hn : 2 ≤ C.nodes) (hl : latestOf (noS C lat last) 2 = 1) : replyC (noS C lat last) 2 1 2 n 0 0 refs = (noS C lat last, [], decide (n > 0) && decide (n ≤ 1)) := by
  unfold replyC
  rw [if_neg (by rw [no_other hn]; simp [noS]), no_get, hl]
  rfl
theorem no_floor (hn : 2 ≤ C.nodes) (hl : latestOf (noS C lat last) 2 = 1) : floorC (noS C lat last) 2 = 2 := by
  unfold floorC
  rw [if_neg (by rw [no_other hn]; simp), hl]
  rfl
end
section
variable {w w' W : World} {Q : Value → World → Prop} {g gs gx : Nat} {ft al ft' al' : List Nat} {S S' : Cs} {C c : Cfg} {lat : List Int} {last again : Int}
theorem PL.out (h : PL W w g ft al S) {x : Nat} (hx : x ∉ al) (hl : x < w.heap.size) (e : ∀ x ∈ al', x ∈ al ∨ w.heap.size ≤ x) : x ∉ al' := fun hm => by
  rcases e _ hm with h' | h'
  · exact hx h'
  · omega
theorem idOne {w : World} {gq : Nat} {a b : Int} (h : Blk w gq #[.int .i64 a, .int .u64 b].toList 26) : IdRow w (some (at0 gq 0)) 1 [(a, b)] := by
  unfold IdRow
  exact own_blk (cur := idc (a, b)) h rfl (Nat.le_refl _) (by simp [maxLen]) rfl
theorem late_l0 (hn : 2 ≤ C.nodes) (hl : latestOf (noS C lat last) 2 = 1) (hQ : ∀ w', Fr [] W w' → Q (.bool true) w') :
    ∀ (f i : Nat) (w : World) (ft al : List Nat) (S : Cs), (again % 4).toNat + 1 - i < f → i ≤ (again % 4).toNat + 1 → PL W w g ft al S → Blk w gx (idc (1, 7)) 26 → gx ∉ al → W.heap.size ≤ gx →
      replyC S 2 1 2 1 0 0 [(2, 9)] = (noS C lat last, [], true) → (0 < i → S = noS C lat last) → X8.l0 Q f again (some (at0 g 0)) (at0 gx 0) 1 (i : Int) w
  | 0, i, w, ft, al, S, hf, _, _, _, _, _, _, _ => by omega
  | f + 1, i, w, ft, al, S, hf, hi, p, bx, nx, wx, hr, hS => by
    rw [X8.l0]
    have hm := md (n := again) (m := 4) (by omega)
    refine pick_spec (by omega) (by omega) ⟨_, rfl, bc_dec (fun h1 => ?_) (fun h1 => ?_)⟩
    · refine newB fun g4 w5 b4 f5 h5 => ?_
      have p5 := p.keep' f5
      have lt := p.t.lt
      have hsub := p.t.sub
      refine reply_spec' (S := S) (m := ⟨2, 2, 1, 1, 0, 0, 0, 0, 0, 0, [(2, 9)], 0, 0, 0, 0, 0, 0, 0, []⟩) (rp := some (at0 g4 0)) (rc := 1) (lc := 0) p5.t (idOne b4) (by simp) (fun k hk hm => ?_) ?_
      · simp [fbl, at0] at hk
        have := lt k (hsub k hm)
        omega
      intro tp tc ft7 al7 w7 r7 n7 t7 f7 e7 a7
      have hr' : replyC S 2 1 2 1 0 0 [(2, 9)] = (noS C lat last, [], true) := hr
      simp only [hr'] at r7 t7 ⊢
      have p7 := p5.next t7 f7 a7
      have bx5 := bx.keep' f5
      have bx7 := bx5.keep f7 (fun hm => nx (hsub _ hm))
      have nx7 := p5.out nx bx5.lt a7
      refine ⟨_, _, _, _, rfl, bc_dec (fun h => absurd h (by simp)) (fun _ => bc_bool (fun h => by cases h) (fun _ => ?_))⟩
      refine all_spec t7 fun ap ac xs w11 o11 a11 f11 n11 => ⟨_, _, _, rfl, bc_dec (fun h => absurd h (by simp [noS])) (fun _ => ?_)⟩
      have bx11 := bx7.keep' f11
      have p11 := p7.keep' f11
      refine ld_int (bx11.cat 0 _ rfl) (ld_int (bx11.cat 1 _ rfl) (pinned_spec p11.t fun w16 f16 => ⟨_, rfl, bc_bool (fun h => by cases h) (fun _ => ?_)⟩))
      rw [i64w ((i : Int) + 1) (by omega) (by omega), show (i : Int) + 1 = ((i + 1 : Nat) : Int) by omega]
      exact late_l0 hn hl hQ f (i + 1) w16 ft7 al7 _ (by omega) (by omega) (p11.keep' f16) (bx11.keep' f16) nx7 wx (no_reply hn hl) (fun _ => rfl)
    · have hS' := hS (by omega)
      subst hS'
      refine reply_spec' (S := noS C lat last) (m := ⟨2, 2, 1, 2, 0, 0, 0, 0, 0, 0, [], 0, 0, 0, 0, 0, 0, 0, []⟩) (rp := none) (rc := 0) (lc := 0) p.t Own.nil (by simp) (by simp [fbl]) ?_
      intro tp tc ft7 al7 w7 r7 n7 t7 f7 e7 a7
      have hr' : replyC (noS C lat last) 2 1 2 2 0 0 [] = (noS C lat last, [], false) := by rw [no_reply hn hl]; rfl
      simp only [hr'] at r7 t7 ⊢
      have p7 := p.next t7 f7 a7
      refine ⟨_, _, _, _, rfl, bc_bool (fun _ => ?_) (fun h => by cases h)⟩
      refine floor_spec t7 fun w23 f23 => ⟨_, rfl, ?_⟩
      rw [no_floor hn hl]
      exact hQ w23 (p7.F.tr f23)
theorem lR {S : Cs} (h : S.node = 1) : true = true ↔ Right (askM S (newY 2 3 0 2 3 0 [(1, 7)] 0) 1) := by
  refine ⟨fun _ => right_ask (by omega) (by show 1 ≤ (2 : Int) ∧ (2 : Int) ≤ 64; omega) (by show S.node ≠ 2; omega) (by show okSerial 1; unfold okSerial; omega) (by show (1 : Int) ≤ 1 ∧ (1 : Int) ≤ 1; omega) (by show 1 ≤ (3 : Int) ∧ (3 : Int) ≤ 6; omega) (by show 0 ≤ (0 : Int) ∧ (0 : Int) ≤ 63; omega) ?_ ?_ ⟨fun x hx => ?_, by show 1 ≤ 2; omega⟩, fun _ => rfl⟩
  · show okID (2, 3)
    unfold okID okSerial
    exact .inr ⟨by decide, by decide⟩
  · show noID (2, 3) ↔ _
    unfold noID
    constructor
    · intro h; exact absurd h.1 (by decide)
    · rintro (h | h)
      · exact absurd h (by show ¬ (3 : Int) = 1; decide)
      · exact absurd h (by show ¬ (3 : Int) = 6; decide)
  · have hx' : x ∈ [((1 : Int), (7 : Int))] := hx
    simp at hx'
    subst hx'
    unfold okID okSerial
    exact .inr ⟨by decide, by decide⟩
theorem may_pat (h : mayB c = true) : 1 ≤ c.patience ∧ c.patience ≤ 4294967295 := by
  unfold mayB mayE at h
  simp only [Bool.and_eq_true, decide_eq_true_eq] at h
  exact ⟨h.1.2.1.2, h.1.2.2⟩
theorem late_begin (hn : 2 ≤ C.nodes) (hc : 1 ≤ C.calls) (hw : 1 ≤ C.window ∧ C.window ≤ 8) : ∃ lat, latestOf (noS C lat 0) 2 = 1 ∧ beginS (newC C 1 0) true 2 3 0 2 3 0 [(1, 7)] 0 = (oneS C lat 0 y1, 1, 0) := by
  obtain ⟨e1, e2, e3⟩ := run_begin (op := 3) (field := 0) (tn := 2) (ts := 3) (value := 0) (now := 0) (refs := [(1, 7)]) (run_new (c := C) (to := 2) (b := 0) (by omega) hn) (by omega) hn (by omega) (by omega) (by omega) (by omega) (by omega) hw.2 (.inr rfl)
  have el := e2.lat
  have e4 : ((0 : Int) + ((0 : Nat) : Int) + 1) = 1 := rfl
  rw [e4] at e1 e3
  refine ⟨(newC C 1 0).latest.set (2 : Int).toNat 1, ?_, ?_⟩
  · have hll := e2.ll
    rw [e1] at el
    exact el
  · rw [e1] at e3 ⊢
    have e5 : (putC { newC C 1 0 with latest := (newC C 1 0).latest.set (2 : Int).toNat 1 } y1).l = [(K1, y1)] := by
      rw [key21] at e3
      exact e3
    show ((⟨C, 1, 0, (newC C 1 0).latest.set (2 : Int).toNat 1, 0, (putC { newC C 1 0 with latest := (newC C 1 0).latest.set (2 : Int).toNat 1 } y1).l⟩ : Cs), (1 : Int), (0 : Int)) = _
    rw [e5]
    rfl
theorem late_j2 (hn : 2 ≤ C.nodes) (hp : 1 ≤ C.patience ∧ C.patience ≤ 4294967295) (hl : ∀ l, latestOf (noS C lat l) 2 = 1) (p : PL W w g ft al (oneS C lat 0 y4)) (bc : Blk W gs C.cells 31) (bx : Blk w gx (idc (1, 7)) 26) (nx : gx ∉ al) (wx : W.heap.size ≤ gx)
    (hQ : ∀ w', Fr [] W w' → Q (.bool true) w') : X8.j2 Q again (at0 gs 0) (some (at0 g 0)) (at0 gx 0) 1 w := by
  unfold X8.j2
  refine ld_int ((bc.keep' p.F).cat 16 _ rfl) (step_spec p.t ?_)
  have es := one_step (C := C) (lat := lat) (now := C.patience) hp
  have em : stepM (oneS C lat 0 y4) C.patience = askM (oneS C lat K1 (againS (oneS C lat 0 y4) y4 C.patience)) y4 1 := by
    unfold stepM
    rw [es]
    show askM _ _ (floorC (oneS C lat K1 (againS (oneS C lat 0 y4) y4 C.patience)) 2) = _
    rw [one_floor hn]
  intro x mp mc ft4 al4 w3 m20 n20 t20 f20 e20 a20
  rw [es] at t20 ⊢
  rw [em] at m20 ⊢
  have p3 := p.next t20 f20 a20
  have bx3 := bx.keep f20 (fun hm => nx (p.t.sub _ hm))
  have nx3 := p.out nx bx.lt a20
  refine ⟨_, _, _, _, _, _, _, _, _, _, _, _, _, _, _, _, _, _, _, _, _, _, _, _, _, _, _, _, _, _, _, _, _, _, _, _, _, _, _, _, _, _, _, rfl, newB fun g39 w40 b39 f40 h39 => newB fun g41 w42 b41 f42 h41 => stAllB (vs := x.cells) (b39.keep' f42) rfl fun w43 b43 f43 => ?_⟩
  have l39 := b39.lt
  refine stAllB (vs := (askM (oneS C lat K1 (againS (oneS C lat 0 y4) y4 C.patience)) y4 1).cells mp mc none 0) (b41.off1 (by omega) f43) rfl fun w44 b44 f44 => ?_
  have z3 := p3.F.size
  have z40 := f40.size
  have nn39 : g39 ∉ al4 := p3.t.fresh h39
  have nn41 : g41 ∉ al4 := fun hm => by have := p3.t.lt g41 hm; omega
  have p44 : PL W w44 g ft4 al4 _ := (((p3.keep' f40).keep' f42).off nn39 (by omega) f43).off nn41 (by omega) f44
  have l3 := bx3.lt
  have bx44 := ((bx3.keep' (f40.tr f42)).off1 (by omega) f43).off1 (by omega) f44
  refine bc_bool (fun h => by cases h) (fun _ => ld_int (b44.cat 3 _ rfl) (bc_ne (fun h => absurd rfl h) (fun _ => ?_)))
  unfold X8.j1
  exact ⟨(again % 4).toNat + 2, late_l0 hn (hl K1) hQ _ 0 w44 ft4 al4 _ (by omega) (by omega) p44 bx44 nx3 wx (one_reply hn rfl rfl rfl) (fun h => by omega)⟩
theorem late_j3 (hn : 2 ≤ C.nodes) (hp : 1 ≤ C.patience ∧ C.patience ≤ 4294967295) (hc : 1 ≤ C.calls ∧ C.calls ≤ 16) (hw : 1 ≤ C.window ∧ C.window ≤ 8) (p : PL W w g ft al (newC C 1 0)) (bc : Blk W gs C.cells 31)
    (hQ : ∀ w', Fr [] W w' → Q (.bool true) w') : X8.j3 Q again (at0 gs 0) (some (at0 g 0)) w := by
  obtain ⟨lat, hl, eb⟩ := late_begin hn hc.1 hw
  unfold X8.j3
  refine newB fun g1 w2 b1 f2 h1 => stAllB (vs := idc (1, 7)) b1 rfl fun w3 b3 f3 => ld_int (b3.cat 0 _ rfl) (ld_int (b3.cat 1 _ rfl) (newB fun g6 w7 b6 f7 h6 => ?_))
  have z0 := p.F.size
  have nx := p.t.fresh h1
  have wx : W.heap.size ≤ g1 := by omega
  have p7 := ((p.keep' f2).off nx wx f3).keep' f7
  have b7 := b3.keep' f7
  refine begin_spec (refs := [(1, 7)]) (rp := some (at0 g6 0)) (rc := 1) p7.t (idOne b6) (by simp) (lR (S := newC C 1 0) rfl) ?_
  rw [eb]
  intro ft9 al9 w9 t9 f9 e9 a9
  have p9 := p7.next t9 f9 a9
  have b9 := b7.keep f9 (fun hm => nx (p7.t.sub _ hm))
  have nx9 := p7.out nx b7.lt a9
  refine ⟨_, _, rfl, ld_int ((bc.keep' p9.F).cat 16 _ rfl) (await_spec t9 ?_)⟩
  rw [one_await hn hp]
  intro y ft14 al14 w14 c14 t14 f14 e14 a14
  have p14 := p9.next t14 f14 a14
  have b14 := b9.keep f14 (fun hm => nx9 (p9.t.sub _ hm))
  have nx14 := p9.out nx9 b9.lt a14
  refine ⟨_, _, _, _, _, _, _, _, _, _, _, _, _, _, _, _, _, _, _, _, _, rfl, newB fun g32 w33 b32 f33 h32 => stAllB (vs := y.cells) b32 rfl fun w34 b34 f34 => ?_⟩
  have z14 := p14.F.size
  have l14 := b14.lt
  have p34 := (p14.keep' f33).off (p14.t.fresh h32) (by omega) f34
  have b34' := (b14.keep' f33).off1 (by omega) f34
  refine bc_ne (fun h => absurd rfl h) (fun _ => bc_ne (fun h => absurd rfl h) (fun _ => ld_int (b34'.cat 0 _ rfl) (ld_int (b34'.cat 1 _ rfl) (pinned_spec p34.t fun w38 f38 => ⟨_, rfl, bc_bool (fun h => ?_) (fun _ => ?_)⟩))))
  · have e : pinnedC (oneS C lat 0 y4) (1, 7) = true := rfl
    rw [e] at h
    cases h
  have p38 := p34.keep' f38
  refine held_spec p38.t hc.2 fun hp' hc' w41 r41 n41 f41 => ⟨_, _, _, rfl, bc_ne (fun h => absurd rfl h) (fun _ => ?_)⟩
  have p41 := p38.keep' f41
  refine floor_spec p41.t fun w44 f44 => ⟨_, rfl, bc_ne (fun h => absurd (one_floor hn) h) (fun _ => ?_)⟩
  exact late_j2 hn hp (fun l => hl) (p41.keep' f44) bc (b34'.keep' (f38.tr (f41.tr f44))) nx14 wx hQ
theorem callerLate_row {H : Type} {cs : Array Value} {d : DataW H} (h : Lies Try.prog W 6 24 cs.toList d) (hs : SizedD Try.prog 24 d) (again : Int) (_ : (Lit.int .i64 again).wf = true) :
    CallR Try.prog 8 #[.agg cs, .int .i64 again] W fun v w' => v = .bool true ∧ Fr [] W w' := by
  obtain ⟨r, rfl, hr⟩ := raw_open h
  apply X8.sound
  unfold X8.f
  have cr := conf_rng r
  have dr := (drift_half r).1
  refine newB fun g1 w2 b f2 _ => ?_
  have b : Blk w2 g1 r.cells 24 := b
  refine ld_Raw (s := r) b.cat (config_spec (r := r) fun w26 f26 => ⟨_, _, _, _, _, _, _, _, _, _, _, _, _, _, _, _, _, _, _, _, _, _, rfl, newB fun gc w50 bc f50 h50 => stAllB (vs := (configOf r).cells) bc rfl fun w51 b51 f51 => ?_⟩)
  have F26 := f2.tr f26
  have F51 : Fr [] W w51 := (F26.tr f50).loc f51 (by have := F26.size; omega)
  refine ld_Cfg (s := configOf r) b51.cat (newL (conf_ok hr _ (by omega)) dr fun g ft al w80 p => ⟨_, _, rfl, known_spec fun w84 f84 => ⟨_, rfl, bc_bool (fun h => by cases h) (fun _ => bc_ne (fun h => absurd rfl h) (fun _ => bc_bool (fun h => by cases h) (fun _ => ?_)))⟩⟩)
  exact late_j3 (by omega) (may_pat (may_config hr)) (by omega) (by omega) (p.keep' f84) b51 (fun w' f' => ⟨rfl, F51.tr f'⟩)
end
end Go.Proofs.YtdgoalhnkegbmaaX
