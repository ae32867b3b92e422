/- Part 4. -/
import Derived.Maps.Keyed
import Derived.Test.YtnjmkhhaodgpbaaGreatC3
set_option linter.unusedVariables false
set_option linter.unusedSimpArgs false
namespace Go.Proofs.YtnjmkhhaodgpbaaGreatX
open Go.RowKit
section
variable {w w' : World} {a : Addr} {foot S : List Nat} {most : Int} {l : List (Int × Scn)} {Q : QT}
def ktup_SC (o : Option Int) : Value := .tuple #[(Value.int .u64) (o.getD 0), .bool o.isSome]
theorem from_SC {i : Nat} (h : T_SC w a foot most l) (hi : i ≤ 9223372036854775807) (hK : Q (ktup_SC (keys l)[i]?) w) : CallR Tryz.prog 101 #[.pointer (some a), .int .i64 (i : Int)] w Q := by
  obtain ⟨g, pk, pv, ck, cv, t⟩ := h
  obtain ⟨rfl, hb, hk, hvs, hft, hgk, hgv, hkv, hs, hle, htop⟩ := t
  refine X101.sound _ _ _ _ ?_
  unfold X101.f
  simp only [optP_some, add_at, Nat.zero_add, Nat.add_zero]
  refine bc_neg (by omega) (ld_sl (hb.cell rfl) (bc_dec (fun hge => ?_) (fun hlt => ?_)))
  · rw [List.getElem?_eq_none (by simp; omega)] at hK
    exact hK
  · have hlt' : i < (keys l).length := by simp; omega
    have hi' := List.getElem?_eq_getElem hlt'
    rw [hi'] at hK
    generalize (keys l)[i] = x at hi' hK
    refine ld_sl (hb.cell rfl) ⟨⟨by omega, by omega⟩, ?_⟩
    obtain ⟨p, hp, hc⟩ := cell_79 hk.cells hi'
    exact opt_some hp (ld_int (by rw [Int.toNat_natCast]; exact hc) hK)
theorem next_SC {k : Int} (h : T_SC w a foot most l) (hK : Q (ktup_SC (next ilt l k)) w) : CallR Tryz.prog 80 #[.pointer (some a), (Value.int .u64) k] w Q := by
  have h0 := h
  obtain ⟨g, pk, pv, ck, cv, t⟩ := h
  obtain ⟨rfl, hb, hk, hvs, hft, hgk, hgv, hkv, hs, hle, htop⟩ := t
  refine X80.sound _ _ _ _ ?_
  unfold X80.f
  simp only [optP_some, add_at, Nat.zero_add, Nat.add_zero]
  refine ld_sl (hb.cell rfl) (bs_79 hk.cells (by simp) hs (by omega) ⟨_, _, rfl, ?_⟩)
  have hat : rank ilt (keys l) k = at_ ilt l k := rfl
  have hhas : decide ((keys l)[at_ ilt l k]? = some k) = has ilt l k := rfl
  have hal := at_le (lt := ilt) l k
  rw [hat, hhas]
  unfold next at hK
  refine bc_bool (fun hh => ?_) (fun hh => ?_)
  · rw [show IntKind.wrap .i64 ((at_ ilt l k : Int) + 1) = ((at_ ilt l k + 1 : Nat) : Int) by rw [i64w _ (by omega) (by omega)]; omega]
    rw [if_pos hh] at hK
    exact from_SC h0 (by omega) ⟨_, _, rfl, hK⟩
  · rw [if_neg (by simp [hh])] at hK
    exact from_SC h0 (by omega) ⟨_, _, rfl, hK⟩
end
section
variable {w w' : World} {a : Addr} {foot S : List Nat} {most : Int} {l : List (Int × Scn)} {Q : QT}
theorem first_SC (h : T_SC w a foot most l) (hK : Q (ktup_SC (keys l)[0]?) w) : CallR Tryz.prog 91 #[.pointer (some a)] w Q := by
  refine X91.sound _ _ _ ?_
  exact from_SC (i := 0) h (by omega) ⟨_, _, rfl, hK⟩
theorem after_SC {k : Int} (h : T_SC w a foot most l) (hK : Q (ktup_SC (after ilt l k)) w) : CallR Tryz.prog 69 #[.pointer (some a), (Value.int .u64) k] w Q := by
  refine X69.sound _ _ _ _ ?_
  unfold X69.f
  refine next_SC h ⟨_, _, rfl, ?_⟩
  unfold after at hK
  cases hn : next ilt l k with
  | none =>
    rw [hn] at hK
    exact bc_bool (fun _ => first_SC h ⟨_, _, rfl, hK⟩) (fun h => by cases h)
  | some x =>
    rw [hn] at hK
    exact bc_bool (fun h => by cases h) (fun _ => hK)
end
theorem keys_SC {w : World} {a : Addr} {foot : List Nat} {most : Int} {l : List (Int × Scn)} {Q : QT} (h : T_SC w a foot most l)
    (hK : ∀ p c w', Own 22 1 w' p l.length c ((keys l).map (Value.int .u64)) → Fr [] w w' → (∀ x ∈ fbl p, w.heap.size ≤ x) → Q (.slice p l.length c) w') : CallR Tryz.prog 47 #[.pointer (some a)] w Q := by
  obtain ⟨g, pk, pv, ck, cv, t⟩ := h
  obtain ⟨rfl, hb, hk, hvs, hft, hgk, hgv, hkv, hs, hle, htop⟩ := t
  refine X47.sound _ _ _ ?_
  unfold X47.f newK
  simp only [optP_some, add_at, Nat.zero_add, Nat.add_zero]
  have f1 : Fr [] w (w.alloc (.cells #[] 22)) := Fr.alloc _ _
  have ho := Own.made (w := w) (e := 22) (sz := 1) #[] 0 (Nat.zero_le _) rfl
  have hb1 := hb.keep' f1
  have hk1 := hk.keep' f1
  have s1 := f1.size
  generalize w.alloc (.cells #[] 22) = w1 at *
  refine ld_sl (hb1.cell rfl) ?_
  refine app_own rowT39 ho hk1.cells (by simp) (fun h => by subst h; exact hk1.none_c.2.1) (km_one_SC _) (by simp only [maxLen]; omega) (by omega) ?_
  intro p' c' w' h1 h2 h3
  rw [Nat.zero_add] at h1 ⊢
  refine ⟨_, _, _, rfl, hK p' c' w' (by simpa using h1) ?_ ?_⟩
  · exact f1.trans h2 (fun x hx => by simp [fbl] at hx; exact .inr (by omega))
  · intro x hx
    rcases h3 x hx with h | h
    · simp [fbl] at h; omega
    · omega
section
variable {w w' : World} {a : Addr} {foot S : List Nat} {most : Int} {l : List (Int × Scn)} {Q : QT}
theorem drop_SC {k : Int} (h : T_SC w a foot most l) (hK : ∀ w', T_SC w' a foot most (drp ilt l k) → Fr foot w w' → Q (.bool (has ilt l k)) w') :
    CallR Tryz.prog 75 #[.pointer (some a), (Value.int .u64) k] w Q := by
  have h0 := h
  obtain ⟨g, pk, pv, ck, cv, t⟩ := h
  obtain ⟨rfl, hb, hk, hvs, hft, hgk, hgv, hkv, hs, hle, htop⟩ := t
  refine X75.sound _ _ _ _ ?_
  unfold X75.f
  simp only [optP_some, add_at, Nat.zero_add, Nat.add_zero]
  refine ld_sl (hb.cell rfl) (bs_79 hk.cells (by simp) hs (by omega) ⟨_, _, rfl, ?_⟩)
  have hat : rank ilt (keys l) k = at_ ilt l k := rfl
  have hhas : decide ((keys l)[at_ ilt l k]? = some k) = has ilt l k := rfl
  have hgl := hb.lt
  rw [hat, hhas]
  refine bc_bool (fun hh => ?_) (fun hh => ?_)
  · have hlt := at_lt hh
    rw [hh] at hK ⊢
    refine ld_sl (hb.cell rfl) (del_95 hk hlt (km_one_SC _) (by omega) ?_)
    intro w2 hk2 f2
    refine ⟨_, _, _, rfl, ?_⟩
    have hb2 := hb.keep f2 hgk
    have hv2 := hvs.keep f2 (fun x hx hm => hkv x hm hx)
    refine ⟨hb2.storeOk (by simp), ?_⟩
    have hb3 := hb2.set 0 (.slice pk (l.length - 1) ck)
    have f3 : Fr [g] w2 (w2.setCell (at0 g 0) (.slice pk (l.length - 1) ck)) := Fr.setCell (by simp [at0]) _
    have hk3 := hk2.keep f3 (fun x hx hm => hgk (by simp at hm; rwa [← hm]))
    have hv3 := hv2.keep f3 (fun x hx hm => hgv (by simp at hm; rwa [← hm]))
    generalize w2.setCell (at0 g 0) (.slice pk (l.length - 1) ck) = w3 at *
    refine ld_sl (hb3.cell rfl) (del_96 hv3 hlt (fm_one_SC _) (by omega) ?_)
    intro w5 hv5 f5
    refine ⟨_, _, _, rfl, ?_⟩
    have hb5 := hb3.keep f5 hgv
    have hk5 := hk3.keep f5 hkv
    refine ⟨hb5.storeOk (by simp), ?_⟩
    have hb6 := hb5.set 1 (.slice pv (l.length - 1) cv)
    have f6 : Fr [g] w5 (w5.setCell (at0 g 1) (.slice pv (l.length - 1) cv)) := Fr.setCell (by simp [at0]) _
    have hk6 := hk5.keep f6 (fun x hx hm => hgk (by simp at hm; rwa [← hm]))
    have hv6 := hv5.keep f6 (fun x hx hm => hgv (by simp at hm; rwa [← hm]))
    have hd : drp ilt l k = l.take (at_ ilt l k) ++ l.drop (at_ ilt l k + 1) := by unfold drp; rw [if_pos hh]
    have hln : (drp ilt l k).length = l.length - 1 := by rw [drp_length, if_pos hh]
    refine hK _ ⟨g, pk, pv, ck, cv, rfl, ?_, ?_, ?_, hft, hgk, hgv, hkv, drp_srt ilt_lin hs, by rw [hln]; omega, htop⟩ ?_
    · rw [hln]; exact hb6
    · rw [hln, hd]
      have : (keys (l.take (at_ ilt l k) ++ l.drop (at_ ilt l k + 1))).map (Value.int .u64) = ((keys l).map (Value.int .u64)).take (at_ ilt l k * 1) ++ ((keys l).map (Value.int .u64)).drop ((at_ ilt l k + 1) * 1) := by
        simp [keys, List.map_take, List.map_drop]
      rw [this]; exact hk6
    · rw [hln, hd, flat_del vc_len_SC]; exact hv6
    · rw [hft]
      exact (((f2.mono (fun x hx => by simp [hx])).trans f3 (fun x hx => .inl (by simp at hx; simp [hx]))).trans f5 (fun x hx => .inl (by simp [hx]))).trans f6 (fun x hx => .inl (by simp at hx; simp [hx]))
  · have hd : drp ilt l k = l := by unfold drp; rw [if_neg (by simp [hh])]
    rw [hd] at hK
    rw [hh] at hK ⊢
    exact hK w h0 (Fr.refl w)
end
end Go.Proofs.YtnjmkhhaodgpbaaGreatX
namespace Go.Proofs.YtnjmkhhaodgpbaaGreatX
structure Msg where
  kind : Int
  frm : Int
  to : Int
  call : Int
  floor : Int
  op : Int
  field : Int
  item : Int
  tn : Int
  ts : Int
  refs : List (Int × Int)
  value : Int
  code : Int
  seq : Int
  voucher : Int
  at_ : Int
  dist : Int
  stamp : Int
  list : List Int
def fieldsN (k : Int) : Nat :=
  if k = 1 then 1 + 2 + 8 + 16 + 32 + 2048 + 4096 else if k = 2 then 1 + 1024 + 2048 + 4096 else if k = 3 then 1 else if k = 4 then 32 + 64 + 128 + 256 + 512
  else if k = 5 then 32 + 64 + 256 + 1024 else if k = 6 then 32 + 64 else if k = 7 then 32 + 64 else if k = 8 then 1 + 4 + 8 + 32 else if k = 9 then 1 + 4 + 1024 + 8192 + 16384
  else if k = 10 then 1 + 4 + 32 + 8192 else if k = 11 then 1 + 4 else 0
def hasF (k : Int) (i : Nat) : Bool := (fieldsN k).testBit i
def okSerial (n : Int) : Prop := 1 ≤ n ∧ n ≤ 72057594037927935
def okID (x : Int × Int) : Prop := (x.1 = 0 ∧ x.2 = 0) ∨ ((1 ≤ x.1 ∧ x.1 ≤ 64) ∧ okSerial x.2)
def noID (x : Int × Int) : Prop := x.1 = 0 ∧ x.2 = 0
def rise (l : List Int) : Prop := ∀ (i : Nat) (n : Int), l[i]? = some n → okSerial n ∧ ∀ (j : Nat) (p : Int), i = j + 1 → l[j]? = some p → p < n
def opsN (k : Int) : Int := if k = 8 then 3 else 6
def codesN (k : Int) : Int := if k = 9 then 2 else 10
def aimsNone (m : Msg) : Prop := (m.kind = 1 ∧ (m.op = 1 ∨ m.op = 6)) ∨ (m.kind = 8 ∧ m.op = 3)
def fits (m : Msg) : Nat → Prop
  | 0 => okSerial m.call
  | 1 => 1 ≤ m.floor ∧ m.floor ≤ m.call
  | 2 => 0 ≤ m.item ∧ m.item ≤ 4095
  | 3 => 1 ≤ m.op ∧ m.op ≤ opsN m.kind
  | 4 => 0 ≤ m.field ∧ m.field ≤ 63
  | 5 => okID (m.tn, m.ts) ∧ (noID (m.tn, m.ts) ↔ aimsNone m)
  | 6 => okSerial m.seq
  | 7 => 1 ≤ m.voucher ∧ m.voucher ≤ 64
  | 9 => 1 ≤ m.dist ∧ m.dist ≤ 40
  | 10 => 0 ≤ m.code ∧ m.code ≤ codesN m.kind
  | 12 => (∀ x ∈ m.refs, okID x) ∧ m.refs.length ≤ 2
  | 14 => rise m.list ∧ m.list.length ≤ 64
  | _ => True
def bare (m : Msg) : Nat → Prop
  | 0 => m.call = 0
  | 1 => m.floor = 0
  | 2 => m.item = 0
  | 3 => m.op = 0
  | 4 => m.field = 0
  | 5 => noID (m.tn, m.ts)
  | 6 => m.seq = 0
  | 7 => m.voucher = 0
  | 8 => m.at_ = 0
  | 9 => m.dist = 0
  | 10 => m.code = 0
  | 11 => m.value = 0
  | 12 => m.refs.length = 0
  | 13 => m.stamp = 0
  | _ => m.list.length = 0
def okF (m : Msg) (i : Nat) : Prop := if hasF m.kind i then fits m i else bare m i
def Right (m : Msg) : Prop := fieldsN m.kind ≠ 0 ∧ (1 ≤ m.frm ∧ m.frm ≤ 64) ∧ (1 ≤ m.to ∧ m.to ≤ 64) ∧ m.frm ≠ m.to ∧ ∀ i, i < 15 → okF m i
def numberR (h : Bool) (n lo hi : Int) : Prop := if h then lo ≤ n ∧ n ≤ hi else n = 0
def serialR (h : Bool) (n : Int) : Prop := if h then okSerial n else n = 0
def numbersR (m : Msg) : Prop :=
  (serialR (hasF m.kind 0) m.call ∧ numberR (hasF m.kind 3) m.op 1 (opsN m.kind) ∧ numberR (hasF m.kind 4) m.field 0 63 ∧ numberR (hasF m.kind 2) m.item 0 4095 ∧ numberR (hasF m.kind 10) m.code 0 (codesN m.kind)) ∧
  (serialR (hasF m.kind 6) m.seq ∧ numberR (hasF m.kind 7) m.voucher 1 64 ∧ numberR (hasF m.kind 9) m.dist 1 40) ∧
  (if hasF m.kind 1 then 1 ≤ m.floor ∧ m.floor ≤ m.call else m.floor = 0) ∧
  ((hasF m.kind 11 = true ∨ m.value = 0) ∧ (hasF m.kind 8 = true ∨ m.at_ = 0) ∧ (hasF m.kind 13 = true ∨ m.stamp = 0))
def targetR (m : Msg) : Prop := if hasF m.kind 5 then okID (m.tn, m.ts) ∧ (noID (m.tn, m.ts) ↔ aimsNone m) else noID (m.tn, m.ts)
def RightR (m : Msg) : Prop := (1 ≤ m.kind ∧ m.kind ≤ 11) ∧ (1 ≤ m.frm ∧ m.frm ≤ 64) ∧ (1 ≤ m.to ∧ m.to ≤ 64) ∧ m.frm ≠ m.to ∧ numbersR m ∧ targetR m ∧
  (0 < m.refs.length → hasF m.kind 12 = true) ∧ m.refs.length ≤ 2 ∧ (0 < m.list.length → hasF m.kind 14 = true) ∧ m.list.length ≤ 64 ∧ (∀ x ∈ m.refs, okID x) ∧ rise m.list
theorem all15 {p : Nat → Prop} : (∀ i, i < 15 → p i) ↔ p 0 ∧ p 1 ∧ p 2 ∧ p 3 ∧ p 4 ∧ p 5 ∧ p 6 ∧ p 7 ∧ p 8 ∧ p 9 ∧ p 10 ∧ p 11 ∧ p 12 ∧ p 13 ∧ p 14 := by
  constructor
  · intro h
    exact ⟨h 0 (by omega), h 1 (by omega), h 2 (by omega), h 3 (by omega), h 4 (by omega), h 5 (by omega), h 6 (by omega), h 7 (by omega), h 8 (by omega), h 9 (by omega), h 10 (by omega), h 11 (by omega), h 12 (by omega), h 13 (by omega), h 14 (by omega)⟩
  · rintro ⟨h0, h1, h2, h3, h4, h5, h6, h7, h8, h9, h10, h11, h12, h13, h14⟩ i hi
    match i, hi with
    | 0, _ => exact h0
    | 1, _ => exact h1
    | 2, _ => exact h2
    | 3, _ => exact h3
    | 4, _ => exact h4
    | 5, _ => exact h5
    | 6, _ => exact h6
    | 7, _ => exact h7
    | 8, _ => exact h8
    | 9, _ => exact h9
    | 10, _ => exact h10
    | 11, _ => exact h11
    | 12, _ => exact h12
    | 13, _ => exact h13
    | 14, _ => exact h14
theorem fieldsN_zero {k : Int} : fieldsN k ≠ 0 ↔ 1 ≤ k ∧ k ≤ 11 := by
  unfold fieldsN
  constructor
  · intro h
    by_cases h1 : k = 1 ∨ k = 2 ∨ k = 3 ∨ k = 4 ∨ k = 5 ∨ k = 6 ∨ k = 7 ∨ k = 8 ∨ k = 9 ∨ k = 10 ∨ k = 11
    · omega
    · simp only [not_or] at h1
      obtain ⟨h1, h2, h3, h4, h5, h6, h7, h8, h9, h10, h11⟩ := h1
      simp [h1, h2, h3, h4, h5, h6, h7, h8, h9, h10, h11] at h
  · intro h
    have : k = 1 ∨ k = 2 ∨ k = 3 ∨ k = 4 ∨ k = 5 ∨ k = 6 ∨ k = 7 ∨ k = 8 ∨ k = 9 ∨ k = 10 ∨ k = 11 := by omega
    rcases this with rfl | rfl | rfl | rfl | rfl | rfl | rfl | rfl | rfl | rfl | rfl <;> simp
theorem rise_nil : rise [] := fun i n h => by simp at h
theorem right_iff (m : Msg) : Right m ↔ RightR m := by
  unfold Right RightR numbersR targetR
  rw [all15, fieldsN_zero]
  simp only [okF, fits, bare, numberR, serialR]
  have hr : m.refs.length = 0 → ∀ x ∈ m.refs, okID x := fun h x hx => by rw [List.eq_nil_of_length_eq_zero h] at hx; cases hx
  have hl : m.list.length = 0 → rise m.list := fun h => by rw [List.eq_nil_of_length_eq_zero h]; exact rise_nil
  generalize hasF m.kind 0 = b0
  generalize hasF m.kind 1 = b1
  generalize hasF m.kind 2 = b2
  generalize hasF m.kind 3 = b3
  generalize hasF m.kind 4 = b4
  generalize hasF m.kind 5 = b5
  generalize hasF m.kind 6 = b6
  generalize hasF m.kind 7 = b7
  generalize hasF m.kind 8 = b8
  generalize hasF m.kind 9 = b9
  generalize hasF m.kind 10 = b10
  generalize hasF m.kind 11 = b11
  generalize hasF m.kind 12 = b12
  generalize hasF m.kind 13 = b13
  generalize hasF m.kind 14 = b14
  constructor
  · rintro ⟨a1, a2, a3, a4, h0, h1, h2, h3, h4, h5, h6, h7, h8, h9, h10, h11, h12, h13, h14⟩
    refine ⟨a1, a2, a3, a4, ⟨⟨h0, h3, h4, h2, h10⟩, ⟨h6, h7, h9⟩, h1, ?_, ?_, ?_⟩, h5, ?_, ?_, ?_, ?_, ?_, ?_⟩
    · cases b11 <;> simp_all
    · cases b8 <;> simp_all
    · cases b13 <;> simp_all
    · cases b12 <;> simp_all
    · cases b12 <;> simp_all
    · cases b14 <;> simp_all
    · cases b14 <;> simp_all
    · cases b12 <;> simp_all
    · cases b14
      · exact hl (by simpa using h14)
      · simp at h14; exact h14.1
  · rintro ⟨a1, a2, a3, a4, ⟨⟨h0, h3, h4, h2, h10⟩, ⟨h6, h7, h9⟩, h1, h11, h8, h13⟩, h5, c1, c2, c3, c4, c5, c6⟩
    refine ⟨a1, a2, a3, a4, h0, h1, h2, h3, h4, h5, h6, h7, ?_, h9, h10, ?_, ?_, ?_, ?_⟩
    · cases b8 <;> simp_all
    · cases b11 <;> simp_all
    · cases b12
      · simp at c1 ⊢; exact c1
      · simp; exact ⟨fun a b h => c5 (a, b) h, c2⟩
    · cases b13 <;> simp_all
    · cases b14
      · simp at c3 ⊢; exact c3
      · simp; exact ⟨c6, c4⟩
end Go.Proofs.YtnjmkhhaodgpbaaGreatX
namespace Go.Proofs.YtnjmkhhaodgpbaaGreatX
open Go.RowKit
set_option maxRecDepth 100000
abbrev Msg.cells (m : Msg) (rp : Option Addr) (rc : Nat) (lp : Option Addr) (lc : Nat) : List Value :=
  [.int .i64 m.kind, .int .i64 m.frm, .int .i64 m.to, .int .u64 m.call, .int .u64 m.floor, .int .i64 m.op, .int .i64 m.field, .int .i64 m.item, .int .i64 m.tn, .int .u64 m.ts, .slice rp m.refs.length rc,
   .int .u64 m.value, .int .i64 m.code, .int .u64 m.seq, .int .i64 m.voucher, .int .u64 m.at_, .int .i64 m.dist, .int .u64 m.stamp, .slice lp m.list.length lc]
abbrev idc (x : Int × Int) : List Value := [.int .i64 x.1, .int .u64 x.2]
theorem idc_len (x : Int × Int) : (idc x).length = 2 := rfl
structure MM (w : World) (m : Msg) (rp : Option Addr) (rc : Nat) (lp : Option Addr) (lc : Nat) : Prop where
  refs : Cells w rp (m.refs.flatMap idc)
  rle : m.refs.length ≤ rc
  rnil : rp = none → rc = 0
  rby : m.refs.length * 16 ≤ 140737488355328
  list : Cells w lp (m.list.map (Value.int .u64))
  lle : m.list.length ≤ lc
  lnil : lp = none → lc = 0
  lby : m.list.length * 8 ≤ 140737488355328
theorem MM.keep {w w' : World} {m : Msg} {rp lp : Option Addr} {rc lc : Nat} {S : List Nat} (h : MM w m rp rc lp lc) (f : Fr S w w') (hr : ∀ k ∈ fbl rp, k ∉ S) (hl : ∀ k ∈ fbl lp, k ∉ S) : MM w' m rp rc lp lc :=
  ⟨h.refs.keep f hr, h.rle, h.rnil, h.rby, h.list.keep f hl, h.lle, h.lnil, h.lby⟩
theorem MM.rsz {w : World} {m : Msg} {rp lp : Option Addr} {rc lc : Nat} (h : MM w m rp rc lp lc) : m.refs.length ≤ 140737488355328 := by have := h.rby; omega
theorem MM.lsz {w : World} {m : Msg} {rp lp : Option Addr} {rc lc : Nat} (h : MM w m rp rc lp lc) : m.list.length ≤ 140737488355328 := by have := h.lby; omega
theorem MM.keep' {w w' : World} {m : Msg} {rp lp : Option Addr} {rc lc : Nat} (h : MM w m rp rc lp lc) (f : Fr [] w w') : MM w' m rp rc lp lc := h.keep f (by simp) (by simp)
def Ans (Q : QT) (P : Prop) (w : World) : Prop := ∀ (b : Bool) w', (b = true ↔ P) → Fr [] w w' → Q (.bool b) w'
theorem isS24 : isStruct Tryz.prog 37 := ⟨_, Tryz.underlying37⟩
section
variable {w : World} {Q : QT}
theorem in_spec {n lo hi : Int} (hQ : ∀ b : Bool, (b = true ↔ lo ≤ n ∧ n ≤ hi) → Q (.bool b) w) : CallR Tryz.prog 103 #[.int .i64 n, .int .i64 lo, .int .i64 hi] w Q := by
  refine X103.sound _ _ _ _ _ ?_
  exact bc_dec (fun h => hQ _ (by simp; omega)) (fun h => hQ _ (by simp; omega))
theorem serial_spec {n : Int} (hQ : ∀ b : Bool, (b = true ↔ okSerial n) → Q (.bool b) w) : CallR Tryz.prog 114 #[.int .u64 n] w Q := by
  refine X114.sound _ _ _ ?_
  exact bc_dec (fun h => hQ _ (by simp [okSerial]; omega)) (fun h => hQ _ (by simp [okSerial]; omega))
theorem ops_spec {k : Int} (hQ : Q (.int .i64 (opsN k)) w) : CallR Tryz.prog 115 #[.int .i64 k] w Q := by
  refine X115.sound _ _ _ ?_
  unfold opsN at hQ
  exact bc_eq (fun h => by rw [if_pos h] at hQ; exact hQ) (fun h => by rw [if_neg h] at hQ; exact hQ)
theorem codes_spec {k : Int} (hQ : Q (.int .i64 (codesN k)) w) : CallR Tryz.prog 118 #[.int .i64 k] w Q := by
  refine X118.sound _ _ _ ?_
  unfold codesN at hQ
  exact bc_eq (fun h => by rw [if_pos h] at hQ; exact hQ) (fun h => by rw [if_neg h] at hQ; exact hQ)
theorem fields_spec {k : Int} (hQ : Q (.int .i64 ((fieldsN k : Nat) : Int)) w) : CallR Tryz.prog 102 #[.int .i64 k] w Q := by
  refine X102.sound _ _ _ ?_
  unfold X102.f
  have e1 : iOr .i64 (iOr .i64 0 7168) 1 = 7169 := by decide +kernel
  have e2 : iOr .i64 0 1 = 1 := by decide +kernel
  have e3 : iOr .i64 (iOr .i64 0 896) 96 = 992 := by decide +kernel
  have e4 : iOr .i64 0 96 = 96 := by decide +kernel
  have e5 : iOr .i64 0 1376 = 1376 := by decide +kernel
  have e6 : iOr .i64 (iOr .i64 0 25600) 5 = 25605 := by decide +kernel
  have e7 : iOr .i64 0 5 = 5 := by decide +kernel
  have e8 : iOr .i64 0 8229 = 8229 := by decide +kernel
  simp only [e1, e2, e3, e4, e5, e6, e7, e8]
  unfold fieldsN at hQ
  refine bc_eq (fun h => by subst h; exact hQ) (fun h1 => bc_eq (fun h => by subst h; exact hQ) (fun h2 => bc_eq (fun h => by subst h; exact hQ) (fun h3 => bc_eq (fun h => by subst h; exact hQ) (fun h4 => bc_eq (fun h6 => ?_) (fun h6 => ?_)))))
  · exact bc_eq (fun _ => by subst h6; exact hQ) (fun h => absurd h6 h)
  · refine bc_eq (fun h => by subst h; exact hQ) (fun h7 => bc_eq (fun h => by subst h; exact hQ) (fun h5 => bc_eq (fun h => by subst h; exact hQ) (fun h8 => bc_eq (fun h => by subst h; exact hQ) (fun h9 => bc_eq (fun h => by subst h; exact hQ) (fun h11 => bc_eq (fun h => by subst h; exact hQ) (fun h10 => ?_))))))
    rw [if_neg h1, if_neg h2, if_neg h3, if_neg h4, if_neg h5, if_neg h6, if_neg h7, if_neg h8, if_neg h9, if_neg h10, if_neg h11] at hQ
    exact hQ
theorem and_noID {x y : Int} : (((x == (0 : Int)) && ((y == (0 : Int)) && true)) = true) ↔ noID (x, y) := by
  unfold noID; simp
theorem made {cs : Array Value} {e : TypeId} : Blk (w.alloc (.cells cs e)) w.heap.size cs.toList e ∧ Fr [] w (w.alloc (.cells cs e)) := ⟨Blk.made w cs e, Fr.alloc _ _⟩
theorem right_spec {x y : Int} (hQ : Ans Q (okID (x, y)) w) : CallR Tryz.prog 116 #[.agg #[.int .i64 x, .int .u64 y]] w Q := by
  refine X116.sound _ _ _ _ ?_
  unfold X116.f newK
  obtain ⟨hb, f⟩ := made (w := w) (cs := #[.int .i64 x, .int .u64 y]) (e := 37)
  rw [show (⟨w.heap.size, 0, none⟩ : Addr) = at0 w.heap.size 0 from rfl]
  simp only [add_at, Nat.zero_add]
  generalize w.alloc _ = w2 at *
  refine ld_int (hb.cell rfl) (ld_int (hb.cell rfl) ⟨isS24, bc_bool (fun h => ?_) (fun h => ?_)⟩)
  · exact hQ _ _ (by have := and_noID.1 h; unfold noID at this; unfold okID; simp_all) f
  · have hn : ¬ noID (x, y) := fun hh => by rw [and_noID.2 hh] at h; cases h
    unfold noID at hn
    refine ld_int (hb.cell rfl) (in_spec fun b hb1 => ⟨_, rfl, bc_bool (fun e => ?_) (fun e => ?_)⟩)
    · refine ld_int (hb.cell rfl) (serial_spec fun c hc => ⟨_, rfl, hQ _ _ ?_ f⟩)
      rw [hc]
      have := hb1.1 e
      unfold okID
      simp only at hn ⊢
      constructor
      · intro h; exact .inr ⟨this, h⟩
      · rintro (h | h)
        · exact absurd h hn
        · exact h.2
    · refine hQ _ _ ?_ f
      have : ¬ (1 ≤ x ∧ x ≤ 64) := fun h => by rw [hb1.2 h] at e; cases e
      unfold okID
      simp only at hn ⊢
      constructor
      · intro h; cases h
      · rintro (h | h)
        · exact absurd h hn
        · exact absurd h.1 this
theorem allRight_l0 {p : Option Addr} {n c : Nat} {l : List (Int × Int)} (hc : Cells w p (l.flatMap idc)) (hl : l.length = n) (hn : n ≤ 140737488355328) (hQ : Ans Q ((∀ x ∈ l, okID x) ∧ l.length ≤ 2) w) :
    ∀ (f i : Nat) (w' : World), n - i < f → Fr [] w w' → i ≤ n → (∀ x ∈ l.take i, okID x) → X119.l0 Q f p n c p n c (n : Int) (i : Int) w'
  | 0, i, w', hf, _, _, _ => by omega
  | f + 1, i, w', hf, hw, hi, hp => by
    rw [X119.l0]
    refine bc_dec (fun h1 => ?_) (fun h1 => ?_)
    · have hlt : i < l.length := by omega
      have hg := List.getElem?_eq_getElem hlt
      have htk : l.take (i + 1) = l.take i ++ [l[i]] := (List.take_append_getElem hlt).symm
      have hmem : l[i] ∈ l := List.getElem_mem hlt
      generalize l[i] = x at hg htk hmem
      obtain ⟨q, hq, c0⟩ := (hc.keep' hw) _ _ (flat_get idc_len l hg (j := 0) rfl)
      obtain ⟨q', hq', c1⟩ := (hc.keep' hw) _ _ (flat_get idc_len l hg (j := 1) rfl)
      rw [hq] at hq'; injection hq' with hq'; subst hq'
      refine ⟨⟨by omega, by omega⟩, opt_some hq ?_⟩
      rw [Int.toNat_natCast]
      simp only [add_add]
      refine ld_int c0 (ld_int c1 ?_)
      unfold newK
      obtain ⟨hb, fa⟩ := made (w := w') (cs := #[.int .i64 0, .int .u64 0]) (e := 37)
      have hgl : w'.heap.size < (w'.alloc (.cells #[.int .i64 0, .int .u64 0] 37)).heap.size := hb.lt
      rw [show (⟨w'.heap.size, 0, none⟩ : Addr) = at0 w'.heap.size 0 from rfl]
      have s0 := hw.size
      have fa' : Fr [] w (w'.alloc (.cells #[.int .i64 0, .int .u64 0] 37)) := hw.tr fa
      generalize w'.alloc _ = w2 at *
      refine stAll_blk hb (by simp) ?_
      intro w3 b3 f3
      have f3' : Fr [] w w3 := fa'.trans f3 (fun x hx => by simp at hx; exact .inr (by omega))
      simp only [add_at, Nat.zero_add]
      refine ld_int (b3.cell rfl) (ld_int (b3.cell rfl) (right_spec fun b w4 hb4 f4 => ⟨_, rfl, ?_⟩))
      refine bc_bool (fun h => ?_) (fun h => ?_)
      · have hbf : b = false := by cases b; rfl; cases h
        subst hbf
        refine hQ _ _ ⟨fun h => (by cases h), fun h => ?_⟩ (f3'.tr f4)
        exact hb4.2 (h.1 x hmem)
      · have hbt : b = true := by cases b; cases h; rfl
        rw [show IntKind.wrap .i64 ((i : Int) + 1) = ((i + 1 : Nat) : Int) by rw [i64w _ (by omega) (by omega)]; omega]
        refine allRight_l0 hc hl hn hQ f (i + 1) w4 (by omega) (f3'.tr f4) (by omega) (fun y hy => ?_)
        rw [htk] at hy
        rcases List.mem_append.1 hy with hy | hy
        · exact hp y hy
        · rw [List.mem_singleton.1 hy]; exact hb4.1 hbt
    · refine hQ _ _ ?_ hw
      have : l.take i = l := List.take_of_length_le (by omega)
      rw [this] at hp
      simp only [decide_eq_true_eq]
      constructor
      · intro h; exact ⟨hp, by omega⟩
      · intro h; omega
theorem allRight_spec {p : Option Addr} {n c : Nat} {l : List (Int × Int)} (hc : Cells w p (l.flatMap idc)) (hl : l.length = n) (hn : n ≤ 140737488355328) (hQ : Ans Q ((∀ x ∈ l, okID x) ∧ l.length ≤ 2) w) : CallR Tryz.prog 119 #[.slice p n c] w Q := by
  refine X119.sound _ _ _ _ _ ⟨n + 1, ?_⟩
  exact allRight_l0 hc hl hn hQ (n + 1) 0 w (by omega) (Fr.refl w) (by omega) (by simp)
theorem cell_u64 {p : Option Addr} {l : List Int} (hc : Cells w p (l.map (Value.int .u64))) {i : Nat} {x : Int} (hi : l[i]? = some x) : ∃ a, p = some a ∧ w.cell? (a.add (i * 1)) = some (.int .u64 x) := by
  rw [Nat.mul_one]
  exact hc i _ (by simp [hi])
def riseTo (l : List Int) (i : Nat) : Prop := ∀ (j : Nat) (n : Int), j < i → l[j]? = some n → okSerial n ∧ ∀ (k : Nat) (p : Int), j = k + 1 → l[k]? = some p → p < n
theorem riseTo_all {l : List Int} : riseTo l l.length ↔ rise l := by
  constructor
  · intro h i n hi
    exact h i n (List.getElem?_eq_some_iff.1 hi).1 hi
  · intro h i n _ hi
    exact h i n hi
theorem rising_l0 {p : Option Addr} {n c : Nat} {l : List Int} (hc : Cells w p (l.map (Value.int .u64))) (hl : l.length = n) (hn : n ≤ 140737488355328) (hQ : ∀ b : Bool, (b = true ↔ rise l ∧ l.length ≤ 64) → Q (.bool b) w) :
    ∀ (f i : Nat), n - i < f → i ≤ n → riseTo l i → X120.l0 Q f p n c p n c (n : Int) (i : Int) w
  | 0, i, hf, _, _ => by omega
  | f + 1, i, hf, hi, hp => by
    rw [X120.l0]
    refine bc_dec (fun h1 => ?_) (fun h1 => ?_)
    · have hlt : i < l.length := by omega
      have hg := List.getElem?_eq_getElem hlt
      generalize l[i] = x at hg
      obtain ⟨q, hq, c0⟩ := cell_u64 hc hg
      refine ⟨⟨by omega, by omega⟩, opt_some hq (ld_int (by rw [Int.toNat_natCast]; exact c0) (serial_spec fun b hb => ⟨_, rfl, bc_bool (fun h => ?_) (fun h => ?_)⟩))⟩
      · have hbf : b = false := by cases b; rfl; cases h
        subst hbf
        exact hQ _ ⟨fun h => (by cases h), fun h => hb.2 (h.1 i x hg).1⟩
      · have hbt : b = true := by cases b; cases h; rfl
        have hok := hb.1 hbt
        have e2 : IntKind.wrap .i64 ((i : Int) + 1) = ((i + 1 : Nat) : Int) := by rw [i64w _ (by omega) (by omega)]; omega
        rw [e2]
        refine bc_dec (fun h0 => ?_) (fun h0 => ?_)
        · have e1 : IntKind.wrap .i64 ((i : Int) - 1) = ((i - 1 : Nat) : Int) := by rw [i64w _ (by omega) (by omega)]; omega
          rw [e1]
          have hlt1 : i - 1 < l.length := by omega
          have hg1 := List.getElem?_eq_getElem hlt1
          generalize l[i - 1] = y at hg1
          obtain ⟨q1, hq1, c1⟩ := cell_u64 hc hg1
          refine ⟨⟨by omega, by omega⟩, opt_some hq1 (ld_int (by rw [Int.toNat_natCast]; exact c1) (bc_dec (fun hle => ?_) (fun hle => ?_)))⟩
          · exact hQ _ ⟨fun h => (by cases h), fun h => by have := (h.1 i x hg).2 (i - 1) y (by omega) hg1; omega⟩
          · refine rising_l0 hc hl hn hQ f (i + 1) (by omega) (by omega) (fun j z hj hz => ?_)
            by_cases e : j = i
            · subst e
              rw [hg] at hz; injection hz with hz; subst hz
              refine ⟨hok, fun k u hk hu => ?_⟩
              have : k = j - 1 := by omega
              subst this
              rw [hg1] at hu; injection hu with hu; omega
            · exact hp j z (by omega) hz
        · refine rising_l0 hc hl hn hQ f (i + 1) (by omega) (by omega) (fun j z hj hz => ?_)
          have : j = 0 := by omega
          subst this
          have : i = 0 := by omega
          subst this
          rw [hg] at hz; injection hz with hz; subst hz
          exact ⟨hok, fun k u hk => by omega⟩
    · have : i = l.length := by omega
      subst this
      refine hQ _ ?_
      rw [riseTo_all] at hp
      simp only [decide_eq_true_eq]
      constructor
      · intro h; exact ⟨hp, by omega⟩
      · intro h; omega
theorem rising_spec {p : Option Addr} {n c : Nat} {l : List Int} (hc : Cells w p (l.map (Value.int .u64))) (hl : l.length = n) (hn : n ≤ 140737488355328) (hQ : ∀ b : Bool, (b = true ↔ rise l ∧ l.length ≤ 64) → Q (.bool b) w) : CallR Tryz.prog 120 #[.slice p n c] w Q := by
  refine X120.sound _ _ _ _ _ ⟨n + 1, ?_⟩
  exact rising_l0 hc hl hn hQ (n + 1) 0 (by omega) (by omega) (fun j _ hj => by omega)
end
end Go.Proofs.YtnjmkhhaodgpbaaGreatX
namespace Go.Proofs.YtnjmkhhaodgpbaaGreatX
open Go.RowKit
set_option maxRecDepth 100000
section
variable {w : World} {Q : QT} {m : Msg} {rp lp : Option Addr} {rc lc g : Nat}
abbrev msgV (m : Msg) (rp : Option Addr) (rc : Nat) (lp : Option Addr) (lc : Nat) : Value := .agg (m.cells rp rc lp lc).toArray
theorem ld_msg {K : Int → Int → Int → Int → Int → Int → Int → Int → Int → Int → Option Addr → Nat → Nat → Int → Int → Int → Int → Int → Int → Int → Option Addr → Nat → Nat → Prop} (hb : Blk w g (m.cells rp rc lp lc) 41)
    (h : K m.kind m.frm m.to m.call m.floor m.op m.field m.item m.tn m.ts rp m.refs.length rc m.value m.code m.seq m.voucher m.at_ m.dist m.stamp lp m.list.length lc) :
    ldI .i64 w (at0 g 0) fun x1 => ldI .i64 w (at0 g 1) fun x2 => ldI .i64 w (at0 g 2) fun x3 => ldI .u64 w (at0 g 3) fun x4 => ldI .u64 w (at0 g 4) fun x5 => ldI .i64 w (at0 g 5) fun x6 => ldI .i64 w (at0 g 6) fun x7 => ldI .i64 w (at0 g 7) fun x8 => ldI .i64 w (at0 g 8) fun x9 => ldI .u64 w (at0 g 9) fun x10 => ldSl w (at0 g 10) fun x11p x11n x11c => ldI .u64 w (at0 g 11) fun x12 => ldI .i64 w (at0 g 12) fun x13 => ldI .u64 w (at0 g 13) fun x14 => ldI .i64 w (at0 g 14) fun x15 => ldI .u64 w (at0 g 15) fun x16 => ldI .i64 w (at0 g 16) fun x17 => ldI .u64 w (at0 g 17) fun x18 => ldSl w (at0 g 18) fun x19p x19n x19c => K x1 x2 x3 x4 x5 x6 x7 x8 x9 x10 x11p x11n x11c x12 x13 x14 x15 x16 x17 x18 x19p x19n x19c :=
  ld_int (hb.cell rfl) (ld_int (hb.cell rfl) (ld_int (hb.cell rfl) (ld_int (hb.cell rfl) (ld_int (hb.cell rfl) (ld_int (hb.cell rfl) (ld_int (hb.cell rfl) (ld_int (hb.cell rfl) (ld_int (hb.cell rfl) (ld_int (hb.cell rfl) (ld_sl (hb.cell rfl) (ld_int (hb.cell rfl) (ld_int (hb.cell rfl) (ld_int (hb.cell rfl) (ld_int (hb.cell rfl) (ld_int (hb.cell rfl) (ld_int (hb.cell rfl) (ld_int (hb.cell rfl) (ld_sl (hb.cell rfl) h))))))))))))))))))
theorem bc_eqt {a b : Int} {A B : Prop} (h : a = b) (x : A) : bcase (a == b) A B := bc_eq (fun _ => x) (fun hn => absurd h hn)
theorem bc_eqf {a b : Int} {A B : Prop} (h : a ≠ b) (x : B) : bcase (a == b) A B := bc_eq (fun he => absurd he h) (fun _ => x)
theorem aims_spec (hQ : Ans Q (noID (m.tn, m.ts) ↔ aimsNone m) w) : CallR Tryz.prog 117 #[msgV m rp rc lp lc] w Q := by
  apply X117.sound
  unfold X117.f newK
  obtain ⟨hb, f⟩ := made (w := w) (cs := (m.cells rp rc lp lc).toArray) (e := 41)
  rw [show (⟨w.heap.size, 0, none⟩ : Addr) = at0 w.heap.size 0 from rfl]
  simp only [add_at, Nat.zero_add, Nat.add_zero]
  generalize w.alloc _ = w2 at *
  refine ld_int (hb.cell rfl) (ld_int (hb.cell rfl) ⟨isS24, ld_int (hb.cell rfl) ?_⟩)
  have key : ∀ (c b : Bool), (b = true ↔ aimsNone m) → c = (((m.tn == (0 : Int)) && ((m.ts == (0 : Int)) && true)) == b) → Q (.bool c) w2 := by
    intro c b hb hc
    subst hc
    refine hQ _ _ ?_ f
    have := and_noID (x := m.tn) (y := m.ts)
    rw [← hb, ← this]
    cases ((m.tn == (0 : Int)) && ((m.ts == (0 : Int)) && true)) <;> cases b <;> simp
  refine bc_eq (fun h1 => ?_) (fun h1 => bc_eq (fun h8 => ?_) (fun h8 => ?_))
  · refine ld_int (hb.cell rfl) (bc_eq (fun h => ?_) (fun h => ?_))
    · exact key _ true (by simp [aimsNone, h1, h]) rfl
    · refine ld_int (hb.cell rfl) (key _ (m.op == 6) ?_ rfl)
      simp [aimsNone, h1, h]
  · refine ld_int (hb.cell rfl) (key _ (m.op == 3) ?_ rfl)
    simp [aimsNone, h1, h8]
  · refine key _ false ?_ ?_
    · simp [aimsNone, h1, h8]
    · cases ((m.tn == (0 : Int)) && ((m.ts == (0 : Int)) && true)) <;> rfl
theorem fits_spec {i : Nat} (hi : i < 15) (h : MM w m rp rc lp lc) (hQ : Ans Q (fits m i) w) : CallR Tryz.prog 104 #[msgV m rp rc lp lc, .int .i64 ((2 ^ i : Nat) : Int)] w Q := by
  apply X104.sound
  unfold X104.f newK
  obtain ⟨hb, f⟩ := made (w := w) (cs := (m.cells rp rc lp lc).toArray) (e := 41)
  rw [show (⟨w.heap.size, 0, none⟩ : Addr) = at0 w.heap.size 0 from rfl]
  simp only [add_at, Nat.zero_add, Nat.add_zero]
  have h2 := h.keep' f
  generalize w.alloc _ = w2 at *
  have hb2 := hb.keep' (Fr.drew (w := w2))
  have f2 := f.tr (Fr.drew (S := []) (w := w2))
  have hc : i = 0 ∨ i = 1 ∨ i = 2 ∨ i = 3 ∨ i = 4 ∨ i = 5 ∨ i = 6 ∨ i = 7 ∨ i = 8 ∨ i = 9 ∨ i = 10 ∨ i = 11 ∨ i = 12 ∨ i = 13 ∨ i = 14 := by omega
  rcases hc with rfl | rfl | rfl | rfl | rfl | rfl | rfl | rfl | rfl | rfl | rfl | rfl | rfl | rfl | rfl
  all_goals repeat refine bc_eqf (by decide) ?_
  · refine bc_eqt rfl (ld_int (hb.cell rfl) (serial_spec fun b hb' => ⟨_, rfl, hQ b _ hb' f⟩))
  · refine bc_eqt rfl (ld_int (hb.cell rfl) (bc_dec (fun h1 => ld_int (hb.cell rfl) (ld_int (hb.cell rfl) (hQ _ _ ?_ f))) (fun h1 => hQ _ _ ?_ f)))
    · simp only [fits, decide_eq_true_eq]; omega
    · simp only [fits]; exact ⟨fun h => (by cases h), fun h => by omega⟩
  · refine bc_eqt rfl (ld_int (hb.cell rfl) (in_spec fun b hb' => ⟨_, rfl, hQ b _ hb' f⟩))
  · refine bc_eqt rfl (ld_int (hb2.cell rfl) (ld_int (hb2.cell rfl) (ops_spec ⟨_, rfl, ⟨hb2.cell rfl, hb2.cell rfl⟩, in_spec fun b hb' => ⟨_, rfl, hQ b _ hb' f2⟩⟩)))
  · refine bc_eqt rfl (ld_int (hb.cell rfl) (in_spec fun b hb' => ⟨_, rfl, hQ b _ hb' f⟩))
  · refine bc_eqt rfl (ld_int (hb.cell rfl) (ld_int (hb.cell rfl) (right_spec fun b w3 hb' f3 => ⟨_, rfl, bc_bool (fun e => ?_) (fun e => ?_)⟩)))
    · have hb3 := hb.keep' f3
      refine ld_msg hb3 (aims_spec (m := m) (rp := rp) (rc := rc) (lp := lp) (lc := lc) fun c w4 hc f4 => ⟨_, rfl, hQ _ _ ?_ ((f.tr f3).tr f4)⟩)
      rw [hc]
      exact ⟨fun h => ⟨hb'.1 e, h⟩, fun h => h.2⟩
    · refine hQ _ _ ?_ (f.tr f3)
      exact ⟨fun h => (by cases h), fun h => by rw [hb'.2 h.1] at e; cases e⟩
  · refine bc_eqt rfl (ld_int (hb.cell rfl) (serial_spec fun b hb' => ⟨_, rfl, hQ b _ hb' f⟩))
  · refine bc_eqt rfl (ld_int (hb.cell rfl) (in_spec fun b hb' => ⟨_, rfl, hQ b _ hb' f⟩))
  · exact hQ _ _ (by simp [fits]) f
  · refine bc_eqt rfl (ld_int (hb.cell rfl) (in_spec fun b hb' => ⟨_, rfl, hQ b _ hb' f⟩))
  · refine bc_eqt rfl (ld_int (hb2.cell rfl) (ld_int (hb2.cell rfl) (codes_spec ⟨_, rfl, ⟨hb2.cell rfl, hb2.cell rfl⟩, in_spec fun b hb' => ⟨_, rfl, hQ b _ hb' f2⟩⟩)))
  · exact hQ _ _ (by simp [fits]) f
  · refine bc_eqt rfl (ld_sl (hb.cell rfl) (allRight_spec h2.refs rfl h2.rsz fun b w3 hb' f3 => ⟨_, rfl, hQ b _ hb' (f.tr f3)⟩))
  · exact hQ _ _ (by simp [fits]) f
  · refine bc_eqt rfl (ld_sl (hb.cell rfl) (rising_spec h2.list rfl h2.lsz fun b hb' => ⟨_, rfl, hQ b _ hb' f⟩))
theorem bare_spec {i : Nat} (hi : i < 15) (hQ : Ans Q (bare m i) w) : CallR Tryz.prog 105 #[msgV m rp rc lp lc, .int .i64 ((2 ^ i : Nat) : Int)] w Q := by
  apply X105.sound
  unfold X105.f newK
  obtain ⟨hb, f⟩ := made (w := w) (cs := (m.cells rp rc lp lc).toArray) (e := 41)
  rw [show (⟨w.heap.size, 0, none⟩ : Addr) = at0 w.heap.size 0 from rfl]
  simp only [add_at, Nat.zero_add, Nat.add_zero]
  generalize w.alloc _ = w2 at *
  have hc : i = 0 ∨ i = 1 ∨ i = 2 ∨ i = 3 ∨ i = 4 ∨ i = 5 ∨ i = 6 ∨ i = 7 ∨ i = 8 ∨ i = 9 ∨ i = 10 ∨ i = 11 ∨ i = 12 ∨ i = 13 ∨ i = 14 := by omega
  rcases hc with rfl | rfl | rfl | rfl | rfl | rfl | rfl | rfl | rfl | rfl | rfl | rfl | rfl | rfl | rfl
  all_goals repeat refine bc_eqf (by decide) ?_
  · exact bc_eqt rfl (ld_int (hb.cell rfl) (hQ _ _ (by simp [bare]) f))
  · exact bc_eqt rfl (ld_int (hb.cell rfl) (hQ _ _ (by simp [bare]) f))
  · exact bc_eqt rfl (ld_int (hb.cell rfl) (hQ _ _ (by simp [bare]) f))
  · exact bc_eqt rfl (ld_int (hb.cell rfl) (hQ _ _ (by simp [bare]) f))
  · exact bc_eqt rfl (ld_int (hb.cell rfl) (hQ _ _ (by simp [bare]) f))
  · exact bc_eqt rfl (ld_int (hb.cell rfl) (ld_int (hb.cell rfl) ⟨isS24, hQ _ _ and_noID f⟩))
  · exact bc_eqt rfl (ld_int (hb.cell rfl) (hQ _ _ (by simp [bare]) f))
  · exact bc_eqt rfl (ld_int (hb.cell rfl) (hQ _ _ (by simp [bare]) f))
  · exact bc_eqt rfl (ld_int (hb.cell rfl) (hQ _ _ (by simp [bare]) f))
  · exact bc_eqt rfl (ld_int (hb.cell rfl) (hQ _ _ (by simp [bare]) f))
  · exact bc_eqt rfl (ld_int (hb.cell rfl) (hQ _ _ (by simp [bare]) f))
  · exact bc_eqt rfl (ld_int (hb.cell rfl) (hQ _ _ (by simp [bare]) f))
  · exact bc_eqt rfl (ld_sl (hb.cell rfl) (hQ _ _ (by simp [bare]) f))
  · exact bc_eqt rfl (ld_int (hb.cell rfl) (hQ _ _ (by simp [bare]) f))
  · exact ld_sl (hb.cell rfl) (hQ _ _ (by simp [bare]) f)
theorem hasBit_fin : ∀ k : Fin 12, ∀ i : Fin 15, iAnd .i64 ((fieldsN (k.val : Int) : Nat) : Int) ((2 ^ i.val : Nat) : Int) ≠ 0 ↔ hasF (k.val : Int) i.val = true := by decide +kernel
theorem fieldsN_out {k : Int} (h : ¬ (1 ≤ k ∧ k ≤ 11)) : fieldsN k = 0 := by
  by_cases h2 : fieldsN k = 0
  · exact h2
  · exact absurd (fieldsN_zero.1 h2) h
theorem hasBit {k : Int} {i : Nat} (hi : i < 15) : iAnd .i64 ((fieldsN k : Nat) : Int) ((2 ^ i : Nat) : Int) ≠ 0 ↔ hasF k i = true := by
  by_cases h : 1 ≤ k ∧ k ≤ 11
  · have := hasBit_fin ⟨k.toNat, by omega⟩ ⟨i, hi⟩
    simp only [] at this
    rwa [show ((k.toNat : Nat) : Int) = k by omega] at this
  · have e := fieldsN_out h
    have := hasBit_fin 0 ⟨i, hi⟩
    unfold hasF at *
    rw [e]
    exact this
theorem shl1 {i : Nat} (hi : i < 15) : iShl .i64 ((2 ^ i : Nat) : Int) 1 = ((2 ^ (i + 1) : Nat) : Int) := by
  have key : ∀ i : Fin 15, iShl .i64 ((2 ^ i.val : Nat) : Int) 1 = ((2 ^ (i.val + 1) : Nat) : Int) := by decide +kernel
  exact key ⟨i, hi⟩
theorem right_l0 (hb : Blk w g (m.cells rp rc lp lc) 41) (h : MM w m rp rc lp lc) (hQ : Ans Q (∀ i, i < 15 → okF m i) w) (f : Nat) : ∀ (i : Nat) (w' : World), 15 - i < f → Fr [] w w' → i ≤ 15 → (∀ j, j < i → okF m j) →
    X81.l0 Q f (at0 g 0) ((fieldsN m.kind : Nat) : Int) ((2 ^ i : Nat) : Int) w' := by
  induction f with
  | zero => intro i w' hf; omega
  | succ f ih =>
    intro i w' hf hw hi hp
    rw [X81.l0]
    have hb' := hb.keep' hw
    simp only [add_at, Nat.zero_add, Nat.add_zero]
    generalize hN : (32768 : Int) = N
    refine bc_dec (fun h1 => ?_) (fun h1 => ?_)
    · have hlt : i < 15 := by
        by_cases e : i = 15
        · subst e; subst hN; exact absurd h1 (by decide)
        · omega
      have hbit := hasBit (k := m.kind) hlt
      rw [shl1 hlt]
      have go : okF m i → ∀ w2, Fr [] w w2 → X81.l0 Q f (at0 g 0) ((fieldsN m.kind : Nat) : Int) ((2 ^ (i + 1) : Nat) : Int) w2 := fun ho w2 f2 =>
        ih (i + 1) w2 (by omega) f2 (by omega) (fun j hj => by
          by_cases e : j = i
          · rw [e]; exact ho
          · exact hp j (by omega))
      refine bc_ne (fun hne => ?_) (fun he => ?_)
      · have hh := hbit.1 hne
        refine ld_msg hb' (fits_spec (m := m) (rp := rp) (rc := rc) (lp := lp) (lc := lc) hlt (h.keep' hw) fun b w2 hb2 f2 => ⟨_, rfl, bc_bool (fun e => ?_) (fun e => ?_)⟩)
        · have hbf : b = false := by cases b; rfl; cases e
          subst hbf
          refine hQ _ _ ⟨fun h => (by cases h), fun h => ?_⟩ (hw.tr f2)
          have := h i hlt
          unfold okF at this
          rw [if_pos hh] at this
          exact hb2.2 this
        · have hbt : b = true := by cases b; cases e; rfl
          refine bc_eq (fun h0 => absurd h0 hne) (fun _ => ⟨by decide, go ?_ _ (hw.tr f2)⟩)
          unfold okF
          rw [if_pos hh]
          exact hb2.1 hbt
      · have hh : hasF m.kind i = false := by
          cases e : hasF m.kind i with
          | false => rfl
          | true => exact absurd he (hbit.2 e)
        refine bc_eq (fun _ => ?_) (fun h0 => absurd he h0)
        refine ld_msg hb' (bare_spec (m := m) (rp := rp) (rc := rc) (lp := lp) (lc := lc) hlt fun b w2 hb2 f2 => ⟨_, rfl, bc_bool (fun e => ?_) (fun e => ?_)⟩)
        · have hbf : b = false := by cases b; rfl; cases e
          subst hbf
          refine hQ _ _ ⟨fun h => (by cases h), fun h => ?_⟩ (hw.tr f2)
          have := h i hlt
          unfold okF at this
          rw [if_neg (by simp [hh])] at this
          exact hb2.2 this
        · have hbt : b = true := by cases b; cases e; rfl
          refine ⟨by decide, go ?_ _ (hw.tr f2)⟩
          unfold okF
          rw [if_neg (by simp [hh])]
          exact hb2.1 hbt
    · have : i = 15 := by
        by_cases e : i = 15
        · exact e
        · have : (2 : Nat) ^ i ≤ 2 ^ 14 := Nat.pow_le_pow_right (by omega) (by omega)
          omega
      subst this
      exact hQ _ _ (by simp; exact hp) hw
theorem Right_spec (h : MM w m rp rc lp lc) (hQ : Ans Q (Right m) w) : CallR Tryz.prog 81 #[msgV m rp rc lp lc] w Q := by
  apply X81.sound
  unfold X81.f newK
  obtain ⟨hb, f⟩ := made (w := w) (cs := (m.cells rp rc lp lc).toArray) (e := 41)
  rw [show (⟨w.heap.size, 0, none⟩ : Addr) = at0 w.heap.size 0 from rfl]
  simp only [add_at, Nat.zero_add, Nat.add_zero]
  have h2 := h.keep' f
  generalize w.alloc _ = w2 at *
  have no : ¬ Right m → Q (.bool false) w2 := fun hn => hQ _ _ ⟨fun h => (by cases h), fun h => absurd h hn⟩ f
  refine ld_int (hb.cell rfl) (fields_spec ⟨_, rfl, bc_eq (fun h0 => no fun h => h.1 (by omega)) (fun h0 => ?_)⟩)
  refine ld_int (hb.cell rfl) (in_spec fun b1 hb1 => ⟨_, rfl, bc_bool (fun e => no fun h => ?_) (fun e1 => ?_)⟩)
  · rw [hb1.2 h.2.1] at e; cases e
  refine ld_int (hb.cell rfl) (in_spec fun b2 hb2 => ⟨_, rfl, bc_bool (fun e => no fun h => ?_) (fun e2 => ?_)⟩)
  · rw [hb2.2 h.2.2.1] at e; cases e
  refine ld_int (hb.cell rfl) (ld_int (hb.cell rfl) (bc_eq (fun e => no fun h => h.2.2.2.1 e) (fun e3 => ?_)))
  unfold X81.j1
  have t1 : b1 = true := by cases b1; cases e1; rfl
  have t2 : b2 = true := by cases b2; cases e2; rfl
  refine ⟨16, right_l0 (w := w2) hb h2 (fun b w3 hb3 f3 => hQ b w3 ?_ (f.tr f3)) 16 0 w2 (by omega) (Fr.refl _) (by omega) (fun j hj => by omega)⟩
  rw [hb3]
  exact ⟨fun h => ⟨fun e => h0 (by rw [e]; rfl), hb1.1 t1, hb2.1 t2, e3, h⟩, fun h => h.2.2.2.2⟩
end
end Go.Proofs.YtnjmkhhaodgpbaaGreatX
namespace Go.Proofs.YtnjmkhhaodgpbaaGreatX
open Go.RowKit
def StM (es : Array MapEntry) (ck : Nat) : Prop := (∀ e ∈ es.toList, e.born < ck) ∧ (es.toList.map (·.born)).Nodup
structure MU (w : World) (b : Nat) (l : List (Int × Value)) : Prop where
  ex : ∃ es clock, w.heap[b]? = some (.map es clock) ∧ es.toList.map (fun e => (e.key, e.val)) = l.map (fun x => (Value.int .u64 x.1, x.2))
  wf : ∀ x ∈ l, (Lit.int .u64 x.1).wf = true
  nd : l.Pairwise fun x y => x.1 ≠ y.1
  st : ∀ es ck, w.heap[b]? = some (.map es ck) → StM es ck
def findU (l : List (Int × Value)) (k : Int) : Option Value := (l.find? fun x => decide (x.1 = k)).map (·.2)
def dropU (l : List (Int × Value)) (k : Int) : List (Int × Value) := l.filter fun x => decide (x.1 ≠ k)
theorem findU_none {l : List (Int × Value)} {k : Int} (h : ∀ x ∈ l, x.1 ≠ k) : findU l k = none := by
  unfold findU
  rw [List.find?_eq_none.2 (fun x hx hd => h x hx (of_decide_eq_true hd))]
  rfl
theorem findU_some {l : List (Int × Value)} {k : Int} {v : Value} (nd : l.Pairwise fun x y => x.1 ≠ y.1) (h : (k, v) ∈ l) : findU l k = some v := by
  unfold findU
  cases hf : l.find? (fun x => decide (x.1 = k)) with
  | none => have := List.find?_eq_none.1 hf _ h; simp at this
  | some y =>
    have hy1 : y.1 = k := by simpa using List.find?_some hf
    have hy2 := List.mem_of_find?_eq_some hf
    obtain ⟨i, hi⟩ := List.getElem?_of_mem hy2
    obtain ⟨j, hj⟩ := List.getElem?_of_mem h
    rw [List.pairwise_iff_getElem] at nd
    obtain ⟨li, ei⟩ := List.getElem?_eq_some_iff.1 hi
    obtain ⟨lj, ej⟩ := List.getElem?_eq_some_iff.1 hj
    rcases Nat.lt_trichotomy i j with h' | h' | h'
    · have := nd i j li lj h'
      rw [ei, ej] at this
      exact absurd hy1 this
    · subst h'
      rw [hi] at hj
      injection hj with hj
      rw [hj]; rfl
    · have := nd j i lj li h'
      rw [ei, ej] at this
      exact absurd hy1.symm this
theorem erase_filter {l : List (Int × Value)} (nd : l.Pairwise fun x y => x.1 ≠ y.1) : ∀ {j : Nat} {x : Int × Value}, l[j]? = some x → l.eraseIdx j = dropU l x.1 := by
  induction l with
  | nil => intro j x h; simp at h
  | cons a l ih =>
    obtain ⟨h1, h2⟩ := List.pairwise_cons.1 nd
    intro j x h
    cases j with
    | zero =>
      simp at h
      subst h
      unfold dropU
      rw [List.filter_cons_of_neg (by simp)]
      simp only [List.eraseIdx_cons_zero]
      symm
      apply List.filter_eq_self.2
      intro y hy
      exact decide_eq_true (fun e => h1 y hy e.symm)
    | succ j =>
      simp at h
      have hx := List.mem_of_getElem? h
      unfold dropU
      rw [List.eraseIdx_cons_succ, List.filter_cons_of_pos (by simpa using h1 x hx), ih h2 h]
      rfl
section
variable {P : Program} {M K E : TypeId} {w w' W : World} {b : Nat} {l : List (Int × Value)} {k : Int} {v z : Value}
theorem MU.keep (h : MU w b l) {S : List Nat} (f : Fr S w w') (hn : b ∉ S) : MU w' b l := by
  obtain ⟨⟨es, ck, h1, h2⟩, h3, h4, h5⟩ := h
  have e := f.block b (Array.getElem?_eq_some_iff.1 h1).1 hn
  exact ⟨⟨es, ck, e.trans h1, h2⟩, h3, h4, fun es' ck' h' => h5 es' ck' (e ▸ h')⟩
theorem MU.keep' (h : MU w b l) (f : Fr [] w w') : MU w' b l := h.keep f (by simp)
theorem MU.lt (h : MU w b l) : b < w.heap.size := by
  obtain ⟨⟨es, ck, h1, h2⟩, h3, h4, _⟩ := h
  exact (Array.getElem?_eq_some_iff.1 h1).1
theorem newMU {K : Nat → World → Prop} (hK : ∀ b w', MU w' b [] → Fr [] w w' → w.heap.size ≤ b → K b w') : newM w K :=
  hK _ _ ⟨⟨#[], 0, heap_alloc_new w _, rfl⟩, by simp, List.Pairwise.nil, fun es ck h => by
    rw [heap_alloc_new] at h
    injection h with h
    injection h with h1 h2
    subst h1
    exact ⟨by simp, by simp⟩⟩ (Fr.alloc _ _) (Nat.le_refl _)
theorem MU.at_ {es : List MapEntry} (h : es.map (fun e => (e.key, e.val)) = l.map (fun x => (Value.int .u64 x.1, x.2))) {i : Nat} {e : MapEntry} (he : es[i]? = some e) : ∃ x, l[i]? = some x ∧ e.key = .int .u64 x.1 ∧ e.val = x.2 := by
  have := congrArg (fun l => l[i]?) h
  simp only [List.getElem?_map, he, Option.map_some] at this
  cases hx : l[i]? with
  | none => rw [hx] at this; cases this
  | some x =>
    rw [hx] at this
    simp only [Option.map_some, Option.some.injEq, Prod.mk.injEq] at this
    exact ⟨x, rfl, this⟩
theorem MU.ta {es : List MapEntry} (h : es.map (fun e => (e.key, e.val)) = l.map (fun x => (Value.int .u64 x.1, x.2))) {i : Nat} {x : Int × Value} (hx : l[i]? = some x) : ∃ e, es[i]? = some e ∧ e.key = .int .u64 x.1 ∧ e.val = x.2 := by
  have := congrArg (fun l => l[i]?) h
  simp only [List.getElem?_map, hx, Option.map_some] at this
  cases he : es[i]? with
  | none => rw [he] at this; cases this
  | some e =>
    rw [he] at this
    simp only [Option.map_some, Option.some.injEq, Prod.mk.injEq] at this
    exact ⟨e, rfl, this⟩
theorem heap_setU {o o' : Go.Obj} (hb : w.heap[b]? = some o') : (Go.ChangeMaps.setBlock w b o).heap[b]? = some o := by
  have := (Array.getElem?_eq_some_iff.1 hb).1
  simp [Go.ChangeMaps.setBlock, this]
theorem StM.set {es es' : Array MapEntry} {ck ck' : Nat} {o' : Go.Obj} (hb : w.heap[b]? = some o') (h : StM es ck) (hh : (Go.ChangeMaps.setBlock w b (.map es ck)).heap[b]? = some (.map es' ck')) : StM es' ck' := by
  rw [heap_setU hb] at hh
  injection hh with hh
  injection hh with h1 h2
  subst h1 h2
  exact h
theorem fr_setU {o : Go.Obj} : Fr [b] w (Go.ChangeMaps.setBlock w b o) := ⟨rfl, rfl, rfl, by simp [Go.ChangeMaps.setBlock], fun k hk hn => by
  have : b ≠ k := fun e => hn (by simp [e])
  simp [Go.ChangeMaps.setBlock, this]⟩
theorem MU.find (hk : P.underlying K = some (.int .u64)) (h : MU w b l) (hw : (Lit.int .u64 k).wf = true) {es : Array MapEntry} (hm : es.toList.map (fun e => (e.key, e.val)) = l.map (fun x => (Value.int .u64 x.1, x.2))) :
    ((Instr.findKey K (.int .u64 k) es.toList).run P w = .ok none w ∧ ∀ x ∈ l, x.1 ≠ k) ∨ ∃ (j : Nat) (x : Int × Value), (Instr.findKey K (.int .u64 k) es.toList).run P w = .ok (some (j, x.2)) w ∧ l[j]? = some x ∧ x.1 = k := by
  have L := Maps.int_keyed hk
  have hks : ∀ e ∈ es.toList, ∃ l, Go.keyOf P K e.key = some l := fun e he => by
    obtain ⟨i, hi⟩ := List.getElem?_of_mem he
    obtain ⟨x, hx, hx1, _⟩ := MU.at_ hm hi
    rw [hx1]
    exact ⟨_, Maps.keyOf_int_mk hk (h.wf x (List.mem_of_getElem? hx))⟩
  rcases L.find w (Maps.keyOf_int_mk hk hw) es.toList hks with ⟨f1, f2⟩ | ⟨j, e0, f1, f2, f3⟩
  · refine .inl ⟨f1, fun x hx e => ?_⟩
    obtain ⟨i, hi⟩ := List.getElem?_of_mem hx
    obtain ⟨e0, he, he1, _⟩ := MU.ta hm hi
    exact f2 e0 (List.mem_of_getElem? he) (by rw [he1, e])
  · obtain ⟨x, hx, hx1, hx2⟩ := MU.at_ hm f2
    have hx3 : x.1 = k := by
      rw [hx1] at f3
      injection f3
    exact .inr ⟨j, x, by rw [← hx2]; exact f1, hx, hx3⟩
theorem lookU {Q : QT} (hk : P.underlying K = some (.int .u64)) (ht : P.underlying M = some (.map K E)) (hz : (zeroValue E).run P w = .ok z w) (h : MU w b l) (hw : (Lit.int .u64 k).wf = true) (hQ : Q ((findU l k).getD z) w) :
    RunR P (Instr.lookup M (.map (some b)) (.int .u64 k) false) w Q := by
  obtain ⟨es, ck, hb, hm⟩ := h.ex
  have L := Maps.int_keyed hk
  have hkl := Maps.keyOf_int_mk hk hw
  rcases h.find hk hw hm with ⟨f1, f2⟩ | ⟨j, x, f1, f2, f3⟩
  · rw [findU_none f2] at hQ
    refine ⟨_, w, ?_, hQ⟩
    simp [Instr.lookup, run_underlying ht, MapKept.run_getObj_map hb, L.check w _ hkl, f1, hz, Result.andThen]
  · have hx : findU l k = some x.2 := findU_some h.nd (by rw [← f3]; exact List.mem_of_getElem? f2)
    rw [hx] at hQ
    refine ⟨_, w, ?_, hQ⟩
    simp [Instr.lookup, run_underlying ht, MapKept.run_getObj_map hb, L.check w _ hkl, f1, Result.andThen]
theorem updU {Q : Unit → World → Prop} (hk : P.underlying K = some (.int .u64)) (ht : P.underlying M = some (.map K E)) (h : MU w b l) (hw : (Lit.int .u64 k).wf = true) (hn : ∀ x ∈ l, x.1 ≠ k) (hQ : ∀ w', MU w' b (l ++ [(k, v)]) → Fr [b] w w' → Q () w') :
    RunR P (Instr.mapUpdate M (.map (some b)) (.int .u64 k) v) w Q := by
  obtain ⟨es, ck, hb, hm⟩ := h.ex
  have L := Maps.int_keyed hk
  have hkl := Maps.keyOf_int_mk hk hw
  rcases h.find hk hw hm with ⟨f1, f2⟩ | ⟨j, x, f1, f2, f3⟩
  · refine ⟨(), Go.ChangeMaps.setBlock w b (.map (es.push ⟨.int .u64 k, v, ck⟩) (ck + 1)), ?_, hQ _ ⟨⟨_, _, heap_setU hb, ?_⟩, ?_, ?_, fun es' ck' hh => StM.set hb ?_ hh⟩ fr_setU⟩
    · simp [Instr.mapUpdate, run_underlying ht, MapKept.run_getObj_map hb, L.check w false hkl, f1, MapKept.run_setObj_map _ hb, Result.andThen, Go.ChangeMaps.setBlock]
    · simp [hm]
    · intro x hx
      rcases List.mem_append.1 hx with hx | hx
      · exact h.wf x hx
      · simp at hx; subst hx; exact hw
    · rw [List.pairwise_append]
      exact ⟨h.nd, by simp, fun x hx y hy => by simp at hy; subst hy; exact hn x hx⟩
    · obtain ⟨s1, s2⟩ := h.st es ck hb
      refine ⟨fun e he => ?_, ?_⟩
      · rw [Array.toList_push] at he
        rcases List.mem_append.1 he with he | he
        · have := s1 e he; omega
        · simp at he; rw [he]; show ck < ck + 1; omega
      · rw [Array.toList_push, List.map_append, List.nodup_append]
        refine ⟨s2, by simp, fun a ha c hc => ?_⟩
        obtain ⟨e, he, rfl⟩ := List.mem_map.1 ha
        have := s1 e he
        simp at hc
        omega
  · exact absurd f3 (hn x (List.mem_of_getElem? f2))
theorem delU {Q : QT} {ty : TypeId} (hk : P.underlying K = some (.int .u64)) (ht : P.underlying M = some (.map K E)) (h : MU w b l) (hw : (Lit.int .u64 k).wf = true) (hQ : ∀ w', MU w' b (dropU l k) → Fr [b] w w' → Q (.tuple #[]) w') :
    RunR P (Builtin.delete_ #[M, K] ty #[.map (some b), .int .u64 k]) w Q := by
  obtain ⟨es, ck, hb, hm⟩ := h.ex
  have L := Maps.int_keyed hk
  have hkl := Maps.keyOf_int_mk hk hw
  have wf' : ∀ x ∈ dropU l k, (Lit.int .u64 x.1).wf = true := fun x hx => h.wf x (List.mem_filter.1 hx).1
  have nd' : (dropU l k).Pairwise fun x y => x.1 ≠ y.1 := h.nd.filter _
  rcases h.find hk hw hm with ⟨f1, f2⟩ | ⟨j, x, f1, f2, f3⟩
  · have hd : dropU l k = l := List.filter_eq_self.2 (fun x hx => decide_eq_true (f2 x hx))
    refine ⟨_, Go.ChangeMaps.setBlock w b (.map es ck), ?_, hQ _ ⟨⟨es, ck, heap_setU hb, by rw [hd]; exact hm⟩, wf', nd', fun es' ck' hh => StM.set hb (h.st es ck hb) hh⟩ fr_setU⟩
    simp [Builtin.delete_, run_underlying ht, MapKept.run_getObj_map hb, L.check w _ hkl, f1, MapKept.run_setObj_map _ hb, Result.andThen, Go.ChangeMaps.setBlock]
  · refine ⟨_, Go.ChangeMaps.setBlock w b (.map (es.eraseIdxIfInBounds j) ck), ?_, hQ _ ⟨⟨_, ck, heap_setU hb, ?_⟩, wf', nd', fun es' ck' hh => StM.set hb ?_ hh⟩ fr_setU⟩
    · simp [Builtin.delete_, run_underlying ht, MapKept.run_getObj_map hb, L.check w _ hkl, f1, MapKept.run_setObj_map _ hb, Result.andThen, Go.ChangeMaps.setBlock]
    · have he : (es.eraseIdxIfInBounds j).toList = es.toList.eraseIdx j := by simp
      rw [he, ← f3, ← erase_filter h.nd f2]
      have em : ∀ {α β : Type} (f : α → β) (l : List α) (j : Nat), (l.eraseIdx j).map f = (l.map f).eraseIdx j := by
        intro α β f l
        induction l with
        | nil => intro j; simp
        | cons a l ih => intro j; cases j with
          | zero => simp
          | succ j => simp [ih]
      rw [em, em, hm]
    · obtain ⟨s1, s2⟩ := h.st es ck hb
      have he : (es.eraseIdxIfInBounds j).toList = es.toList.eraseIdx j := by simp
      refine ⟨fun e hm => s1 e ?_, ?_⟩
      · rw [he] at hm
        exact (List.eraseIdx_sublist es.toList j).subset hm
      · rw [he]
        exact ((List.eraseIdx_sublist es.toList j).map _).nodup s2
theorem lenU {ty : TypeId} (ht : P.underlying M = some (.map K E)) (h : MU w b l) : LenM P #[M] ty (.map (some b)) w (l.length : Int) := by
  obtain ⟨es, ck, hb, hm⟩ := h.ex
  have hl : es.size = l.length := by
    have := congrArg List.length hm
    simpa using this
  unfold LenM
  simp [Builtin.len_, run_underlying ht, MapKept.run_getObj_map hb, goInt, hl]
end
end Go.Proofs.YtnjmkhhaodgpbaaGreatX
namespace Go.Proofs.YtnjmkhhaodgpbaaGreatX
open Go.RowKit
set_option maxRecDepth 100000
def lz (t : Nat) : Nat := ((List.range 8).find? fun k => !t.testBit k).getD 8
def pop (t : Nat) : Nat := ((List.range 8).filter fun k => t.testBit k).length
def clsB (t : Nat) : Int := if t = 0 then 0 else 2
def fitB (t : Nat) : Bool := decide (t ≠ 0) && decide (t ≠ 255)
theorem lz_dec : ∀ t : Fin 255, lz t.val < 8 ∧ t.val.testBit (lz t.val) = false ∧ (∀ j : Fin 8, j.val < lz t.val → t.val.testBit j.val = true) := by decide +kernel
theorem bit_dec : ∀ t : Fin 256, ∀ k : Fin 8, ((iAnd .u16 (iShr .u16 (t.val : Int) (k.val : Int)) 1) == 1) = t.val.testBit k.val := by decide +kernel
theorem set_dec : ∀ t : Fin 256, ∀ k : Fin 8, t.val.testBit k.val = false → iOr .u16 (t.val : Int) (iShl .u16 1 (k.val : Int)) = ((t.val + 2 ^ k.val : Nat) : Int) ∧ t.val + 2 ^ k.val ≤ 255 ∧ t.val + 2 ^ k.val ≠ 0 ∧ pop (t.val + 2 ^ k.val) = pop t.val + 1 := by decide +kernel
theorem clr_dec : ∀ t : Fin 256, ∀ k : Fin 8, t.val.testBit k.val = true → iAndNot .u16 (t.val : Int) (iShl .u16 1 (k.val : Int)) = ((t.val - 2 ^ k.val : Nat) : Int) ∧ pop t.val = pop (t.val - 2 ^ k.val) + 1 := by decide +kernel
theorem setbit_dec : ∀ t : Fin 256, ∀ k j : Fin 8, t.val.testBit k.val = false → (t.val + 2 ^ k.val).testBit j.val = (decide (j = k) || t.val.testBit j.val) := by decide +kernel
theorem clrbit_dec : ∀ t : Fin 256, ∀ k j : Fin 8, t.val.testBit k.val = true → (t.val - 2 ^ k.val).testBit j.val = (!decide (j = k) && t.val.testBit j.val) := by decide +kernel
theorem pop_full : pop 255 = 8 := by decide +kernel
theorem pop_zero : pop 0 = 0 := by decide +kernel
theorem lz_lt {t : Nat} (h : t < 255) : lz t < 8 ∧ t.testBit (lz t) = false ∧ ∀ j, j < lz t → t.testBit j = true := by
  have := lz_dec ⟨t, h⟩
  have h1 : lz t < 8 := this.1
  exact ⟨h1, this.2.1, fun j hj => this.2.2 ⟨j, by omega⟩ hj⟩
theorem bit_eq {t k : Nat} (h : t ≤ 255) (hk : k < 8) : ((iAnd .u16 (iShr .u16 (t : Int) (k : Int)) 1) == 1) = t.testBit k := bit_dec ⟨t, by omega⟩ ⟨k, hk⟩
theorem set_eq {t k : Nat} (h : t ≤ 255) (hk : k < 8) (hb : t.testBit k = false) : iOr .u16 (t : Int) (iShl .u16 1 (k : Int)) = ((t + 2 ^ k : Nat) : Int) ∧ t + 2 ^ k ≤ 255 ∧ t + 2 ^ k ≠ 0 ∧ pop (t + 2 ^ k) = pop t + 1 := set_dec ⟨t, by omega⟩ ⟨k, hk⟩ hb
theorem clr_eq {t k : Nat} (h : t ≤ 255) (hk : k < 8) (hb : t.testBit k = true) : iAndNot .u16 (t : Int) (iShl .u16 1 (k : Int)) = ((t - 2 ^ k : Nat) : Int) ∧ pop t = pop (t - 2 ^ k) + 1 := clr_dec ⟨t, by omega⟩ ⟨k, hk⟩ hb
theorem setbit_eq {t k j : Nat} (h : t ≤ 255) (hk : k < 8) (hj : j < 8) (hb : t.testBit k = false) : (t + 2 ^ k).testBit j = (decide (j = k) || t.testBit j) := by
  have := setbit_dec ⟨t, by omega⟩ ⟨k, hk⟩ ⟨j, hj⟩ hb
  simpa [Fin.ext_iff] using this
theorem clrbit_eq {t k j : Nat} (h : t ≤ 255) (hk : k < 8) (hj : j < 8) (hb : t.testBit k = true) : (t - 2 ^ k).testBit j = (!decide (j = k) && t.testBit j) := by
  have := clrbit_dec ⟨t, by omega⟩ ⟨k, hk⟩ ⟨j, hj⟩ hb
  simpa [Fin.ext_iff] using this
def allocB (ts : List Nat) : Option Nat := (ts.findIdx? fitB).or (ts.findIdx? fun t => decide (t = 0))
def bitAt (ts : List Nat) (b k : Nat) : Bool := (ts.getD b 0).testBit k
def setAt (ts : List Nat) (b k : Nat) : List Nat := ts.set b (ts.getD b 0 + 2 ^ k)
def clrAt (ts : List Nat) (b k : Nat) : List Nat := ts.set b (ts.getD b 0 - 2 ^ k)
structure TsI (ts : List Nat) : Prop where
  len : ts.length = 16
  le : ∀ t ∈ ts, t ≤ 255
section
variable {ts : List Nat} {b k j c : Nat}
theorem TsI.at_ (h : TsI ts) (b : Nat) : ts.getD b 0 ≤ 255 := by
  rw [List.getD_eq_getElem?_getD]
  cases hb : ts[b]? with
  | none => simp
  | some t => exact h.le t (List.mem_of_getElem? hb)
theorem getD_set {l : List Nat} {i j v : Nat} (hi : i < l.length) : (l.set i v).getD j 0 = if i = j then v else l.getD j 0 := by
  rw [List.getD_eq_getElem?_getD, List.getD_eq_getElem?_getD, List.getElem?_set]
  by_cases h : i = j
  · subst h
    rw [if_pos rfl, if_pos hi, if_pos rfl]
    rfl
  · rw [if_neg h, if_neg h]
theorem sum_set : ∀ {l : List Nat} {i v : Nat}, i < l.length → ((l.set i v).map pop).sum + pop (l.getD i 0) = (l.map pop).sum + pop v
  | [], i, v, h => by simp at h
  | a :: l, 0, v, h => by simp; omega
  | a :: l, i + 1, v, h => by
    have := sum_set (l := l) (i := i) (v := v) (by simpa using h)
    simp only [List.set_cons_succ, List.map_cons, List.sum_cons, List.getD_cons_succ]
    omega
theorem TsI.set (h : TsI ts) (hb : b < 16) (hk : k < 8) (hf : bitAt ts b k = false) : TsI (setAt ts b k) ∧ ((setAt ts b k).map pop).sum = (ts.map pop).sum + 1 ∧ (∀ c j, j < 8 → bitAt (setAt ts b k) c j = (decide (c = b ∧ j = k) || bitAt ts c j)) := by
  have hl := h.len
  have ht := h.at_ b
  obtain ⟨e1, e2, e3, e4⟩ := set_eq ht hk hf
  have hs := sum_set (l := ts) (i := b) (v := ts.getD b 0 + 2 ^ k) (by omega)
  refine ⟨⟨by unfold setAt; rw [List.length_set]; exact hl, fun t hm => ?_⟩, by unfold setAt; omega, fun c j hj => ?_⟩
  · rcases List.mem_or_eq_of_mem_set hm with h' | h'
    · exact h.le t h'
    · omega
  · unfold bitAt setAt
    rw [getD_set (by omega)]
    by_cases hc : b = c
    · subst hc
      rw [if_pos rfl, setbit_eq ht hk hj hf]
      simp
    · rw [if_neg hc]
      simp [show ¬ c = b from fun e => hc e.symm]
theorem TsI.clr (h : TsI ts) (hb : b < 16) (hk : k < 8) (hf : bitAt ts b k = true) : TsI (clrAt ts b k) ∧ ((clrAt ts b k).map pop).sum + 1 = (ts.map pop).sum ∧ (∀ c j, j < 8 → bitAt (clrAt ts b k) c j = (!decide (c = b ∧ j = k) && bitAt ts c j)) := by
  have hl := h.len
  have ht := h.at_ b
  obtain ⟨e1, e4⟩ := clr_eq ht hk hf
  have hs := sum_set (l := ts) (i := b) (v := ts.getD b 0 - 2 ^ k) (by omega)
  refine ⟨⟨by unfold clrAt; rw [List.length_set]; exact hl, fun t hm => ?_⟩, by unfold clrAt; omega, fun c j hj => ?_⟩
  · rcases List.mem_or_eq_of_mem_set hm with h' | h'
    · exact h.le t h'
    · rw [h']
      exact Nat.le_trans (Nat.sub_le _ _) ht
  · unfold bitAt clrAt
    rw [getD_set (by omega)]
    by_cases hc : b = c
    · subst hc
      rw [if_pos rfl, clrbit_eq ht hk hj hf]
      simp
    · rw [if_neg hc]
      simp [show ¬ c = b from fun e => hc e.symm]
theorem sum_full : ∀ {l : List Nat}, (∀ t ∈ l, t = 255) → (l.map pop).sum = l.length * 8
  | [], _ => rfl
  | a :: l, h => by
    have := sum_full (l := l) fun t ht => h t (by simp [ht])
    have ha := h a (by simp)
    subst ha
    simp only [List.map_cons, List.sum_cons, List.length_cons, pop_full]
    omega
theorem alloc_ok (h : TsI ts) (hp : (ts.map pop).sum < 128) : ∃ b, allocB ts = some b ∧ b < 16 ∧ ts.getD b 0 < 255 := by
  have hl := h.len
  unfold allocB
  cases h1 : ts.findIdx? fitB with
  | some b =>
    obtain ⟨hlt, hf, _⟩ := List.findIdx?_eq_some_iff_getElem.1 h1
    refine ⟨b, rfl, by omega, ?_⟩
    unfold fitB at hf
    simp at hf
    have := h.le _ (List.getElem_mem hlt)
    rw [List.getD_eq_getElem?_getD, List.getElem?_eq_getElem hlt]
    simp only [Option.getD_some]
    omega
  | none =>
    cases h2 : ts.findIdx? (fun t => decide (t = 0)) with
    | some b =>
      obtain ⟨hlt, hf, _⟩ := List.findIdx?_eq_some_iff_getElem.1 h2
      refine ⟨b, rfl, by omega, ?_⟩
      simp at hf
      rw [List.getD_eq_getElem?_getD, List.getElem?_eq_getElem hlt]
      simp only [Option.getD_some]
      omega
    | none =>
      exfalso
      rw [List.findIdx?_eq_none_iff] at h1 h2
      have : ∀ t ∈ ts, t = 255 := fun t ht => by
        have a1 := h1 t ht
        have a2 := h2 t ht
        unfold fitB at a1
        simp at a1 a2
        exact a1 a2
      have := sum_full this
      omega
end
end Go.Proofs.YtnjmkhhaodgpbaaGreatX
namespace Go.Proofs.YtnjmkhhaodgpbaaGreatX
open Go.RowKit
set_option maxRecDepth 100000
theorem bc_eqt' {a b : Int} {A B : Prop} (h : a = b) (x : A) : bcase (a == b) A B := bc_eq (fun _ => x) (fun hn => absurd h hn)
theorem Blk.off1 {w w' : World} {cs : List Value} {e : TypeId} {x y : Nat} (b : Blk w x cs e) (hne : x ≠ y) (f : Fr [y] w w') : Blk w' x cs e := b.keep f (by simpa using hne)
theorem Own.off1 {e : TypeId} {z n c x : Nat} {p : Option Addr} {xs : List Value} {w w' : World} (o : Own e z w p n c xs) (hx : x ∉ fbl p) (f : Fr [x] w w') : Own e z w' p n c xs := o.keep f (fun k hk hm => hx (by simp at hm; rwa [← hm]))
section
variable {w w' : World} {g n c i : Nat} {e : TypeId} {α : Type} {f : α → Value} {l : List α} {v : α}
theorem row_cell (o : Own e 1 w (some (at0 g 0)) n c (l.map f)) (hi : l[i]? = some v) : w.cell? ((at0 g 0).add (i * 1)) = some (f v) := by
  obtain ⟨a, ha, hv⟩ := o.cells i (f v) (by rw [List.getElem?_map, hi]; rfl)
  injection ha with ha
  subst ha
  rw [Nat.mul_one]
  exact hv
theorem row_st (o : Own e 1 w (some (at0 g 0)) n c (l.map f)) (hi : i < l.length) (v : α) {K : World → Prop} (hK : ∀ w', Own e 1 w' (some (at0 g 0)) n c ((l.set i v).map f) → Fr [g] w w' → K w') : stK w ((at0 g 0).add (i * 1)) (f v) K := by
  rw [Nat.mul_one]
  refine ⟨o.storeOk (by simpa using hi), hK _ ?_ (Fr.setCell (by rw [add_block]; simp [at0]) _)⟩
  have := o.set (i := i) (by simpa using hi) (f v)
  rwa [List.map_set]
end
theorem make1 {T E : TypeId} {i : TypeInfo} {z : Value} {w : World} {n : Nat} {K : QT} (hu : Tryz.prog.underlying T = some (.slice E)) (hi : Tryz.prog.info? E = some i) (hz : i.zero = some z) (hsz : i.size = 1) (hby : i.bytes ≤ 100) (hc : ∀ n, (madeCells z.cells (n * 1)).toList = List.replicate n z) (hn : n ≤ 100000)
    (hK : ∀ g w', Own E 1 w' (some (at0 g 0)) n n (List.replicate n z) → Fr [] w w' → w.heap.size ≤ g → K (.slice (some (at0 g 0)) n n) w') :
    RunR Tryz.prog (Instr.makeSlice T (.int .i64 (n : Int)) (.int .i64 (n : Int))) w K := by
  have hmx : n ≤ maxLen := by simp only [maxLen]; omega
  have hb : n * i.bytes ≤ 100000 * 100 := Nat.mul_le_mul hn hby
  have hb' : i.bytes * n ≤ 100000 * 100 := by rw [Nat.mul_comm]; exact hb
  obtain ⟨w', hr, ho, hg⟩ := run_make_full (P := Tryz.prog) w 0 T E i z 1 hu hi hz hsz .i64 .i64 n (by omega) hmx (Nat.zero_le _)
  refine ⟨_, _, hr, hK _ w' ?_ (Fr.grown hg (fun k hk => by cases hk)) (Nat.le_refl _)⟩
  have := ho
  rw [hc n] at this
  exact this
theorem set_same' {α : Type} {l : List α} {i : Nat} {v : α} (h : l[i]? = some v) : l.set i v = l := by
  obtain ⟨hl, e⟩ := List.getElem?_eq_some_iff.1 h
  rw [← e, List.set_getElem_self]
def iv (t : Int) : Value := .int .i64 t
def uv (t : Nat) : Value := .int .u16 (t : Int)
structure AR (w : World) (a cb tb : Nat) (cs : List Int) (ts : List Nat) : Prop where
  blk : Blk w a [.slice (some (at0 cb 0)) 16 16, .slice (some (at0 tb 0)) 16 16] 135
  crow : Own 3 1 w (some (at0 cb 0)) 16 16 (cs.map iv)
  trow : Own 140 1 w (some (at0 tb 0)) 16 16 (ts.map uv)
  ac : a ≠ cb
  at_ : a ≠ tb
  ct : cb ≠ tb
section
variable {w w' W : World} {Q : QT} {a cb tb b k : Nat} {cs : List Int} {ts : List Nat} {S : List Nat}
theorem AR.keep (r : AR w a cb tb cs ts) (f : Fr S w w') (h1 : a ∉ S) (h2 : cb ∉ S) (h3 : tb ∉ S) : AR w' a cb tb cs ts :=
  ⟨r.blk.keep f h1, r.crow.keep f (fun x hx => by simp [fbl, at0] at hx; rwa [hx]), r.trow.keep f (fun x hx => by simp [fbl, at0] at hx; rwa [hx]), r.ac, r.at_, r.ct⟩
theorem AR.keep' (r : AR w a cb tb cs ts) (f : Fr [] w w') : AR w' a cb tb cs ts := r.keep f (by simp) (by simp) (by simp)
theorem AR.cl (r : AR w a cb tb cs ts) : cs.length = 16 ∧ ts.length = 16 := ⟨by have := r.crow.len; simpa using this, by have := r.trow.len; simpa using this⟩
theorem AR.c0 (r : AR w a cb tb cs ts) : w.cell? ((at0 a 0).add 0) = some (.slice (some (at0 cb 0)) 16 16) := r.blk.cat 0 _ rfl
theorem AR.c1 (r : AR w a cb tb cs ts) : w.cell? ((at0 a 0).add 1) = some (.slice (some (at0 tb 0)) 16 16) := r.blk.cat 1 _ rfl
theorem AR.lt (r : AR w a cb tb cs ts) : a < w.heap.size ∧ cb < w.heap.size ∧ tb < w.heap.size := ⟨r.blk.lt, r.crow.lt cb (by simp [fbl, at0]), r.trow.lt tb (by simp [fbl, at0])⟩
theorem AR.cv (r : AR w a cb tb cs ts) (hb : b < 16) : w.cell? ((at0 cb 0).add (Int.toNat (b : Int) * 1)) = some (.int .i64 (cs.getD b 0)) := by
  have hl := r.cl.1
  have hg := List.getElem?_eq_getElem (show b < cs.length by omega)
  rw [Int.toNat_natCast, List.getD_eq_getElem?_getD, hg, Option.getD_some]
  exact row_cell (f := iv) r.crow hg
theorem AR.tv (r : AR w a cb tb cs ts) (hb : b < 16) : w.cell? ((at0 tb 0).add (Int.toNat (b : Int) * 1)) = some (.int .u16 ((ts.getD b 0 : Nat) : Int)) := by
  have hl := r.cl.2
  have hg := List.getElem?_eq_getElem (show b < ts.length by omega)
  rw [Int.toNat_natCast, List.getD_eq_getElem?_getD, hg, Option.getD_some]
  exact row_cell (f := uv) r.trow hg
theorem AR.stC (r : AR w a cb tb cs ts) (hb : b < 16) (v : Int) {K : World → Prop} (hK : ∀ w', AR w' a cb tb (cs.set b v) ts → Fr [cb] w w' → K w') : stK w ((at0 cb 0).add (Int.toNat (b : Int) * 1)) (.int .i64 v) K := by
  have hl := r.cl.1
  rw [Int.toNat_natCast]
  exact row_st r.crow (by omega) v fun w' o f => hK w' ⟨r.blk.off1 r.ac f, o, r.trow.off1 (by simp [fbl, at0]; exact r.ct) f, r.ac, r.at_, r.ct⟩ f
theorem AR.stT (r : AR w a cb tb cs ts) (hb : b < 16) (v : Nat) {K : World → Prop} (hK : ∀ w', AR w' a cb tb cs (ts.set b v) → Fr [tb] w w' → K w') : stK w ((at0 tb 0).add (Int.toNat (b : Int) * 1)) (.int .u16 (v : Int)) K := by
  have hl := r.cl.2
  rw [Int.toNat_natCast]
  exact row_st r.trow (by omega) v fun w' o f => hK w' ⟨r.blk.off1 r.at_ f, r.crow.off1 (by simp [fbl, at0]; exact fun e => r.ct e.symm) f, o, r.ac, r.at_, r.ct⟩ f
theorem class2_spec (hQ : Q (.int .i64 2) w) : CallR Tryz.prog 83 #[.int .i64 2] w Q := by
  apply X83.sound
  unfold X83.f
  refine bc_neg (by omega) (bc_neg (by omega) ⟨2, ?_⟩)
  rw [X83.l0]
  refine bc_pos (by omega) ⟨by omega, ?_⟩
  rw [show iShl .i64 1 1 = 2 by decide +kernel, X83.l0]
  exact bc_neg (by omega) hQ
theorem full2_spec (hQ : Q (.int .u16 255) w) : CallR Tryz.prog 84 #[.int .i64 2] w Q := by
  apply X84.sound
  unfold X84.f
  refine ⟨by omega, by decide +kernel, ?_⟩
  rw [show IntKind.u16.wrap (iShl .u16 1 (IntKind.i64.wrap (Int.tdiv 16 2)) - 1) = 255 by decide +kernel]
  exact hQ
theorem take_l0 (r : AR w a cb tb cs ts) (hb : b < 16) (hc : cs.getD b 0 = 2) (ht : ts.getD b 0 < 255) (hQ : ∀ w', AR w' a cb tb cs (setAt ts b (lz (ts.getD b 0))) → Fr [tb] w w' → Q (.int .i64 (16 * (b : Int) + 2 * (lz (ts.getD b 0) : Int))) w') :
    ∀ (f k : Nat), lz (ts.getD b 0) - k < f → k ≤ lz (ts.getD b 0) → X85.l0 Q f (some (at0 a 0)) (b : Int) (k : Int) w
  | 0, k, hf, _ => absurd hf (Nat.not_lt_zero _)
  | f + 1, k, hf, hk => by
    obtain ⟨l1, l2, l3⟩ := lz_lt ht
    rw [X85.l0]
    simp only [optP_some]
    refine ld_sl r.c1 ⟨⟨by omega, by omega⟩, ld_int (r.tv hb) ⟨by omega, ?_⟩⟩
    rw [bit_eq (by omega) (by omega)]
    refine bc_bool (fun h => ?_) (fun h => ?_)
    · have hlt : k < lz (ts.getD b 0) := by
        by_cases he : k = lz (ts.getD b 0)
        · rw [he, l2] at h; cases h
        · omega
      rw [i64w ((k : Int) + 1) (by omega) (by omega), show (k : Int) + 1 = ((k + 1 : Nat) : Int) by omega]
      exact take_l0 r hb hc ht hQ f (k + 1) (by omega) (by omega)
    · have he : k = lz (ts.getD b 0) := by
        by_cases hlt : k < lz (ts.getD b 0)
        · rw [l3 k hlt] at h; cases h
        · omega
      subst he
      refine drawn fun w1 f1 _ => ?_
      have r1 := r.keep' f1
      refine ld_sl r1.c1 ⟨⟨by omega, by omega⟩, ld_int (r1.tv hb) ⟨by omega, ⟨by omega, by omega⟩, ?_⟩⟩
      rw [(set_eq (by omega) l1 l2).1]
      refine opt_some rfl (r1.stT hb _ fun w2 r2 f2 => ?_)
      refine ld_sl r2.c0 ⟨⟨by omega, by omega⟩, ld_int (r2.cv hb) ?_⟩
      rw [hc, i64w ((b : Int) * 16) (by omega) (by omega), i64w (((lz (ts.getD b 0) : Nat) : Int) * 2) (by omega) (by omega), i64w _ (by omega) (by omega), show (b : Int) * 16 + ((lz (ts.getD b 0) : Nat) : Int) * 2 = 16 * (b : Int) + 2 * ((lz (ts.getD b 0) : Nat) : Int) by omega]
      exact hQ w2 r2 (f1.any.tr f2)
theorem take_spec (r : AR w a cb tb cs ts) (hb : b < 16) (hc : cs.getD b 0 = 2) (ht : ts.getD b 0 < 255) (hQ : ∀ w', AR w' a cb tb cs (setAt ts b (lz (ts.getD b 0))) → Fr [tb] w w' → Q (.int .i64 (16 * (b : Int) + 2 * (lz (ts.getD b 0) : Int))) w') :
    CallR Tryz.prog 85 #[.pointer (some (at0 a 0)), .int .i64 (b : Int)] w Q := by
  apply X85.sound
  unfold X85.f
  exact ⟨lz (ts.getD b 0) + 1, take_l0 r hb hc ht hQ _ 0 (by omega) (by omega)⟩
theorem cls_set (T : TsI ts) (hb : b < 16) (hk : k < 8) (hf : bitAt ts b k = false) : (setAt ts b k).map clsB = (ts.map clsB).set b 2 := by
  unfold setAt
  rw [List.map_set]
  have := (set_eq (T.at_ b) hk hf).2.2.1
  unfold clsB at *
  rw [if_neg this]
theorem cls_get (T : TsI ts) (hb : b < 16) : (ts.map clsB).getD b 0 = clsB (ts.getD b 0) := by
  have hl := T.len
  have hg := List.getElem?_eq_getElem (show b < ts.length by omega)
  rw [List.getD_eq_getElem?_getD, List.getElem?_map, hg, List.getD_eq_getElem?_getD, hg]
  rfl
def freeOf (ts : List Nat) (i : Nat) : Int := match (ts.take i).findIdx? fun t => decide (t = 0) with
  | some j => (j : Int)
  | none => -1
theorem take_succ' {ts : List Nat} {i : Nat} (hi : i < ts.length) : ts.take (i + 1) = ts.take i ++ [ts.getD i 0] := by
  rw [List.getD_eq_getElem?_getD, List.getElem?_eq_getElem hi]
  exact List.take_succ_eq_append_getElem hi
theorem freeOf_succ {ts : List Nat} {i : Nat} (hi : i < ts.length) : freeOf ts (i + 1) = if freeOf ts i < 0 ∧ ts.getD i 0 = 0 then (i : Int) else freeOf ts i := by
  unfold freeOf
  rw [take_succ' hi, List.findIdx?_append]
  cases h : (ts.take i).findIdx? (fun t => decide (t = 0)) with
  | some j => simp only [Option.some_or]; rw [if_neg (by omega)]
  | none =>
    simp only [Option.none_or, List.findIdx?_singleton]
    have hl : (ts.take i).length = i := by rw [List.length_take]; omega
    by_cases h0 : ts.getD i 0 = 0
    · rw [if_pos (And.intro (by decide) h0), if_pos (decide_eq_true h0)]
      simp [hl]
    · rw [if_neg (show ¬ ((-1 : Int) < 0 ∧ ts.getD i 0 = 0) from fun hh => h0 hh.2), if_neg (show ¬ decide (ts.getD i 0 = 0) = true from fun hh => h0 (of_decide_eq_true hh))]
      rfl
theorem fit_none_succ {ts : List Nat} {i : Nat} (hi : i < ts.length) (h : (ts.take i).findIdx? fitB = none) (hf : fitB (ts.getD i 0) = false) : (ts.take (i + 1)).findIdx? fitB = none := by
  rw [take_succ' hi, List.findIdx?_append, h, Option.none_or, List.findIdx?_singleton, hf]
  rfl
theorem fit_here {ts : List Nat} {i : Nat} (hi : i < ts.length) (h : (ts.take i).findIdx? fitB = none) (hf : fitB (ts.getD i 0) = true) : allocB ts = some i := by
  have e : ts.findIdx? fitB = some i := by
    rw [← List.take_append_drop i ts, List.findIdx?_append, h]
    have hl : (ts.take i).length = i := by rw [List.length_take]; omega
    rw [List.drop_eq_getElem_cons hi, List.findIdx?_cons]
    rw [List.getD_eq_getElem?_getD, List.getElem?_eq_getElem hi] at hf
    simp only [Option.getD_some] at hf
    simp [hf, hl]
  unfold allocB
  rw [e]
  rfl
theorem alloc_l0 (r : AR w a cb tb (ts.map clsB) ts) (T : TsI ts) (hp : (ts.map pop).sum < 128)
    (hQ : ∀ b w', allocB ts = some b → b < 16 → ts.getD b 0 < 255 → AR w' a cb tb ((setAt ts b (lz (ts.getD b 0))).map clsB) (setAt ts b (lz (ts.getD b 0))) → Fr [cb, tb] w w' → Q (.tuple #[.int .i64 (16 * (b : Int) + 2 * (lz (ts.getD b 0) : Int)), .int .i64 0]) w') :
    ∀ (f i : Nat) (w1 : World), 16 - i < f → i ≤ 16 → (ts.take i).findIdx? fitB = none → Fr [] w w1 → X60.l0 Q f (some (at0 a 0)) 2 (freeOf ts i) (some (at0 cb 0)) 16 16 16 (i : Int) w1
  | 0, i, w1, hf, _, _, _ => absurd hf (Nat.not_lt_zero _)
  | f + 1, i, w1, hf, hi, hn, F => by
    have hl := T.len
    have r1 := r.keep' F
    rw [X60.l0]
    simp only [optP_some]
    refine bc_dec (fun h1 => ⟨⟨by omega, by omega⟩, ld_int (r1.cv (by omega)) (drawn fun w3 f3 _ => ?_)⟩) (fun h1 => ?_)
    · have r3 := r1.keep' f3
      have F3 := F.tr f3
      have hi16 : i < 16 := by omega
      rw [cls_get T hi16]
      have htb := T.at_ i
      have e1 : IntKind.wrap .i64 ((i : Int) + 1) = ((i + 1 : Nat) : Int) := by rw [i64w ((i : Int) + 1) (by omega) (by omega)]; omega
      rw [e1]
      by_cases h0 : ts.getD i 0 = 0
      · have hc0 : clsB (ts.getD i 0) = 0 := by unfold clsB; rw [if_pos h0]
        rw [hc0]
        have hnf : fitB (ts.getD i 0) = false := by unfold fitB; rw [h0]; rfl
        refine bc_eq (fun e => by cases e) (fun _ => bc_eqt' rfl (bc_dec (fun hneg => ?_) (fun hneg => ?_)))
        · have := alloc_l0 r T hp hQ f (i + 1) w3 (by omega) (by omega) (fit_none_succ (by omega) hn hnf) F3
          rw [freeOf_succ (by omega), if_pos ⟨hneg, h0⟩] at this
          exact this
        · have := alloc_l0 r T hp hQ f (i + 1) w3 (by omega) (by omega) (fit_none_succ (by omega) hn hnf) F3
          rw [freeOf_succ (by omega), if_neg (fun hh => hneg hh.1)] at this
          exact this
      · have hc2 : clsB (ts.getD i 0) = 2 := by unfold clsB; rw [if_neg h0]
        rw [hc2]
        refine bc_eqt' rfl (ld_sl r3.c1 ⟨⟨by omega, by omega⟩, ld_int (r3.tv hi16) (full2_spec ⟨_, rfl, ⟨r3.tv hi16, r3.tv hi16⟩, ⟨r3.c1, r3.c1⟩, bc_ne (fun hne => ?_) (fun heq => ?_)⟩)⟩)
        · have h255 : ts.getD i 0 ≠ 255 := fun e => hne (by rw [e]; rfl)
          have hfit : fitB (ts.getD i 0) = true := by unfold fitB; rw [decide_eq_true h0, decide_eq_true h255]; rfl
          refine take_spec r3 hi16 (by rw [cls_get T hi16, hc2]) (by omega) fun w4 r4 f4 => ⟨_, rfl, ?_⟩
          have hz := lz_lt (show ts.getD i 0 < 255 by omega)
          have ecs : (setAt ts i (lz (ts.getD i 0))).map clsB = ts.map clsB := by
            rw [cls_set T hi16 hz.1 hz.2.1]
            have hg := List.getElem?_eq_getElem (show i < (ts.map clsB).length by simp; omega)
            have : (ts.map clsB)[i]'(by simp; omega) = 2 := by
              have := cls_get T hi16
              rw [List.getD_eq_getElem?_getD, hg, hc2] at this
              exact this
            exact set_same' (by rw [hg, this])
          refine hQ i w4 (fit_here (by omega) hn hfit) hi16 (by omega) (by rw [ecs]; exact r4) ((F3.any.tr (f4.mono fun x hx => by simp at hx; simp [hx])))
        · have h255 : ts.getD i 0 = 255 := by
            have : ((ts.getD i 0 : Nat) : Int) = 255 := heq
            omega
          have hnf : fitB (ts.getD i 0) = false := by unfold fitB; rw [h255]; rfl
          refine bc_eq (fun e => by cases e) (fun _ => ?_)
          have := alloc_l0 r T hp hQ f (i + 1) w3 (by omega) (by omega) (fit_none_succ (by omega) hn hnf) F3
          rw [freeOf_succ (by omega), if_neg (fun hh => h0 hh.2)] at this
          exact this
    · have hi16 : i = 16 := by omega
      subst hi16
      have htk : ts.take 16 = ts := List.take_of_length_le (by omega)
      rw [htk] at hn
      obtain ⟨b, hb, hb16, hbt⟩ := alloc_ok T hp
      have hfo : freeOf ts 16 = (b : Int) ∧ ts.getD b 0 = 0 := by
        unfold freeOf
        unfold allocB at hb
        rw [hn, Option.none_or] at hb
        rw [htk, hb]
        obtain ⟨hlt, hz, _⟩ := List.findIdx?_eq_some_iff_getElem.1 hb
        refine ⟨rfl, ?_⟩
        rw [List.getD_eq_getElem?_getD, List.getElem?_eq_getElem hlt]
        simpa using hz
      rw [hfo.1]
      refine bc_neg (by omega) (ld_sl r1.c0 ⟨⟨by omega, by omega⟩, opt_some rfl (r1.stC hb16 2 fun w2 r2 f2 => ?_)⟩)
      have hz := lz_lt hbt
      refine take_spec r2 hb16 (by rw [List.getD_eq_getElem?_getD, List.getElem?_set_self (by simp; omega)]; rfl) hbt fun w4 r4 f4 => ⟨_, rfl, ?_⟩
      refine hQ b w4 hb hb16 hbt (by rw [cls_set T hb16 hz.1 hz.2.1]; exact r4) ((F.any.tr (f2.mono fun x hx => by simp at hx; simp [hx])).tr (f4.mono fun x hx => by simp at hx; simp [hx]))
theorem alloc_spec (r : AR w a cb tb (ts.map clsB) ts) (T : TsI ts) (hp : (ts.map pop).sum < 128)
    (hQ : ∀ b w', allocB ts = some b → b < 16 → ts.getD b 0 < 255 → AR w' a cb tb ((setAt ts b (lz (ts.getD b 0))).map clsB) (setAt ts b (lz (ts.getD b 0))) → Fr [cb, tb] w w' → Q (.tuple #[.int .i64 (16 * (b : Int) + 2 * (lz (ts.getD b 0) : Int)), .int .i64 0]) w') :
    CallR Tryz.prog 60 #[.pointer (some (at0 a 0)), .int .i64 2] w Q := by
  apply X60.sound
  unfold X60.f
  simp only [optP_some]
  refine class2_spec ⟨_, rfl, bc_eq (fun e => by cases e) (fun _ => ld_sl r.c0 ⟨17, ?_⟩)⟩
  have := alloc_l0 r T hp hQ 17 0 w (by omega) (by omega) (by simp) (Fr.refl _)
  simpa [freeOf] using this
theorem place_spec (r : AR w a cb tb (ts.map clsB) ts) (T : TsI ts) (hb : b < 16) (hk : k < 8) (hf : bitAt ts b k = true) (hQ : ∀ w', Fr [] w w' → Q (.tuple #[.int .i64 (b : Int), .int .i64 (k : Int), .bool true]) w') :
    CallR Tryz.prog 97 #[.pointer (some (at0 a 0)), .int .i64 (16 * (b : Int) + 2 * (k : Int))] w Q := by
  apply X97.sound
  unfold X97.f
  simp only [optP_some]
  have hne : ts.getD b 0 ≠ 0 := fun e => by
    unfold bitAt at hf
    rw [e] at hf
    simp at hf
  have hc2 : clsB (ts.getD b 0) = 2 := by unfold clsB; rw [if_neg hne]
  have hd : Int.tdiv (16 * (b : Int) + 2 * (k : Int)) 16 = (b : Int) := by rw [Int.tdiv_eq_ediv_of_nonneg (by omega)]; omega
  have hm : Int.tmod (16 * (b : Int) + 2 * (k : Int)) 16 = 2 * (k : Int) := by rw [Int.tmod_eq_emod_of_nonneg (by omega)]; omega
  have hcv := r.cv hb
  rw [cls_get T hb, hc2] at hcv
  refine bc_neg (by omega) (ld_sl r.c0 (bc_neg (by rw [i64w (((16 : Nat) : Int) * 16) (by omega) (by omega)]; omega) ?_))
  unfold X97.j1
  simp only [optP_some]
  rw [hd, hm, i64w (b : Int) (by omega) (by omega)]
  refine ⟨by omega, by omega, ld_sl r.c0 ⟨⟨by omega, by omega⟩, ld_int hcv (bc_eq (fun e => by cases e) (fun _ => ld_sl r.c0 ⟨⟨by omega, by omega⟩, ld_int hcv ⟨by omega, ?_⟩⟩))⟩⟩
  rw [show Int.tmod (2 * (k : Int)) 2 = 0 by rw [Int.tmod_eq_emod_of_nonneg (by omega)]; omega]
  refine bc_ne (fun e => absurd rfl e) (fun _ => ?_)
  unfold X97.j0
  simp only [optP_some]
  have e2 : IntKind.wrap .i64 (Int.tdiv (2 * (k : Int)) 2) = (k : Int) := by rw [Int.tdiv_eq_ediv_of_nonneg (by omega), i64w _ (by omega) (by omega)]; omega
  refine ld_sl r.c0 ⟨⟨by omega, by omega⟩, ld_int hcv ⟨by omega, drawn fun w5 f5 _ => ?_⟩⟩
  have r5 := r.keep' f5
  rw [e2]
  refine ld_sl r5.c1 ⟨⟨by omega, by omega⟩, ld_int (r5.tv hb) ⟨by omega, ?_⟩⟩
  rw [bit_eq (T.at_ b) hk]
  have := hQ w5 f5
  unfold bitAt at hf
  rw [hf]
  exact this
theorem cls_clr (T : TsI ts) (hb : b < 16) : (clrAt ts b k).map clsB = (ts.map clsB).set b (clsB (ts.getD b 0 - 2 ^ k)) := by
  unfold clrAt
  rw [List.map_set]
theorem free_spec (r : AR w a cb tb (ts.map clsB) ts) (T : TsI ts) (hb : b < 16) (hk : k < 8) (hf : bitAt ts b k = true) (hQ : ∀ w', AR w' a cb tb ((clrAt ts b k).map clsB) (clrAt ts b k) → Fr [cb, tb] w w' → Q (.int .i64 0) w') :
    CallR Tryz.prog 77 #[.pointer (some (at0 a 0)), .int .i64 (16 * (b : Int) + 2 * (k : Int))] w Q := by
  apply X77.sound
  unfold X77.f
  simp only [optP_some]
  have hl := T.len
  have hne : ts.getD b 0 ≠ 0 := fun e => by
    unfold bitAt at hf
    rw [e] at hf
    simp at hf
  have hc2 : clsB (ts.getD b 0) = 2 := by unfold clsB; rw [if_neg hne]
  refine place_spec r T hb hk hf fun w2 f2 => ⟨_, _, _, rfl, bc_bool (fun e => by cases e) (fun _ => drawn fun w6 f6 _ => ?_)⟩
  have F6 := f2.tr f6
  have r6 := r.keep' F6
  refine ld_sl r6.c1 ⟨⟨by omega, by omega⟩, ld_int (r6.tv hb) ⟨by omega, ⟨by omega, by omega⟩, ?_⟩⟩
  rw [(clr_eq (T.at_ b) hk hf).1]
  refine opt_some rfl (r6.stT hb _ fun w12 r12 f12 => ?_)
  have e12 : ts.set b (ts.getD b 0 - 2 ^ k) = clrAt ts b k := rfl
  rw [e12] at r12
  have ev : (clrAt ts b k).getD b 0 = ts.getD b 0 - 2 ^ k := by unfold clrAt; rw [getD_set (by omega), if_pos rfl]
  have htv := r12.tv hb
  rw [ev] at htv
  have F12 : Fr [cb, tb] w w12 := F6.any.tr (f12.mono fun x hx => by simp at hx; simp [hx])
  refine ld_sl r12.c1 ⟨⟨by omega, by omega⟩, ld_int htv (bc_eq (fun h0 => ?_) (fun h0 => ?_))⟩
  · have h0' : ts.getD b 0 - 2 ^ k = 0 := by omega
    refine ld_sl r12.c0 ⟨⟨by omega, by omega⟩, opt_some rfl (r12.stC hb 0 fun w20 r20 f20 => ?_)⟩
    refine hQ w20 ?_ (F12.tr (f20.mono fun x hx => by simp at hx; simp [hx]))
    rw [cls_clr T hb, h0']
    exact r20
  · have h0' : ts.getD b 0 - 2 ^ k ≠ 0 := fun e => h0 (by rw [e]; rfl)
    refine hQ w12 ?_ F12
    rw [cls_clr T hb]
    have e2 : clsB (ts.getD b 0 - 2 ^ k) = 2 := by unfold clsB; rw [if_neg h0']
    rw [e2]
    have hg := List.getElem?_eq_getElem (show b < (ts.map clsB).length by simp; omega)
    have : (ts.map clsB)[b]'(by simp; omega) = 2 := by
      have := cls_get T hb
      rw [List.getD_eq_getElem?_getD, hg, hc2] at this
      exact this
    rw [set_same' (by rw [hg, this])]
    exact r12
theorem newArena_spec (hQ : ∀ a cb tb w', AR w' a cb tb ((List.replicate 16 0).map clsB) (List.replicate 16 0) → Fr [] w w' → w.heap.size ≤ a → w.heap.size ≤ cb → w.heap.size ≤ tb → Q (.tuple #[.pointer (some (at0 a 0)), .int .i64 0]) w') :
    CallR Tryz.prog 57 #[.int .i64 256] w Q := by
  apply X57.sound
  unfold X57.f
  have e16 : IntKind.wrap .i64 (Int.tdiv 256 16) = ((16 : Nat) : Int) := by decide +kernel
  rw [e16, show Int.tmod 256 16 = 0 by decide +kernel]
  have ei : (List.replicate 16 (Value.int .i64 0)) = ((List.replicate 16 0).map clsB).map iv := by rw [List.map_replicate, List.map_replicate]; rfl
  have eu : (List.replicate 16 (Value.int .u16 0)) = (List.replicate 16 0).map uv := by rw [List.map_replicate]; rfl
  refine bc_neg (by omega) (bc_neg (by omega) ⟨by omega, bc_ne (fun e => absurd rfl e) (fun _ => ⟨by omega, drawn fun w1 f1 _ => ⟨?_, ?_⟩⟩)⟩)
  · refine make1 (E := 3) (z := .int .i64 0) (by kernel_rfl) (i := Tryz.t3) (by kernel_rfl) (by kernel_rfl) (by kernel_rfl) (by decide +kernel) (fun n => by rw [Nat.mul_one]; exact toList_madeCells_one _ _) (by omega) fun g3 w3 o3 f3 h3 => ⟨_, _, _, rfl, ?_⟩
    refine make1 (E := 140) (z := .int .u16 0) (by kernel_rfl) (i := Tryz.t140) (by kernel_rfl) (by kernel_rfl) (by kernel_rfl) (by decide +kernel) (fun n => by rw [Nat.mul_one]; exact toList_madeCells_one _ _) (by omega) fun g6 w6 o6 f6 h6 => ⟨_, _, _, rfl, newB fun g8 w9 b9 f9 h9 => ?_⟩
    have l3 := o3.lt g3 (by simp [fbl, at0])
    have l6 := o6.lt g6 (by simp [fbl, at0])
    have z1 := f1.size
    have z3 := f3.size
    have z6 := f6.size
    refine hQ g8 g3 g6 w9 ⟨b9, by rw [← ei]; exact o3.keep' (f6.tr f9), by rw [← eu]; exact o6.keep' f9, by omega, by omega, by omega⟩ (f1.tr (f3.tr (f6.tr f9))) (by omega) (by omega) (by omega)
  · refine make1 (E := 140) (z := .int .u16 0) (by kernel_rfl) (i := Tryz.t140) (by kernel_rfl) (by kernel_rfl) (by kernel_rfl) (by decide +kernel) (fun n => by rw [Nat.mul_one]; exact toList_madeCells_one _ _) (by omega) fun g6 w3 o6 f3 h3 => ⟨_, _, _, rfl, ?_⟩
    refine make1 (E := 3) (z := .int .i64 0) (by kernel_rfl) (i := Tryz.t3) (by kernel_rfl) (by kernel_rfl) (by kernel_rfl) (by decide +kernel) (fun n => by rw [Nat.mul_one]; exact toList_madeCells_one _ _) (by omega) fun g3 w6 o3 f6 h6 => ⟨_, _, _, rfl, newB fun g8 w9 b9 f9 h9 => ?_⟩
    have l3 := o3.lt g3 (by simp [fbl, at0])
    have l6 := o6.lt g6 (by simp [fbl, at0])
    have z1 := f1.size
    have z3 := f3.size
    have z6 := f6.size
    refine hQ g8 g3 g6 w9 ⟨b9, by rw [← ei]; exact o3.keep' f9, by rw [← eu]; exact o6.keep' (f6.tr f9), by omega, by omega, by omega⟩ (f1.tr (f3.tr (f6.tr f9))) (by omega) (by omega) (by omega)
end
end Go.Proofs.YtnjmkhhaodgpbaaGreatX
namespace Go.Proofs.YtnjmkhhaodgpbaaGreatX
open Go.RowKit
set_option maxRecDepth 100000
theorem rowI : RowT Tryz.prog 38 37 2 16 := ⟨by kernel_rfl, ⟨Tryz.t37, Value.agg #[.int .i64 0, .int .u64 0], by kernel_rfl, by kernel_rfl, by kernel_rfl, by kernel_rfl, by kernel_rfl⟩, by omega⟩
theorem rowU : RowT Tryz.prog 39 22 1 8 := ⟨by kernel_rfl, ⟨Tryz.t22, .int .u64 0, by kernel_rfl, by kernel_rfl, by kernel_rfl, by kernel_rfl, by kernel_rfl⟩, by omega⟩
theorem Blk.ne {w : World} {g g' : Nat} {cs cs' : List Value} {e e' : TypeId} (a : Blk w g cs e) (b : Blk w g' cs' e') (h : e ≠ e') : g ≠ g' := by
  intro hg
  subst hg
  have := a.symm.trans b
  injection this with h1
  injection h1 with h2 h3
  exact h h3
theorem MU.ne {w : World} {b g : Nat} {l : List (Int × Value)} {cs : List Value} {e : TypeId} (a : MU w b l) (c : Blk w g cs e) : b ≠ g := by
  intro hg
  subst hg
  obtain ⟨es, ck, h1, _⟩ := a.ex
  have := h1.symm.trans c
  injection this with h1
  cases h1
theorem Own.nb {w : World} {r n c sz : Nat} {e : TypeId} {xs : List Value} (o : Own e sz w (some (at0 r 0)) n c xs) : ∃ cur, Blk w r cur e := by
  obtain ⟨g, cur, h1, h2, _⟩ := o.blk
  have : r = g := by injection h1
  subst this
  exact ⟨cur, h2⟩
theorem makeN {T E : TypeId} {i : TypeInfo} {z : Value} {w : World} {n Z : Nat} {K : QT} (hu : Tryz.prog.underlying T = some (.slice E)) (hi : Tryz.prog.info? E = some i) (hz : i.zero = some z) (hsz : i.size = Z) (hby : i.bytes ≤ 100) (hn : n ≤ 100000) {xs : List Value} (hx : (madeCells z.cells (n * Z)).toList = xs)
    (hK : ∀ g w', Own E Z w' (some (at0 g 0)) n n xs → Fr [] w w' → w.heap.size ≤ g → K (.slice (some (at0 g 0)) n n) w') :
    RunR Tryz.prog (Instr.makeSlice T (.int .i64 (n : Int)) (.int .i64 (n : Int))) w K := by
  have hmx : n ≤ maxLen := by simp only [maxLen]; omega
  have hb' : i.bytes * n ≤ 100 * 100000 := Nat.mul_le_mul hby hn
  obtain ⟨w', hr, ho, hg⟩ := run_make_full (P := Tryz.prog) w 0 T E i z Z hu hi hz hsz .i64 .i64 n (by omega) hmx (Nat.zero_le _)
  subst hx
  exact ⟨_, _, hr, hK _ w' ho (Fr.grown hg (fun k hk => by cases hk)) (Nat.le_refl _)⟩
theorem pw_ne {α : Type} {R : α → α → Prop} (hs : ∀ a b, R a b → R b a) {l : List α} (h : l.Pairwise R) {a b : α} (ha : a ∈ l) (hb : b ∈ l) (hne : a ≠ b) : R a b := by
  induction l with
  | nil => cases ha
  | cons c l ih =>
    obtain ⟨h1, h2⟩ := List.pairwise_cons.1 h
    rcases List.mem_cons.1 ha with e3 | h3 <;> rcases List.mem_cons.1 hb with e4 | h4
    · exact absurd (e3.trans e4.symm) hne
    · rw [e3]; exact h1 b h4
    · rw [e4]; exact hs _ _ (h1 a h3)
    · exact ih h2 h3 h4
structure OT where
  s : Int
  b : Nat
  k : Nat
  g : Nat
  r : Nat
  v : Nat
  d : Int
def OT.ent (o : OT) : Int × Value := (o.s, .pointer (some (at0 o.g 0)))
def OT.pr (o : OT) : Int × Int := (o.s, o.d)
def OT.cells (o : OT) : List Value := [.int .i64 (16 * (o.b : Int) + 2 * (o.k : Int)), .slice (some (at0 o.r 0)) 1 1, .slice (some (at0 o.v 0)) 0 0, .int .i64 o.d]
abbrev idc0 : List Value := [.int .i64 0, .int .u64 0]
structure OB (w : World) (ts : List Nat) (o : OT) : Prop where
  blk : Blk w o.g o.cells 119
  refs : Own 37 2 w (some (at0 o.r 0)) 1 1 idc0
  vals : Own 22 1 w (some (at0 o.v 0)) 0 0 []
  bl : o.b < 16
  kl : o.k < 8
  bit : bitAt ts o.b o.k = true
def OT.up (s d : Int) (p : OT) : OT := if p.s = s then { p with d := d } else p
theorem OT.up_g {s d : Int} (p : OT) : (p.up s d).g = p.g ∧ (p.up s d).r = p.r ∧ (p.up s d).v = p.v ∧ (p.up s d).b = p.b ∧ (p.up s d).k = p.k ∧ (p.up s d).s = p.s := by
  unfold OT.up
  split <;> simp
structure HB where
  h : Nat
  a : Nat
  cb : Nat
  tb : Nat
  m : Nat
def hasO (l : List (Int × Int)) (s : Int) : Bool := (l.find? fun e => decide (e.1 = s)).isSome
def inO (l : List (Int × Int)) (s : Int) : Int := ((l.find? fun e => decide (e.1 = s)).map (·.2)).getD 0
def setO (l : List (Int × Int)) (s d : Int) : List (Int × Int) := l.map fun e => if e.1 = s then (e.1, d) else e
def freeO (l : List (Int × Int)) (s : Int) : List (Int × Int) := l.filter fun e => decide (e.1 ≠ s)
def hcells (x : HB) (node last : Int) : List Value := [.int .i64 node, .int .i64 12, .int .u64 last, .pointer (some (at0 x.a 0)), .map (some x.m)]
structure PHa (w : World) (x : HB) (fh : List Nat) (node last : Int) (ts : List Nat) (os : List OT) : Prop where
  blk : Blk w x.h (hcells x node last) 103
  ar : AR w x.a x.cb x.tb (ts.map clsB) ts
  tsI : TsI ts
  pops : (ts.map pop).sum = os.length
  map : MU w x.m (os.map OT.ent)
  obs : ∀ o ∈ os, OB w ts o
  gd : os.Pairwise fun o p => o.g ≠ p.g
  pl : os.Pairwise fun o p => ¬ (o.b = p.b ∧ o.k = p.k)
  le : os.length ≤ 12
  ser : ∀ o ∈ os, 1 ≤ o.s ∧ o.s ≤ last
  lst : 0 ≤ last ∧ last ≤ 72057594037927935
  foot : x.h ∈ fh ∧ x.a ∈ fh ∧ x.cb ∈ fh ∧ x.tb ∈ fh ∧ x.m ∈ fh
  obf : ∀ o ∈ os, o.g ∈ fh ∧ o.r ∈ fh ∧ o.v ∈ fh
  lt : ∀ y ∈ fh, y < w.heap.size
def PH (w : World) (x : HB) (fh : List Nat) (node last : Int) (l : List (Int × Int)) : Prop := ∃ ts os, PHa w x fh node last ts os ∧ l = os.map OT.pr
section
variable {w w' W : World} {Q : QT} {x : HB} {fh F : List Nat} {node last s d : Int} {ts : List Nat} {os : List OT} {o : OT} {l : List (Int × Int)}
theorem OB.keep (h : OB w ts o) (f : Fr F w w') (h1 : o.g ∉ F) (h2 : o.r ∉ F) (h3 : o.v ∉ F) : OB w' ts o :=
  ⟨h.blk.keep f h1, h.refs.keep f (fun y hy => by simp [fbl, at0] at hy; rwa [hy]), h.vals.keep f (fun y hy => by simp [fbl, at0] at hy; rwa [hy]), h.bl, h.kl, h.bit⟩
theorem PHa.keep (t : PHa w x fh node last ts os) (f : Fr F w w') (hd : ∀ y ∈ fh, y ∉ F) : PHa w' x fh node last ts os := by
  obtain ⟨f1, f2, f3, f4, f5⟩ := t.foot
  have hz := f.size
  exact ⟨t.blk.keep f (hd _ f1), t.ar.keep f (hd _ f2) (hd _ f3) (hd _ f4), t.tsI, t.pops, t.map.keep f (hd _ f5), fun o ho => (t.obs o ho).keep f (hd _ (t.obf o ho).1) (hd _ (t.obf o ho).2.1) (hd _ (t.obf o ho).2.2), t.gd, t.pl, t.le, t.ser, t.lst, t.foot, t.obf, fun y hy => by have := t.lt y hy; omega⟩
theorem PHa.keep' (t : PHa w x fh node last ts os) (f : Fr [] w w') : PHa w' x fh node last ts os := t.keep f (by simp)
theorem PH.keep (t : PH w x fh node last l) (f : Fr F w w') (hd : ∀ y ∈ fh, y ∉ F) : PH w' x fh node last l := by
  obtain ⟨ts, os, t, e⟩ := t
  exact ⟨ts, os, t.keep f hd, e⟩
theorem PH.keep' (t : PH w x fh node last l) (f : Fr [] w w') : PH w' x fh node last l := t.keep f (by simp)
theorem PH.lt (t : PH w x fh node last l) : ∀ y ∈ fh, y < w.heap.size := by
  obtain ⟨ts, os, t, e⟩ := t
  exact t.lt
theorem PHa.off (t : PHa w x fh node last ts os) (ho : o ∈ os) {y : Nat} (hy : y ∈ [x.h, x.a, x.cb, x.tb, x.m]) : y ≠ o.g ∧ y ≠ o.r ∧ y ≠ o.v := by
  have b := t.obs o ho
  obtain ⟨c2, b2⟩ := b.refs.nb
  obtain ⟨c3, b3⟩ := b.vals.nb
  have b1 := b.blk
  obtain ⟨d3, e3⟩ := t.ar.crow.nb
  obtain ⟨d4, e4⟩ := t.ar.trow.nb
  have e1 := t.blk
  have e2 := t.ar.blk
  simp only [List.mem_cons, List.not_mem_nil, or_false] at hy
  rcases hy with rfl | rfl | rfl | rfl | rfl
  · exact ⟨e1.ne b1 (by decide), e1.ne b2 (by decide), e1.ne b3 (by decide)⟩
  · exact ⟨e2.ne b1 (by decide), e2.ne b2 (by decide), e2.ne b3 (by decide)⟩
  · exact ⟨e3.ne b1 (by decide), e3.ne b2 (by decide), e3.ne b3 (by decide)⟩
  · exact ⟨e4.ne b1 (by decide), e4.ne b2 (by decide), e4.ne b3 (by decide)⟩
  · exact ⟨t.map.ne b1, t.map.ne b2, t.map.ne b3⟩
theorem PHa.dis (t : PHa w x fh node last ts os) : x.h ≠ x.a ∧ x.h ≠ x.cb ∧ x.h ≠ x.tb ∧ x.m ≠ x.h ∧ x.m ≠ x.a ∧ x.m ≠ x.cb ∧ x.m ≠ x.tb := by
  obtain ⟨d3, e3⟩ := t.ar.crow.nb
  obtain ⟨d4, e4⟩ := t.ar.trow.nb
  exact ⟨t.blk.ne t.ar.blk (by decide), t.blk.ne e3 (by decide), t.blk.ne e4 (by decide), t.map.ne t.blk, t.map.ne t.ar.blk, t.map.ne e3, t.map.ne e4⟩
theorem OB.keepH (h : OB w ts o) (t : PHa W x fh node last ts os) (ho : o ∈ os) (f : Fr F w w') (hF : ∀ y ∈ F, y ∈ [x.h, x.a, x.cb, x.tb, x.m]) : OB w' ts o :=
  h.keep f (fun hm => (t.off ho (hF _ hm)).1 rfl) (fun hm => (t.off ho (hF _ hm)).2.1 rfl) (fun hm => (t.off ho (hF _ hm)).2.2 rfl)
theorem hasO_os : hasO (os.map OT.pr) s = (os.find? fun o => decide (o.s = s)).isSome := by
  unfold hasO
  rw [List.find?_map, Option.isSome_map]
  rfl
theorem inO_os : inO (os.map OT.pr) s = ((os.find? fun o => decide (o.s = s)).map OT.d).getD 0 := by
  unfold inO
  rw [List.find?_map, Option.map_map]
  rfl
theorem findU_os : findU (os.map OT.ent) s = (os.find? fun o => decide (o.s = s)).map fun o => .pointer (some (at0 o.g 0)) := by
  unfold findU
  rw [List.find?_map, Option.map_map]
  rfl
theorem u64wf {s : Int} (h0 : 0 ≤ s) (h1 : s ≤ 18446744073709551615) : (Lit.int .u64 s).wf = true := by
  simp [Lit.wf, IntKind.min, IntKind.max, IntKind.signed, IntKind.bits]
  omega
theorem PHa.look (t : PHa w x fh node last ts os) (h0 : 0 ≤ s) (h1 : s ≤ 18446744073709551615) (hno : (os.find? fun o => decide (o.s = s)) = none → Q (.pointer none) w) (hK : ∀ o, (os.find? fun o => decide (o.s = s)) = some o → o ∈ os → o.s = s → Q (.pointer (some (at0 o.g 0))) w) :
    RunR Tryz.prog (Instr.lookup 101 (.map (some x.m)) (.int .u64 s) false) w Q := by
  refine lookU (z := .pointer none) (K := 22) (E := 117) (by kernel_rfl) (by kernel_rfl) (by simp [zeroValue, typeInfo]; rfl) t.map ?_ ?_
  · exact u64wf h0 h1
  · rw [findU_os]
    cases h : os.find? (fun o => decide (o.s = s)) with
    | none => exact hno h
    | some o => exact hK o h (List.mem_of_find?_eq_some h) (by simpa using List.find?_some h)
theorem PHa.c0 (t : PHa w x fh node last ts os) (i : Nat) {u : Value} (hu : (hcells x node last)[i]? = some u) : w.cell? ((at0 x.h 0).add i) = some u := t.blk.cat i _ hu
theorem node_spec (t : PH w x fh node last l) (hQ : Q (.int .i64 node) w) : CallR Tryz.prog 54 #[.pointer (some (at0 x.h 0))] w Q := by
  apply X54.sound
  unfold X54.f
  obtain ⟨ts, os, t, e⟩ := t
  exact ld_int (t.c0 0 rfl) hQ
theorem hfields_spec {n : Int} (h : 0 ≤ n) (h' : n ≤ 7) (hQ : Q (.bool true) w) : CallR Tryz.prog 59 #[.int .i64 n] w Q := by
  apply X59.sound
  unfold X59.f
  refine bc_pos (by omega) ?_
  rw [decide_eq_true h']
  exact hQ
def AftH (w : World) (x : HB) (fh : List Nat) (node last' : Int) (l' : List (Int × Int)) (v : Value) (Q : QT) : Prop := ∀ fh' w', PH w' x fh' node last' l' → Fr fh w w' → (∀ y ∈ fh', y ∈ fh ∨ w.heap.size ≤ y) → Q v w'
theorem AftH.same {v : Value} (h : AftH w x fh node last l v Q) (t : PH w x fh node last l) (f : Fr [] w w') : Q v w' := h fh w' (t.keep' f) f.any (fun y hy => .inl hy)
theorem setIn_spec (t : PH w x fh node last l) (h0 : 0 ≤ s) (h1 : s ≤ 18446744073709551615) (h2 : 0 ≤ d) (h3 : d ≤ 40) (hQ : ∀ c, AftH w x fh node last (setO l s d) (.int .i64 c) Q) :
    CallR Tryz.prog 94 #[.pointer (some (at0 x.h 0)), .int .u64 s, .int .i64 d] w Q := by
  apply X94.sound
  unfold X94.f
  refine bc_neg (by omega) (bc_neg (by omega) ?_)
  unfold X94.j0
  simp only [optP_some]
  obtain ⟨ts, os, t, rfl⟩ := t
  have tt : PH w x fh node last (os.map OT.pr) := ⟨ts, os, t, rfl⟩
  refine ld_map (t.c0 4 rfl) (t.look h0 h1 (fun hn => ⟨_, rfl, ?_⟩) (fun o hf ho hs => ⟨_, rfl, ?_⟩))
  · have e : setO (os.map OT.pr) s d = os.map OT.pr := by
      unfold setO
      rw [List.map_map]
      apply List.map_congr_left
      intro o ho
      have := List.find?_eq_none.1 hn o ho
      have hne : ¬ o.s = s := by simpa using this
      show (if o.s = s then (o.s, d) else (o.s, o.d)) = (o.s, o.d)
      rw [if_neg hne]
    have := hQ 5
    rw [e] at this
    exact this.same tt (Fr.refl _)
  · have b := (t.obs o ho).blk
    refine stB (i := 3) (w := w) b (show 3 < 4 by omega) fun w7 b7 f7 => ?_
    have upg := fun p => OT.up_g (s := s) (d := d) p
    have gd := t.gd
    have uniq : ∀ p ∈ os, p.s = s → p = o := fun p hp he => by
      have nd := t.map.nd
      rw [List.pairwise_map] at nd
      by_cases h : p = o
      · exact h
      · exact absurd (he.trans hs.symm) (pw_ne (fun a b h1 => h1.symm) nd hp ho h)
    have hg : ∀ p ∈ os, p ≠ o → p.g ≠ o.g := fun p hp hne => pw_ne (fun a b h1 => h1.symm) gd hp ho hne
    obtain ⟨g1, g2, g3, g4, g5⟩ := t.foot
    have no : ∀ y ∈ [x.h, x.a, x.cb, x.tb, x.m], y ∉ [o.g] := fun y hy hm => (t.off ho hy).1 (by simpa using hm)
    refine hQ 0 fh w7 ⟨ts, os.map (OT.up s d), ⟨t.blk.keep f7 (no _ (by simp)), t.ar.keep f7 (no _ (by simp)) (no _ (by simp)) (no _ (by simp)), t.tsI, by rw [List.length_map]; exact t.pops, ?_, ?_, ?_, ?_, by rw [List.length_map]; exact t.le, ?_, t.lst, t.foot, ?_, fun y hy => by have := t.lt y hy; have := f7.size; omega⟩, ?_⟩ (f7.mono fun y hy => by simp at hy; rw [hy]; exact (t.obf o ho).1) (fun y hy => .inl hy)
    · have e : (os.map (OT.up s d)).map OT.ent = os.map OT.ent := by
        rw [List.map_map]
        apply List.map_congr_left
        intro p _
        show ((OT.up s d p).s, _) = _
        simp only [OT.ent, upg]
      rw [e]
      exact t.map.keep f7 (no _ (by simp))
    · intro p' hp'
      obtain ⟨p, hp, rfl⟩ := List.mem_map.1 hp'
      have q := t.obs p hp
      obtain ⟨u1, u2, u3, u4, u5, u6⟩ := upg p
      obtain ⟨c2, b2⟩ := q.refs.nb
      obtain ⟨c3, b3⟩ := q.vals.nb
      have n2 : p.r ∉ [o.g] := fun hm => b2.ne b (by decide) (by simpa using hm)
      have n3 : p.v ∉ [o.g] := fun hm => b3.ne b (by decide) (by simpa using hm)
      refine ⟨?_, by rw [u2]; exact q.refs.keep f7 (fun y hy => by simp [fbl, at0] at hy; rwa [hy]), by rw [u3]; exact q.vals.keep f7 (fun y hy => by simp [fbl, at0] at hy; rwa [hy]), by rw [u4]; exact q.bl, by rw [u5]; exact q.kl, by rw [u4, u5]; exact q.bit⟩
      by_cases he : p.s = s
      · have := uniq p hp he
        subst this
        have e : OT.up s d p = { p with d := d } := if_pos he
        rw [e]
        exact b7
      · have e : OT.up s d p = p := if_neg he
        rw [e]
        have hne : p ≠ o := fun e => he (by rw [e, hs])
        exact q.blk.keep f7 (fun hm => hg p hp hne (by simpa using hm))
    · rw [List.pairwise_map]
      exact t.gd.imp fun {a b} h => by rw [(upg a).1, (upg b).1]; exact h
    · rw [List.pairwise_map]
      exact t.pl.imp fun {a b} h => by rw [(upg a).2.2.2.1, (upg b).2.2.2.1, (upg a).2.2.2.2.1, (upg b).2.2.2.2.1]; exact h
    · intro p' hp'
      obtain ⟨p, hp, rfl⟩ := List.mem_map.1 hp'
      rw [(upg p).2.2.2.2.2]
      exact t.ser p hp
    · intro p' hp'
      obtain ⟨p, hp, rfl⟩ := List.mem_map.1 hp'
      rw [(upg p).1, (upg p).2.1, (upg p).2.2.1]
      exact t.obf p hp
    · unfold setO
      rw [List.map_map, List.map_map]
      apply List.map_congr_left
      intro p _
      show (if p.s = s then (p.s, d) else (p.s, p.d)) = (OT.up s d p).pr
      by_cases he : p.s = s
      · have e : OT.up s d p = { p with d := d } := if_pos he
        rw [e, if_pos he]; rfl
      · have e : OT.up s d p = p := if_neg he
        rw [e, if_neg he]; rfl
end
end Go.Proofs.YtnjmkhhaodgpbaaGreatX
namespace Go.Proofs.YtnjmkhhaodgpbaaGreatX
open Go.RowKit
set_option maxRecDepth 100000
def makeO (last : Int) (l : List (Int × Int)) : Int × List (Int × Int) × Int × Int := if 12 ≤ l.length then (last, l, 0, 6) else if last = 72057594037927935 then (last, l, 0, 7) else (last + 1, l ++ [(last + 1, 0)], last + 1, 0)
section
variable {w w' W : World} {Q : QT} {x : HB} {fh F : List Nat} {node last s d : Int} {ts : List Nat} {os : List OT} {o : OT} {l : List (Int × Int)} {b k g r v : Nat}
theorem PHa.grow (t : PHa w x fh node last ts os) (hl : os.length < 12) (hlast : last < 72057594037927935) (hb : b < 16) (hbt : ts.getD b 0 < 255) (hg : w.heap.size ≤ g) (hr : w.heap.size ≤ r) (hv : w.heap.size ≤ v) (f : Fr [x.h, x.cb, x.tb, x.m] w w')
    (B : Blk w' x.h (hcells x node (last + 1)) 103) (A : AR w' x.a x.cb x.tb ((setAt ts b (lz (ts.getD b 0))).map clsB) (setAt ts b (lz (ts.getD b 0)))) (M : MU w' x.m (os.map OT.ent ++ [(last + 1, .pointer (some (at0 g 0)))]))
    (T : Blk w' g (OT.cells ⟨last + 1, b, lz (ts.getD b 0), g, r, v, 0⟩) 119) (R : Own 37 2 w' (some (at0 r 0)) 1 1 idc0) (V : Own 22 1 w' (some (at0 v 0)) 0 0 []) :
    PHa w' x (fh ++ [g, r, v]) node (last + 1) (setAt ts b (lz (ts.getD b 0))) (os ++ [⟨last + 1, b, lz (ts.getD b 0), g, r, v, 0⟩]) := by
  have hz := lz_lt hbt
  have hS := t.tsI.set hb hz.1 hz.2.1
  obtain ⟨f1, f2, f3, f4, f5⟩ := t.foot
  have sz := f.size
  have bit : ∀ p ∈ os, bitAt (setAt ts b (lz (ts.getD b 0))) p.b p.k = true := fun p hp => by
    have q := t.obs p hp
    rw [hS.2.2 _ _ q.kl, q.bit]
    simp
  have hF : ∀ y ∈ [x.h, x.cb, x.tb, x.m], y ∈ [x.h, x.a, x.cb, x.tb, x.m] := fun y hy => by
    simp at hy
    rcases hy with rfl | rfl | rfl | rfl <;> simp
  obtain ⟨cR, bR⟩ := R.nb
  obtain ⟨cV, bV⟩ := V.nb
  refine ⟨B, A, hS.1, by rw [hS.2.1, t.pops]; simp, by rw [List.map_append]; exact M, ?_, ?_, ?_, by simp; omega, ?_, ⟨by have := t.lst.1; omega, by omega⟩, by simp [f1, f2, f3, f4, f5], ?_, ?_⟩
  · intro p hp
    rcases List.mem_append.1 hp with hp | hp
    · have q := (t.obs p hp).keepH t hp f hF
      exact ⟨q.blk, q.refs, q.vals, q.bl, q.kl, bit p hp⟩
    · have hp := List.mem_singleton.1 hp
      subst hp
      refine ⟨T, R, V, hb, hz.1, ?_⟩
      show bitAt _ b (lz _) = true
      rw [hS.2.2 _ _ hz.1]
      simp
  · rw [List.pairwise_append]
    refine ⟨t.gd, by simp, fun p hp q hq => ?_⟩
    have hq := List.mem_singleton.1 hq
    subst hq
    show p.g ≠ g
    have := t.lt _ (t.obf p hp).1
    omega
  · rw [List.pairwise_append]
    refine ⟨t.pl, by simp, fun p hp q hq => ?_⟩
    have hq := List.mem_singleton.1 hq
    subst hq
    show ¬ (p.b = b ∧ p.k = lz _)
    rintro ⟨e1, e2⟩
    have q := (t.obs p hp).bit
    rw [e1, e2] at q
    unfold bitAt at q
    rw [hz.2.1] at q
    cases q
  · intro p hp
    rcases List.mem_append.1 hp with hp | hp
    · have := t.ser p hp
      omega
    · have hp := List.mem_singleton.1 hp
      subst hp
      have := t.lst.1
      show 1 ≤ last + 1 ∧ last + 1 ≤ last + 1
      omega
  · intro p hp
    rcases List.mem_append.1 hp with hp | hp
    · obtain ⟨h1, h2, h3⟩ := t.obf p hp
      simp [h1, h2, h3]
    · have hp := List.mem_singleton.1 hp
      subst hp
      simp
  · intro y hy
    rcases List.mem_append.1 hy with hy | hy
    · have := t.lt y hy
      omega
    · simp at hy
      rcases hy with rfl | rfl | rfl
      · exact T.lt
      · exact bR.lt
      · exact bV.lt
theorem make_spec (t : PH w x fh node last l) (hQ : AftH w x fh node (makeO last l).1 (makeO last l).2.1 (.tuple #[.int .u64 (makeO last l).2.2.1, .int .i64 (makeO last l).2.2.2]) Q) :
    CallR Tryz.prog 25 #[.pointer (some (at0 x.h 0)), .int .i64 1, .int .i64 0] w Q := by
  apply X25.sound
  unfold X25.f
  refine hfields_spec (by omega) (by omega) ⟨_, rfl, hfields_spec (by omega) (by omega) ⟨_, rfl, ?_⟩⟩
  unfold X25.j0
  simp only [optP_some]
  obtain ⟨ts, os, t, rfl⟩ := t
  have tt : PH w x fh node last (os.map OT.pr) := ⟨ts, os, t, rfl⟩
  refine bc_bool (fun e => by cases e) (fun _ => drawn fun w1 f1 _ => ?_)
  have t1 := t.keep' f1
  have tt1 := tt.keep' f1
  unfold makeO at hQ
  rw [List.length_map] at hQ
  refine ld_map (t1.c0 4 rfl) ⟨(os.length : Int), ?_, ld_int (t1.c0 1 rfl) (bc_dec (fun h => ?_) (fun h => ?_))⟩
  · have := lenU (P := Tryz.prog) (M := 101) (K := 22) (E := 117) (ty := 3) (by kernel_rfl) t1.map
    rw [List.length_map] at this
    exact this
  · rw [if_pos (by omega)] at hQ
    exact hQ.same tt f1
  · rw [if_neg (by omega)] at hQ
    have hlst := t.lst
    refine ld_int (t1.c0 2 rfl) (bc_eq (fun h2 => ?_) (fun h2 => ?_))
    · rw [if_pos h2] at hQ
      exact hQ.same tt f1
    · rw [if_neg h2] at hQ
      have t1l := t1.lt
      refine ld_ptr (t1.c0 3 rfl) ?_
      rw [show IntKind.wrap .i64 (IntKind.wrap .i64 (1 + 1) + 0) = 2 by decide +kernel]
      refine alloc_spec t1.ar t1.tsI (by rw [t1.pops]; omega) fun b w12 hab hb hbt A12 f12 => ⟨_, _, rfl, bc_ne (fun e => absurd rfl e) (fun _ => ?_)⟩
      obtain ⟨d1, d2, d3, d4, d5, d6, d7⟩ := t1.dis
      have B12 := t1.blk.keep f12 (by simp [d2, d3])
      have M12 := t1.map.keep f12 (by simp [d6, d7])
      refine ld_int (B12.cat 2 _ rfl) (stB (i := 2) B12 (show 2 < 5 by omega) fun w18 B18 f18 => ?_)
      rw [u64w (last + 1) (by omega) (by omega)] at B18
      have B18 : Blk w18 x.h (hcells x node (last + 1)) 103 := B18
      have A18 := A12.keep f18 (by simp; exact fun e => d1 e.symm) (by simp; exact fun e => d2 e.symm) (by simp; exact fun e => d3 e.symm)
      have M18 := M12.keep f18 (by simp; exact d4)
      have F18 : Fr [x.h, x.cb, x.tb, x.m] w w18 := (f1.any.tr (f12.mono fun y hy => by simp at hy; rcases hy with rfl | rfl <;> simp)).tr (f18.mono fun y hy => by simp at hy; simp [hy])
      refine drawn fun w19 f19 _ => ?_
      have B19 := B18.keep' f19
      have A19 := A18.keep' f19
      have M19 := M18.keep' f19
      have F19 := F18.tr f19.any
      have z19 := F19.size
      have mu : ∀ y ∈ os.map OT.ent, y.1 ≠ last + 1 := fun y hy => by
        obtain ⟨p, hp, rfl⟩ := List.mem_map.1 hy
        have := t.ser p hp
        show p.s ≠ last + 1
        omega
      have fin : ∀ {g r v : Nat} {w31 : World} {K : World → Prop}, Fr [] w19 w31 → w19.heap.size ≤ g → w19.heap.size ≤ r → w19.heap.size ≤ v → Blk w31 g (OT.cells ⟨last + 1, b, lz (ts.getD b 0), g, r, v, 0⟩) 119 → Own 37 2 w31 (some (at0 r 0)) 1 1 idc0 → Own 22 1 w31 (some (at0 v 0)) 0 0 [] →
          RunR Tryz.prog (Instr.mapUpdate 101 (.map (some x.m)) (.int .u64 (last + 1)) (.pointer (some (at0 g 0)))) w31 fun _ w33 => ldI .u64 w33 ((at0 x.h 0).add 2) fun x35 => Q (.tuple #[.int .u64 x35, .int .i64 0]) w33 := by
        intro g r v w31 K f31 hg hr hv T R V
        refine updU (K := 22) (E := 117) (by kernel_rfl) (by kernel_rfl) (M19.keep' f31) (u64wf (by omega) (by omega)) mu fun w33 M33 f33 => ?_
        obtain ⟨cR, bR⟩ := R.nb
        obtain ⟨cV, bV⟩ := V.nb
        have mm := M19.keep' f31
        have B33 := (B19.keep' f31).keep f33 (by simp; exact fun e => d4 e.symm)
        have A33 := (A19.keep' f31).keep f33 (by simp; exact fun e => d5 e.symm) (by simp; exact fun e => d6 e.symm) (by simp; exact fun e => d7 e.symm)
        have F33 : Fr [x.h, x.cb, x.tb, x.m] w w33 := (F19.tr f31.any).tr (f33.mono fun y hy => by simp at hy; simp [hy])
        have nm : ∀ {y : Nat}, x.m ≠ y → y ∉ [x.m] := fun h => by simp; exact fun e => h e.symm
        have G := t.grow (by omega) (by omega) hb hbt (by omega) (by omega) (by omega) F33 B33 A33 M33 (T.keep f33 (nm (mm.ne T))) (R.keep f33 (fun y hy => by simp [fbl, at0] at hy; rw [hy]; exact nm (mm.ne bR))) (V.keep f33 (fun y hy => by simp [fbl, at0] at hy; rw [hy]; exact nm (mm.ne bV)))
        refine ld_int (G.c0 2 rfl) (hQ _ w33 ⟨_, _, G, by simp [OT.pr]⟩ (F33.mono fun y hy => ?_) (fun y hy => ?_))
        · obtain ⟨f1, f2, f3, f4, f5⟩ := t.foot
          simp at hy
          rcases hy with rfl | rfl | rfl | rfl <;> assumption
        · rcases List.mem_append.1 hy with hy | hy
          · exact .inl hy
          · simp at hy
            rcases hy with rfl | rfl | rfl <;> exact .inr (by omega)
      refine ⟨?_, ?_⟩
      · refine ld_map (B19.cat 4 _ rfl) (ld_int (B19.cat 2 _ rfl) ?_)
        refine makeN (n := 1) (Z := 2) (E := 37) (i := Tryz.t37) (z := Value.agg #[.int .i64 0, .int .u64 0]) (by kernel_rfl) (by kernel_rfl) (by kernel_rfl) (by kernel_rfl) (by decide +kernel) (by omega) (xs := idc0) (by kernel_rfl) fun r w25 R25 f25 hr => ⟨_, _, _, rfl, ⟨B19.cat 2 _ rfl, (B19.keep' f25).cat 2 _ rfl⟩, ⟨B19.cat 4 _ rfl, (B19.keep' f25).cat 4 _ rfl⟩, ?_⟩
        refine makeN (n := 0) (Z := 1) (E := 22) (i := Tryz.t22) (z := .int .u64 0) (by kernel_rfl) (by kernel_rfl) (by kernel_rfl) (by kernel_rfl) (by decide +kernel) (by omega) (xs := []) (by kernel_rfl) fun v w28 V28 f28 hv => ⟨_, _, _, rfl, ⟨(B19.keep' f25).cat 2 _ rfl, (B19.keep' (f25.tr f28)).cat 2 _ rfl⟩, ⟨(B19.keep' f25).cat 4 _ rfl, (B19.keep' (f25.tr f28)).cat 4 _ rfl⟩, ?_⟩
        refine newB fun g w31 T31 f31 hg => ⟨⟨(B19.keep' (f25.tr f28)).cat 2 _ rfl, (B19.keep' (f25.tr (f28.tr f31))).cat 2 _ rfl⟩, ⟨(B19.keep' (f25.tr f28)).cat 4 _ rfl, (B19.keep' (f25.tr (f28.tr f31))).cat 4 _ rfl⟩, ?_⟩
        have z25 := f25.size
        have z28 := f28.size
        exact fin (K := fun _ => True) (f25.tr (f28.tr f31)) (by omega) (by omega) (by omega) T31 (R25.keep' (f28.tr f31)) (V28.keep' f31)
      · refine ld_map (B19.cat 4 _ rfl) (ld_int (B19.cat 2 _ rfl) ?_)
        refine makeN (n := 0) (Z := 1) (E := 22) (i := Tryz.t22) (z := .int .u64 0) (by kernel_rfl) (by kernel_rfl) (by kernel_rfl) (by kernel_rfl) (by decide +kernel) (by omega) (xs := []) (by kernel_rfl) fun v w25 V25 f25 hv => ⟨_, _, _, rfl, ⟨B19.cat 2 _ rfl, (B19.keep' f25).cat 2 _ rfl⟩, ⟨B19.cat 4 _ rfl, (B19.keep' f25).cat 4 _ rfl⟩, ?_⟩
        refine makeN (n := 1) (Z := 2) (E := 37) (i := Tryz.t37) (z := Value.agg #[.int .i64 0, .int .u64 0]) (by kernel_rfl) (by kernel_rfl) (by kernel_rfl) (by kernel_rfl) (by decide +kernel) (by omega) (xs := idc0) (by kernel_rfl) fun r w28 R28 f28 hr => ⟨_, _, _, rfl, ⟨(B19.keep' f25).cat 2 _ rfl, (B19.keep' (f25.tr f28)).cat 2 _ rfl⟩, ⟨(B19.keep' f25).cat 4 _ rfl, (B19.keep' (f25.tr f28)).cat 4 _ rfl⟩, ?_⟩
        refine newB fun g w31 T31 f31 hg => ⟨⟨(B19.keep' (f25.tr f28)).cat 2 _ rfl, (B19.keep' (f25.tr (f28.tr f31))).cat 2 _ rfl⟩, ⟨(B19.keep' (f25.tr f28)).cat 4 _ rfl, (B19.keep' (f25.tr (f28.tr f31))).cat 4 _ rfl⟩, ?_⟩
        have z25 := f25.size
        have z28 := f28.size
        exact fin (K := fun _ => True) (f25.tr (f28.tr f31)) (by omega) (by omega) (by omega) T31 (R28.keep' f31) (V25.keep' (f28.tr f31))
theorem heapNew_spec (h1 : 1 ≤ node) (h2 : node ≤ 64) (hQ : ∀ x fh w', PH w' x fh node 0 [] → Fr [] w w' → (∀ y ∈ fh, w.heap.size ≤ y) → Q (.tuple #[.pointer (some (at0 x.h 0)), .int .i64 0]) w') :
    CallR Tryz.prog 23 #[.int .i64 node, .int .i64 256, .int .i64 12, .int .u64 0] w Q := by
  apply X23.sound
  unfold X23.f
  refine bc_neg (by omega) (bc_neg (by omega) (bc_neg (by omega) (bc_neg (by omega) (bc_neg (by omega) ?_))))
  unfold X23.j0
  refine newArena_spec fun a cb tb w2 A f2 ha hcb htb => ⟨_, _, rfl, bc_ne (fun e => absurd rfl e) (fun _ => ?_)⟩
  refine newMU fun m w6 M f6 hm => newB fun g w8 B f8 hg => ?_
  have z2 := f2.size
  have z6 := f6.size
  have A8 := A.keep' (f6.tr f8)
  have M8 := M.keep' f8
  have lt := A8.lt
  refine hQ ⟨g, a, cb, tb, m⟩ [g, a, cb, tb, m] w8 ⟨List.replicate 16 0, [], ⟨B, A8, ⟨by simp, fun t ht => by simp at ht; omega⟩, by rw [List.map_replicate, pop_zero]; rfl, M8, by simp, List.Pairwise.nil, List.Pairwise.nil, by simp, by simp, by omega, by simp, by simp, fun y hy => ?_⟩, rfl⟩ (f2.tr (f6.tr f8)) (fun y hy => ?_)
  · simp at hy
    rcases hy with rfl | rfl | rfl | rfl | rfl
    · exact B.lt
    · exact lt.1
    · exact lt.2.1
    · exact lt.2.2
    · exact M8.lt
  · simp at hy
    rcases hy with rfl | rfl | rfl | rfl | rfl <;> omega
end
end Go.Proofs.YtnjmkhhaodgpbaaGreatX
namespace Go.Proofs.YtnjmkhhaodgpbaaGreatX
open Go.RowKit
theorem cells_cut {Z c i n : Nat} {w : World} {p : Option Addr} {xs : List Value} (h : Cells w p xs) (hl : xs.length = n * Z) (hi : i ≤ n) (hc : n ≤ c) (h0 : p = none → c = 0) : Cells w (cutAt Z c i p) (xs.drop (i * Z)) ∧ (cutAt Z c i p = none → c - i = 0) := by
  unfold cutAt
  split
  · rename_i he
    have : i = n := by omega
    subst this
    rw [List.drop_eq_nil_of_le (by omega)]
    exact ⟨fun j u hj => by simp at hj, fun _ => by omega⟩
  · cases p with
    | none =>
      refine ⟨fun j u hj => ?_, fun _ => by have := h0 rfl; omega⟩
      rw [List.getElem?_drop] at hj
      obtain ⟨q, hq, _⟩ := h _ _ hj
      cases hq
    | some a =>
      refine ⟨fun j u hj => ?_, fun h => by cases h⟩
      rw [List.getElem?_drop] at hj
      obtain ⟨q, hq, hq2⟩ := h _ _ hj
      injection hq with hq
      subst hq
      exact ⟨_, rfl, by rw [add_add]; exact hq2⟩
theorem cells_take {w : World} {p : Option Addr} {xs : List Value} (h : Cells w p xs) (k : Nat) : Cells w p (xs.take k) := fun j u hj => by
  rw [List.getElem?_take] at hj
  split at hj
  · exact h j u hj
  · cases hj
theorem app_step {P : Program} {t e ty : TypeId} {Z B : Nat} (hT : RowT P t e Z B) {W w : World} {sp x : Option Addr} {sn sc k kc : Nat} {xs ys : List Value} {K : Option Addr → Nat → Nat → World → Prop} (o : Own e Z w sp sn sc xs) (hy : Cells w x ys) (hl : ys.length = k * Z) (h0 : x = none → kc = 0)
    (h1 : ∀ u ∈ ys, u.oneCell' = true) (hn : sn + k ≤ 1000000) (hB : B ≤ 1000) (hs : ∀ k ∈ fbl sp, W.heap.size ≤ k) (f : Fr [] W w)
    (hK : ∀ p c w', Own e Z w' p (sn + k) c (xs ++ ys) → (∀ k ∈ fbl p, W.heap.size ≤ k) → Fr [] W w' → Fr (fbl sp) w w' → K p (sn + k) c w') :
    RunR P (Builtin.append_ #[t, t] ty #[.slice sp sn sc, .slice x k kc]) w fun v w' => ∃ (p : Option Addr) (n c : Nat), v = .slice p n c ∧ K p n c w' := by
  have hsz := f.size
  refine app_own hT o hy hl h0 h1 (by simp only [maxLen]; omega) (Nat.le_trans (Nat.mul_le_mul hn hB) (by omega)) ?_
  intro p' c' w' o' f' e'
  exact ⟨p', sn + k, c', rfl, hK p' c' w' o' (fun j hj => by rcases e' j hj with h | h; exact hs j h; omega) (f.trans f' (fun j hj => .inr (hs j hj))) f'⟩
theorem set_same {α : Type} {l : List α} {i : Nat} {v : α} (h : l[i]? = some v) : l.set i v = l := by
  obtain ⟨h1, h2⟩ := List.getElem?_eq_some_iff.1 h
  rw [← h2, List.set_getElem_self]
theorem stO {w : World} {g o i : Nat} {cs : List Value} {e : TypeId} {v : Value} {K : World → Prop} (h : Blk w g cs e) (hi : o + i < cs.length) (hK : ∀ w', Blk w' g (cs.set (o + i) v) e → Fr [g] w w' → K w') : stK w ((at0 g o).add i) v K := by
  rw [add_at]
  exact ⟨h.storeOk hi, hK _ (h.set _ v) (Fr.setCell (by simp [at0]) v)⟩
theorem cells_one {w : World} {g : Nat} {cs : List Value} {e : TypeId} (h : Blk w g cs e) : Cells w (some (at0 g 0)) cs := fun j u hj => ⟨_, rfl, h.cat j u hj⟩
theorem some_ne {a : Addr} {P : Prop} : some a = none → P := fun h => by cases h
theorem one_take {xs : List Value} (h : ∀ u ∈ xs, u.oneCell' = true) (n : Nat) : ∀ u ∈ xs.take n, u.oneCell' = true := fun u hu => h u (List.mem_of_mem_take hu)
theorem one_drop {xs : List Value} (h : ∀ u ∈ xs, u.oneCell' = true) (n : Nat) : ∀ u ∈ xs.drop n, u.oneCell' = true := fun u hu => h u (List.mem_of_mem_drop hu)
end Go.Proofs.YtnjmkhhaodgpbaaGreatX
namespace Go.Proofs.YtnjmkhhaodgpbaaGreatX
open Go.RowKit
set_option maxRecDepth 100000
section
variable {w w' W : World} {Q : QT} {x : HB} {fh F : List Nat} {node last s d : Int} {ts : List Nat} {os os' : List OT} {o : OT} {l : List (Int × Int)} {b k g r v : Nat}
theorem idc0_one : ∀ u ∈ idc0, u.oneCell' = true := by
  intro u hu
  simp at hu
  rcases hu with rfl | rfl <;> rfl
theorem emptyRow {e : TypeId} {Z : Nat} {w : World} {g : Nat} (b : Blk w g [] e) : Own e Z w (some (at0 g 0)) 0 0 [] := own_blk b (by simp) (by omega) (by simp [maxLen]) (by simp)
theorem object_spec (t : PH w x fh node last l) (h0 : 0 ≤ s) (h1 : s ≤ 18446744073709551615) (hQ : ∀ w' ser cell rp rn rc vp vn vc, Fr [] w w' → Q (.tuple #[.agg #[.int .u64 ser, .int .i64 cell, .slice rp rn rc, .slice vp vn vc, .int .i64 (inO l s)], .bool (hasO l s)]) w') :
    CallR Tryz.prog 42 #[.pointer (some (at0 x.h 0)), .int .u64 s] w Q := by
  apply X42.sound
  unfold X42.f
  obtain ⟨ts, os, t, rfl⟩ := t
  refine newB fun g1 w2 B2 f2 h2 => ?_
  simp only [optP_some]
  have t2 := t.keep' f2
  rw [hasO_os, inO_os] at hQ
  refine ld_map (t2.c0 4 rfl) (t2.look h0 h1 (fun hn => ⟨_, rfl, ?_⟩) (fun o hf ho hs => ⟨_, rfl, ?_⟩))
  · rw [hn] at hQ
    refine bc_bool (fun _ => ?_) (fun e => by cases e)
    refine stAllB (vs := Obj.cells ⟨0, 0, none, 0, 0, none, 0, 0, 0⟩) B2 rfl fun w8 B8 f8 => ld_Obj (s := ⟨0, 0, none, 0, 0, none, 0, 0, 0⟩) B8.cat ?_
    exact hQ _ _ _ _ _ _ _ _ _ (f2.trans f8 (fun y hy => .inr (by simp at hy; omega)))
  · rw [hf] at hQ
    refine bc_bool (fun e => by cases e) (fun _ => drawn fun w14 f14 _ => ?_)
    have t14 := t2.keep' f14
    have ob := t14.obs o ho
    have z2 := f2.size
    have z14 := f14.size
    have fin : ∀ {w29 : World} {a b : Option Addr} {an ac bn bc : Nat}, Fr [] w14 w29 → stAll w29 (at0 g1 0) [.int .u64 s, .int .i64 (16 * (o.b : Int) + 2 * (o.k : Int)), .slice a an ac, .slice b bn bc, .int .i64 o.d] fun w33 => ldI .u64 w33 ((at0 g1 0).add 0) fun x34 => ldI .i64 w33 ((at0 g1 0).add 1) fun x35 => ldSl w33 ((at0 g1 0).add 2) fun x36p x36n x36c => ldSl w33 ((at0 g1 0).add 3) fun x37p x37n x37c => ldI .i64 w33 ((at0 g1 0).add 4) fun x38 => Q (.tuple #[.agg #[.int .u64 x34, .int .i64 x35, .slice x36p x36n x36c, .slice x37p x37n x37c, .int .i64 x38], .bool true]) w33 := by
      intro w29 a b an ac bn bc f29
      refine stAllB (vs := Obj.cells ⟨s, 16 * (o.b : Int) + 2 * (o.k : Int), a, an, ac, b, bn, bc, o.d⟩) (B2.keep' (f14.tr f29)) rfl fun w33 B33 f33 => ld_Obj (s := ⟨s, 16 * (o.b : Int) + 2 * (o.k : Int), a, an, ac, b, bn, bc, o.d⟩) B33.cat ?_
      exact hQ _ _ _ _ _ _ _ _ _ ((f2.tr (f14.tr f29)).trans f33 (fun y hy => .inr (by simp at hy; omega)))
    have C : ∀ {w' : World} (i : Nat) {u : Value}, Fr [] w14 w' → o.cells[i]? = some u → w'.cell? ((at0 o.g 0).add i) = some u := fun i u f hu => (ob.blk.keep' f).cat i _ hu
    have R := Fr.refl (S := []) w14
    have dk : ∀ {a b : World} {i : Nat} {u : Value}, Fr [] w14 a → Fr [] w14 b → o.cells[i]? = some u → a.cell? ((at0 o.g 0).add i) = some u ∧ b.cell? ((at0 o.g 0).add i) = some u := fun fa fb hu => ⟨C _ fa hu, C _ fb hu⟩
    have refs : ∀ {w' : World}, Fr [] w14 w' → Cells w' (some (at0 o.r 0)) idc0 := fun f => (ob.refs.keep' f).cells
    refine ⟨?_, ?_, ?_⟩
    · refine ld_int (C 0 R rfl) (newB fun g17 w18 B18 f18 h18 => ⟨dk R f18 rfl, ld_sl (C 1 f18 rfl) ⟨dk R f18 rfl, ?_⟩⟩)
      refine app_step rowI (emptyRow B18) (refs f18) (k := 1) rfl some_ne idc0_one (by omega) (by omega) (W := w14) (by simp [fbl, at0]; omega) f18 fun p c w22 o22 _ f22 _ => ⟨dk f18 f22 rfl, newB fun g24 w25 B25 f25 h25 => ⟨dk f22 (f22.tr f25) rfl, dk f22 (f22.tr f25) rfl, ?_⟩⟩
      have F25 := f22.tr f25
      have z22 := f22.size
      refine ld_sl (C 2 F25 rfl) ⟨dk f22 F25 rfl, dk f18 f22 rfl, dk R f18 rfl, ?_⟩
      refine app_step rowU (emptyRow B25) (x := some (at0 o.v 0)) (ys := []) (k := 0) (fun j u hj => by simp at hj) rfl some_ne (by simp) (by omega) (by omega) (W := w14) (by simp [fbl, at0]; omega) F25 fun p2 c2 w29 o29 _ f29 _ => ⟨dk F25 f29 rfl, ld_int (C 3 f29 rfl) ⟨dk F25 f29 rfl, dk f22 F25 rfl, dk f18 f22 rfl, dk R f18 rfl, fin f29⟩⟩
    · refine ld_int (C 0 R rfl) (newB fun g17 w18 B18 f18 h18 => ⟨dk R f18 rfl, ld_sl (C 1 f18 rfl) ⟨dk R f18 rfl, newB fun g45 w46 B46 f46 h46 => ?_⟩⟩)
      have F46 := f18.tr f46
      have z18 := f18.size
      refine ⟨dk f18 F46 rfl, dk f18 F46 rfl, app_step rowI (emptyRow (B18.keep' f46)) (refs F46) (k := 1) rfl some_ne idc0_one (by omega) (by omega) (W := w14) (by simp [fbl, at0]; omega) F46 fun p c w48 o48 _ f48 g48 => ⟨dk F46 f48 rfl, ld_sl (C 2 f48 rfl) ⟨dk F46 f48 rfl, dk f18 F46 rfl, dk R f18 rfl, ?_⟩⟩⟩
      have n1 : g45 ∉ fbl (some (at0 g17 0)) := by
        have := B18.lt
        simp [fbl, at0]
        omega
      refine app_step rowU (emptyRow (B46.keep g48 n1)) (x := some (at0 o.v 0)) (ys := []) (k := 0) (fun j u hj => by simp at hj) rfl some_ne (by simp) (by omega) (by omega) (W := w14) (by simp [fbl, at0]; omega) f48 fun p2 c2 w29 o29 _ f29 _ => ⟨dk f48 f29 rfl, ld_int (C 3 f29 rfl) ⟨dk f48 f29 rfl, dk F46 f48 rfl, dk f18 F46 rfl, dk R f18 rfl, fin f29⟩⟩
    · refine ld_int (C 0 R rfl) (ld_sl (C 1 R rfl) (newB fun g67 w68 B68 f68 h68 => ⟨dk R f68 rfl, dk R f68 rfl, newB fun g69 w70 B70 f70 h70 => ?_⟩))
      have F70 := f68.tr f70
      have z68 := f68.size
      refine ⟨dk f68 F70 rfl, dk f68 F70 rfl, app_step rowI (emptyRow B70) (refs F70) (k := 1) rfl some_ne idc0_one (by omega) (by omega) (W := w14) (by simp [fbl, at0]; omega) F70 fun p c w48 o48 _ f48 g48 => ⟨dk F70 f48 rfl, ld_sl (C 2 f48 rfl) ⟨dk F70 f48 rfl, dk f68 F70 rfl, dk R f68 rfl, ?_⟩⟩⟩
      have n1 : g67 ∉ fbl (some (at0 g69 0)) := by
        have := B68.lt
        simp [fbl, at0]
        omega
      refine app_step rowU (emptyRow ((B68.keep' f70).keep g48 n1)) (x := some (at0 o.v 0)) (ys := []) (k := 0) (fun j u hj => by simp at hj) rfl some_ne (by simp) (by omega) (by omega) (W := w14) (by simp [fbl, at0]; omega) f48 fun p2 c2 w29 o29 _ f29 _ => ⟨dk f48 f29 rfl, ld_int (C 3 f29 rfl) ⟨dk f48 f29 rfl, dk F70 f48 rfl, dk f68 F70 rfl, dk R f68 rfl, fin f29⟩⟩
theorem free_spec' (t : PH w x fh node last l) (h0 : 0 ≤ s) (h1 : s ≤ 18446744073709551615) (hQ : AftH w x fh node last (freeO l s) (.int .i64 (if hasO l s then 0 else 5)) Q) :
    CallR Tryz.prog 39 #[.pointer (some (at0 x.h 0)), .int .u64 s] w Q := by
  apply X39.sound
  unfold X39.f
  simp only [optP_some]
  obtain ⟨ts, os, t, rfl⟩ := t
  have tt : PH w x fh node last (os.map OT.pr) := ⟨ts, os, t, rfl⟩
  rw [hasO_os] at hQ
  refine ld_map (t.c0 4 rfl) (t.look h0 h1 (fun hn => ⟨_, rfl, ?_⟩) (fun o hf ho hs => ⟨_, rfl, ?_⟩))
  · have e : freeO (os.map OT.pr) s = os.map OT.pr := by
      apply List.filter_eq_self.2
      intro e he
      obtain ⟨o, ho, rfl⟩ := List.mem_map.1 he
      have := List.find?_eq_none.1 hn o ho
      exact decide_eq_true (fun e2 => this (decide_eq_true e2))
    rw [hn, e] at hQ
    refine bc_bool (fun _ => ?_) (fun e => by cases e)
    exact hQ.same tt (Fr.refl _)
  · rw [hf] at hQ
    refine bc_bool (fun e => by cases e) (fun _ => drawn fun w6 f6 _ => ?_)
    have t6 := t.keep' f6
    have ob := t6.obs o ho
    refine ld_ptr (t6.c0 3 rfl) (ld_int (ob.blk.cat 0 _ rfl) ?_)
    refine free_spec t6.ar t6.tsI ob.bl ob.kl ob.bit fun w12 A12 f12 => ⟨_, rfl, ?_⟩
    obtain ⟨d1, d2, d3, d4, d5, d6, d7⟩ := t6.dis
    have B12 := t6.blk.keep f12 (by simp [d2, d3])
    have M12 := t6.map.keep f12 (by simp [d6, d7])
    refine ld_map (B12.cat 4 _ rfl) (delU (K := 22) (E := 117) (by kernel_rfl) (by kernel_rfl) M12 (u64wf h0 h1) fun w17 M17 f17 => ⟨rfl, ?_⟩)
    have B17 := B12.keep f17 (by simp; exact fun e => d4 e.symm)
    have A17 := A12.keep f17 (by simp; exact fun e => d5 e.symm) (by simp; exact fun e => d6 e.symm) (by simp; exact fun e => d7 e.symm)
    have F17 : Fr [x.h, x.cb, x.tb, x.m] w w17 := (f6.any.tr (f12.mono fun y hy => by simp at hy; rcases hy with rfl | rfl <;> simp)).tr (f17.mono fun y hy => by simp at hy; simp [hy])
    have hF : ∀ y ∈ [x.h, x.cb, x.tb, x.m], y ∈ [x.h, x.a, x.cb, x.tb, x.m] := fun y hy => by
      simp at hy
      rcases hy with rfl | rfl | rfl | rfl <;> simp
    have hC := t.tsI.clr ob.bl ob.kl ob.bit
    have nd := t.map.nd
    rw [List.pairwise_map] at nd
    obtain ⟨l1, l2, hos⟩ := List.append_of_mem ho
    have hflt : os.filter (fun p => decide (p.s ≠ s)) = l1 ++ l2 := by
      rw [hos] at nd ⊢
      rw [List.pairwise_append] at nd
      obtain ⟨n1, n2, n3⟩ := nd
      rw [List.pairwise_cons] at n2
      rw [List.filter_append, List.filter_cons_of_neg (by simp [hs])]
      rw [List.filter_eq_self.2, List.filter_eq_self.2]
      · intro p hp
        have := n2.1 p hp
        exact decide_eq_true (fun e => this (hs.trans e.symm))
      · intro p hp
        have := n3 p hp o (by simp)
        exact decide_eq_true (fun e => this (e.trans hs.symm))
    have hsub : ∀ p ∈ os.filter (fun p => decide (p.s ≠ s)), p ∈ os := fun p hp => (List.mem_filter.1 hp).1
    have hlen : (os.filter (fun p => decide (p.s ≠ s))).length + 1 = os.length := by
      rw [hflt, hos]
      simp
      omega
    have hpl : ∀ p ∈ os.filter (fun p => decide (p.s ≠ s)), ¬ (p.b = o.b ∧ p.k = o.k) := fun p hp => by
      have hne : p ≠ o := fun e => by
        have := (List.mem_filter.1 hp).2
        rw [e, hs] at this
        simp at this
      exact pw_ne (R := fun o p => ¬ (o.b = p.b ∧ o.k = p.k)) (fun a b h ⟨h1, h2⟩ => h ⟨h1.symm, h2.symm⟩) t.pl (hsub p hp) ho hne
    refine hQ fh w17 ⟨clrAt ts o.b o.k, os.filter (fun p => decide (p.s ≠ s)), ⟨B17, A17, hC.1, ?_, ?_, ?_, t.gd.filter _, t.pl.filter _, by have := t.le; omega, fun p hp => t.ser p (hsub p hp), t.lst, t.foot, fun p hp => t.obf p (hsub p hp), fun y hy => by have := t.lt y hy; have := F17.size; omega⟩, ?_⟩ (F17.mono fun y hy => ?_) (fun y hy => .inl hy)
    · have := hC.2.1
      have := t.pops
      omega
    · have e : dropU (os.map OT.ent) s = (os.filter (fun p => decide (p.s ≠ s))).map OT.ent := by
        unfold dropU
        rw [List.filter_map]
        rfl
      rw [← e]
      exact M17
    · intro p hp
      have q := (t.obs p (hsub p hp)).keepH t (hsub p hp) F17 hF
      refine ⟨q.blk, q.refs, q.vals, q.bl, q.kl, ?_⟩
      rw [hC.2.2 _ _ q.kl, q.bit]
      have := hpl p hp
      rw [decide_eq_false this]
      rfl
    · unfold freeO
      rw [List.filter_map]
      rfl
    · obtain ⟨f1, f2, f3, f4, f5⟩ := t.foot
      simp at hy
      rcases hy with rfl | rfl | rfl | rfl <;> assumption
end
end Go.Proofs.YtnjmkhhaodgpbaaGreatX
namespace Go.Proofs.YtnjmkhhaodgpbaaGreatX
open Go.RowKit
set_option maxRecDepth 100000
def keyS (s h : Int) : Int := iOr .u64 (iShl .u64 s 7) (IntKind.wrap .u64 h)
theorem shl7 (s : Int) : iShl .u64 s 7 = IntKind.wrap .u64 (s * 128) := by
  unfold iShl
  have e : min (7 : Int).toNat IntKind.u64.bits = 7 := by decide
  rw [e]
  rfl
theorem or7 {a h : Nat} (ha : a * 128 + 127 < 18446744073709551616) (hh : h < 128) : iOr .u64 ((a * 128 : Nat) : Int) (h : Int) = ((a * 128 + h : Nat) : Int) := by
  have e1 : (BitVec.ofInt 64 ((a * 128 : Nat) : Int)).toNat = a * 128 := by rw [BitVec.toNat_ofInt]; omega
  have e2 : (BitVec.ofInt 64 (h : Int)).toNat = h := by rw [BitVec.toNat_ofInt]; omega
  unfold iOr
  change IntKind.wrap .u64 ((BitVec.ofInt 64 ((a * 128 : Nat) : Int) ||| BitVec.ofInt 64 (h : Int)).toNat : Int) = _
  rw [BitVec.toNat_or, e1, e2]
  have e3 : a * 128 ||| h = a * 128 + h := by
    have hs : h < 2 ^ 7 := by omega
    have := Nat.two_pow_add_eq_or_of_lt hs a
    rw [show (2 : Nat) ^ 7 = 128 by decide, Nat.mul_comm] at this
    exact this.symm
  rw [e3, u64w _ (by omega) (by omega)]
theorem keyS_eq {s h : Int} (h0 : 0 ≤ s) (h1 : s < 144115188075855872) (h2 : 0 ≤ h) (h3 : h < 128) : keyS s h = s * 128 + h := by
  obtain ⟨a, rfl⟩ : ∃ a : Nat, s = (a : Int) := ⟨s.toNat, by omega⟩
  obtain ⟨b, rfl⟩ : ∃ b : Nat, h = (b : Int) := ⟨h.toNat, by omega⟩
  unfold keyS
  rw [shl7, u64w _ (by omega) (by omega), u64w _ (by omega) (by omega)]
  have := or7 (a := a) (h := b) (by omega) (by omega)
  rw [show ((a : Int) * 128) = ((a * 128 : Nat) : Int) by omega, this]
  omega
theorem shr7 {n : Int} : iShr .u64 n 7 = n / 128 := by
  unfold iShr
  have e : min (7 : Int).toNat IntKind.u64.bits = 7 := by decide
  rw [e, Int.fdiv_eq_ediv_of_nonneg _ (by decide)]
  rfl
structure RI (rows : List (Int × Scn)) : Prop where
  srt : Srt ilt (keys rows)
  key : ∀ e ∈ rows, e.1 = e.2.serial * 128 + e.2.holder
  ser : ∀ e ∈ rows, 1 ≤ e.2.serial ∧ e.2.serial ≤ 72057594037927935
  hol : ∀ e ∈ rows, 1 ≤ e.2.holder ∧ e.2.holder ≤ 64
  dis : ∀ e ∈ rows, 0 ≤ e.2.dist ∧ e.2.dist ≤ 40
def ofR (rows : List (Int × Scn)) (s : Int) : List Scn := (rows.filter fun e => decide (e.2.serial = s)).map (·.2)
def runFrom (rows : List (Int × Scn)) (s : Int) : List Scn := (rows.takeWhile fun e => decide (e.1 / 128 = s)).map (·.2)
theorem filter_run : ∀ {l : List (Int × Scn)} {s : Int}, (keys l).Pairwise (fun a b => a < b) → (∀ e ∈ l, s * 128 ≤ e.1) → l.filter (fun e => decide (e.1 / 128 = s)) = l.takeWhile fun e => decide (e.1 / 128 = s)
  | [], _, _, _ => rfl
  | e :: l, s, hp, hs => by
    have hp' := hp
    unfold keys at hp
    rw [List.map_cons, List.pairwise_cons] at hp
    obtain ⟨h1, h2⟩ := hp
    by_cases h : e.1 / 128 = s
    · rw [List.filter_cons_of_pos (by simp [h]), List.takeWhile_cons_of_pos (by simp [h]), filter_run h2 (fun x hx => hs x (by simp [hx]))]
    · rw [List.filter_cons_of_neg (by simpa using h), List.takeWhile_cons_of_neg (by simpa using h)]
      apply List.filter_eq_nil_iff.2
      intro x hx
      have a1 := h1 x.1 (List.mem_map.2 ⟨x, hx, rfl⟩)
      have a2 := hs e (by simp)
      simp
      omega
theorem filter_drop : ∀ {l : List (Int × Scn)} {s : Int}, (keys l).Pairwise (fun a b => a < b) → l.filter (fun e => decide (e.1 / 128 = s)) = (l.dropWhile fun e => decide (e.1 < s * 128)).takeWhile fun e => decide (e.1 / 128 = s)
  | [], _, _ => rfl
  | e :: l, s, hp => by
    have hp' := hp
    unfold keys at hp
    rw [List.map_cons, List.pairwise_cons] at hp
    obtain ⟨h1, h2⟩ := hp
    by_cases h : e.1 < s * 128
    · rw [List.filter_cons_of_neg (by simp; omega), List.dropWhile_cons_of_pos (by simp [h])]
      exact filter_drop h2
    · rw [List.dropWhile_cons_of_neg (by simpa using h)]
      refine filter_run hp' fun x hx => ?_
      rcases List.mem_cons.1 hx with rfl | hx
      · omega
      · have a1 := h1 x.1 (List.mem_map.2 ⟨x, hx, rfl⟩)
        omega
theorem srt_lt {l : List Int} (h : Srt ilt l) : l.Pairwise (fun a b => a < b) := h.imp fun {a b} h => by simpa [ilt] using h
theorem ofR_eq {rows : List (Int × Scn)} {s : Int} (R : RI rows) : ofR rows s = runFrom (rows.dropWhile fun e => decide (e.1 < s * 128)) s := by
  unfold ofR runFrom
  rw [← filter_drop (srt_lt R.srt)]
  congr 1
  apply List.filter_congr
  intro e he
  have a1 := R.key e he
  have a2 := R.hol e he
  by_cases h : e.2.serial = s
  · rw [decide_eq_true h, decide_eq_true (by omega)]
  · rw [decide_eq_false h, decide_eq_false (by omega)]
theorem at_pos {l : List (Int × Scn)} {i : Nat} {k : Int} (hs : Srt ilt (keys l)) (hi : (keys l)[i]? = some k) : at_ ilt l k = i := by
  unfold at_
  rcases Nat.lt_trichotomy (rank ilt (keys l) k) i with h | h | h
  · have hl := (List.getElem?_eq_some_iff.1 hi).1
    have hr := List.getElem?_eq_getElem (show rank ilt (keys l) k < (keys l).length by omega)
    have h1 := rank_ge ilt_lin hs (Nat.le_refl _) hr
    have h2 := List.pairwise_iff_getElem.1 hs _ _ (by omega) hl h
    rw [(List.getElem?_eq_some_iff.1 hi).2] at h2
    rw [h1] at h2
    cases h2
  · exact h
  · have := rank_lt h hi
    simp [ilt] at this
theorem next_pos {l : List (Int × Scn)} {i : Nat} {k : Int} (hs : Srt ilt (keys l)) (hi : (keys l)[i]? = some k) : next ilt l k = (keys l)[i + 1]? := by
  unfold next has
  rw [at_pos hs hi, decide_eq_true hi, if_pos rfl]
theorem drop_rank {l : List (Int × Scn)} {k : Int} : l.drop (at_ ilt l k) = l.dropWhile fun e => decide (e.1 < k) := by
  induction l with
  | nil => rfl
  | cons e l ih =>
    unfold at_ rank keys at *
    rw [List.map_cons]
    by_cases h : e.1 < k
    · rw [List.takeWhile_cons_of_pos (by simp [ilt, h]), List.dropWhile_cons_of_pos (by simp [h]), List.length_cons, List.drop_succ_cons]
      exact ih
    · rw [List.takeWhile_cons_of_neg (by simp [ilt]; omega), List.dropWhile_cons_of_neg (by simpa using h)]
      rfl
theorem next_first {l : List (Int × Scn)} {s : Int} (R : RI l) (h0 : 0 ≤ s) (h1 : s < 144115188075855872) : next ilt l (keyS s 0) = (keys l)[at_ ilt l (s * 128)]? ∧ ofR l s = runFrom (l.drop (at_ ilt l (s * 128))) s := by
  rw [keyS_eq h0 h1 (by omega) (by omega), show s * 128 + 0 = s * 128 by omega]
  refine ⟨?_, by rw [drop_rank]; exact ofR_eq R⟩
  unfold next
  have : has ilt l (s * 128) = false := by
    cases h : has ilt l (s * 128) with
    | false => rfl
    | true =>
      have hm := (has_iff ilt_lin R.srt).1 h
      obtain ⟨e, he, hk⟩ := List.mem_map.1 hm
      have a1 := R.key e he
      have a2 := R.hol e he
      have a3 : e.1 = s * 128 := hk
      omega
  rw [this]
  rfl
theorem ofR_none {l : List (Int × Scn)} {s : Int} (R : RI l) (h : 144115188075855872 ≤ s) : ofR l s = [] := by
  unfold ofR
  rw [List.filter_eq_nil_iff.2]
  · rfl
  · intro e he
    have := R.ser e he
    simp
    omega
def stepIn (bur : List Int) (s in_ : Int) (r : Scn) : Int := if r.present = true ∧ s ∉ bur ∧ (in_ = 0 ∨ r.dist < in_) then r.dist else in_
def inOf (rows : List (Int × Scn)) (bur : List Int) (s : Int) : Int := (ofR rows s).foldl (stepIn bur s) 0
structure Sc where
  c : Cfg
  node : Int
  last : Int
  os : List (Int × Int)
  rows : List (Int × Scn)
  bur : List Int
  cur : Int
def keepS (S : Sc) (s : Int) : Sc := { S with os := setO S.os s (inOf S.rows S.bur s) }
def putRow (rows : List (Int × Scn)) (r : Scn) : List (Int × Scn) := if has ilt rows (keyS r.serial r.holder) = true ∨ rows.length < 4096 then put ilt rows (keyS r.serial r.holder) r else rows
def putS (S : Sc) (r : Scn) : Sc := keepS { S with rows := putRow S.rows r } r.serial
def mineS (S : Sc) (m : Msg) (k : Int) : Prop := m.kind = k ∧ Right m ∧ m.to = S.node ∧ m.frm ≤ S.c.nodes ∧ m.tn = S.node
def okRow (r : Scn) : Prop := (1 ≤ r.serial ∧ r.serial ≤ 72057594037927935) ∧ (1 ≤ r.holder ∧ r.holder ≤ 64) ∧ (0 ≤ r.dist ∧ r.dist ≤ 40)
theorem RI.putR {rows : List (Int × Scn)} {r : Scn} (R : RI rows) (h : okRow r) : RI (putRow rows r) := by
  unfold putRow
  split
  · obtain ⟨h1, h2, h3⟩ := h
    have hm : ∀ e ∈ put ilt rows (keyS r.serial r.holder) r, e = (keyS r.serial r.holder, r) ∨ e ∈ rows := fun e he => ((mem_put ilt_lin R.srt).1 he).imp_right (·.2)
    refine ⟨put_srt ilt_lin R.srt, ?_, ?_, ?_, ?_⟩ <;> intro e he <;> rcases hm e he with rfl | he
    · exact keyS_eq (by omega) (by omega) (by omega) (by omega)
    · exact R.key e he
    · exact h1
    · exact R.ser e he
    · exact h2
    · exact R.hol e he
    · exact h3
    · exact R.dis e he
  · exact R
theorem RI.drpR {rows : List (Int × Scn)} {k : Int} (R : RI rows) : RI (drp ilt rows k) := by
  have hm : ∀ e ∈ drp ilt rows k, e ∈ rows := fun e he => ((mem_drp ilt_lin R.srt).1 he).2
  exact ⟨drp_srt ilt_lin R.srt, fun e he => R.key e (hm e he), fun e he => R.ser e (hm e he), fun e he => R.hol e (hm e he), fun e he => R.dis e (hm e he)⟩
theorem ofR_mem {rows : List (Int × Scn)} {s : Int} {r : Scn} (h : r ∈ ofR rows s) : ∃ e ∈ rows, e.2 = r := by
  obtain ⟨e, he, rfl⟩ := List.mem_map.1 h
  exact ⟨e, (List.mem_filter.1 he).1, rfl⟩
theorem fold_in {bur : List Int} {s : Int} : ∀ {l : List Scn} {i : Int}, (∀ r ∈ l, 0 ≤ r.dist ∧ r.dist ≤ 40) → 0 ≤ i → i ≤ 40 → 0 ≤ l.foldl (stepIn bur s) i ∧ l.foldl (stepIn bur s) i ≤ 40
  | [], i, _, h1, h2 => ⟨h1, h2⟩
  | r :: l, i, h, h1, h2 => by
    have hr := h r (by simp)
    have : 0 ≤ stepIn bur s i r ∧ stepIn bur s i r ≤ 40 := by
      unfold stepIn
      split
      · exact hr
      · exact ⟨h1, h2⟩
    rw [List.foldl_cons]
    exact fold_in (fun x hx => h x (by simp [hx])) this.1 this.2
theorem inOf_rng {rows : List (Int × Scn)} {bur : List Int} {s : Int} (R : RI rows) : 0 ≤ inOf rows bur s ∧ inOf rows bur s ≤ 40 := fold_in (fun r hr => by
  obtain ⟨e, he, rfl⟩ := ofR_mem hr
  exact R.dis e he) (by omega) (by omega)
end Go.Proofs.YtnjmkhhaodgpbaaGreatX
namespace Go.Proofs.YtnjmkhhaodgpbaaGreatX
open Go.RowKit
set_option maxRecDepth 100000
def scells (S : Sc) (x : HB) (gt bm : Nat) : List Value := S.c.cells ++ [.pointer (some (at0 x.h 0)), .pointer (some (at0 gt 0)), .map (some bm), .int .u64 S.cur]
def bent (s : Int) : Int × Value := (s, .int .i64 1)
structure PSa (w : World) (g : Nat) (x : HB) (ft fh : List Nat) (gt bm : Nat) (rt : List Nat) (S : Sc) : Prop where
  blk : Blk w g (scells S x gt bm) 98
  heap : PH w x fh S.node S.last S.os
  tab : T_SC w (at0 gt 0) rt 4096 S.rows
  map : MU w bm (S.bur.map bent)
  ri : RI S.rows
  foot : ft = g :: bm :: (rt ++ fh)
  gb : g ≠ bm
  gr : g ∉ rt
  gh : g ∉ fh
  br : bm ∉ rt
  bh : bm ∉ fh
  rh : ∀ y ∈ rt, y ∉ fh
def PS (w : World) (g : Nat) (x : HB) (ft : List Nat) (S : Sc) : Prop := ∃ fh gt bm rt, PSa w g x ft fh gt bm rt S
def sq : List Scn → List Value := fun l => l.flatMap Scn.cells
section
variable {w w' W : World} {Q : QT} {g gt bm : Nat} {x : HB} {ft fh rt F : List Nat} {S S' : Sc} {s d : Int} {r : Scn}
theorem PSa.mem (t : PSa w g x ft fh gt bm rt S) : g ∈ ft ∧ bm ∈ ft ∧ (∀ y ∈ rt, y ∈ ft) ∧ (∀ y ∈ fh, y ∈ ft) := by
  rw [t.foot]
  exact ⟨by simp, by simp, fun y hy => by simp [hy], fun y hy => by simp [hy]⟩
theorem PSa.keep (t : PSa w g x ft fh gt bm rt S) (f : Fr F w w') (hd : ∀ y ∈ ft, y ∉ F) : PSa w' g x ft fh gt bm rt S := by
  obtain ⟨m1, m2, m3, m4⟩ := t.mem
  exact ⟨t.blk.keep f (hd _ m1), t.heap.keep f (fun y hy => hd _ (m4 y hy)), t.tab.keep f (fun y hy => hd _ (m3 y hy)), t.map.keep f (hd _ m2), t.ri, t.foot, t.gb, t.gr, t.gh, t.br, t.bh, t.rh⟩
theorem PSa.keep' (t : PSa w g x ft fh gt bm rt S) (f : Fr [] w w') : PSa w' g x ft fh gt bm rt S := t.keep f (by simp)
theorem PS.keep (t : PS w g x ft S) (f : Fr F w w') (hd : ∀ y ∈ ft, y ∉ F) : PS w' g x ft S := by
  obtain ⟨fh, gt, bm, rt, t⟩ := t
  exact ⟨fh, gt, bm, rt, t.keep f hd⟩
theorem PS.keep' (t : PS w g x ft S) (f : Fr [] w w') : PS w' g x ft S := t.keep f (by simp)
theorem PSa.lt (t : PSa w g x ft fh gt bm rt S) : ∀ y ∈ ft, y < w.heap.size := by
  intro y hy
  rw [t.foot] at hy
  rcases List.mem_cons.1 hy with rfl | hy
  · exact t.blk.lt
  rcases List.mem_cons.1 hy with rfl | hy
  · exact t.map.lt
  rcases List.mem_append.1 hy with hy | hy
  · exact t.tab.lt y hy
  · exact t.heap.lt y hy
theorem PS.lt (t : PS w g x ft S) : ∀ y ∈ ft, y < w.heap.size := by
  obtain ⟨fh, gt, bm, rt, t⟩ := t
  exact t.lt
theorem PS.ri (t : PS w g x ft S) : RI S.rows := by
  obtain ⟨fh, gt, bm, rt, t⟩ := t
  exact t.ri
theorem PS.size (t : PS w g x ft S) : S.rows.length ≤ 4096 := by
  obtain ⟨fh, gt, bm, rt, t⟩ := t
  have := t.tab.size
  omega
theorem PSa.cat (t : PSa w g x ft fh gt bm rt S) (i : Nat) {u : Value} (hu : (scells S x gt bm)[i]? = some u) : w.cell? ((at0 g 0).add i) = some u := t.blk.cat i _ hu
def AftS (w : World) (g : Nat) (x : HB) (ft : List Nat) (S' : Sc) (v : Value) (Q : QT) : Prop := ∀ ft' w', PS w' g x ft' S' → Fr ft w w' → (∀ y ∈ ft', y ∈ ft ∨ w.heap.size ≤ y) → Q v w'
theorem AftS.same {v : Value} (h : AftS w g x ft S v Q) (t : PS w g x ft S) (f : Fr [] w w') : Q v w' := h ft w' (t.keep' f) f.any (fun y hy => .inl hy)
theorem AftS.next {v : Value} {ft' : List Nat} (h : AftS w g x ft S v Q) (f : Fr ft w w') (e : ∀ y ∈ ft', y ∈ ft ∨ w.heap.size ≤ y) : AftS w' g x ft' S v Q := fun ft2 w2 t2 f2 e3 => h ft2 w2 t2 (f.trans f2 e) (fun y hy => by
    have := f.size
    rcases e3 y hy with h' | h'
    · exact e y h'
    · exact .inr (by omega))
theorem findU_bur : findU (S.bur.map bent) s = if s ∈ S.bur then some (.int .i64 1) else none := by
  unfold findU
  rw [List.find?_map, Option.map_map]
  by_cases h : s ∈ S.bur
  · rw [if_pos h]
    cases hf : S.bur.find? ((fun x => decide (x.1 = s)) ∘ bent) with
    | none => exact absurd (show decide ((bent s).1 = s) = true by simp [bent]) (List.find?_eq_none.1 hf s h)
    | some y => rfl
  · rw [if_neg h]
    cases hf : S.bur.find? ((fun x => decide (x.1 = s)) ∘ bent) with
    | none => rfl
    | some y =>
      have h1 := List.find?_some hf
      have h2 := List.mem_of_find?_eq_some hf
      have : y = s := of_decide_eq_true (p := y = s) h1
      exact absurd (this ▸ h2) h
theorem bur_look (t : PSa w g x ft fh gt bm rt S) (h0 : 0 ≤ s) (h1 : s ≤ 18446744073709551615) (hQ : Q (.int .i64 (if s ∈ S.bur then 1 else 0)) w) :
    RunR Tryz.prog (Instr.lookup 96 (.map (some bm)) (.int .u64 s) false) w Q := by
  refine lookU (z := .int .i64 0) (K := 22) (E := 3) (by kernel_rfl) (by kernel_rfl) (by simp [zeroValue, typeInfo]; rfl) t.map (u64wf h0 h1) ?_
  rw [findU_bur]
  by_cases h : s ∈ S.bur
  · rw [if_pos h] at hQ ⊢
    exact hQ
  · rw [if_neg h] at hQ ⊢
    exact hQ
theorem key_spec {h : Int} (hQ : Q (.int .u64 (keyS s h)) w) : CallR Tryz.prog 52 #[.int .u64 s, .int .i64 h] w Q := by
  apply X52.sound
  unfold X52.f
  exact ⟨by omega, hQ⟩
theorem sq_len (l : List Scn) : (sq l).length = l.length * 6 := flat_length Scn.len l
theorem sq_one (l : List Scn) : ∀ u ∈ sq l, u.oneCell' = true := by
  intro u hu
  obtain ⟨e, _, he⟩ := List.mem_flatMap.1 hu
  exact e.one u he
theorem scn_at {p : Option Addr} {l : List Scn} {i : Nat} (hc : Cells w p (sq l)) (hi : l[i]? = some r) : ∃ a, p = some a ∧ At w (a.add (i * 6)) r.cells := by
  have h0 := hc (i * 6 + 0) _ (flat_get Scn.len l hi (j := 0) (u := .int .u64 r.serial) rfl)
  obtain ⟨a, ha, _⟩ := h0
  refine ⟨a, ha, fun j u hj => ?_⟩
  obtain ⟨b, hb, hv⟩ := hc (i * 6 + j) _ (flat_get Scn.len l hi hj)
  rw [ha] at hb
  injection hb with hb
  subst hb
  rw [add_add]
  exact hv
theorem get_of_key {rows : List (Int × Scn)} {i : Nat} {e : Int × Scn} (R : RI rows) (hi : rows[i]? = some e) : get ilt rows e.1 = some e.2 := (get_iff ilt_lin R.srt).2 (List.mem_of_getElem? hi)
theorem of_l0 (t : PS W g x ft S) (h0 : 0 ≤ s) (hQ : ∀ p c w', Own 52 6 w' p (ofR S.rows s).length c (sq (ofR S.rows s)) → Fr [] W w' → (∀ k ∈ fbl p, W.heap.size ≤ k) → Q (.slice p (ofR S.rows s).length c) w') :
    ∀ (f i : Nat) (acc : List Scn) (p : Option Addr) (c : Nat) (w1 : World), S.rows.length - i < f → i ≤ S.rows.length → acc.length ≤ i → acc ++ runFrom (S.rows.drop i) s = ofR S.rows s → Own 52 6 w1 p acc.length c (sq acc) → Fr [] W w1 → (∀ k ∈ fbl p, W.heap.size ≤ k) →
      X49.l0 Q f (some (at0 g 0)) s p acc.length c ((keys S.rows)[i]?.getD 0) (keys S.rows)[i]?.isSome w1
  | 0, i, acc, p, c, w1, hf, _, _, _, _, _, _ => absurd hf (Nat.not_lt_zero _)
  | f + 1, i, acc, p, c, w1, hf, hi, hl, he, ho, F, hp => by
    have R := t.ri
    have hsz := t.size
    have tt := t
    obtain ⟨fh, gt, bm, rt, t⟩ := t
    have t1 := t.keep' F
    rw [X49.l0]
    cases hk : S.rows[i]? with
    | none =>
      have : (keys S.rows)[i]? = none := by unfold keys; rw [List.getElem?_map, hk]; rfl
      rw [this]
      have hn : S.rows.drop i = [] := List.drop_eq_nil_of_le (List.getElem?_eq_none_iff.1 hk)
      rw [hn] at he
      have : acc = ofR S.rows s := by rw [← he]; simp [runFrom]
      refine bc_bool (fun e => by cases e) (fun _ => ?_)
      rw [this] at ho ⊢
      exact hQ p c w1 ho F hp
    | some e =>
      obtain ⟨hlt, hge⟩ := List.getElem?_eq_some_iff.1 hk
      have hkk : (keys S.rows)[i]? = some e.1 := by unfold keys; rw [List.getElem?_map, hk]; rfl
      rw [hkk]
      have hd : S.rows.drop i = e :: S.rows.drop (i + 1) := by rw [List.drop_eq_getElem_cons hlt, hge]
      refine bc_bool (fun _ => ⟨by omega, ?_⟩) (fun e => by cases e)
      rw [Option.getD_some, shr7]
      refine bc_eq (fun hs => ?_) (fun hs => ?_)
      · unfold X49.j1
        refine opt_some rfl (ld_ptr (t1.cat 23 rfl) (get_SC t1.tab (fun hn => ?_) (fun v hv w4 f4 => ?_)))
        · rw [get_of_key R hk] at hn; cases hn
        · have hve : v = e.2 := by rw [get_of_key R hk] at hv; injection hv with hv; exact hv.symm
          subst hve
          refine ⟨_, _, _, _, _, _, _, rfl, newB fun g12 w13 b13 f13 h13 => ?_⟩
          refine stAllB (vs := e.2.cells) b13 rfl fun w14 b14 f14 => ld_Scn (s := e.2) b14.cat ?_
          refine newB fun g21 w22 b22 f22 h22 => ?_
          have z1 := F.size
          have z4 := f4.size
          have z13 := f13.size
          have z14 := f14.size
          have F22 : Fr [] w1 w22 := (((f4.tr f13).trans f14 (fun y hy => .inr (by simp at hy; omega)))).tr f22
          have hb22 : Blk w22 g21 (sq [e.2]) 52 := by
            show Blk w22 g21 (e.2.cells ++ []) _
            rw [List.append_nil]
            exact b22
          refine app_step rowT47 (ho.keep' F22) (x := some (at0 g21 0)) (ys := sq [e.2]) (k := 1) (cells_one hb22) (sq_len _) some_ne (sq_one _) (by omega) (by omega) (W := W) hp (F.tr F22) fun p2 c2 w24 o24 hp2 F24 _ => ?_
          have t24 := t.keep' F24
          refine opt_some rfl (ld_ptr (t24.cat 23 rfl) (next_SC t24.tab ?_))
          rw [next_pos R.srt hkk]
          refine ⟨_, _, rfl, ?_⟩
          have e1 : acc.length + 1 = (acc ++ [e.2]).length := by simp
          rw [e1]
          refine of_l0 tt h0 hQ f (i + 1) (acc ++ [e.2]) p2 c2 w24 (by omega) (by omega) (by simp; omega) ?_ ?_ F24 hp2
          · rw [← he, hd]
            unfold runFrom
            rw [List.takeWhile_cons_of_pos (by simp [hs])]
            simp
          · have e2 : sq (acc ++ [e.2]) = sq acc ++ sq [e.2] := by simp [sq]
            rw [e2, ← e1]
            exact o24
      · have hn : runFrom (S.rows.drop i) s = [] := by
          rw [hd]
          unfold runFrom
          rw [List.takeWhile_cons_of_neg (by simp [hs])]
          rfl
        have : acc = ofR S.rows s := by rw [← he, hn]; simp
        rw [this] at ho ⊢
        exact hQ p c w1 ho F hp
theorem of_spec (t : PS w g x ft S) (h0 : 0 ≤ s) (h1 : s ≤ 18446744073709551615) (hQ : ∀ p c w', Own 52 6 w' p (ofR S.rows s).length c (sq (ofR S.rows s)) → Fr [] w w' → (∀ k ∈ fbl p, w.heap.size ≤ k) → Q (.slice p (ofR S.rows s).length c) w') :
    CallR Tryz.prog 49 #[.pointer (some (at0 g 0)), .int .u64 s] w Q := by
  apply X49.sound
  unfold X49.f
  refine drawn fun w1 f1 _ => ?_
  have t0 := t
  have R := t.ri
  obtain ⟨fh, gt, bm, rt, t⟩ := t
  have t1 := t.keep' f1
  have own0 : Own 52 6 w1 none ([] : List Scn).length 0 (sq []) := Own.nil
  refine opt_some rfl (ld_ptr (t1.cat 23 rfl) (key_spec ⟨_, rfl, ⟨t1.cat 23 rfl, t1.cat 23 rfl⟩, next_SC t1.tab ⟨_, _, rfl, S.rows.length + 1, ?_⟩⟩))
  by_cases hs : s < 144115188075855872
  · obtain ⟨e1, e2⟩ := next_first R h0 hs
    rw [e1]
    exact of_l0 t0 h0 hQ (S.rows.length + 1) (at_ ilt S.rows (s * 128)) [] none 0 w1 (by omega) (at_le _ _) (by simp) (by simpa using e2.symm) own0 f1 (by simp [fbl])
  · have hn := ofR_none (s := s) R (by omega)
    rw [hn] at hQ
    rw [X49.l0]
    refine bc_bool (fun hsm => ⟨by omega, ?_⟩) (fun _ => hQ _ _ _ own0 f1 (by simp [fbl]))
    cases hnx : next ilt S.rows (keyS s 0) with
    | none => rw [hnx] at hsm; cases hsm
    | some k =>
      rw [Option.getD_some, shr7]
      have hk : k ∈ keys S.rows := by
        unfold next at hnx
        exact List.mem_of_getElem? hnx
      obtain ⟨e, he, hek⟩ := List.mem_map.1 hk
      have a1 := R.key e he
      have a2 := R.ser e he
      have a3 := R.hol e he
      have a4 : e.1 = k := hek
      exact bc_eq (fun e => by omega) (fun _ => hQ _ _ _ own0 f1 (by simp [fbl]))
end
end Go.Proofs.YtnjmkhhaodgpbaaGreatX
namespace Go.Proofs.YtnjmkhhaodgpbaaGreatX
open Go.RowKit
set_option maxRecDepth 100000
section
variable {w w' W : World} {Q : QT} {g gt bm : Nat} {x : HB} {ft fh fh' rt rt' F : List Nat} {S S' : Sc} {s d : Int} {r : Scn}
theorem PSa.heap' {last' : Int} {os' : List (Int × Int)} (t : PSa w g x ft fh gt bm rt S) (h : PH w' x fh' S.node last' os') (f : Fr fh w w') (e : ∀ y ∈ fh', y ∈ fh ∨ w.heap.size ≤ y) :
    PSa w' g x (g :: bm :: (rt ++ fh')) fh' gt bm rt { S with last := last', os := os' } ∧ Fr ft w w' ∧ ∀ y ∈ g :: bm :: (rt ++ fh'), y ∈ ft ∨ w.heap.size ≤ y := by
  obtain ⟨m1, m2, m3, m4⟩ := t.mem
  have l1 := t.blk.lt
  have l2 := t.map.lt
  have l3 := t.tab.lt
  refine ⟨⟨t.blk.keep f t.gh, h, t.tab.keep f t.rh, t.map.keep f t.bh, t.ri, rfl, t.gb, t.gr, fun hm => ?_, t.br, fun hm => ?_, fun y hy hm => ?_⟩, f.mono m4, fun y hy => ?_⟩
  · rcases e g hm with h' | h'
    · exact t.gh h'
    · omega
  · rcases e bm hm with h' | h'
    · exact t.bh h'
    · omega
  · rcases e y hm with h' | h'
    · exact t.rh y hy h'
    · have := l3 y hy
      omega
  · rcases List.mem_cons.1 hy with rfl | hy
    · exact .inl m1
    rcases List.mem_cons.1 hy with rfl | hy
    · exact .inl m2
    rcases List.mem_append.1 hy with hy | hy
    · exact .inl (m3 y hy)
    · rcases e y hy with h' | h'
      · exact .inl (m4 y h')
      · exact .inr h'
theorem PSa.rows' {rows' : List (Int × Scn)} (t : PSa w g x ft fh gt bm rt S) (h : T_SC w' (at0 gt 0) rt' 4096 rows') (R : RI rows') (f : Fr rt w w') (e : ∀ y ∈ rt', y ∈ rt ∨ w.heap.size ≤ y) :
    PSa w' g x (g :: bm :: (rt' ++ fh)) fh gt bm rt' { S with rows := rows' } ∧ Fr ft w w' ∧ ∀ y ∈ g :: bm :: (rt' ++ fh), y ∈ ft ∨ w.heap.size ≤ y := by
  obtain ⟨m1, m2, m3, m4⟩ := t.mem
  have l1 := t.blk.lt
  have l2 := t.map.lt
  have l3 := t.heap.lt
  refine ⟨⟨t.blk.keep f t.gr, t.heap.keep f (fun y hy hm => t.rh y hm hy), h, t.map.keep f t.br, R, rfl, t.gb, fun hm => ?_, t.gh, fun hm => ?_, t.bh, fun y hy hm => ?_⟩, f.mono m3, fun y hy => ?_⟩
  · rcases e g hm with h' | h'
    · exact t.gr h'
    · omega
  · rcases e bm hm with h' | h'
    · exact t.br h'
    · omega
  · rcases e y hy with h' | h'
    · exact t.rh y h' hm
    · have := l3 y hm
      omega
  · rcases List.mem_cons.1 hy with rfl | hy
    · exact .inl m1
    rcases List.mem_cons.1 hy with rfl | hy
    · exact .inl m2
    rcases List.mem_append.1 hy with hy | hy
    · rcases e y hy with h' | h'
      · exact .inl (m3 y h')
      · exact .inr h'
    · exact .inl (m4 y hy)
theorem PSa.bur' {bur' : List Int} (t : PSa w g x ft fh gt bm rt S) (h : MU w' bm (bur'.map bent)) (f : Fr [bm] w w') : PSa w' g x ft fh gt bm rt { S with bur := bur' } ∧ Fr ft w w' := by
  obtain ⟨m1, m2, m3, m4⟩ := t.mem
  exact ⟨⟨t.blk.keep f (by simp; exact t.gb), t.heap.keep f (fun y hy hm => t.bh (by simp at hm; rwa [← hm])), t.tab.keep f (fun y hy hm => t.br (by simp at hm; rwa [← hm])), h, t.ri, t.foot, t.gb, t.gr, t.gh, t.br, t.bh, t.rh⟩, f.mono fun y hy => by simp at hy; rw [hy]; exact m2⟩
theorem PSa.cur' (t : PSa w g x ft fh gt bm rt S) (k : Int) {K : World → Prop} (hK : ∀ w', PSa w' g x ft fh gt bm rt { S with cur := k } → Fr ft w w' → K w') : stK w ((at0 g 0).add 25) (.int .u64 k) K := by
  obtain ⟨m1, m2, m3, m4⟩ := t.mem
  refine stB (i := 25) t.blk (show 25 < 26 by omega) fun w' b f => hK w' ⟨b, t.heap.keep f (fun y hy hm => t.gh (by simp at hm; rwa [← hm])), t.tab.keep f (fun y hy hm => t.gr (by simp at hm; rwa [← hm])), t.map.keep f (by simp; exact fun e => t.gb e.symm), t.ri, t.foot, t.gb, t.gr, t.gh, t.br, t.bh, t.rh⟩ (f.mono fun y hy => by simp at hy; rw [hy]; exact m1)
theorem keep_l0 (t : PS W g x ft S) (h0 : 0 ≤ s) (h1 : s ≤ 18446744073709551615) (hQ : AftS W g x ft (keepS S s) (.tuple #[]) Q) {p : Option Addr} {c : Nat} {w0 : World} (ho : Own 52 6 w0 p (ofR S.rows s).length c (sq (ofR S.rows s))) (F0 : Fr [] W w0) :
    ∀ (f i : Nat) (w1 : World), (ofR S.rows s).length - i < f → i ≤ (ofR S.rows s).length → Fr [] w0 w1 → X73.l0 Q f (some (at0 g 0)) s (((ofR S.rows s).take i).foldl (stepIn S.bur s) 0) p (ofR S.rows s).length c ((ofR S.rows s).length : Int) (i : Int) w1
  | 0, i, w1, hf, _, _ => absurd hf (Nat.not_lt_zero _)
  | f + 1, i, w1, hf, hi, F1 => by
    have R := t.ri
    have hsz := t.size
    have tt := t
    obtain ⟨fh, gt, bm, rt, t⟩ := t
    have F := F0.tr F1
    have t1 := t.keep' F
    have hle : (ofR S.rows s).length ≤ 4096 := by
      unfold ofR
      rw [List.length_map]
      exact Nat.le_trans (List.length_filter_le _ _) hsz
    rw [X73.l0]
    refine bc_dec (fun hlt => ⟨⟨by omega, by omega⟩, ?_⟩) (fun hge => ?_)
    · have hl : i < (ofR S.rows s).length := by omega
      have hr := List.getElem?_eq_getElem hl
      obtain ⟨a, ha, hat⟩ := scn_at ((ho.keep' F1).cells) hr
      generalize (ofR S.rows s)[i] = r at *
      rw [Int.toNat_natCast]
      have e1 : IntKind.wrap .i64 ((i : Int) + 1) = ((i + 1 : Nat) : Int) := by rw [i64w ((i : Int) + 1) (by omega) (by omega)]; omega
      have e2 : ((ofR S.rows s).take (i + 1)).foldl (stepIn S.bur s) 0 = stepIn S.bur s (((ofR S.rows s).take i).foldl (stepIn S.bur s) 0) r := by
        rw [List.take_add_one, hr, List.foldl_append]
        rfl
      have ih := fun w2 (F2 : Fr [] w1 w2) => keep_l0 tt h0 h1 hQ ho F0 f (i + 1) w2 (by omega) (by omega) (F1.tr F2)
      rw [e2] at ih
      rw [e1]
      refine opt_some ha (ld_Scn (s := r) hat (newB fun g8 w9 b9 f9 h9 => stAllB (vs := r.cells) b9 rfl fun w10 b10 f10 => ?_))
      have z9 := f9.size
      have F10 : Fr [] w1 w10 := f9.trans f10 (fun y hy => .inr (by simp at hy; omega))
      have t10 := t1.keep' F10
      have ih := ih w10 F10
      unfold stepIn at ih
      refine ld_bool (b10.cat 2 _ rfl) (bc_bool (fun hp => opt_some rfl (ld_map (t10.cat 24 rfl) (bur_look t10 h0 h1 ⟨_, rfl, ?_⟩))) (fun hp => ?_))
      · by_cases hb : s ∈ S.bur
        · rw [if_pos hb]
          rw [if_neg (fun hh => hh.2.1 hb)] at ih
          exact bc_eq (fun e => by cases e) (fun _ => ih)
        · rw [if_neg hb]
          refine bc_eqt' rfl (bc_eq (fun hz => ?_) (fun hz => ?_))
          · rw [if_pos ⟨hp, hb, .inl hz⟩] at ih
            exact ld_int (b10.cat 5 _ rfl) ih
          · refine ld_int (b10.cat 5 _ rfl) (bc_dec (fun hd => ?_) (fun hd => ?_))
            · rw [if_pos ⟨hp, hb, .inr hd⟩] at ih
              exact ld_int (b10.cat 5 _ rfl) ih
            · rw [if_neg (fun hh => hh.2.2.elim hz hd)] at ih
              exact ih
      · rw [if_neg (fun hh => by rw [hp] at hh; cases hh.1)] at ih
        exact ih
    · have : (ofR S.rows s).take i = ofR S.rows s := List.take_of_length_le (by omega)
      rw [this]
      obtain ⟨r1, r2⟩ := inOf_rng (bur := S.bur) (s := s) R
      refine opt_some rfl (ld_ptr (t1.cat 22 rfl) (setIn_spec t1.heap h0 h1 r1 r2 fun c2 fh' w' P' f' e' => ⟨_, rfl, ?_⟩))
      obtain ⟨t2, f2, e2⟩ := t1.heap' P' f' e'
      exact hQ _ w' ⟨_, _, _, _, t2⟩ (F.any.tr f2) (fun y hy => (e2 y hy).imp_right fun h => by have := F.size; omega)
theorem keep_spec (t : PS w g x ft S) (h0 : 0 ≤ s) (h1 : s ≤ 18446744073709551615) (hQ : AftS w g x ft (keepS S s) (.tuple #[]) Q) : CallR Tryz.prog 73 #[.pointer (some (at0 g 0)), .int .u64 s] w Q := by
  apply X73.sound
  unfold X73.f
  refine of_spec t h0 h1 fun p c w2 o2 f2 _ => ⟨_, _, _, rfl, (ofR S.rows s).length + 1, ?_⟩
  exact keep_l0 t h0 h1 hQ o2 f2 _ 0 w2 (by omega) (by omega) (Fr.refl _)
theorem put_spec (t : PS w g x ft S) (hr : okRow r) (hQ : AftS w g x ft (putS S r) (.tuple #[]) Q) : CallR Tryz.prog 55 #[.pointer (some (at0 g 0)), r.val] w Q := by
  apply X55.sound
  unfold X55.f
  refine newB fun g1 w2 b2 f2 h2 => drawn fun w3 f3 _ => ?_
  have b2 : Blk w2 g1 r.cells 52 := b2
  have b3 := b2.keep' f3
  have F3 := f2.tr f3
  have R := t.ri
  have tt := t.keep' F3
  obtain ⟨fh, gt, bm, rt, t⟩ := t
  have t3 := t.keep' F3
  have hs := hr.1
  refine opt_some rfl (ld_ptr (t3.cat 23 rfl) (ld_int (b3.cat 0 _ rfl) (ld_int (b3.cat 1 _ rfl) (key_spec ⟨_, rfl, ⟨t3.cat 23 rfl, t3.cat 23 rfl⟩, ld_Scn (s := r) b3.cat ⟨⟨fun j u hj => b3.cat j u hj, fun j u hj => b3.cat j u hj⟩, ?_⟩⟩))))
  have ng : ∀ {y : Nat}, y ∈ ft → y ≠ g1 := fun hy => by have := t.lt _ hy; omega
  have hQ3 : AftS w3 g x ft (putS S r) (.tuple #[]) Q := hQ.next F3.any (fun y hy => .inl hy)
  refine put_SC t3.tab (fun hn hm w' f' => ⟨_, rfl, ld_int ((b3.keep' f').cat 0 _ rfl) ?_⟩) (fun hh rt' w' T' f' e' => ⟨_, rfl, ?_⟩)
  · have e : putRow S.rows r = S.rows := by
      unfold putRow
      rw [if_neg (by rw [hn]; rintro (h | h); cases h; omega)]
    unfold putS at hQ3
    rw [e] at hQ3
    refine keep_spec (tt.keep' f') (by omega) (by omega) ?_
    intro ft2 w2 P2 f2 e2
    exact ⟨rfl, hQ3.next f'.any (fun y hy => .inl hy) ft2 w2 P2 f2 e2⟩
  · have e : putRow S.rows r = put ilt S.rows (keyS r.serial r.holder) r := by
      unfold putRow
      rw [if_pos (hh.imp_right fun h => by omega)]
    obtain ⟨t2, f2, e2⟩ := t3.rows' T' (by rw [← e]; exact R.putR hr) f' e'
    have bg : g1 ∉ rt := fun hm => ng (t.mem.2.2.1 _ hm) rfl
    refine ld_int ((b3.keep f' bg).cat 0 _ rfl) (keep_spec ⟨_, _, _, _, t2⟩ (by omega) (by omega) ?_)
    unfold putS at hQ3
    rw [e] at hQ3
    intro ft2 w2 P2 f2' e2'
    exact ⟨rfl, hQ3.next f2 e2 ft2 w2 P2 f2' e2'⟩
end
end Go.Proofs.YtnjmkhhaodgpbaaGreatX
namespace Go.Proofs.YtnjmkhhaodgpbaaGreatX
open Go.RowKit
set_option maxRecDepth 100000
def X8.l0 (Q : QT) : Nat → Addr → (Option Addr) → (Option Addr) → Int → World → Prop
  | 0, _, _, _, _, _ => False
  | k + 1, t2, t7, t9, t10, w => bcase (decide (t10 < (5 : Int))) (CallR Tryz.prog 25 #[.pointer t7, .int .i64 1, .int .i64 0] w fun v1 w2 => ∃ (y3 y4 : Int), v1 = .tuple #[.int .u64 y3, .int .i64 y4] ∧ CallR Tryz.prog 26 #[.pointer t9, .int .i64 1, .int .i64 0] w2 fun v5 w6 => ∃ (y7 y8 : Int), v5 = .tuple #[.int .u64 y7, .int .i64 y8] ∧ X8.l0 Q k t2 t7 t9 (IntKind.wrap .i64 (t10 + (1 : Int))) w6) (ldI .i64 w (t2.add 0) fun x9 => ldI .i64 w (t2.add 1) fun x10 => ldI .i64 w (t2.add 2) fun x11 => ldI .i64 w (t2.add 3) fun x12 => ldI .i64 w (t2.add 4) fun x13 => ldI .i64 w (t2.add 5) fun x14 => ldI .i64 w (t2.add 6) fun x15 => ldI .i64 w (t2.add 7) fun x16 => ldI .i64 w (t2.add 8) fun x17 => ldI .i64 w (t2.add 9) fun x18 => ldI .i64 w (t2.add 10) fun x19 => ldI .u64 w (t2.add 11) fun x20 => ldI .u64 w (t2.add 12) fun x21 => ldI .u64 w (t2.add 13) fun x22 => ldI .u64 w (t2.add 14) fun x23 => ldI .u64 w (t2.add 15) fun x24 => ldI .u64 w (t2.add 16) fun x25 => ldI .i64 w (t2.add 17) fun x26 => ldI .i64 w (t2.add 18) fun x27 => ldI .i64 w (t2.add 19) fun x28 => ldI .u64 w (t2.add 20) fun x29 => ldI .u64 w (t2.add 21) fun x30 => CallR Tryz.prog 27 #[.agg #[.int .i64 x9, .int .i64 x10, .int .i64 x11, .int .i64 x12, .int .i64 x13, .int .i64 x14, .int .i64 x15, .int .i64 x16, .int .i64 x17, .int .i64 x18, .int .i64 x19, .int .u64 x20, .int .u64 x21, .int .u64 x22, .int .u64 x23, .int .u64 x24, .int .u64 x25, .int .i64 x26, .int .i64 x27, .int .i64 x28, .int .u64 x29, .int .u64 x30], .pointer t7] w fun v31 w32 => ∃ (y33 : Option Addr) (y34 : Int), v31 = .tuple #[.pointer y33, .int .i64 y34] ∧ bcase (y34 != (0 : Int)) (Q (.tuple #[.pointer none, .pointer none, .pointer none]) w32) (bcase (Option.isNone y33) (Q (.tuple #[.pointer none, .pointer none, .pointer none]) w32) (ldI .i64 w32 (t2.add 0) fun x35 => ldI .i64 w32 (t2.add 1) fun x36 => ldI .i64 w32 (t2.add 2) fun x37 => ldI .i64 w32 (t2.add 3) fun x38 => ldI .i64 w32 (t2.add 4) fun x39 => ldI .i64 w32 (t2.add 5) fun x40 => ldI .i64 w32 (t2.add 6) fun x41 => ldI .i64 w32 (t2.add 7) fun x42 => ldI .i64 w32 (t2.add 8) fun x43 => ldI .i64 w32 (t2.add 9) fun x44 => ldI .i64 w32 (t2.add 10) fun x45 => ldI .u64 w32 (t2.add 11) fun x46 => ldI .u64 w32 (t2.add 12) fun x47 => ldI .u64 w32 (t2.add 13) fun x48 => ldI .u64 w32 (t2.add 14) fun x49 => ldI .u64 w32 (t2.add 15) fun x50 => ldI .u64 w32 (t2.add 16) fun x51 => ldI .i64 w32 (t2.add 17) fun x52 => ldI .i64 w32 (t2.add 18) fun x53 => ldI .i64 w32 (t2.add 19) fun x54 => ldI .u64 w32 (t2.add 20) fun x55 => ldI .u64 w32 (t2.add 21) fun x56 => CallR Tryz.prog 28 #[.agg #[.int .i64 x35, .int .i64 x36, .int .i64 x37, .int .i64 x38, .int .i64 x39, .int .i64 x40, .int .i64 x41, .int .i64 x42, .int .i64 x43, .int .i64 x44, .int .i64 x45, .int .u64 x46, .int .u64 x47, .int .u64 x48, .int .u64 x49, .int .u64 x50, .int .u64 x51, .int .i64 x52, .int .i64 x53, .int .i64 x54, .int .u64 x55, .int .u64 x56], .pointer t9] w32 fun v57 w58 => ∃ (y59 : Option Addr), v57 = .pointer y59 ∧ Q (.tuple #[.pointer y33, .pointer t7, .pointer y59]) w58)))
def X8.j1 (Q : QT) (t2 : Addr) (t7 t9 : Option Addr) (w : World) : Prop := ∃ m1, X8.l0 Q m1 t2 t7 t9 (0 : Int) w
def X8.f (a0_0 a0_1 a0_2 a0_3 a0_4 a0_5 a0_6 a0_7 a0_8 a0_9 a0_10 a0_11 a0_12 a0_13 a0_14 a0_15 a0_16 a0_17 a0_18 a0_19 a0_20 a0_21 a1 : Int) (w : World) (Q : QT) : Prop := newK w #[.int .i64 a0_0, .int .i64 a0_1, .int .i64 a0_2, .int .i64 a0_3, .int .i64 a0_4, .int .i64 a0_5, .int .i64 a0_6, .int .i64 a0_7, .int .i64 a0_8, .int .i64 a0_9, .int .i64 a0_10, .int .u64 a0_11, .int .u64 a0_12, .int .u64 a0_13, .int .u64 a0_14, .int .u64 a0_15, .int .u64 a0_16, .int .i64 a0_17, .int .i64 a0_18, .int .i64 a0_19, .int .u64 a0_20, .int .u64 a0_21] 27 fun g1 w2 => CallR Tryz.prog 23 #[.int .i64 a1, .int .i64 256, .int .i64 12, .int .u64 0] w2 fun v3 w4 => ∃ (y5 : Option Addr) (y6 : Int), v3 = .tuple #[.pointer y5, .int .i64 y6] ∧ CallR Tryz.prog 24 #[.int .i64 a1, .int .i64 256, .int .i64 12, .int .u64 0] w4 fun v7 w8 => ∃ (y9 : Option Addr), v7 = .pointer y9 ∧ bcase (y6 != (0 : Int)) (Q (.tuple #[.pointer none, .pointer none, .pointer none]) w8) (bcase (Option.isNone y5) (Q (.tuple #[.pointer none, .pointer none, .pointer none]) w8) (bcase (Option.isNone y9) (Q (.tuple #[.pointer none, .pointer none, .pointer none]) w8) (X8.j1 Q g1 y5 y9 w8)))
def X8.S (Q : QT) : Segs
  | 0, φ, ρ, w => qA (ρ 2) fun t2 => qP (ρ 7) fun t7 => qP (ρ 9) fun t9 => qI .i64 (ρ 10) fun t10 => X8.l0 Q (φ 0) t2 t7 t9 t10 w
  | 1, φ, ρ, w => qA (ρ 2) fun t2 => qP (ρ 7) fun t7 => qP (ρ 9) fun t9 => X8.j1 Q t2 t7 t9 w
  | _, _, _, _ => False
noncomputable def X8.an : Ann := (.seq .leaf (.seq .leaf (.seq .leaf (.seq (.seq .leaf (.cond (.seq .leaf .leaf) .leaf)) (.join 1 (.seq (.seq .leaf (.block (.loop 0 (.seq (.seq .leaf (.cond .leaf .leaf)) (.seq (.block (.seq .leaf .leaf)) .leaf))))) (.seq .leaf (.seq (.seq .leaf (.cond (.seq .leaf .leaf) .leaf)) (.seq .leaf .leaf)))))))))
noncomputable def X8.c : Code := Tryz.f8.body.getD .skip
theorem X8.v (Q : QT) : V Tryz.prog (X8.S Q) X8.an X8.c (retC Tryz.prog Tryz.f8 Q) := ⟨trivial, ⟨trivial, ⟨trivial, ⟨⟨trivial, ⟨⟨trivial, trivial⟩, trivial⟩⟩, ⟨(by
    intro φ ρ w h
    simp only [X8.S] at h
    obtain ⟨t2, e2, h⟩ := qA_elim h
    obtain ⟨t7, e7, h⟩ := qP_elim h
    obtain ⟨t9, e9, h⟩ := qP_elim h
    exact ⟨(((Env.nil.put (some 2) (.pointer (some t2))).put (some 7) (.pointer t7)).put (some 9) (.pointer t9)), Env.le_put e9 (Env.le_put e7 (Env.le_put e2 (Env.le_nil _))), Eq.mp (by kernel_rfl) h⟩), ⟨⟨trivial, ⟨(by
    intro φ ρ w h
    simp only [X8.S] at h
    obtain ⟨t2, e2, h⟩ := qA_elim h
    obtain ⟨t7, e7, h⟩ := qP_elim h
    obtain ⟨t9, e9, h⟩ := qP_elim h
    obtain ⟨t10, e10, h⟩ := qI_elim h
    cases hk : φ 0 with
    | zero => rw [hk] at h; exact h.elim
    | succ k => rw [hk] at h; exact ⟨k, Nat.lt_succ_self k, ((((Env.nil.put (some 2) (.pointer (some t2))).put (some 7) (.pointer t7)).put (some 9) (.pointer t9)).put (some 10) (.int .i64 t10)), Env.le_put e10 (Env.le_put e9 (Env.le_put e7 (Env.le_put e2 (Env.le_nil _)))), Eq.mp (by kernel_rfl) h⟩), ⟨⟨trivial, ⟨trivial, trivial⟩⟩, ⟨⟨trivial, trivial⟩, trivial⟩⟩⟩⟩, ⟨trivial, ⟨⟨trivial, ⟨⟨trivial, trivial⟩, trivial⟩⟩, ⟨trivial, trivial⟩⟩⟩⟩⟩⟩⟩⟩⟩
theorem X8.sound (a0_0 a0_1 a0_2 a0_3 a0_4 a0_5 a0_6 a0_7 a0_8 a0_9 a0_10 a0_11 a0_12 a0_13 a0_14 a0_15 a0_16 a0_17 a0_18 a0_19 a0_20 a0_21 a1 : Int) (w : World) (Q : QT) (h : X8.f a0_0 a0_1 a0_2 a0_3 a0_4 a0_5 a0_6 a0_7 a0_8 a0_9 a0_10 a0_11 a0_12 a0_13 a0_14 a0_15 a0_16 a0_17 a0_18 a0_19 a0_20 a0_21 a1 w Q) : CallR Tryz.prog 8 #[.agg #[.int .i64 a0_0, .int .i64 a0_1, .int .i64 a0_2, .int .i64 a0_3, .int .i64 a0_4, .int .i64 a0_5, .int .i64 a0_6, .int .i64 a0_7, .int .i64 a0_8, .int .i64 a0_9, .int .i64 a0_10, .int .u64 a0_11, .int .u64 a0_12, .int .u64 a0_13, .int .u64 a0_14, .int .u64 a0_15, .int .u64 a0_16, .int .i64 a0_17, .int .i64 a0_18, .int .i64 a0_19, .int .u64 a0_20, .int .u64 a0_21], .int .i64 a1] w Q :=
  fn_sound noGr mixed Tryz.func8 (c := X8.c) (an := X8.an) (S := X8.S Q) (φ := fun _ => 0) (args := [.agg #[.int .i64 a0_0, .int .i64 a0_1, .int .i64 a0_2, .int .i64 a0_3, .int .i64 a0_4, .int .i64 a0_5, .int .i64 a0_6, .int .i64 a0_7, .int .i64 a0_8, .int .i64 a0_9, .int .i64 a0_10, .int .u64 a0_11, .int .u64 a0_12, .int .u64 a0_13, .int .u64 a0_14, .int .u64 a0_15, .int .u64 a0_16, .int .i64 a0_17, .int .i64 a0_18, .int .i64 a0_19, .int .u64 a0_20, .int .u64 a0_21], .int .i64 a1]) (by kernel_rfl) (by kernel_rfl) (by kernel_rfl) (X8.v Q) (Eq.mp (by kernel_rfl) h)
def X18.f (a0 a1 a2 a3 a4 a5 : Int) (w : World) (Q : QT) : Prop := newK w #[.int .i64 0, .int .i64 0, .int .i64 0, .int .u64 0, .int .u64 0, .int .i64 0, .int .i64 0, .int .i64 0, .int .i64 0, .int .u64 0, .slice none 0 0, .int .u64 0, .int .i64 0, .int .u64 0, .int .i64 0, .int .u64 0, .int .i64 0, .int .u64 0, .slice none 0 0] 41 fun g1 w2 => stAll w2 g1 [.int .i64 4, .int .i64 a0, .int .i64 a1, .int .u64 0, .int .u64 0, .int .i64 0, .int .i64 0, .int .i64 0, .int .i64 a1, .int .u64 a2, .slice none 0 0, .int .u64 0, .int .i64 0, .int .u64 a3, .int .i64 a4, .int .u64 5, .int .i64 a5, .int .u64 0, .slice none 0 0] fun w3 => ldI .i64 w3 (g1.add 0) fun x4 => ldI .i64 w3 (g1.add 1) fun x5 => ldI .i64 w3 (g1.add 2) fun x6 => ldI .u64 w3 (g1.add 3) fun x7 => ldI .u64 w3 (g1.add 4) fun x8 => ldI .i64 w3 (g1.add 5) fun x9 => ldI .i64 w3 (g1.add 6) fun x10 => ldI .i64 w3 (g1.add 7) fun x11 => ldI .i64 w3 (g1.add 8) fun x12 => ldI .u64 w3 (g1.add 9) fun x13 => ldSl w3 (g1.add 10) fun x14p x14n x14c => ldI .u64 w3 (g1.add 11) fun x15 => ldI .i64 w3 (g1.add 12) fun x16 => ldI .u64 w3 (g1.add 13) fun x17 => ldI .i64 w3 (g1.add 14) fun x18 => ldI .u64 w3 (g1.add 15) fun x19 => ldI .i64 w3 (g1.add 16) fun x20 => ldI .u64 w3 (g1.add 17) fun x21 => ldSl w3 (g1.add 18) fun x22p x22n x22c => Q (.agg #[.int .i64 x4, .int .i64 x5, .int .i64 x6, .int .u64 x7, .int .u64 x8, .int .i64 x9, .int .i64 x10, .int .i64 x11, .int .i64 x12, .int .u64 x13, .slice x14p x14n x14c, .int .u64 x15, .int .i64 x16, .int .u64 x17, .int .i64 x18, .int .u64 x19, .int .i64 x20, .int .u64 x21, .slice x22p x22n x22c]) w3
def X18.S (Q : QT) : Segs
  | _, _, _, _ => False
noncomputable def X18.an : Ann := (.seq .leaf (.seq .leaf .leaf))
noncomputable def X18.c : Code := Tryz.f18.body.getD .skip
theorem X18.v (Q : QT) : V Tryz.prog (X18.S Q) X18.an X18.c (retC Tryz.prog Tryz.f18 Q) := ⟨trivial, ⟨trivial, trivial⟩⟩
theorem X18.sound (a0 a1 a2 a3 a4 a5 : Int) (w : World) (Q : QT) (h : X18.f a0 a1 a2 a3 a4 a5 w Q) : CallR Tryz.prog 18 #[.int .i64 a0, .int .i64 a1, .int .u64 a2, .int .u64 a3, .int .i64 a4, .int .i64 a5] w Q :=
  fn_sound noGr mixed Tryz.func18 (c := X18.c) (an := X18.an) (S := X18.S Q) (φ := fun _ => 0) (args := [.int .i64 a0, .int .i64 a1, .int .u64 a2, .int .u64 a3, .int .i64 a4, .int .i64 a5]) (by kernel_rfl) (by kernel_rfl) (by kernel_rfl) (X18.v Q) (Eq.mp (by kernel_rfl) h)
def X21.l0 (Q : QT) : Nat → (Option Addr) → Nat → Nat → (Option Addr) → Nat → Nat → Int → World → Prop
  | 0, _, _, _, _, _, _, _, _ => False
  | k + 1, t0p, t0n, t0c, t1p, t1n, t1c, t5, w => bcase (decide (t5 < ((t0n : Nat) : Int))) (drewK w fun w1 => (0 ≤ t5 ∧ t5 < ((t0n : Nat) : Int)) ∧ optP t0p fun p2 => ldI .u64 w1 ((p2.add (Int.toNat t5 * 6)).add 0) fun x3 => ldI .i64 w1 ((p2.add (Int.toNat t5 * 6)).add 1) fun x4 => ldB w1 ((p2.add (Int.toNat t5 * 6)).add 2) fun x5 => ldI .u64 w1 ((p2.add (Int.toNat t5 * 6)).add 3) fun x6 => ldI .u64 w1 ((p2.add (Int.toNat t5 * 6)).add 4) fun x7 => ldI .i64 w1 ((p2.add (Int.toNat t5 * 6)).add 5) fun x8 => (0 ≤ t5 ∧ t5 < ((t1n : Nat) : Int)) ∧ optP t1p fun p9 => ldI .u64 w1 ((p9.add (Int.toNat t5 * 6)).add 0) fun x10 => ldI .i64 w1 ((p9.add (Int.toNat t5 * 6)).add 1) fun x11 => ldB w1 ((p9.add (Int.toNat t5 * 6)).add 2) fun x12 => ldI .u64 w1 ((p9.add (Int.toNat t5 * 6)).add 3) fun x13 => ldI .u64 w1 ((p9.add (Int.toNat t5 * 6)).add 4) fun x14 => ldI .i64 w1 ((p9.add (Int.toNat t5 * 6)).add 5) fun x15 => CallR Tryz.prog 32 #[.agg #[.int .u64 x3, .int .i64 x4, .bool x5, .int .u64 x6, .int .u64 x7, .int .i64 x8], .agg #[.int .u64 x10, .int .i64 x11, .bool x12, .int .u64 x13, .int .u64 x14, .int .i64 x15]] w1 fun v16 w17 => ∃ (y18 : Bool), v16 = .bool y18 ∧ bcase (!y18) (Q (.bool false) w17) (X21.l0 Q k t0p t0n t0c t1p t1n t1c (IntKind.wrap .i64 (t5 + (1 : Int))) w17)) (Q (.bool true) w)
def X21.S (Q : QT) : Segs
  | 0, φ, ρ, w => qSl (ρ 0) fun t0p t0n t0c => qSl (ρ 1) fun t1p t1n t1c => qI .i64 (ρ 5) fun t5 => X21.l0 Q (φ 0) t0p t0n t0c t1p t1n t1c t5 w
  | _, _, _, _ => False
def X16.f (a0 : Option Addr) (a1 : Int) (w : World) (Q : QT) : Prop := CallR Tryz.prog 42 #[.pointer a0, .int .u64 a1] w fun v1 w2 => ∃ (y3 y4 : Int) (y5p : Option Addr) (y5n y5c : Nat) (y6p : Option Addr) (y6n y6c : Nat) (y7 : Int) (y8 : Bool), v1 = .tuple #[.agg #[.int .u64 y3, .int .i64 y4, .slice y5p y5n y5c, .slice y6p y6n y6c, .int .i64 y7], .bool y8] ∧ newK w2 #[.int .u64 0, .int .i64 0, .slice none 0 0, .slice none 0 0, .int .i64 0] 89 fun g9 w10 => stAll w10 g9 [.int .u64 y3, .int .i64 y4, .slice y5p y5n y5c, .slice y6p y6n y6c, .int .i64 y7] fun w11 => ldI .i64 w11 (g9.add 4) fun x12 => Q (.int .i64 x12) w11
def X16.S (Q : QT) : Segs
  | _, _, _, _ => False
noncomputable def X16.an : Ann := (.seq .leaf (.seq .leaf (.seq .leaf .leaf)))
noncomputable def X16.c : Code := Tryz.f16.body.getD .skip
theorem X16.v (Q : QT) : V Tryz.prog (X16.S Q) X16.an X16.c (retC Tryz.prog Tryz.f16 Q) := ⟨trivial, ⟨trivial, ⟨trivial, trivial⟩⟩⟩
theorem X16.sound (a0 : Option Addr) (a1 : Int) (w : World) (Q : QT) (h : X16.f a0 a1 w Q) : CallR Tryz.prog 16 #[.pointer a0, .int .u64 a1] w Q :=
  fn_sound noGr mixed Tryz.func16 (c := X16.c) (an := X16.an) (S := X16.S Q) (φ := fun _ => 0) (args := [.pointer a0, .int .u64 a1]) (by kernel_rfl) (by kernel_rfl) (by kernel_rfl) (X16.v Q) (Eq.mp (by kernel_rfl) h)
def X24.f (a0 a1 a2 a3 : Int) (w : World) (Q : QT) : Prop := bcase (decide (a0 < (1 : Int))) (Q (.pointer none) w) (bcase (decide (a0 > (64 : Int))) (Q (.pointer none) w) (bcase (decide (a2 < (1 : Int))) (Q (.pointer none) w) (bcase (decide (a2 > (64 : Int))) (Q (.pointer none) w) (bcase (decide (a3 > (72057594037927935 : Int))) (Q (.pointer none) w) (bcase (decide (a1 < (16 : Int))) (Q (.pointer none) w) (bcase (decide (a1 > (4096 : Int))) (Q (.pointer none) w) ((16 : Int) ≠ 0 ∧ bcase ((Int.tmod a1 (16 : Int)) != (0 : Int)) (Q (.pointer none) w) (CallR Tryz.prog 58 #[.int .i64 a1] w fun v1 w2 => ∃ (y3 : Option Addr), v1 = .pointer y3 ∧ newK w2 #[.int .i64 a0, .int .i64 a2, .int .u64 a3, .pointer y3, .slice none 0 0] 78 fun g4 w5 => Q (.pointer (some g4)) w5))))))))
def X24.S (Q : QT) : Segs
  | _, _, _, _ => False
noncomputable def X24.an : Ann := (.seq .leaf (.seq (.seq .leaf (.cond (.seq .leaf .leaf) .leaf)) (.seq .leaf .leaf)))
noncomputable def X24.c : Code := Tryz.f24.body.getD .skip
theorem X24.v (Q : QT) : V Tryz.prog (X24.S Q) X24.an X24.c (retC Tryz.prog Tryz.f24 Q) := ⟨trivial, ⟨⟨trivial, ⟨⟨trivial, trivial⟩, trivial⟩⟩, ⟨trivial, trivial⟩⟩⟩
theorem X24.sound (a0 a1 a2 a3 : Int) (w : World) (Q : QT) (h : X24.f a0 a1 a2 a3 w Q) : CallR Tryz.prog 24 #[.int .i64 a0, .int .i64 a1, .int .i64 a2, .int .u64 a3] w Q :=
  fn_sound noGr mixed Tryz.func24 (c := X24.c) (an := X24.an) (S := X24.S Q) (φ := fun _ => 0) (args := [.int .i64 a0, .int .i64 a1, .int .i64 a2, .int .u64 a3]) (by kernel_rfl) (by kernel_rfl) (by kernel_rfl) (X24.v Q) (Eq.mp (by kernel_rfl) h)
def X26.j0 (Q : QT) (t0 : Option Addr) (t1 t2 : Int) (w : World) : Prop := drewK w fun w1 => optP t0 fun p2 => ldSl w1 (p2.add 4) fun x3p x3n x3c => optP t0 fun p4 => ldI .i64 w1 (p4.add 1) fun x5 => bcase (decide (((x3n : Nat) : Int) ≥ x5)) (Q (.tuple #[.int .u64 0, .int .i64 6]) w1) (optP t0 fun p6 => ldI .u64 w1 (p6.add 2) fun x7 => bcase (decide (x7 ≥ (72057594037927935 : Int))) (Q (.tuple #[.int .u64 0, .int .i64 7]) w1) (optP t0 fun p8 => ldP w1 (p8.add 3) fun x9 => CallR Tryz.prog 61 #[.pointer x9, .int .i64 (IntKind.wrap .i64 ((IntKind.wrap .i64 ((1 : Int) + t1)) + t2))] w1 fun v10 w11 => ∃ (y12 y13 : Int), v10 = .tuple #[.int .i64 y12, .int .i64 y13] ∧ bcase (y13 != (0 : Int)) (Q (.tuple #[.int .u64 0, .int .i64 y13]) w11) (optP t0 fun p14 => ldI .u64 w11 (p14.add 2) fun x15 => optP t0 fun p16 => stK w11 (p16.add 2) (.int .u64 (IntKind.wrap .u64 (x15 + (1 : Int)))) fun w17 => drewK w17 fun w18 => (optP t0 fun p19 => ldSl w18 (p19.add 4) fun x20p x20n x20c => optP t0 fun p21 => ldI .u64 w18 (p21.add 2) fun x22 => RunR Tryz.prog (Instr.makeSlice 38 (.int .i64 t1) (.int .i64 t1)) w18 fun v23 w24 => ∃ (s25p : Option Addr) (s25n s25c : Nat), v23 = .slice s25p s25n s25c ∧ (World.cell? w18 (p21.add 2) = some (.int .u64 x22) ∧ World.cell? w24 (p21.add 2) = some (.int .u64 x22)) ∧ (World.cell? w18 (p19.add 4) = some (.slice x20p x20n x20c) ∧ World.cell? w24 (p19.add 4) = some (.slice x20p x20n x20c)) ∧ RunR Tryz.prog (Instr.makeSlice 39 (.int .i64 t2) (.int .i64 t2)) w24 fun v26 w27 => ∃ (s28p : Option Addr) (s28n s28c : Nat), v26 = .slice s28p s28n s28c ∧ (World.cell? w24 (p21.add 2) = some (.int .u64 x22) ∧ World.cell? w27 (p21.add 2) = some (.int .u64 x22)) ∧ (World.cell? w24 (p19.add 4) = some (.slice x20p x20n x20c) ∧ World.cell? w27 (p19.add 4) = some (.slice x20p x20n x20c)) ∧ newK w27 #[.int .u64 x22, .int .i64 y12, .slice s25p s25n s25c, .slice s28p s28n s28c, .int .i64 0] 89 fun g29 w30 => (World.cell? w27 (p19.add 4) = some (.slice x20p x20n x20c) ∧ World.cell? w30 (p19.add 4) = some (.slice x20p x20n x20c)) ∧ newK w30 #[.pointer (some g29)] 92 fun g31 w32 => (World.cell? w30 (p19.add 4) = some (.slice x20p x20n x20c) ∧ World.cell? w32 (p19.add 4) = some (.slice x20p x20n x20c)) ∧ RunR Tryz.prog (Builtin.append_ #[76, 76] 76 #[.slice x20p x20n x20c, .slice (some g31) 1 1]) w32 fun v33 w34 => ∃ (s35p : Option Addr) (s35n s35c : Nat), v33 = .slice s35p s35n s35c ∧ optP t0 fun p36 => stK w34 (p36.add 4) (.slice s35p s35n s35c) fun w37 => optP t0 fun p38 => ldI .u64 w37 (p38.add 2) fun x39 => Q (.tuple #[.int .u64 x39, .int .i64 0]) w37) ∧ (optP t0 fun p40 => ldSl w18 (p40.add 4) fun x41p x41n x41c => optP t0 fun p42 => ldI .u64 w18 (p42.add 2) fun x43 => RunR Tryz.prog (Instr.makeSlice 39 (.int .i64 t2) (.int .i64 t2)) w18 fun v44 w45 => ∃ (s46p : Option Addr) (s46n s46c : Nat), v44 = .slice s46p s46n s46c ∧ (World.cell? w18 (p42.add 2) = some (.int .u64 x43) ∧ World.cell? w45 (p42.add 2) = some (.int .u64 x43)) ∧ (World.cell? w18 (p40.add 4) = some (.slice x41p x41n x41c) ∧ World.cell? w45 (p40.add 4) = some (.slice x41p x41n x41c)) ∧ RunR Tryz.prog (Instr.makeSlice 38 (.int .i64 t1) (.int .i64 t1)) w45 fun v47 w48 => ∃ (s49p : Option Addr) (s49n s49c : Nat), v47 = .slice s49p s49n s49c ∧ (World.cell? w45 (p42.add 2) = some (.int .u64 x43) ∧ World.cell? w48 (p42.add 2) = some (.int .u64 x43)) ∧ (World.cell? w45 (p40.add 4) = some (.slice x41p x41n x41c) ∧ World.cell? w48 (p40.add 4) = some (.slice x41p x41n x41c)) ∧ newK w48 #[.int .u64 x43, .int .i64 y12, .slice s49p s49n s49c, .slice s46p s46n s46c, .int .i64 0] 89 fun g50 w51 => (World.cell? w48 (p40.add 4) = some (.slice x41p x41n x41c) ∧ World.cell? w51 (p40.add 4) = some (.slice x41p x41n x41c)) ∧ newK w51 #[.pointer (some g50)] 92 fun g52 w53 => (World.cell? w51 (p40.add 4) = some (.slice x41p x41n x41c) ∧ World.cell? w53 (p40.add 4) = some (.slice x41p x41n x41c)) ∧ RunR Tryz.prog (Builtin.append_ #[76, 76] 76 #[.slice x41p x41n x41c, .slice (some g52) 1 1]) w53 fun v54 w55 => ∃ (s56p : Option Addr) (s56n s56c : Nat), v54 = .slice s56p s56n s56c ∧ optP t0 fun p57 => stK w55 (p57.add 4) (.slice s56p s56n s56c) fun w58 => optP t0 fun p59 => ldI .u64 w58 (p59.add 2) fun x60 => Q (.tuple #[.int .u64 x60, .int .i64 0]) w58))))
def X26.f (a0 : Option Addr) (a1 a2 : Int) (w : World) (Q : QT) : Prop := bcase (decide (a1 < (0 : Int))) (Q (.tuple #[.int .u64 0, .int .i64 1]) w) (bcase (decide (a1 > (7 : Int))) (Q (.tuple #[.int .u64 0, .int .i64 1]) w) (bcase (decide (a2 < (0 : Int))) (Q (.tuple #[.int .u64 0, .int .i64 1]) w) (bcase (decide (a2 > (7 : Int))) (Q (.tuple #[.int .u64 0, .int .i64 1]) w) (X26.j0 Q a0 a1 a2 w))))
def X26.S (Q : QT) : Segs
  | 0, φ, ρ, w => qP (ρ 0) fun t0 => qI .i64 (ρ 1) fun t1 => qI .i64 (ρ 2) fun t2 => X26.j0 Q t0 t1 t2 w
  | _, _, _, _ => False
noncomputable def X26.an : Ann := (.seq .leaf (.seq (.seq .leaf (.cond (.seq .leaf .leaf) .leaf)) (.join 0 (.seq (.seq (.draw [0, 1, 3, 7, 15, 0, 32, 96, 224, 511] [[0, 1, 2, 3, 4, 5, 6, 7, 8, 9]]) (.cond (.seq .leaf .leaf) .leaf)) (.seq (.seq .leaf (.cond (.seq .leaf .leaf) .leaf)) (.seq .leaf (.seq (.seq .leaf (.cond (.seq .leaf .leaf) .leaf)) (.seq .leaf (.seq (.draw [0, 0, 2, 6, 14, 0, 32, 96, 224, 0, 0, 1024, 0, 4096, 16352, 32736, 65504, 131070, 262143, 524287, 1048575] [[0, 1, 2, 3, 4, 5, 6, 7, 8, 9, 10, 11, 12, 13, 14, 15, 16, 17, 18, 19, 20], [0, 1, 2, 3, 4, 5, 6, 7, 8, 9, 10, 12, 13, 11, 14, 15, 16, 17, 18, 19, 20]]) (.seq .leaf .leaf))))))))))
noncomputable def X26.c : Code := Tryz.f26.body.getD .skip
theorem X26.v (Q : QT) : V Tryz.prog (X26.S Q) X26.an X26.c (retC Tryz.prog Tryz.f26 Q) := ⟨trivial, ⟨⟨trivial, ⟨⟨trivial, trivial⟩, trivial⟩⟩, ⟨(by
    intro φ ρ w h
    simp only [X26.S] at h
    obtain ⟨t0, e0, h⟩ := qP_elim h
    obtain ⟨t1, e1, h⟩ := qI_elim h
    obtain ⟨t2, e2, h⟩ := qI_elim h
    exact ⟨(((Env.nil.put (some 0) (.pointer t0)).put (some 1) (.int .i64 t1)).put (some 2) (.int .i64 t2)), Env.le_put e2 (Env.le_put e1 (Env.le_put e0 (Env.le_nil _))), Eq.mp (by kernel_rfl) h⟩), ⟨⟨trivial, ⟨⟨trivial, trivial⟩, trivial⟩⟩, ⟨⟨trivial, ⟨⟨trivial, trivial⟩, trivial⟩⟩, ⟨trivial, ⟨⟨trivial, ⟨⟨trivial, trivial⟩, trivial⟩⟩, ⟨trivial, ⟨trivial, ⟨trivial, trivial⟩⟩⟩⟩⟩⟩⟩⟩⟩⟩
theorem X26.sound (a0 : Option Addr) (a1 a2 : Int) (w : World) (Q : QT) (h : X26.f a0 a1 a2 w Q) : CallR Tryz.prog 26 #[.pointer a0, .int .i64 a1, .int .i64 a2] w Q :=
  fn_sound noGr mixed Tryz.func26 (c := X26.c) (an := X26.an) (S := X26.S Q) (φ := fun _ => 0) (args := [.pointer a0, .int .i64 a1, .int .i64 a2]) (by kernel_rfl) (by kernel_rfl) (by kernel_rfl) (X26.v Q) (Eq.mp (by kernel_rfl) h)
def X28.f (a0_0 a0_1 a0_2 a0_3 a0_4 a0_5 a0_6 a0_7 a0_8 a0_9 a0_10 a0_11 a0_12 a0_13 a0_14 a0_15 a0_16 a0_17 a0_18 a0_19 a0_20 a0_21 : Int) (a1 : Option Addr) (w : World) (Q : QT) : Prop := newK w #[.int .i64 a0_0, .int .i64 a0_1, .int .i64 a0_2, .int .i64 a0_3, .int .i64 a0_4, .int .i64 a0_5, .int .i64 a0_6, .int .i64 a0_7, .int .i64 a0_8, .int .i64 a0_9, .int .i64 a0_10, .int .u64 a0_11, .int .u64 a0_12, .int .u64 a0_13, .int .u64 a0_14, .int .u64 a0_15, .int .u64 a0_16, .int .i64 a0_17, .int .i64 a0_18, .int .i64 a0_19, .int .u64 a0_20, .int .u64 a0_21] 27 fun g1 w2 => drewK w2 fun w3 => ldI .i64 w3 (g1.add 0) fun x4 => ldI .i64 w3 (g1.add 1) fun x5 => ldI .i64 w3 (g1.add 2) fun x6 => ldI .i64 w3 (g1.add 3) fun x7 => ldI .i64 w3 (g1.add 4) fun x8 => ldI .i64 w3 (g1.add 5) fun x9 => ldI .i64 w3 (g1.add 6) fun x10 => ldI .i64 w3 (g1.add 7) fun x11 => ldI .i64 w3 (g1.add 8) fun x12 => ldI .i64 w3 (g1.add 9) fun x13 => ldI .i64 w3 (g1.add 10) fun x14 => ldI .u64 w3 (g1.add 11) fun x15 => ldI .u64 w3 (g1.add 12) fun x16 => ldI .u64 w3 (g1.add 13) fun x17 => ldI .u64 w3 (g1.add 14) fun x18 => ldI .u64 w3 (g1.add 15) fun x19 => ldI .u64 w3 (g1.add 16) fun x20 => ldI .i64 w3 (g1.add 17) fun x21 => ldI .i64 w3 (g1.add 18) fun x22 => ldI .i64 w3 (g1.add 19) fun x23 => ldI .u64 w3 (g1.add 20) fun x24 => ldI .u64 w3 (g1.add 21) fun x25 => CallR Tryz.prog 62 #[.agg #[.int .i64 x4, .int .i64 x5, .int .i64 x6, .int .i64 x7, .int .i64 x8, .int .i64 x9, .int .i64 x10, .int .i64 x11, .int .i64 x12, .int .i64 x13, .int .i64 x14, .int .u64 x15, .int .u64 x16, .int .u64 x17, .int .u64 x18, .int .u64 x19, .int .u64 x20, .int .i64 x21, .int .i64 x22, .int .i64 x23, .int .u64 x24, .int .u64 x25]] w3 fun v26 w27 => ∃ (y28 : Bool), v26 = .bool y28 ∧ bcase (!y28) (Q (.pointer none) w27) (bcase (Option.isNone a1) (Q (.pointer none) w27) (optP a1 fun p29 => ldI .i64 w27 (p29.add 0) fun x30 => ldI .i64 w27 (g1.add 0) fun x31 => bcase (decide (x30 > x31)) (Q (.pointer none) w27) (ldI .i64 w27 (g1.add 0) fun x32 => ldI .i64 w27 (g1.add 1) fun x33 => ldI .i64 w27 (g1.add 2) fun x34 => ldI .i64 w27 (g1.add 3) fun x35 => ldI .i64 w27 (g1.add 4) fun x36 => ldI .i64 w27 (g1.add 5) fun x37 => ldI .i64 w27 (g1.add 6) fun x38 => ldI .i64 w27 (g1.add 7) fun x39 => ldI .i64 w27 (g1.add 8) fun x40 => ldI .i64 w27 (g1.add 9) fun x41 => ldI .i64 w27 (g1.add 10) fun x42 => ldI .u64 w27 (g1.add 11) fun x43 => ldI .u64 w27 (g1.add 12) fun x44 => ldI .u64 w27 (g1.add 13) fun x45 => ldI .u64 w27 (g1.add 14) fun x46 => ldI .u64 w27 (g1.add 15) fun x47 => ldI .u64 w27 (g1.add 16) fun x48 => ldI .i64 w27 (g1.add 17) fun x49 => ldI .i64 w27 (g1.add 18) fun x50 => ldI .i64 w27 (g1.add 19) fun x51 => ldI .u64 w27 (g1.add 20) fun x52 => ldI .u64 w27 (g1.add 21) fun x53 => newK w27 #[.int .i64 x32, .int .i64 x33, .int .i64 x34, .int .i64 x35, .int .i64 x36, .int .i64 x37, .int .i64 x38, .int .i64 x39, .int .i64 x40, .int .i64 x41, .int .i64 x42, .int .u64 x43, .int .u64 x44, .int .u64 x45, .int .u64 x46, .int .u64 x47, .int .u64 x48, .int .i64 x49, .int .i64 x50, .int .i64 x51, .int .u64 x52, .int .u64 x53, .pointer a1, .int .i64 0, .slice none 0 0, .slice none 0 0, .slice none 0 0, .int .u64 0] 82 fun g54 w55 => stK w55 ((g54.add 23).add 0) (.int .i64 1048576) fun w56 => Q (.pointer (some g54)) w56)))
def X28.S (Q : QT) : Segs
  | _, _, _, _ => False
noncomputable def X28.an : Ann := (.seq .leaf (.seq (.seq (.draw [0, 1, 3, 7, 15, 31, 63, 127, 255, 511, 1023, 2047, 255, 4351, 16383, 32767] [[0, 1, 2, 3, 4, 5, 6, 7, 8, 9, 10, 11, 12, 13, 14, 15]]) (.cond (.seq .leaf .leaf) .leaf)) (.seq .leaf (.seq .leaf (.seq .leaf .leaf)))))
noncomputable def X28.c : Code := Tryz.f28.body.getD .skip
theorem X28.v (Q : QT) : V Tryz.prog (X28.S Q) X28.an X28.c (retC Tryz.prog Tryz.f28 Q) := ⟨trivial, ⟨⟨trivial, ⟨⟨trivial, trivial⟩, trivial⟩⟩, ⟨trivial, ⟨trivial, ⟨trivial, trivial⟩⟩⟩⟩⟩
theorem X28.sound (a0_0 a0_1 a0_2 a0_3 a0_4 a0_5 a0_6 a0_7 a0_8 a0_9 a0_10 a0_11 a0_12 a0_13 a0_14 a0_15 a0_16 a0_17 a0_18 a0_19 a0_20 a0_21 : Int) (a1 : Option Addr) (w : World) (Q : QT) (h : X28.f a0_0 a0_1 a0_2 a0_3 a0_4 a0_5 a0_6 a0_7 a0_8 a0_9 a0_10 a0_11 a0_12 a0_13 a0_14 a0_15 a0_16 a0_17 a0_18 a0_19 a0_20 a0_21 a1 w Q) : CallR Tryz.prog 28 #[.agg #[.int .i64 a0_0, .int .i64 a0_1, .int .i64 a0_2, .int .i64 a0_3, .int .i64 a0_4, .int .i64 a0_5, .int .i64 a0_6, .int .i64 a0_7, .int .i64 a0_8, .int .i64 a0_9, .int .i64 a0_10, .int .u64 a0_11, .int .u64 a0_12, .int .u64 a0_13, .int .u64 a0_14, .int .u64 a0_15, .int .u64 a0_16, .int .i64 a0_17, .int .i64 a0_18, .int .i64 a0_19, .int .u64 a0_20, .int .u64 a0_21], .pointer a1] w Q :=
  fn_sound noGr mixed Tryz.func28 (c := X28.c) (an := X28.an) (S := X28.S Q) (φ := fun _ => 0) (args := [.agg #[.int .i64 a0_0, .int .i64 a0_1, .int .i64 a0_2, .int .i64 a0_3, .int .i64 a0_4, .int .i64 a0_5, .int .i64 a0_6, .int .i64 a0_7, .int .i64 a0_8, .int .i64 a0_9, .int .i64 a0_10, .int .u64 a0_11, .int .u64 a0_12, .int .u64 a0_13, .int .u64 a0_14, .int .u64 a0_15, .int .u64 a0_16, .int .i64 a0_17, .int .i64 a0_18, .int .i64 a0_19, .int .u64 a0_20, .int .u64 a0_21], .pointer a1]) (by kernel_rfl) (by kernel_rfl) (by kernel_rfl) (X28.v Q) (Eq.mp (by kernel_rfl) h)
def X32.f (a0_0 a0_1 : Int) (a0_2 : Bool) (a0_3 a0_4 a0_5 a1_0 a1_1 : Int) (a1_2 : Bool) (a1_3 a1_4 a1_5 : Int) (w : World) (Q : QT) : Prop := newK w #[.int .u64 a0_0, .int .i64 a0_1, .bool a0_2, .int .u64 a0_3, .int .u64 a0_4, .int .i64 a0_5] 52 fun g1 w2 => newK w2 #[.int .u64 a1_0, .int .i64 a1_1, .bool a1_2, .int .u64 a1_3, .int .u64 a1_4, .int .i64 a1_5] 52 fun g3 w4 => ldI .u64 w4 (g1.add 0) fun x5 => ldI .u64 w4 (g3.add 0) fun x6 => bcase (x5 == x6) (ldI .i64 w4 (g1.add 1) fun x7 => ldI .i64 w4 (g3.add 1) fun x8 => bcase (x7 == x8) (ldB w4 (g1.add 2) fun x9 => ldB w4 (g3.add 2) fun x10 => bcase (x9 == x10) (ldI .u64 w4 (g1.add 3) fun x11 => ldI .u64 w4 (g3.add 3) fun x12 => bcase (x11 == x12) (ldI .u64 w4 (g1.add 4) fun x13 => ldI .u64 w4 (g3.add 4) fun x14 => bcase (x13 == x14) (ldI .i64 w4 (g1.add 5) fun x15 => ldI .i64 w4 (g3.add 5) fun x16 => Q (.bool (x15 == x16)) w4) (Q (.bool false) w4)) (Q (.bool false) w4)) (Q (.bool false) w4)) (Q (.bool false) w4)) (Q (.bool false) w4)
def X32.S (Q : QT) : Segs
  | _, _, _, _ => False
noncomputable def X32.an : Ann := (.seq .leaf (.seq .leaf .leaf))
noncomputable def X32.c : Code := Tryz.f32.body.getD .skip
theorem X32.v (Q : QT) : V Tryz.prog (X32.S Q) X32.an X32.c (retC Tryz.prog Tryz.f32 Q) := ⟨trivial, ⟨trivial, trivial⟩⟩
theorem X32.sound (a0_0 a0_1 : Int) (a0_2 : Bool) (a0_3 a0_4 a0_5 a1_0 a1_1 : Int) (a1_2 : Bool) (a1_3 a1_4 a1_5 : Int) (w : World) (Q : QT) (h : X32.f a0_0 a0_1 a0_2 a0_3 a0_4 a0_5 a1_0 a1_1 a1_2 a1_3 a1_4 a1_5 w Q) : CallR Tryz.prog 32 #[.agg #[.int .u64 a0_0, .int .i64 a0_1, .bool a0_2, .int .u64 a0_3, .int .u64 a0_4, .int .i64 a0_5], .agg #[.int .u64 a1_0, .int .i64 a1_1, .bool a1_2, .int .u64 a1_3, .int .u64 a1_4, .int .i64 a1_5]] w Q :=
  fn_sound noGr mixed Tryz.func32 (c := X32.c) (an := X32.an) (S := X32.S Q) (φ := fun _ => 0) (args := [.agg #[.int .u64 a0_0, .int .i64 a0_1, .bool a0_2, .int .u64 a0_3, .int .u64 a0_4, .int .i64 a0_5], .agg #[.int .u64 a1_0, .int .i64 a1_1, .bool a1_2, .int .u64 a1_3, .int .u64 a1_4, .int .i64 a1_5]]) (by kernel_rfl) (by kernel_rfl) (by kernel_rfl) (X32.v Q) (Eq.mp (by kernel_rfl) h)
def X58.f (a0 : Int) (w : World) (Q : QT) : Prop := drewK w fun w1 => ((16 : Int) ≠ 0 ∧ RunR Tryz.prog (Instr.makeSlice 132 (.int .i64 (IntKind.wrap .i64 (Int.tdiv a0 (16 : Int)))) (.int .i64 (IntKind.wrap .i64 (Int.tdiv a0 (16 : Int))))) w1 fun v2 w3 => ∃ (s4p : Option Addr) (s4n s4c : Nat), v2 = .slice s4p s4n s4c ∧ (16 : Int) ≠ 0 ∧ RunR Tryz.prog (Instr.makeSlice 136 (.int .i64 (IntKind.wrap .i64 (Int.tdiv a0 (16 : Int)))) (.int .i64 (IntKind.wrap .i64 (Int.tdiv a0 (16 : Int))))) w3 fun v5 w6 => ∃ (s7p : Option Addr) (s7n s7c : Nat), v5 = .slice s7p s7n s7c ∧ newK w6 #[.slice s4p s4n s4c, .slice s7p s7n s7c] 138 fun g8 w9 => Q (.pointer (some g8)) w9) ∧ ((16 : Int) ≠ 0 ∧ (16 : Int) ≠ 0 ∧ RunR Tryz.prog (Instr.makeSlice 136 (.int .i64 (IntKind.wrap .i64 (Int.tdiv a0 (16 : Int)))) (.int .i64 (IntKind.wrap .i64 (Int.tdiv a0 (16 : Int))))) w1 fun v10 w11 => ∃ (s12p : Option Addr) (s12n s12c : Nat), v10 = .slice s12p s12n s12c ∧ RunR Tryz.prog (Instr.makeSlice 132 (.int .i64 (IntKind.wrap .i64 (Int.tdiv a0 (16 : Int)))) (.int .i64 (IntKind.wrap .i64 (Int.tdiv a0 (16 : Int))))) w11 fun v13 w14 => ∃ (s15p : Option Addr) (s15n s15c : Nat), v13 = .slice s15p s15n s15c ∧ newK w14 #[.slice s15p s15n s15c, .slice s12p s12n s12c] 138 fun g16 w17 => Q (.pointer (some g16)) w17)
def X58.S (Q : QT) : Segs
  | _, _, _, _ => False
noncomputable def X58.an : Ann := (.seq .leaf (.seq (.draw [0, 1, 3, 0, 8, 24, 63, 127, 255] [[0, 1, 2, 3, 4, 5, 6, 7, 8], [0, 1, 3, 4, 5, 2, 6, 7, 8]]) .leaf))
noncomputable def X58.c : Code := Tryz.f58.body.getD .skip
theorem X58.v (Q : QT) : V Tryz.prog (X58.S Q) X58.an X58.c (retC Tryz.prog Tryz.f58 Q) := ⟨trivial, ⟨trivial, trivial⟩⟩
theorem X58.sound (a0 : Int) (w : World) (Q : QT) (h : X58.f a0 w Q) : CallR Tryz.prog 58 #[.int .i64 a0] w Q :=
  fn_sound noGr mixed Tryz.func58 (c := X58.c) (an := X58.an) (S := X58.S Q) (φ := fun _ => 0) (args := [.int .i64 a0]) (by kernel_rfl) (by kernel_rfl) (by kernel_rfl) (X58.v Q) (Eq.mp (by kernel_rfl) h)
def X61.j3 (Q : QT) (b0 : Option Addr → Int → Int → World → Prop) (b1 : Option Addr → Int → Int → Int → World → Prop) (t0 : Option Addr) (t6 t7 t8 : Int) (w : World) : Prop := optP t0 fun p1 => ldSl w (p1.add 1) fun x2p x2n x2c => (0 ≤ t7 ∧ t7 < ((x2n : Nat) : Int)) ∧ optP x2p fun p3 => (0 ≤ t8 ∧ t8 < ((16 : Nat) : Int)) ∧ ldB w ((p3.add (Int.toNat t7 * 16)).add (Int.toNat t8 * 1)) fun x4 => bcase (!x4) (optP t0 fun p5 => ldSl w (p5.add 1) fun x6p x6n x6c => (0 ≤ t7 ∧ t7 < ((x6n : Nat) : Int)) ∧ optP x6p fun p7 => (0 ≤ t8 ∧ t8 < ((16 : Nat) : Int)) ∧ stK w ((p7.add (Int.toNat t7 * 16)).add (Int.toNat t8 * 1)) (.bool true) fun w8 => Q (.tuple #[.int .i64 (IntKind.wrap .i64 ((IntKind.wrap .i64 ((16 : Int) * t7)) + (IntKind.wrap .i64 (t6 * t8)))), .int .i64 0]) w8) (b1 t0 t6 t7 (IntKind.wrap .i64 (t8 + (1 : Int))) w)
def X61.l1 (Q : QT) (b0 : Option Addr → Int → Int → World → Prop) : Nat → (Option Addr) → Int → Int → Int → World → Prop
  | 0, _, _, _, _, _ => False
  | k + 1, t0, t6, t7, t8, w => optP t0 fun p1 => ldSl w (p1.add 0) fun x2p x2n x2c => (0 ≤ t7 ∧ t7 < ((x2n : Nat) : Int)) ∧ optP x2p fun p3 => ldI .i64 w (p3.add (Int.toNat t7 * 1)) fun x4 => bcase (x4 == t6) (t6 ≠ 0 ∧ bcase (decide (t8 < (IntKind.wrap .i64 (Int.tdiv (16 : Int) t6)))) (X61.j3 Q b0 (X61.l1 Q b0 k) t0 t6 t7 t8 w) (b0 t0 t6 (IntKind.wrap .i64 (t7 + (1 : Int))) w)) (b0 t0 t6 (IntKind.wrap .i64 (t7 + (1 : Int))) w)
def X61.l2 (Q : QT) : Nat → (Option Addr) → Int → Int → World → Prop
  | 0, _, _, _, _ => False
  | k + 1, t0, t6, t9, w => optP t0 fun p1 => ldSl w (p1.add 0) fun x2p x2n x2c => bcase (decide (t9 < ((x2n : Nat) : Int))) (optP t0 fun p3 => ldSl w (p3.add 0) fun x4p x4n x4c => (0 ≤ t9 ∧ t9 < ((x4n : Nat) : Int)) ∧ optP x4p fun p5 => ldI .i64 w (p5.add (Int.toNat t9 * 1)) fun x6 => bcase (x6 == (0 : Int)) (optP t0 fun p7 => ldSl w (p7.add 0) fun x8p x8n x8c => (0 ≤ t9 ∧ t9 < ((x8n : Nat) : Int)) ∧ optP x8p fun p9 => stK w (p9.add (Int.toNat t9 * 1)) (.int .i64 t6) fun w10 => optP t0 fun p11 => ldSl w10 (p11.add 1) fun x12p x12n x12c => (0 ≤ t9 ∧ t9 < ((x12n : Nat) : Int)) ∧ optP x12p fun p13 => (0 ≤ (0 : Int) ∧ (0 : Int) < ((16 : Nat) : Int)) ∧ stK w10 ((p13.add (Int.toNat t9 * 16)).add (Int.toNat (0 : Int) * 1)) (.bool true) fun w14 => Q (.tuple #[.int .i64 (IntKind.wrap .i64 ((16 : Int) * t9)), .int .i64 0]) w14) (X61.l2 Q k t0 t6 (IntKind.wrap .i64 (t9 + (1 : Int))) w)) (Q (.tuple #[.int .i64 0, .int .i64 2]) w)
def X61.l0 (Q : QT) : Nat → (Option Addr) → Int → Int → World → Prop
  | 0, _, _, _, _ => False
  | k + 1, t0, t6, t7, w => optP t0 fun p1 => ldSl w (p1.add 0) fun x2p x2n x2c => bcase (decide (t7 < ((x2n : Nat) : Int))) (∃ m3, X61.l1 Q (X61.l0 Q k) m3 t0 t6 t7 (0 : Int) w) (∃ m4, X61.l2 Q m4 t0 t6 (0 : Int) w)
def X61.f (a0 : Option Addr) (a1 : Int) (w : World) (Q : QT) : Prop := CallR Tryz.prog 86 #[.int .i64 a1] w fun v1 w2 => ∃ (y3 : Int), v1 = .int .i64 y3 ∧ bcase (y3 == (0 : Int)) (Q (.tuple #[.int .i64 0, .int .i64 1]) w2) (∃ m4, X61.l0 Q m4 a0 y3 (0 : Int) w2)
def X61.S (Q : QT) : Segs
  | 0, φ, ρ, w => qP (ρ 0) fun t0 => qI .i64 (ρ 6) fun t6 => qI .i64 (ρ 7) fun t7 => X61.l0 Q (φ 0) t0 t6 t7 w
  | 1, φ, ρ, w => qP (ρ 0) fun t0 => qI .i64 (ρ 6) fun t6 => qI .i64 (ρ 7) fun t7 => qI .i64 (ρ 8) fun t8 => X61.l1 Q (X61.l0 Q (φ 0)) (φ 1) t0 t6 t7 t8 w
  | 2, φ, ρ, w => qP (ρ 0) fun t0 => qI .i64 (ρ 6) fun t6 => qI .i64 (ρ 9) fun t9 => X61.l2 Q (φ 2) t0 t6 t9 w
  | 3, φ, ρ, w => qP (ρ 0) fun t0 => qI .i64 (ρ 6) fun t6 => qI .i64 (ρ 7) fun t7 => qI .i64 (ρ 8) fun t8 => X61.j3 Q (X61.l0 Q (φ 0)) (X61.l1 Q (X61.l0 Q (φ 0)) (φ 1)) t0 t6 t7 t8 w
  | _, _, _, _ => False
noncomputable def X61.an : Ann := (.seq .leaf (.seq .leaf (.seq (.seq .leaf (.cond (.seq .leaf .leaf) .leaf)) (.seq (.seq .leaf (.block (.loop 0 (.seq (.seq .leaf (.cond .leaf .leaf)) (.seq (.block (.seq .leaf (.block (.loop 1 (.seq (.seq .leaf (.cond .leaf .leaf)) (.join 3 (.seq (.block (.seq .leaf (.cond (.seq .leaf (.seq .leaf .leaf)) .leaf))) .leaf))))))) .leaf))))) (.seq (.seq .leaf (.block (.loop 2 (.seq (.seq .leaf (.cond .leaf .leaf)) (.seq (.block (.seq .leaf (.cond (.seq .leaf (.seq .leaf (.seq .leaf .leaf))) .leaf))) .leaf))))) (.seq .leaf .leaf))))))
noncomputable def X61.c : Code := Tryz.f61.body.getD .skip
theorem X61.v (Q : QT) : V Tryz.prog (X61.S Q) X61.an X61.c (retC Tryz.prog Tryz.f61 Q) := ⟨trivial, ⟨trivial, ⟨⟨trivial, ⟨⟨trivial, trivial⟩, trivial⟩⟩, ⟨⟨trivial, ⟨(by
    intro φ ρ w h
    simp only [X61.S] at h
    obtain ⟨t0, e0, h⟩ := qP_elim h
    obtain ⟨t6, e6, h⟩ := qI_elim h
    obtain ⟨t7, e7, h⟩ := qI_elim h
    cases hk : φ 0 with
    | zero => rw [hk] at h; exact h.elim
    | succ k => rw [hk] at h; exact ⟨k, Nat.lt_succ_self k, (((Env.nil.put (some 0) (.pointer t0)).put (some 6) (.int .i64 t6)).put (some 7) (.int .i64 t7)), Env.le_put e7 (Env.le_put e6 (Env.le_put e0 (Env.le_nil _))), Eq.mp (by kernel_rfl) h⟩), ⟨⟨trivial, ⟨trivial, trivial⟩⟩, ⟨⟨trivial, ⟨(by
    intro φ ρ w h
    simp only [X61.S] at h
    obtain ⟨t0, e0, h⟩ := qP_elim h
    obtain ⟨t6, e6, h⟩ := qI_elim h
    obtain ⟨t7, e7, h⟩ := qI_elim h
    obtain ⟨t8, e8, h⟩ := qI_elim h
    cases hk : φ 1 with
    | zero => rw [hk] at h; exact h.elim
    | succ k => rw [hk] at h; exact ⟨k, Nat.lt_succ_self k, ((((Env.nil.put (some 0) (.pointer t0)).put (some 6) (.int .i64 t6)).put (some 7) (.int .i64 t7)).put (some 8) (.int .i64 t8)), Env.le_put e8 (Env.le_put e7 (Env.le_put e6 (Env.le_put e0 (Env.le_nil _)))), Eq.mp (by kernel_rfl) h⟩), ⟨⟨trivial, ⟨trivial, trivial⟩⟩, ⟨(by
    intro φ ρ w h
    simp only [X61.S] at h
    obtain ⟨t0, e0, h⟩ := qP_elim h
    obtain ⟨t6, e6, h⟩ := qI_elim h
    obtain ⟨t7, e7, h⟩ := qI_elim h
    obtain ⟨t8, e8, h⟩ := qI_elim h
    exact ⟨((((Env.nil.put (some 0) (.pointer t0)).put (some 6) (.int .i64 t6)).put (some 7) (.int .i64 t7)).put (some 8) (.int .i64 t8)), Env.le_put e8 (Env.le_put e7 (Env.le_put e6 (Env.le_put e0 (Env.le_nil _)))), Eq.mp (by kernel_rfl) h⟩), ⟨⟨trivial, ⟨⟨trivial, ⟨trivial, trivial⟩⟩, trivial⟩⟩, trivial⟩⟩⟩⟩⟩, trivial⟩⟩⟩⟩, ⟨⟨trivial, ⟨(by
    intro φ ρ w h
    simp only [X61.S] at h
    obtain ⟨t0, e0, h⟩ := qP_elim h
    obtain ⟨t6, e6, h⟩ := qI_elim h
    obtain ⟨t9, e9, h⟩ := qI_elim h
    cases hk : φ 2 with
    | zero => rw [hk] at h; exact h.elim
    | succ k => rw [hk] at h; exact ⟨k, Nat.lt_succ_self k, (((Env.nil.put (some 0) (.pointer t0)).put (some 6) (.int .i64 t6)).put (some 9) (.int .i64 t9)), Env.le_put e9 (Env.le_put e6 (Env.le_put e0 (Env.le_nil _))), Eq.mp (by kernel_rfl) h⟩), ⟨⟨trivial, ⟨trivial, trivial⟩⟩, ⟨⟨trivial, ⟨⟨trivial, ⟨trivial, ⟨trivial, trivial⟩⟩⟩, trivial⟩⟩, trivial⟩⟩⟩⟩, ⟨trivial, trivial⟩⟩⟩⟩⟩⟩
theorem X61.sound (a0 : Option Addr) (a1 : Int) (w : World) (Q : QT) (h : X61.f a0 a1 w Q) : CallR Tryz.prog 61 #[.pointer a0, .int .i64 a1] w Q :=
  fn_sound noGr mixed Tryz.func61 (c := X61.c) (an := X61.an) (S := X61.S Q) (φ := fun _ => 0) (args := [.pointer a0, .int .i64 a1]) (by kernel_rfl) (by kernel_rfl) (by kernel_rfl) (X61.v Q) (Eq.mp (by kernel_rfl) h)
def X86.l0 (Q : QT) : Nat → Int → Int → World → Prop
  | 0, _, _, _ => False
  | k + 1, t0, t3, w => bcase (decide (t3 ≤ (16 : Int))) (bcase (decide (t0 ≥ (1 : Int))) (bcase (decide (t0 ≤ t3)) (Q (.int .i64 t3) w) (X86.l0 Q k t0 (IntKind.wrap .i64 ((2 : Int) * t3)) w)) (X86.l0 Q k t0 (IntKind.wrap .i64 ((2 : Int) * t3)) w)) (Q (.int .i64 0) w)
def X86.f (a0 : Int) (w : World) (Q : QT) : Prop := ∃ m1, X86.l0 Q m1 a0 (1 : Int) w
def X86.S (Q : QT) : Segs
  | 0, φ, ρ, w => qI .i64 (ρ 0) fun t0 => qI .i64 (ρ 3) fun t3 => X86.l0 Q (φ 0) t0 t3 w
  | _, _, _, _ => False
noncomputable def X86.an : Ann := (.seq .leaf (.seq (.seq .leaf (.block (.loop 0 (.seq (.seq .leaf (.cond .leaf .leaf)) (.seq (.block (.seq .leaf (.cond (.seq .leaf .leaf) .leaf))) .leaf))))) (.seq .leaf .leaf)))
noncomputable def X86.c : Code := Tryz.f86.body.getD .skip
theorem X86.v (Q : QT) : V Tryz.prog (X86.S Q) X86.an X86.c (retC Tryz.prog Tryz.f86 Q) := ⟨trivial, ⟨⟨trivial, ⟨(by
    intro φ ρ w h
    simp only [X86.S] at h
    obtain ⟨t0, e0, h⟩ := qI_elim h
    obtain ⟨t3, e3, h⟩ := qI_elim h
    cases hk : φ 0 with
    | zero => rw [hk] at h; exact h.elim
    | succ k => rw [hk] at h; exact ⟨k, Nat.lt_succ_self k, ((Env.nil.put (some 0) (.int .i64 t0)).put (some 3) (.int .i64 t3)), Env.le_put e3 (Env.le_put e0 (Env.le_nil _)), Eq.mp (by kernel_rfl) h⟩), ⟨⟨trivial, ⟨trivial, trivial⟩⟩, ⟨⟨trivial, ⟨⟨trivial, trivial⟩, trivial⟩⟩, trivial⟩⟩⟩⟩, ⟨trivial, trivial⟩⟩⟩
theorem X86.sound (a0 : Int) (w : World) (Q : QT) (h : X86.f a0 w Q) : CallR Tryz.prog 86 #[.int .i64 a0] w Q :=
  fn_sound noGr mixed Tryz.func86 (c := X86.c) (an := X86.an) (S := X86.S Q) (φ := fun _ => 0) (args := [.int .i64 a0]) (by kernel_rfl) (by kernel_rfl) (by kernel_rfl) (X86.v Q) (Eq.mp (by kernel_rfl) h)
def X10.f (w : World) (Q : QT) : Prop := CallR Tryz.prog 7 #[.agg #[.int .i64 0, .int .i64 0, .int .i64 0, .int .i64 0, .int .i64 0, .int .i64 0, .int .i64 0, .int .i64 0, .int .i64 0, .int .i64 0, .int .i64 0, .int .i64 0, .int .i64 0, .int .i64 0, .int .i64 0, .int .i64 0, .int .i64 0, .int .i64 0, .int .i64 0, .int .i64 0, .int .u64 0, .int .u64 0]] w fun v1 w2 => ∃ (y3 y4 y5 y6 y7 y8 y9 y10 y11 y12 y13 y14 y15 y16 y17 y18 y19 y20 y21 y22 y23 y24 : Int), v1 = .agg #[.int .i64 y3, .int .i64 y4, .int .i64 y5, .int .i64 y6, .int .i64 y7, .int .i64 y8, .int .i64 y9, .int .i64 y10, .int .i64 y11, .int .i64 y12, .int .i64 y13, .int .u64 y14, .int .u64 y15, .int .u64 y16, .int .u64 y17, .int .u64 y18, .int .u64 y19, .int .i64 y20, .int .i64 y21, .int .i64 y22, .int .u64 y23, .int .u64 y24] ∧ CallR Tryz.prog 8 #[.agg #[.int .i64 y3, .int .i64 y4, .int .i64 y5, .int .i64 y6, .int .i64 y7, .int .i64 y8, .int .i64 y9, .int .i64 y10, .int .i64 y11, .int .i64 y12, .int .i64 y13, .int .u64 y14, .int .u64 y15, .int .u64 y16, .int .u64 y17, .int .u64 y18, .int .u64 y19, .int .i64 y20, .int .i64 y21, .int .i64 y22, .int .u64 y23, .int .u64 y24], .int .i64 2] w2 fun v25 w26 => ∃ (y27 y28 y29 : Option Addr), v25 = .tuple #[.pointer y27, .pointer y28, .pointer y29] ∧ bcase (Option.isNone y27) (Q (.bool false) w26) (CallR Tryz.prog 18 #[.int .i64 1, .int .i64 2, .int .u64 5, .int .u64 1, .int .i64 2, .int .i64 3] w26 fun v30 w31 => ∃ (y32 y33 y34 y35 y36 y37 y38 y39 y40 y41 : Int) (y42p : Option Addr) (y42n y42c : Nat) (y43 y44 y45 y46 y47 y48 y49 : Int) (y50p : Option Addr) (y50n y50c : Nat), v30 = .agg #[.int .i64 y32, .int .i64 y33, .int .i64 y34, .int .u64 y35, .int .u64 y36, .int .i64 y37, .int .i64 y38, .int .i64 y39, .int .i64 y40, .int .u64 y41, .slice y42p y42n y42c, .int .u64 y43, .int .i64 y44, .int .u64 y45, .int .i64 y46, .int .u64 y47, .int .i64 y48, .int .u64 y49, .slice y50p y50n y50c] ∧ CallR Tryz.prog 19 #[.pointer y27, .agg #[.int .i64 y32, .int .i64 y33, .int .i64 y34, .int .u64 y35, .int .u64 y36, .int .i64 y37, .int .i64 y38, .int .i64 y39, .int .i64 y40, .int .u64 y41, .slice y42p y42n y42c, .int .u64 y43, .int .i64 y44, .int .u64 y45, .int .i64 y46, .int .u64 y47, .int .i64 y48, .int .u64 y49, .slice y50p y50n y50c], .bool false, .int .u64 10] w31 fun v51 w52 => ∃ (y53 y54 y55 y56 y57 y58 y59 y60 y61 y62 : Int) (y63p : Option Addr) (y63n y63c : Nat) (y64 y65 y66 y67 y68 y69 y70 : Int) (y71p : Option Addr) (y71n y71c : Nat) (y72 y73 : Bool), v51 = .tuple #[.agg #[.int .i64 y53, .int .i64 y54, .int .i64 y55, .int .u64 y56, .int .u64 y57, .int .i64 y58, .int .i64 y59, .int .i64 y60, .int .i64 y61, .int .u64 y62, .slice y63p y63n y63c, .int .u64 y64, .int .i64 y65, .int .u64 y66, .int .i64 y67, .int .u64 y68, .int .i64 y69, .int .u64 y70, .slice y71p y71n y71c], .bool y72, .bool y73] ∧ newK w52 #[.int .i64 0, .int .i64 0, .int .i64 0, .int .u64 0, .int .u64 0, .int .i64 0, .int .i64 0, .int .i64 0, .int .i64 0, .int .u64 0, .slice none 0 0, .int .u64 0, .int .i64 0, .int .u64 0, .int .i64 0, .int .u64 0, .int .i64 0, .int .u64 0, .slice none 0 0] 41 fun g74 w75 => stAll w75 g74 [.int .i64 y53, .int .i64 y54, .int .i64 y55, .int .u64 y56, .int .u64 y57, .int .i64 y58, .int .i64 y59, .int .i64 y60, .int .i64 y61, .int .u64 y62, .slice y63p y63n y63c, .int .u64 y64, .int .i64 y65, .int .u64 y66, .int .i64 y67, .int .u64 y68, .int .i64 y69, .int .u64 y70, .slice y71p y71n y71c] fun w76 => CallR Tryz.prog 18 #[.int .i64 1, .int .i64 2, .int .u64 5, .int .u64 2, .int .i64 2, .int .i64 3] w76 fun v77 w78 => ∃ (y79 y80 y81 y82 y83 y84 y85 y86 y87 y88 : Int) (y89p : Option Addr) (y89n y89c : Nat) (y90 y91 y92 y93 y94 y95 y96 : Int) (y97p : Option Addr) (y97n y97c : Nat), v77 = .agg #[.int .i64 y79, .int .i64 y80, .int .i64 y81, .int .u64 y82, .int .u64 y83, .int .i64 y84, .int .i64 y85, .int .i64 y86, .int .i64 y87, .int .u64 y88, .slice y89p y89n y89c, .int .u64 y90, .int .i64 y91, .int .u64 y92, .int .i64 y93, .int .u64 y94, .int .i64 y95, .int .u64 y96, .slice y97p y97n y97c] ∧ CallR Tryz.prog 19 #[.pointer y27, .agg #[.int .i64 y79, .int .i64 y80, .int .i64 y81, .int .u64 y82, .int .u64 y83, .int .i64 y84, .int .i64 y85, .int .i64 y86, .int .i64 y87, .int .u64 y88, .slice y89p y89n y89c, .int .u64 y90, .int .i64 y91, .int .u64 y92, .int .i64 y93, .int .u64 y94, .int .i64 y95, .int .u64 y96, .slice y97p y97n y97c], .bool true, .int .u64 10] w78 fun v98 w99 => ∃ (y100 y101 y102 y103 y104 y105 y106 y107 y108 y109 : Int) (y110p : Option Addr) (y110n y110c : Nat) (y111 y112 y113 y114 y115 y116 y117 : Int) (y118p : Option Addr) (y118n y118c : Nat) (y119 y120 : Bool), v98 = .tuple #[.agg #[.int .i64 y100, .int .i64 y101, .int .i64 y102, .int .u64 y103, .int .u64 y104, .int .i64 y105, .int .i64 y106, .int .i64 y107, .int .i64 y108, .int .u64 y109, .slice y110p y110n y110c, .int .u64 y111, .int .i64 y112, .int .u64 y113, .int .i64 y114, .int .u64 y115, .int .i64 y116, .int .u64 y117, .slice y118p y118n y118c], .bool y119, .bool y120] ∧ newK w99 #[.int .i64 0, .int .i64 0, .int .i64 0, .int .u64 0, .int .u64 0, .int .i64 0, .int .i64 0, .int .i64 0, .int .i64 0, .int .u64 0, .slice none 0 0, .int .u64 0, .int .i64 0, .int .u64 0, .int .i64 0, .int .u64 0, .int .i64 0, .int .u64 0, .slice none 0 0] 41 fun g121 w122 => stAll w122 g121 [.int .i64 y100, .int .i64 y101, .int .i64 y102, .int .u64 y103, .int .u64 y104, .int .i64 y105, .int .i64 y106, .int .i64 y107, .int .i64 y108, .int .u64 y109, .slice y110p y110n y110c, .int .u64 y111, .int .i64 y112, .int .u64 y113, .int .i64 y114, .int .u64 y115, .int .i64 y116, .int .u64 y117, .slice y118p y118n y118c] fun w123 => CallR Tryz.prog 16 #[.pointer y28, .int .u64 5] w123 fun v124 w125 => ∃ (y126 : Int), v124 = .int .i64 y126 ∧ CallR Tryz.prog 22 #[.pointer y27, .agg #[.int .i64 6, .int .i64 1, .int .i64 2, .int .u64 0, .int .u64 0, .int .i64 0, .int .i64 0, .int .i64 0, .int .i64 2, .int .u64 5, .slice none 0 0, .int .u64 0, .int .i64 0, .int .u64 3, .int .i64 0, .int .u64 0, .int .i64 0, .int .u64 0, .slice none 0 0]] w125 fun v127 w128 => ∃ (y129 y130 y131 y132 y133 y134 y135 y136 y137 y138 : Int) (y139p : Option Addr) (y139n y139c : Nat) (y140 y141 y142 y143 y144 y145 y146 : Int) (y147p : Option Addr) (y147n y147c : Nat) (y148 : Bool), v127 = .tuple #[.agg #[.int .i64 y129, .int .i64 y130, .int .i64 y131, .int .u64 y132, .int .u64 y133, .int .i64 y134, .int .i64 y135, .int .i64 y136, .int .i64 y137, .int .u64 y138, .slice y139p y139n y139c, .int .u64 y140, .int .i64 y141, .int .u64 y142, .int .i64 y143, .int .u64 y144, .int .i64 y145, .int .u64 y146, .slice y147p y147n y147c], .bool y148] ∧ newK w128 #[.int .i64 0, .int .i64 0, .int .i64 0, .int .u64 0, .int .u64 0, .int .i64 0, .int .i64 0, .int .i64 0, .int .i64 0, .int .u64 0, .slice none 0 0, .int .u64 0, .int .i64 0, .int .u64 0, .int .i64 0, .int .u64 0, .int .i64 0, .int .u64 0, .slice none 0 0] 41 fun g149 w150 => stAll w150 g149 [.int .i64 y129, .int .i64 y130, .int .i64 y131, .int .u64 y132, .int .u64 y133, .int .i64 y134, .int .i64 y135, .int .i64 y136, .int .i64 y137, .int .u64 y138, .slice y139p y139n y139c, .int .u64 y140, .int .i64 y141, .int .u64 y142, .int .i64 y143, .int .u64 y144, .int .i64 y145, .int .u64 y146, .slice y147p y147n y147c] fun w151 => ldI .i64 w151 (g74.add 12) fun x152 => bcase (x152 == (4 : Int)) (bcase (!y72) (bcase y73 (ldI .i64 w151 (g121.add 12) fun x153 => bcase (x153 == (0 : Int)) (ldI .i64 w151 (g121.add 0) fun x154 => bcase (x154 == (5 : Int)) (ldI .u64 w151 (g121.add 15) fun x155 => bcase (x155 == (5 : Int)) (bcase y119 (bcase y120 (bcase (y126 == (3 : Int)) (bcase y148 (ldI .i64 w151 (g149.add 0) fun x156 => bcase (x156 == (7 : Int)) (CallR Tryz.prog 16 #[.pointer y28, .int .u64 5] w151 fun v157 w158 => ∃ (y159 : Int), v157 = .int .i64 y159 ∧ Q (.bool (y159 == (0 : Int))) w158) (Q (.bool false) w151)) (Q (.bool false) w151)) (Q (.bool false) w151)) (Q (.bool false) w151)) (Q (.bool false) w151)) (Q (.bool false) w151)) (Q (.bool false) w151)) (Q (.bool false) w151)) (Q (.bool false) w151)) (Q (.bool false) w151)) (Q (.bool false) w151))
def X10.S (Q : QT) : Segs
  | _, _, _, _ => False
noncomputable def X10.an : Ann := (.seq .leaf (.seq .leaf (.seq (.seq .leaf (.cond (.seq .leaf .leaf) .leaf)) (.seq .leaf (.seq .leaf (.seq .leaf (.seq .leaf (.seq .leaf .leaf))))))))
noncomputable def X10.c : Code := Tryz.f10.body.getD .skip
theorem X10.v (Q : QT) : V Tryz.prog (X10.S Q) X10.an X10.c (retC Tryz.prog Tryz.f10 Q) := ⟨trivial, ⟨trivial, ⟨⟨trivial, ⟨⟨trivial, trivial⟩, trivial⟩⟩, ⟨trivial, ⟨trivial, ⟨trivial, ⟨trivial, ⟨trivial, trivial⟩⟩⟩⟩⟩⟩⟩⟩
theorem X10.sound (w : World) (Q : QT) (h : X10.f  w Q) : CallR Tryz.prog 10 #[] w Q :=
  fn_sound noGr mixed Tryz.func10 (c := X10.c) (an := X10.an) (S := X10.S Q) (φ := fun _ => 0) (args := []) (by kernel_rfl) (by kernel_rfl) (by kernel_rfl) (X10.v Q) (Eq.mp (by kernel_rfl) h)
end Go.Proofs.YtnjmkhhaodgpbaaGreatX
namespace Go.Proofs.YtnjmkhhaodgpbaaGreatX
open Go.RowKit
set_option maxRecDepth 100000
theorem ld_msgA {w : World} {g : Nat} {m : Msg} {rp lp : Option Addr} {rc lc : Nat} {K : Int → Int → Int → Int → Int → Int → Int → Int → Int → Int → Option Addr → Nat → Nat → Int → Int → Int → Int → Int → Int → Int → Option Addr → Nat → Nat → Prop} (hb : Blk w g (m.cells rp rc lp lc) 41) (h : K m.kind m.frm m.to m.call m.floor m.op m.field m.item m.tn m.ts rp m.refs.length rc m.value m.code m.seq m.voucher m.at_ m.dist m.stamp lp m.list.length lc) :
    ldI .i64 w ((at0 g 0).add 0) fun x0 => ldI .i64 w ((at0 g 0).add 1) fun x1 => ldI .i64 w ((at0 g 0).add 2) fun x2 => ldI .u64 w ((at0 g 0).add 3) fun x3 => ldI .u64 w ((at0 g 0).add 4) fun x4 => ldI .i64 w ((at0 g 0).add 5) fun x5 => ldI .i64 w ((at0 g 0).add 6) fun x6 => ldI .i64 w ((at0 g 0).add 7) fun x7 => ldI .i64 w ((at0 g 0).add 8) fun x8 => ldI .u64 w ((at0 g 0).add 9) fun x9 => ldSl w ((at0 g 0).add 10) fun x10p x10n x10c => ldI .u64 w ((at0 g 0).add 11) fun x11 => ldI .i64 w ((at0 g 0).add 12) fun x12 => ldI .u64 w ((at0 g 0).add 13) fun x13 => ldI .i64 w ((at0 g 0).add 14) fun x14 => ldI .u64 w ((at0 g 0).add 15) fun x15 => ldI .i64 w ((at0 g 0).add 16) fun x16 => ldI .u64 w ((at0 g 0).add 17) fun x17 => ldSl w ((at0 g 0).add 18) fun x18p x18n x18c => K x0 x1 x2 x3 x4 x5 x6 x7 x8 x9 x10p x10n x10c x11 x12 x13 x14 x15 x16 x17 x18p x18n x18c :=
  ld_int (hb.cat 0 _ rfl) (ld_int (hb.cat 1 _ rfl) (ld_int (hb.cat 2 _ rfl) (ld_int (hb.cat 3 _ rfl) (ld_int (hb.cat 4 _ rfl) (ld_int (hb.cat 5 _ rfl) (ld_int (hb.cat 6 _ rfl) (ld_int (hb.cat 7 _ rfl) (ld_int (hb.cat 8 _ rfl) (ld_int (hb.cat 9 _ rfl) (ld_sl (hb.cat 10 _ rfl) (ld_int (hb.cat 11 _ rfl) (ld_int (hb.cat 12 _ rfl) (ld_int (hb.cat 13 _ rfl) (ld_int (hb.cat 14 _ rfl) (ld_int (hb.cat 15 _ rfl) (ld_int (hb.cat 16 _ rfl) (ld_int (hb.cat 17 _ rfl) (ld_sl (hb.cat 18 _ rfl) (h)))))))))))))))))))
def pastB (a span now : Int) : Bool := if now ≥ a then decide (IntKind.wrap .u64 (now - a) ≥ span) else false
def holdS (S : Sc) (s : Int) : List Int := ((ofR S.rows s).filter (·.present)).map (·.holder)
def buryS (S : Sc) (s : Int) : Sc × Bool := if hasO S.os s = true ∧ s ∉ S.bur ∧ holdS S s ≠ [] then (keepS { S with bur := S.bur ++ [s] } s, true) else (S, false)
def unbur (S : Sc) (s : Int) : List Int := S.bur.filter fun y => decide (y ≠ s)
def raiseS (S : Sc) (s : Int) : Sc × Bool := if s ∈ S.bur then (keepS { S with bur := unbur S s } s, true) else (S, false)
def cutR (rows : List (Int × Scn)) (s : Int) (l : List Scn) : List (Int × Scn) := l.foldl (fun a r => drp ilt a (keyS s r.holder)) rows
def forgetS (S : Sc) (s : Int) : Sc := keepS { S with rows := cutR S.rows s (ofR S.rows s), bur := unbur S s } s
abbrev scnZ : Scn := ⟨0, 0, false, 0, 0, 0⟩
def stepS (S : Sc) (now : Int) : Sc × Scn × Bool := match after ilt S.rows S.cur with
  | none => (S, scnZ, false)
  | some k => match get ilt S.rows k with
    | none => ({ S with cur := k }, scnZ, false)
    | some r => if r.present = true ∧ pastB r.at_ S.c.lease now = true then (putS { S with cur := k } { r with present := false }, { r with present := false }, true) else ({ S with cur := k }, scnZ, false)
section
variable {w w' W : World} {Q : QT} {g gt bm : Nat} {x : HB} {ft fh fh' rt rt' F : List Nat} {S S' : Sc} {s d now k : Int} {r : Scn} {m : Msg} {rp lp : Option Addr} {rc lc : Nat}
theorem past_spec {a span now : Int} (hQ : Q (.bool (pastB a span now)) w) : CallR Tryz.prog 70 #[.int .u64 a, .int .u64 span, .int .u64 now] w Q := by
  apply X70.sound
  unfold X70.f
  unfold pastB at hQ
  exact bc_dec (fun h => by rw [if_pos h] at hQ; exact hQ) (fun h => by rw [if_neg h] at hQ; exact hQ)
theorem mine_spec (t : PS w g x ft S) (hm : MM w m rp rc lp lc) (hQ : Ans Q (mineS S m k) w) : CallR Tryz.prog 50 #[.pointer (some (at0 g 0)), msgV m rp rc lp lc, .int .i64 k] w Q := by
  apply X50.sound
  unfold X50.f
  refine newB fun g1 w2 b2 f2 h2 => drawn fun w3 f3 _ => ?_
  have b2 : Blk w2 g1 (m.cells rp rc lp lc) 41 := b2
  have b3 := b2.keep' f3
  have F3 := f2.tr f3
  have no : ∀ {w'}, Fr [] w w' → ¬ mineS S m k → Q (.bool false) w' := fun f h => hQ false _ ⟨fun e => absurd e (by decide), fun e => absurd e h⟩ f
  unfold mineS at no hQ
  refine ld_int (b3.cat 0 _ rfl) (bc_eq (fun hk => ?_) (fun hk => no F3 (fun h => hk h.1)))
  refine ld_msgA b3 (Right_spec (hm.keep' F3) fun b w25 hb f25 => ⟨_, rfl, bc_bool (fun hbt => ?_) (fun hbf => no (F3.tr f25) (fun h => by rw [hb.2 h.2.1] at hbf; cases hbf))⟩)
  have F25 := F3.tr f25
  have b25 := b3.keep' f25
  have hR := hb.1 hbt
  have t25 := t.keep' F25
  obtain ⟨fh, gt, bm, rt, t25⟩ := t25
  refine ld_int (b25.cat 2 _ rfl) (opt_some rfl (ld_ptr (t25.cat 22 rfl) (node_spec t25.heap ⟨_, rfl, ⟨b25.cat 2 _ rfl, b25.cat 2 _ rfl⟩, bc_eq (fun h1 => ?_) (fun h1 => no F25 (fun h => h1 h.2.2.1))⟩)))
  refine ld_int (b25.cat 1 _ rfl) (opt_some rfl (ld_int (x := S.c.nodes) ?_ (bc_dec (fun h2 => ?_) (fun h2 => no F25 (fun h => h2 h.2.2.2.1)))))
  · rw [add_at]
    exact t25.blk.cell rfl
  have c8 : w25.cell? (((at0 g1 0).add 8).add 0) = some (.int .i64 m.tn) := by
    rw [add_add]
    exact b25.cat 8 _ rfl
  refine ld_int c8 (opt_some rfl (ld_ptr (t25.cat 22 rfl) (node_spec t25.heap ⟨_, rfl, ⟨c8, c8⟩, ?_⟩)))
  refine hQ _ _ ?_ F25
  simp only [beq_iff_eq]
  exact ⟨fun h3 => ⟨hk, hR, h1, h2, h3⟩, fun h => h.2.2.2.2⟩
theorem holders_l0 (R : RI S.rows) (hsz : S.rows.length ≤ 4096) (hQ : ∀ p c w', Own 22 1 w' p (holdS S s).length c ((holdS S s).map (Value.int .u64)) → Fr [] W w' → (∀ k ∈ fbl p, W.heap.size ≤ k) → Q (.slice p (holdS S s).length c) w')
    {p : Option Addr} {c : Nat} {w0 : World} (ho : Own 52 6 w0 p (ofR S.rows s).length c (sq (ofR S.rows s))) (F0 : Fr [] W w0) :
    ∀ (f i : Nat) (acc : List Int) (ap : Option Addr) (ac : Nat) (w1 : World), (ofR S.rows s).length - i < f → i ≤ (ofR S.rows s).length → acc = (((ofR S.rows s).take i).filter (·.present)).map (·.holder) → Own 22 1 w1 ap acc.length ac (acc.map (Value.int .u64)) → (∀ k ∈ fbl ap, w0.heap.size ≤ k) → Fr [] w0 w1 →
      X17.l0 Q f ap acc.length ac p (ofR S.rows s).length c ((ofR S.rows s).length : Int) (i : Int) w1
  | 0, i, acc, ap, ac, w1, hf, _, _, _, _, _ => absurd hf (Nat.not_lt_zero _)
  | f + 1, i, acc, ap, ac, w1, hf, hi, he, oa, ha, F1 => by
    have F := F0.tr F1
    have hle : (ofR S.rows s).length ≤ 4096 := by
      unfold ofR
      rw [List.length_map]
      exact Nat.le_trans (List.length_filter_le _ _) hsz
    rw [X17.l0]
    refine bc_dec (fun hlt => ⟨⟨by omega, by omega⟩, ?_⟩) (fun hge => ?_)
    · have hl : i < (ofR S.rows s).length := by omega
      have hr := List.getElem?_eq_getElem hl
      obtain ⟨a, ha', hat⟩ := scn_at ((ho.keep' F1).cells) hr
      have hmem := List.getElem_mem hl
      generalize (ofR S.rows s)[i] = r at *
      obtain ⟨e, he1, he2⟩ := ofR_mem hmem
      have hh := R.hol e he1
      rw [he2] at hh
      rw [Int.toNat_natCast]
      have e1 : IntKind.wrap .i64 ((i : Int) + 1) = ((i + 1 : Nat) : Int) := by rw [i64w ((i : Int) + 1) (by omega) (by omega)]; omega
      have e2 : (ofR S.rows s).take (i + 1) = (ofR S.rows s).take i ++ [r] := by
        rw [List.take_add_one, hr]
        rfl
      have hal : acc.length ≤ i := by
        rw [he, List.length_map]
        refine Nat.le_trans (List.length_filter_le _ _) ?_
        rw [List.length_take]
        omega
      rw [e1]
      refine opt_some ha' (ld_Scn (s := r) hat (newB fun g8 w9 b9 f9 h9 => stAllB (vs := r.cells) b9 rfl fun w10 b10 f10 => ?_))
      have z9 := f9.size
      have z10 := f10.size
      have F10 : Fr [] w1 w10 := f9.trans f10 (fun y hy => .inr (by simp at hy; omega))
      refine ld_bool (b10.cat 2 _ rfl) (bc_bool (fun hp => ld_int (b10.cat 1 _ rfl) (newB fun g13 w14 b14 f14 h14 => ?_)) (fun hp => ?_))
      · rw [u64w r.holder (by omega) (by omega)] at b14
        refine app_step rowT39 (oa.keep' (F10.tr f14)) (x := some (at0 g13 0)) (ys := [Value.int .u64 r.holder]) (k := 1) (cells_one b14) rfl some_ne (by simp [Value.oneCell']) (by omega) (by omega) (W := w0) ha (F1.tr (F10.tr f14)) fun p2 c2 w16 o16 hp2 F116 f16 => ?_
        have e3 : acc.length + 1 = (acc ++ [r.holder]).length := by simp
        rw [e3]
        refine holders_l0 R hsz hQ ho F0 f (i + 1) (acc ++ [r.holder]) p2 c2 w16 (by omega) (by omega) ?_ ?_ hp2 F116
        · rw [e2, List.filter_append, List.map_append, ← he]
          simp [hp]
        · rw [← e3, List.map_append]
          exact o16
      · refine holders_l0 R hsz hQ ho F0 f (i + 1) acc ap ac w10 (by omega) (by omega) ?_ (oa.keep' F10) ha (F1.tr F10)
        rw [e2, List.filter_append, List.map_append, ← he]
        simp [hp]
    · have : (ofR S.rows s).take i = ofR S.rows s := List.take_of_length_le (by omega)
      rw [this] at he
      have he : acc = holdS S s := he
      subst he
      exact hQ ap ac w1 oa F (fun k hk => by have := ha k hk; have := F0.size; omega)
theorem holders_spec (t : PS w g x ft S) (h0 : 0 ≤ s) (h1 : s ≤ 18446744073709551615) (hQ : ∀ p c w', Own 22 1 w' p (holdS S s).length c ((holdS S s).map (Value.int .u64)) → Fr [] w w' → (∀ k ∈ fbl p, w.heap.size ≤ k) → Q (.slice p (holdS S s).length c) w') :
    CallR Tryz.prog 17 #[.pointer (some (at0 g 0)), .int .u64 s] w Q := by
  apply X17.sound
  unfold X17.f
  refine of_spec t h0 h1 fun p c w2 o2 f2 _ => ⟨_, _, _, rfl, (ofR S.rows s).length + 1, ?_⟩
  exact holders_l0 t.ri t.size hQ o2 f2 _ 0 [] none 0 w2 (by omega) (by omega) (by simp) Own.nil (by simp [fbl]) (Fr.refl _)
theorem buried_spec (t : PS w g x ft S) (h0 : 0 ≤ s) (h1 : s ≤ 18446744073709551615) (hQ : Q (.bool (decide (s ∈ S.bur))) w) : CallR Tryz.prog 15 #[.pointer (some (at0 g 0)), .int .u64 s] w Q := by
  apply X15.sound
  unfold X15.f
  obtain ⟨fh, gt, bm, rt, t⟩ := t
  refine opt_some rfl (ld_map (t.cat 24 rfl) (bur_look t h0 h1 ⟨_, rfl, ?_⟩))
  by_cases h : s ∈ S.bur
  · rw [if_pos h]
    rw [decide_eq_true h] at hQ
    exact hQ
  · rw [if_neg h]
    rw [decide_eq_false h] at hQ
    exact hQ
theorem unbur_ent : dropU (S.bur.map bent) s = (unbur S s).map bent := by
  unfold dropU unbur
  rw [List.filter_map]
  rfl
theorem raise_spec (t : PS w g x ft S) (h0 : 0 ≤ s) (h1 : s ≤ 18446744073709551615) (hQ : AftS w g x ft (raiseS S s).1 (.bool (raiseS S s).2) Q) : CallR Tryz.prog 35 #[.pointer (some (at0 g 0)), .int .u64 s] w Q := by
  apply X35.sound
  unfold X35.f
  have tt := t
  obtain ⟨fh, gt, bm, rt, t⟩ := t
  unfold raiseS at hQ
  refine opt_some rfl (ld_map (t.cat 24 rfl) (bur_look t h0 h1 ⟨_, rfl, ?_⟩))
  by_cases h : s ∈ S.bur
  · rw [if_pos h] at hQ ⊢
    refine bc_eq (fun e => by cases e) (fun _ => opt_some rfl (ld_map (t.cat 24 rfl) (delU (K := 22) (E := 3) (by kernel_rfl) (by kernel_rfl) t.map (u64wf h0 h1) fun w9 M9 f9 => ⟨rfl, ?_⟩)))
    rw [unbur_ent] at M9
    obtain ⟨t9, F9⟩ := t.bur' M9 f9
    refine keep_spec ⟨_, _, _, _, t9⟩ h0 h1 ?_
    intro ft2 w2 P2 f2 e2
    exact ⟨rfl, hQ.next F9 (fun y hy => .inl hy) ft2 w2 P2 f2 e2⟩
  · rw [if_neg h] at hQ ⊢
    exact bc_eqt' rfl (hQ.same tt (Fr.refl _))
theorem bury_spec (t : PS w g x ft S) (h0 : 0 ≤ s) (h1 : s ≤ 18446744073709551615) (hQ : AftS w g x ft (buryS S s).1 (.bool (buryS S s).2) Q) : CallR Tryz.prog 33 #[.pointer (some (at0 g 0)), .int .u64 s] w Q := by
  apply X33.sound
  unfold X33.f
  have tt := t
  obtain ⟨fh, gt, bm, rt, t⟩ := t
  unfold buryS at hQ
  refine opt_some rfl (ld_ptr (t.cat 22 rfl) (object_spec t.heap h0 h1 fun w4 ser cell rp rn rc vp vn vc f4 => ⟨_, _, _, _, _, _, _, _, _, _, rfl, newB fun g11 w12 b12 f12 h12 => ?_⟩))
  refine stAllB (vs := Obj.cells ⟨ser, cell, rp, rn, rc, vp, vn, vc, inO S.os s⟩) b12 rfl fun w13 b13 f13 => ?_
  have z4 := f4.size
  have F13 : Fr [] w w13 := (f4.tr f12).trans f13 (fun y hy => .inr (by simp at hy; omega))
  have t13 := t.keep' F13
  cases ho : hasO S.os s with
  | false =>
    rw [if_neg (fun h => by rw [ho] at h; cases h.1)] at hQ
    exact hQ.same tt F13
  | true =>
    refine bc_bool (fun e => by cases e) (fun _ => opt_some rfl (ld_map (t13.cat 24 rfl) (bur_look t13 h0 h1 ⟨_, rfl, ?_⟩)))
    by_cases h : s ∈ S.bur
    · rw [if_neg (fun hh => hh.2.1 h)] at hQ
      rw [if_pos h]
      exact bc_pos (by omega) (hQ.same tt F13)
    · rw [if_neg h]
      refine bc_neg (by omega) (holders_spec (tt.keep' F13) h0 h1 fun p c w20 o20 f20 _ => ⟨_, _, _, rfl, ?_⟩)
      have F20 := F13.tr f20
      have t20 := t.keep' F20
      refine bc_eq (fun hz => ?_) (fun hz => ?_)
      · rw [if_neg (fun hh => hh.2.2 (List.eq_nil_of_length_eq_zero (by omega)))] at hQ
        exact hQ.same tt F20
      · rw [if_pos ⟨ho, h, fun e => hz (by rw [e]; rfl)⟩] at hQ
        refine opt_some rfl (ld_map (t20.cat 24 rfl) (updU (K := 22) (E := 3) (by kernel_rfl) (by kernel_rfl) t20.map (u64wf h0 h1) (fun y hy => by
          obtain ⟨z, hz, rfl⟩ := List.mem_map.1 hy
          exact fun e => h (show s ∈ S.bur from e ▸ hz)) fun w25 M25 f25 => ?_))
        have eM : S.bur.map bent ++ [(s, Value.int .i64 1)] = (S.bur ++ [s]).map bent := by simp [bent]
        rw [eM] at M25
        obtain ⟨t25, F25⟩ := t20.bur' M25 f25
        refine keep_spec ⟨_, _, _, _, t25⟩ h0 h1 ?_
        intro ft2 w2 P2 f2 e2
        exact ⟨rfl, hQ.next (F20.any.tr F25) (fun y hy => .inl hy) ft2 w2 P2 f2 e2⟩
end
end Go.Proofs.YtnjmkhhaodgpbaaGreatX
namespace Go.Proofs.YtnjmkhhaodgpbaaGreatX
open Go.RowKit
set_option maxRecDepth 100000
def allS (S : Sc) : List Scn := S.rows.map (·.2)
section
variable {w w' W : World} {Q : QT} {g gt bm : Nat} {x : HB} {ft fh fh' rt rt' F : List Nat} {S S' : Sc} {s d now k : Int} {r : Scn}
theorem all_l0 (t : PS W g x ft S) (hQ : ∀ p c w', Own 52 6 w' p (allS S).length c (sq (allS S)) → Fr [] W w' → (∀ k ∈ fbl p, W.heap.size ≤ k) → Q (.slice p (allS S).length c) w')
    {p : Option Addr} {c : Nat} {w0 : World} (ho : Own 22 1 w0 p S.rows.length c ((keys S.rows).map (Value.int .u64))) (F0 : Fr [] W w0) :
    ∀ (f i : Nat) (acc : List Scn) (ap : Option Addr) (ac : Nat) (w1 : World), S.rows.length - i < f → i ≤ S.rows.length → acc = (allS S).take i → Own 52 6 w1 ap acc.length ac (sq acc) → (∀ k ∈ fbl ap, w0.heap.size ≤ k) → Fr [] w0 w1 →
      X13.l0 Q f (some (at0 g 0)) ap acc.length ac p S.rows.length c (S.rows.length : Int) (i : Int) w1
  | 0, i, acc, ap, ac, w1, hf, _, _, _, _, _ => absurd hf (Nat.not_lt_zero _)
  | f + 1, i, acc, ap, ac, w1, hf, hi, he, oa, ha, F1 => by
    have F := F0.tr F1
    have hsz := t.size
    have R := t.ri
    have tt := t
    obtain ⟨fh, gt, bm, rt, t⟩ := t
    have t1 := t.keep' F
    have hal : (allS S).length = S.rows.length := by unfold allS; rw [List.length_map]
    rw [X13.l0]
    refine bc_dec (fun hlt => ⟨⟨by omega, by omega⟩, ?_⟩) (fun hge => ?_)
    · have hl : i < S.rows.length := by omega
      have hr := List.getElem?_eq_getElem hl
      generalize S.rows[i] = e at *
      have hk : ((keys S.rows).map (Value.int .u64))[i]? = some (.int .u64 e.1) := by
        unfold keys
        rw [List.getElem?_map, List.getElem?_map, hr]
        rfl
      obtain ⟨a, ha', hat⟩ := (ho.keep' F1).cells i _ hk
      rw [Int.toNat_natCast, Nat.mul_one]
      have e1 : IntKind.wrap .i64 ((i : Int) + 1) = ((i + 1 : Nat) : Int) := by rw [i64w ((i : Int) + 1) (by omega) (by omega)]; omega
      have e2 : (allS S).take (i + 1) = (allS S).take i ++ [e.2] := by
        rw [List.take_add_one]
        unfold allS
        rw [List.getElem?_map, hr]
        rfl
      have hle : acc.length ≤ i := by
        rw [he, List.length_take]
        omega
      rw [e1]
      refine opt_some ha' (ld_int hat (opt_some rfl (ld_ptr (t1.cat 23 rfl) (get_SC t1.tab (fun hn => ?_) (fun v hv w6 f6 => ?_)))))
      · rw [get_of_key R hr] at hn
        cases hn
      · have hve : v = e.2 := by rw [get_of_key R hr] at hv; injection hv with hv; exact hv.symm
        subst hve
        refine ⟨_, _, _, _, _, _, _, rfl, newB fun g14 w15 b15 f15 h15 => ?_⟩
        refine stAllB (vs := e.2.cells) b15 rfl fun w16 b16 f16 => ld_Scn (s := e.2) b16.cat ?_
        refine newB fun g23 w24 b24 f24 h24 => ?_
        have z6 := f6.size
        have z15 := f15.size
        have z16 := f16.size
        have F24 : Fr [] w1 w24 := (((f6.tr f15).trans f16 (fun y hy => .inr (by simp at hy; omega)))).tr f24
        have hb24 : Blk w24 g23 (sq [e.2]) 52 := by
          show Blk w24 g23 (e.2.cells ++ []) _
          rw [List.append_nil]
          exact b24
        refine app_step rowT47 (oa.keep' F24) (x := some (at0 g23 0)) (ys := sq [e.2]) (k := 1) (cells_one hb24) (sq_len _) some_ne (sq_one _) (by omega) (by omega) (W := w0) ha (F1.tr F24) fun p2 c2 w26 o26 hp2 F26 _ => ?_
        have e3 : acc.length + 1 = (acc ++ [e.2]).length := by simp
        rw [e3]
        refine all_l0 tt hQ ho F0 f (i + 1) (acc ++ [e.2]) p2 c2 w26 (by omega) (by omega) (by rw [e2, he]) ?_ hp2 F26
        have e4 : sq (acc ++ [e.2]) = sq acc ++ sq [e.2] := by simp [sq]
        rw [e4, ← e3]
        exact o26
    · have : (allS S).take i = allS S := List.take_of_length_le (by omega)
      rw [this] at he
      subst he
      exact hQ ap ac w1 oa F (fun k hk => by have := ha k hk; have := F0.size; omega)
theorem all_spec (t : PS w g x ft S) (hQ : ∀ p c w', Own 52 6 w' p (allS S).length c (sq (allS S)) → Fr [] w w' → (∀ k ∈ fbl p, w.heap.size ≤ k) → Q (.slice p (allS S).length c) w') :
    CallR Tryz.prog 13 #[.pointer (some (at0 g 0))] w Q := by
  apply X13.sound
  unfold X13.f
  have tt := t
  obtain ⟨fh, gt, bm, rt, t⟩ := t
  refine opt_some rfl (ld_ptr (t.cat 23 rfl) (keys_SC t.tab fun p c w4 o4 f4 _ => ⟨_, _, _, rfl, S.rows.length + 1, ?_⟩))
  have own0 : Own 52 6 w4 none ([] : List Scn).length 0 (sq []) := Own.nil
  exact all_l0 tt hQ o4 f4 _ 0 [] none 0 w4 (by omega) (by omega) (by simp) own0 (by simp [fbl]) (Fr.refl _)
theorem forget_l0 (h0 : 0 ≤ s) (h1 : s ≤ 18446744073709551615) (hQ : AftS W g x ft (forgetS S s) (.tuple #[]) Q) (hsz : S.rows.length ≤ 4096)
    {p : Option Addr} {c : Nat} (hp : ∀ k ∈ fbl p, k ∉ ft) :
    ∀ (f i : Nat) (w1 : World), (ofR S.rows s).length - i < f → i ≤ (ofR S.rows s).length → Own 52 6 w1 p (ofR S.rows s).length c (sq (ofR S.rows s)) → PSa w1 g x ft fh gt bm rt { S with rows := cutR S.rows s ((ofR S.rows s).take i) } → Fr ft W w1 →
      X37.l0 Q f (some (at0 g 0)) s p (ofR S.rows s).length c ((ofR S.rows s).length : Int) (i : Int) w1
  | 0, i, w1, hf, _, _, _, _ => absurd hf (Nat.not_lt_zero _)
  | f + 1, i, w1, hf, hi, ho, t1, F => by
    have hle : (ofR S.rows s).length ≤ 4096 := by
      unfold ofR
      rw [List.length_map]
      exact Nat.le_trans (List.length_filter_le _ _) hsz
    rw [X37.l0]
    refine bc_dec (fun hlt => ⟨⟨by omega, by omega⟩, ?_⟩) (fun hge => ?_)
    · have hl : i < (ofR S.rows s).length := by omega
      have hr := List.getElem?_eq_getElem hl
      obtain ⟨a, ha, hat⟩ := scn_at ho.cells hr
      generalize (ofR S.rows s)[i] = r at *
      rw [Int.toNat_natCast]
      have e1 : IntKind.wrap .i64 ((i : Int) + 1) = ((i + 1 : Nat) : Int) := by rw [i64w ((i : Int) + 1) (by omega) (by omega)]; omega
      have e2 : cutR S.rows s ((ofR S.rows s).take (i + 1)) = drp ilt (cutR S.rows s ((ofR S.rows s).take i)) (keyS s r.holder) := by
        rw [List.take_add_one, hr]
        unfold cutR
        rw [List.foldl_append]
        rfl
      rw [e1]
      refine opt_some ha (ld_Scn (s := r) hat (newB fun g8 w9 b9 f9 h9 => stAllB (vs := r.cells) b9 rfl fun w10 b10 f10 => drawn fun w11 f11 _ => ?_))
      have z9 := f9.size
      have z10 := f10.size
      have F11 : Fr [] w1 w11 := (f9.trans f10 (fun y hy => .inr (by simp at hy; omega))).tr f11
      have t11 := t1.keep' F11
      have b11 := b10.keep' f11
      refine opt_some rfl (ld_ptr (t11.cat 23 rfl) (ld_int (b11.cat 1 _ rfl) (key_spec ⟨_, rfl, ⟨t11.cat 23 rfl, t11.cat 23 rfl⟩, drop_SC t11.tab fun w19 T19 f19 => ⟨_, rfl, ?_⟩⟩)))
      obtain ⟨t19, F19, _⟩ := t11.rows' T19 t11.ri.drpR f19 (fun y hy => .inl hy)
      rw [← t11.foot] at t19
      rw [← e2] at t19
      exact forget_l0 h0 h1 hQ hsz hp f (i + 1) w19 (by omega) (by omega) ((ho.keep' F11).keep F19 hp) t19 ((F.tr F11.any).tr F19)
    · have : (ofR S.rows s).take i = ofR S.rows s := List.take_of_length_le (by omega)
      rw [this] at t1
      refine opt_some rfl (ld_map (t1.cat 24 rfl) (delU (K := 22) (E := 3) (by kernel_rfl) (by kernel_rfl) t1.map (u64wf h0 h1) fun w9 M9 f9 => ⟨rfl, ?_⟩))
      rw [unbur_ent] at M9
      obtain ⟨t9, F9⟩ := t1.bur' M9 f9
      refine keep_spec ⟨_, _, _, _, t9⟩ h0 h1 ?_
      intro ft2 w2 P2 f2 e2
      exact ⟨rfl, hQ.next (F.tr F9) (fun y hy => .inl hy) ft2 w2 P2 f2 e2⟩
theorem forget_spec (t : PS w g x ft S) (h0 : 0 ≤ s) (h1 : s ≤ 18446744073709551615) (hQ : AftS w g x ft (forgetS S s) (.tuple #[]) Q) : CallR Tryz.prog 37 #[.pointer (some (at0 g 0)), .int .u64 s] w Q := by
  apply X37.sound
  unfold X37.f
  refine of_spec t h0 h1 fun p c w2 o2 f2 hp => ⟨_, _, _, rfl, (ofR S.rows s).length + 1, ?_⟩
  have hsz := t.size
  obtain ⟨fh, gt, bm, rt, t⟩ := t
  exact forget_l0 h0 h1 hQ hsz (fun k hk hm => by have := hp k hk; have := t.lt k hm; omega) _ 0 w2 (by omega) (by omega) o2 (t.keep' f2) f2.any
theorem get_key {rows : List (Int × Scn)} {r : Scn} (R : RI rows) (h : get ilt rows k = some r) : okRow r ∧ keyS r.serial r.holder = k := by
  have hm := (get_iff ilt_lin R.srt).1 h
  have a1 := R.key _ hm
  have a2 := R.ser _ hm
  have a3 := R.hol _ hm
  have a4 := R.dis _ hm
  simp only [] at a1 a2 a3 a4
  exact ⟨⟨a2, a3, a4⟩, by rw [keyS_eq (by omega) (by omega) (by omega) (by omega)]; exact a1.symm⟩
theorem step_spec (t : PS w g x ft S) (hQ : AftS w g x ft (stepS S now).1 (.tuple #[(stepS S now).2.1.val, .bool (stepS S now).2.2]) Q) : CallR Tryz.prog 30 #[.pointer (some (at0 g 0)), .int .u64 now] w Q := by
  apply X30.sound
  unfold X30.f
  refine newB fun g1 w2 b2 f2 h2 => drawn fun w3 f3 _ => ?_
  have b2 : Blk w2 g1 scnZ.cells 52 := b2
  have b3 := b2.keep' f3
  have F3 := f2.tr f3
  have z2 := f2.size
  have z3 := f3.size
  have R := t.ri
  have lt := t.lt
  have tt := t
  obtain ⟨fh, gt, bm, rt, t⟩ := t
  have t3 := t.keep' F3
  have ng : g1 ∉ ft := fun hm => by have := lt _ hm; omega
  unfold stepS at hQ
  refine opt_some rfl (ld_ptr (t3.cat 23 rfl) (opt_some rfl (ld_int (t3.cat 25 rfl) (after_SC t3.tab ⟨_, _, rfl, ?_⟩))))
  have zero : ∀ {w'' : World} {S' : Sc}, AftS w g x ft S' (.tuple #[scnZ.val, .bool false]) Q → PS w'' g x ft S' → Fr ft w w'' → Blk w'' g1 scnZ.cells 52 → stAll w'' (at0 g1 0) scnZ.cells fun w12 => ldI .u64 w12 ((at0 g1 0).add 0) fun x13 => ldI .i64 w12 ((at0 g1 0).add 1) fun x14 => ldB w12 ((at0 g1 0).add 2) fun x15 => ldI .u64 w12 ((at0 g1 0).add 3) fun x16 => ldI .u64 w12 ((at0 g1 0).add 4) fun x17 => ldI .i64 w12 ((at0 g1 0).add 5) fun x18 => Q (.tuple #[.agg #[.int .u64 x13, .int .i64 x14, .bool x15, .int .u64 x16, .int .u64 x17, .int .i64 x18], .bool false]) w12 := by
    intro w'' S' hq P F b
    refine stAllB (vs := scnZ.cells) b rfl fun w12 b12 f12 => ld_Scn (s := scnZ) b12.cat ?_
    have z := F.size
    exact hq ft w12 (P.keep f12 (fun y hy hm => ng (by simp at hm; rwa [← hm]))) (F.trans f12 (fun y hy => .inr (by simp at hy; omega))) (fun y hy => .inl hy)
  cases ha : after ilt S.rows S.cur with
  | none =>
    rw [ha] at hQ
    exact bc_bool (fun _ => zero hQ (tt.keep' F3) F3.any b3) (fun e => by cases e)
  | some k =>
    rw [ha] at hQ
    simp only [] at hQ
    refine bc_bool (fun e => by cases e) (fun _ => opt_some rfl (t3.cur' k fun w20 t20 f20 => ?_))
    have F20 : Fr ft w w20 := F3.any.tr f20
    have b20 := b3.keep f20 ng
    refine opt_some rfl (ld_ptr (t20.cat 23 rfl) (get_SC t20.tab (fun hn w24 f24 => ?_) (fun r hr w24 f24 => ?_)))
    · have hn : get ilt S.rows k = none := hn
      rw [hn] at hQ
      simp only [] at hQ
      refine ⟨_, _, _, _, _, _, _, rfl, newB fun g32 w33 b33 f33 h33 => stAllB (vs := scnZ.cells) b33 rfl fun w34 b34 f34 => drawn fun w35 f35 _ => ?_⟩
      have z20 := F20.size
      have z24 := f24.size
      have F35 : Fr [] w20 w35 := ((f24.tr f33).trans f34 (fun y hy => .inr (by simp at hy; omega))).tr f35
      refine ld_bool ((b34.keep' f35).cat 2 _ rfl) ?_
      exact zero hQ ⟨_, _, _, _, t20.keep' F35⟩ (F20.tr F35.any) (b20.keep' F35)
    · have hr : get ilt S.rows k = some r := hr
      rw [hr] at hQ
      simp only [] at hQ
      refine ⟨_, _, _, _, _, _, _, rfl, newB fun g32 w33 b33 f33 h33 => stAllB (vs := r.cells) b33 rfl fun w34 b34 f34 => drawn fun w35 f35 _ => ?_⟩
      have z20 := F20.size
      have z24 := f24.size
      have z33 := f33.size
      have z34 := f34.size
      have z35 := f35.size
      have F35 : Fr [] w20 w35 := ((f24.tr f33).trans f34 (fun y hy => .inr (by simp at hy; omega))).tr f35
      have b35 := b34.keep' f35
      have t35 := t20.keep' F35
      have b1 := b20.keep' F35
      refine ld_bool (b35.cat 2 _ rfl) ?_
      cases hp : r.present with
      | false =>
        rw [if_neg (fun h => by rw [hp] at h; cases h.1)] at hQ
        exact zero hQ ⟨_, _, _, _, t35⟩ (F20.tr F35.any) b1
      | true =>
        refine bc_bool (fun e => by cases e) (fun _ => ld_int (b35.cat 4 _ rfl) (opt_some rfl (ld_int (x := S.c.lease) (by rw [add_at]; exact t35.blk.cell rfl) (past_spec ⟨_, rfl, ?_⟩))))
        cases hpa : pastB r.at_ S.c.lease now with
        | false =>
          rw [if_neg (fun h => by rw [hpa] at h; cases h.2)] at hQ
          exact zero hQ ⟨_, _, _, _, t35⟩ (F20.tr F35.any) b1
        | true =>
          rw [if_pos ⟨hp, hpa⟩] at hQ
          have n32 : g32 ∉ ft := fun hm => by have := lt _ hm; omega
          have n1 : g32 ≠ g1 := by have := b20.lt; omega
          refine bc_bool (fun e => by cases e) (fun _ => stB (i := 2) b35 (show 2 < 6 by omega) fun w57 b57 f57 => ?_)
          have b57 : Blk w57 g32 (Scn.cells { r with present := false }) 52 := b57
          refine ld_Scn (s := { r with present := false }) b57.cat ?_
          have t57 := t35.keep f57 (fun y hy hm => n32 (by simp at hm; rwa [← hm]))
          have hok := (get_key R hr).1
          have F57 : Fr ft w w57 := (F20.tr F35.any).trans f57 (fun y hy => .inr (by simp at hy; omega))
          refine put_spec (r := { r with present := false }) ⟨_, _, _, _, t57⟩ hok fun ft2 w65 P65 f65 e65 => ⟨rfl, ?_⟩
          refine ld_Scn (s := { r with present := false }) (b57.keep f65 n32).cat ?_
          have z57 := f57.size
          have z65 := f65.size
          have b1' := (b1.off1 (fun e => n1 e.symm) f57).keep f65 ng
          refine stAllB (vs := Scn.cells { r with present := false }) b1' rfl fun w72 b72 f72 => ld_Scn (s := { r with present := false }) b72.cat ?_
          have ng2 : g1 ∉ ft2 := fun hm => by
            rcases e65 _ hm with h | h
            · exact ng h
            · have := b20.lt
              omega
          have z572 := F57.size
          have F65 : Fr ft w w65 := F57.tr f65
          have z652 := F65.size
          refine hQ ft2 w72 (P65.keep f72 (fun y hy hm => ng2 (by simp at hm; rwa [← hm]))) (F65.trans f72 (fun y hy => .inr (by simp at hy; omega))) (fun y hy => (e65 y hy).imp_right fun h => by omega)
end
end Go.Proofs.YtnjmkhhaodgpbaaGreatX
namespace Go.Proofs.YtnjmkhhaodgpbaaGreatX
open Go.RowKit
set_option maxRecDepth 100000
abbrev msgZ : Msg := ⟨0, 0, 0, 0, 0, 0, 0, 0, 0, 0, [], 0, 0, 0, 0, 0, 0, 0, []⟩
abbrev toldM (m : Msg) (e : Int) : Msg := ⟨5, m.to, m.frm, 0, 0, 0, 0, 0, m.tn, m.ts, [], 0, e, m.seq, 0, m.at_, 0, 0, []⟩
abbrev cleanedM (m : Msg) : Msg := ⟨7, m.to, m.frm, 0, 0, 0, 0, 0, m.tn, m.ts, [], 0, 0, m.seq, 0, 0, 0, 0, []⟩
def goodS (S : Sc) (m : Msg) (pin : Bool) : Bool := if m.voucher = S.node then pin else match get ilt S.rows (keyS m.ts m.voucher) with
  | some v => v.present
  | none => false
abbrev nextR (m : Msg) (now : Int) (p : Bool) : Scn := ⟨m.ts, m.frm, p, m.seq, now, m.dist⟩
def grantS (S : Sc) (m : Msg) (pin : Bool) (now : Int) : Sc × Msg × Bool × Bool := if goodS S m pin = true then (putS { S with bur := unbur S m.ts } (nextR m now true), toldM m 0, true, true) else (putS S (nextR m now false), toldM m 4, false, true)
def askedS (S : Sc) (m : Msg) (pin : Bool) (now : Int) : Sc × Msg × Bool × Bool := match get ilt S.rows (keyS m.ts m.frm) with
  | some r => if r.seq > m.seq then (S, msgZ, false, false) else if r.seq = m.seq then (if r.present = true then (putS S (nextR m now true), toldM m 0, false, true) else (S, toldM m 4, false, true)) else grantS S m pin now
  | none => grantS S m pin now
open Classical in
noncomputable def dirtyS (S : Sc) (m : Msg) (pin : Bool) (now : Int) : Sc × Msg × Bool × Bool := if mineS S m 4 then (if hasO S.os m.ts = true then askedS S m pin now else (S, toldM m 4, false, true)) else (S, msgZ, false, false)
def cleanR (S : Sc) (m : Msg) : Sc × Msg × Bool := match get ilt S.rows (keyS m.ts m.frm) with
  | some r => if r.seq > m.seq then (S, msgZ, false) else (putS S ⟨r.serial, r.holder, false, m.seq, r.at_, r.dist⟩, cleanedM m, true)
  | none => if hasO S.os m.ts = true then (putS S ⟨m.ts, m.frm, false, m.seq, 0, 0⟩, cleanedM m, true) else (S, cleanedM m, true)
open Classical in
noncomputable def cleanS (S : Sc) (m : Msg) : Sc × Msg × Bool := if mineS S m 6 then cleanR S m else (S, msgZ, false)
theorem right_ts {m : Msg} (h : Right m) (hk : m.kind = 4 ∨ m.kind = 6) : okSerial m.ts ∧ (1 ≤ m.frm ∧ m.frm ≤ 64) := by
  obtain ⟨_, h2, _, _, _, h3, _⟩ := (right_iff m).1 h
  have h5 : hasF m.kind 5 = true := by rcases hk with h | h <;> rw [h] <;> decide
  unfold targetR at h3
  rw [h5, if_pos rfl] at h3
  have hn : ¬ aimsNone m := by
    unfold aimsNone
    rintro (h' | h') <;> omega
  have h6 : ¬ noID (m.tn, m.ts) := fun h' => hn (h3.2.1 h')
  rcases h3.1 with h7 | h7
  · exact absurd h7 h6
  · exact ⟨h7.2, h2⟩
theorem right_dist {m : Msg} (h : Right m) (hk : m.kind = 4) : 1 ≤ m.dist ∧ m.dist ≤ 40 := by
  obtain ⟨_, _, _, _, h2, _⟩ := (right_iff m).1 h
  have h3 := h2.2.1.2.2
  have h9 : hasF m.kind 9 = true := by rw [hk]; decide
  rw [h9] at h3
  simpa [numberR] using h3
theorem mine4 {S : Sc} {m : Msg} (h : mineS S m 4) (now : Int) (p : Bool) : okRow (nextR m now p) := by
  obtain ⟨hk, hr, _⟩ := h
  obtain ⟨h1, h2⟩ := right_ts hr (.inl hk)
  obtain ⟨h3, h4⟩ := right_dist hr hk
  exact ⟨h1, h2, ⟨by show 0 ≤ m.dist; omega, h4⟩⟩
theorem mine6 {S : Sc} {m : Msg} (h : mineS S m 6) : okSerial m.ts ∧ (1 ≤ m.frm ∧ m.frm ≤ 64) := right_ts h.2.1 (.inr h.1)
section
variable {w w' W : World} {Q : QT} {g gt bm : Nat} {x : HB} {ft ft' fh fh' rt rt' F : List Nat} {S S' : Sc} {s d now k : Int} {r : Scn} {m : Msg} {rp lp : Option Addr} {rc lc : Nat} {pin : Bool} {b : Nat} {v : Value}
theorem AftS.done (h : AftS W g x ft S v Q) (P : PS w g x ft' S) (f0 : Fr ft W w) (e : ∀ y ∈ ft', y ∈ ft ∨ W.heap.size ≤ y) (f : Fr [b] w w') (hb : W.heap.size ≤ b) (hn : b ∉ ft') : Q v w' :=
  h ft' w' (P.keep f (fun y hy hm => hn (by simp at hm; rwa [← hm]))) (f0.trans f (fun y hy => .inr (by simp at hy; omega))) e
theorem told_spec {e : Int} {t5 : Nat} (b5 : Blk w t5 (m.cells rp rc lp lc) 41) (hQ : ∀ w', Fr [] w w' → Q (msgV (toldM m e) none 0 none 0) w') : CallR Tryz.prog 51 #[.int .i64 e, .pointer (some (at0 t5 0))] w Q := by
  apply X51.sound
  unfold X51.f
  refine newB fun g1 w2 b2 f2 h2 => ?_
  have c5 := b5.keep' f2
  have c8 : w2.cell? (((at0 t5 0).add 8).add 0) = some (.int .i64 m.tn) := by rw [add_add]; exact c5.cat 8 _ rfl
  have c9 : w2.cell? (((at0 t5 0).add 8).add 1) = some (.int .u64 m.ts) := by rw [add_add]; exact c5.cat 9 _ rfl
  refine ld_int (c5.cat 2 _ rfl) (ld_int (c5.cat 1 _ rfl) (ld_int c8 (ld_int c9 (ld_int (c5.cat 13 _ rfl) (ld_int (c5.cat 15 _ rfl) ?_)))))
  refine stAllB (vs := (toldM m e).cells none 0 none 0) b2 rfl fun w9 b9 f9 => ld_msgA (m := toldM m e) b9 ?_
  exact hQ _ (f2.trans f9 (fun y hy => .inr (by simp at hy; omega)))
structure DE (w : World) (g t4 t5 t6 t8 t11 : Nat) (m : Msg) (rp : Option Addr) (rc : Nat) (lp : Option Addr) (lc : Nat) (pin : Bool) : Prop where
  b4 : Blk w t4 [.pointer (some (at0 g 0))] 29
  b5 : Blk w t5 (m.cells rp rc lp lc) 41
  b6 : Blk w t6 [.bool pin] 4
  b8 : ∃ cs, Blk w t8 cs 41 ∧ cs.length = 19
  b11 : Blk w t11 [.int .u64 m.ts] 22
  n58 : t5 ≠ t8
variable {t4 t5 t6 t8 t11 : Nat}
theorem DE.keep (D : DE w g t4 t5 t6 t8 t11 m rp rc lp lc pin) (f : Fr F w w') (h : ∀ y ∈ [t4, t5, t6, t8, t11], y ∉ F) : DE w' g t4 t5 t6 t8 t11 m rp rc lp lc pin := by
  obtain ⟨cs, b8, hl⟩ := D.b8
  exact ⟨D.b4.keep f (h _ (by simp)), D.b5.keep f (h _ (by simp)), D.b6.keep f (h _ (by simp)), ⟨cs, b8.keep f (h _ (by simp)), hl⟩, D.b11.keep f (h _ (by simp)), D.n58⟩
theorem DE.keep' (D : DE w g t4 t5 t6 t8 t11 m rp rc lp lc pin) (f : Fr [] w w') : DE w' g t4 t5 t6 t8 t11 m rp rc lp lc pin := D.keep f (by simp)
theorem DE.lt (D : DE w g t4 t5 t6 t8 t11 m rp rc lp lc pin) : ∀ y ∈ [t4, t5, t6, t8, t11], y < w.heap.size := by
  obtain ⟨cs, b8, hl⟩ := D.b8
  intro y hy
  simp at hy
  rcases hy with rfl | rfl | rfl | rfl | rfl
  · exact D.b4.lt
  · exact D.b5.lt
  · exact D.b6.lt
  · exact b8.lt
  · exact D.b11.lt
theorem good_spec (P : PS w g x ft S) (D : DE w g t4 t5 t6 t8 t11 m rp rc lp lc pin) (hQ : ∀ w', Fr [] w w' → Q (.bool (goodS S m pin)) w') :
    CallR Tryz.prog 53 #[.pointer (some (at0 t5 0)), .pointer (some (at0 t4 0)), .pointer (some (at0 t6 0)), .pointer (some (at0 t11 0))] w Q := by
  apply X53.sound
  unfold X53.f
  refine drawn fun w1 f1 _ => ?_
  have P1 := P.keep' f1
  have D1 := D.keep' f1
  have R := P.ri
  obtain ⟨fh, gt, bm, rt, P1⟩ := P1
  refine ld_int (D1.b5.cat 14 _ rfl) (ld_ptr (D1.b4.cell rfl) (opt_some rfl (ld_ptr (P1.cat 22 rfl) (node_spec P1.heap ⟨_, rfl, ⟨D1.b5.cat 14 _ rfl, D1.b5.cat 14 _ rfl⟩, ?_⟩))))
  unfold goodS at hQ
  refine bc_eq (fun h => ?_) (fun h => drawn fun w10 f10 _ => ?_)
  · rw [if_pos h] at hQ
    exact ld_bool (D1.b6.cell rfl) (hQ _ f1)
  rw [if_neg h] at hQ
  have F10 := f1.tr f10
  have P10 := P1.keep' f10
  have D10 := D1.keep' f10
  have z : ∀ {w'' : World}, Fr [] w10 w'' → DE w'' g t4 t5 t6 t8 t11 m rp rc lp lc pin ∧ PSa w'' g x ft fh gt bm rt S := fun f => ⟨D10.keep' f, P10.keep' f⟩
  refine ⟨?_, ?_, ?_⟩
  · refine ld_ptr (D10.b4.cell rfl) (opt_some rfl (ld_ptr (P10.cat 23 rfl) (ld_int (D10.b11.cell rfl) (ld_int (D10.b5.cat 14 _ rfl) (key_spec ⟨_, rfl, ⟨P10.cat 23 rfl, P10.cat 23 rfl⟩, ⟨D10.b4.cell rfl, D10.b4.cell rfl⟩, get_SC P10.tab (fun hn w20 f20 => ?_) (fun r hr w20 f20 => ?_)⟩)))))
    · rw [hn] at hQ
      refine ⟨_, _, _, _, _, _, _, rfl, newB fun g28 w29 b29 f29 h29 => ?_⟩
      have D20 := D10.keep' f20
      have P20 := P10.keep' f20
      have D29 := D20.keep' f29
      have P29 := P20.keep' f29
      refine ⟨⟨D20.b5.cat 14 _ rfl, D29.b5.cat 14 _ rfl⟩, ⟨D20.b11.cell rfl, D29.b11.cell rfl⟩, ⟨P20.cat 23 rfl, P29.cat 23 rfl⟩, ⟨D20.b4.cell rfl, D29.b4.cell rfl⟩, stAllB (vs := scnZ.cells) b29 rfl fun w30 b30 f30 => ?_⟩
      exact hQ _ (F10.tr ((f20.tr f29).trans f30 (fun y hy => .inr (by have := f20.size; simp at hy; omega))))
    · rw [hr] at hQ
      refine ⟨_, _, _, _, _, _, _, rfl, newB fun g28 w29 b29 f29 h29 => ?_⟩
      have D20 := D10.keep' f20
      have P20 := P10.keep' f20
      have D29 := D20.keep' f29
      have P29 := P20.keep' f29
      refine ⟨⟨D20.b5.cat 14 _ rfl, D29.b5.cat 14 _ rfl⟩, ⟨D20.b11.cell rfl, D29.b11.cell rfl⟩, ⟨P20.cat 23 rfl, P29.cat 23 rfl⟩, ⟨D20.b4.cell rfl, D29.b4.cell rfl⟩, stAllB (vs := r.cells) b29 rfl fun w30 b30 f30 => ?_⟩
      exact bc_bool (fun _ => ld_bool (b30.cat 2 _ rfl) (hQ _ (F10.tr ((f20.tr f29).trans f30 (fun y hy => .inr (by have := f20.size; simp at hy; omega)))))) (fun e => by cases e)
  · refine ld_ptr (D10.b4.cell rfl) (opt_some rfl (ld_ptr (P10.cat 23 rfl) (ld_int (D10.b11.cell rfl) (ld_int (D10.b5.cat 14 _ rfl) (key_spec ⟨_, rfl, ⟨P10.cat 23 rfl, P10.cat 23 rfl⟩, ⟨D10.b4.cell rfl, D10.b4.cell rfl⟩, newB fun g28 w29 b29 f29 h29 => ?_⟩)))))
    obtain ⟨D29, P29⟩ := z f29
    refine ⟨⟨D10.b5.cat 14 _ rfl, D29.b5.cat 14 _ rfl⟩, ⟨D10.b11.cell rfl, D29.b11.cell rfl⟩, ⟨P10.cat 23 rfl, P29.cat 23 rfl⟩, ⟨D10.b4.cell rfl, D29.b4.cell rfl⟩, get_SC P29.tab (fun hn w20 f20 => ?_) (fun r hr w20 f20 => ?_)⟩
    · rw [hn] at hQ
      refine ⟨_, _, _, _, _, _, _, rfl, stAllB (vs := scnZ.cells) (b29.keep' f20) rfl fun w30 b30 f30 => ?_⟩
      exact hQ _ (F10.tr ((f29.tr f20).trans f30 (fun y hy => .inr (by simp at hy; omega))))
    · rw [hr] at hQ
      refine ⟨_, _, _, _, _, _, _, rfl, stAllB (vs := r.cells) (b29.keep' f20) rfl fun w30 b30 f30 => ?_⟩
      exact bc_bool (fun _ => ld_bool (b30.cat 2 _ rfl) (hQ _ (F10.tr ((f29.tr f20).trans f30 (fun y hy => .inr (by simp at hy; omega)))))) (fun e => by cases e)
  · refine ld_ptr (D10.b4.cell rfl) (opt_some rfl (ld_ptr (P10.cat 23 rfl) (ld_int (D10.b11.cell rfl) (ld_int (D10.b5.cat 14 _ rfl) (newB fun g28 w29 b29 f29 h29 => ?_)))))
    obtain ⟨D29, P29⟩ := z f29
    refine ⟨⟨D10.b5.cat 14 _ rfl, D29.b5.cat 14 _ rfl⟩, ⟨D10.b11.cell rfl, D29.b11.cell rfl⟩, ⟨P10.cat 23 rfl, P29.cat 23 rfl⟩, ⟨D10.b4.cell rfl, D29.b4.cell rfl⟩, key_spec ⟨_, rfl, ⟨P29.cat 23 rfl, P29.cat 23 rfl⟩, ⟨D29.b4.cell rfl, D29.b4.cell rfl⟩, get_SC P29.tab (fun hn w20 f20 => ?_) (fun r hr w20 f20 => ?_)⟩⟩
    · rw [hn] at hQ
      refine ⟨_, _, _, _, _, _, _, rfl, stAllB (vs := scnZ.cells) (b29.keep' f20) rfl fun w30 b30 f30 => ?_⟩
      exact hQ _ (F10.tr ((f29.tr f20).trans f30 (fun y hy => .inr (by simp at hy; omega))))
    · rw [hr] at hQ
      refine ⟨_, _, _, _, _, _, _, rfl, stAllB (vs := r.cells) (b29.keep' f20) rfl fun w30 b30 f30 => ?_⟩
      exact bc_bool (fun _ => ld_bool (b30.cat 2 _ rfl) (hQ _ (F10.tr ((f29.tr f20).trans f30 (fun y hy => .inr (by simp at hy; omega)))))) (fun e => by cases e)
structure DD (W w : World) (g : Nat) (x : HB) (ft : List Nat) (S : Sc) (t4 t5 t6 t8 t11 : Nat) (m : Msg) (rp : Option Addr) (rc : Nat) (lp : Option Addr) (lc : Nat) (pin : Bool) : Prop where
  P : PS w g x ft S
  D : DE w g t4 t5 t6 t8 t11 m rp rc lp lc pin
  F : Fr ft W w
  out : ∀ y ∈ [t4, t5, t6, t8, t11], y ∉ ft
  new : W.heap.size ≤ t8
theorem DD.keep' (h : DD W w g x ft S t4 t5 t6 t8 t11 m rp rc lp lc pin) (f : Fr [] w w') : DD W w' g x ft S t4 t5 t6 t8 t11 m rp rc lp lc pin := ⟨h.P.keep' f, h.D.keep' f, h.F.tr f.any, h.out, h.new⟩
theorem dirty_j0 {t18 : Nat} {t91 : Bool} (h : DD W w g x ft S t4 t5 t6 t8 t11 m rp rc lp lc pin) (hm : mineS S m 4) (b18 : Blk w t18 (nextR m now true).cells 52) (n18 : t18 ∉ ft) (h18 : W.heap.size ≤ t18)
    (hQ1 : t91 = true → AftS W g x ft S (.tuple #[msgV (toldM m 4) none 0 none 0, .bool false, .bool true]) Q) (hQ2 : t91 = false → AftS W g x ft (grantS S m pin now).1 (.tuple #[msgV (grantS S m pin now).2.1 none 0 none 0, .bool (grantS S m pin now).2.2.1, .bool (grantS S m pin now).2.2.2]) Q) :
    X19.j0 Q (at0 t4 0) (at0 t8 0) (at0 t11 0) (at0 t5 0) (at0 t5 0) (at0 t4 0) (at0 t6 0) (at0 t11 0) (at0 t18 0) t91 w := by
  unfold X19.j0
  refine bc_bool (fun ht => ?_) (fun ht => ?_)
  · refine told_spec h.D.b5 fun w2 f2 => ⟨_, _, _, _, _, _, _, _, _, _, _, _, _, _, _, _, _, _, _, _, _, _, _, rfl, ?_⟩
    have h2 := h.keep' f2
    obtain ⟨cs, b8, hl⟩ := h2.D.b8
    refine stAllB (vs := (toldM m 4).cells none 0 none 0) b8 hl.symm fun w22 b22 f22 => ld_msgA (m := toldM m 4) b22 ?_
    exact (hQ1 ht).done h2.P h2.F (fun y hy => .inl hy) f22 h.new (h.out _ (by simp))
  · have hQ2 := hQ2 ht
    unfold grantS at hQ2
    refine good_spec h.P h.D fun w43 f43 => ⟨_, rfl, ?_⟩
    have h43 := h.keep' f43
    have c18 := b18.keep' f43
    have n18' : ∀ y ∈ [t4, t5, t6, t8, t11], y ∉ [t18] := by
      obtain ⟨cs, b8, hl⟩ := h43.D.b8
      have D := h43.D
      intro y hy hm
      have hm : y = t18 := by simpa using hm
      subst hm
      simp at hy
      rcases hy with rfl | rfl | rfl | rfl | rfl
      · exact D.b4.ne c18 (by decide) rfl
      · exact D.b5.ne c18 (by decide) rfl
      · exact D.b6.ne c18 (by decide) rfl
      · exact b8.ne c18 (by decide) rfl
      · exact D.b11.ne c18 (by decide) rfl
    cases hg : goodS S m pin with
    | false =>
      rw [if_neg (by rw [hg]; decide)] at hQ2
      refine bc_bool (fun _ => stB (i := 2) c18 (show 2 < 6 by omega) fun w45 b45 f45 => ?_) (fun e => by cases e)
      have b45 : Blk w45 t18 (nextR m now false).cells 52 := b45
      have P45 := h43.P.keep f45 (fun y hy hm => n18 (by simp at hm; rwa [← hm]))
      have D45 := h43.D.keep f45 n18'
      have F45 : Fr ft W w45 := h43.F.trans f45 (fun y hy => .inr (by simp at hy; omega))
      refine ld_ptr (D45.b4.cell rfl) (ld_Scn (s := nextR m now false) b45.cat (put_spec P45 (mine4 hm now false) fun ft2 w54 P54 f54 e54 => ⟨rfl, ?_⟩))
      have z45 := F45.size
      have o54 : ∀ y ∈ [t4, t5, t6, t8, t11], y ∉ ft2 := fun y hy hm => by
        rcases e54 _ hm with h' | h'
        · exact h.out y hy h'
        · have := D45.lt y hy
          omega
      have D54 := D45.keep f54 h.out
      refine told_spec D54.b5 fun w56 f56 => ⟨_, _, _, _, _, _, _, _, _, _, _, _, _, _, _, _, _, _, _, _, _, _, _, rfl, ?_⟩
      obtain ⟨cs, b8, hl⟩ := (D54.keep' f56).b8
      refine stAllB (vs := (toldM m 4).cells none 0 none 0) b8 hl.symm fun w22 b22 f22 => ld_msgA (m := toldM m 4) b22 ?_
      exact hQ2.done (P54.keep' f56) ((F45.tr f54).tr f56.any) (fun y hy => (e54 y hy).imp_right fun h => by omega) f22 h.new (o54 _ (by simp))
    | true =>
      rw [if_pos hg] at hQ2
      refine bc_bool (fun e => by cases e) (fun _ => drawn fun w96 f96 _ => ?_)
      have h96 := h43.keep' f96
      have c96 := c18.keep' f96
      have hr := mine4 hm now true
      have hts := hr.1
      obtain ⟨fh, gt, bm, rt, P96⟩ := h96.P
      refine ld_ptr (h96.D.b4.cell rfl) (opt_some rfl (ld_map (P96.cat 24 rfl) (ld_int (h96.D.b11.cell rfl) (delU (K := 22) (E := 3) (by kernel_rfl) (by kernel_rfl) P96.map (u64wf (s := m.ts) (by have := hts.1; show 0 ≤ m.ts; simp at this; omega) (by have := hts.2; simp at this; omega)) fun w102 M102 f102 => ⟨rfl, ?_⟩))))
      rw [unbur_ent] at M102
      obtain ⟨P102, F102⟩ := P96.bur' M102 f102
      have D102 := h96.D.keep F102 h.out
      have b102 := c96.keep F102 n18
      have FW : Fr ft W w102 := h96.F.tr F102
      refine ld_ptr (D102.b4.cell rfl) (ld_Scn (s := nextR m now true) b102.cat (put_spec ⟨_, _, _, _, P102⟩ hr fun ft2 w54 P54 f54 e54 => ⟨rfl, ?_⟩))
      have z45 := FW.size
      have o54 : ∀ y ∈ [t4, t5, t6, t8, t11], y ∉ ft2 := fun y hy hm => by
        rcases e54 _ hm with h' | h'
        · exact h.out y hy h'
        · have := D102.lt y hy
          omega
      have D54 := D102.keep f54 h.out
      refine told_spec D54.b5 fun w56 f56 => ⟨_, _, _, _, _, _, _, _, _, _, _, _, _, _, _, _, _, _, _, _, _, _, _, rfl, ?_⟩
      obtain ⟨cs, b8, hl⟩ := (D54.keep' f56).b8
      refine stAllB (vs := (toldM m 0).cells none 0 none 0) b8 hl.symm fun w22 b22 f22 => ld_msgA (m := toldM m 0) b22 ?_
      exact hQ2.done (P54.keep' f56) ((FW.tr f54).tr f56.any) (fun y hy => (e54 y hy).imp_right fun h => by omega) f22 h.new (o54 _ (by simp))
end
end Go.Proofs.YtnjmkhhaodgpbaaGreatX
