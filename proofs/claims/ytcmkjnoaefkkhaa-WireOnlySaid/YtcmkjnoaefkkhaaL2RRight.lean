/- Which messages may be: what the document's functions come to. -/
import Derived.Test.YtcmkjnoaefkkhaaL2Fits
namespace Go.Proofs.YtcmkjnoaefkkhaaX
open Go.RowKit
set_option linter.unusedVariables false
set_option linter.unusedSimpArgs false
set_option maxRecDepth 100000
/-- the document's words for the fields -/
def fname : Nat → ByteArray
  | 0 => ⟨#[99, 97, 108, 108]⟩
  | 1 => ⟨#[102, 108, 111, 111, 114]⟩
  | 2 => ⟨#[105, 116, 101, 109]⟩
  | 3 => ⟨#[111, 112]⟩
  | 4 => ⟨#[102, 105, 101, 108, 100]⟩
  | 5 => ⟨#[116, 97, 114, 103, 101, 116]⟩
  | 6 => ⟨#[115, 101, 113]⟩
  | 7 => ⟨#[118, 111, 117, 99, 104, 101, 114]⟩
  | 8 => ⟨#[97, 116]⟩
  | 9 => ⟨#[100, 105, 115, 116]⟩
  | 10 => ⟨#[99, 111, 100, 101]⟩
  | 11 => ⟨#[118, 97, 108, 117, 101]⟩
  | 12 => ⟨#[114, 101, 102, 115]⟩
  | 13 => ⟨#[115, 116, 97, 109, 112]⟩
  | _ => ⟨#[108, 105, 115, 116]⟩
def kindS : List ByteArray := [(⟨#[]⟩ : ByteArray), (⟨#[99, 97, 108, 108, 32, 102, 108, 111, 111, 114, 32, 111, 112, 32, 102, 105, 101, 108, 100, 32, 116, 97, 114, 103, 101, 116, 32, 118, 97, 108, 117, 101, 32, 114, 101, 102, 115]⟩ : ByteArray), (⟨#[99, 97, 108, 108, 32, 99, 111, 100, 101, 32, 118, 97, 108, 117, 101, 32, 114, 101, 102, 115]⟩ : ByteArray), (⟨#[99, 97, 108, 108]⟩ : ByteArray), (⟨#[116, 97, 114, 103, 101, 116, 32, 115, 101, 113, 32, 118, 111, 117, 99, 104, 101, 114, 32, 97, 116, 32, 100, 105, 115, 116]⟩ : ByteArray), (⟨#[116, 97, 114, 103, 101, 116, 32, 115, 101, 113, 32, 97, 116, 32, 99, 111, 100, 101]⟩ : ByteArray), (⟨#[116, 97, 114, 103, 101, 116, 32, 115, 101, 113]⟩ : ByteArray), (⟨#[116, 97, 114, 103, 101, 116, 32, 115, 101, 113]⟩ : ByteArray), (⟨#[99, 97, 108, 108, 32, 105, 116, 101, 109, 32, 111, 112, 32, 116, 97, 114, 103, 101, 116]⟩ : ByteArray), (⟨#[99, 97, 108, 108, 32, 105, 116, 101, 109, 32, 99, 111, 100, 101, 32, 115, 116, 97, 109, 112, 32, 108, 105, 115, 116]⟩ : ByteArray), (⟨#[99, 97, 108, 108, 32, 105, 116, 101, 109, 32, 116, 97, 114, 103, 101, 116, 32, 115, 116, 97, 109, 112]⟩ : ByteArray), (⟨#[99, 97, 108, 108, 32, 105, 116, 101, 109]⟩ : ByteArray)]
/-- is a word among words? -/
def hasLoop (s t : ByteArray) : Nat → Nat → Nat → Bool
  | 0, _, _ => false
  | k + 1, a, i => if i ≤ s.size then
      if i = s.size then (if strEq (s.extract a i) t then true else hasLoop s t k (i + 1) (i + 1))
      else if byteAt s (i : Int) = 32 then (if strEq (s.extract a i) t then true else hasLoop s t k (i + 1) (i + 1)) else hasLoop s t k a (i + 1)
    else false
theorem has_fin : ∀ k : Fin 11, ∀ i : Fin 15, hasLoop (kindS.getD (k.val + 1) ⟨#[]⟩) (fname i.val) 40 0 0 = hasF ((k.val + 1 : Nat) : Int) i.val := by decide +kernel
section
variable {w : World} {Q : Value → World → Prop}
theorem has_l0 {s t : ByteArray} (hs : s.size ≤ 1000) (f : Nat) : ∀ (a i : Nat), s.size + 1 - i < f → a ≤ i → i ≤ s.size + 1 → Q (.bool (hasLoop s t f a i)) w → X32.l0 Q f t s (a : Int) (i : Int) w := by
  induction f with
  | zero => intro a i hf; omega
  | succ f ih =>
    intro a i hf ha hi hQ
    rw [X32.l0]
    rw [hasLoop] at hQ
    have e1 : IntKind.wrap .i64 ((i : Int) + 1) = ((i + 1 : Nat) : Int) := by rw [i64w _ (by omega) (by omega)]; omega
    rw [e1]
    refine bc_dec (fun h1 => ?_) (fun h1 => ?_)
    · rw [if_pos (by omega)] at hQ
      refine bc_eq (fun h2 => ?_) (fun h2 => ?_)
      · rw [if_pos (by omega)] at hQ
        refine ⟨⟨by omega, by omega, by omega⟩, ?_⟩
        simp only [Int.toNat_natCast]
        refine bc_bool (fun h => ?_) (fun h => ?_)
        · rw [if_pos h] at hQ; exact hQ
        · rw [if_neg (by simp [h])] at hQ
          exact ih _ _ (by omega) (by omega) (by omega) hQ
      · rw [if_neg (by omega)] at hQ
        refine ⟨⟨by omega, by omega⟩, bc_eq (fun h3 => ?_) (fun h3 => ?_)⟩
        · rw [if_pos h3] at hQ
          refine ⟨⟨by omega, by omega, by omega⟩, ?_⟩
          simp only [Int.toNat_natCast]
          refine bc_bool (fun h => ?_) (fun h => ?_)
          · rw [if_pos h] at hQ; exact hQ
          · rw [if_neg (by simp [h])] at hQ
            exact ih _ _ (by omega) (by omega) (by omega) hQ
        · rw [if_neg h3] at hQ
          exact ih _ _ (by omega) (by omega) (by omega) hQ
    · rw [if_neg (by omega)] at hQ
      exact hQ
theorem kindS_size : ∀ k : Fin 11, (kindS.getD (k.val + 1) ⟨#[]⟩).size ≤ 38 := by decide +kernel
theorem has_spec {k : Int} (i : Nat) (hi : i < 15) (hQ : ∀ w', Fr [] w w' → Q (.bool (hasF k i)) w') : CallR Try.prog 32 #[.int .i64 k, .string (fname i)] w Q := by
  refine X32.sound _ _ _ _ ?_
  unfold X32.f newK
  rw [show (⟨w.heap.size, 0, none⟩ : Addr) = at0 w.heap.size 0 from rfl]
  obtain ⟨hb, f⟩ := made (w := w) (cs := #[.string (⟨#[]⟩ : ByteArray), .string (⟨#[]⟩ : ByteArray), .string (⟨#[]⟩ : ByteArray), .string (⟨#[]⟩ : ByteArray), .string (⟨#[]⟩ : ByteArray), .string (⟨#[]⟩ : ByteArray), .string (⟨#[]⟩ : ByteArray), .string (⟨#[]⟩ : ByteArray), .string (⟨#[]⟩ : ByteArray), .string (⟨#[]⟩ : ByteArray), .string (⟨#[]⟩ : ByteArray), .string (⟨#[]⟩ : ByteArray)]) (e := 77)
  generalize w.alloc _ = w2 at *
  refine stAll_blk hb (by simp) ?_
  intro w3 b3 f3
  have f03 : Fr [] w w3 := f.trans f3 (fun x hx => by simp at hx; exact .inr (by omega))
  have hout : ¬ (1 ≤ k ∧ k ≤ 11) → hasF k i = false := fun h => by unfold hasF; rw [fieldsN_out h]; simp
  have hq := hQ w3 f03
  refine bc_dec (fun h1 => ?_) (fun h1 => bc_dec (fun h2 => ?_) (fun h2 => ?_))
  · rw [hout (by omega)] at hq; exact hq
  · rw [hout (by omega)] at hq; exact hq
  · have hfin := has_fin ⟨k.toNat - 1, by omega⟩ ⟨i, hi⟩
    have hsz := kindS_size ⟨k.toNat - 1, by omega⟩
    simp only [] at hfin hsz
    rw [show k.toNat - 1 + 1 = k.toNat by omega] at hfin hsz
    rw [show ((k.toNat : Nat) : Int) = k by omega] at hfin
    unfold X32.j1
    refine ⟨⟨by omega, by omega⟩, ?_⟩
    rw [add_at, Nat.zero_add, Nat.mul_one]
    have hl : k.toNat < kindS.length := by show k.toNat < 12; omega
    have hc : w3.cell? (at0 w.heap.size k.toNat) = some (.string (kindS.getD k.toNat ⟨#[]⟩)) := by
      refine b3.cell ?_
      rw [List.getD_eq_getElem?_getD, List.getElem?_eq_getElem hl]
      show (kindS.map Value.string)[k.toNat]? = _
      rw [List.getElem?_map, List.getElem?_eq_getElem hl]
      rfl
    refine ld_str hc ⟨40, has_l0 (by omega) 40 0 0 (by omega) (by omega) (by omega) ?_⟩
    rw [hfin]
    exact hq
theorem within_spec {n lo hi : Int} (hQ : ∀ b : Bool, (b = true ↔ lo ≤ n ∧ n ≤ hi) → Q (.bool b) w) : CallR Try.prog 29 #[.int .i64 n, .int .i64 lo, .int .i64 hi] w Q := by
  refine X29.sound _ _ _ _ _ ?_
  exact bc_dec (fun h => hQ _ (by simp; omega)) (fun h => hQ _ (by simp; omega))
theorem rnumber_spec {h : Bool} {n lo hi : Int} (hQ : ∀ b : Bool, (b = true ↔ numberR h n lo hi) → Q (.bool b) w) : CallR Try.prog 60 #[.bool h, .int .i64 n, .int .i64 lo, .int .i64 hi] w Q := by
  refine X60.sound _ _ _ _ _ _ ?_
  unfold numberR at hQ
  cases h with
  | false => exact bc_bool (fun _ => hQ _ (by simp)) (fun h => by cases h)
  | true => exact bc_bool (fun h => by cases h) (fun _ => within_spec fun b hb => ⟨_, rfl, hQ _ (by simpa using hb)⟩)
theorem rserial_spec {h : Bool} {n : Int} (hQ : ∀ b : Bool, (b = true ↔ serialR h n) → Q (.bool b) w) : CallR Try.prog 59 #[.bool h, .int .u64 n] w Q := by
  refine X59.sound _ _ _ _ ?_
  unfold serialR at hQ
  cases h with
  | false => exact bc_bool (fun _ => hQ _ (by simp)) (fun h => by cases h)
  | true => exact bc_bool (fun h => by cases h) (fun _ => bc_dec (fun h => hQ _ (by simp [okSerial]; omega)) (fun h => hQ _ (by simp [okSerial]; omega)))
theorem none_spec {x y : Int} (hQ : Ans Q (noID (x, y)) w) : CallR Try.prog 61 #[.agg #[.int .i64 x, .int .u64 y]] w Q := by
  refine X61.sound _ _ _ _ ?_
  unfold X61.f newK
  obtain ⟨hb, f⟩ := made (w := w) (cs := #[.int .i64 x, .int .u64 y]) (e := 24)
  rw [show (⟨w.heap.size, 0, none⟩ : Addr) = at0 w.heap.size 0 from rfl]
  simp only [add_at, Nat.zero_add]
  generalize w.alloc _ = w2 at *
  refine ld_int (hb.cell rfl) (bc_eq (fun h => ld_int (hb.cell rfl) (hQ _ _ ?_ f)) (fun h => hQ _ _ ?_ f))
  · simp [noID, h]
  · simp [noID, h]
theorem id_spec {x y : Int} (hQ : Ans Q (okID (x, y)) w) : CallR Try.prog 33 #[.agg #[.int .i64 x, .int .u64 y]] w Q := by
  refine X33.sound _ _ _ _ ?_
  unfold X33.f newK
  obtain ⟨hb, f⟩ := made (w := w) (cs := #[.int .i64 x, .int .u64 y]) (e := 24)
  rw [show (⟨w.heap.size, 0, none⟩ : Addr) = at0 w.heap.size 0 from rfl]
  simp only [add_at, Nat.zero_add]
  generalize w.alloc _ = w2 at *
  refine ld_int (hb.cell rfl) (bc_eq (fun h => ld_int (hb.cell rfl) (hQ _ _ ?_ f)) (fun h => ld_int (hb.cell rfl) (bc_dec (fun h1 => ld_int (hb.cell rfl) (bc_dec (fun h2 => ld_int (hb.cell rfl) (bc_dec (fun h3 => ld_int (hb.cell rfl) (hQ _ _ ?_ f)) (fun h3 => hQ _ _ ?_ f))) (fun h2 => hQ _ _ ?_ f))) (fun h1 => hQ _ _ ?_ f))))
  all_goals simp only [okID, okSerial, decide_eq_true_eq, beq_iff_eq]
  all_goals first | omega | exact ⟨fun hh => (by cases hh), fun hh => by omega⟩
end
section
variable {w : World} {Q : Value → World → Prop} {m : Msg} {rp lp : Option Addr} {rc lc g : Nat}
/-- what is false is answered at once -/
theorem Ans.no {P : Prop} {w w' : World} {Q : Value → World → Prop} (h : Ans Q P w) (f : Fr [] w w') (hn : ¬ P) : Q (.bool false) w' := h _ _ ⟨fun h => (by cases h), fun h => absurd h hn⟩ f
theorem Ans.le {P P' : Prop} {w w' : World} {Q : Value → World → Prop} (h : Ans Q P w) (f : Fr [] w w') (e : P' ↔ P) : Ans Q P' w' := fun b w2 hb f2 => h b w2 (hb.trans e) (f.tr f2)
theorem not_true {b : Bool} {P : Prop} (h : b = true ↔ P) (e : (!b) = true) : ¬ P := fun hp => by rw [h.2 hp] at e; cases e
theorem of_not {b : Bool} {P : Prop} (h : b = true ↔ P) (e : (!b) = false) : P := h.1 (by cases b; cases e; rfl)
def nP0 (m : Msg) : Prop := (hasF m.kind 11 = true ∨ m.value = 0) ∧ (hasF m.kind 8 = true ∨ m.at_ = 0) ∧ (hasF m.kind 13 = true ∨ m.stamp = 0)
def nP1 (m : Msg) : Prop := (if hasF m.kind 1 then 1 ≤ m.floor ∧ m.floor ≤ m.call else m.floor = 0) ∧ nP0 m
def nP2 (m : Msg) : Prop := (serialR (hasF m.kind 6) m.seq ∧ numberR (hasF m.kind 7) m.voucher 1 64 ∧ numberR (hasF m.kind 9) m.dist 1 40) ∧ nP1 m
theorem num_j0 (hb : Blk w g (m.cells rp rc lp lc) 28) (hQ : Ans Q (nP0 m) w) : X30.j0 Q (at0 g 0) m.kind w := by
  unfold X30.j0
  simp only [add_at, Nat.zero_add, Nat.add_zero]
  unfold nP0 at hQ
  -- the last one, whatever came ahead
  have last : ∀ {w'} {a : Prop} {b : Prop}, Fr [] w w' → ((hasF m.kind 11 = true ∨ m.value = 0)) → (hasF m.kind 8 = true ∨ m.at_ = 0) → CallR Try.prog 32 #[.int .i64 m.kind, .string (⟨#[115, 116, 97, 109, 112]⟩ : ByteArray)] w' fun v7 w8 => ∃ (y9 : Bool), v7 = .bool y9 ∧ bcase y9 (Q (.bool true) w8) (ldI .u64 w8 (at0 g 17) fun x10 => Q (.bool (x10 == (0 : Int))) w8) := by
    intro w' _ _ f h1 h2
    refine has_spec 13 (by omega) fun w2 f2 => ⟨_, rfl, bc_bool (fun h3 => ?_) (fun h3 => ?_)⟩
    · exact hQ _ _ (by simp [h1, h2, h3]) (f.tr f2)
    · refine ld_int ((hb.keep' (f.tr f2)).cell rfl) (hQ _ _ (by simp [h1, h2, h3]) (f.tr f2))
  have mid : ∀ {w'}, Fr [] w w' → ((hasF m.kind 11 = true ∨ m.value = 0)) → CallR Try.prog 32 #[.int .i64 m.kind, .string (⟨#[97, 116]⟩ : ByteArray)] w' fun v4 w5 => ∃ (y6 : Bool), v4 = .bool y6 ∧ bcase y6 (CallR Try.prog 32 #[.int .i64 m.kind, .string (⟨#[115, 116, 97, 109, 112]⟩ : ByteArray)] w5 fun v7 w8 => ∃ (y9 : Bool), v7 = .bool y9 ∧ bcase y9 (Q (.bool true) w8) (ldI .u64 w8 (at0 g 17) fun x10 => Q (.bool (x10 == (0 : Int))) w8)) (ldI .u64 w5 (at0 g 15) fun x11 => bcase (x11 == (0 : Int)) (CallR Try.prog 32 #[.int .i64 m.kind, .string (⟨#[115, 116, 97, 109, 112]⟩ : ByteArray)] w5 fun v12 w13 => ∃ (y14 : Bool), v12 = .bool y14 ∧ bcase y14 (Q (.bool true) w13) (ldI .u64 w13 (at0 g 17) fun x15 => Q (.bool (x15 == (0 : Int))) w13)) (Q (.bool false) w5)) := by
    intro w' f h1
    refine has_spec 8 (by omega) fun w2 f2 => ⟨_, rfl, bc_bool (fun h2 => last (a := True) (b := True) (f.tr f2) h1 (.inl h2)) (fun h2 => ?_)⟩
    refine ld_int ((hb.keep' (f.tr f2)).cell rfl) (bc_eq (fun h3 => last (a := True) (b := True) (f.tr f2) h1 (.inr h3)) (fun h3 => hQ.no (f.tr f2) ?_))
    simp [h2, h3]
  refine has_spec 11 (by omega) fun w2 f2 => ⟨_, rfl, bc_bool (fun h1 => mid f2 (.inl h1)) (fun h1 => ?_)⟩
  refine ld_int ((hb.keep' f2).cell rfl) (bc_eq (fun h2 => mid f2 (.inr h2)) (fun h2 => hQ.no f2 ?_))
  simp [h1, h2]
theorem num_j1 (hb : Blk w g (m.cells rp rc lp lc) 28) (hQ : Ans Q (nP1 m) w) : X30.j1 Q (at0 g 0) m.kind w := by
  unfold X30.j1
  simp only [add_at, Nat.zero_add, Nat.add_zero]
  unfold nP1 at hQ
  refine has_spec 1 (by omega) fun w2 f2 => ⟨_, rfl, bc_bool (fun h1 => ?_) (fun h1 => ?_)⟩
  · have b2 := hb.keep' f2
    refine ld_int (b2.cell rfl) (bc_dec (fun h => hQ.no f2 (by rw [if_pos h1]; omega)) (fun h2 => ?_))
    refine ld_int (b2.cell rfl) (ld_int (b2.cell rfl) (bc_dec (fun h => hQ.no f2 (by rw [if_pos h1]; omega)) (fun h3 => ?_)))
    refine has_spec 1 (by omega) fun w3 f3 => ⟨_, rfl, ?_⟩
    rw [h1]
    refine bc_bool (fun h => by cases h) (fun _ => num_j0 (b2.keep' f3) (hQ.le (f2.tr f3) ?_))
    rw [if_pos h1]
    exact ⟨fun h => ⟨⟨by omega, by omega⟩, h⟩, fun h => h.2⟩
  · refine has_spec 1 (by omega) fun w3 f3 => ⟨_, rfl, ?_⟩
    rw [h1]
    have b3 := hb.keep' (f2.tr f3)
    refine bc_bool (fun _ => ?_) (fun h => by cases h)
    refine ld_int (b3.cell rfl) (bc_ne (fun h => hQ.no (f2.tr f3) (by rw [if_neg (by simp [h1])]; exact fun hh => h hh.1)) (fun h => num_j0 b3 (hQ.le (f2.tr f3) ?_)))
    rw [if_neg (by simp [h1])]
    exact ⟨fun hh => ⟨h, hh⟩, fun hh => hh.2⟩
theorem num_j2 (hb : Blk w g (m.cells rp rc lp lc) 28) (hQ : Ans Q (nP2 m) w) : X30.j2 Q (at0 g 0) m.kind w := by
  unfold X30.j2 drewK
  simp only [add_at, Nat.zero_add, Nat.add_zero]
  unfold nP2 at hQ
  have f0 : Fr [] w w.drew := Fr.drew
  have c : ∀ {w'}, Fr [] w w' → Blk w' g (m.cells rp rc lp lc) 28 := fun f => hb.keep' f
  refine has_spec 6 (by omega) fun w2 f2 => ⟨_, rfl, ?_⟩
  have g2 := f0.tr f2
  refine ld_int ((c g2).cell rfl) ⟨⟨(c f0).cell rfl, (c g2).cell rfl⟩, rserial_spec fun b1 hb1 => ⟨_, rfl, bc_bool (fun e => hQ.no g2 fun h => not_true hb1 e h.1.1) (fun e1 => ?_)⟩⟩
  refine has_spec 7 (by omega) fun w3 f3 => ⟨_, rfl, ?_⟩
  have g3 := g2.tr f3
  refine ld_int ((c g3).cell rfl) ⟨⟨(c g2).cell rfl, (c g3).cell rfl⟩, rnumber_spec fun b2 hb2 => ⟨_, rfl, bc_bool (fun e => hQ.no g3 fun h => not_true hb2 e h.1.2.1) (fun e2 => ?_)⟩⟩
  refine has_spec 9 (by omega) fun w4 f4 => ⟨_, rfl, ?_⟩
  have g4 := g3.tr f4
  refine ld_int ((c g4).cell rfl) ⟨⟨(c g3).cell rfl, (c g4).cell rfl⟩, rnumber_spec fun b3 hb3 => ⟨_, rfl, bc_bool (fun e => hQ.no g4 fun h => not_true hb3 e h.1.2.2) (fun e3 => ?_)⟩⟩
  exact num_j1 (c g4) (hQ.le g4 ⟨fun h => ⟨⟨of_not hb1 e1, of_not hb2 e2, of_not hb3 e3⟩, h⟩, fun h => h.2⟩)
theorem num_j3 (hb : Blk w g (m.cells rp rc lp lc) 28) (hQ : Ans Q (numbersR m) w) : X30.j3 Q (at0 g 0) m.kind (opsN m.kind) (codesN m.kind) w := by
  unfold X30.j3 drewK
  simp only [add_at, Nat.zero_add, Nat.add_zero]
  unfold numbersR at hQ
  have f0 : Fr [] w w.drew := Fr.drew
  have c : ∀ {w'}, Fr [] w w' → Blk w' g (m.cells rp rc lp lc) 28 := fun f => hb.keep' f
  refine has_spec 0 (by omega) fun w2 f2 => ⟨_, rfl, ?_⟩
  have g2 := f0.tr f2
  refine ld_int ((c g2).cell rfl) ⟨⟨(c f0).cell rfl, (c g2).cell rfl⟩, rserial_spec fun b1 hb1 => ⟨_, rfl, bc_bool (fun e => hQ.no g2 fun h => not_true hb1 e h.1.1) (fun e1 => ?_)⟩⟩
  refine has_spec 3 (by omega) fun w3 f3 => ⟨_, rfl, ?_⟩
  have g3 := g2.tr f3
  refine ld_int ((c g3).cell rfl) ⟨⟨(c g2).cell rfl, (c g3).cell rfl⟩, rnumber_spec fun b2 hb2 => ⟨_, rfl, bc_bool (fun e => hQ.no g3 fun h => not_true hb2 e h.1.2.1) (fun e2 => ?_)⟩⟩
  refine has_spec 4 (by omega) fun w4 f4 => ⟨_, rfl, ?_⟩
  have g4 := g3.tr f4
  refine ld_int ((c g4).cell rfl) ⟨⟨(c g3).cell rfl, (c g4).cell rfl⟩, rnumber_spec fun b3 hb3 => ⟨_, rfl, bc_bool (fun e => hQ.no g4 fun h => not_true hb3 e h.1.2.2.1) (fun e3 => ?_)⟩⟩
  refine has_spec 2 (by omega) fun w5 f5 => ⟨_, rfl, ?_⟩
  have g5 := g4.tr f5
  refine ld_int ((c g5).cell rfl) ⟨⟨(c g4).cell rfl, (c g5).cell rfl⟩, rnumber_spec fun b4 hb4 => ⟨_, rfl, bc_bool (fun e => hQ.no g5 fun h => not_true hb4 e h.1.2.2.2.1) (fun e4 => ?_)⟩⟩
  refine has_spec 10 (by omega) fun w6 f6 => ⟨_, rfl, ?_⟩
  have g6 := g5.tr f6
  refine ld_int ((c g6).cell rfl) ⟨⟨(c g5).cell rfl, (c g6).cell rfl⟩, rnumber_spec fun b5 hb5 => ⟨_, rfl, bc_bool (fun e => hQ.no g6 fun h => not_true hb5 e h.1.2.2.2.2) (fun e5 => ?_)⟩⟩
  exact num_j2 (c g6) (hQ.le g6 ⟨fun h => ⟨⟨of_not hb1 e1, of_not hb2 e2, of_not hb3 e3, of_not hb4 e4, of_not hb5 e5⟩, h⟩, fun h => h.2⟩)
theorem rnumbers_spec (hQ : Ans Q (numbersR m) w) : CallR Try.prog 30 #[msgV m rp rc lp lc] w Q := by
  apply X30.sound
  unfold X30.f newK
  obtain ⟨hb, f⟩ := made (w := w) (cs := (m.cells rp rc lp lc).toArray) (e := 28)
  rw [show (⟨w.heap.size, 0, none⟩ : Addr) = at0 w.heap.size 0 from rfl]
  simp only [add_at, Nat.zero_add, Nat.add_zero]
  generalize w.alloc _ = w2 at *
  have go := num_j3 hb (hQ.le f Iff.rfl)
  refine ld_int (hb.cell rfl) ?_
  unfold X30.j4
  refine bc_eq (fun h8 => ?_) (fun h8 => ?_)
  · have e1 : opsN m.kind = 3 := by unfold opsN; rw [if_pos h8]
    have e2 : codesN m.kind = 10 := by unfold codesN; rw [if_neg (by omega)]
    rw [e1, e2] at go
    exact bc_eqf (by omega) go
  · have e1 : opsN m.kind = 6 := by unfold opsN; rw [if_neg h8]
    rw [e1] at go
    unfold codesN at go
    refine bc_eq (fun h9 => ?_) (fun h9 => ?_)
    · rw [if_pos h9] at go; exact go
    · rw [if_neg h9] at go; exact go
theorem rtarget_spec (hQ : Ans Q (targetR m) w) : CallR Try.prog 31 #[msgV m rp rc lp lc] w Q := by
  apply X31.sound
  unfold X31.f newK
  obtain ⟨hb, f⟩ := made (w := w) (cs := (m.cells rp rc lp lc).toArray) (e := 28)
  rw [show (⟨w.heap.size, 0, none⟩ : Addr) = at0 w.heap.size 0 from rfl]
  simp only [add_at, Nat.zero_add, Nat.add_zero]
  generalize w.alloc _ = w2 at *
  unfold targetR at hQ
  refine ld_int (hb.cell rfl) (has_spec 5 (by omega) fun w3 f3 => ⟨_, rfl, ?_⟩)
  have b3 := hb.keep' f3
  have g3 := f.tr f3
  refine bc_bool (fun h => ?_) (fun h => ?_)
  · have hh : hasF m.kind 5 = false := by cases e : hasF m.kind 5; rfl; rw [e] at h; cases h
    rw [if_neg (by simp [hh])] at hQ
    exact ld_int (b3.cell rfl) (ld_int (b3.cell rfl) (none_spec fun b w4 hb4 f4 => ⟨_, rfl, hQ _ _ hb4 (g3.tr f4)⟩))
  · have hh : hasF m.kind 5 = true := by cases e : hasF m.kind 5; rw [e] at h; cases h; rfl
    rw [if_pos hh] at hQ
    have key : ∀ (c : Bool), (c = true ↔ aimsNone m) → CallR Try.prog 33 #[.agg #[.int .i64 m.tn, .int .u64 m.ts]] w3 fun v16 w17 => ∃ (y18 : Bool), v16 = .bool y18 ∧ bcase y18 (ldI .i64 w17 (at0 w.heap.size 8) fun x19 => ldI .u64 w17 (at0 w.heap.size 9) fun x20 => CallR Try.prog 61 #[.agg #[.int .i64 x19, .int .u64 x20]] w17 fun v21 w22 => ∃ (y23 : Bool), v21 = .bool y23 ∧ Q (.bool (y23 == c)) w22) (Q (.bool false) w17) := by
      intro c hc
      refine id_spec fun b w4 hb4 f4 => ⟨_, rfl, bc_bool (fun e => ?_) (fun e => ?_)⟩
      · have b4 := b3.keep' f4
        refine ld_int (b4.cell rfl) (ld_int (b4.cell rfl) (none_spec fun d w5 hd f5 => ⟨_, rfl, hQ _ _ ?_ ((g3.tr f4).tr f5)⟩))
        have h1 := hb4.1 e
        rw [← hc, ← hd]
        cases d <;> cases c <;> simp [h1]
      · exact hQ.no (g3.tr f4) fun h => by rw [hb4.2 h.1] at e; cases e
    refine ld_int (b3.cell rfl) (bc_eq (fun h1 => ?_) (fun h1 => ?_))
    · refine ld_int (b3.cell rfl) (bc_eq (fun h2 => ?_) (fun h2 => ?_))
      · exact ld_int (b3.cell rfl) (ld_int (b3.cell rfl) (key true (by simp [aimsNone, h1, h2])))
      · refine ld_int (b3.cell rfl) (bc_eq (fun h3 => ?_) (fun h3 => ?_))
        · exact ld_int (b3.cell rfl) (ld_int (b3.cell rfl) (key true (by simp [aimsNone, h1, h3])))
        · refine ld_int (b3.cell rfl) (bc_eq (fun h4 => by omega) (fun h4 => ?_))
          exact ld_int (b3.cell rfl) (ld_int (b3.cell rfl) (key false (by simp [aimsNone, h1, h2, h3])))
    · refine ld_int (b3.cell rfl) (bc_eq (fun h2 => ?_) (fun h2 => ?_))
      · exact ld_int (b3.cell rfl) (ld_int (b3.cell rfl) (ld_int (b3.cell rfl) (key (m.op == 3) (by simp [aimsNone, h1, h2]))))
      · exact ld_int (b3.cell rfl) (ld_int (b3.cell rfl) (key false (by simp [aimsNone, h1, h2])))
end
end Go.Proofs.YtcmkjnoaefkkhaaX
