/- Which messages may be: what the program's functions come to. -/
import Derived.Test.YtnjmkhhaodgpbaaXT1
import Derived.Test.YtnjmkhhaodgpbaaQMsg
import Derived.Test.YtnjmkhhaodgpbaaXAll
import Derived.Test.YtnjmkhhaodgpbaaPTab
namespace Go.Proofs.YtnjmkhhaodgpbaaX
open Go.RowKit
set_option linter.unusedVariables false
set_option linter.unusedSimpArgs false
set_option maxRecDepth 100000
abbrev Msg.cells (m : Msg) (rp : Option Addr) (rc : Nat) (lp : Option Addr) (lc : Nat) : List Value :=
  [.int .i64 m.kind, .int .i64 m.frm, .int .i64 m.to, .int .u64 m.call, .int .u64 m.floor, .int .i64 m.op, .int .i64 m.field, .int .i64 m.item, .int .i64 m.tn, .int .u64 m.ts, .slice rp m.refs.length rc,
   .int .u64 m.value, .int .i64 m.code, .int .u64 m.seq, .int .i64 m.voucher, .int .u64 m.at_, .int .i64 m.dist, .int .u64 m.stamp, .slice lp m.list.length lc]
abbrev idc (x : Int × Int) : List Value := [.int .i64 x.1, .int .u64 x.2]
theorem idc_len (x : Int × Int) : (idc x).length = 2 := rfl
/-- a message's lists, as they lie -/
structure MM (w : World) (m : Msg) (rp : Option Addr) (rc : Nat) (lp : Option Addr) (lc : Nat) : Prop where
  refs : Cells w rp (m.refs.flatMap idc)
  rle : m.refs.length ≤ rc
  rnil : rp = none → rc = 0
  rby : m.refs.length * 16 ≤ 140737488355328
  list : Cells w lp (m.list.map (Value.int .u64))
  lle : m.list.length ≤ lc
  lnil : lp = none → lc = 0
  lby : m.list.length * 8 ≤ 140737488355328
theorem MM.keep {w w' : World} {m : Msg} {rp lp : Option Addr} {rc lc : Nat} {S : List Nat} (h : MM w m rp rc lp lc) (f : Fr S w w') (hr : ∀ k ∈ fbl rp, k ∉ S) (hl : ∀ k ∈ fbl lp, k ∉ S) : MM w' m rp rc lp lc :=
  ⟨h.refs.keep f hr, h.rle, h.rnil, h.rby, h.list.keep f hl, h.lle, h.lnil, h.lby⟩
theorem MM.rsz {w : World} {m : Msg} {rp lp : Option Addr} {rc lc : Nat} (h : MM w m rp rc lp lc) : m.refs.length ≤ 140737488355328 := by have := h.rby; omega
theorem MM.lsz {w : World} {m : Msg} {rp lp : Option Addr} {rc lc : Nat} (h : MM w m rp rc lp lc) : m.list.length ≤ 140737488355328 := by have := h.lby; omega
theorem MM.keep' {w w' : World} {m : Msg} {rp lp : Option Addr} {rc lc : Nat} (h : MM w m rp rc lp lc) (f : Fr [] w w') : MM w' m rp rc lp lc := h.keep f (by simp) (by simp)
/-- an answer that is a bool -/
def Ans (Q : Value → World → Prop) (P : Prop) (w : World) : Prop := ∀ (b : Bool) w', (b = true ↔ P) → Fr [] w w' → Q (.bool b) w'
theorem isS24 : isStruct Try.prog 36 := ⟨_, Try.underlying36⟩
section
variable {w : World} {Q : Value → World → Prop}
theorem in_spec {n lo hi : Int} (hQ : ∀ b : Bool, (b = true ↔ lo ≤ n ∧ n ≤ hi) → Q (.bool b) w) : CallR Try.prog 68 #[.int .i64 n, .int .i64 lo, .int .i64 hi] w Q := by
  refine X68.sound _ _ _ _ _ ?_
  exact bc_dec (fun h => hQ _ (by simp; omega)) (fun h => hQ _ (by simp; omega))
theorem serial_spec {n : Int} (hQ : ∀ b : Bool, (b = true ↔ okSerial n) → Q (.bool b) w) : CallR Try.prog 76 #[.int .u64 n] w Q := by
  refine X76.sound _ _ _ ?_
  exact bc_dec (fun h => hQ _ (by simp [okSerial]; omega)) (fun h => hQ _ (by simp [okSerial]; omega))
theorem ops_spec {k : Int} (hQ : Q (.int .i64 (opsN k)) w) : CallR Try.prog 77 #[.int .i64 k] w Q := by
  refine X77.sound _ _ _ ?_
  unfold opsN at hQ
  exact bc_eq (fun h => by rw [if_pos h] at hQ; exact hQ) (fun h => by rw [if_neg h] at hQ; exact hQ)
theorem codes_spec {k : Int} (hQ : Q (.int .i64 (codesN k)) w) : CallR Try.prog 80 #[.int .i64 k] w Q := by
  refine X80.sound _ _ _ ?_
  unfold codesN at hQ
  exact bc_eq (fun h => by rw [if_pos h] at hQ; exact hQ) (fun h => by rw [if_neg h] at hQ; exact hQ)
theorem fields_spec {k : Int} (hQ : Q (.int .i64 ((fieldsN k : Nat) : Int)) w) : CallR Try.prog 67 #[.int .i64 k] w Q := by
  refine X67.sound _ _ _ ?_
  unfold X67.f
  have e1 : iOr .i64 (iOr .i64 0 7168) 1 = 7169 := by decide +kernel
  have e2 : iOr .i64 0 1 = 1 := by decide +kernel
  have e3 : iOr .i64 (iOr .i64 0 896) 96 = 992 := by decide +kernel
  have e4 : iOr .i64 0 96 = 96 := by decide +kernel
  have e5 : iOr .i64 0 1376 = 1376 := by decide +kernel
  have e6 : iOr .i64 (iOr .i64 0 25600) 5 = 25605 := by decide +kernel
  have e7 : iOr .i64 0 5 = 5 := by decide +kernel
  have e8 : iOr .i64 0 8229 = 8229 := by decide +kernel
  simp only [e1, e2, e3, e4, e5, e6, e7, e8]
  unfold fieldsN at hQ
  refine bc_eq (fun h => by subst h; exact hQ) (fun h1 => bc_eq (fun h => by subst h; exact hQ) (fun h2 => bc_eq (fun h => by subst h; exact hQ) (fun h3 => bc_eq (fun h => by subst h; exact hQ) (fun h4 => bc_eq (fun h6 => ?_) (fun h6 => ?_)))))
  · exact bc_eq (fun _ => by subst h6; exact hQ) (fun h => absurd h6 h)
  · refine bc_eq (fun h => by subst h; exact hQ) (fun h7 => bc_eq (fun h => by subst h; exact hQ) (fun h5 => bc_eq (fun h => by subst h; exact hQ) (fun h8 => bc_eq (fun h => by subst h; exact hQ) (fun h9 => bc_eq (fun h => by subst h; exact hQ) (fun h11 => bc_eq (fun h => by subst h; exact hQ) (fun h10 => ?_))))))
    rw [if_neg h1, if_neg h2, if_neg h3, if_neg h4, if_neg h5, if_neg h6, if_neg h7, if_neg h8, if_neg h9, if_neg h10, if_neg h11] at hQ
    exact hQ
theorem and_noID {x y : Int} : (((x == (0 : Int)) && ((y == (0 : Int)) && true)) = true) ↔ noID (x, y) := by
  unfold noID; simp
/-- a value that was handed in, in a block of its own -/
theorem made {cs : Array Value} {e : TypeId} : Blk (w.alloc (.cells cs e)) w.heap.size cs.toList e ∧ Fr [] w (w.alloc (.cells cs e)) := ⟨Blk.made w cs e, Fr.alloc _ _⟩
theorem right_spec {x y : Int} (hQ : Ans Q (okID (x, y)) w) : CallR Try.prog 78 #[.agg #[.int .i64 x, .int .u64 y]] w Q := by
  refine X78.sound _ _ _ _ ?_
  unfold X78.f newK
  obtain ⟨hb, f⟩ := made (w := w) (cs := #[.int .i64 x, .int .u64 y]) (e := 36)
  rw [show (⟨w.heap.size, 0, none⟩ : Addr) = at0 w.heap.size 0 from rfl]
  simp only [add_at, Nat.zero_add]
  generalize w.alloc _ = w2 at *
  refine ld_int (hb.cell rfl) (ld_int (hb.cell rfl) ⟨isS24, bc_bool (fun h => ?_) (fun h => ?_)⟩)
  · exact hQ _ _ (by have := and_noID.1 h; unfold noID at this; unfold okID; simp_all) f
  · have hn : ¬ noID (x, y) := fun hh => by rw [and_noID.2 hh] at h; cases h
    unfold noID at hn
    refine ld_int (hb.cell rfl) (in_spec fun b hb1 => ⟨_, rfl, bc_bool (fun e => ?_) (fun e => ?_)⟩)
    · refine ld_int (hb.cell rfl) (serial_spec fun c hc => ⟨_, rfl, hQ _ _ ?_ f⟩)
      rw [hc]
      have := hb1.1 e
      unfold okID
      simp only at hn ⊢
      constructor
      · intro h; exact .inr ⟨this, h⟩
      · rintro (h | h)
        · exact absurd h hn
        · exact h.2
    · refine hQ _ _ ?_ f
      have : ¬ (1 ≤ x ∧ x ≤ 64) := fun h => by rw [hb1.2 h] at e; cases e
      unfold okID
      simp only at hn ⊢
      constructor
      · intro h; cases h
      · rintro (h | h)
        · exact absurd h hn
        · exact absurd h.1 this
theorem allRight_l0 {p : Option Addr} {n c : Nat} {l : List (Int × Int)} (hc : Cells w p (l.flatMap idc)) (hl : l.length = n) (hn : n ≤ 140737488355328) (hQ : Ans Q ((∀ x ∈ l, okID x) ∧ l.length ≤ 2) w) :
    ∀ (f i : Nat) (w' : World), n - i < f → Fr [] w w' → i ≤ n → (∀ x ∈ l.take i, okID x) → X81.l0 Q f p n c p n c (n : Int) (i : Int) w'
  | 0, i, w', hf, _, _, _ => by omega
  | f + 1, i, w', hf, hw, hi, hp => by
    rw [X81.l0]
    refine bc_dec (fun h1 => ?_) (fun h1 => ?_)
    · have hlt : i < l.length := by omega
      have hg := List.getElem?_eq_getElem hlt
      have htk : l.take (i + 1) = l.take i ++ [l[i]] := (List.take_append_getElem hlt).symm
      have hmem : l[i] ∈ l := List.getElem_mem hlt
      generalize l[i] = x at hg htk hmem
      obtain ⟨q, hq, c0⟩ := (hc.keep' hw) _ _ (flat_get idc_len l hg (j := 0) rfl)
      obtain ⟨q', hq', c1⟩ := (hc.keep' hw) _ _ (flat_get idc_len l hg (j := 1) rfl)
      rw [hq] at hq'; injection hq' with hq'; subst hq'
      refine ⟨⟨by omega, by omega⟩, opt_some hq ?_⟩
      rw [Int.toNat_natCast]
      simp only [add_add]
      refine ld_int c0 (ld_int c1 ?_)
      unfold newK
      obtain ⟨hb, fa⟩ := made (w := w') (cs := #[.int .i64 0, .int .u64 0]) (e := 36)
      have hgl : w'.heap.size < (w'.alloc (.cells #[.int .i64 0, .int .u64 0] 36)).heap.size := hb.lt
      rw [show (⟨w'.heap.size, 0, none⟩ : Addr) = at0 w'.heap.size 0 from rfl]
      have s0 := hw.size
      have fa' : Fr [] w (w'.alloc (.cells #[.int .i64 0, .int .u64 0] 36)) := hw.tr fa
      generalize w'.alloc _ = w2 at *
      refine stAll_blk hb (by simp) ?_
      intro w3 b3 f3
      have f3' : Fr [] w w3 := fa'.trans f3 (fun x hx => by simp at hx; exact .inr (by omega))
      simp only [add_at, Nat.zero_add]
      refine ld_int (b3.cell rfl) (ld_int (b3.cell rfl) (right_spec fun b w4 hb4 f4 => ⟨_, rfl, ?_⟩))
      refine bc_bool (fun h => ?_) (fun h => ?_)
      · have hbf : b = false := by cases b; rfl; cases h
        subst hbf
        refine hQ _ _ ⟨fun h => (by cases h), fun h => ?_⟩ (f3'.tr f4)
        exact hb4.2 (h.1 x hmem)
      · have hbt : b = true := by cases b; cases h; rfl
        rw [show IntKind.wrap .i64 ((i : Int) + 1) = ((i + 1 : Nat) : Int) by rw [i64w _ (by omega) (by omega)]; omega]
        refine allRight_l0 hc hl hn hQ f (i + 1) w4 (by omega) (f3'.tr f4) (by omega) (fun y hy => ?_)
        rw [htk] at hy
        rcases List.mem_append.1 hy with hy | hy
        · exact hp y hy
        · rw [List.mem_singleton.1 hy]; exact hb4.1 hbt
    · refine hQ _ _ ?_ hw
      have : l.take i = l := List.take_of_length_le (by omega)
      rw [this] at hp
      simp only [decide_eq_true_eq]
      constructor
      · intro h; exact ⟨hp, by omega⟩
      · intro h; omega
theorem allRight_spec {p : Option Addr} {n c : Nat} {l : List (Int × Int)} (hc : Cells w p (l.flatMap idc)) (hl : l.length = n) (hn : n ≤ 140737488355328) (hQ : Ans Q ((∀ x ∈ l, okID x) ∧ l.length ≤ 2) w) : CallR Try.prog 81 #[.slice p n c] w Q := by
  refine X81.sound _ _ _ _ _ ⟨n + 1, ?_⟩
  exact allRight_l0 hc hl hn hQ (n + 1) 0 w (by omega) (Fr.refl w) (by omega) (by simp)
theorem cell_u64 {p : Option Addr} {l : List Int} (hc : Cells w p (l.map (Value.int .u64))) {i : Nat} {x : Int} (hi : l[i]? = some x) : ∃ a, p = some a ∧ w.cell? (a.add (i * 1)) = some (.int .u64 x) := by
  rw [Nat.mul_one]
  exact hc i _ (by simp [hi])
/-- the numbers ahead of a place rise -/
def riseTo (l : List Int) (i : Nat) : Prop := ∀ (j : Nat) (n : Int), j < i → l[j]? = some n → okSerial n ∧ ∀ (k : Nat) (p : Int), j = k + 1 → l[k]? = some p → p < n
theorem riseTo_all {l : List Int} : riseTo l l.length ↔ rise l := by
  constructor
  · intro h i n hi
    exact h i n (List.getElem?_eq_some_iff.1 hi).1 hi
  · intro h i n _ hi
    exact h i n hi
theorem rising_l0 {p : Option Addr} {n c : Nat} {l : List Int} (hc : Cells w p (l.map (Value.int .u64))) (hl : l.length = n) (hn : n ≤ 140737488355328) (hQ : ∀ b : Bool, (b = true ↔ rise l ∧ l.length ≤ 64) → Q (.bool b) w) :
    ∀ (f i : Nat), n - i < f → i ≤ n → riseTo l i → X82.l0 Q f p n c p n c (n : Int) (i : Int) w
  | 0, i, hf, _, _ => by omega
  | f + 1, i, hf, hi, hp => by
    rw [X82.l0]
    refine bc_dec (fun h1 => ?_) (fun h1 => ?_)
    · have hlt : i < l.length := by omega
      have hg := List.getElem?_eq_getElem hlt
      generalize l[i] = x at hg
      obtain ⟨q, hq, c0⟩ := cell_u64 hc hg
      refine ⟨⟨by omega, by omega⟩, opt_some hq (ld_int (by rw [Int.toNat_natCast]; exact c0) (serial_spec fun b hb => ⟨_, rfl, bc_bool (fun h => ?_) (fun h => ?_)⟩))⟩
      · have hbf : b = false := by cases b; rfl; cases h
        subst hbf
        exact hQ _ ⟨fun h => (by cases h), fun h => hb.2 (h.1 i x hg).1⟩
      · have hbt : b = true := by cases b; cases h; rfl
        have hok := hb.1 hbt
        have e2 : IntKind.wrap .i64 ((i : Int) + 1) = ((i + 1 : Nat) : Int) := by rw [i64w _ (by omega) (by omega)]; omega
        rw [e2]
        refine bc_dec (fun h0 => ?_) (fun h0 => ?_)
        · have e1 : IntKind.wrap .i64 ((i : Int) - 1) = ((i - 1 : Nat) : Int) := by rw [i64w _ (by omega) (by omega)]; omega
          rw [e1]
          have hlt1 : i - 1 < l.length := by omega
          have hg1 := List.getElem?_eq_getElem hlt1
          generalize l[i - 1] = y at hg1
          obtain ⟨q1, hq1, c1⟩ := cell_u64 hc hg1
          refine ⟨⟨by omega, by omega⟩, opt_some hq1 (ld_int (by rw [Int.toNat_natCast]; exact c1) (bc_dec (fun hle => ?_) (fun hle => ?_)))⟩
          · exact hQ _ ⟨fun h => (by cases h), fun h => by have := (h.1 i x hg).2 (i - 1) y (by omega) hg1; omega⟩
          · refine rising_l0 hc hl hn hQ f (i + 1) (by omega) (by omega) (fun j z hj hz => ?_)
            by_cases e : j = i
            · subst e
              rw [hg] at hz; injection hz with hz; subst hz
              refine ⟨hok, fun k u hk hu => ?_⟩
              have : k = j - 1 := by omega
              subst this
              rw [hg1] at hu; injection hu with hu; omega
            · exact hp j z (by omega) hz
        · refine rising_l0 hc hl hn hQ f (i + 1) (by omega) (by omega) (fun j z hj hz => ?_)
          have : j = 0 := by omega
          subst this
          have : i = 0 := by omega
          subst this
          rw [hg] at hz; injection hz with hz; subst hz
          exact ⟨hok, fun k u hk => by omega⟩
    · have : i = l.length := by omega
      subst this
      refine hQ _ ?_
      rw [riseTo_all] at hp
      simp only [decide_eq_true_eq]
      constructor
      · intro h; exact ⟨hp, by omega⟩
      · intro h; omega
theorem rising_spec {p : Option Addr} {n c : Nat} {l : List Int} (hc : Cells w p (l.map (Value.int .u64))) (hl : l.length = n) (hn : n ≤ 140737488355328) (hQ : ∀ b : Bool, (b = true ↔ rise l ∧ l.length ≤ 64) → Q (.bool b) w) : CallR Try.prog 82 #[.slice p n c] w Q := by
  refine X82.sound _ _ _ _ _ ⟨n + 1, ?_⟩
  exact rising_l0 hc hl hn hQ (n + 1) 0 (by omega) (by omega) (fun j _ hj => by omega)
end
end Go.Proofs.YtnjmkhhaodgpbaaX
