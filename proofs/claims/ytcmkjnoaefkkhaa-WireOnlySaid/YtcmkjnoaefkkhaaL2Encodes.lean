/- The document's Encode, whole; WireEncodes. -/
import Derived.Test.YtcmkjnoaefkkhaaL2RBody
namespace Go.Proofs.YtcmkjnoaefkkhaaX
open Go.RowKit
set_option linter.unusedVariables false
set_option linter.unusedSimpArgs false
set_option maxRecDepth 100000
section
variable {W w : World} {Q : Value → World → Prop} {m : Msg} {rp lp : Option Addr} {rc lc : Nat}
theorem body_spec (hr : Right m) (hwf : Wf m) (hm : MM w m rp rc lp lc) (hK : BodyK w (encB m) Q) : CallR Try.prog 38 #[msgV m rp rc lp lc] w Q := by
  apply X38.sound
  unfold X38.f newK
  obtain ⟨hb, f⟩ := made (w := w) (cs := (m.cells rp rc lp lc).toArray) (e := 28)
  rw [show (⟨w.heap.size, 0, none⟩ : Addr) = at0 w.heap.size 0 from rfl]
  have hB : w.heap.size ≤ w.heap.size := Nat.le_refl _
  generalize hBB : w.heap.size = B at *
  have hBl := hb.lt
  have s2 := f.size
  generalize w.alloc _ = w2 at *
  simp only [add_at, Nat.zero_add, Nat.add_zero]
  have kf : 1 ≤ m.kind ∧ m.kind ≤ 11 := fieldsN_zero.1 hr.1
  have h1 := hr.2.1
  have h2 := hr.2.2.1
  refine ld_int (hb.cell rfl) (ld_int (hb.cell rfl) (ld_int (hb.cell rfl) (ld_int (hb.cell rfl) ?_)))
  rw [u8w m.kind (by omega) (by omega), u8w m.frm (by omega) (by omega), u8w m.to (by omega) (by omega)]
  rw [show (⟨w2.heap.size, 0, none⟩ : Addr) = at0 w2.heap.size 0 from rfl]
  have o8 : Own 5 1 (w2.alloc (.cells #[.int .u8 m.kind, .int .u8 m.frm, .int .u8 m.to] 5)) (some (at0 w2.heap.size 0)) 3 3 (u8s [m.kind, m.frm, m.to]) := Own.made (w := w2) (e := 5) (sz := 1) #[.int .u8 m.kind, .int .u8 m.frm, .int .u8 m.to] 3 (by simp only [maxLen]; omega) rfl
  have f8 : Fr [] w2 (w2.alloc (.cells #[.int .u8 m.kind, .int .u8 m.frm, .int .u8 m.to] 5)) := Fr.alloc _ _
  have l8 : w2.heap.size < (w2.alloc (.cells #[.int .u8 m.kind, .int .u8 m.frm, .int .u8 m.to] 5)).heap.size := by simp
  have b8 := hb.keep' f8
  generalize w2.alloc _ = w8 at *
  generalize hC : w2.heap.size = C at *
  have o10 := o8.keep' (Fr.alloc w8 (.cells #[.int .i64 m.kind, .slice (some (at0 C 0)) 3 3] 84))
  have bg := Blk.made w8 #[.int .i64 m.kind, .slice (some (at0 C 0)) 3 3] 84
  have f10 : Fr [] w8 (w8.alloc (.cells #[.int .i64 m.kind, .slice (some (at0 C 0)) 3 3] 84)) := Fr.alloc _ _
  have b10 := b8.keep' f10
  rw [show (⟨w8.heap.size, 0, none⟩ : Addr) = at0 w8.heap.size 0 from rfl]
  have s8 := f8.size
  generalize w8.alloc _ = w10 at *
  generalize hG : w8.heap.size = G at *
  have g10 : Fr [] w w10 := (f.tr f8).tr f10
  have L : Lw w w10 G m.kind [G, C] [m.kind, m.frm, m.to] := by
    refine ⟨⟨some (at0 C 0), 3, bg, o10, by simp [fbl, at0]; omega, rfl, ?_⟩, fun x hx => ?_, g10⟩
    · intro b hb; simp at hb; omega
    · simp at hx; omega
  have n10 : B ∉ [G, C] := by simp; omega
  have k0 := hasB_len (m := m) (i := 0) (by omega) hr hwf
  have k1 := hasB_len (m := m) (i := 1) (by omega) hr hwf
  have k2 := hasB_len (m := m) (i := 2) (by omega) hr hwf
  have k3 := hasB_len (m := m) (i := 3) (by omega) hr hwf
  have k4 := hasB_len (m := m) (i := 4) (by omega) hr hwf
  have k10 := hasB_len (m := m) (i := 10) (by omega) hr hwf
  rw [← rAll_eq kf] at hK
  refine ld_int (b10.cell rfl) (rl_num 0 (by omega) (fun hh => by have := fit hr (i := 0) (by omega) hh; simp only [fits, okSerial] at this; omega) L (by simp) ?_)
  intro ft1 w11 l11 f11 e11
  have b11 := b10.keep f11 n10
  obtain ⟨_, n11⟩ := away b10.lt n10 f11 e11
  have q1 : [m.kind, m.frm, m.to] ++ hN m.kind 0 (numB m.call.toNat) = [m.kind, m.frm, m.to] ++ hasB m 0 := rfl
  rw [q1] at l11
  refine ⟨rfl, ld_int (b11.cell rfl) (rl_num 1 (by omega) (fun _ => hwf.floor) l11 (by simp only [List.length_append, List.length_cons, List.length_nil]; omega) ?_)⟩
  intro ft2 w12 l12 f12 e12
  have b12 := b11.keep f12 n11
  obtain ⟨_, n12⟩ := away b11.lt n11 f12 e12
  have q2 : [m.kind, m.frm, m.to] ++ hasB m 0 ++ hN m.kind 1 (numB m.floor.toNat) = [m.kind, m.frm, m.to] ++ hasB m 0 ++ hasB m 1 := rfl
  rw [q2] at l12
  refine ⟨rfl, ld_int (b12.cell rfl) ?_⟩
  have hitem : IntKind.wrap .u64 m.item = m.item := by
    by_cases hh : hasF m.kind 2 = true
    · have := fit hr (i := 2) (by omega) hh
      simp only [fits] at this
      exact u64w _ (by omega) (by omega)
    · have := hr.2.2.2.2 2 (by omega)
      unfold okF at this
      rw [if_neg hh] at this
      simp only [bare] at this
      rw [this]; exact u64w _ (by omega) (by omega)
  rw [hitem]
  refine rl_num 2 (by omega) (fun hh => by have := fit hr (i := 2) (by omega) hh; simp only [fits] at this; omega) l12 (by simp only [List.length_append, List.length_cons, List.length_nil]; omega) ?_
  intro ft3 w13 l13 f13 e13
  have b13 := b12.keep f13 n12
  obtain ⟨_, n13⟩ := away b12.lt n12 f13 e13
  have q3 : [m.kind, m.frm, m.to] ++ hasB m 0 ++ hasB m 1 ++ hN m.kind 2 (numB m.item.toNat) = [m.kind, m.frm, m.to] ++ hasB m 0 ++ hasB m 1 ++ hasB m 2 := rfl
  rw [q3] at l13
  refine ⟨rfl, ld_int (b13.cell rfl) (rl_one 3 (by omega) (fun hh => by have := fit hr (i := 3) (by omega) hh; simp only [fits, opsN] at this; split at this <;> omega) l13 (by simp only [List.length_append, List.length_cons, List.length_nil]; omega) ?_)⟩
  intro ft4 w14 l14 f14 e14
  have b14 := b13.keep f14 n13
  obtain ⟨_, n14⟩ := away b13.lt n13 f14 e14
  have q4 : [m.kind, m.frm, m.to] ++ hasB m 0 ++ hasB m 1 ++ hasB m 2 ++ hN m.kind 3 [m.op] = [m.kind, m.frm, m.to] ++ hasB m 0 ++ hasB m 1 ++ hasB m 2 ++ hasB m 3 := rfl
  rw [q4] at l14
  refine ⟨rfl, ld_int (b14.cell rfl) (rl_one 4 (by omega) (fun hh => by have := fit hr (i := 4) (by omega) hh; simp only [fits] at this; omega) l14 (by simp only [List.length_append, List.length_cons, List.length_nil]; omega) ?_)⟩
  intro ft5 w15 l15 f15 e15
  have b15 := b14.keep f15 n14
  obtain ⟨_, n15⟩ := away b14.lt n14 f15 e15
  have q5 : [m.kind, m.frm, m.to] ++ hasB m 0 ++ hasB m 1 ++ hasB m 2 ++ hasB m 3 ++ hN m.kind 4 [m.field] = [m.kind, m.frm, m.to] ++ hasB m 0 ++ hasB m 1 ++ hasB m 2 ++ hasB m 3 ++ hasB m 4 := rfl
  rw [q5] at l15
  refine ⟨rfl, ld_int (b15.cell rfl) ?_⟩
  have code : (m.kind = 2 ∨ m.kind = 9) → ldI .i64 w15 (at0 B 12) fun x27 => CallR Try.prog 65 #[.pointer (some (at0 G 0)), .string (⟨#[99, 111, 100, 101]⟩ : ByteArray), .int .i64 x27] w15 fun v28 w29 => v28 = .tuple #[] ∧ X38.j5 Q (at0 B 0) (at0 G 0) w29 := by
    intro h29
    unfold rAll at hK
    rw [if_pos h29] at hK
    refine ld_int (b15.cell rfl) (rl_one 10 (by omega) (fun hh => by have := fit hr (i := 10) (by omega) hh; simp only [fits, codesN] at this; split at this <;> omega) l15 (by simp only [List.length_append, List.length_cons, List.length_nil]; omega) ?_)
    intro ft6 w16 l16 f16 e16
    have b16 := b15.keep f16 n15
    obtain ⟨_, n16⟩ := away b15.lt n15 f16 e16
    have q6 : [m.kind, m.frm, m.to] ++ hasB m 0 ++ hasB m 1 ++ hasB m 2 ++ hasB m 3 ++ hasB m 4 ++ hN m.kind 10 [m.code] = [m.kind, m.frm, m.to] ++ hasB m 0 ++ hasB m 1 ++ hasB m 2 ++ hasB m 3 ++ hasB m 4 ++ hasB m 10 := rfl
    rw [q6] at l16
    refine ⟨rfl, body_j5 hr hwf hm l16 b16 n16 (by simp only [List.length_append, List.length_cons, List.length_nil]; omega) ?_⟩
    simpa using hK
  refine bc_eq (fun h => code (.inl h)) (fun h2' => ld_int (b15.cell rfl) (bc_eq (fun h => code (.inr h)) (fun h9 => ?_)))
  unfold rAll at hK
  rw [if_neg (by omega)] at hK
  refine body_j5 hr hwf hm l15 b15 n15 (by simp only [List.length_append, List.length_cons, List.length_nil]; omega) ?_
  simpa using hK
theorem encB_len {m : Msg} (hr : Right m) (hwf : Wf m) : (encB m).length ≤ 10000 := by
  unfold encB fieldsFrom
  have := flat_le (List.range' 0 15) (f := hasB m) (k := 650) (fun i hi => by
    simp [List.mem_range'] at hi
    exact hasB_len (by omega) hr hwf)
  simp only [List.length_append, List.length_cons, List.length_nil, List.length_range', Nat.sub_zero] at *
  omega
theorem idB_wf {x : Int × Int} (h : okID x) : ∀ b ∈ idB x, 0 ≤ b ∧ b ≤ 255 := by
  intro b hb
  unfold okID okSerial at h
  rcases List.mem_cons.1 hb with rfl | hb
  · omega
  · exact numB_wf _ b hb
theorem fieldB_wf {m : Msg} {i : Nat} (hi : i < 15) (hf : fits m i) : ∀ b ∈ fieldB m i, 0 ≤ b ∧ b ≤ 255 := by
  have one : ∀ {n : Int}, (0 ≤ n ∧ n ≤ 255) → ∀ b ∈ [n], 0 ≤ b ∧ b ≤ 255 := fun h b hb => by simp at hb; subst hb; exact h
  match i, hi, hf with
  | 0, _, h => exact numB_wf _
  | 1, _, h => exact numB_wf _
  | 2, _, h => exact numB_wf _
  | 3, _, h => exact one (by simp only [fits, opsN] at h; split at h <;> omega)
  | 4, _, h => exact one (by simp only [fits] at h; omega)
  | 5, _, h => exact idB_wf h.1
  | 6, _, h => exact numB_wf _
  | 7, _, h => exact one (by simp only [fits] at h; omega)
  | 8, _, h => exact numB_wf _
  | 9, _, h => exact one (by simp only [fits] at h; omega)
  | 10, _, h => exact one (by simp only [fits, codesN] at h; split at h <;> omega)
  | 11, _, h => exact numB_wf _
  | 12, _, h =>
    intro b hb
    rcases List.mem_append.1 hb with hb | hb
    · exact numB_wf _ b hb
    · obtain ⟨x, hx, hb⟩ := List.mem_flatMap.1 hb
      exact idB_wf (h.1 x hx) b hb
  | 13, _, h => exact numB_wf _
  | 14, _, h =>
    intro b hb
    rcases List.mem_append.1 hb with hb | hb
    · exact numB_wf _ b hb
    · obtain ⟨x, hx, hb⟩ := List.mem_flatMap.1 hb
      exact numB_wf _ b hb
theorem encB_wf {m : Msg} (hr : Right m) : ∀ b ∈ encB m, 0 ≤ b ∧ b ≤ 255 := by
  intro b hb
  have kf : 1 ≤ m.kind ∧ m.kind ≤ 11 := fieldsN_zero.1 hr.1
  have h1 := hr.2.1
  have h2 := hr.2.2.1
  rcases List.mem_append.1 hb with hb | hb
  · simp at hb; omega
  · obtain ⟨i, hi, hb⟩ := List.mem_flatMap.1 hb
    simp [List.mem_range'] at hi
    unfold hasB at hb
    split at hb
    · rename_i h
      exact fieldB_wf (by omega) (fit hr (by omega) h) b hb
    · cases hb
theorem REncode_spec (hm : MM w m rp rc lp lc) (hwf : Wf m) (hQ : EncR m Q w) : CallR Try.prog 18 #[msgV m rp rc lp lc] w Q := by
  apply X18.sound
  unfold X18.f newK
  obtain ⟨hb, f⟩ := made (w := w) (cs := (m.cells rp rc lp lc).toArray) (e := 28)
  rw [show (⟨w.heap.size, 0, none⟩ : Addr) = at0 w.heap.size 0 from rfl]
  simp only [add_at, Nat.zero_add, Nat.add_zero]
  have h2 := hm.keep' f
  have s2 := f.size
  generalize w.alloc _ = w2 at *
  refine ld_msg hb (rRight_spec (m := m) (rp := rp) (rc := rc) (lp := lp) (lc := lc) h2 fun b w3 hb3 f3 => ⟨_, rfl, bc_bool (fun e => ?_) (fun e => ?_)⟩)
  · exact hQ.1 (not_true hb3 e) _ (f.tr f3)
  · have hr := of_not hb3 e
    have s3 := f3.size
    refine ld_msg (hb.keep' f3) (body_spec (m := m) (rp := rp) (rc := rc) (lp := lp) (lc := lc) hr hwf (h2.keep' f3) ?_)
    intro p c w5 o5 wf5 f5 n5
    have hlen := encB_len hr hwf
    refine ⟨_, _, _, rfl, rseal_spec (ByS.of_own o5 wf5) (by omega) ?_⟩
    intro p' c' w6 o6 f6 n6
    have s5 := f5.size
    have e4 : (encB m).length + 4 = (sealOf (encB m)).length := by simp [sealOf, sumBytes]
    rw [e4] at o6 ⊢
    exact ⟨_, _, _, rfl, hQ.2 hr p' c' w6 o6 (((f.tr f3).tr f5).tr f6) (fun k hk => by have := n6 k hk; omega)⟩
theorem wireEncodes_row {H : Type} {cs : Array Value} {d : DataW H} (h : Lies Try.prog W 6 28 cs.toList d) (hs : SizedD Try.prog 28 d) : CallR Try.prog 4 #[.agg cs] W fun v w' => v = .bool true ∧ Fr [] W w' := by
  obtain ⟨m, rp, rc, lp, lc, hcs, hm, hwf⟩ := msg_of_lies h hs
  obtain rfl : cs = (m.cells rp rc lp lc).toArray := by apply Array.ext'; exact hcs
  apply X4.sound
  unfold X4.f newK
  obtain ⟨hb, f⟩ := made (w := W) (cs := (m.cells rp rc lp lc).toArray) (e := 28)
  rw [show (⟨W.heap.size, 0, none⟩ : Addr) = at0 W.heap.size 0 from rfl]
  simp only [add_at, Nat.zero_add, Nat.add_zero]
  generalize hB : W.heap.size = B at *
  generalize W.alloc _ = w2 at *
  refine ld_msg hb (copyOf_spec (m := m) (rp := rp) (rc := rc) (lp := lp) (lc := lc) (hm.keep' f) ?_)
  intro rp' rc' lp' lc' w23 m23 f23 nr nl
  refine ⟨_, _, _, _, _, _, _, _, _, _, _, _, _, _, _, _, _, _, _, _, _, _, _, rfl, ?_⟩
  have b23 := hb.keep' f23
  have g23 := f.tr f23
  have bz := Blk.made w23 #[.int .i64 (0 : Int), .int .i64 (0 : Int), .int .i64 (0 : Int), .int .u64 (0 : Int), .int .u64 (0 : Int), .int .i64 (0 : Int), .int .i64 (0 : Int), .int .i64 (0 : Int), .int .i64 (0 : Int), .int .u64 (0 : Int), .slice none 0 0, .int .u64 (0 : Int), .int .i64 (0 : Int), .int .u64 (0 : Int), .int .i64 (0 : Int), .int .u64 (0 : Int), .int .i64 (0 : Int), .int .u64 (0 : Int), .slice none 0 0] 28
  have fz : Fr [] w23 (w23.alloc (.cells #[.int .i64 (0 : Int), .int .i64 (0 : Int), .int .i64 (0 : Int), .int .u64 (0 : Int), .int .u64 (0 : Int), .int .i64 (0 : Int), .int .i64 (0 : Int), .int .i64 (0 : Int), .int .i64 (0 : Int), .int .u64 (0 : Int), .slice none 0 0, .int .u64 (0 : Int), .int .i64 (0 : Int), .int .u64 (0 : Int), .int .i64 (0 : Int), .int .u64 (0 : Int), .int .i64 (0 : Int), .int .u64 (0 : Int), .slice none 0 0] 28)) := Fr.alloc _ _
  rw [show (⟨w23.heap.size, 0, none⟩ : Addr) = at0 w23.heap.size 0 from rfl]
  have b44 := b23.keep' fz
  have m44 := m23.keep' fz
  have bl23 := b23.lt
  have mr : ∀ x ∈ fbl rp', x < w23.heap.size ∨ m.refs = [] := by
    intro x hx
    cases hmr : m.refs with
    | nil => exact .inr rfl
    | cons z zs =>
      refine .inl ?_
      obtain ⟨q, hq, hcell⟩ := m23.refs 0 _ (by rw [hmr]; rfl)
      subst hq
      have := World.block_lt_of_cell? w23 _ hcell
      rw [add_block] at this
      simp [fbl] at hx; omega
  have ml : ∀ x ∈ fbl lp', x < w23.heap.size ∨ m.list = [] := by
    intro x hx
    cases hml : m.list with
    | nil => exact .inr rfl
    | cons z zs =>
      refine .inl ?_
      obtain ⟨q, hq, hcell⟩ := m23.list 0 _ (by rw [hml]; rfl)
      subst hq
      have := World.block_lt_of_cell? w23 _ hcell
      rw [add_block] at this
      simp [fbl] at hx; omega
  have s23 := g23.size
  generalize hC : w23.heap.size = C at *
  generalize w23.alloc _ = w44 at *
  refine stAll_blk (o := 0) bz (by simp) ?_
  intro w45 b45 f45
  have b45' : Blk w45 C (m.cells rp' rc' lp' lc') 28 := b45
  have m45 : MM w45 m rp' rc' lp' lc' := by
    refine ⟨?_, m44.rle, m44.rnil, m44.rby, ?_, m44.lle, m44.lnil, m44.lby⟩
    · by_cases he : m.refs = []
      · rw [he]; intro j u hj; simp at hj
      · exact m44.refs.keep f45 (fun x hx hmm => by simp at hmm; rcases mr x hx with h | h; omega; exact he h)
    · by_cases he : m.list = []
      · rw [he]; intro j u hj; simp at hj
      · exact m44.list.keep f45 (fun x hx hmm => by simp at hmm; rcases ml x hx with h | h; omega; exact he h)
  have bb45 := b44.keep f45 (by simp; omega)
  have g45 : Fr [] W w45 := (g23.tr fz).trans f45 (fun x hx => by simp at hx; exact .inr (by omega))
  -- the end
  have fin : ∀ {p q : Option Addr} {c d : Nat} {bs : List Int} {e : Int} {w66 w89 : World}, ByS w66 p bs.length c bs → ByS w89 q bs.length d bs → Fr [] w45 w66 → Fr [] w66 w89 → ∃ (y90p : Option Addr) (y90n y90c : Nat) (y91 : Int), (Value.tuple #[.slice q bs.length d, .int .i64 e]) = .tuple #[.slice y90p y90n y90c, .int .i64 y91] ∧ CallR Try.prog 13 #[] w89 fun v92 w93 => ∃ (y94 : Bool), v92 = .bool y94 ∧ bcase y94 (∃ bs95 : List Int, BytesAt w93 p bs.length bs95 ∧ ∃ bs96 : List Int, BytesAt w93 y90p y90n bs96 ∧ bcase (strEq (strOfNums bs95) (strOfNums bs96)) (bcase (e == y91) (ldI .i64 w93 (at0 C 0) fun x97 => ldI .i64 w93 (at0 C 1) fun x98 => ldI .i64 w93 (at0 C 2) fun x99 => ldI .u64 w93 (at0 C 3) fun x100 => ldI .u64 w93 (at0 C 4) fun x101 => ldI .i64 w93 (at0 C 5) fun x102 => ldI .i64 w93 (at0 C 6) fun x103 => ldI .i64 w93 (at0 C 7) fun x104 => ldI .i64 w93 (at0 C 8) fun x105 => ldI .u64 w93 (at0 C 9) fun x106 => ldSl w93 (at0 C 10) fun x107p x107n x107c => ldI .u64 w93 (at0 C 11) fun x108 => ldI .i64 w93 (at0 C 12) fun x109 => ldI .u64 w93 (at0 C 13) fun x110 => ldI .i64 w93 (at0 C 14) fun x111 => ldI .u64 w93 (at0 C 15) fun x112 => ldI .i64 w93 (at0 C 16) fun x113 => ldI .u64 w93 (at0 C 17) fun x114 => ldSl w93 (at0 C 18) fun x115p x115n x115c => ldI .i64 w93 (at0 B 0) fun x116 => ldI .i64 w93 (at0 B 1) fun x117 => ldI .i64 w93 (at0 B 2) fun x118 => ldI .u64 w93 (at0 B 3) fun x119 => ldI .u64 w93 (at0 B 4) fun x120 => ldI .i64 w93 (at0 B 5) fun x121 => ldI .i64 w93 (at0 B 6) fun x122 => ldI .i64 w93 (at0 B 7) fun x123 => ldI .i64 w93 (at0 B 8) fun x124 => ldI .u64 w93 (at0 B 9) fun x125 => ldSl w93 (at0 B 10) fun x126p x126n x126c => ldI .u64 w93 (at0 B 11) fun x127 => ldI .i64 w93 (at0 B 12) fun x128 => ldI .u64 w93 (at0 B 13) fun x129 => ldI .i64 w93 (at0 B 14) fun x130 => ldI .u64 w93 (at0 B 15) fun x131 => ldI .i64 w93 (at0 B 16) fun x132 => ldI .u64 w93 (at0 B 17) fun x133 => ldSl w93 (at0 B 18) fun x134p x134n x134c => CallR Try.prog 19 #[.agg #[.int .i64 x97, .int .i64 x98, .int .i64 x99, .int .u64 x100, .int .u64 x101, .int .i64 x102, .int .i64 x103, .int .i64 x104, .int .i64 x105, .int .u64 x106, .slice x107p x107n x107c, .int .u64 x108, .int .i64 x109, .int .u64 x110, .int .i64 x111, .int .u64 x112, .int .i64 x113, .int .u64 x114, .slice x115p x115n x115c], .agg #[.int .i64 x116, .int .i64 x117, .int .i64 x118, .int .u64 x119, .int .u64 x120, .int .i64 x121, .int .i64 x122, .int .i64 x123, .int .i64 x124, .int .u64 x125, .slice x126p x126n x126c, .int .u64 x127, .int .i64 x128, .int .u64 x129, .int .i64 x130, .int .u64 x131, .int .i64 x132, .int .u64 x133, .slice x134p x134n x134c]] w93 fun v135 w136 => ∃ (y137 : Bool), v135 = .bool y137 ∧ (Value.bool y137 = .bool true ∧ Fr [] W w136)) ((Value.bool false = .bool true ∧ Fr [] W w93))) (Value.bool false = .bool true ∧ Fr [] W w93)) (Value.bool false = .bool true ∧ Fr [] W w93) := by
    intro p q c d bs e w66 w89 h1 h2 f1 f2
    refine ⟨_, _, _, _, rfl, known_spec fun w93 f93 => ⟨_, rfl, bc_bool (fun _ => ?_) (fun h => by cases h)⟩⟩
    refine ⟨bs, (h1.keep' (f2.tr f93)).at_, bs, (h2.keep' f93).at_, ?_⟩
    rw [show strEq (strOfNums bs) (strOfNums bs) = true by simp [strEq], bcase_true]
    refine bc_eqt rfl ?_
    have fe := (f1.tr f2).tr f93
    refine ld_msg (b45'.keep' fe) (ld_msg (bb45.keep' fe) (same_spec (m := m) (rp := rp') (rc := rc') (lp := lp') (lc := lc') (rp' := rp) (rc' := rc) (lp' := lp) (lc' := lc) (m45.keep' fe) (hm.keep' (g45.tr fe)) fun w6 f6 => ⟨_, rfl, rfl, (g45.tr fe).tr f6⟩))
  refine ld_msg b45' (Encode_spec (m := m) (rp := rp') (rc := rc') (lp := lp') (lc := lc') m45 hwf ⟨fun hn w66 f66 => ?_, fun hr p c w66 o66 f66 n66 => ?_⟩)
  · refine ⟨_, _, _, _, rfl, ld_msg (bb45.keep' f66) (REncode_spec (m := m) (rp := rp) (rc := rc) (lp := lp) (lc := lc) (hm.keep' (g45.tr f66)) hwf ⟨fun _ w89 f89 => ?_, fun hr => absurd hr hn⟩)⟩
    exact fin (bs := []) ByS.nil' ByS.nil' f66 f89
  · have hwfs : ∀ b ∈ sealOf (encB m), 0 ≤ b ∧ b ≤ 255 := by
      exact sealOf_wf (encB_wf hr)
    refine ⟨_, _, _, _, rfl, ld_msg (bb45.keep' f66) (REncode_spec (m := m) (rp := rp) (rc := rc) (lp := lp) (lc := lc) (hm.keep' (g45.tr f66)) hwf ⟨fun hn => absurd hr hn, fun _ q d w89 o89 f89 n89 => ?_⟩)⟩
    exact fin (ByS.of_own o66 hwfs) (ByS.of_own o89 hwfs) f66 f89
end
end Go.Proofs.YtcmkjnoaefkkhaaX
