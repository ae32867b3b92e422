/- Sums, and what is sealed: what the functions of codec and of the document come to. -/
import Derived.Test.YtcmkjnoaefkkhaaXT2
import Derived.Test.YtcmkjnoaefkkhaaXMem
namespace Go.Proofs.YtcmkjnoaefkkhaaX
open Go.RowKit
set_option linter.unusedVariables false

theorem rowT : RowT Try.prog 32 5 1 1 := ⟨by kernel_rfl, ⟨Try.t5, .int .u8 0, by kernel_rfl, by kernel_rfl, by kernel_rfl, by kernel_rfl, by kernel_rfl⟩, by omega⟩
theorem app_bytes {w : World} {ty : TypeId} {p x : Option Addr} {n c m mc : Nat} {cs bs : List Int} {K : Value → World → Prop} (ho : Own 5 1 w p n c (u8s cs)) (hs : ByS w x m mc bs) (hb : n + m ≤ 140737488355328)
    (hK : ∀ p' c' w', Own 5 1 w' p' (n + m) c' (u8s (cs ++ bs)) → Fr (fbl p) w w' → (∀ k ∈ fbl p', k ∈ fbl p ∨ w.heap.size ≤ k) → K (.slice p' (n + m) c') w') :
    RunR Try.prog (Builtin.append_ #[32, 32] ty #[.slice p n c, .slice x m mc]) w K := by
  refine app_own rowT ho hs.cells (by simp [hs.len]) hs.nil (u8s_one bs) (by simp only [maxLen]; omega) (by omega) ?_
  intro p' c' w' h1 h2 h3
  exact hK p' c' w' (by rw [u8s_append]; exact h1) h2 h3

/-! ### Numbers of bits -/
theorem nat32 (x : BitVec 32) : IntKind.u32.wrap (x.toNat : Int) = (x.toNat : Int) := u32w _ (by omega) (by have := x.isLt; omega)
theorem xor32 (a b : Int) : iXor .u32 a b = ((BitVec.ofInt 32 a ^^^ BitVec.ofInt 32 b).toNat : Int) := by unfold iXor; exact nat32 _
theorem and32 (a b : Int) : iAnd .u32 a b = ((BitVec.ofInt 32 a &&& BitVec.ofInt 32 b).toNat : Int) := by unfold iAnd; exact nat32 _
theorem xor32_comm (a b : Int) : iXor .u32 a b = iXor .u32 b a := by rw [xor32, xor32, BitVec.xor_comm]
theorem xor32_range (a b : Int) : 0 ≤ iXor .u32 a b ∧ iXor .u32 a b ≤ 4294967295 := by
  rw [xor32]
  have := (BitVec.ofInt 32 a ^^^ BitVec.ofInt 32 b).isLt
  omega
theorem not32 (a : Int) : iNot .u32 a = iXor .u32 a 4294967295 := by
  show iXor .u32 4294967295 a = _
  rw [xor32_comm]
theorem shr32 (a : Int) (h : 0 ≤ a) : iShr .u32 a 1 = a / 2 := by
  unfold iShr
  rw [Int.fdiv_eq_ediv_of_nonneg _ (by decide)]
  rfl

def crcBit (h : Int) : Int := if iAnd .u32 h 1 = 1 then iXor .u32 (h / 2) 3988292384 else h / 2
def crcBits : Nat → Int → Int
  | 0, h => h
  | n + 1, h => crcBits n (crcBit h)
def crcRound (h x : Int) : Int := crcBits 8 (iXor .u32 h x)
def crcFold (h : Int) (bs : List Int) : Int := bs.foldl crcRound h
def crc (bs : List Int) : Int := iXor .u32 (crcFold 4294967295 bs) 4294967295
theorem crcBit_range {h : Int} (h0 : 0 ≤ h) (h1 : h ≤ 4294967295) : 0 ≤ crcBit h ∧ crcBit h ≤ 4294967295 := by
  unfold crcBit
  split
  · exact xor32_range _ _
  · omega
theorem crcBits_range : ∀ (n : Nat) {h : Int}, 0 ≤ h → h ≤ 4294967295 → 0 ≤ crcBits n h ∧ crcBits n h ≤ 4294967295
  | 0, h, h0, h1 => ⟨h0, h1⟩
  | n + 1, h, h0, h1 => crcBits_range n (crcBit_range h0 h1).1 (crcBit_range h0 h1).2
theorem crc_range (bs : List Int) : 0 ≤ crc bs ∧ crc bs ≤ 4294967295 := xor32_range _ _

section
variable {w : World} {x : Option Addr} {n c : Nat} {bs : List Int} {Q : Value → World → Prop}
theorem sum_l1 (b0 : Int → Option Addr → Nat → Nat → Int → Int → World → Prop) (t9 i : Int) : ∀ (k : Nat) (h t : Int), 0 ≤ h → h ≤ 4294967295 → 0 ≤ t → t + k = 8 → b0 (crcBits k h) x n c t9 (IntKind.wrap .i64 (i + 1)) w → X51.l1 Q b0 (k + 1) h t x n c t9 i w
  | 0, h, t, _, _, _, ht, hb => by
    rw [X51.l1]
    exact bc_neg (by omega) hb
  | k + 1, h, t, h0, h1, ht0, ht, hb => by
    rw [X51.l1]
    refine bc_pos (by omega) ⟨by decide, ?_⟩
    rw [i64w (t + 1) (by omega) (by omega), shr32 h h0]
    have hr := crcBit_range h0 h1
    refine bc_eq (fun he => ?_) (fun hne => ?_)
    · have e : crcBit h = iXor .u32 (h / 2) 3988292384 := by unfold crcBit; rw [if_pos he]
      rw [e] at hr
      exact sum_l1 b0 t9 i k _ _ hr.1 hr.2 (by omega) (by omega) (by rw [← e]; exact hb)
    · have e : crcBit h = h / 2 := by unfold crcBit; rw [if_neg hne]
      rw [e] at hr
      exact sum_l1 b0 t9 i k _ _ hr.1 hr.2 (by omega) (by omega) (by rw [← e]; exact hb)
theorem sum_l0 (hb : ByS w x n c bs) (hn : n ≤ 140737488355328) : ∀ (rest : List Int) (i : Nat) (h : Int), 0 ≤ h → h ≤ 4294967295 → bs.drop i = rest → i + rest.length = n → Q (.int .u32 (iXor .u32 (crcFold h rest) 4294967295)) w → X51.l0 Q (rest.length + 1) h x n c (n : Int) (i : Int) w
  | [], i, h, _, _, hd, hl, hQ => by
    rw [List.length_nil, X51.l0]
    refine bc_neg (by simp at hl; omega) ?_
    rw [not32]
    exact hQ
  | b :: rest, i, h, h0, h1, hd, hl, hQ => by
    simp only [List.length_cons] at hl
    have hi : bs[i]? = some b := by rw [← List.head?_drop, hd]; rfl
    obtain ⟨p, hp, hc⟩ := hb.get hi
    have hwf := hb.wf b (List.mem_of_getElem? hi)
    rw [List.length_cons, X51.l0]
    refine bc_pos (by omega) ⟨⟨by omega, by omega⟩, opt_some hp (ld_int (by simpa using hc) ⟨9, ?_⟩)⟩
    rw [u32w b hwf.1 (by omega)]
    have hr := xor32_range h b
    refine sum_l1 _ _ _ 8 _ _ hr.1 hr.2 (by omega) (by omega) ?_
    rw [i64w (i + 1 : Int) (by omega) (by omega)]
    have hr2 := crcBits_range 8 hr.1 hr.2
    have := sum_l0 hb hn rest (i + 1) (crcRound h b) hr2.1 hr2.2 (by rw [← List.drop_drop, hd]; rfl) (by omega) hQ
    simpa [crcRound] using this
theorem sum_spec (hb : ByS w x n c bs) (hn : n ≤ 140737488355328) (hQ : Q (.int .u32 (crc bs)) w) : CallR Try.prog 51 #[.slice x n c] w Q := by
  refine X51.sound _ _ _ _ _ ⟨bs.length + 1, ?_⟩
  exact sum_l0 hb hn bs 0 4294967295 (by omega) (by omega) rfl (by simp [hb.len]) hQ

theorem rsum_l1 (b0 : Option Addr → Nat → Nat → Int → Int → World → Prop) (i : Int) : ∀ (k : Nat) (h t : Int), 0 ≤ h → h ≤ 4294967295 → 0 ≤ t → t + k = 8 → b0 x n c (crcBits k h) (IntKind.wrap .i64 (i + 1)) w → X50.l1 Q b0 (k + 1) x n c h i t w
  | 0, h, t, _, _, _, ht, hb => by
    rw [X50.l1]
    exact bc_neg (by omega) hb
  | k + 1, h, t, h0, h1, ht0, ht, hb => by
    rw [X50.l1]
    refine bc_pos (by omega) ⟨by decide, ?_⟩
    have hdv : Int.tdiv h 2 = h / 2 := Int.tdiv_eq_ediv_of_nonneg h0
    rw [i64w (t + 1) (by omega) (by omega), hdv, u32w (h / 2) (by omega) (by omega)]
    have hr := crcBit_range h0 h1
    refine bc_eq (fun he => ?_) (fun hne => ?_)
    · have e : crcBit h = iXor .u32 (h / 2) 3988292384 := by unfold crcBit; rw [if_pos he]
      rw [e] at hr
      exact rsum_l1 b0 i k _ _ hr.1 hr.2 (by omega) (by omega) (by rw [← e]; exact hb)
    · have e : crcBit h = h / 2 := by unfold crcBit; rw [if_neg hne]
      rw [e] at hr
      exact rsum_l1 b0 i k _ _ hr.1 hr.2 (by omega) (by omega) (by rw [← e]; exact hb)
theorem rsum_l0 (hb : ByS w x n c bs) (hn : n ≤ 140737488355328) : ∀ (rest : List Int) (i : Nat) (h : Int), 0 ≤ h → h ≤ 4294967295 → bs.drop i = rest → i + rest.length = n → Q (.int .u32 (iXor .u32 (crcFold h rest) 4294967295)) w → X50.l0 Q (rest.length + 1) x n c h (i : Int) w
  | [], i, h, _, _, hd, hl, hQ => by
    rw [List.length_nil, X50.l0]
    exact bc_neg (by simp at hl; omega) hQ
  | b :: rest, i, h, h0, h1, hd, hl, hQ => by
    simp only [List.length_cons] at hl
    have hi : bs[i]? = some b := by rw [← List.head?_drop, hd]; rfl
    obtain ⟨p, hp, hc⟩ := hb.get hi
    have hwf := hb.wf b (List.mem_of_getElem? hi)
    rw [List.length_cons, X50.l0]
    refine bc_pos (by omega) ⟨⟨by omega, by omega⟩, opt_some hp (ld_int (by simpa using hc) ⟨9, ?_⟩)⟩
    rw [u32w b hwf.1 (by omega)]
    have hr := xor32_range h b
    refine rsum_l1 _ _ 8 _ _ hr.1 hr.2 (by omega) (by omega) ?_
    rw [i64w (i + 1 : Int) (by omega) (by omega)]
    have hr2 := crcBits_range 8 hr.1 hr.2
    have := rsum_l0 hb hn rest (i + 1) (crcRound h b) hr2.1 hr2.2 (by rw [← List.drop_drop, hd]; rfl) (by omega) hQ
    simpa [crcRound] using this
theorem rsum_spec (hb : ByS w x n c bs) (hn : n ≤ 140737488355328) (hQ : Q (.int .u32 (crc bs)) w) : CallR Try.prog 50 #[.slice x n c] w Q := by
  refine X50.sound _ _ _ _ _ ⟨bs.length + 1, ?_⟩
  exact rsum_l0 hb hn bs 0 4294967295 (by omega) (by omega) rfl (by simp [hb.len]) hQ
end

/-! ### Sealed -/
def sumBytes (s : Int) : List Int := [IntKind.wrap .u8 s, IntKind.wrap .u8 (iShr .u32 s 8), IntKind.wrap .u8 (iShr .u32 s 16), IntKind.wrap .u8 (iShr .u32 s 24)]
def sealOf (bs : List Int) : List Int := bs ++ sumBytes (crc bs)
theorem wrap8_range (n : Int) : 0 ≤ IntKind.wrap .u8 n ∧ IntKind.wrap .u8 n ≤ 255 := by rw [IntKind.wrap_u8]; omega
theorem sumBytes_wf (s : Int) : ∀ b ∈ sumBytes s, 0 ≤ b ∧ b ≤ 255 := by
  intro b hb
  simp only [sumBytes, List.mem_cons, List.not_mem_nil, or_false] at hb
  rcases hb with rfl | rfl | rfl | rfl <;> exact wrap8_range _
theorem sealOf_wf {bs : List Int} (h : ∀ b ∈ bs, 0 ≤ b ∧ b ≤ 255) : ∀ b ∈ sealOf bs, 0 ≤ b ∧ b ≤ 255 := by
  intro b hb
  rcases List.mem_append.1 hb with hb | hb
  · exact h b hb
  · exact sumBytes_wf _ b hb
theorem lit_bytes {w : World} (bs : List Int) (hm : bs.length ≤ 100) (hw : ∀ b ∈ bs, 0 ≤ b ∧ b ≤ 255) : ByS (w.alloc (.cells (u8s bs).toArray 5)) (some ⟨w.heap.size, 0, none⟩) bs.length bs.length bs := by
  refine ByS.of_own (Own.made (u8s bs).toArray bs.length (by simp only [maxLen]; omega) (by simp)) hw
theorem seal_tail {w : World} {x : Option Addr} {n c : Nat} {bs : List Int} {Q : Value → World → Prop} {s : Int} (hb : ByS w x n c bs) (hn : n + 4 ≤ 140737488355328)
    (hQ : ∀ p c' w', Own 5 1 w' p (n + 4) c' (u8s (bs ++ sumBytes s)) → Fr [] w w' → (∀ k ∈ fbl p, w.heap.size ≤ k) → Q (.slice p (n + 4) c') w') :
    newK w #[] 5 fun g4 w5 => RunR Try.prog (Builtin.append_ #[32, 32] 32 #[.slice (some g4) 0 0, .slice x n c]) w5 fun v6 w7 => ∃ (s8p : Option Addr) (s8n s8c : Nat), v6 = .slice s8p s8n s8c ∧ 0 ≤ (8 : Int) ∧ 0 ≤ (16 : Int) ∧ 0 ≤ (24 : Int) ∧ newK w7 #[.int .u8 (IntKind.wrap .u8 s), .int .u8 (IntKind.wrap .u8 (iShr .u32 s (8 : Int))), .int .u8 (IntKind.wrap .u8 (iShr .u32 s (16 : Int))), .int .u8 (IntKind.wrap .u8 (iShr .u32 s (24 : Int)))] 5 fun g9 w10 => RunR Try.prog (Builtin.append_ #[32, 32] 32 #[.slice s8p s8n s8c, .slice (some g9) 4 4]) w10 fun v11 w12 => ∃ (s13p : Option Addr) (s13n s13c : Nat), v11 = .slice s13p s13n s13c ∧ Q (.slice s13p s13n s13c) w12 := by
  unfold newK
  have h1 : Own 5 1 (w.alloc (.cells #[] 5)) (some ⟨w.heap.size, 0, none⟩) 0 0 (u8s []) := Own.made #[] 0 (by simp only [maxLen]; omega) rfl
  refine app_bytes h1 (hb.keep' (Fr.alloc w _)) (by omega) ?_
  intro p1 c1 w1 o1 f1 e1
  rw [Nat.zero_add, List.nil_append] at *
  have f1' : Fr [] w w1 := (Fr.alloc w _).trans f1 (by intro y hy; simp [fbl] at hy; right; omega)
  refine ⟨_, _, _, rfl, by decide, by decide, by decide, ?_⟩
  have f2 : Fr [] w1 (w1.alloc (.cells (u8s (sumBytes s)).toArray 5)) := Fr.alloc w1 _
  refine app_bytes (o1.keep' f2) (lit_bytes (sumBytes s) (by simp [sumBytes]) (sumBytes_wf s)) (by simp; omega) ?_
  intro p2 c2 w2 o2 f3 e2
  have e1' : ∀ k ∈ fbl p1, w.heap.size ≤ k := by
    intro k hk
    rcases e1 k hk with h | h
    · simp [fbl] at h; omega
    · simp at h; omega
  refine ⟨_, _, _, rfl, hQ p2 c2 w2 o2 ((f1'.tr f2).trans f3 (fun y hy => .inr (e1' y hy))) ?_⟩
  intro k hk
  rcases e2 k hk with h | h
  · exact e1' k h
  · have := f1'.size; simp at h; omega
section
variable {w : World} {x : Option Addr} {n c : Nat} {bs : List Int} {Q : Value → World → Prop}
theorem seal_spec (hb : ByS w x n c bs) (hn : n + 4 ≤ 140737488355328)
    (hQ : ∀ p c' w', Own 5 1 w' p (n + 4) c' (u8s (sealOf bs)) → Fr [] w w' → (∀ k ∈ fbl p, w.heap.size ≤ k) → Q (.slice p (n + 4) c') w') : CallR Try.prog 24 #[.slice x n c] w Q := by
  refine X24.sound _ _ _ _ _ (sum_spec hb (by omega) ⟨_, rfl, seal_tail hb hn hQ⟩)
theorem rseal_spec (hb : ByS w x n c bs) (hn : n + 4 ≤ 140737488355328)
    (hQ : ∀ p c' w', Own 5 1 w' p (n + 4) c' (u8s (sealOf bs)) → Fr [] w w' → (∀ k ∈ fbl p, w.heap.size ≤ k) → Q (.slice p (n + 4) c') w') : CallR Try.prog 22 #[.slice x n c] w Q := by
  refine X22.sound _ _ _ _ _ (rsum_spec hb (by omega) ⟨_, rfl, seal_tail hb hn hQ⟩)
end
end Go.Proofs.YtcmkjnoaefkkhaaX
