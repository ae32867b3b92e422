/- CodecOne: what is read without anything wrong is laid as the same bytes. -/
import Derived.Test.YtgeinpljchpdgaaL1Near
namespace Go.Proofs.YtgeinpljchpdgaaX
open Go.RowKit Go.Proofs.Ytgeinpljchpdgaa
set_option linter.unusedVariables false
set_option linter.unusedSimpArgs false

/-! ### What was read is what would be laid -/
theorem numR_inv : ∀ (l : List Int) (i acc : Nat), acc < 128 ^ i → (∀ b ∈ l, 0 ≤ b ∧ b ≤ 255) → (numR i acc l).2.1 = 0 → ∃ n, (numR i acc l).1 = acc + n * 128 ^ i ∧ l.take ((numR i acc l).2.2 - i) = numB n ∧ (i > 0 → n > 0) ∧ i < (numR i acc l).2.2
  | [], i, acc, _, _, h => by simp [numR] at h
  | x :: l, i, acc, ha, hw, h => by
    have hx := hw x (by simp)
    by_cases h9 : i = 9 ∧ x > 1
    · rw [numR_nine h9] at h; simp at h
    by_cases h128 : x ≥ 128
    · rw [numR_more h9 h128] at h ⊢
      obtain ⟨n, e1, e2, e3, e4⟩ := numR_inv l (i + 1) _ (digit_next ha) (fun b hb => hw b (by simp [hb])) h
      have hn := e3 (by omega)
      refine ⟨(x % 128).toNat + n * 128, ?_, ?_, fun _ => by omega, by omega⟩
      · rw [e1, Nat.pow_succ, Nat.add_mul, Nat.mul_assoc n 128, Nat.mul_comm 128 (128 ^ i)]; omega
      · generalize (numR (i + 1) (acc + (x % 128).toNat * 128 ^ i) l).2.2 = cnt at e2 e4
        obtain ⟨k, hk⟩ : ∃ k, cnt - i = k + 1 := ⟨cnt - i - 1, by omega⟩
        rw [hk, List.take_succ_cons, show k = cnt - (i + 1) by omega, e2, numB_big (n := (x % 128).toNat + n * 128) (by omega)]
        have h1 : (((((x % 128).toNat + n * 128) % 128 + 128 : Nat)) : Int) = x := by omega
        have h2 : ((x % 128).toNat + n * 128) / 128 = n := by omega
        rw [h1, h2]
    · by_cases h0 : x = 0 ∧ i > 0
      · rw [numR_zero h9 h128 h0] at h; simp at h
      · rw [numR_end h9 h128 h0]
        refine ⟨(x % 128).toNat, rfl, ?_, fun hi => by omega, Nat.lt_succ_self i⟩
        have : i + 1 - i = 1 := by omega
        simp only [this, List.take_succ_cons, List.take_zero]
        rw [numB_small (by omega)]
        congr 1
        omega
theorem readNum_inv {bs : List Int} {a : Nat} {most : Int} (hw : ∀ b ∈ bs, 0 ≤ b ∧ b ≤ 255) (h : (readNum bs a 0 most).2.2 = 0) : ∃ n : Nat, n ≤ 18446744073709551615 ∧ (readNum bs a 0 most).1 = (n : Int) ∧ bs.take (readNum bs a 0 most).2.1 = bs.take a ++ numB n := by
  have hwd : ∀ b ∈ bs.drop a, 0 ≤ b ∧ b ≤ 255 := fun b hb => hw b (List.mem_of_mem_drop hb)
  by_cases he : (numR 0 0 (bs.drop a)).2.1 = 0
  · by_cases hm : ((numR 0 0 (bs.drop a)).1 : Int) > most
    · rw [readNum_long he hm] at h; simp at h
    · rw [readNum_ok he hm] at h ⊢
      obtain ⟨n, e1, e2, _, _⟩ := numR_inv (bs.drop a) 0 0 (by simp) hwd he
      have hlt := numR_lt (bs.drop a) 0 0 (by omega) (by simp) hwd
      simp only [Nat.pow_zero, Nat.mul_one, Nat.zero_add, Nat.sub_zero] at e1 e2
      refine ⟨n, by omega, by rw [e1], ?_⟩
      simp only []
      rw [List.take_add, e2]
  · rw [readNum_err he] at h; exact absurd h he
theorem readByte_inv {bs : List Int} {a : Nat} {most : Int} (h : (readByte bs a 0 most).2.2 = 0) : bs.take (readByte bs a 0 most).2.1 = bs.take a ++ [(readByte bs a 0 most).1] ∧ (readByte bs a 0 most).1 ∈ bs := by
  cases hi : bs[a]? with
  | none => rw [readByte_short hi] at h; simp at h
  | some x =>
    by_cases hm : x > most
    · rw [readByte_long hi hm] at h; simp at h
    · rw [readByte_ok hi hm]
      refine ⟨?_, List.mem_of_getElem? hi⟩
      simp only []
      rw [List.take_add_one, hi]
      rfl
theorem readText_inv {bs : List Int} {a : Nat} {most : Int} (hw : ∀ b ∈ bs, 0 ≤ b ∧ b ≤ 255) (h : (readText bs a 0 most).2.2 = 0) : bs.take (readText bs a 0 most).2.1 = bs.take a ++ textB (readText bs a 0 most).1 := by
  by_cases hb : (readNum bs a 0 (max 0 most)).2.2 = 0
  · obtain ⟨n, hn, e1, e2⟩ := readNum_inv hw hb
    by_cases hs : ((bs.length - (readNum bs a 0 (max 0 most)).2.1 : Nat) : Int) < (readNum bs a 0 (max 0 most)).1
    · rw [readText_short hb hs] at h; simp at h
    · rw [readText_ok hb hs]
      simp only []
      rw [e1] at hs ⊢
      rw [Int.toNat_natCast, List.take_add, e2]
      have hl : ((bs.drop (readNum bs a 0 (max 0 most)).2.1).take n).length = n := by simp; omega
      unfold textB
      rw [hl, List.append_assoc]
  · rw [readText_bad hb] at h; exact absurd h hb
theorem readByte_range {bs : List Int} {a : Nat} {bad most : Int} (hw : ∀ b ∈ bs, 0 ≤ b ∧ b ≤ 255) : 0 ≤ (readByte bs a bad most).1 ∧ (readByte bs a bad most).1 ≤ 255 := by
  unfold readByte
  split
  · simp
  · split
    · simp
    · rename_i x hx
      have := hw x (List.mem_of_getElem? hx)
      split
      · simp
      · exact this
theorem readText_mem {bs : List Int} {a : Nat} {bad most : Int} : ∀ b ∈ (readText bs a bad most).1, b ∈ bs := by
  unfold readText
  split
  · simp
  · split
    · simp
    · exact fun b hb => List.mem_of_mem_drop (List.mem_of_mem_take hb)

/-! ### A row of lays of one's own -/
theorem rowT30 : RowT Try.prog 22 30 4 48 := ⟨by kernel_rfl, ⟨Try.t30, .agg #[.int .i64 0, .int .u8 0, .int .u64 0, .slice none 0 0], by kernel_rfl, by kernel_rfl, by kernel_rfl, by kernel_rfl, by kernel_rfl⟩, by omega⟩
def layCells (l : LayD) : List Value := [.int .i64 l.what, .int .u8 l.b, .int .u64 (l.n : Int), .slice l.x l.m l.c]
def laysV : List LayD → List Value
  | [] => []
  | a :: l => layCells a ++ laysV l
theorem laysV_append : ∀ (k l : List LayD), laysV (k ++ l) = laysV k ++ laysV l
  | [], l => rfl
  | a :: k, l => by simp [laysV, laysV_append k l]
theorem laysV_get : ∀ (ks : List LayD) (i j : Nat) (a : LayD), ks[i]? = some a → j < 4 → (laysV ks)[i * 4 + j]? = (layCells a)[j]?
  | [], i, j, a, h, _ => by simp at h
  | b :: ks, 0, j, a, h, hj => by
    simp at h
    subst h
    simp only [laysV, Nat.zero_mul, Nat.zero_add]
    rw [List.getElem?_append_left (by simp [layCells]; omega)]
  | b :: ks, i + 1, j, a, h, hj => by
    simp only [laysV]
    rw [List.getElem?_append_right (by simp [layCells]; omega)]
    have : (i + 1) * 4 + j - (layCells b).length = i * 4 + j := by simp [layCells]; omega
    rw [this]
    exact laysV_get ks i j a (by simpa using h) hj
theorem lays_own {w : World} {p : Option Addr} {c : Nat} {ks : List LayD} (h : Own 30 4 w p ks.length c (laysV ks)) (ht : ∀ a ∈ ks, (0 ≤ a.b ∧ a.b ≤ 255) ∧ a.n ≤ 18446744073709551615 ∧ ByS w a.x a.m a.c a.t) : LaysAt w p ks.length ks := by
  refine ⟨rfl, fun i a hi => ?_⟩
  have cell : ∀ j v, j < 4 → (layCells a)[j]? = some v → ∃ q, p = some q ∧ w.cell? ((q.add (i * 4)).add j) = some v := fun j v hj hv => by
    obtain ⟨q, hq, hc⟩ := h.cells (i * 4 + j) v (by rw [laysV_get ks i j a hi hj, hv])
    exact ⟨q, hq, by rw [add_add]; exact hc⟩
  obtain ⟨q, hq, h0⟩ := cell 0 _ (by omega) rfl
  subst hq
  have get : ∀ j v, j < 4 → (layCells a)[j]? = some v → w.cell? ((q.add (i * 4)).add j) = some v := fun j v hj hv => by
    obtain ⟨q', hq', hc⟩ := cell j v hj hv
    injection hq' with hq'
    subst hq'
    exact hc
  obtain ⟨t1, t2, t3⟩ := ht a (List.mem_of_getElem? hi)
  exact ⟨q, rfl, h0, get 1 _ (by omega) rfl, get 2 _ (by omega) rfl, get 3 _ (by omega) rfl, t1, t2, t3⟩
theorem encAll_append : ∀ (k l : List LayD), encAll (k ++ l) = encAll k ++ encAll l
  | [], l => rfl
  | a :: k, l => by simp [encAll, encAll_append k l]
theorem bulkL_enc : ∀ (ls : List LayD), (∀ l ∈ ls, l.what % 3 ≠ 2 → l.t = []) → bulkL ls ≤ ls.length + (encAll ls).length
  | [], _ => by simp [bulkL]
  | l :: ls, h => by
    have := bulkL_enc ls (fun l hl => h l (by simp [hl]))
    have hp := @pick3 l.what
    have h1 : l.t.length ≤ (encL l).length := by
      by_cases h2 : l.what % 3 = 2
      · rw [encL2 (by omega) (by omega)]; simp [textB]
      · rw [h l (by simp) h2]; simp
    simp only [bulkL, encAll, List.length_cons, List.length_append]
    omega
structure OneInv (W w : World) (bs : List Int) (g : Nat) (q : Option Addr) (n qc a : Nat) (bad : Int) (lp : Option Addr) (lc : Nat) (ls : List LayD) : Prop where
  fr : Fr [] W w
  rd : Rd 67 w g q n qc bs a bad
  bg : W.heap.size ≤ g
  qq : ∀ k ∈ fbl q, k < g
  own : Own 30 4 w lp ls.length lc (laysV ls)
  new : ∀ k ∈ fbl lp, W.heap.size ≤ k ∧ k ≠ g ∧ k ∉ fbl q
  ts : ∀ l ∈ ls, ByS w l.x l.m l.c l.t ∧ ∀ k ∈ fbl l.x, k ∉ fbl lp ∧ k ≠ g ∧ k < w.heap.size
  rg : ∀ l ∈ ls, (0 ≤ l.b ∧ l.b ≤ 255) ∧ l.n ≤ 18446744073709551615 ∧ (l.what % 3 ≠ 2 → l.t = [])
section
variable {W w w1 : World} {bs : List Int} {g : Nat} {q lp : Option Addr} {n qc a a' lc : Nat} {bad bad' : Int} {ls : List LayD}
theorem OneInv.keep' (v : OneInv W w bs g q n qc a bad lp lc ls) (hf : Fr [] w w1) : OneInv W w1 bs g q n qc a bad lp lc ls :=
  ⟨v.fr.tr hf, v.rd.keep' hf, v.bg, v.qq, v.own.keep' hf, v.new, fun l hl => ⟨(v.ts l hl).1.keep' hf, fun k hk => ⟨((v.ts l hl).2 k hk).1, ((v.ts l hl).2 k hk).2.1, by have := ((v.ts l hl).2 k hk).2.2; have := hf.size; omega⟩⟩, v.rg⟩
/-- a block that is apart from all of this is written -/
theorem OneInv.fill {x : Nat} (v : OneInv W w bs g q n qc a bad lp lc ls) (hf : Fr [x] w w1) (hx : W.heap.size ≤ x) (h1 : x ≠ g) (h2 : x ∉ fbl q) (h3 : x ∉ fbl lp) (h4 : ∀ l ∈ ls, x ∉ fbl l.x) : OneInv W w1 bs g q n qc a bad lp lc ls := by
  have hsz := hf.size
  refine ⟨v.fr.trans hf (fun k hk => .inr (by simp at hk; omega)), v.rd.keep hf (by simp; omega) (fun _ k hk hm => h2 (by simp at hm; exact hm ▸ hk)), v.bg, v.qq, v.own.keep hf (fun k hk hm => h3 (by simp at hm; exact hm ▸ hk)), v.new, fun l hl => ⟨(v.ts l hl).1.keep hf (fun k hk hm => h4 l hl (by simp at hm; exact hm ▸ hk)), fun k hk => ?_⟩, v.rg⟩
  have := (v.ts l hl).2 k hk
  exact ⟨this.1, this.2.1, by omega⟩
theorem OneInv.read (v : OneInv W w bs g q n qc a bad lp lc ls) (hr : Rd 67 w1 g q n qc bs a' bad') (hf : Fr [g] w w1) : OneInv W w1 bs g q n qc a' bad' lp lc ls := by
  have hsz := hf.size
  refine ⟨v.fr.trans hf (fun k hk => .inr (by have := v.bg; simp at hk; omega)), hr, v.bg, v.qq, v.own.keep hf (fun k hk hm => (v.new k hk).2.1 (by simpa using hm)), v.new, fun l hl => ⟨(v.ts l hl).1.keep hf (fun k hk hm => ((v.ts l hl).2 k hk).2.1 (by simpa using hm)), fun k hk => ?_⟩, v.rg⟩
  have := (v.ts l hl).2 k hk
  exact ⟨this.1, this.2.1, by omega⟩
/-- one lay more -/
theorem OneInv.push (v : OneInv W w bs g q n qc a bad lp lc ls) (l : LayD) (hr : (0 ≤ l.b ∧ l.b ≤ 255) ∧ l.n ≤ 18446744073709551615 ∧ (l.what % 3 ≠ 2 → l.t = [])) (ht : ByS w l.x l.m l.c l.t ∧ ∀ k ∈ fbl l.x, k ∉ fbl lp ∧ k ≠ g ∧ k < w.heap.size) (hl : ls.length + 1 ≤ 2097152) {K : Option Addr → Nat → Nat → World → Prop}
    (hK : ∀ p c w', OneInv W w' bs g q n qc a bad p c (ls ++ [l]) → K p (ls.length + 1) c w') :
    newK w #[.int .i64 l.what, .int .u8 l.b, .int .u64 (l.n : Int), .slice l.x l.m l.c] 30 fun g14 w15 => RunR Try.prog (Builtin.append_ #[22, 22] 22 #[.slice lp ls.length lc, .slice (some g14) 1 1]) w15 fun v16 w17 => ∃ (s18p : Option Addr) (s18n s18c : Nat), v16 = .slice s18p s18n s18c ∧ K s18p s18n s18c w17 := by
  unfold newK
  have f0 : Fr [] w (w.alloc (.cells #[.int .i64 l.what, .int .u8 l.b, .int .u64 (l.n : Int), .slice l.x l.m l.c] 30)) := Fr.alloc w _
  have v0 := v.keep' f0
  have hgl := v.rd.blk.lt
  have hW := v.fr.size
  have hsrc : Own 30 4 (w.alloc (.cells #[.int .i64 l.what, .int .u8 l.b, .int .u64 (l.n : Int), .slice l.x l.m l.c] 30)) (some ⟨w.heap.size, 0, none⟩) 1 1 (layCells l) := Own.made _ 1 (by simp only [maxLen]; omega) rfl
  refine app_own rowT30 v0.own hsrc.cells (by simp [layCells]) (fun h => by cases h) (fun u hu => by simp [layCells] at hu; rcases hu with rfl | rfl | rfl | rfl <;> rfl) (by simp only [maxLen]; omega) (by omega) ?_
  intro p c w' o f e
  have e' : ∀ k ∈ fbl p, k ∈ fbl lp ∨ w.heap.size ≤ k := fun k hk => by
    rcases e k hk with h | h
    · exact .inl h
    · simp at h; exact .inr (by omega)
  have hsz := f.size
  simp at hsz
  have ft : ∀ l' ∈ ls ++ [l], ByS w l'.x l'.m l'.c l'.t ∧ ∀ k ∈ fbl l'.x, k ∉ fbl lp ∧ k ≠ g ∧ k < w.heap.size := fun l' hl' => by
    rcases List.mem_append.1 hl' with h | h
    · exact v.ts l' h
    · simp at h; subst h; exact ht
  refine ⟨_, _, _, rfl, hK p c w' ⟨v0.fr.trans f (fun k hk => .inr (v.new k hk).1), v0.rd.keep f (fun hm => (v.new g hm).2.1 rfl) (fun _ k hk hm => (v.new k hm).2.2 hk), v.bg, v.qq, ?_, fun k hk => ?_, fun l' hl' => ⟨((ft l' hl').1.keep' f0).keep f (fun k hk => ((ft l' hl').2 k hk).1), fun k hk => ?_⟩, fun l' hl' => ?_⟩⟩
  · have e1 : laysV (ls ++ [l]) = laysV ls ++ layCells l := by rw [laysV_append]; simp [laysV]
    rw [e1, List.length_append]
    exact o
  · rcases e' k hk with h | h
    · exact v.new k h
    · exact ⟨by omega, by omega, fun hm => by have := v.qq k hm; omega⟩
  · have := (ft l' hl').2 k hk
    refine ⟨fun hm => ?_, this.2.1, by omega⟩
    rcases e' k hm with h | h
    · exact this.1 h
    · omega
  · rcases List.mem_append.1 hl' with h | h
    · exact v.rg l' h
    · simp at h; subst h; exact hr
theorem one_l0 {x y : Option Addr} {c m d : Nat} {zs : List Int} (hb : ByS W x n c bs) (hn : n ≤ 1048576) (hy : IsRow .i64 W y m d zs) (hm : m ≤ 1048576) (hnm : n + m ≤ 1048576) :
    ∀ (k : Nat) (w : World) (a : Nat) (bad : Int) (lp : Option Addr) (lc : Nat) (ls : List LayD), OneInv W w bs g q n qc a bad lp lc ls → (bad = 0 → encAll ls = bs.take a) → ls.length + k = m →
      X10.l0 (fun v w' => v = .bool true ∧ Fr [] W w') (k + 1) x n c y m d (some (at0 g 0)) lp ls.length lc (ls.length : Int) w
  | 0, w, a, bad, lp, lc, ls, v, hs, hl => by
    rw [X10.l0]
    refine bc_neg (by omega) ?_
    unfold drewK
    have v0 := v.keep' (Fr.drew (w := w))
    refine cend_spec v0.rd ?_
    intro w1 f1
    have v1 := v0.keep' f1
    refine ⟨_, rfl, bc_ne (fun hne => ⟨rfl, v1.fr⟩) (fun he => ?_)⟩
    have hend : bad = 0 ∧ ¬ a < bs.length := by
      unfold readEnd at he
      by_cases h : bad = 0 ∧ a < bs.length
      · rw [if_pos h] at he; cases he
      · rw [if_neg h] at he; exact ⟨he, fun hlt => h ⟨he, hlt⟩⟩
    have henc : encAll ls = bs := by rw [hs hend.1, List.take_of_length_le (by omega)]
    have hlay : LaysAt w1 lp ls.length ls := lays_own v1.own (fun l hl => ⟨(v1.rg l hl).1, (v1.rg l hl).2.1, (v1.ts l hl).1⟩)
    have hbl := bulkL_enc ls (fun l hl => (v1.rg l hl).2.2)
    rw [henc, hb.len] at hbl
    refine laid_spec hlay (by omega) (by omega) ?_
    intro p pc w2 o2 f2 e2 _
    rw [henc] at o2 ⊢
    have hb1 := hb.keep' v1.fr
    have hb2 := hb1.keep' f2
    have ho := ByS.of_own o2 hb.wf
    refine ⟨_, _, _, rfl, _, ho.at_, _, hb2.at_, ⟨hb1.at_, hb2.at_⟩, ?_⟩
    rw [strEq_self]
    exact ⟨rfl, v1.fr.tr f2⟩
  | k + 1, w, a, bad, lp, lc, ls, v, hs, hl => by
    have e1 : IntKind.wrap .i64 ((ls.length : Int) + 1) = ((ls.length + 1 : Nat) : Int) := by rw [i64w _ (by omega) (by omega)]; omega
    have hlt : (0 : Int) ≤ (ls.length : Int) ∧ (ls.length : Int) < ((m : Nat) : Int) := ⟨by omega, by omega⟩
    have hgl := v.rd.blk.lt
    have hW := v.fr.size
    rw [X10.l0]
    simp only [Int.toNat_natCast, e1, Nat.mul_one]
    obtain ⟨p, hp, hc, _⟩ := hy.at_ (i := ls.length) (by omega)
    refine bc_pos (by omega) ⟨hlt, opt_some hp (ld_int (v.fr.cell' hc) (pick_spec (by omega) (by omega) ⟨_, rfl, ?_⟩))⟩
    have hpk := @pick3 (zs.getD ls.length 0)
    generalize zs.getD ls.length 0 % 3 = y5 at hpk
    unfold newK
    have f0 : Fr [] w (w.alloc (.cells #[.int .i64 0, .int .u8 0, .int .u64 0, .slice none 0 0] 30)) := Fr.alloc w _
    have v0 := v.keep' f0
    have b0 : Blk (w.alloc (.cells #[.int .i64 0, .int .u8 0, .int .u64 0, .slice none 0 0] 30)) w.heap.size [.int .i64 0, .int .u8 0, .int .u64 0, .slice none 0 0] 30 := Blk.made w _ _
    -- the new block is apart
    have x1 : w.heap.size ≠ g := by omega
    have x2 : w.heap.size ∉ fbl q := fun hm => by have := v.qq _ hm; omega
    have x3 : w.heap.size ∉ fbl lp := fun hm => by have := v.own.lt _ hm; omega
    have x4 : ∀ l ∈ ls, w.heap.size ∉ fbl l.x := fun l hl hm => by have := ((v.ts l hl).2 _ hm).2.2; omega
    show stAll _ (at0 w.heap.size 0) _ _
    refine stAll_blk b0 rfl ?_
    intro w1 b1 f1
    have v1 := v0.fill f1 hW x1 x2 x3 x4
    have z1 : w.heap.size < w1.heap.size := b1.lt
    simp only [add_at, Nat.zero_add]
    -- behind the reading
    have go : ∀ (w : World) (a : Nat) (bad : Int) (l : LayD), OneInv W w bs g q n qc a bad lp lc ls → ((0 ≤ l.b ∧ l.b ≤ 255) ∧ l.n ≤ 18446744073709551615 ∧ (l.what % 3 ≠ 2 → l.t = [])) → (ByS w l.x l.m l.c l.t ∧ ∀ k ∈ fbl l.x, k ∉ fbl lp ∧ k ≠ g ∧ k < w.heap.size) → (bad = 0 → encAll (ls ++ [l]) = bs.take a) →
        newK w #[.int .i64 l.what, .int .u8 l.b, .int .u64 (l.n : Int), .slice l.x l.m l.c] 30 fun g14 w15 => RunR Try.prog (Builtin.append_ #[22, 22] 22 #[.slice lp ls.length lc, .slice (some g14) 1 1]) w15 fun v16 w17 => ∃ (s18p : Option Addr) (s18n s18c : Nat), v16 = .slice s18p s18n s18c ∧
          X10.l0 (fun v w' => v = .bool true ∧ Fr [] W w') (k + 1) x n c y m d (some (at0 g 0)) s18p s18n s18c ((ls.length + 1 : Nat) : Int) w17 := by
      intro w a bad l v hr ht hs
      refine v.push l hr ht (by omega) ?_
      intro p c' w' v'
      have := one_l0 (x := x) (y := y) (c := c) (d := d) hb hn hy hm hnm k w' a bad p c' (ls ++ [l]) v' hs (by simp; omega)
      rw [List.length_append] at this
      exact this
    have hbad : ∀ {f : Int × Nat × Int}, True := trivial
    refine ld_int (b1.cell rfl) (bc_eq (fun h0 => ?_) (fun h0 => bc_eq (fun h1 => ?_) (fun h1 => ?_)))
    · subst h0
      refine cbyte_spec v1.rd ?_
      intro w2 r2 f2
      have v2 := v1.read r2 f2
      have b2 := b1.keep f2 (by simp; omega)
      have hrg := readByte_range (a := a) (bad := bad) (most := 255) hb.wf
      refine ⟨_, rfl, b2.storeOk (by simp), ?_⟩
      have f3 : Fr [w.heap.size] w2 (w2.setCell (at0 w.heap.size 1) (.int .u8 (readByte bs a bad 255).1)) := Fr.setCell (by simp [at0]) _
      have b3 := b2.set 1 (.int .u8 (readByte bs a bad 255).1)
      have v3 := v2.fill f3 hW x1 x2 x3 x4
      refine ld_int (b3.cell rfl) (ld_int (b3.cell rfl) (ld_int (b3.cell rfl) (ld_sl (b3.cell rfl) (go _ _ _ ⟨0, _, 0, none, 0, 0, []⟩ v3 ⟨hrg, by simp, fun _ => rfl⟩ ⟨ByS.nil', by simp [fbl]⟩ ?_))))
      intro hz
      by_cases hb0 : bad = 0
      · subst hb0
        have := (readByte_inv hz).1
        rw [encAll_append, hs rfl, this]
        simp [encAll, encL]
      · rw [readByte_bad hb0] at hz; exact absurd hz hb0
    · subst h1
      refine cnum_spec v1.rd ?_
      intro w2 r2 f2
      have v2 := v1.read r2 f2
      have b2 := b1.keep f2 (by simp; omega)
      have hrg := readNum_range (a := a) (bad := bad) (most := 18446744073709551615) hb.wf
      refine ⟨_, rfl, b2.storeOk (by simp), ?_⟩
      obtain ⟨N, hN⟩ : ∃ N : Nat, (readNum bs a bad 18446744073709551615).1 = (N : Int) := ⟨(readNum bs a bad 18446744073709551615).1.toNat, by omega⟩
      rw [hN]
      have f3 : Fr [w.heap.size] w2 (w2.setCell (at0 w.heap.size 2) (.int .u64 (N : Int))) := Fr.setCell (by simp [at0]) _
      have b3 := b2.set 2 (.int .u64 (N : Int))
      have v3 := v2.fill f3 hW x1 x2 x3 x4
      refine ld_int (b3.cell rfl) (ld_int (b3.cell rfl) (ld_int (b3.cell rfl) (ld_sl (b3.cell rfl) (go _ _ _ ⟨1, 0, N, none, 0, 0, []⟩ v3 ⟨by simp, by show N ≤ _; omega, fun _ => rfl⟩ ⟨ByS.nil', by simp [fbl]⟩ ?_))))
      intro hz
      by_cases hb0 : bad = 0
      · subst hb0
        obtain ⟨n', _, e1, e2⟩ := readNum_inv hb.wf hz
        have : n' = N := by omega
        subst this
        rw [encAll_append, hs rfl, e2]
        simp [encAll, encL]
      · rw [readNum_bad hb0] at hz; exact absurd hz hb0
    · have h2 : y5 = 2 := by omega
      subst h2
      refine ctext_spec v1.rd (by omega) ?_
      intro z zn zc w2 r2 o2 z2 f2
      have v2 := v1.read r2 f2
      have b2 := b1.keep f2 (by simp; omega)
      have hbz := ByS.of_own o2 (fun b hbm => hb.wf b (readText_mem b hbm))
      refine ⟨_, _, _, rfl, b2.storeOk (by simp), ?_⟩
      have f3 : Fr [w.heap.size] w2 (w2.setCell (at0 w.heap.size 3) (.slice z zn zc)) := Fr.setCell (by simp [at0]) _
      have b3 := b2.set 3 (.slice z zn zc)
      have v3 := v2.fill f3 hW x1 x2 x3 x4
      have hbz3 := hbz.keep f3 (fun k hk hm => by have := z2 k hk; simp at hm; omega)
      refine ld_int (b3.cell rfl) (ld_int (b3.cell rfl) (ld_int (b3.cell rfl) (ld_sl (b3.cell rfl) (go _ _ _ ⟨2, 0, 0, z, zn, zc, (readText bs a bad ((n : Nat) : Int)).1⟩ v3 ⟨by simp, by simp, fun h => absurd rfl h⟩ ⟨hbz3, fun k hk => ?_⟩ ?_))))
      · have hk2 := z2 k hk
        have hk3 := o2.lt k hk
        refine ⟨fun hm => ?_, by omega, by simp; omega⟩
        have := v.own.lt k hm
        omega
      intro hz
      by_cases hb0 : bad = 0
      · subst hb0
        have := readText_inv hb.wf hz
        rw [encAll_append, hs rfl, this]
        simp [encAll, encL]
      · have e := readNum_bad (bs := bs) (a := a) (bad := bad) (most := max 0 ((n : Nat) : Int)) hb0
        rw [readText_bad (by rw [e]; exact hb0), e] at hz
        exact absurd hz hb0
theorem codecOne {x y : Option Addr} {c m d : Nat} {zs : List Int} (hb : ByS W x n c bs) (hn : n ≤ 1048576) (hy : IsRow .i64 W y m d zs) (hm : m ≤ 1048576) (hnm : n + m ≤ 1048576) :
    CallR Try.prog 10 #[.slice x n c, .slice y m d] W fun v w' => v = .bool true ∧ Fr [] W w' := by
  refine X10.sound _ _ _ _ _ _ _ _ ?_
  unfold X10.f
  refine newReader_spec hb (by omega) ?_
  intro g q qc w1 r1 hg hq f1
  refine ⟨_, rfl, known_spec ?_⟩
  intro w2 f2
  refine ⟨_, rfl, ?_⟩
  show X10.j1 _ x n c y m d (some (at0 g 0)) w2
  exact ⟨m + 1, one_l0 hb hn hy hm hnm m w2 0 0 none 0 [] ⟨f1.tr f2, r1.keep' f2, hg, fun k hk => (hq k hk).2, Own.nil, by simp [fbl], by simp, by simp⟩ (fun _ => by simp [encAll]) (by simp)⟩
theorem codecOne_row {H : Type} {w : World} {x y : Option Addr} {n c m d : Nat} {zs : List Int} {d0 d1 : DataW H} (h0 : Lies Try.prog w 6 23 [.slice x n c] d0) (_ : n * 1 ≤ 140737488351232) (h1 : Lies Try.prog w 6 58 [.slice y m d] d1) (hy : IsRow .i64 w y m d zs) (_ : m * 8 ≤ 140737488351232) (hB : Rows.uptoBulkAll ([d0, d1] ++ []) ≤ 1048576) :
    CallR Try.prog 10 #[.slice x n c, .slice y m d] w fun v w' => v = .bool true ∧ Fr [] w w' := by
  obtain ⟨x', n', c', bs, e, hb, hd⟩ := lies_bytes Try.underlying23 Try.underlying5 (by kernel_rfl) h0
  simp only [List.cons.injEq, Value.slice.injEq, and_true] at e
  obtain ⟨rfl, rfl, rfl⟩ := e
  have hlen := hb.len
  have hn : n ≤ Rows.uptoBulk d0 := by
    rcases hd with ⟨_, h⟩ | ⟨es, rs, h, h2⟩
    · rw [h] at hlen; simp at hlen; omega
    · rw [h]
      have := bulkAll_len es
      simp only [Rows.uptoBulk]
      omega
  have hm : m ≤ Rows.uptoBulk d1 := by
    rcases lies_slice (P := Try.prog) (e := 3) Try.underlying58 h1 with ⟨h1, h2⟩ | ⟨a, len, cap, elems, rest, h1, h2, _, _, hl, _⟩
    · simp only [List.cons.injEq, Value.slice.injEq, and_true] at h1
      omega
    · simp only [List.cons.injEq, Value.slice.injEq, and_true] at h1
      rw [h2]
      have := bulkAll_len elems
      simp only [Rows.uptoBulk]
      omega
  simp only [List.append_nil, Rows.uptoBulkAll] at hB
  exact codecOne hb (by omega) hy (by omega) (by omega)
end
end Go.Proofs.YtgeinpljchpdgaaX
