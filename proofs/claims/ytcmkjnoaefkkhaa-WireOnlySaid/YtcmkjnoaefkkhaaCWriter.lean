/- The writer: what each of its calls lays, and how the document lays numbers and texts. -/
import Derived.Test.YtcmkjnoaefkkhaaCUnseal
namespace Go.Proofs.YtcmkjnoaefkkhaaX
open Go.RowKit
set_option linter.unusedVariables false

/-- The writer at block g has laid bs; p is its row. -/
structure Wr (w : World) (g : Nat) (p : Option Addr) (bs : List Int) : Prop where
  own : ∃ c, Blk w g [.slice p bs.length c] 79 ∧ Own 5 1 w p bs.length c (u8s bs)
  apart : ∀ k ∈ fbl p, k ≠ g
  wf : ∀ b ∈ bs, 0 ≤ b ∧ b ≤ 255
def wrF (g : Nat) (p : Option Addr) : List Nat := g :: fbl p
section
variable {w w' : World} {g : Nat} {p : Option Addr} {bs : List Int} {S : List Nat}
theorem Wr.keep (h : Wr w g p bs) (hf : Fr S w w') (hn : ∀ k ∈ wrF g p, k ∉ S) : Wr w' g p bs := by
  obtain ⟨c, hb, ho⟩ := h.own
  exact ⟨⟨c, hb.keep hf (hn g (by simp [wrF])), ho.keep hf (fun k hk => hn k (by simp [wrF, hk]))⟩, h.apart, h.wf⟩
theorem Wr.keep' (h : Wr w g p bs) (hf : Fr [] w w') : Wr w' g p bs := h.keep hf (by simp)
theorem Wr.lt (h : Wr w g p bs) : ∀ k ∈ wrF g p, k < w.heap.size := by
  obtain ⟨c, hb, ho⟩ := h.own
  intro k hk
  rcases List.mem_cons.1 hk with rfl | hk
  · exact hb.lt
  · exact ho.lt k hk
/-- Something is put behind what the writer has, and the writer keeps it. -/
theorem Wr.app {x : Option Addr} {m mc c : Nat} {us : List Int} {ty : TypeId} {K : World → Prop} (h : Wr w g p bs) (hc : w.cell? (at0 g 0) = some (.slice p bs.length c)) (hs : ByS w x m mc us) (hb : bs.length + m ≤ 140737488355328)
    (hK : ∀ p' w', Wr w' g p' (bs ++ us) → Fr (wrF g p) w w' → (∀ k ∈ wrF g p', k ∈ wrF g p ∨ w.heap.size ≤ k) → K w') :
    RunR Try.prog (Builtin.append_ #[32, 32] ty #[.slice p bs.length c, .slice x m mc]) w fun v5 w6 => ∃ (s7p : Option Addr) (s7n s7c : Nat), v5 = .slice s7p s7n s7c ∧ optP (some (at0 g 0)) fun p8 => stK w6 (p8.add 0) (.slice s7p s7n s7c) fun w9 => K w9 := by
  obtain ⟨c0, hblk, ho⟩ := h.own
  have e0 := hblk.cell (i := 0) rfl
  rw [hc] at e0
  injection e0 with e0
  injection e0 with _ _ e0
  subst e0
  refine app_bytes ho hs hb ?_
  intro p' c' w1 o1 f1 e1
  have hg : g ∉ fbl p := fun hm => h.apart g hm rfl
  have hlt := hblk.lt
  have hg' : g ∉ fbl p' := fun hm => by
    rcases e1 g hm with hh | hh
    · exact hg hh
    · omega
  have hb1 := hblk.keep f1 hg
  refine ⟨_, _, _, rfl, ?_⟩
  show stK w1 ((at0 g 0).add 0) _ K
  rw [add_at]
  refine ⟨hb1.storeOk (by simp), ?_⟩
  have hm : bs.length + m = (bs ++ us).length := by rw [List.length_append, hs.len]
  have f2 : Fr [g] w1 (w1.setCell (at0 g 0) (.slice p' (bs.length + m) c')) := Fr.setCell (by simp [at0]) _
  refine hK p' _ ⟨⟨c', ?_, ?_⟩, fun k hk he => hg' (he ▸ hk), ?_⟩ ?_ ?_
  · have := hb1.set 0 (.slice p' (bs.length + m) c')
    rw [hm] at this ⊢
    exact this
  · rw [← hm]
    exact o1.keep f2 (fun k hk hm => hg' (by simp at hm; exact hm ▸ hk))
  · intro b hb
    rcases List.mem_append.1 hb with hb | hb
    · exact h.wf b hb
    · exact hs.wf b hb
  · exact (f1.mono (fun y hy => by simp [wrF, hy])).trans f2 (fun y hy => .inl (by simp at hy; simp [wrF, hy]))
  · intro k hk
    rcases List.mem_cons.1 hk with rfl | hk
    · exact .inl (by simp [wrF])
    · rcases e1 k hk with hh | hh
      · exact .inl (by simp [wrF, hh])
      · exact .inr hh
theorem one_byte (w : World) (b : Int) (hb : 0 ≤ b ∧ b ≤ 255) : ByS (w.alloc (.cells #[.int .u8 b] 5)) (some ⟨w.heap.size, 0, none⟩) 1 1 [b] :=
  lit_bytes [b] (by simp) (by simpa using hb)
end

/-! ### A number's bytes -/
def numB (n : Nat) : List Int := if n < 128 then [(n : Int)] else ((n % 128 + 128 : Nat) : Int) :: numB (n / 128)
theorem numB_small {n : Nat} (h : n < 128) : numB n = [(n : Int)] := by rw [numB, if_pos h]
theorem numB_big {n : Nat} (h : ¬ n < 128) : numB n = ((n % 128 + 128 : Nat) : Int) :: numB (n / 128) := by rw [numB, if_neg h]
theorem numB_wf (n : Nat) : ∀ b ∈ numB n, 0 ≤ b ∧ b ≤ 255 := by
  induction n using Nat.strongRecOn with
  | _ n ih =>
    intro b hb
    by_cases h : n < 128
    · rw [numB_small h] at hb
      simp at hb
      subst hb
      omega
    · rw [numB_big h] at hb
      rcases List.mem_cons.1 hb with rfl | hb
      · omega
      · exact ih _ (by omega) b hb
theorem numB_len : ∀ (k n : Nat), n < 128 ^ (k + 1) → (numB n).length ≤ k + 1
  | 0, n, h => by rw [numB_small (by simpa using h)]; simp
  | k + 1, n, h => by
    by_cases hn : n < 128
    · rw [numB_small hn]; simp
    · rw [numB_big hn]
      have := numB_len k (n / 128) (by rw [Nat.div_lt_iff_lt_mul (by omega)]; rw [← Nat.pow_succ]; exact h)
      simp only [List.length_cons]
      omega
theorem numB_len10 {n : Nat} (h : n ≤ 18446744073709551615) : (numB n).length ≤ 10 := numB_len 9 n (by omega)
theorem or8_fin : ∀ x : Fin 256, iOr .u8 (x.val : Int) 128 = ((x.val % 128 + 128 : Nat) : Int) := by decide +kernel
theorem or8 (n : Nat) : iOr .u8 (IntKind.wrap .u8 (n : Int)) 128 = ((n % 128 + 128 : Nat) : Int) := by
  have e : IntKind.wrap .u8 (n : Int) = ((n % 256 : Nat) : Int) := by rw [IntKind.wrap_u8]; omega
  rw [e]
  have := or8_fin ⟨n % 256, by omega⟩
  simp only [] at this
  rw [this]
  have : n % 256 % 128 = n % 128 := by omega
  rw [this]
theorem shr7 (n : Nat) : iShr .u64 (n : Int) 7 = ((n / 128 : Nat) : Int) := by
  unfold iShr
  rw [Int.fdiv_eq_ediv_of_nonneg _ (by decide)]
  rfl

section
variable {w : World} {g : Nat} {p : Option Addr} {bs : List Int} {Q : Value → World → Prop}
theorem newWriter_spec (h : ∀ w', Wr w' w.heap.size none [] → Fr [] w w' → Q (.pointer (some (at0 w.heap.size 0))) w') : CallR Try.prog 34 #[] w Q := by
  refine X34.sound _ _ ?_
  exact h _ ⟨⟨0, Blk.made w #[.slice none 0 0] 79, Own.nil⟩, by simp [fbl], by simp⟩ (Fr.alloc w _)
theorem wbyte_spec {b : Int} (h : Wr w g p bs) (hb : 0 ≤ b ∧ b ≤ 255) (hl : bs.length + 1 ≤ 140737488355328)
    (hK : ∀ p' w', Wr w' g p' (bs ++ [b]) → Fr (wrF g p) w w' → (∀ k ∈ wrF g p', k ∈ wrF g p ∨ w.heap.size ≤ k) → Q (.tuple #[]) w') : CallR Try.prog 35 #[.pointer (some (at0 g 0)), .int .u8 b] w Q := by
  refine X35.sound _ _ _ _ ?_
  obtain ⟨c, hblk, _⟩ := h.own
  have hc := hblk.cell (i := 0) rfl
  show ldSl w ((at0 g 0).add 0) _
  rw [add_at]
  refine ld_sl hc ?_
  unfold newK
  have f0 : Fr [] w (w.alloc (.cells #[.int .u8 b] 5)) := Fr.alloc w _
  refine (h.keep' f0).app (f0.cell' hc) (one_byte w b hb) hl ?_
  intro p' w' h1 h2 h3
  refine hK p' w' h1 (f0.any.tr h2) (fun k hk => ?_)
  rcases h3 k hk with hh | hh
  · exact .inl hh
  · simp at hh; exact .inr (by omega)
theorem wnum_l0 : ∀ (k n : Nat) (w : World) (p : Option Addr) (bs : List Int), n < 128 ^ (k + 1) → n ≤ 18446744073709551615 → Wr w g p bs → bs.length + (k + 1) ≤ 140737488355328 →
    (∀ p' w', Wr w' g p' (bs ++ numB n) → Fr (wrF g p) w w' → (∀ k ∈ wrF g p', k ∈ wrF g p ∨ w.heap.size ≤ k) → Q (.tuple #[]) w') → X62.l0 Q (k + 1) (some (at0 g 0)) (n : Int) w := by
  have last : ∀ (k n : Nat) (w : World) (p : Option Addr) (bs : List Int), n < 128 → Wr w g p bs → bs.length + 1 ≤ 140737488355328 →
    (∀ p' w', Wr w' g p' (bs ++ numB n) → Fr (wrF g p) w w' → (∀ k ∈ wrF g p', k ∈ wrF g p ∨ w.heap.size ≤ k) → Q (.tuple #[]) w') → X62.l0 Q (k + 1) (some (at0 g 0)) (n : Int) w := by
    intro k n w p bs hn h hl hK
    rw [X62.l0]
    refine bc_neg (by omega) ?_
    obtain ⟨c, hblk, _⟩ := h.own
    have hc := hblk.cell (i := 0) rfl
    show ldSl w ((at0 g 0).add 0) _
    rw [add_at]
    refine ld_sl hc ?_
    unfold newK
    rw [u8w (n : Int) (by omega) (by omega)]
    have f0 : Fr [] w (w.alloc (.cells #[.int .u8 (n : Int)] 5)) := Fr.alloc w _
    refine (h.keep' f0).app (f0.cell' hc) (one_byte w _ (by omega)) hl ?_
    intro p' w' h1 h2 h3
    rw [← numB_small hn] at h1
    refine hK p' w' h1 (f0.any.tr h2) (fun k hk => ?_)
    rcases h3 k hk with hh | hh
    · exact .inl hh
    · simp at hh; exact .inr (by omega)
  intro k
  induction k with
  | zero => intro n w p bs hk hn h hl hK; exact last 0 n w p bs (by simpa using hk) h hl hK
  | succ k ih =>
    intro n w p bs hk hn h hl hK
    by_cases hs : n < 128
    · exact last (k + 1) n w p bs hs h (by omega) hK
    · rw [X62.l0]
      refine bc_pos (by omega) ?_
      obtain ⟨c, hblk, _⟩ := h.own
      have hc := hblk.cell (i := 0) rfl
      show ldSl w ((at0 g 0).add 0) _
      rw [add_at]
      refine ld_sl hc ?_
      unfold newK
      rw [or8, shr7]
      have f0 : Fr [] w (w.alloc (.cells #[.int .u8 ((n % 128 + 128 : Nat) : Int)] 5)) := Fr.alloc w _
      refine (h.keep' f0).app (f0.cell' hc) (one_byte w _ (by omega)) (by omega) ?_
      intro p1 w1 h1 h2 h3
      refine ⟨by decide, ?_⟩
      have h3' : ∀ k ∈ wrF g p1, k ∈ wrF g p ∨ w.heap.size ≤ k := by
        intro k hk
        rcases h3 k hk with hh | hh
        · exact .inl hh
        · simp at hh; exact .inr (by omega)
      have hsz := (f0.any.tr h2).size
      refine ih (n / 128) w1 p1 _ (by rw [Nat.div_lt_iff_lt_mul (by omega)]; rw [← Nat.pow_succ]; exact hk) (by omega) h1 (by simp; omega) ?_
      intro p' w' k1 k2 k3
      refine hK p' w' (by rw [numB_big hs]; simpa using k1) ((f0.any.tr h2).trans k2 h3') ?_
      intro k hk
      rcases k3 k hk with hh | hh
      · exact h3' k hh
      · exact .inr (by omega)
theorem wnum_spec {n : Nat} (h : Wr w g p bs) (hn : n ≤ 18446744073709551615) (hl : bs.length + 10 ≤ 140737488355328)
    (hK : ∀ p' w', Wr w' g p' (bs ++ numB n) → Fr (wrF g p) w w' → (∀ k ∈ wrF g p', k ∈ wrF g p ∨ w.heap.size ≤ k) → Q (.tuple #[]) w') : CallR Try.prog 62 #[.pointer (some (at0 g 0)), .int .u64 (n : Int)] w Q :=
  X62.sound _ _ _ _ ⟨9 + 1, wnum_l0 9 n w p bs (by omega) hn h hl hK⟩
def textB (bs : List Int) : List Int := numB bs.length ++ bs
theorem textB_wf {bs : List Int} (h : ∀ b ∈ bs, 0 ≤ b ∧ b ≤ 255) : ∀ b ∈ textB bs, 0 ≤ b ∧ b ≤ 255 := by
  intro b hb
  rcases List.mem_append.1 hb with hb | hb
  · exact numB_wf _ b hb
  · exact h b hb
theorem wbytes_spec (h : Wr w g p bs) (hl : bs.length ≤ 140737488355328)
    (hK : ∀ q c w', Own 5 1 w' q bs.length c (u8s bs) → Fr [] w w' → (∀ k ∈ fbl q, w.heap.size ≤ k) → Q (.slice q bs.length c) w') : CallR Try.prog 37 #[.pointer (some (at0 g 0))] w Q := by
  refine X37.sound _ _ _ ?_
  unfold X37.f newK
  obtain ⟨c, hblk, ho⟩ := h.own
  have hc := hblk.cell (i := 0) rfl
  have f0 : Fr [] w (w.alloc (.cells #[] 5)) := Fr.alloc w _
  show ldSl _ ((at0 g 0).add 0) _
  rw [add_at]
  refine ld_sl (f0.cell' hc) ?_
  refine app_new (ByS.of_own ho h.wf) hl ?_
  intro q c' w' o f e
  exact ⟨_, _, _, rfl, hK q c' w' o f e⟩

/-! ### The document's -/
theorem rnum_l0 : ∀ (k n : Nat) (w : World) (p : Option Addr) (c : Nat) (bs : List Int) (S : List Nat), n < 128 ^ (k + 1) → n ≤ 18446744073709551615 → Own 5 1 w p bs.length c (u8s bs) → (∀ k ∈ fbl p, k ∈ S) → bs.length + (k + 1) ≤ 140737488355328 →
    (∀ p' c' w', Own 5 1 w' p' (bs ++ numB n).length c' (u8s (bs ++ numB n)) → Fr S w w' → (∀ k ∈ fbl p', k ∈ S ∨ w.heap.size ≤ k) → Q (.slice p' (bs ++ numB n).length c') w') → X67.l0 Q (k + 1) (n : Int) p bs.length c w := by
  have last : ∀ (k n : Nat) (w : World) (p : Option Addr) (c : Nat) (bs : List Int) (S : List Nat), n < 128 → Own 5 1 w p bs.length c (u8s bs) → (∀ k ∈ fbl p, k ∈ S) → bs.length + 1 ≤ 140737488355328 →
    (∀ p' c' w', Own 5 1 w' p' (bs ++ numB n).length c' (u8s (bs ++ numB n)) → Fr S w w' → (∀ k ∈ fbl p', k ∈ S ∨ w.heap.size ≤ k) → Q (.slice p' (bs ++ numB n).length c') w') → X67.l0 Q (k + 1) (n : Int) p bs.length c w := by
    intro k n w p c bs S hn h hS hl hK
    rw [X67.l0]
    refine bc_neg (by omega) ?_
    unfold newK
    rw [u8w (n : Int) (by omega) (by omega)]
    have f0 : Fr [] w (w.alloc (.cells #[.int .u8 (n : Int)] 5)) := Fr.alloc w _
    refine app_bytes (h.keep' f0) (one_byte w _ (by omega)) hl ?_
    intro p' c' w' h1 h2 h3
    rw [numB_small hn] at hK
    have := hK p' c' w' (by simpa using h1) ((f0.any (T := S)).tr (h2.mono hS)) (fun k hk => by
      rcases h3 k hk with hh | hh
      · exact .inl (hS k hh)
      · simp at hh; exact .inr (by omega))
    exact ⟨_, _, _, rfl, by simpa using this⟩
  intro k
  induction k with
  | zero => intro n w p c bs S hk hn h hS hl hK; exact last 0 n w p c bs S (by simpa using hk) h hS hl hK
  | succ k ih =>
    intro n w p c bs S hk hn h hS hl hK
    by_cases hs : n < 128
    · exact last (k + 1) n w p c bs S hs h hS (by omega) hK
    · rw [X67.l0]
      refine bc_pos (by omega) ⟨by decide, ?_⟩
      have e1 : Int.tmod (n : Int) 128 = ((n % 128 : Nat) : Int) := by rw [IntWalk.rem_in _ _ (by omega)]; omega
      have e2 : IntKind.wrap .u8 (IntKind.wrap .u64 (((n % 128 : Nat) : Int) + 128)) = ((n % 128 + 128 : Nat) : Int) := by
        rw [u64w _ (by omega) (by omega), u8w _ (by omega) (by omega)]; omega
      have e3 : IntKind.wrap .u64 (Int.tdiv (n : Int) 128) = ((n / 128 : Nat) : Int) := by
        rw [IntWalk.u64_quo _ _ ⟨by omega, by omega, by omega⟩]; omega
      rw [e1, e2, e3]
      unfold newK
      have f0 : Fr [] w (w.alloc (.cells #[.int .u8 ((n % 128 + 128 : Nat) : Int)] 5)) := Fr.alloc w _
      refine app_bytes (h.keep' f0) (one_byte w _ (by omega)) (by omega) ?_
      intro p1 c1 w1 h1 h2 h3
      refine ⟨_, _, _, rfl, by decide, ?_⟩
      have f1 : Fr S w w1 := (f0.any (T := S)).tr (h2.mono hS)
      have hsz := f1.size
      have hext : ∀ k ∈ fbl p1, k ∈ S ∨ w.heap.size ≤ k := by
        intro k hk
        rcases h3 k hk with hh | hh
        · exact .inl (hS k hh)
        · simp at hh; exact .inr (by omega)
      have hlen1 : bs.length + 1 = (bs ++ [((n % 128 + 128 : Nat) : Int)]).length := by simp
      rw [hlen1] at h1 ⊢
      refine ih (n / 128) w1 p1 c1 _ (S ++ fbl p1) (by rw [Nat.div_lt_iff_lt_mul (by omega)]; rw [← Nat.pow_succ]; exact hk) (by omega) h1 (fun k hk => by simp [hk]) (by simp; omega) ?_
      intro p' c' w' k1 k2 k3
      have hb : bs ++ [((n % 128 + 128 : Nat) : Int)] ++ numB (n / 128) = bs ++ numB n := by rw [numB_big hs]; simp
      rw [hb] at k1 ⊢
      refine hK p' c' w' k1 (f1.trans k2 ?_) ?_
      · intro y hy
        rcases List.mem_append.1 hy with hy | hy
        · exact .inl hy
        · exact hext y hy
      · intro k hk
        rcases k3 k hk with hh | hh
        · rcases List.mem_append.1 hh with hh | hh
          · exact .inl hh
          · exact hext k hh
        · exact .inr (by omega)
theorem rnum_spec {n : Nat} (hn : n ≤ 18446744073709551615) (hK : ∀ p c w', Own 5 1 w' p (numB n).length c (u8s (numB n)) → Fr [] w w' → (∀ k ∈ fbl p, w.heap.size ≤ k) → Q (.slice p (numB n).length c) w') : CallR Try.prog 67 #[.int .u64 (n : Int)] w Q := by
  refine X67.sound _ _ _ ⟨9 + 1, ?_⟩
  refine rnum_l0 9 n w none 0 [] [] (by omega) hn Own.nil (by simp [fbl]) (by simp) ?_
  intro p c w' h1 h2 h3
  exact hK p c w' h1 h2 (fun k hk => (h3 k hk).resolve_left (by simp))
end
end Go.Proofs.YtcmkjnoaefkkhaaX
