/- CodecNear: laid bytes with one turned are read alike. -/
import Derived.Test.YtgeinpljchpdgaaL1Cut
namespace Go.Proofs.YtgeinpljchpdgaaX
open Go.RowKit Go.Proofs.Ytgeinpljchpdgaa
set_option linter.unusedVariables false

/-! ### A block that is filled anew -/
theorem putAll_blk {e : TypeId} {g : Nat} : ∀ (vs old pre : List Value) (w : World), Blk w g (pre ++ old) e → old.length = vs.length → Blk (putAll w (at0 g 0) pre.length vs) g (pre ++ vs) e ∧ Fr [g] w (putAll w (at0 g 0) pre.length vs)
  | [], old, pre, w, h, hl => by
    have : old = [] := List.eq_nil_of_length_eq_zero (by simpa using hl)
    subst this
    exact ⟨h, Fr.refl w⟩
  | v :: vs, [], pre, w, h, hl => by simp at hl
  | v :: vs, u :: old, pre, w, h, hl => by
    simp only [putAll, add_at, Nat.zero_add]
    have h1 := h.set pre.length v
    rw [List.set_append_right _ _ (Nat.le_refl _), Nat.sub_self, List.set_cons_zero] at h1
    have e1 : pre ++ v :: old = (pre ++ [v]) ++ old := by simp
    rw [e1] at h1
    obtain ⟨k1, k2⟩ := putAll_blk vs old (pre ++ [v]) _ h1 (by simpa using hl)
    rw [List.length_append] at k1 k2
    refine ⟨by simpa using k1, ?_⟩
    exact (Fr.setCell (by simp [at0]) v).tr k2
theorem stAll_blk {e : TypeId} {g : Nat} {cs vs : List Value} {w : World} {K : World → Prop} (h : Blk w g cs e) (hl : cs.length = vs.length) (hK : ∀ w', Blk w' g vs e → Fr [g] w w' → K w') : stAll w (at0 g 0) vs K := by
  obtain ⟨k1, k2⟩ := putAll_blk vs cs [] w h hl
  refine ⟨fun i hi => ?_, hK _ k1 k2⟩
  rw [add_at, Nat.zero_add]
  exact h.storeOk (by omega)

/-! ### A row of asks of one's own -/
theorem rowT49 : RowT Try.prog 45 49 4 32 := ⟨by kernel_rfl, ⟨Try.t49, .agg #[.int .i64 0, .int .u8 0, .int .u64 0, .int .i64 0], by kernel_rfl, by kernel_rfl, by kernel_rfl, by kernel_rfl, by kernel_rfl⟩, by omega⟩
def askCells (a : AskD) : List Value := [.int .i64 a.what, .int .u8 a.b, .int .u64 a.n, .int .i64 a.t]
def asksV : List AskD → List Value
  | [] => []
  | a :: l => askCells a ++ asksV l
theorem asksV_append : ∀ (k l : List AskD), asksV (k ++ l) = asksV k ++ asksV l
  | [], l => rfl
  | a :: k, l => by simp [asksV, asksV_append k l]
theorem asksV_get : ∀ (ks : List AskD) (i j : Nat) (a : AskD), ks[i]? = some a → j < 4 → (asksV ks)[i * 4 + j]? = (askCells a)[j]?
  | [], i, j, a, h, _ => by simp at h
  | b :: ks, 0, j, a, h, hj => by
    simp at h
    subst h
    simp only [asksV, Nat.zero_mul, Nat.zero_add]
    rw [List.getElem?_append_left (by simp [askCells]; omega)]
  | b :: ks, i + 1, j, a, h, hj => by
    simp only [asksV]
    rw [List.getElem?_append_right (by simp [askCells]; omega)]
    have : (i + 1) * 4 + j - (askCells b).length = i * 4 + j := by simp [askCells]; omega
    rw [this]
    exact asksV_get ks i j a (by simpa using h) hj
theorem asks_own {w : World} {p : Option Addr} {c : Nat} {ks : List AskD} (h : Own 49 4 w p ks.length c (asksV ks)) (ht : ∀ a ∈ ks, -9223372036854775808 ≤ a.t ∧ a.t ≤ 9223372036854775807) : AsksAt w p ks.length ks := by
  refine ⟨rfl, fun i a hi => ?_⟩
  have cell : ∀ j v, j < 4 → (askCells a)[j]? = some v → ∃ q, p = some q ∧ w.cell? ((q.add (i * 4)).add j) = some v := fun j v hj hv => by
    obtain ⟨q, hq, hc⟩ := h.cells (i * 4 + j) v (by rw [asksV_get ks i j a hi hj, hv])
    exact ⟨q, hq, by rw [add_add]; exact hc⟩
  obtain ⟨q, hq, h0⟩ := cell 0 _ (by omega) rfl
  subst hq
  have get : ∀ j v, j < 4 → (askCells a)[j]? = some v → w.cell? ((q.add (i * 4)).add j) = some v := fun j v hj hv => by
    obtain ⟨q', hq', hc⟩ := cell j v hj hv
    injection hq' with hq'
    subst hq'
    exact hc
  exact ⟨q, rfl, h0, get 1 _ (by omega) rfl, get 2 _ (by omega) rfl, get 3 _ (by omega) rfl, ht a (List.mem_of_getElem? hi)⟩
structure NearInv (W w : World) (bp : Option Addr) (bn bc : Nat) (bs : List Int) (ap : Option Addr) (ac : Nat) (ks : List AskD) : Prop where
  fr : Fr [] W w
  b : ByS w bp bn bc bs
  own : Own 49 4 w ap ks.length ac (asksV ks)
  new : ∀ k ∈ fbl ap, W.heap.size ≤ k
  dis : ∀ k ∈ fbl bp, k ∉ fbl ap ∧ k < w.heap.size
  tr : ∀ a ∈ ks, -9223372036854775808 ≤ a.t ∧ a.t ≤ 9223372036854775807
section
variable {W w w1 : World} {bp ap : Option Addr} {bn bc ac : Nat} {bs : List Int} {ks : List AskD}
theorem NearInv.keep' (v : NearInv W w bp bn bc bs ap ac ks) (hf : Fr [] w w1) : NearInv W w1 bp bn bc bs ap ac ks :=
  ⟨v.fr.tr hf, v.b.keep' hf, v.own.keep' hf, v.new, fun k hk => ⟨(v.dis k hk).1, by have := (v.dis k hk).2; have := hf.size; omega⟩, v.tr⟩
/-- one ask more -/
theorem NearInv.push (v : NearInv W w bp bn bc bs ap ac ks) (a : AskD) (ht : -9223372036854775808 ≤ a.t ∧ a.t ≤ 9223372036854775807) (hl : ks.length + 1 ≤ 2097152) {K : Option Addr → Nat → Nat → World → Prop}
    (hK : ∀ p c w', NearInv W w' bp bn bc bs p c (ks ++ [a]) → K p (ks.length + 1) c w') :
    newK w #[.int .i64 a.what, .int .u8 a.b, .int .u64 a.n, .int .i64 a.t] 49 fun g14 w15 => RunR Try.prog (Builtin.append_ #[45, 45] 45 #[.slice ap ks.length ac, .slice (some g14) 1 1]) w15 fun v16 w17 => ∃ (s18p : Option Addr) (s18n s18c : Nat), v16 = .slice s18p s18n s18c ∧ K s18p s18n s18c w17 := by
  unfold newK
  have f0 : Fr [] w (w.alloc (.cells #[.int .i64 a.what, .int .u8 a.b, .int .u64 a.n, .int .i64 a.t] 49)) := Fr.alloc w _
  have v0 := v.keep' f0
  have hsrc : Own 49 4 (w.alloc (.cells #[.int .i64 a.what, .int .u8 a.b, .int .u64 a.n, .int .i64 a.t] 49)) (some ⟨w.heap.size, 0, none⟩) 1 1 (askCells a) := Own.made _ 1 (by simp only [maxLen]; omega) rfl
  refine app_own rowT49 v0.own hsrc.cells (by simp [askCells]) (fun h => by cases h) (fun u hu => by simp [askCells] at hu; rcases hu with rfl | rfl | rfl | rfl <;> rfl) (by simp only [maxLen]; omega) (by omega) ?_
  intro p c w' o f e
  refine ⟨_, _, _, rfl, hK p c w' ⟨v0.fr.trans f (fun k hk => .inr (v.new k hk)), v0.b.keep f (fun k hk => (v0.dis k hk).1), ?_, fun k hk => ?_, fun k hk => ⟨fun hm => ?_, ?_⟩, fun b hb => ?_⟩⟩
  · have e1 : asksV (ks ++ [a]) = asksV ks ++ askCells a := by rw [asksV_append]; simp [asksV]
    rw [e1, List.length_append]
    exact o
  · rcases e k hk with h | h
    · exact v.new k h
    · have := v0.fr.size; omega
  · rcases e k hm with h | h
    · exact (v0.dis k hk).1 h
    · have := (v0.dis k hk).2; omega
  · have := (v0.dis k hk).2; have := f.size; omega
  · rcases List.mem_append.1 hb with h | h
    · exact v.tr b h
    · simp at h; subst h; exact ht
theorem NearInv.fill {g : Nat} {e : TypeId} (v : NearInv W w bp bn bc bs ap ac ks) (hf : Fr [g] w w1) (hg : W.heap.size ≤ g) (hb : g ∉ fbl bp) (ha : g ∉ fbl ap) : NearInv W w1 bp bn bc bs ap ac ks :=
  ⟨v.fr.trans hf (fun k hk => .inr (by simp at hk; omega)), v.b.keep hf (fun k hk hm => hb (by simp at hm; exact hm ▸ hk)), v.own.keep hf (fun k hk hm => ha (by simp at hm; exact hm ▸ hk)), v.new, fun k hk => ⟨(v.dis k hk).1, by have := (v.dis k hk).2; have := hf.size; omega⟩, v.tr⟩
theorem near_l0 {y hp : Option Addr} {m d hn hc : Nat} {ls : List LayD} {hs : List AskD} (hk : LaysAt W y m ls) (hm : m ≤ 1048576) (hh : AsksAt W hp hn hs) (hbn : bn ≤ 140737488355328) :
    ∀ (rest : List LayD) (w : World) (ap : Option Addr) (ac : Nat) (ks : List AskD), NearInv W w bp bn bc bs ap ac ks → ls.drop ks.length = rest → ks.length + rest.length = m →
      X7.l0 (fun v w' => v = .bool true ∧ Fr [] W w') (rest.length + 1) y m d hp hn hc bp bn bc ap ks.length ac (ks.length : Int) w
  | [], w, ap, ac, ks, v, hd, hl => by
    rw [List.length_nil, X7.l0]
    refine bc_neg (by simp at hl; omega) ?_
    refine known_spec ?_
    intro w1 f1
    have v1 := v.keep' f1
    refine ⟨_, rfl, ?_⟩
    refine (reads_spec v1.b hbn (asks_own v1.own v1.tr) (by simp at hl; omega)).mono ?_
    rintro r w' ⟨rfl, f2⟩
    exact ⟨_, rfl, rfl, v1.fr.tr f2⟩
  | l :: rest, w, ap, ac, ks, v, hd, hl => by
    simp only [List.length_cons] at hl
    have hi : ls[ks.length]? = some l := by rw [← List.head?_drop, hd]; rfl
    have hnext : ls.drop (ks.length + 1) = rest := by rw [← List.drop_drop, hd]; rfl
    have e1 : IntKind.wrap .i64 ((ks.length : Int) + 1) = ((ks.length + 1 : Nat) : Int) := by rw [i64w _ (by omega) (by omega)]; omega
    have hlt : (0 : Int) ≤ (ks.length : Int) ∧ (ks.length : Int) < ((m : Nat) : Int) := ⟨by omega, by omega⟩
    rw [List.length_cons, X7.l0]
    simp only [Int.toNat_natCast]
    obtain ⟨p, hp', hW⟩ := hk.at_ ks.length l hi
    have hc' := hW.keep' v.fr
    refine bc_pos (by omega) ⟨hlt, opt_some hp' (ld_int hc'.c0 (pick_spec (by omega) (by omega) ⟨_, rfl, ?_⟩))⟩
    unfold newK
    have f0 : Fr [] w (w.alloc (.cells #[.int .i64 0, .int .u8 0, .int .u64 0, .int .i64 0] 49)) := Fr.alloc w _
    have v0 := v.keep' f0
    have b0 : Blk (w.alloc (.cells #[.int .i64 0, .int .u8 0, .int .u64 0, .int .i64 0] 49)) w.heap.size [.int .i64 0, .int .u8 0, .int .u64 0, .int .i64 0] 49 := Blk.made w _ _
    have hgb : w.heap.size ∉ fbl bp := fun hm => by have := (v.dis _ hm).2; omega
    have hga : w.heap.size ∉ fbl ap := fun hm => by have := v.own.lt _ hm; omega
    have hsz := v.fr.size
    show stAll _ (at0 w.heap.size 0) _ _
    refine stAll_blk b0 rfl ?_
    intro w1 b1 f1
    have v1 := v0.fill (e := 49) f1 hsz hgb hga
    -- what follows, with one ask more
    have go : ∀ (w : World) (a : AskD), NearInv W w bp bn bc bs ap ac ks → (-9223372036854775808 ≤ a.t ∧ a.t ≤ 9223372036854775807) →
        newK w #[.int .i64 a.what, .int .u8 a.b, .int .u64 a.n, .int .i64 a.t] 49 fun g14 w15 => RunR Try.prog (Builtin.append_ #[45, 45] 45 #[.slice ap ks.length ac, .slice (some g14) 1 1]) w15 fun v16 w17 => ∃ (s18p : Option Addr) (s18n s18c : Nat), v16 = .slice s18p s18n s18c ∧
          X7.l0 (fun v w' => v = .bool true ∧ Fr [] W w') (rest.length + 1) y m d hp hn hc bp bn bc s18p s18n s18c ((ks.length + 1 : Nat) : Int) w17 := by
      intro w a v ht
      refine v.push a ht (by omega) ?_
      intro p c w' v'
      have := near_l0 (d := d) (hc := hc) hk hm hh hbn rest w' p c (ks ++ [a]) v' (by rw [List.length_append]; exact hnext) (by simp; omega)
      rw [List.length_append] at this
      exact this
    have plain : ∀ b, b = false → X7.j1 (fun v w' => v = .bool true ∧ Fr [] W w') (X7.l0 (fun v w' => v = .bool true ∧ Fr [] W w') (rest.length + 1)) y m d hp hn hc bp bn bc ap ks.length ac (ks.length : Int) (at0 w.heap.size 0) b w1 := by
      rintro b rfl
      unfold X7.j1
      simp only [e1, add_at, Nat.zero_add]
      exact ld_int (b1.cell rfl) (ld_int (b1.cell rfl) (ld_int (b1.cell rfl) (ld_int (b1.cell rfl) (go w1 ⟨_, _, _, _⟩ v1 (by simp)))))
    refine bc_dec (fun hlt2 => ?_) (fun hge2 => plain _ rfl)
    have hi2 : hs[ks.length]? = some (hs[ks.length]'(by rw [hh.len]; omega)) := List.getElem?_eq_getElem _
    generalize hs[ks.length]'(by rw [hh.len]; omega) = h0 at hi2
    obtain ⟨p2, hp2, hH⟩ := hh.at_ _ _ hi2
    have hc2 := hH.keep fun q v hc _ => v1.fr.cell' hc
    have hltn : (0 : Int) ≤ (ks.length : Int) ∧ (ks.length : Int) < ((hn : Nat) : Int) := ⟨by omega, by omega⟩
    refine ⟨hltn, opt_some hp2 (ld_int hc2.c0 ⟨by decide, ?_⟩)⟩
    cases hflag : (Int.tmod h0.what 3 == 0) with
    | false => exact plain _ rfl
    | true =>
      unfold X7.j1
      simp only [e1, Int.toNat_natCast]
      show _ ∧ _
      have st : ∀ {w : World} {cs : List Value} (i : Nat) (v : Value), Blk w (w.heap.size) cs 49 → True := fun _ _ _ => trivial
      have s1 : Fr [(at0 w.heap.size 0).block] w1 (w1.setCell (at0 w.heap.size 1) (.int .u8 h0.b)) := Fr.setCell (by simp [at0]) _
      have b2 := b1.set 1 (.int .u8 h0.b)
      have v2 := v1.fill (e := 49) s1 hsz hgb hga
      have hc3 := hH.keep fun q v hc _ => v2.fr.cell' hc
      have s2 : Fr [(at0 w.heap.size 0).block] _ ((w1.setCell (at0 w.heap.size 1) (.int .u8 h0.b)).setCell (at0 w.heap.size 2) (.int .u64 h0.n)) := Fr.setCell (by simp [at0]) _
      have b3 := b2.set 2 (.int .u64 h0.n)
      have v3 := v2.fill (e := 49) s2 hsz hgb hga
      have hc4 := hH.keep fun q v hc _ => v3.fr.cell' hc
      have s3 : Fr [(at0 w.heap.size 0).block] _ (((w1.setCell (at0 w.heap.size 1) (.int .u8 h0.b)).setCell (at0 w.heap.size 2) (.int .u64 h0.n)).setCell (at0 w.heap.size 3) (.int .i64 h0.t)) := Fr.setCell (by simp [at0]) _
      have b4 := b3.set 3 (.int .i64 h0.t)
      have v4 := v3.fill (e := 49) s3 hsz hgb hga
      refine ⟨hltn, opt_some hp2 (ld_int hc2.c1 ⟨b1.storeOk (by simp), hltn, opt_some hp2 (ld_int hc3.c2 ⟨b2.storeOk (by simp), hltn, opt_some hp2 (ld_int hc4.c3 ⟨b3.storeOk (by simp), ?_⟩)⟩)⟩)⟩
      exact ld_int (b4.cell rfl) (ld_int (b4.cell rfl) (ld_int (b4.cell rfl) (ld_int (b4.cell rfl) (go _ ⟨_, _, _, _⟩ v4 hH.tr))))
theorem codecNear {y hp : Option Addr} {m d hn hc : Nat} {ls : List LayD} {hs : List AskD} (hk : LaysAt W y m ls) (hm : m ≤ 1048576) (hB : bulkL ls ≤ 1048576) (hh : AsksAt W hp hn hs) (k to : Int) (hto : 0 ≤ to ∧ to ≤ 255) :
    CallR Try.prog 7 #[.slice y m d, .int .i64 k, .int .u8 to, .slice hp hn hc] W fun v w' => v = .bool true ∧ Fr [] W w' := by
  refine X7.sound _ _ _ _ _ _ _ _ _ _ ?_
  unfold X7.f
  refine laid_spec hk (by omega) hB ?_
  intro p pc w1 o1 f1 e1 hwf
  have hb := ByS.of_own o1 hwf
  have hlen := encAll_len (lays_n hk) hB
  have start : ∀ (w : World) (bs : List Int), Fr [] W w → ByS w p (encAll ls).length pc bs → (∀ k ∈ fbl p, k < w.heap.size) → X7.j2 (fun v w' => v = .bool true ∧ Fr [] W w') y m d hp hn hc p (encAll ls).length pc w := by
    intro w bs hf hb hl
    refine ⟨ls.length + 1, ?_⟩
    exact near_l0 hk hm hh (by omega) ls w none 0 [] ⟨hf, hb, Own.nil, by simp [fbl], fun k hk => ⟨by simp [fbl], hl k hk⟩, by simp⟩ rfl (by simp [hk.len])
  refine ⟨_, _, _, rfl, bc_dec (fun hpos => ?_) (fun hz => start w1 _ f1 hb o1.lt)⟩
  refine pick_spec (by omega) (by omega) ⟨_, rfl, ?_⟩
  have r1 := Int.emod_nonneg k (show (((encAll ls).length : Nat) : Int) ≠ 0 by omega)
  have r2 := Int.emod_lt_of_pos k hpos
  generalize k % (((encAll ls).length : Nat) : Int) = j at r1 r2
  obtain ⟨r, rfl⟩ : ∃ r : Nat, j = (r : Int) := ⟨j.toNat, by omega⟩
  have hr : r < (encAll ls).length := by omega
  obtain ⟨q, hq, _⟩ := hb.get (List.getElem?_eq_getElem hr)
  subst hq
  have hxi : r < (u8s (encAll ls)).length := by simpa using hr
  refine ⟨⟨by omega, by omega⟩, opt_some rfl ?_⟩
  rw [Int.toNat_natCast, Nat.mul_one]
  refine ⟨o1.storeOk hxi, ?_⟩
  have o3 := o1.set hxi (.int .u8 to)
  have e5 : (u8s (encAll ls)).set r (.int .u8 to) = u8s ((encAll ls).set r to) := by simp [u8s, List.map_set]
  rw [e5] at o3
  have b3 := ByS.of_own o3 (fun b hm => by
    rcases List.mem_or_eq_of_mem_set hm with h | h
    · exact hwf b h
    · rw [h]; exact hto)
  have f3 : Fr [q.block] w1 (w1.setCell (q.add r) (.int .u8 to)) := Fr.setCell (by simp [add_block]) _
  exact start _ _ (f1.trans f3 (fun z hz => .inr (e1 z (by simpa [fbl] using hz)))) b3 o3.lt
theorem bulkL_len : ∀ (ls : List LayD), ls.length ≤ bulkL ls
  | [] => by simp [bulkL]
  | l :: ls => by have := bulkL_len ls; simp only [bulkL, List.length_cons]; omega
theorem codecNear_row {H : Type} {w : World} {y : Option Addr} {m d : Nat} {dd : DataW H} (h2 : Lies Try.prog w 6 22 [.slice y m d] dd) (hm : m * 48 ≤ 140737488351232) (k : Int) (_ : (Lit.int .i64 k).wf = true) (to : Int) (hto : (Lit.int .u8 to).wf = true)
    {hp : Option Addr} {hn hc : Nat} {d3 : DataW H} (h3 : Lies Try.prog w 6 45 [.slice hp hn hc] d3) (_ : hn * 32 ≤ 140737488351232) {d1 d2 : DataW H} (hB : Rows.uptoBulkAll ([dd, d1, d2, d3] ++ []) ≤ 1048576) :
    CallR Try.prog 7 #[.slice y m d, .int .i64 k, .int .u8 to, .slice hp hn hc] w fun v w' => v = .bool true ∧ Fr [] w w' := by
  obtain ⟨y', m', d', ls, e, hk, hb⟩ := lays_of_lies h2
  simp only [List.cons.injEq, Value.slice.injEq, and_true] at e
  obtain ⟨rfl, rfl, rfl⟩ := e
  obtain ⟨y'', m'', d'', hs, e, hh⟩ := asks_of_lies h3
  simp only [List.cons.injEq, Value.slice.injEq, and_true] at e
  obtain ⟨rfl, rfl, rfl⟩ := e
  simp only [List.append_nil, Rows.uptoBulkAll] at hB
  have := bulkL_len ls
  have := hk.len
  exact codecNear hk (by omega) (by omega) hh k to (u8b hto)
end
end Go.Proofs.YtgeinpljchpdgaaX
