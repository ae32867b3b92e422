/- CodecReads: any bytes are read by any calls alike. -/
import Derived.Test.YtgeinpljchpdgaaL1Text
import Derived.Test.YtgeinpljchpdgaaL1Known
import Derived.Test.YtgeinpljchpdgaaXLies
namespace Go.Proofs.YtgeinpljchpdgaaX
open Go.RowKit
set_option linter.unusedVariables false

/-! ### What is asked for -/
structure AskD where
  what : Int
  b : Int
  n : Int
  t : Int
structure AskAt (w : World) (p : Addr) (a : AskD) : Prop where
  c0 : w.cell? (p.add 0) = some (.int .i64 a.what)
  c1 : w.cell? (p.add 1) = some (.int .u8 a.b)
  c2 : w.cell? (p.add 2) = some (.int .u64 a.n)
  c3 : w.cell? (p.add 3) = some (.int .i64 a.t)
  tr : -9223372036854775808 ≤ a.t ∧ a.t ≤ 9223372036854775807
structure AsksAt (w : World) (x : Option Addr) (n : Nat) (ks : List AskD) : Prop where
  len : ks.length = n
  at_ : ∀ i a, ks[i]? = some a → ∃ p, x = some p ∧ AskAt w (p.add (i * 4)) a
theorem AskAt.keep {w w' : World} {p : Addr} {a : AskD} (h : AskAt w p a) (hf : ∀ q v, w.cell? q = some v → q.block = p.block → w'.cell? q = some v) : AskAt w' p a :=
  ⟨hf _ _ h.c0 (add_block _ _), hf _ _ h.c1 (add_block _ _), hf _ _ h.c2 (add_block _ _), hf _ _ h.c3 (add_block _ _), h.tr⟩
theorem AsksAt.keep' {w w' : World} {x : Option Addr} {n : Nat} {ks : List AskD} (h : AsksAt w x n ks) (hf : Fr [] w w') : AsksAt w' x n ks :=
  ⟨h.len, fun i a hi => by
    obtain ⟨p, hp, ha⟩ := h.at_ i a hi
    exact ⟨p, hp, ha.keep fun q v hc _ => hf.cell' hc⟩⟩
theorem asks_of_lies {H : Type} {w : World} {n : Nat} {cs : List Value} {d : DataW H} (h : Lies Try.prog w (n + 3) 45 cs d) : ∃ x len cap ks, cs = [.slice x len cap] ∧ AsksAt w x len ks := by
  rcases lies_slice (P := Try.prog) (e := 49) Try.underlying45 h with ⟨h1, h2⟩ | ⟨a, len, cap, elems, rest, h1, h2, hl, hm, hlen, hel⟩
  · exact ⟨none, 0, 0, [], h1, ⟨rfl, by simp⟩⟩
  · obtain ⟨ks, hbl, hb⟩ := list_of (R := fun i (y : DataW H) (b : AskD) => AskAt w (a.add (i * 4)) b) elems 0 (fun i y hy => by
      obtain ⟨cs', hcl, hcell, hly⟩ := hel i y hy
      have hsz : Try.prog.cellsOf 49 = 4 := by kernel_rfl
      rw [hsz] at hcl hcell
      obtain ⟨_, ds, _, hdl, hf⟩ := lies_struct Try.underlying49 hly
      match cs', hcl with
      | [c0, c1, c2, c3], _ =>
      match ds, hdl with
      | [d0, d1, d2, d3], _ =>
      have g0 := hf 0 { name := "What", type := 3, offset := 0, embedded := false, tag := "", pkgPath := "", byteOffset := 0 } d0 rfl rfl
      have g1 := hf 1 { name := "B", type := 5, offset := 1, embedded := false, tag := "", pkgPath := "", byteOffset := 8 } d1 rfl rfl
      have g2 := hf 2 { name := "N", type := 28, offset := 2, embedded := false, tag := "", pkgPath := "", byteOffset := 16 } d2 rfl rfl
      have g3 := hf 3 { name := "T", type := 3, offset := 3, embedded := false, tag := "", pkgPath := "", byteOffset := 24 } d3 rfl rfl
      have s3 : Try.prog.cellsOf 3 = 1 := by kernel_rfl
      have s5 : Try.prog.cellsOf 5 = 1 := by kernel_rfl
      have s28 : Try.prog.cellsOf 28 = 1 := by kernel_rfl
      simp only [s3, s5, s28, List.drop_zero, List.drop_succ_cons, List.take_succ_cons, List.take_zero] at g0 g1 g2 g3
      obtain ⟨x0, e0, _, w0⟩ := lies_int Try.underlying3 g0
      obtain ⟨x1, e1, _, w1⟩ := lies_int Try.underlying5 g1
      obtain ⟨x2, e2, _, w2⟩ := lies_int Try.underlying28 g2
      obtain ⟨x3, e3, _, w3⟩ := lies_int Try.underlying3 g3
      simp only [List.cons.injEq, and_true] at e0 e1 e2 e3
      subst e0; subst e1; subst e2; subst e3
      refine ⟨⟨x0, x1, x2, x3⟩, ?_, ?_, ?_, ?_, i64b w3⟩
      · rw [Nat.zero_add, add_add]; exact hcell 0 _ rfl
      · rw [Nat.zero_add, add_add]; exact hcell 1 _ rfl
      · rw [Nat.zero_add, add_add]; exact hcell 2 _ rfl
      · rw [Nat.zero_add, add_add]; exact hcell 3 _ rfl)
    refine ⟨some a, len, cap, ks, h1, ⟨by omega, fun i b hi => ⟨a, rfl, ?_⟩⟩⟩
    have hlt : i < elems.length := by have := (List.getElem?_eq_some_iff.1 hi).1; omega
    have := hb i _ b (List.getElem?_eq_getElem hlt) hi
    rwa [Nat.zero_add] at this

/-! ### The loop of reads -/
/-- what holds ahead of each call -/
structure ReadInv (W w : World) (bs : List Int) (n : Nat) (x : Option Addr) (c : Nat) (op : Option Addr) (oc : Nat) (g : Nat) (q : Option Addr) (qc h : Nat) (a : Nat) (bad : Int) (a2 : Nat) (bad2 : Int) : Prop where
  fr : Fr [] W w
  own : ByS w op n oc bs
  rd : Rd 67 w g q n qc bs a bad
  rr : Rd 65 w h x n c bs a2 bad2
  bg : W.heap.size ≤ g
  bh : W.heap.size ≤ h
  ne : g ≠ h
  oo : ∀ k ∈ fbl op, W.heap.size ≤ k ∧ k ≠ g ∧ k ≠ h ∧ k < w.heap.size
  qq : ∀ k ∈ fbl q, W.heap.size ≤ k ∧ k ≠ h ∧ k < w.heap.size
  xx : bs ≠ [] → ∀ k ∈ fbl x, k < W.heap.size
section
variable {W w w1 : World} {x op q : Option Addr} {n c oc g qc h a a' a2 a2' : Nat} {bad bad' bad2 bad2' : Int} {bs : List Int} {S : List Nat}
theorem ReadInv.keepS (v : ReadInv W w bs n x c op oc g q qc h a bad a2 bad2) (hf : Fr S w w1) (hg : g ∉ S) (hh : h ∉ S) (ho : ∀ k ∈ fbl op, k ∉ S) (hq : ∀ k ∈ fbl q, k ∉ S) (hS : ∀ k ∈ S, W.heap.size ≤ k) : ReadInv W w1 bs n x c op oc g q qc h a bad a2 bad2 := by
  have hsz := hf.size
  refine ⟨v.fr.trans hf (fun k hk => .inr (hS k hk)), v.own.keep hf ho, v.rd.keep hf hg (fun _ => hq), v.rr.keep hf hh (fun hb k hk hm => ?_), v.bg, v.bh, v.ne, fun k hk => ?_, fun k hk => ?_, v.xx⟩
  · have := v.xx hb k hk
    have := hS k hm
    omega
  · have := v.oo k hk
    exact ⟨this.1, this.2.1, this.2.2.1, by omega⟩
  · have := v.qq k hk
    exact ⟨this.1, this.2.1, by omega⟩
theorem ReadInv.keep' (v : ReadInv W w bs n x c op oc g q qc h a bad a2 bad2) (hf : Fr [] w w1) : ReadInv W w1 bs n x c op oc g q qc h a bad a2 bad2 := v.keepS hf (by simp) (by simp) (by simp) (by simp) (by simp)
theorem ReadInv.setC (v : ReadInv W w bs n x c op oc g q qc h a bad a2 bad2) (hr : Rd 67 w1 g q n qc bs a' bad') (hf : Fr [g] w w1) : ReadInv W w1 bs n x c op oc g q qc h a' bad' a2 bad2 := by
  have hsz := hf.size
  refine ⟨v.fr.trans hf (fun k hk => .inr (by have := v.bg; simp at hk; omega)), v.own.keep hf (fun k hk hm => (v.oo k hk).2.1 (by simpa using hm)), hr, v.rr.keep hf (by simp [v.ne.symm]) (fun hb k hk hm => ?_), v.bg, v.bh, v.ne, fun k hk => ?_, fun k hk => ?_, v.xx⟩
  · have := v.xx hb k hk
    have := v.bg
    simp at hm
    omega
  · have := v.oo k hk
    exact ⟨this.1, this.2.1, this.2.2.1, by omega⟩
  · have := v.qq k hk
    exact ⟨this.1, this.2.1, by omega⟩
theorem ReadInv.setR (v : ReadInv W w bs n x c op oc g q qc h a bad a2 bad2) (hr : Rd 65 w1 h x n c bs a2' bad2') (hf : Fr [h] w w1) : ReadInv W w1 bs n x c op oc g q qc h a bad a2' bad2' := by
  have hsz := hf.size
  refine ⟨v.fr.trans hf (fun k hk => .inr (by have := v.bh; simp at hk; omega)), v.own.keep hf (fun k hk hm => (v.oo k hk).2.2.1 (by simpa using hm)), v.rd.keep hf (by simp [v.ne]) (fun _ k hk hm => (v.qq k hk).2.1 (by simpa using hm)), hr, v.bg, v.bh, v.ne, fun k hk => ?_, fun k hk => ?_, v.xx⟩
  · have := v.oo k hk
    exact ⟨this.1, this.2.1, this.2.2.1, by omega⟩
  · have := v.qq k hk
    exact ⟨this.1, this.2.1, by omega⟩
/-- each byte of what came out is written over -/
theorem wipe_l1 {Q : Value → World → Prop} (b0 : Option Addr → Nat → Nat → Option Addr → Nat → Nat → Option Addr → Nat → Nat → Option Addr → Addr → Int → World → Prop) {t0p t1p t5p t6 : Option Addr} {t0n t0c t1n t1c t5n t5c : Nat} {t7 : Addr} {t8 t8' : Int} {z : Option Addr} {zn zc : Nat} (hn : zn ≤ 140737488355328) (ht8 : IntKind.wrap .i64 (t8 + 1) = t8') :
    ∀ (k j : Nat) (w : World) (zs : List Value), Own 5 1 w z zn zc zs → j + k = zn → (∀ w', Fr (fbl z) w w' → b0 t0p t0n t0c t1p t1n t1c t5p t5n t5c t6 t7 t8' w') →
      X27.l1 Q b0 (k + 1) t0p t0n t0c t1p t1n t1c t5p t5n t5c t6 t7 t8 true z zn zc (j : Int) w
  | 0, j, w, zs, ho, hj, hb => by
    rw [X27.l1]
    refine bc_neg (by omega) ?_
    rw [ht8]
    exact hb w (Fr.refl w)
  | k + 1, j, w, zs, ho, hj, hb => by
    rw [X27.l1]
    refine bc_pos (by omega) ⟨by omega, ?_⟩
    cases z with
    | none => have := ho.none_c; omega
    | some z =>
      have hl := ho.len
      have hj2 : j < zs.length := by omega
      rw [Int.toNat_natCast, Nat.mul_one, i64w (j + 1 : Int) (by omega) (by omega)]
      refine ⟨ho.storeOk hj2, ?_⟩
      have o2 := ho.set hj2 (.int .u8 238)
      have f2 : Fr (fbl (some z)) w (w.setCell (z.add j) (.int .u8 238)) := Fr.setCell (by simp [fbl, add_block]) _
      have := wipe_l1 (t0p := t0p) (t1p := t1p) (t5p := t5p) (t6 := t6) (t0n := t0n) (t0c := t0c) (t1n := t1n) (t1c := t1c) (t5n := t5n) (t5c := t5c) (t7 := t7) (Q := Q) b0 hn ht8 k (j + 1) _ _ o2 (by omega) (fun w' hf => hb w' (f2.tr hf))
      simpa using this
theorem pick4 {n : Int} : 0 ≤ n % 4 ∧ n % 4 < 4 := ⟨Int.emod_nonneg n (by omega), Int.emod_lt_of_pos n (by omega)⟩
theorem reads_l0 {y : Option Addr} {m d : Nat} {ks : List AskD} (hk : AsksAt W y m ks) (hm : m ≤ 140737488355328) :
    ∀ (rest : List AskD) (i : Nat) (w : World) (a : Nat) (bad : Int), ReadInv W w bs n x c op oc g q qc h a bad a bad → ks.drop i = rest → i + rest.length = m →
      X27.l0 (fun v w' => v = .bool true ∧ Fr [] W w') (rest.length + 1) x n c y m d op n oc (some (at0 g 0)) (at0 h 0) (i : Int) w
  | [], i, w, a, bad, v, hd, hl => by
    rw [List.length_nil, X27.l0]
    refine bc_neg (by simp at hl; omega) ?_
    refine cend_spec v.rd ?_
    intro w1 f1
    have v1 := v.keep' f1
    refine ⟨_, rfl, rend_spec v1.rr ?_⟩
    intro w2 f2
    have v2 := v1.keep' f2
    refine ⟨_, rfl, bc_eq (fun _ => ?_) (fun hne => absurd rfl hne)⟩
    refine ⟨_, v2.own.at_, _, v2.rr.bytes.at_, ?_⟩
    rw [strEq_self]
    exact ⟨rfl, v2.fr⟩
  | k :: rest, i, w, a, bad, v, hd, hl => by
    simp only [List.length_cons] at hl
    have hi : ks[i]? = some k := by rw [← List.head?_drop, hd]; rfl
    have hnext : ks.drop (i + 1) = rest := by rw [← List.drop_drop, hd]; rfl
    have hil : i < m := by omega
    have key : ∀ (w : World), Fr [] W w → ∃ p, y = some p ∧ AskAt w (p.add (i * 4)) k := fun w hf => (hk.keep' hf).at_ i k hi
    have e1 : IntKind.wrap .i64 ((i : Int) + 1) = ((i + 1 : Nat) : Int) := by rw [i64w _ (by omega) (by omega)]; omega
    have hlt : (0 : Int) ≤ (i : Int) ∧ (i : Int) < ((m : Nat) : Int) := ⟨by omega, by omega⟩
    rw [List.length_cons, X27.l0]
    simp only [Int.toNat_natCast, e1]
    obtain ⟨p, hp, hc⟩ := key w v.fr
    refine bc_pos (by omega) ⟨hlt, opt_some hp (ld_int hc.c0 (pick_spec (by omega) (by omega) ⟨_, rfl, ?_⟩))⟩
    have hr := @pick4 k.what
    refine bc_eq (fun h0 => ?_) (fun h0 => bc_eq (fun h1 => ?_) (fun h1 => bc_eq (fun h2 => ?_) (fun h2 => ?_)))
    · -- a byte
      unfold drewK
      have v0 := v.keep' (Fr.drew (w := w))
      obtain ⟨p, hp, hc⟩ := key _ v0.fr
      refine ⟨hlt, opt_some hp (ld_int hc.c1 (cbyte_spec v0.rd ?_))⟩
      intro w1 r1 f1
      have v1 := v0.setC r1 f1
      obtain ⟨p1, hp1, hc1⟩ := key _ v1.fr
      have hpe : p1 = p := by rw [hp] at hp1; injection hp1 with hp1; exact hp1.symm
      subst hpe
      refine ⟨_, rfl, hlt, opt_some hp1 (ld_int hc1.c1 ⟨⟨hc.c1, hc1.c1⟩, rbyte_spec v1.rr ?_⟩)⟩
      intro w2 r2 f2
      have v2 := v1.setR r2 f2
      refine ⟨_, rfl, ?_⟩
      rw [beq_self_eq_true]
      exact reads_l0 hk hm rest (i + 1) w2 _ _ v2 hnext (by omega)
    · -- a number
      unfold drewK
      have v0 := v.keep' (Fr.drew (w := w))
      obtain ⟨p, hp, hc⟩ := key _ v0.fr
      refine ⟨hlt, opt_some hp (ld_int hc.c2 (cnum_spec v0.rd ?_))⟩
      intro w1 r1 f1
      have v1 := v0.setC r1 f1
      obtain ⟨p1, hp1, hc1⟩ := key _ v1.fr
      have hpe : p1 = p := by rw [hp] at hp1; injection hp1 with hp1; exact hp1.symm
      subst hpe
      refine ⟨_, rfl, hlt, opt_some hp1 (ld_int hc1.c2 ⟨⟨hc.c2, hc1.c2⟩, rnum35_spec v1.rr ?_⟩)⟩
      intro w2 r2 f2
      have v2 := v1.setR r2 f2
      refine ⟨_, rfl, ?_⟩
      rw [beq_self_eq_true]
      exact reads_l0 hk hm rest (i + 1) w2 _ _ v2 hnext (by omega)
    · -- a text
      refine ⟨hlt, opt_some hp (ld_int hc.c3 (ctext_spec v.rd hc.tr ?_))⟩
      intro z zn zc w1 r1 o1 z1 f1
      have v1 := v.setC r1 f1
      have hbz := ByS.of_own o1 (fun b hb => by
        have : b ∈ bs := by
          have hh : ∀ b ∈ (readText bs a bad k.t).1, b ∈ bs := by
            unfold readText
            split
            · simp
            · split
              · simp
              · exact fun b hb => List.mem_of_mem_drop (List.mem_of_mem_take hb)
          exact hh b hb
        exact v.own.wf b this)
      refine ⟨_, _, _, rfl, ?_⟩
      unfold drewK
      have fd : Fr [] w1 w1.drew := Fr.drew
      have v1' := v1.keep' fd
      have hbz' := hbz.keep' fd
      obtain ⟨p1, hp1, hc1⟩ := key _ v1'.fr
      have hgl := v.rd.blk.lt
      have hhl := v.rr.blk.lt
      refine ⟨_, hbz'.at_, hlt, opt_some hp1 (ld_int hc1.c3 (rtext36_spec v1'.rr hc1.tr ?_))⟩
      intro y2 yn yc w2 r2 b2 f2
      have v2 := v1'.setR r2 f2
      have hzh : ∀ k ∈ fbl z, k ∉ [h] := fun k hk hm => by
        have := z1 k hk
        simp at hm
        omega
      have hbz2 := hbz'.keep f2 hzh
      have o2 := (o1.keep' fd).keep f2 hzh
      refine ⟨_, _, _, rfl, ⟨hbz'.at_, hbz2.at_⟩, _, b2.at_, zn + 1, ?_⟩
      rw [strEq_self]
      have hzn : zn ≤ 140737488355328 := by
        have hh := hbz.len
        have hl2 : (readText bs a bad k.t).1.length ≤ bs.length := by
          unfold readText
          split
          · simp
          · split
            · simp
            · simp; omega
        have := v.rd.len
        have := v.rd.small
        omega
      refine wipe_l1 _ hzn e1 zn 0 w2 _ o2 (by omega) ?_
      intro w3 f3
      have v3 := v2.keepS f3 (fun hm => by have := z1 g hm; omega) (fun hm => by have := z1 h hm; omega) (fun k hk hm => by have := z1 k hm; have := (v.oo k hk).2.2.2; omega) (fun k hk hm => by have := z1 k hm; have := (v.qq k hk).2.2; omega)
        (fun k hk => by have := z1 k hk; have := v.fr.size; omega)
      exact reads_l0 hk hm rest (i + 1) w3 _ _ v3 hnext (by omega)
    · -- the end
      refine cend_spec v.rd ?_
      intro w1 f1
      have v1 := v.keep' f1
      refine ⟨_, rfl, rend_spec v1.rr ?_⟩
      intro w2 f2
      have v2 := v1.keep' f2
      refine ⟨_, rfl, ?_⟩
      rw [beq_self_eq_true]
      exact reads_l0 hk hm rest (i + 1) w2 _ _ v2 hnext (by omega)
theorem reads_spec {y : Option Addr} {m d : Nat} {ks : List AskD} (hb : ByS W x n c bs) (hn : n ≤ 140737488355328) (hk : AsksAt W y m ks) (hm : m ≤ 140737488355328) : CallR Try.prog 27 #[.slice x n c, .slice y m d] W fun v w' => v = .bool true ∧ Fr [] W w' := by
  refine X27.sound _ _ _ _ _ _ _ _ ?_
  unfold X27.f newK
  refine app_new hb hn ?_
  intro op oc w1 o1 f1 e1
  have hown := ByS.of_own o1 hb.wf
  refine ⟨_, _, _, rfl, newReader_spec hown hn ?_⟩
  intro g q qc w2 r2 hg hq f2
  refine ⟨_, rfl, ?_⟩
  have fa : Fr [] w2 (w2.alloc (.cells #[.slice x n c, .int .i64 0, .int .i64 0] 65)) := Fr.alloc w2 _
  have s1 := f1.size
  have s2 := f2.size
  have hgl := r2.blk.lt
  show ∃ m11, X27.l0 _ m11 x n c y m d op n oc (some (at0 g 0)) (at0 w2.heap.size 0) 0 _
  refine ⟨_, reads_l0 hk hm ks 0 _ 0 0 ⟨f1.tr (f2.tr fa), hown.keep' (f2.tr fa), r2.keep' fa, ⟨Blk.made w2 _ _, hb.keep' (f1.tr (f2.tr fa)), fun hne k hk he => ?_, Nat.zero_le _, hn⟩, by omega, by omega, by omega, fun k hk => ?_, fun k hk => ?_, fun hne => hb.lt hne⟩ rfl (by simp [hk.len])⟩
  · have := hb.lt hne k hk
    omega
  · have h1 := e1 k hk
    have h2 := o1.lt k hk
    simp
    omega
  · have h1 := hq k hk
    simp
    omega
theorem codecReads {y : Option Addr} {m d : Nat} {ks : List AskD} (hb : ByS W x n c bs) (hn : n ≤ 140737488355328) (hk : AsksAt W y m ks) (hm : m ≤ 140737488355328) : CallR Try.prog 6 #[.slice x n c, .slice y m d] W fun v w' => v = .bool true ∧ Fr [] W w' := by
  refine X6.sound _ _ _ _ _ _ _ _ ?_
  refine known_spec ?_
  intro w1 f1
  refine ⟨_, rfl, ?_⟩
  refine (reads_spec (hb.keep' f1) hn (hk.keep' f1) hm).mono ?_
  rintro v w' ⟨rfl, f2⟩
  exact ⟨_, rfl, rfl, f1.tr f2⟩
theorem codecReads_row {H : Type} {w : World} {x : Option Addr} {n c : Nat} {zs : List Int} (h : IsRow .u8 w x n c zs) (hn : n * 1 ≤ 140737488351232) {y : Option Addr} {m d : Nat} {dd : DataW H} (h2 : Lies Try.prog w 6 45 [.slice y m d] dd) (hm : m * 32 ≤ 140737488351232) :
    CallR Try.prog 6 #[.slice x n c, .slice y m d] w fun v w' => v = .bool true ∧ Fr [] w w' := by
  obtain ⟨y', m', d', ks, e, hk⟩ := asks_of_lies h2
  simp only [List.cons.injEq, Value.slice.injEq, and_true] at e
  obtain ⟨rfl, rfl, rfl⟩ := e
  exact codecReads (ByS.of_row h) (by omega) hk (by omega)
end
end Go.Proofs.YtgeinpljchpdgaaX
