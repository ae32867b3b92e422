/- What laid lays; that what is laid is read by the same calls (CodecBack), and cut off ends too early (CodecCut). -/
import Derived.Test.YtgeinpljchpdgaaL1Reads
namespace Go.Proofs.YtgeinpljchpdgaaX
open Go.RowKit
set_option linter.unusedVariables false

structure LayD where
  what : Int
  b : Int
  n : Nat
  x : Option Addr
  m : Nat
  c : Nat
  t : List Int
structure LayAt (w : World) (p : Addr) (l : LayD) : Prop where
  c0 : w.cell? (p.add 0) = some (.int .i64 l.what)
  c1 : w.cell? (p.add 1) = some (.int .u8 l.b)
  c2 : w.cell? (p.add 2) = some (.int .u64 (l.n : Int))
  c3 : w.cell? (p.add 3) = some (.slice l.x l.m l.c)
  br : 0 ≤ l.b ∧ l.b ≤ 255
  nr : l.n ≤ 18446744073709551615
  ts : ByS w l.x l.m l.c l.t
structure LaysAt (w : World) (y : Option Addr) (m : Nat) (ls : List LayD) : Prop where
  len : ls.length = m
  at_ : ∀ i l, ls[i]? = some l → ∃ p, y = some p ∧ LayAt w (p.add (i * 4)) l
theorem LayAt.keep' {w w' : World} {p : Addr} {l : LayD} (h : LayAt w p l) (hf : Fr [] w w') : LayAt w' p l :=
  ⟨hf.cell' h.c0, hf.cell' h.c1, hf.cell' h.c2, hf.cell' h.c3, h.br, h.nr, h.ts.keep' hf⟩
theorem LaysAt.keep' {w w' : World} {y : Option Addr} {m : Nat} {ls : List LayD} (h : LaysAt w y m ls) (hf : Fr [] w w') : LaysAt w' y m ls :=
  ⟨h.len, fun i l hi => by
    obtain ⟨p, hp, ha⟩ := h.at_ i l hi
    exact ⟨p, hp, ha.keep' hf⟩⟩
def encL (l : LayD) : List Int := if l.what % 3 = 0 then [l.b] else if l.what % 3 = 1 then numB l.n else textB l.t
def encAll : List LayD → List Int
  | [] => []
  | l :: ls => encL l ++ encAll ls
def bulkL : List LayD → Nat
  | [] => 0
  | l :: ls => l.t.length + 1 + bulkL ls
theorem encL0 {l : LayD} (h : l.what % 3 = 0) : encL l = [l.b] := by unfold encL; rw [if_pos h]
theorem encL1 {l : LayD} (h : l.what % 3 = 1) : encL l = numB l.n := by unfold encL; rw [if_neg (by omega), if_pos h]
theorem encL2 {l : LayD} (h0 : l.what % 3 ≠ 0) (h1 : l.what % 3 ≠ 1) : encL l = textB l.t := by unfold encL; rw [if_neg h0, if_neg h1]
theorem encL_len {l : LayD} (hn : l.n ≤ 18446744073709551615) (ht : l.t.length ≤ 18446744073709551615) : (encL l).length ≤ 10 + l.t.length := by
  have h1 := numB_len10 hn
  have h2 := numB_len10 ht
  unfold encL textB
  split
  · simp; omega
  · split
    · omega
    · simp; omega
theorem encAll_len : ∀ {ls : List LayD}, (∀ l ∈ ls, l.n ≤ 18446744073709551615) → bulkL ls ≤ 1048576 → (encAll ls).length ≤ 10 * bulkL ls
  | [], _, _ => by simp [encAll]
  | l :: ls, h, hb => by
    simp only [bulkL] at hb
    have h1 := encL_len (h l (by simp)) (by omega)
    have h2 := encAll_len (fun l hl => h l (by simp [hl])) (show bulkL ls ≤ 1048576 by omega)
    simp only [encAll, bulkL, List.length_append]
    omega
theorem pick3 {n : Int} : 0 ≤ n % 3 ∧ n % 3 < 3 := ⟨Int.emod_nonneg n (by omega), Int.emod_lt_of_pos n (by omega)⟩
section
variable {W : World} {y : Option Addr} {m d : Nat} {ls : List LayD} {Q : Value → World → Prop}
theorem laid_l0 (hk : LaysAt W y m ls) (hm : m ≤ 140737488355328) {g : Nat} : ∀ (rest : List LayD) (i : Nat) (w : World) (done : List Int), WrL W w g done → ls.drop i = rest → i + rest.length = m → done.length + 10 * bulkL rest + 20 ≤ 140737488355328 → bulkL rest ≤ 1048576 →
    (∀ q c w', Own 5 1 w' q (done ++ encAll rest).length c (u8s (done ++ encAll rest)) → WrL W w' g (done ++ encAll rest) → (∀ k ∈ fbl q, W.heap.size ≤ k) → Q (.slice q (done ++ encAll rest).length c) w') →
    X28.l0 Q (rest.length + 1) y m d (some (at0 g 0)) (i : Int) w
  | [], i, w, done, v, hd, hl, hB, hB2, hQ => by
    rw [List.length_nil, X28.l0]
    refine bc_neg (by simp at hl; omega) ?_
    simp only [encAll, List.append_nil] at hQ
    have hsz := v.fr.size
    refine wbytesL v (by omega) ?_
    intro q c w' o v' e
    exact ⟨_, _, _, rfl, hQ q c w' o v' (fun k hk => by have := e k hk; omega)⟩
  | l :: rest, i, w, done, v, hd, hl, hB, hB2, hQ => by
    simp only [List.length_cons] at hl
    simp only [bulkL] at hB hB2
    have hi : ls[i]? = some l := by rw [← List.head?_drop, hd]; rfl
    have hnext : ls.drop (i + 1) = rest := by rw [← List.drop_drop, hd]; rfl
    have e1 : IntKind.wrap .i64 ((i : Int) + 1) = ((i + 1 : Nat) : Int) := by rw [i64w _ (by omega) (by omega)]; omega
    have hlt : (0 : Int) ≤ (i : Int) ∧ (i : Int) < ((m : Nat) : Int) := ⟨by omega, by omega⟩
    rw [List.length_cons, X28.l0]
    simp only [Int.toNat_natCast, e1]
    obtain ⟨p, hp, hW⟩ := hk.at_ i l hi
    have hc := hW.keep' v.fr
    have hlen := encL_len hc.nr (show l.t.length ≤ 18446744073709551615 by omega)
    have go : ∀ w', WrL W w' g (done ++ encL l) → X28.l0 Q (rest.length + 1) y m d (some (at0 g 0)) ((i + 1 : Nat) : Int) w' := by
      intro w' v'
      refine laid_l0 hk hm rest (i + 1) w' _ v' hnext (by omega) (by simp; omega) (by omega) ?_
      intro q c w2 h1 h2 h3
      rw [List.append_assoc] at h1 h2 ⊢
      exact hQ q c w2 h1 h2 h3
    refine bc_pos (by omega) ⟨hlt, opt_some hp (ld_int hc.c0 (pick_spec (by omega) (by omega) ⟨_, rfl, ?_⟩))⟩
    refine bc_eq (fun h0 => ?_) (fun h0 => bc_eq (fun h1 => ?_) (fun h1 => ?_))
    · rw [encL0 h0] at go
      exact ⟨hlt, opt_some hp (ld_int hc.c1 (wbyteL v hc.br (by omega) fun w' v' => ⟨rfl, go w' v'⟩))⟩
    · rw [encL1 h1] at go
      exact ⟨hlt, opt_some hp (ld_int hc.c2 (wnumL v hc.nr (by omega) fun w' v' => ⟨rfl, go w' v'⟩))⟩
    · rw [encL2 h0 h1] at go
      have hlm := hW.ts.len
      exact ⟨hlt, opt_some hp (ld_sl hc.c3 (wtextL v hW.ts (by omega) fun w' v' => ⟨rfl, go w' v'⟩))⟩
theorem laid_spec (hk : LaysAt W y m ls) (hm : m ≤ 140737488355328) (hB : bulkL ls ≤ 1048576) (hQ : ∀ q c w', Own 5 1 w' q (encAll ls).length c (u8s (encAll ls)) → Fr [] W w' → (∀ k ∈ fbl q, W.heap.size ≤ k) → (∀ b ∈ encAll ls, 0 ≤ b ∧ b ≤ 255) → Q (.slice q (encAll ls).length c) w') :
    CallR Try.prog 28 #[.slice y m d] W Q := by
  refine X28.sound _ _ _ _ _ ?_
  unfold X28.f
  refine newWriterL (Fr.refl W) ?_
  intro w1 g v _
  refine ⟨_, rfl, ?_⟩
  show ∃ m4, X28.l0 Q m4 y m d (some (at0 g 0)) 0 w1
  exact ⟨_, laid_l0 hk hm ls 0 w1 [] v rfl (by simp [hk.len]) (by simp; omega) hB fun q c w' h1 h2 h3 => hQ q c w' h1 h2.fr h3 h2.wf⟩
end

/-! ### Read again -/
theorem numR_numB : ∀ (n i acc : Nat) (rest : List Int), n * 128 ^ i < 18446744073709551616 → (i > 0 → n > 0) → numR i acc (numB n ++ rest) = (acc + n * 128 ^ i, 0, i + (numB n).length) := by
  intro n
  induction n using Nat.strongRecOn with
  | _ n ih =>
    intro i acc rest hn hi
    have h9 : i = 9 → n ≤ 1 := by
      intro h
      subst h
      simp only [show (128 : Nat) ^ 9 = 9223372036854775808 from rfl] at hn
      omega
    by_cases h : n < 128
    · rw [numB_small h, List.singleton_append, numR_end (by omega) (by omega) (by omega)]
      have : ((n : Int) % 128).toNat = n := by omega
      rw [this]
      simp
    · rw [numB_big h, List.cons_append, numR_more (by omega) (by omega)]
      have e : (((n % 128 + 128 : Nat) : Int) % 128).toNat = n % 128 := by omega
      have e2 : n / 128 * 128 ^ (i + 1) = (n / 128 * 128) * 128 ^ i := by rw [Nat.pow_succ, Nat.mul_assoc, Nat.mul_comm 128 (128 ^ i)]
      have e3 : n % 128 * 128 ^ i + (n / 128 * 128) * 128 ^ i = n * 128 ^ i := by rw [← Nat.add_mul]; congr 1; omega
      rw [e, ih (n / 128) (by omega) (i + 1) _ rest (by omega) (by omega)]
      simp only [List.length_cons, Prod.mk.injEq, true_and]
      omega
theorem numR_cut : ∀ (n i acc j : Nat), n * 128 ^ i < 18446744073709551616 → j < (numB n).length → numR i acc ((numB n).take j) = (0, 20, 0) := by
  intro n
  induction n using Nat.strongRecOn with
  | _ n ih =>
    intro i acc j hn hj
    have h9 : i = 9 → n ≤ 1 := by
      intro h
      subst h
      simp only [show (128 : Nat) ^ 9 = 9223372036854775808 from rfl] at hn
      omega
    cases j with
    | zero => simp [numR]
    | succ j =>
      by_cases h : n < 128
      · rw [numB_small h] at hj
        simp at hj
      · rw [numB_big h] at hj ⊢
        simp only [List.length_cons] at hj
        rw [List.take_succ_cons, numR_more (by omega) (by omega)]
        have e2 : n / 128 * 128 ^ (i + 1) = (n / 128 * 128) * 128 ^ i := by rw [Nat.pow_succ, Nat.mul_assoc, Nat.mul_comm 128 (128 ^ i)]
        have e3 : n % 128 * 128 ^ i + (n / 128 * 128) * 128 ^ i = n * 128 ^ i := by rw [← Nat.add_mul]; congr 1; omega
        exact ih (n / 128) (by omega) (i + 1) _ j (by omega) (by omega)
theorem readNum_enc {bs rest : List Int} {a n : Nat} {most : Int} (hn : n ≤ 18446744073709551615) (hd : bs.drop a = numB n ++ rest) (hm : (n : Int) ≤ most) : readNum bs a 0 most = ((n : Int), a + (numB n).length, 0) := by
  have h := numR_numB n 0 0 rest (by omega) (by omega)
  simp only [Nat.pow_zero, Nat.mul_one, Nat.zero_add] at h
  rw [← hd] at h
  rw [readNum_ok (by rw [h]) (by rw [h]; simp; omega), h]
theorem readText_enc {bs rest t : List Int} {a : Nat} {most : Int} (hn : t.length ≤ 18446744073709551615) (hd : bs.drop a = textB t ++ rest) (hm : (t.length : Int) ≤ most) : readText bs a 0 most = (t, a + (textB t).length, 0) := by
  unfold textB at hd
  rw [List.append_assoc] at hd
  have hr := readNum_enc (most := max 0 most) hn hd (by omega)
  have hd2 : bs.drop (a + (numB t.length).length) = t ++ rest := by rw [← List.drop_drop, hd, List.drop_left]
  have hl : t.length ≤ bs.length - (a + (numB t.length).length) := by
    have := congrArg List.length hd2
    simp at this
    omega
  rw [readText_ok (by rw [hr]) (by rw [hr]; simp; omega), hr]
  simp only [Int.toNat_natCast, hd2, List.take_left, textB, List.length_append, Prod.mk.injEq, and_true, true_and]
  omega
theorem readByte_enc {bs rest : List Int} {a : Nat} {b most : Int} (hd : bs.drop a = b :: rest) (hm : b ≤ most) : readByte bs a 0 most = (b, a + 1, 0) := by
  have hi : bs[a]? = some b := by rw [← List.head?_drop, hd]; rfl
  exact readByte_ok hi (by omega)
section
variable {W : World} {y : Option Addr} {m d : Nat} {ls : List LayD} {g : Nat} {q : Option Addr} {n c : Nat} {bs : List Int}
structure BackInv (W w : World) (bs : List Int) (g : Nat) (q : Option Addr) (n c : Nat) (a : Nat) (bad : Int) : Prop where
  fr : Fr [] W w
  rd : Rd 67 w g q n c bs a bad
  bg : W.heap.size ≤ g
theorem BackInv.keep' {w w1 : World} {a : Nat} {bad : Int} (v : BackInv W w bs g q n c a bad) (hf : Fr [] w w1) : BackInv W w1 bs g q n c a bad := ⟨v.fr.tr hf, v.rd.keep' hf, v.bg⟩
theorem BackInv.set {w w1 : World} {a a' : Nat} {bad bad' : Int} (v : BackInv W w bs g q n c a bad) (hr : Rd 67 w1 g q n c bs a' bad') (hf : Fr [g] w w1) : BackInv W w1 bs g q n c a' bad' :=
  ⟨v.fr.trans hf (fun k hk => .inr (by have := v.bg; simp at hk; omega)), hr, v.bg⟩
theorem back_l0 (hk : LaysAt W y m ls) (hm : m ≤ 140737488355328) (hB : bulkL ls ≤ 1048576) : ∀ (rest : List LayD) (i : Nat) (w : World) (a : Nat), BackInv W w bs g q n c a 0 → bs.drop a = encAll rest → ls.drop i = rest → i + rest.length = m → bulkL rest ≤ 1048576 →
    X8.l0 (fun v w' => v = .bool true ∧ Fr [] W w') (rest.length + 1) y m d (some (at0 g 0)) (i : Int) w
  | [], i, w, a, v, hb, hd, hl, hB2 => by
    rw [List.length_nil, X8.l0]
    refine bc_neg (by simp at hl; omega) ?_
    refine cend_spec v.rd ?_
    intro w1 f1
    have he : readEnd bs a 0 = 0 := by
      unfold readEnd
      rw [if_neg]
      intro h
      have := congrArg List.length hb
      simp [encAll] at this
      omega
    rw [he]
    exact ⟨_, rfl, rfl, v.fr.tr f1⟩
  | l :: rest, i, w, a, v, hb, hd, hl, hB2 => by
    simp only [List.length_cons] at hl
    simp only [bulkL] at hB2
    simp only [encAll] at hb
    have hi : ls[i]? = some l := by rw [← List.head?_drop, hd]; rfl
    have hnext : ls.drop (i + 1) = rest := by rw [← List.drop_drop, hd]; rfl
    have e1 : IntKind.wrap .i64 ((i : Int) + 1) = ((i + 1 : Nat) : Int) := by rw [i64w _ (by omega) (by omega)]; omega
    have hlt : (0 : Int) ≤ (i : Int) ∧ (i : Int) < ((m : Nat) : Int) := ⟨by omega, by omega⟩
    have hb2 : bs.drop (a + (encL l).length) = encAll rest := by rw [← List.drop_drop, hb, List.drop_left]
    rw [List.length_cons, X8.l0]
    simp only [Int.toNat_natCast, e1]
    obtain ⟨p, hp, hW⟩ := hk.at_ i l hi
    have hc := hW.keep' v.fr
    refine bc_pos (by omega) ⟨hlt, opt_some hp (ld_int hc.c0 (pick_spec (by omega) (by omega) ⟨_, rfl, ?_⟩))⟩
    unfold drewK
    have v0 := v.keep' (Fr.drew (w := w))
    have hc0 := hW.keep' v0.fr
    refine bc_eq (fun h0 => ?_) (fun h0 => bc_eq (fun h1 => ?_) (fun h1 => ?_))
    · rw [encL0 h0] at hb hb2
      have hr := readByte_enc hb (Int.le_refl l.b)
      refine ⟨hlt, opt_some hp (ld_int hc0.c1 (cbyte_spec v0.rd ?_))⟩
      rw [hr]
      intro w1 r1 f1
      have v1 := v0.set r1 f1
      have hc1 := hW.keep' v1.fr
      refine ⟨_, rfl, hlt, opt_some hp (ld_int hc1.c1 ⟨⟨hc0.c1, hc1.c1⟩, bc_ne (fun hne => absurd rfl hne) (fun _ => ?_)⟩)⟩
      exact back_l0 hk hm hB rest (i + 1) w1 _ v1 hb2 hnext (by omega) (by omega)
    · rw [encL1 h1] at hb hb2
      have hr := readNum_enc hW.nr hb (Int.le_refl (l.n : Int))
      refine ⟨hlt, opt_some hp (ld_int hc0.c2 (cnum_spec v0.rd ?_))⟩
      rw [hr]
      intro w1 r1 f1
      have v1 := v0.set r1 f1
      have hc1 := hW.keep' v1.fr
      refine ⟨_, rfl, hlt, opt_some hp (ld_int hc1.c2 ⟨⟨hc0.c2, hc1.c2⟩, bc_ne (fun hne => absurd rfl hne) (fun _ => ?_)⟩)⟩
      exact back_l0 hk hm hB rest (i + 1) w1 _ v1 hb2 hnext (by omega) (by omega)
    · rw [encL2 h0 h1] at hb hb2
      have hlm := hW.ts.len
      have hr := readText_enc (most := ((l.m : Nat) : Int)) (by omega) hb (by omega)
      refine ⟨hlt, opt_some hp (ld_sl hc0.c3 (ctext_spec v0.rd (by omega) ?_))⟩
      rw [hr]
      intro z zn zc w1 r1 o1 z1 f1
      have v1 := v0.set r1 f1
      have hc1 := hW.keep' v1.fr
      have hbz := ByS.of_own o1 hW.ts.wf
      refine ⟨_, _, _, rfl, _, hbz.at_, hlt, opt_some hp (ld_sl hc1.c3 ⟨⟨hc0.c3, hc1.c3⟩, _, hc1.ts.at_, ⟨hc0.ts.at_, hc1.ts.at_⟩, ?_⟩)⟩
      rw [strEq_self]
      exact back_l0 hk hm hB rest (i + 1) w1 _ v1 hb2 hnext (by omega) (by omega)
theorem codecBack (hk : LaysAt W y m ls) (hm : m ≤ 140737488355328) (hB : bulkL ls ≤ 1048576) : CallR Try.prog 8 #[.slice y m d] W fun v w' => v = .bool true ∧ Fr [] W w' := by
  refine X8.sound _ _ _ _ _ ?_
  unfold X8.f
  refine laid_spec hk hm hB ?_
  intro p pc w1 o1 f1 e1 hwf
  have hb := ByS.of_own o1 hwf
  have hnr : ∀ l ∈ ls, l.n ≤ 18446744073709551615 := fun l hl => by
    obtain ⟨i, hi⟩ := List.getElem?_of_mem hl
    obtain ⟨_, _, h⟩ := hk.at_ i l hi
    exact h.nr
  have hlen := encAll_len hnr hB
  refine ⟨_, _, _, rfl, newReader_spec hb (by omega) ?_⟩
  intro g q qc w2 r2 hg hq f2
  refine ⟨_, rfl, known_spec ?_⟩
  intro w3 f3
  refine ⟨_, rfl, ?_⟩
  have s1 := f1.size
  show X8.j1 _ y m d (some (at0 g 0)) w3
  exact ⟨_, back_l0 hk hm hB ls 0 w3 0 ⟨f1.tr (f2.tr f3), r2.keep' f3, by omega⟩ rfl rfl (by simp [hk.len]) hB⟩
end
end Go.Proofs.YtgeinpljchpdgaaX
