/- CodecWrites: what is laid by any calls is laid as the document says. -/
import Derived.Test.YtgeinpljchpdgaaL1Args
namespace Go.Proofs.YtgeinpljchpdgaaX
open Go.RowKit Go.Proofs.Ytgeinpljchpdgaa
set_option linter.unusedVariables false

/-- what holds ahead of each call: the writer and the document's row hold the same -/
structure WrInv (W w : World) (g : Nat) (p : Option Addr) (wp : Option Addr) (wc : Nat) (acc : List Int) : Prop where
  fr : Fr [] W w
  wr : Wr w g p acc
  new : ∀ k ∈ wrF g p, W.heap.size ≤ k
  own : Own 5 1 w wp acc.length wc (u8s acc)
  wnew : ∀ k ∈ fbl wp, W.heap.size ≤ k
  dis : ∀ k ∈ fbl wp, k ∉ wrF g p
section
variable {W w w1 : World} {g : Nat} {p wp : Option Addr} {wc : Nat} {acc : List Int} {S : List Nat}
theorem WrInv.keep' (v : WrInv W w g p wp wc acc) (hf : Fr [] w w1) : WrInv W w1 g p wp wc acc := ⟨v.fr.tr hf, v.wr.keep' hf, v.new, v.own.keep' hf, v.wnew, v.dis⟩
/-- what is written elsewhere -/
theorem WrInv.keepS (v : WrInv W w g p wp wc acc) (hf : Fr S w w1) (h1 : ∀ k ∈ wrF g p, k ∉ S) (h2 : ∀ k ∈ fbl wp, k ∉ S) (hS : ∀ k ∈ S, W.heap.size ≤ k) : WrInv W w1 g p wp wc acc :=
  ⟨v.fr.trans hf (fun k hk => .inr (hS k hk)), v.wr.keep hf h1, v.new, v.own.keep hf h2, v.wnew, v.dis⟩
/-- Between the writer's call and the document's: the writer is ahead by us. -/
structure WrMid (W w : World) (g : Nat) (p : Option Addr) (wp : Option Addr) (wc : Nat) (acc us : List Int) : Prop where
  fr : Fr [] W w
  wr : Wr w g p (acc ++ us)
  new : ∀ k ∈ wrF g p, W.heap.size ≤ k
  own : Own 5 1 w wp acc.length wc (u8s acc)
  wnew : ∀ k ∈ fbl wp, W.heap.size ≤ k
  dis : ∀ k ∈ fbl wp, k ∉ wrF g p
theorem WrMid.keep' {us : List Int} (v : WrMid W w g p wp wc acc us) (hf : Fr [] w w1) : WrMid W w1 g p wp wc acc us := ⟨v.fr.tr hf, v.wr.keep' hf, v.new, v.own.keep' hf, v.wnew, v.dis⟩
theorem WrInv.wrote {p' : Option Addr} {us : List Int} (v : WrInv W w g p wp wc acc) (h : Wr w1 g p' (acc ++ us)) (hf : Fr (wrF g p) w w1) (he : ∀ k ∈ wrF g p', k ∈ wrF g p ∨ w.heap.size ≤ k) : WrMid W w1 g p' wp wc acc us := by
  have hsz := v.fr.size
  refine ⟨fr_local v.fr hf v.new, h, fun k hk => ?_, v.own.keep hf v.dis, v.wnew, fun k hk hm => ?_⟩
  · rcases he k hk with hh | hh
    · exact v.new k hh
    · omega
  · rcases he k hm with hh | hh
    · exact v.dis k hk hh
    · have := v.own.lt k hk; omega
/-- the document's row is put behind -/
theorem WrMid.app {us : List Int} {x : Option Addr} {m mc : Nat} {ty : TypeId} {K : Option Addr → Nat → Nat → World → Prop} (v : WrMid W w g p wp wc acc us) (hs : ByS w x m mc us) (hl : acc.length + m ≤ 140737488355328)
    (hK : ∀ q d w', WrInv W w' g p q d (acc ++ us) → Fr (fbl wp) w w' → (∀ k ∈ fbl q, k ∈ fbl wp ∨ w.heap.size ≤ k) → K q (acc ++ us).length d w') :
    RunR Try.prog (Builtin.append_ #[23, 23] ty #[.slice wp acc.length wc, .slice x m mc]) w fun v14 w15 => ∃ (s16p : Option Addr) (s16n s16c : Nat), v14 = .slice s16p s16n s16c ∧ K s16p s16n s16c w15 := by
  refine app_bytes v.own hs hl ?_
  intro q d w' o f e
  have hlen : acc.length + m = (acc ++ us).length := by rw [List.length_append, hs.len]
  have hsz := v.fr.size
  rw [hlen] at o ⊢
  refine ⟨_, _, _, rfl, hK q d w' ⟨fr_local v.fr f v.wnew, v.wr.keep f (fun k hk hm => v.dis k hm hk), v.new, o, fun k hk => ?_, fun k hk hm => ?_⟩ f e⟩
  · rcases e k hk with hh | hh
    · exact v.wnew k hh
    · omega
  · rcases e k hk with hh | hh
    · exact v.dis k hh hm
    · have := v.wr.lt k hm; omega
/-- own bytes are written over -/
theorem wipe3_l1 {Q : Value → World → Prop} (b0 : Option Addr → Nat → Nat → Option Addr → Nat → Nat → Option Addr → Int → World → Prop) {t0p t3p t4 : Option Addr} {t0n t0c t3n t3c : Nat} {t5 t5' : Int} {z : Option Addr} {zn zc : Nat} (hn : zn ≤ 140737488355328) (ht : IntKind.wrap .i64 (t5 + 1) = t5') :
    ∀ (k j : Nat) (w : World) (zs : List Value), Own 5 1 w z zn zc zs → j + k = zn → (∀ w', Fr (fbl z) w w' → b0 t0p t0n t0c t3p t3n t3c t4 t5' w') → X3.l1 Q b0 (k + 1) t0p t0n t0c t3p t3n t3c t4 t5 z zn zc (j : Int) w
  | 0, j, w, zs, ho, hj, hb => by
    rw [X3.l1]
    refine bc_neg (by omega) ?_
    rw [ht]
    exact hb w (Fr.refl w)
  | k + 1, j, w, zs, ho, hj, hb => by
    rw [X3.l1]
    refine bc_pos (by omega) ⟨by omega, ?_⟩
    cases z with
    | none => have := ho.none_c; omega
    | some z =>
      have hl := ho.len
      have hj2 : j < zs.length := by omega
      rw [Int.toNat_natCast, Nat.mul_one, i64w (j + 1 : Int) (by omega) (by omega)]
      refine ⟨ho.storeOk hj2, ?_⟩
      have o2 := ho.set hj2 (.int .u8 238)
      have f2 : Fr (fbl (some z)) w (w.setCell (z.add j) (.int .u8 238)) := Fr.setCell (by simp [fbl, add_block]) _
      have := wipe3_l1 (t0p := t0p) (t3p := t3p) (t4 := t4) (t0n := t0n) (t0c := t0c) (t3n := t3n) (t3c := t3c) (Q := Q) b0 hn ht k (j + 1) _ _ o2 (by omega) (fun w' hf => hb w' (f2.tr hf))
      simpa using this
/-- what came out is written over; then it is asked for again -/
theorem wipe3_l2 {z : Option Addr} {zn zc : Nat} (hn : zn ≤ 140737488355328) (hacc : acc.length ≤ 140737488355328) : ∀ (k j : Nat) (w : World) (zs : List Value), WrInv W w g p wp wc acc → Own 5 1 w z zn zc zs → (∀ k ∈ fbl z, k ∉ wrF g p ∧ k ∉ fbl wp ∧ W.heap.size ≤ k) → j + k = zn →
      X3.l2 (fun v w' => v = .bool true ∧ Fr [] W w') (k + 1) wp acc.length wc (some (at0 g 0)) z zn zc true (j : Int) w
  | 0, j, w, zs, v, ho, hz, hj => by
    rw [X3.l2]
    refine bc_neg (by omega) ?_
    unfold drewK
    have v0 := v.keep' (Fr.drew (w := w))
    show CallR _ _ _ _ _
    refine wbytes_spec v0.wr hacc ?_
    intro q c w1 o1 f1 e1
    have v1 := v0.keep' f1
    have b0 := ByS.of_own v0.own v.wr.wf
    have b1 := ByS.of_own v1.own v.wr.wf
    have bo := ByS.of_own o1 v.wr.wf
    refine ⟨_, _, _, rfl, _, bo.at_, _, b1.at_, ⟨b0.at_, b1.at_⟩, ?_⟩
    rw [strEq_self]
    exact ⟨rfl, v1.fr⟩
  | k + 1, j, w, zs, v, ho, hz, hj => by
    rw [X3.l2]
    refine bc_pos (by omega) ⟨by omega, ?_⟩
    cases z with
    | none => have := ho.none_c; omega
    | some z =>
      have hl := ho.len
      have hj2 : j < zs.length := by omega
      rw [Int.toNat_natCast, Nat.mul_one, i64w (j + 1 : Int) (by omega) (by omega)]
      refine ⟨ho.storeOk hj2, ?_⟩
      have o2 := ho.set hj2 (.int .u8 238)
      have f2 : Fr (fbl (some z)) w (w.setCell (z.add j) (.int .u8 238)) := Fr.setCell (by simp [fbl, add_block]) _
      have v2 := v.keepS f2 (fun k hk hm => (hz k hm).1 hk) (fun k hk hm => (hz k hm).2.1 hk) (fun k hk => (hz k hk).2.2)
      have := wipe3_l2 hn hacc k (j + 1) _ _ v2 o2 hz (by omega)
      simpa using this
theorem writes_l0 {y : Option Addr} {m d : Nat} {ls : List LayD} (hk : LaysAt W y m ls) (hm : m ≤ 140737488355328) :
    ∀ (rest : List LayD) (i : Nat) (w : World) (p wp : Option Addr) (wc : Nat) (acc : List Int), WrInv W w g p wp wc acc → ls.drop i = rest → i + rest.length = m → acc.length + 10 * bulkL rest + 20 ≤ 140737488355328 → bulkL rest ≤ 1048576 →
      X3.l0 (fun v w' => v = .bool true ∧ Fr [] W w') (rest.length + 1) y m d wp acc.length wc (some (at0 g 0)) (i : Int) w
  | [], i, w, p, wp, wc, acc, v, hd, hl, hB, hB2 => by
    rw [List.length_nil, X3.l0]
    refine bc_neg (by simp at hl; omega) ?_
    refine wbytes_spec v.wr (by omega) ?_
    intro q c w1 o1 f1 e1
    have v1 := v.keep' f1
    have b1 := ByS.of_own v1.own v.wr.wf
    have bo := ByS.of_own o1 v.wr.wf
    refine ⟨_, _, _, rfl, _, bo.at_, _, b1.at_, acc.length + 1, ?_⟩
    rw [strEq_self]
    have hsz := v.fr.size
    refine wipe3_l2 (by omega) (by omega) acc.length 0 w1 _ v1 o1 (fun k hk => ⟨fun hm => ?_, fun hm => ?_, ?_⟩) (by omega)
    · have := e1 k hk; have := v.wr.lt k hm; omega
    · have := e1 k hk; have := v.own.lt k hm; omega
    · have := e1 k hk; omega
  | l :: rest, i, w, p, wp, wc, acc, v, hd, hl, hB, hB2 => by
    simp only [List.length_cons] at hl
    simp only [bulkL] at hB hB2
    have hi : ls[i]? = some l := by rw [← List.head?_drop, hd]; rfl
    have hnext : ls.drop (i + 1) = rest := by rw [← List.drop_drop, hd]; rfl
    have e1 : IntKind.wrap .i64 ((i : Int) + 1) = ((i + 1 : Nat) : Int) := by rw [i64w _ (by omega) (by omega)]; omega
    have hlt : (0 : Int) ≤ (i : Int) ∧ (i : Int) < ((m : Nat) : Int) := ⟨by omega, by omega⟩
    rw [List.length_cons, X3.l0]
    simp only [Int.toNat_natCast, e1]
    obtain ⟨q, hq, hW⟩ := hk.at_ i l hi
    have hc := hW.keep' v.fr
    have hlm := hW.ts.len
    refine bc_pos (by omega) ⟨hlt, opt_some hq (ld_int hc.c0 (pick_spec (by omega) (by omega) ⟨_, rfl, ?_⟩))⟩
    refine bc_eq (fun h0 => ?_) (fun h0 => bc_eq (fun h1 => ?_) (fun h1 => ?_))
    · -- a byte
      refine ⟨hlt, opt_some hq (ld_int hc.c1 (wbyte_spec v.wr hc.br (by omega) ?_))⟩
      intro p1 w1 k1 k2 k3
      have u1 := v.wrote k1 k2 k3
      have hc1 := hW.keep' u1.fr
      refine ⟨rfl, hlt, opt_some hq (ld_int hc1.c1 ?_)⟩
      unfold newK
      have u2 := u1.keep' (Fr.alloc w1 (.cells #[.int .u8 l.b] 5))
      refine u2.app (one_byte w1 l.b hc.br) (by omega) ?_
      intro z zc w2 v2 _ _
      exact writes_l0 hk hm rest (i + 1) w2 p1 z zc _ v2 hnext (by omega) (by simp; omega) (by omega)
    · -- a number
      have hnl := numB_len10 hc.nr
      refine ⟨hlt, opt_some hq (ld_int hc.c2 (wnum_spec v.wr hc.nr (by omega) ?_))⟩
      intro p1 w1 k1 k2 k3
      have u1 := v.wrote k1 k2 k3
      have hc1 := hW.keep' u1.fr
      refine ⟨rfl, hlt, opt_some hq (ld_int hc1.c2 (rnum_spec hc.nr ?_))⟩
      intro r rc w2 o2 f2 e2
      have u2 := u1.keep' f2
      refine ⟨_, _, _, rfl, u2.app (ByS.of_own o2 (numB_wf _)) (by omega) ?_⟩
      intro z zc w3 v3 _ _
      exact writes_l0 hk hm rest (i + 1) w3 p1 z zc _ v3 hnext (by omega) (by simp; omega) (by omega)
    · -- a text
      unfold newK
      have f0 : Fr [] w (w.alloc (.cells #[] 5)) := Fr.alloc w _
      have hc0 := hc.keep' f0
      refine ⟨hlt, opt_some hq (ld_sl hc0.c3 (app_new hc.ts (by omega) ?_))⟩
      intro r rc w1 o1 f1 x1
      have v1 := v.keep' f1
      have hr := ByS.of_own o1 hW.ts.wf
      have hsz := v.fr.size
      refine ⟨_, _, _, rfl, wtext_spec v1.wr hr (fun _ k hk hm => ?_) (by omega) ?_⟩
      · have := x1 k hk; have := v.wr.lt k hm; omega
      intro p2 w2 k1 k2 k3
      have u2 := v1.wrote k1 k2 k3
      have hrd : ∀ k ∈ fbl r, k ∉ wrF g p := fun k hk hm => by have := x1 k hk; have := v.wr.lt k hm; omega
      have o2 := o1.keep k2 hrd
      have hr2 := ByS.of_own o2 hW.ts.wf
      have hc2 := hW.keep' u2.fr
      refine ⟨rfl, hlt, opt_some hq (ld_sl hc2.c3 (rtext_spec hc2.ts (by omega) ?_))⟩
      intro s sc w3 o3 f3 x3
      have u3 := u2.keep' f3
      have htl : (textB l.t).length ≤ 10 + l.t.length := by have := numB_len10 (n := l.t.length) (by omega); simp [textB]; omega
      refine ⟨_, _, _, rfl, u3.app (ByS.of_own o3 (textB_wf hW.ts.wf)) (by omega) ?_⟩
      intro z zc w4 v4 f4 x4
      have hrw : ∀ k ∈ fbl r, k ∉ fbl wp := fun k hk hm => by have := x1 k hk; have := v.own.lt k hm; omega
      have o4 := (o2.keep' f3).keep f4 hrw
      unfold drewK
      have v5 := v4.keep' (Fr.drew (w := w4))
      have o5 := o4.keep' (Fr.drew (w := w4))
      have hr5 := ByS.of_own o5 hW.ts.wf
      have hc5 := hW.keep' v5.fr
      refine ⟨_, hr5.at_, hlt, opt_some hq (ld_sl hc5.c3 ⟨_, hc5.ts.at_, ?_⟩)⟩
      rw [strEq_self]
      show ∃ m51, X3.l1 _ _ m51 _ _ _ _ _ _ _ _ _ _ _ _ _
      refine ⟨l.m + 1, wipe3_l1 _ (by omega) e1 l.m 0 _ _ o5 (by omega) ?_⟩
      intro w6 f6
      have hrz : ∀ k ∈ fbl r, k ∉ fbl z := fun k hk hm => by
        rcases x4 k hm with hh | hh
        · exact hrw k hk hh
        · have := (o2.keep' f3).lt k hk; omega
      have hrp : ∀ k ∈ fbl r, k ∉ wrF g p2 := fun k hk hm => by
        rcases k3 k hm with hh | hh
        · exact hrd k hk hh
        · have := o1.lt k hk; omega
      have v6 := v5.keepS f6 (fun k hk hm => hrp k hm hk) (fun k hk hm => hrz k hm hk) (fun k hk => by have := x1 k hk; omega)
      exact writes_l0 hk hm rest (i + 1) w6 p2 z zc _ v6 hnext (by omega) (by simp; omega) (by omega)
theorem codecWrites {y : Option Addr} {m d : Nat} {ls : List LayD} (hk : LaysAt W y m ls) (hm : m ≤ 140737488355328) (hB : bulkL ls ≤ 1048576) : CallR Try.prog 3 #[.slice y m d] W fun v w' => v = .bool true ∧ Fr [] W w' := by
  refine X3.sound _ _ _ _ _ ?_
  unfold X3.f
  refine newWriter_spec ?_
  intro w1 k1 f1
  refine ⟨_, rfl, known_spec ?_⟩
  intro w2 f2
  refine ⟨_, rfl, ?_⟩
  show X3.j3 _ y m d none 0 0 (some (at0 W.heap.size 0)) w2
  exact ⟨_, writes_l0 hk hm ls 0 w2 none none 0 [] ⟨f1.tr f2, k1.keep' f2, by simp [wrF, fbl], Own.nil, by simp [fbl], by simp [fbl]⟩ rfl (by simp [hk.len]) (by simp; omega) hB⟩
theorem codecWrites_row {H : Type} {w : World} {y : Option Addr} {m d : Nat} {dd : DataW H} (h2 : Lies Try.prog w 6 22 [.slice y m d] dd) (hm : m * 48 ≤ 140737488351232) (hB : Rows.uptoBulkAll ([dd] ++ []) ≤ 1048576) :
    CallR Try.prog 3 #[.slice y m d] w fun v w' => v = .bool true ∧ Fr [] w w' := by
  obtain ⟨y', m', d', ls, e, hk, hb⟩ := lays_of_lies h2
  simp only [List.cons.injEq, Value.slice.injEq, and_true] at e
  obtain ⟨rfl, rfl, rfl⟩ := e
  simp only [List.append_nil, Rows.uptoBulkAll] at hB
  exact codecWrites hk (by omega) (by omega)
end
end Go.Proofs.YtgeinpljchpdgaaX
