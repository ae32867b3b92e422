/- WireOwn: what is decoded is new memory. -/
import Derived.Test.YtcmkjnoaefkkhaaL2Back
namespace Go.Proofs.YtcmkjnoaefkkhaaX
open Go.RowKit
set_option linter.unusedVariables false
set_option linter.unusedSimpArgs false
set_option maxRecDepth 100000
section
variable {W w w0 : World} {m : Msg} {B G X : Nat} {qp mp qp' mp' : Option Addr} {qc mc qc' mc' : Nat} {rp lp bp : Option Addr} {nr rc nl lc nb bc : Nat}
/-- three rows that are written, the rest stays -/
structure Ow (w0 w : World) (rp : Option Addr) (nr rc : Nat) (lp : Option Addr) (nl lc : Nat) (bp : Option Addr) (nb bc : Nat) : Prop where
  fr : Fr (fbl rp ++ fbl lp ++ fbl bp) w0 w
  r : ∃ us, Own 24 2 w rp nr rc us
  l : ∃ us, Own 22 1 w lp nl lc us
  b : ∃ us, Own 5 1 w bp nb bc us
structure OwF (W w0 : World) (m : Msg) (B G X : Nat) (qp : Option Addr) (qc : Nat) (mp : Option Addr) (mc : Nat) (qp' : Option Addr) (qc' : Nat) (mp' : Option Addr) (mc' : Nat) (rp : Option Addr) (nr rc : Nat) (lp : Option Addr) (nl lc : Nat) (bp : Option Addr) (nb bc : Nat) (xs : List Value) : Prop where
  hB : Blk w0 B (m.cells qp qc mp mc) 28
  hm : MM W m qp qc mp mc
  hG : Blk w0 G (m.cells qp' qc' mp' mc') 28
  hy : MM w0 m qp' qc' mp' mc'
  hX : Blk w0 X xs 28
  x10 : xs[10]? = some (.slice rp nr rc)
  x18 : xs[18]? = some (.slice lp nl lc)
  nB : B ∉ fbl rp ++ fbl lp ++ fbl bp
  nG : G ∉ fbl rp ++ fbl lp ++ fbl bp
  nX : X ∉ fbl rp ++ fbl lp ++ fbl bp
  nq : ∀ k ∈ fbl qp', k ∉ fbl rp ++ fbl lp ++ fbl bp
  nm : ∀ k ∈ fbl mp', k ∉ fbl rp ++ fbl lp ++ fbl bp
  fW : Fr [] W w0
  hS : ∀ x ∈ fbl rp ++ fbl lp ++ fbl bp, W.heap.size ≤ x
  rl : ∀ x ∈ fbl rp, x ∉ fbl lp
  rb : ∀ x ∈ fbl rp, x ∉ fbl bp
  lb : ∀ x ∈ fbl lp, x ∉ fbl bp
  sr : nr ≤ 1000000
  sl : nl ≤ 1000000
  sb : nb ≤ 1000000
theorem OwF.whole {xs : List Value} (h : OwF W w0 m B G X qp qc mp mc qp' qc' mp' mc' rp nr rc lp nl lc bp nb bc xs) (o : Ow w0 w rp nr rc lp nl lc bp nb bc) : Fr [] W w := h.fW.trans o.fr (fun x hx => .inr (h.hS x hx))
theorem own_l2 {xs : List Value} (h : OwF W w0 m B G X qp qc mp mc qp' qc' mp' mc' rp nr rc lp nl lc bp nb bc xs) (f : Nat) : ∀ (i : Nat) (w : World), nb - i < f → i ≤ nb → Ow w0 w rp nr rc lp nl lc bp nb bc →
    X12.l2 (fun v w' => v = .bool true ∧ Fr [] W w') f (at0 B 0) bp nb bc (at0 G 0) (i : Int) w := by
  have hsb := h.sb
  induction f with
  | zero => intro i w hf; omega
  | succ f ih =>
    intro i w hf hi o
    rw [X12.l2]
    refine bc_dec (fun h1 => ?_) (fun h1 => ?_)
    · obtain ⟨us, ob⟩ := o.b
      have hlt : i < us.length := by rw [ob.len]; omega
      cases hbp : bp with
      | none => subst hbp; have := ob.none_c.1; omega
      | some q =>
        subst hbp
        rw [Int.toNat_natCast, Nat.mul_one, i64w ((i : Int) + 1) (by omega) (by omega), show (i : Int) + 1 = ((i + 1 : Nat) : Int) by omega]
        refine ⟨⟨by omega, by omega⟩, opt_some rfl ⟨ob.storeOk hlt, ih (i + 1) _ (by omega) (by omega) ?_⟩⟩
        have fs : Fr (fbl (some q)) w (w.setCell (q.add i) (.int .u8 238)) := Fr.setCell (by rw [add_block]; simp [fbl]) _
        obtain ⟨ur, orr⟩ := o.r
        obtain ⟨ul, oll⟩ := o.l
        exact ⟨o.fr.tr (fs.mono fun x hx => by simp [hx]), ⟨_, orr.keep fs (fun k hk => h.rb k hk)⟩, ⟨_, oll.keep fs (fun k hk => h.lb k hk)⟩, ⟨_, ob.set hlt _⟩⟩
    · refine known_spec fun w4 f4 => ⟨_, rfl, bc_bool (fun _ => ?_) (fun e => by cases e)⟩
      have FW := (h.whole o).tr f4
      simp only [add_at, Nat.zero_add, Nat.add_zero]
      refine ld_msg ((h.hG.keep o.fr h.nG).keep' f4) (ld_msg ((h.hB.keep o.fr h.nB).keep' f4) (same_spec (m := m) (rp := qp') (rc := qc') (lp := mp') (lc := mc') (rp' := qp) (rc' := qc) (lp' := mp) (lc' := mc) ((h.hy.keep o.fr h.nq h.nm).keep' f4) (h.hm.keep' FW) fun w45 f45 => ⟨_, rfl, rfl, FW.tr f45⟩))
theorem own_l1 {xs : List Value} (h : OwF W w0 m B G X qp qc mp mc qp' qc' mp' mc' rp nr rc lp nl lc bp nb bc xs) (f : Nat) : ∀ (i : Nat) (w : World), nl - i < f → i ≤ nl → Ow w0 w rp nr rc lp nl lc bp nb bc →
    X12.l1 (fun v w' => v = .bool true ∧ Fr [] W w') f (at0 B 0) bp nb bc (at0 X 0) (at0 G 0) (i : Int) w := by
  have hsl := h.sl
  induction f with
  | zero => intro i w hf; omega
  | succ f ih =>
    intro i w hf hi o
    rw [X12.l1]
    have hx := (h.hX.keep o.fr h.nX).cell h.x18
    rw [show at0 X 18 = (at0 X 0).add 18 by rw [add_at, Nat.zero_add]] at hx
    refine ld_sl hx (bc_dec (fun h1 => ld_sl hx ?_) (fun h1 => ?_))
    · obtain ⟨us, ob⟩ := o.l
      have hlt : i < us.length := by rw [ob.len]; omega
      cases hbp : lp with
      | none => subst hbp; have := ob.none_c.1; omega
      | some q =>
        subst hbp
        rw [Int.toNat_natCast, Nat.mul_one, i64w ((i : Int) + 1) (by omega) (by omega), show (i : Int) + 1 = ((i + 1 : Nat) : Int) by omega]
        refine ⟨⟨by omega, by omega⟩, opt_some rfl ⟨ob.storeOk hlt, ih (i + 1) _ (by omega) (by omega) ?_⟩⟩
        have fs : Fr (fbl (some q)) w (w.setCell (q.add i) (.int .u64 0)) := Fr.setCell (by rw [add_block]; simp [fbl]) _
        obtain ⟨ur, orr⟩ := o.r
        obtain ⟨ub, obb⟩ := o.b
        exact ⟨o.fr.tr (fs.mono fun x hx => by simp [hx]), ⟨_, orr.keep fs (fun k hk => h.rl k hk)⟩, ⟨_, ob.set hlt _⟩, ⟨_, obb.keep fs (fun k hk hm => h.lb k hm hk)⟩⟩
    · exact ⟨nb + 1, own_l2 h (nb + 1) 0 w (by omega) (by omega) o⟩
theorem own_l0 {xs : List Value} (h : OwF W w0 m B G X qp qc mp mc qp' qc' mp' mc' rp nr rc lp nl lc bp nb bc xs) (f : Nat) : ∀ (i : Nat) (w : World), nr - i < f → i ≤ nr → Ow w0 w rp nr rc lp nl lc bp nb bc →
    X12.l0 (fun v w' => v = .bool true ∧ Fr [] W w') f (at0 B 0) bp nb bc (at0 X 0) (at0 G 0) (i : Int) w := by
  have hsr := h.sr
  induction f with
  | zero => intro i w hf; omega
  | succ f ih =>
    intro i w hf hi o
    rw [X12.l0]
    have hx := (h.hX.keep o.fr h.nX).cell h.x10
    rw [show at0 X 10 = (at0 X 0).add 10 by rw [add_at, Nat.zero_add]] at hx
    refine ld_sl hx (bc_dec (fun h1 => ld_sl hx ?_) (fun h1 => ?_))
    · obtain ⟨us, ob⟩ := o.r
      have hlt : i * 2 + 1 < us.length := by rw [ob.len]; omega
      cases hbp : rp with
      | none => subst hbp; have := ob.none_c.1; omega
      | some q =>
        subst hbp
        rw [Int.toNat_natCast, i64w ((i : Int) + 1) (by omega) (by omega), show (i : Int) + 1 = ((i + 1 : Nat) : Int) by omega]
        refine ⟨⟨by omega, by omega⟩, opt_some rfl ⟨fun j hj => ?_, ih (i + 1) _ (by omega) (by omega) ?_⟩⟩
        · rw [add_add]
          simp at hj
          exact ob.storeOk (by omega)
        simp only [putAll, add_add, Nat.add_zero, Nat.zero_add]
        have o1 := ob.set (i := i * 2) (by omega) (.int .i64 64)
        have o2 := o1.set (i := i * 2 + 1) (by simpa using hlt) (.int .u64 7)
        have fs1 : Fr (fbl (some q)) w (w.setCell (q.add (i * 2)) (.int .i64 64)) := Fr.setCell (by rw [add_block]; simp [fbl]) _
        have fs2 : Fr (fbl (some q)) (w.setCell (q.add (i * 2)) (.int .i64 64)) ((w.setCell (q.add (i * 2)) (.int .i64 64)).setCell (q.add (i * 2 + 1)) (.int .u64 7)) := Fr.setCell (by rw [add_block]; simp [fbl]) _
        have fs := fs1.tr fs2
        obtain ⟨ul, oll⟩ := o.l
        obtain ⟨ub, obb⟩ := o.b
        exact ⟨o.fr.tr (fs.mono fun x hx => by simp [hx]), ⟨_, o2⟩, ⟨_, oll.keep fs (fun k hk hm => h.rl k hm hk)⟩, ⟨_, obb.keep fs (fun k hk hm => h.rb k hm hk)⟩⟩
    · exact ⟨nl + 1, own_l1 h (nl + 1) 0 w (by omega) (by omega) o⟩
theorem wireOwn_row {H : Type} {cs : Array Value} {d : DataW H} (h : Lies Try.prog W 6 28 cs.toList d) (hs : SizedD Try.prog 28 d) : CallR Try.prog 12 #[.agg cs] W fun v w' => v = .bool true ∧ Fr [] W w' := by
  obtain ⟨m, rp, rc, lp, lc, hcs, hm, hwf⟩ := msg_of_lies h hs
  obtain rfl : cs = (m.cells rp rc lp lc).toArray := by apply Array.ext'; exact hcs
  apply X12.sound
  unfold X12.f
  refine nwk ?_
  obtain ⟨hb, f⟩ := made (w := W) (cs := (m.cells rp rc lp lc).toArray) (e := 28)
  simp only [add_at, Nat.zero_add, Nat.add_zero]
  have hBW : W.heap.size ≤ W.heap.size := Nat.le_refl _
  generalize hB : W.heap.size = B at hb hBW ⊢
  have hBl := hb.lt
  generalize W.alloc _ = w2 at *
  refine ld_msg hb (REncode_spec (m := m) (rp := rp) (rc := rc) (lp := lp) (lc := lc) (hm.keep' f) hwf ⟨fun hn w23 f23 => ?_, fun hr p c w23 o23 f23 n23 => ?_⟩)
  · exact ⟨_, _, _, _, rfl, bc_ne (fun _ => known_spec fun w27 f27 => ⟨_, rfl, rfl, (f.tr f23).tr f27⟩) (fun h => by cases h)⟩
  have hlen := sealed_short hr hwf
  have h23 := ByS.of_own o23 (sealOf_wf (encB_wf hr))
  refine ⟨_, _, _, _, rfl, bc_ne (fun h => absurd rfl h) (fun _ => Decode_spec h23 (by omega) ?_)⟩
  rw [decOf_enc hr hwf]
  intro rp1 rc1 lp1 lc1 w30 d30
  refine ⟨_, _, _, _, _, _, _, _, _, _, _, _, _, _, _, _, _, _, _, _, _, _, _, _, rfl, put_new (m := m) (rp := rp1) (rc := rc1) (lp := lp1) (lc := lc1) fun X w53 b53 f53 hX => ?_⟩
  have h53 := h23.keep' (d30.fr.tr f53)
  refine Decode_spec h53 (by omega) ?_
  rw [decOf_enc hr hwf]
  intro rp2 rc2 lp2 lc2 w55 d55
  refine ⟨_, _, _, _, _, _, _, _, _, _, _, _, _, _, _, _, _, _, _, _, _, _, _, _, rfl, put_new (m := m) (rp := rp2) (rc := rc2) (lp := lp2) (lc := lc2) fun G w78 b78 f78 hG => ?_⟩
  have hb23 := hb.keep' f23
  have s2 := f.size
  have s23 := f23.size
  have s30 := d30.fr.size
  have s53 := f53.size
  have s55 := d55.fr.size
  have lr := d30.refs.lt
  have ll := d30.list.lt
  have lb := o23.lt
  have nr := d30.nr
  have nl := d30.nl
  have mr := d55.nr
  have ml := d55.nl
  have hXl := b53.lt
  have hGl := b78.lt
  have f5378 : Fr [] w53 w78 := d55.fr.tr f78
  have f2378 : Fr [] w23 w78 := (d30.fr.tr f53).tr f5378
  have F : OwF W w78 m B G X rp rc lp lc rp2 rc2 lp2 lc2 rp1 m.refs.length rc1 lp1 m.list.length lc1 p (sealOf (encB m)).length c (m.cells rp1 rc1 lp1 lc1) := by
    have all : ∀ x ∈ fbl rp1 ++ fbl lp1 ++ fbl p, B < x ∧ x < w30.heap.size := by
      intro x hx
      simp only [List.mem_append] at hx
      rcases hx with (hx | hx) | hx
      · have := lr x hx; have := nr x hx; omega
      · have := ll x hx; have := nl x hx; omega
      · have := lb x hx; have := n23 x hx; omega
    refine ⟨hb23.keep' f2378, hm, b78, (d55.after f78).mm, b53.keep' f5378, rfl, rfl, fun hx => by have := all _ hx; omega, fun hx => by have := all _ hx; omega, fun hx => by have := all _ hx; omega,
      fun k hk hx => by have := all _ hx; have := mr k hk; omega, fun k hk hx => by have := all _ hx; have := ml k hk; omega, (f.tr f23).tr f2378, fun x hx => by have := all _ hx; omega, d30.rl,
      fun x hx hm => by have := nr x hx; have := lb x hm; omega, fun x hx hm => by have := nl x hx; have := lb x hm; omega, by have : m.refs.length ≤ 1000 := d30.r2; omega, by have : m.list.length ≤ 1000 := d30.l2; omega, by omega⟩
  have O : Ow w78 w78 rp1 m.refs.length rc1 lp1 m.list.length lc1 p (sealOf (encB m)).length c :=
    ⟨Fr.refl _, ⟨_, d30.refs.keep' (f53.tr f5378)⟩, ⟨_, d30.list.keep' (f53.tr f5378)⟩, ⟨_, o23.keep' f2378⟩⟩
  exact ⟨m.refs.length + 1, own_l0 F _ 0 w78 (by omega) (by omega) O⟩
end
end Go.Proofs.YtcmkjnoaefkkhaaX
