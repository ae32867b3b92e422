/- May, New. -/
import Derived.Test.YtglininpmfgggaaL18Want
namespace Go.Proofs.YtglininpmfgggaaX
open Go.RowKit
set_option linter.unusedVariables false
set_option linter.unusedSimpArgs false
set_option maxRecDepth 100000
def mayA (c : Cfg) : Bool := inB c.nodes 64 && inB c.mutators 4 && inB c.slots 8 && inB c.cel 4096 && (Int.tmod c.cel 16 == 0)
def mayC (c : Cfg) : Bool := inB c.objects 64 && inB c.stubs 64 && inB c.calls 16 && inB c.window 8 && inB c.grey 64 && inB c.bag 256 && inB c.inbox 16
def mayD (c : Cfg) : Bool := decide (c.unit ≥ 1) && decide (c.unit ≤ 1048576) && decide (c.drift < c.unit) && decide (c.lease ≤ 4294967295) && decide (IntKind.wrap .u64 (c.lease * IntKind.wrap .u64 (c.unit - c.drift)) ≥ IntKind.wrap .u64 (8 * IntKind.wrap .u64 (c.unit + c.drift)))
def mayE (c : Cfg) : Bool := decide (c.wait ≥ 1) && decide (c.wait ≤ c.most) && decide (c.most ≤ 4294967295) && decide (c.patience ≥ 1) && decide (c.patience ≤ 4294967295)
def mayF (c : Cfg) : Bool := inB c.suspect 38 && decide (c.trace > c.suspect) && decide (c.trace < 40) && inB c.work 64 && decide (c.start ≤ 4611686018427387904) && decide (c.last ≤ 72057594037927935)
def mayB (c : Cfg) : Bool := mayA c && mayC c && mayD c && mayE c && mayF c
section
variable {w w' W : World} {Q : Value → World → Prop} {g gt : Nat} {ft : List Nat} {S : Sn} {nd sr now voucher : Int} {s : Stb} {c : Cfg}
theorem may_j0 {a b d e : Bool} (hb : Blk w g c.cells 24) (ha : a = mayA c) (hc : b = mayC c) (hd : d = mayD c) (he : e = mayE c) (hQ : Q (.bool (mayB c)) w) : X31.j0 Q (at0 g 0) a b d e w := by
  unfold X31.j0
  have no : mayB c = false → Q (.bool false) w := fun h => by rw [h] at hQ; exact hQ
  unfold mayB at *
  rw [← ha, ← hc, ← hd, ← he] at *
  refine bc_bool (fun h1 => bc_bool (fun h2 => bc_bool (fun h3 => bc_bool (fun h4 => ?_) (fun h => no (by simp [h]))) (fun h => no (by simp [h]))) (fun h => no (by simp [h]))) (fun h => no (by simp [h]))
  unfold mayF at *
  refine ld_int (hb.cat 17 _ rfl) (in_spec ⟨_, rfl, bc_bool (fun h5 => ?_) (fun h => no (by simp [h]))⟩)
  refine ld_int (hb.cat 18 _ rfl) (ld_int (hb.cat 17 _ rfl) (bc_dec (fun h6 => ?_) (fun h => no (by simp [h]))))
  refine ld_int (hb.cat 18 _ rfl) (bc_dec (fun h7 => ?_) (fun h => no (by simp [h])))
  refine ld_int (hb.cat 19 _ rfl) (in_spec ⟨_, rfl, bc_bool (fun h8 => ?_) (fun h => no (by simp [h]))⟩)
  refine ld_int (hb.cat 20 _ rfl) (bc_dec (fun h9 => ?_) (fun h => no (by simp [h])))
  refine ld_int (hb.cat 21 _ rfl) ?_
  have h6' : c.trace > c.suspect := h6
  simpa [h1, h2, h3, h4, h5, h6', h7, h8, h9] using hQ
theorem may_j1 {a b d : Bool} (hb : Blk w g c.cells 24) (ha : a = mayA c) (hc : b = mayC c) (hd : d = mayD c) (hQ : Q (.bool (mayB c)) w) : X31.j1 Q (at0 g 0) a b d w := by
  unfold X31.j1
  have no : mayE c = false → X31.j0 Q (at0 g 0) a b d false w := fun h => may_j0 hb ha hc hd h.symm hQ
  unfold mayE at no
  refine ld_int (hb.cat 14 _ rfl) (bc_dec (fun h1 => ?_) (fun h => no (by simp [h])))
  refine ld_int (hb.cat 14 _ rfl) (ld_int (hb.cat 15 _ rfl) (bc_dec (fun h2 => ?_) (fun h => no (by simp [h]))))
  refine ld_int (hb.cat 15 _ rfl) (bc_dec (fun h3 => ?_) (fun h => no (by simp [h])))
  refine ld_int (hb.cat 16 _ rfl) (bc_dec (fun h4 => ?_) (fun h => no (by simp [h])))
  exact ld_int (hb.cat 16 _ rfl) (may_j0 hb ha hc hd (by simp [mayE, h1, h2, h3, h4]) hQ)
theorem may_j2 {a b : Bool} (hb : Blk w g c.cells 24) (ha : a = mayA c) (hc : b = mayC c) (hQ : Q (.bool (mayB c)) w) : X31.j2 Q (at0 g 0) a b w := by
  unfold X31.j2
  have no : mayD c = false → X31.j1 Q (at0 g 0) a b false w := fun h => may_j1 hb ha hc h.symm hQ
  unfold mayD at no
  refine ld_int (hb.cat 11 _ rfl) (bc_dec (fun h1 => ?_) (fun h => no (by simp [h])))
  refine ld_int (hb.cat 11 _ rfl) (bc_dec (fun h2 => ?_) (fun h => no (by simp [h])))
  refine ld_int (hb.cat 12 _ rfl) (ld_int (hb.cat 11 _ rfl) (bc_dec (fun h3 => ?_) (fun h => no (by simp [h]))))
  refine ld_int (hb.cat 13 _ rfl) (bc_dec (fun h4 => ?_) (fun h => no (by simp [h])))
  exact ld_int (hb.cat 13 _ rfl) (ld_int (hb.cat 11 _ rfl) (ld_int (hb.cat 12 _ rfl) (ld_int (hb.cat 11 _ rfl) (ld_int (hb.cat 12 _ rfl) (may_j1 hb ha hc (by simp [mayD, h1, h2, h3, h4]) hQ)))))
theorem may_j3 {a : Bool} (hb : Blk w g c.cells 24) (ha : a = mayA c) (hQ : Q (.bool (mayB c)) w) : X31.j3 Q (at0 g 0) a w := by
  unfold X31.j3
  have no : mayC c = false → X31.j2 Q (at0 g 0) a false w := fun h => may_j2 hb ha h.symm hQ
  unfold mayC at no
  refine ld_int (hb.cat 4 _ rfl) (in_spec ⟨_, rfl, bc_bool (fun h1 => ?_) (fun h => no (by simp [h]))⟩)
  refine ld_int (hb.cat 5 _ rfl) (in_spec ⟨_, rfl, bc_bool (fun h2 => ?_) (fun h => no (by simp [h]))⟩)
  refine ld_int (hb.cat 6 _ rfl) (in_spec ⟨_, rfl, bc_bool (fun h3 => ?_) (fun h => no (by simp [h]))⟩)
  refine ld_int (hb.cat 7 _ rfl) (in_spec ⟨_, rfl, bc_bool (fun h4 => ?_) (fun h => no (by simp [h]))⟩)
  refine ld_int (hb.cat 8 _ rfl) (in_spec ⟨_, rfl, bc_bool (fun h5 => ?_) (fun h => no (by simp [h]))⟩)
  refine ld_int (hb.cat 9 _ rfl) (in_spec ⟨_, rfl, bc_bool (fun h6 => ?_) (fun h => no (by simp [h]))⟩)
  exact ld_int (hb.cat 10 _ rfl) (in_spec ⟨_, rfl, may_j2 hb ha (by simp [mayC, h1, h2, h3, h4, h5, h6]) hQ⟩)
theorem may_spec (hQ : ∀ w', Fr [] w w' → Q (.bool (mayB c)) w') : CallR Try.prog 31 #[c.val] w Q := by
  apply X31.sound
  unfold X31.f
  refine newB fun g w2 hb f2 _ => ?_
  have hb : Blk w2 g c.cells 24 := hb
  have no : mayA c = false → X31.j3 Q (at0 g 0) false w2 := fun h => may_j3 hb h.symm (hQ _ f2)
  unfold mayA at no
  refine ld_int (hb.cat 0 _ rfl) (in_spec ⟨_, rfl, bc_bool (fun h1 => ?_) (fun h => no (by simp [h]))⟩)
  refine ld_int (hb.cat 1 _ rfl) (in_spec ⟨_, rfl, bc_bool (fun h2 => ?_) (fun h => no (by simp [h]))⟩)
  refine ld_int (hb.cat 2 _ rfl) (in_spec ⟨_, rfl, bc_bool (fun h3 => ?_) (fun h => no (by simp [h]))⟩)
  refine ld_int (hb.cat 3 _ rfl) (in_spec ⟨_, rfl, bc_bool (fun h4 => ?_) (fun h => no (by simp [h]))⟩)
  exact ld_int (hb.cat 3 _ rfl) ⟨by omega, may_j3 hb (by simp [mayA, h1, h2, h3, h4]) (hQ _ f2)⟩
theorem may_stubs (h : mayB c = true) : 1 ≤ c.stubs ∧ c.stubs ≤ 64 := by
  simp only [mayB, mayC, Bool.and_eq_true] at h
  have := h.1.1.1.2.1.1.1.1.1.2
  unfold inB at this
  split at this
  · simp at this; omega
  · cases this
theorem may_nodes (h : mayB c = true) : 1 ≤ c.nodes ∧ c.nodes ≤ 64 := by
  simp only [mayB, mayA, Bool.and_eq_true] at h
  have := h.1.1.1.1.1.1.1.1
  unfold inB at this
  split at this
  · simp at this; omega
  · cases this
theorem may_unit (h : mayB c = true) : 1 ≤ c.unit ∧ c.unit ≤ 1048576 ∧ c.drift < c.unit ∧ c.lease ≤ 4294967295 := by
  simp only [mayB, mayD, Bool.and_eq_true, decide_eq_true_eq] at h
  exact ⟨h.1.1.2.1.1.1.1, h.1.1.2.1.1.1.2, h.1.1.2.1.1.2, h.1.1.2.1.2⟩
theorem may_wait (h : mayB c = true) : 1 ≤ c.wait ∧ c.wait ≤ c.most ∧ c.most ≤ 4294967295 := by
  simp only [mayB, mayE, Bool.and_eq_true, decide_eq_true_eq] at h
  exact ⟨h.1.2.1.1.1.1, h.1.2.1.1.1.2, h.1.2.1.1.2⟩
theorem holder_spec {lease unit drift : Int} (h1 : 1 ≤ unit) (h2 : unit ≤ 1048576) (h3 : drift < unit) (h4 : lease ≤ 4294967295) (h0 : 0 ≤ drift) (hQ : Q (.tuple #[.int .u64 (holdN lease unit drift), .int .i64 0]) w) : CallR Try.prog 33 #[.int .u64 lease, .int .u64 unit, .int .u64 drift] w Q := by
  apply X33.sound
  unfold X33.f
  refine bc_neg (by omega) (bc_neg (by omega) (bc_neg (by omega) (bc_neg (by omega) ⟨?_, hQ⟩)))
  rw [u64w _ (by omega) (by omega)]; omega
def newOk (c : Cfg) (node seq : Int) : Prop := mayB c = true ∧ ¬ node < 1 ∧ ¬ node > c.nodes ∧ ¬ seq > 72057594037927935
def newS (c : Cfg) (node seq : Int) : Sn := ⟨c, node, seq, holdN c.lease c.unit c.drift, 0, []⟩
theorem new_spec {node seq : Int} (h0 : 0 ≤ c.drift) (hbad : ¬ newOk c node seq → ∀ w', Fr [] w w' → Q (.tuple #[.pointer none, .int .i64 1]) w')
    (hK : newOk c node seq → ∀ g gt ft w', PTa w' g gt ft (newS c node seq) → Fr [] w w' → (∀ x ∈ g :: ft, w.heap.size ≤ x) → Q (.tuple #[.pointer (some (at0 g 0)), .int .i64 0]) w') :
    CallR Try.prog 11 #[c.val, .int .i64 node, .int .u64 seq] w Q := by
  apply X11.sound
  unfold X11.f
  refine newB fun g1 w2 b f2 _ => ?_
  have b : Blk w2 g1 c.cells 24 := b
  refine ld_Cfg (s := c) b.cat (may_spec fun w26 f26 => ⟨_, rfl, ?_⟩)
  have F := f2.tr f26
  have b26 := b.keep' f26
  refine bc_bool (fun h => hbad (fun hn => by rw [hn.1] at h; cases h) _ F) (fun h => bc_dec (fun h1 => hbad (fun hn => hn.2.1 h1) _ F) (fun h1 => ld_int (b26.cat 0 _ rfl) (bc_dec (fun h2 => hbad (fun hn => hn.2.2.1 h2) _ F) (fun h2 => bc_dec (fun h3 => hbad (fun hn => hn.2.2.2 h3) _ F) (fun h3 => ?_)))))
  have hm : mayB c = true := by simpa using h
  have hs := may_stubs hm
  have hu := may_unit hm
  unfold X11.j0
  refine ld_int (b26.cat 5 _ rfl) (new_SB (fun hb => by omega) fun _ _ w3 t3 f3 => ⟨_, _, rfl, ?_⟩)
  have b3 := b26.keep' f3
  have F3 := F.tr f3
  refine ld_int (b3.cat 13 _ rfl) (ld_int (b3.cat 11 _ rfl) (ld_int (b3.cat 12 _ rfl) (holder_spec hu.1 hu.2.1 hu.2.2.1 hu.2.2.2 h0 ⟨_, _, rfl, bc_ne (fun h => absurd rfl h) (fun _ => bc_ne (fun h => absurd rfl h) (fun _ => ?_))⟩)))
  refine ld_Cfg (s := c) b3.cat (newB fun g w36 b36 f36 h36 => ?_)
  have s3 := F.size
  have z3 := F3.size
  have l3 := t3.lt
  refine hK ⟨hm, h1, h2, h3⟩ g _ _ w36 ⟨b36, t3.keep' f36, fun hm => by have := l3 g hm; omega⟩ (F3.tr f36) (fun x hx => ?_)
  simp at hx
  omega
end
end Go.Proofs.YtglininpmfgggaaX
