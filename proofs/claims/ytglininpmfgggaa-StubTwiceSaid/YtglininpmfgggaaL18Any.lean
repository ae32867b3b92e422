/- The document's table as it lies, its New; StubAny. -/
import Derived.Test.YtglininpmfgggaaL18Known
import Derived.Test.YtglininpmfgggaaMLies
import Derived.Test.YtglininpmfgggaaXT3
namespace Go.Proofs.YtglininpmfgggaaX
open Go.RowKit
set_option linter.unusedVariables false
set_option linter.unusedSimpArgs false
set_option maxRecDepth 100000
def rcells (S : Sn) (pk pv : Option Addr) (ck cv : Nat) : List Value := S.c.cells ++ [.int .i64 S.node, .int .u64 S.seq, .int .i64 S.c.stubs, .slice pk S.l.length ck, .slice pv S.l.length cv, .int .u64 S.last]
def PRa (w : World) (g : Nat) (foot : List Nat) (S : Sn) (pk pv : Option Addr) (ck cv : Nat) : Prop := RT_SB w g (rcells S pk pv ck cv) foot S.c.stubs S.l pk pv ck cv
section
variable {w w' W : World} {Q : Value → World → Prop} {g gt : Nat} {ft ft' : List Nat} {S S' : Sn} {c : Cfg}
theorem rnew_spec {node seq : Int} (h0 : 0 ≤ c.drift) (hbad : ¬ newOk c node seq → ∀ w', Fr [] w w' → Q (.pointer none) w')
    (hK : newOk c node seq → ∀ g foot w', PRa w' g foot (newS c node seq) none none 0 0 → Fr [] w w' → (∀ x ∈ foot, w.heap.size ≤ x) → Q (.pointer (some (at0 g 0))) w') :
    CallR Try.prog 12 #[c.val, .int .i64 node, .int .u64 seq] w Q := by
  apply X12.sound
  unfold X12.f
  refine newB fun g1 w2 b f2 _ => ?_
  have b : Blk w2 g1 c.cells 24 := b
  refine ld_Cfg (s := c) b.cat (may_spec fun w26 f26 => ⟨_, rfl, ?_⟩)
  have F := f2.tr f26
  have b26 := b.keep' f26
  refine bc_bool (fun h => hbad (fun hn => by rw [hn.1] at h; cases h) _ F) (fun h => bc_dec (fun h1 => hbad (fun hn => hn.2.1 h1) _ F) (fun h1 => ld_int (b26.cat 0 _ rfl) (bc_dec (fun h2 => hbad (fun hn => hn.2.2.1 h2) _ F) (fun h2 => bc_dec (fun h3 => hbad (fun hn => hn.2.2.2 h3) _ F) (fun h3 => ?_)))))
  have hm : mayB c = true := by simpa using h
  unfold X12.j0
  refine ld_Cfg (s := c) b26.cat (newB fun g w24 b24 f24 h24 => ld_int ((b26.keep' f24).cat 5 _ rfl) ?_)
  rw [add_add]
  refine stB b24 (by show 24 < 28; omega) fun w26' b26' f26' => ?_
  have s3 := F.size
  refine hK ⟨hm, h1, h2, h3⟩ g [g] w26' ⟨b26', rfl, rfl, rfl, Own.nil, Own.nil, rfl, by simp [fbl], by simp [fbl], by simp [fbl], List.Pairwise.nil, Nat.zero_le _⟩ ((F.tr f24).loc f26' (by omega)) (fun x hx => by simp at hx; omega)
theorem stubAny_row {H : Type} {cs : Array Value} {d : DataW H} (h : Lies Try.prog W 6 24 cs.toList d) (hs : SizedD Try.prog 24 d) (node : Int) (_ : (Lit.int .i64 node).wf = true) (seq : Int) (_ : (Lit.int .u64 seq).wf = true) :
    CallR Try.prog 3 #[.agg cs, .int .i64 node, .int .u64 seq] W fun v w' => v = .bool true ∧ Fr [] W w' := by
  obtain ⟨c, hcs, wc⟩ := Cfg_of_lies (n := 4) h
  obtain rfl : cs = c.cells.toArray := by apply Array.ext'; exact hcs
  have h0 : 0 ≤ c.drift := (u64b wc.2.1).1
  apply X3.sound
  unfold X3.f
  refine newB fun g1 w2 b f2 _ => ?_
  have b : Blk w2 g1 c.cells 24 := b
  by_cases hok : newOk c node seq
  · refine ld_Cfg (s := c) b.cat (newL hok h0 fun g gt ft w26 p => ⟨_, _, rfl, ?_⟩)
    have b26 := b.keep' p.F
    refine ld_Cfg (s := c) b26.cat (rnew_spec h0 (fun hn => absurd hok hn) fun _ gr fr w52 pr f52 _ => ⟨_, rfl, known_spec fun w55 f55 => ⟨_, rfl, ?_⟩⟩)
    exact ⟨rfl, f2.tr (p.F.tr (f52.tr f55))⟩
  · refine ld_Cfg (s := c) b.cat (new_spec h0 (fun _ w26 f26 => ⟨_, _, rfl, ?_⟩) fun hn => absurd hn hok)
    have b26 := b.keep' f26
    refine ld_Cfg (s := c) b26.cat (rnew_spec h0 (fun _ w52 f52 => ⟨_, rfl, known_spec fun w55 f55 => ⟨_, rfl, ?_⟩⟩) fun hn => absurd hn hok)
    exact ⟨rfl, f2.tr (f26.tr (f52.tr f55))⟩
end
end Go.Proofs.YtglininpmfgggaaX
