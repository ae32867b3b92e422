/- Config, May: a config that may be, of any numbers. -/
import Derived.Test.YtnjmkhhaodgpbaaL19C
namespace Go.Proofs.YtnjmkhhaodgpbaaX
open Go.RowKit
set_option linter.unusedVariables false
set_option linter.unusedSimpArgs false
set_option maxRecDepth 100000
def inB (n most : Int) : Bool := if n ≥ 1 then decide (n ≤ most) else false
theorem apin_spec {a b : Int} {w : World} {Q : Value → World → Prop} (hQ : Q (.bool (inB a b)) w) : CallR Try.prog 58 #[.int .i64 a, .int .i64 b] w Q := by
  apply X58.sound
  unfold X58.f
  unfold inB at hQ
  exact bc_dec (fun h => by rw [if_pos h] at hQ; exact hQ) (fun h => by rw [if_neg h] at hQ; exact hQ)
def configOf (r : Raw) : Cfg :=
  { nodes := 2 + r.nodes % 3, mutators := 1 + r.mutators % 3, slots := 2 + r.slots % 4, cel := 16 * (1 + r.cel % 8), objects := 2 + r.objects % 14, stubs := 2 + r.stubs % 10, calls := 1 + r.calls % 6, window := 1 + r.window % 4,
    grey := 1 + r.grey % 8, bag := 4 + r.bag % 60, inbox := 1 + r.inbox % 4, unit := 4 + r.unit % 20, drift := r.drift % ((4 + r.unit % 20) / 2), lease := (4 + r.unit % 20) * (40 + r.lease % 200), wait := 1 + r.wait % 30,
    most := 1 + r.wait % 30 + r.most % 60, patience := (4 + r.unit % 20) * (1 + r.patience % 60), suspect := 1 + r.suspect % 4, trace := 1 + r.suspect % 4 + 1 + r.trace % 4, work := 1 + r.work % 12, start := Int.tmod r.start 1000, last := Int.tmod r.last 1000 }
section
variable {w w' W : World} {Q : Value → World → Prop} {g1 g3 g22 : Nat} {r : Raw}
theorem pick_spec {n m : Int} {w : World} {Q : Value → World → Prop} (hm : 0 < m) (hb : m ≤ 9223372036854775807) (h : Q (.int .i64 (n % m)) w) : CallR Try.prog 10 #[.int .i64 n, .int .i64 m] w Q := by
  apply X10.sound
  have h2 := Int.emod_nonneg n (by omega : m ≠ 0)
  have h3 := Int.emod_lt_of_pos n hm
  have ht := tmod_pick n m hm
  unfold X10.f
  refine ⟨by omega, bc_dec (fun hlt => ?_) (fun hge => ?_)⟩
  · rw [if_pos hlt] at ht
    rw [ht, i64w _ (by omega) (by omega)]; exact h
  · rw [if_neg hge] at ht
    rw [ht]; exact h
theorem md {n m : Int} (hm : 0 < m) : 0 ≤ n % m ∧ n % m < m := ⟨Int.emod_nonneg _ (by omega), Int.emod_lt_of_pos _ hm⟩
theorem mul_rng {a b A B : Int} (h1 : 0 ≤ a) (h2 : a ≤ A) (h3 : 0 ≤ b) (h4 : b ≤ B) : 0 ≤ a * b ∧ a * b ≤ A * B := ⟨Int.mul_nonneg h1 h3, Int.mul_le_mul h2 h4 h3 (Int.le_trans h1 h2)⟩
theorem wadd {b n m : Int} (h0 : 0 < m) (h1 : 0 ≤ b) (h2 : b + m ≤ 9223372036854775807) : IntKind.wrap .i64 (b + n % m) = b + n % m := by have := md (n := n) h0; exact i64w _ (by omega) (by omega)
theorem waddu {b n m : Int} (h0 : 0 < m) (h1 : 0 ≤ b) (h2 : b + m ≤ 9223372036854775807) : IntKind.wrap .u64 (b + n % m) = b + n % m := by have := md (n := n) h0; exact u64w _ (by omega) (by omega)
theorem wmodu {n m : Int} (h0 : 0 < m) (h2 : m ≤ 9223372036854775807) : IntKind.wrap .u64 (n % m) = n % m := by have := md (n := n) h0; exact u64w _ (by omega) (by omega)
theorem half_pos (u : Int) : 0 < (4 + u % 20) / 2 ∧ (4 + u % 20) / 2 ≤ 9223372036854775807 := by have := md (n := u) (m := 20) (by omega); omega
theorem half_eq (u : Int) : IntKind.wrap .i64 (Int.tdiv (IntKind.wrap .i64 (4 + u % 20)) 2) = (4 + u % 20) / 2 := by
  have := md (n := u) (m := 20) (by omega)
  rw [i64w (4 + u % 20) (by omega) (by omega), Int.tdiv_eq_ediv_of_nonneg (by omega), i64w _ (by omega) (by omega)]
theorem wmul (u l : Int) {b m : Int} (h0 : 0 < m) (h1 : 0 ≤ b) (h2 : b + m ≤ 1000) : IntKind.wrap .u64 ((4 + u % 20) * (b + l % m)) = (4 + u % 20) * (b + l % m) := by
  have := md (n := u) (m := 20) (by omega)
  have := md (n := l) h0
  have := mul_rng (a := 4 + u % 20) (b := b + l % m) (A := 23) (B := 1000) (by omega) (by omega) (by omega) (by omega)
  exact u64w _ (by omega) (by omega)
theorem wthree (a b : Int) : IntKind.wrap .u64 (1 + a % 30 + b % 60) = 1 + a % 30 + b % 60 := by
  have := md (n := a) (m := 30) (by omega)
  have := md (n := b) (m := 60) (by omega)
  exact u64w _ (by omega) (by omega)
theorem wfour (a b : Int) : IntKind.wrap .i64 (IntKind.wrap .i64 (1 + a % 4 + 1) + b % 4) = 1 + a % 4 + 1 + b % 4 := by
  have := md (n := a) (m := 4) (by omega)
  have := md (n := b) (m := 4) (by omega)
  rw [i64w (1 + a % 4 + 1) (by omega) (by omega), i64w _ (by omega) (by omega)]
def cfg4 (r : Raw) : List Value := [.int .i64 (2 + r.nodes % 3), .int .i64 (1 + r.mutators % 3), .int .i64 (2 + r.slots % 4), .int .i64 (16 * (1 + r.cel % 8)), .int .i64 0, .int .i64 0, .int .i64 0, .int .i64 0, .int .i64 0, .int .i64 0, .int .i64 0, .int .u64 0, .int .u64 0, .int .u64 0, .int .u64 0, .int .u64 0, .int .u64 0, .int .i64 0, .int .i64 0, .int .i64 0, .int .u64 0, .int .u64 0]
theorem config_j0 (b1 : Blk w g1 r.cells 24) (b3 : Blk w g3 (cfg4 r) 26) {old : List Value} (b2 : Blk w g22 old 26) (ho : old.length = 22) (n1 : g1 ≠ g3) (n2 : g22 ≠ g3) (F : Fr [] W w) (h3 : W.heap.size ≤ g3) (h2 : W.heap.size ≤ g22) (hQ : ∀ w', Fr [] W w' → Q (configOf r).val w') : X7.j0 Q (at0 g1 0) (at0 g22 0) (at0 g3 0) w := by
  unfold X7.j0
  have b3 : Blk w g3 [.int .i64 (2 + r.nodes % 3), .int .i64 (1 + r.mutators % 3), .int .i64 (2 + r.slots % 4), .int .i64 (16 * (1 + r.cel % 8)), .int .i64 (0), .int .i64 (0), .int .i64 (0), .int .i64 (0), .int .i64 (0), .int .i64 (0), .int .i64 (0), .int .u64 (0), .int .u64 (0), .int .u64 (0), .int .u64 (0), .int .u64 (0), .int .u64 (0), .int .i64 (0), .int .i64 (0), .int .i64 (0), .int .u64 (0), .int .u64 (0)] 26 := b3
  refine ld_int (b1.cat 4 _ rfl) (pick_spec (by decide) (by decide) ⟨_, rfl, ?_⟩)
  rw [wadd (by decide) (by decide) (by decide)]
  refine stB b3 (by simp only [List.length_cons, List.length_nil]; omega) fun x1 b3' f' => ?_
  replace F := F.loc f' h3
  replace b1 := b1.off1 n1 f'
  replace b2 := b2.off1 n2 f'
  clear f'
  have b4 : Blk x1 g3 [.int .i64 (2 + r.nodes % 3), .int .i64 (1 + r.mutators % 3), .int .i64 (2 + r.slots % 4), .int .i64 (16 * (1 + r.cel % 8)), .int .i64 (2 + r.objects % 14), .int .i64 (0), .int .i64 (0), .int .i64 (0), .int .i64 (0), .int .i64 (0), .int .i64 (0), .int .u64 (0), .int .u64 (0), .int .u64 (0), .int .u64 (0), .int .u64 (0), .int .u64 (0), .int .i64 (0), .int .i64 (0), .int .i64 (0), .int .u64 (0), .int .u64 (0)] 26 := b3'
  clear b3'
  replace b3 := b4
  clear b4
  refine ld_int (b1.cat 5 _ rfl) (pick_spec (by decide) (by decide) ⟨_, rfl, ?_⟩)
  rw [wadd (by decide) (by decide) (by decide)]
  refine stB b3 (by simp only [List.length_cons, List.length_nil]; omega) fun x2 b3' f' => ?_
  replace F := F.loc f' h3
  replace b1 := b1.off1 n1 f'
  replace b2 := b2.off1 n2 f'
  clear f'
  have b4 : Blk x2 g3 [.int .i64 (2 + r.nodes % 3), .int .i64 (1 + r.mutators % 3), .int .i64 (2 + r.slots % 4), .int .i64 (16 * (1 + r.cel % 8)), .int .i64 (2 + r.objects % 14), .int .i64 (2 + r.stubs % 10), .int .i64 (0), .int .i64 (0), .int .i64 (0), .int .i64 (0), .int .i64 (0), .int .u64 (0), .int .u64 (0), .int .u64 (0), .int .u64 (0), .int .u64 (0), .int .u64 (0), .int .i64 (0), .int .i64 (0), .int .i64 (0), .int .u64 (0), .int .u64 (0)] 26 := b3'
  clear b3'
  replace b3 := b4
  clear b4
  refine ld_int (b1.cat 6 _ rfl) (pick_spec (by decide) (by decide) ⟨_, rfl, ?_⟩)
  rw [wadd (by decide) (by decide) (by decide)]
  refine stB b3 (by simp only [List.length_cons, List.length_nil]; omega) fun x3 b3' f' => ?_
  replace F := F.loc f' h3
  replace b1 := b1.off1 n1 f'
  replace b2 := b2.off1 n2 f'
  clear f'
  have b4 : Blk x3 g3 [.int .i64 (2 + r.nodes % 3), .int .i64 (1 + r.mutators % 3), .int .i64 (2 + r.slots % 4), .int .i64 (16 * (1 + r.cel % 8)), .int .i64 (2 + r.objects % 14), .int .i64 (2 + r.stubs % 10), .int .i64 (1 + r.calls % 6), .int .i64 (0), .int .i64 (0), .int .i64 (0), .int .i64 (0), .int .u64 (0), .int .u64 (0), .int .u64 (0), .int .u64 (0), .int .u64 (0), .int .u64 (0), .int .i64 (0), .int .i64 (0), .int .i64 (0), .int .u64 (0), .int .u64 (0)] 26 := b3'
  clear b3'
  replace b3 := b4
  clear b4
  refine ld_int (b1.cat 7 _ rfl) (pick_spec (by decide) (by decide) ⟨_, rfl, ?_⟩)
  rw [wadd (by decide) (by decide) (by decide)]
  refine stB b3 (by simp only [List.length_cons, List.length_nil]; omega) fun x4 b3' f' => ?_
  replace F := F.loc f' h3
  replace b1 := b1.off1 n1 f'
  replace b2 := b2.off1 n2 f'
  clear f'
  have b4 : Blk x4 g3 [.int .i64 (2 + r.nodes % 3), .int .i64 (1 + r.mutators % 3), .int .i64 (2 + r.slots % 4), .int .i64 (16 * (1 + r.cel % 8)), .int .i64 (2 + r.objects % 14), .int .i64 (2 + r.stubs % 10), .int .i64 (1 + r.calls % 6), .int .i64 (1 + r.window % 4), .int .i64 (0), .int .i64 (0), .int .i64 (0), .int .u64 (0), .int .u64 (0), .int .u64 (0), .int .u64 (0), .int .u64 (0), .int .u64 (0), .int .i64 (0), .int .i64 (0), .int .i64 (0), .int .u64 (0), .int .u64 (0)] 26 := b3'
  clear b3'
  replace b3 := b4
  clear b4
  refine ld_int (b1.cat 8 _ rfl) (pick_spec (by decide) (by decide) ⟨_, rfl, ?_⟩)
  rw [wadd (by decide) (by decide) (by decide)]
  refine stB b3 (by simp only [List.length_cons, List.length_nil]; omega) fun x5 b3' f' => ?_
  replace F := F.loc f' h3
  replace b1 := b1.off1 n1 f'
  replace b2 := b2.off1 n2 f'
  clear f'
  have b4 : Blk x5 g3 [.int .i64 (2 + r.nodes % 3), .int .i64 (1 + r.mutators % 3), .int .i64 (2 + r.slots % 4), .int .i64 (16 * (1 + r.cel % 8)), .int .i64 (2 + r.objects % 14), .int .i64 (2 + r.stubs % 10), .int .i64 (1 + r.calls % 6), .int .i64 (1 + r.window % 4), .int .i64 (1 + r.grey % 8), .int .i64 (0), .int .i64 (0), .int .u64 (0), .int .u64 (0), .int .u64 (0), .int .u64 (0), .int .u64 (0), .int .u64 (0), .int .i64 (0), .int .i64 (0), .int .i64 (0), .int .u64 (0), .int .u64 (0)] 26 := b3'
  clear b3'
  replace b3 := b4
  clear b4
  refine ld_int (b1.cat 9 _ rfl) (pick_spec (by decide) (by decide) ⟨_, rfl, ?_⟩)
  rw [wadd (by decide) (by decide) (by decide)]
  refine stB b3 (by simp only [List.length_cons, List.length_nil]; omega) fun x6 b3' f' => ?_
  replace F := F.loc f' h3
  replace b1 := b1.off1 n1 f'
  replace b2 := b2.off1 n2 f'
  clear f'
  have b4 : Blk x6 g3 [.int .i64 (2 + r.nodes % 3), .int .i64 (1 + r.mutators % 3), .int .i64 (2 + r.slots % 4), .int .i64 (16 * (1 + r.cel % 8)), .int .i64 (2 + r.objects % 14), .int .i64 (2 + r.stubs % 10), .int .i64 (1 + r.calls % 6), .int .i64 (1 + r.window % 4), .int .i64 (1 + r.grey % 8), .int .i64 (4 + r.bag % 60), .int .i64 (0), .int .u64 (0), .int .u64 (0), .int .u64 (0), .int .u64 (0), .int .u64 (0), .int .u64 (0), .int .i64 (0), .int .i64 (0), .int .i64 (0), .int .u64 (0), .int .u64 (0)] 26 := b3'
  clear b3'
  replace b3 := b4
  clear b4
  refine ld_int (b1.cat 10 _ rfl) (pick_spec (by decide) (by decide) ⟨_, rfl, ?_⟩)
  rw [wadd (by decide) (by decide) (by decide)]
  refine stB b3 (by simp only [List.length_cons, List.length_nil]; omega) fun x7 b3' f' => ?_
  replace F := F.loc f' h3
  replace b1 := b1.off1 n1 f'
  replace b2 := b2.off1 n2 f'
  clear f'
  have b4 : Blk x7 g3 [.int .i64 (2 + r.nodes % 3), .int .i64 (1 + r.mutators % 3), .int .i64 (2 + r.slots % 4), .int .i64 (16 * (1 + r.cel % 8)), .int .i64 (2 + r.objects % 14), .int .i64 (2 + r.stubs % 10), .int .i64 (1 + r.calls % 6), .int .i64 (1 + r.window % 4), .int .i64 (1 + r.grey % 8), .int .i64 (4 + r.bag % 60), .int .i64 (1 + r.inbox % 4), .int .u64 (0), .int .u64 (0), .int .u64 (0), .int .u64 (0), .int .u64 (0), .int .u64 (0), .int .i64 (0), .int .i64 (0), .int .i64 (0), .int .u64 (0), .int .u64 (0)] 26 := b3'
  clear b3'
  replace b3 := b4
  clear b4
  refine ld_int (b1.cat 11 _ rfl) (pick_spec (by decide) (by decide) ⟨_, rfl, ?_⟩)
  rw [wadd (by decide) (by decide) (by decide)]
  rw [waddu (by decide) (by decide) (by decide)]
  refine stB b3 (by simp only [List.length_cons, List.length_nil]; omega) fun x8 b3' f' => ?_
  replace F := F.loc f' h3
  replace b1 := b1.off1 n1 f'
  replace b2 := b2.off1 n2 f'
  clear f'
  have b4 : Blk x8 g3 [.int .i64 (2 + r.nodes % 3), .int .i64 (1 + r.mutators % 3), .int .i64 (2 + r.slots % 4), .int .i64 (16 * (1 + r.cel % 8)), .int .i64 (2 + r.objects % 14), .int .i64 (2 + r.stubs % 10), .int .i64 (1 + r.calls % 6), .int .i64 (1 + r.window % 4), .int .i64 (1 + r.grey % 8), .int .i64 (4 + r.bag % 60), .int .i64 (1 + r.inbox % 4), .int .u64 (4 + r.unit % 20), .int .u64 (0), .int .u64 (0), .int .u64 (0), .int .u64 (0), .int .u64 (0), .int .i64 (0), .int .i64 (0), .int .i64 (0), .int .u64 (0), .int .u64 (0)] 26 := b3'
  clear b3'
  replace b3 := b4
  clear b4
  refine ld_int (b1.cat 12 _ rfl) (ld_int (b3.cat 11 _ rfl) ⟨by decide, ?_⟩)
  rw [half_eq]
  refine pick_spec (half_pos _).1 (half_pos _).2 ⟨_, rfl, ?_⟩
  rw [wmodu (half_pos _).1 (half_pos _).2]
  refine stB b3 (by simp only [List.length_cons, List.length_nil]; omega) fun x9 b3' f' => ?_
  replace F := F.loc f' h3
  replace b1 := b1.off1 n1 f'
  replace b2 := b2.off1 n2 f'
  clear f'
  have b4 : Blk x9 g3 [.int .i64 (2 + r.nodes % 3), .int .i64 (1 + r.mutators % 3), .int .i64 (2 + r.slots % 4), .int .i64 (16 * (1 + r.cel % 8)), .int .i64 (2 + r.objects % 14), .int .i64 (2 + r.stubs % 10), .int .i64 (1 + r.calls % 6), .int .i64 (1 + r.window % 4), .int .i64 (1 + r.grey % 8), .int .i64 (4 + r.bag % 60), .int .i64 (1 + r.inbox % 4), .int .u64 (4 + r.unit % 20), .int .u64 (r.drift % ((4 + r.unit % 20) / 2)), .int .u64 (0), .int .u64 (0), .int .u64 (0), .int .u64 (0), .int .i64 (0), .int .i64 (0), .int .i64 (0), .int .u64 (0), .int .u64 (0)] 26 := b3'
  clear b3'
  replace b3 := b4
  clear b4
  refine drawn fun x10 f' _ => ?_
  replace F := F.tr f'
  replace b1 := b1.keep' f'
  replace b2 := b2.keep' f'
  replace b3 := b3.keep' f'
  clear f'
  refine ld_int (b3.cat 11 _ rfl) (ld_int (b1.cat 13 _ rfl) (pick_spec (by decide) (by decide) ⟨_, rfl, ⟨b3.cat 11 _ rfl, b3.cat 11 _ rfl⟩, ?_⟩))
  rw [wadd (by decide) (by decide) (by decide)]
  rw [waddu (by decide) (by decide) (by decide)]
  rw [wmul _ _ (by decide) (by decide) (by decide)]
  refine stB b3 (by simp only [List.length_cons, List.length_nil]; omega) fun x11 b3' f' => ?_
  replace F := F.loc f' h3
  replace b1 := b1.off1 n1 f'
  replace b2 := b2.off1 n2 f'
  clear f'
  have b4 : Blk x11 g3 [.int .i64 (2 + r.nodes % 3), .int .i64 (1 + r.mutators % 3), .int .i64 (2 + r.slots % 4), .int .i64 (16 * (1 + r.cel % 8)), .int .i64 (2 + r.objects % 14), .int .i64 (2 + r.stubs % 10), .int .i64 (1 + r.calls % 6), .int .i64 (1 + r.window % 4), .int .i64 (1 + r.grey % 8), .int .i64 (4 + r.bag % 60), .int .i64 (1 + r.inbox % 4), .int .u64 (4 + r.unit % 20), .int .u64 (r.drift % ((4 + r.unit % 20) / 2)), .int .u64 ((4 + r.unit % 20) * (40 + r.lease % 200)), .int .u64 (0), .int .u64 (0), .int .u64 (0), .int .i64 (0), .int .i64 (0), .int .i64 (0), .int .u64 (0), .int .u64 (0)] 26 := b3'
  clear b3'
  replace b3 := b4
  clear b4
  refine ld_int (b1.cat 14 _ rfl) (pick_spec (by decide) (by decide) ⟨_, rfl, ?_⟩)
  rw [wadd (by decide) (by decide) (by decide)]
  rw [waddu (by decide) (by decide) (by decide)]
  refine stB b3 (by simp only [List.length_cons, List.length_nil]; omega) fun x12 b3' f' => ?_
  replace F := F.loc f' h3
  replace b1 := b1.off1 n1 f'
  replace b2 := b2.off1 n2 f'
  clear f'
  have b4 : Blk x12 g3 [.int .i64 (2 + r.nodes % 3), .int .i64 (1 + r.mutators % 3), .int .i64 (2 + r.slots % 4), .int .i64 (16 * (1 + r.cel % 8)), .int .i64 (2 + r.objects % 14), .int .i64 (2 + r.stubs % 10), .int .i64 (1 + r.calls % 6), .int .i64 (1 + r.window % 4), .int .i64 (1 + r.grey % 8), .int .i64 (4 + r.bag % 60), .int .i64 (1 + r.inbox % 4), .int .u64 (4 + r.unit % 20), .int .u64 (r.drift % ((4 + r.unit % 20) / 2)), .int .u64 ((4 + r.unit % 20) * (40 + r.lease % 200)), .int .u64 (1 + r.wait % 30), .int .u64 (0), .int .u64 (0), .int .i64 (0), .int .i64 (0), .int .i64 (0), .int .u64 (0), .int .u64 (0)] 26 := b3'
  clear b3'
  replace b3 := b4
  clear b4
  refine drawn fun x13 f' _ => ?_
  replace F := F.tr f'
  replace b1 := b1.keep' f'
  replace b2 := b2.keep' f'
  replace b3 := b3.keep' f'
  clear f'
  refine ld_int (b3.cat 14 _ rfl) (ld_int (b1.cat 15 _ rfl) (pick_spec (by decide) (by decide) ⟨_, rfl, ⟨b3.cat 14 _ rfl, b3.cat 14 _ rfl⟩, ?_⟩))
  rw [wmodu (by decide) (by decide), wthree]
  refine stB b3 (by simp only [List.length_cons, List.length_nil]; omega) fun x14 b3' f' => ?_
  replace F := F.loc f' h3
  replace b1 := b1.off1 n1 f'
  replace b2 := b2.off1 n2 f'
  clear f'
  have b4 : Blk x14 g3 [.int .i64 (2 + r.nodes % 3), .int .i64 (1 + r.mutators % 3), .int .i64 (2 + r.slots % 4), .int .i64 (16 * (1 + r.cel % 8)), .int .i64 (2 + r.objects % 14), .int .i64 (2 + r.stubs % 10), .int .i64 (1 + r.calls % 6), .int .i64 (1 + r.window % 4), .int .i64 (1 + r.grey % 8), .int .i64 (4 + r.bag % 60), .int .i64 (1 + r.inbox % 4), .int .u64 (4 + r.unit % 20), .int .u64 (r.drift % ((4 + r.unit % 20) / 2)), .int .u64 ((4 + r.unit % 20) * (40 + r.lease % 200)), .int .u64 (1 + r.wait % 30), .int .u64 (1 + r.wait % 30 + r.most % 60), .int .u64 (0), .int .i64 (0), .int .i64 (0), .int .i64 (0), .int .u64 (0), .int .u64 (0)] 26 := b3'
  clear b3'
  replace b3 := b4
  clear b4
  refine drawn fun x15 f' _ => ?_
  replace F := F.tr f'
  replace b1 := b1.keep' f'
  replace b2 := b2.keep' f'
  replace b3 := b3.keep' f'
  clear f'
  refine ld_int (b3.cat 11 _ rfl) (ld_int (b1.cat 16 _ rfl) (pick_spec (by decide) (by decide) ⟨_, rfl, ⟨b3.cat 11 _ rfl, b3.cat 11 _ rfl⟩, ?_⟩))
  rw [wadd (by decide) (by decide) (by decide)]
  rw [waddu (by decide) (by decide) (by decide)]
  rw [wmul _ _ (by decide) (by decide) (by decide)]
  refine stB b3 (by simp only [List.length_cons, List.length_nil]; omega) fun x16 b3' f' => ?_
  replace F := F.loc f' h3
  replace b1 := b1.off1 n1 f'
  replace b2 := b2.off1 n2 f'
  clear f'
  have b4 : Blk x16 g3 [.int .i64 (2 + r.nodes % 3), .int .i64 (1 + r.mutators % 3), .int .i64 (2 + r.slots % 4), .int .i64 (16 * (1 + r.cel % 8)), .int .i64 (2 + r.objects % 14), .int .i64 (2 + r.stubs % 10), .int .i64 (1 + r.calls % 6), .int .i64 (1 + r.window % 4), .int .i64 (1 + r.grey % 8), .int .i64 (4 + r.bag % 60), .int .i64 (1 + r.inbox % 4), .int .u64 (4 + r.unit % 20), .int .u64 (r.drift % ((4 + r.unit % 20) / 2)), .int .u64 ((4 + r.unit % 20) * (40 + r.lease % 200)), .int .u64 (1 + r.wait % 30), .int .u64 (1 + r.wait % 30 + r.most % 60), .int .u64 ((4 + r.unit % 20) * (1 + r.patience % 60)), .int .i64 (0), .int .i64 (0), .int .i64 (0), .int .u64 (0), .int .u64 (0)] 26 := b3'
  clear b3'
  replace b3 := b4
  clear b4
  refine ld_int (b1.cat 17 _ rfl) (pick_spec (by decide) (by decide) ⟨_, rfl, ?_⟩)
  rw [wadd (by decide) (by decide) (by decide)]
  refine stB b3 (by simp only [List.length_cons, List.length_nil]; omega) fun x17 b3' f' => ?_
  replace F := F.loc f' h3
  replace b1 := b1.off1 n1 f'
  replace b2 := b2.off1 n2 f'
  clear f'
  have b4 : Blk x17 g3 [.int .i64 (2 + r.nodes % 3), .int .i64 (1 + r.mutators % 3), .int .i64 (2 + r.slots % 4), .int .i64 (16 * (1 + r.cel % 8)), .int .i64 (2 + r.objects % 14), .int .i64 (2 + r.stubs % 10), .int .i64 (1 + r.calls % 6), .int .i64 (1 + r.window % 4), .int .i64 (1 + r.grey % 8), .int .i64 (4 + r.bag % 60), .int .i64 (1 + r.inbox % 4), .int .u64 (4 + r.unit % 20), .int .u64 (r.drift % ((4 + r.unit % 20) / 2)), .int .u64 ((4 + r.unit % 20) * (40 + r.lease % 200)), .int .u64 (1 + r.wait % 30), .int .u64 (1 + r.wait % 30 + r.most % 60), .int .u64 ((4 + r.unit % 20) * (1 + r.patience % 60)), .int .i64 (1 + r.suspect % 4), .int .i64 (0), .int .i64 (0), .int .u64 (0), .int .u64 (0)] 26 := b3'
  clear b3'
  replace b3 := b4
  clear b4
  refine drawn fun x18 f' _ => ?_
  replace F := F.tr f'
  replace b1 := b1.keep' f'
  replace b2 := b2.keep' f'
  replace b3 := b3.keep' f'
  clear f'
  refine ld_int (b3.cat 17 _ rfl) (ld_int (b1.cat 18 _ rfl) (pick_spec (by decide) (by decide) ⟨_, rfl, ⟨b3.cat 17 _ rfl, b3.cat 17 _ rfl⟩, ?_⟩))
  rw [wfour]
  refine stB b3 (by simp only [List.length_cons, List.length_nil]; omega) fun x19 b3' f' => ?_
  replace F := F.loc f' h3
  replace b1 := b1.off1 n1 f'
  replace b2 := b2.off1 n2 f'
  clear f'
  have b4 : Blk x19 g3 [.int .i64 (2 + r.nodes % 3), .int .i64 (1 + r.mutators % 3), .int .i64 (2 + r.slots % 4), .int .i64 (16 * (1 + r.cel % 8)), .int .i64 (2 + r.objects % 14), .int .i64 (2 + r.stubs % 10), .int .i64 (1 + r.calls % 6), .int .i64 (1 + r.window % 4), .int .i64 (1 + r.grey % 8), .int .i64 (4 + r.bag % 60), .int .i64 (1 + r.inbox % 4), .int .u64 (4 + r.unit % 20), .int .u64 (r.drift % ((4 + r.unit % 20) / 2)), .int .u64 ((4 + r.unit % 20) * (40 + r.lease % 200)), .int .u64 (1 + r.wait % 30), .int .u64 (1 + r.wait % 30 + r.most % 60), .int .u64 ((4 + r.unit % 20) * (1 + r.patience % 60)), .int .i64 (1 + r.suspect % 4), .int .i64 (1 + r.suspect % 4 + 1 + r.trace % 4), .int .i64 (0), .int .u64 (0), .int .u64 (0)] 26 := b3'
  clear b3'
  replace b3 := b4
  clear b4
  refine ld_int (b1.cat 19 _ rfl) (pick_spec (by decide) (by decide) ⟨_, rfl, ?_⟩)
  rw [wadd (by decide) (by decide) (by decide)]
  refine stB b3 (by simp only [List.length_cons, List.length_nil]; omega) fun x20 b3' f' => ?_
  replace F := F.loc f' h3
  replace b1 := b1.off1 n1 f'
  replace b2 := b2.off1 n2 f'
  clear f'
  have b4 : Blk x20 g3 [.int .i64 (2 + r.nodes % 3), .int .i64 (1 + r.mutators % 3), .int .i64 (2 + r.slots % 4), .int .i64 (16 * (1 + r.cel % 8)), .int .i64 (2 + r.objects % 14), .int .i64 (2 + r.stubs % 10), .int .i64 (1 + r.calls % 6), .int .i64 (1 + r.window % 4), .int .i64 (1 + r.grey % 8), .int .i64 (4 + r.bag % 60), .int .i64 (1 + r.inbox % 4), .int .u64 (4 + r.unit % 20), .int .u64 (r.drift % ((4 + r.unit % 20) / 2)), .int .u64 ((4 + r.unit % 20) * (40 + r.lease % 200)), .int .u64 (1 + r.wait % 30), .int .u64 (1 + r.wait % 30 + r.most % 60), .int .u64 ((4 + r.unit % 20) * (1 + r.patience % 60)), .int .i64 (1 + r.suspect % 4), .int .i64 (1 + r.suspect % 4 + 1 + r.trace % 4), .int .i64 (1 + r.work % 12), .int .u64 (0), .int .u64 (0)] 26 := b3'
  clear b3'
  replace b3 := b4
  clear b4
  refine ld_int (b1.cat 20 _ rfl) ⟨by decide, ?_⟩
  refine stB b3 (by simp only [List.length_cons, List.length_nil]; omega) fun x21 b3' f' => ?_
  replace F := F.loc f' h3
  replace b1 := b1.off1 n1 f'
  replace b2 := b2.off1 n2 f'
  clear f'
  have b4 : Blk x21 g3 [.int .i64 (2 + r.nodes % 3), .int .i64 (1 + r.mutators % 3), .int .i64 (2 + r.slots % 4), .int .i64 (16 * (1 + r.cel % 8)), .int .i64 (2 + r.objects % 14), .int .i64 (2 + r.stubs % 10), .int .i64 (1 + r.calls % 6), .int .i64 (1 + r.window % 4), .int .i64 (1 + r.grey % 8), .int .i64 (4 + r.bag % 60), .int .i64 (1 + r.inbox % 4), .int .u64 (4 + r.unit % 20), .int .u64 (r.drift % ((4 + r.unit % 20) / 2)), .int .u64 ((4 + r.unit % 20) * (40 + r.lease % 200)), .int .u64 (1 + r.wait % 30), .int .u64 (1 + r.wait % 30 + r.most % 60), .int .u64 ((4 + r.unit % 20) * (1 + r.patience % 60)), .int .i64 (1 + r.suspect % 4), .int .i64 (1 + r.suspect % 4 + 1 + r.trace % 4), .int .i64 (1 + r.work % 12), .int .u64 (Int.tmod r.start 1000), .int .u64 (0)] 26 := b3'
  clear b3'
  replace b3 := b4
  clear b4
  refine ld_int (b1.cat 21 _ rfl) ⟨by decide, ?_⟩
  refine stB b3 (by simp only [List.length_cons, List.length_nil]; omega) fun x22 b3' f' => ?_
  replace F := F.loc f' h3
  replace b1 := b1.off1 n1 f'
  replace b2 := b2.off1 n2 f'
  clear f'
  have b4 : Blk x22 g3 [.int .i64 (2 + r.nodes % 3), .int .i64 (1 + r.mutators % 3), .int .i64 (2 + r.slots % 4), .int .i64 (16 * (1 + r.cel % 8)), .int .i64 (2 + r.objects % 14), .int .i64 (2 + r.stubs % 10), .int .i64 (1 + r.calls % 6), .int .i64 (1 + r.window % 4), .int .i64 (1 + r.grey % 8), .int .i64 (4 + r.bag % 60), .int .i64 (1 + r.inbox % 4), .int .u64 (4 + r.unit % 20), .int .u64 (r.drift % ((4 + r.unit % 20) / 2)), .int .u64 ((4 + r.unit % 20) * (40 + r.lease % 200)), .int .u64 (1 + r.wait % 30), .int .u64 (1 + r.wait % 30 + r.most % 60), .int .u64 ((4 + r.unit % 20) * (1 + r.patience % 60)), .int .i64 (1 + r.suspect % 4), .int .i64 (1 + r.suspect % 4 + 1 + r.trace % 4), .int .i64 (1 + r.work % 12), .int .u64 (Int.tmod r.start 1000), .int .u64 (Int.tmod r.last 1000)] 26 := b3'
  clear b3'
  replace b3 := b4
  clear b4
  refine ld_Cfg (s := configOf r) b3.cat (stAllB (vs := (configOf r).cells) b2 ho.symm fun wz bz fz => ld_Cfg (s := configOf r) bz.cat (hQ _ (F.loc fz h2)))
theorem config_spec (hQ : ∀ w', Fr [] w w' → Q (configOf r).val w') : CallR Try.prog 7 #[r.val] w Q := by
  apply X7.sound
  unfold X7.f
  refine newB fun g1 w2 b1 f2 h1 => newB fun g3 w4 b3 f4 h3 => drawn fun w5 f5 _ => ?_
  have b1 : Blk w5 g1 r.cells 24 := b1.keep' (f4.tr f5)
  have b3 := b3.keep' f5
  have F := (f2.tr f4).tr f5
  have s2 := f2.size
  have l1 := b1.lt
  have l3 := b3.lt
  have m0 := md (n := r.nodes) (m := 3) (by omega)
  have m1 := md (n := r.mutators) (m := 3) (by omega)
  have m2 := md (n := r.slots) (m := 4) (by omega)
  have m3 := md (n := r.cel) (m := 8) (by omega)
  have e0 : IntKind.wrap .i64 (2 + r.nodes % 3) = 2 + r.nodes % 3 := i64w _ (by omega) (by omega)
  have e1 : IntKind.wrap .i64 (1 + r.mutators % 3) = 1 + r.mutators % 3 := i64w _ (by omega) (by omega)
  have e2 : IntKind.wrap .i64 (2 + r.slots % 4) = 2 + r.slots % 4 := i64w _ (by omega) (by omega)
  have e3 : IntKind.wrap .i64 (16 * IntKind.wrap .i64 (1 + r.cel % 8)) = 16 * (1 + r.cel % 8) := by rw [i64w (1 + r.cel % 8) (by omega) (by omega), i64w _ (by omega) (by omega)]
  have fin : ∀ {g22 : Nat} {w23 : World} {old : List Value}, Blk w23 g22 old 26 → old.length = 22 → Fr [] w5 w23 → w5.heap.size ≤ g22 → stAll w23 (at0 g22 0) (cfg4 r) fun w24 => X7.j0 Q (at0 g1 0) (at0 g3 0) (at0 g22 0) w24 := by
    intro g22 w23 old b ho f h
    refine stAllB b ho.symm fun w24 b24 f24 => ?_
    have z := F.size
    exact config_j0 (W := w) ((b1.keep' f).off1 (by omega) f24) b24 ((b3.keep' f).off1 (by omega) f24) rfl (by omega) (by omega) ((F.tr f).loc f24 (by omega)) (by omega) (by omega) hQ
  refine ⟨?_, ?_, ?_, ?_, ?_⟩
  · (repeat (first | refine ld_int (b1.cat _ _ rfl) ?_ | refine pick_spec (by omega) (by omega) ⟨_, rfl, ?_⟩ | refine ⟨⟨b1.cat _ _ rfl, b1.cat _ _ rfl⟩, ?_⟩))
    refine newB fun g22 w23 b22 f23 h23 => ?_
    have b1' := b1.keep' f23
    (repeat (first | refine ⟨⟨b1.cat _ _ rfl, b1'.cat _ _ rfl⟩, ?_⟩ | refine pick_spec (by omega) (by omega) ⟨_, rfl, ?_⟩ | refine ⟨⟨b1'.cat _ _ rfl, b1'.cat _ _ rfl⟩, ?_⟩))
    rw [e0, e1, e2, e3]
    exact fin b22 rfl f23 h23
  · (repeat (first | refine ld_int (b1.cat _ _ rfl) ?_ | refine pick_spec (by omega) (by omega) ⟨_, rfl, ?_⟩ | refine ⟨⟨b1.cat _ _ rfl, b1.cat _ _ rfl⟩, ?_⟩))
    refine newB fun g22 w23 b22 f23 h23 => ?_
    have b1' := b1.keep' f23
    (repeat (first | refine ⟨⟨b1.cat _ _ rfl, b1'.cat _ _ rfl⟩, ?_⟩ | refine pick_spec (by omega) (by omega) ⟨_, rfl, ?_⟩ | refine ⟨⟨b1'.cat _ _ rfl, b1'.cat _ _ rfl⟩, ?_⟩))
    rw [e0, e1, e2, e3]
    exact fin b22 rfl f23 h23
  · (repeat (first | refine ld_int (b1.cat _ _ rfl) ?_ | refine pick_spec (by omega) (by omega) ⟨_, rfl, ?_⟩ | refine ⟨⟨b1.cat _ _ rfl, b1.cat _ _ rfl⟩, ?_⟩))
    refine newB fun g22 w23 b22 f23 h23 => ?_
    have b1' := b1.keep' f23
    (repeat (first | refine ⟨⟨b1.cat _ _ rfl, b1'.cat _ _ rfl⟩, ?_⟩ | refine pick_spec (by omega) (by omega) ⟨_, rfl, ?_⟩ | refine ⟨⟨b1'.cat _ _ rfl, b1'.cat _ _ rfl⟩, ?_⟩))
    rw [e0, e1, e2, e3]
    exact fin b22 rfl f23 h23
  · (repeat (first | refine ld_int (b1.cat _ _ rfl) ?_ | refine pick_spec (by omega) (by omega) ⟨_, rfl, ?_⟩ | refine ⟨⟨b1.cat _ _ rfl, b1.cat _ _ rfl⟩, ?_⟩))
    refine newB fun g22 w23 b22 f23 h23 => ?_
    have b1' := b1.keep' f23
    (repeat (first | refine ⟨⟨b1.cat _ _ rfl, b1'.cat _ _ rfl⟩, ?_⟩ | refine pick_spec (by omega) (by omega) ⟨_, rfl, ?_⟩ | refine ⟨⟨b1'.cat _ _ rfl, b1'.cat _ _ rfl⟩, ?_⟩))
    rw [e0, e1, e2, e3]
    exact fin b22 rfl f23 h23
  · (repeat (first | refine ld_int (b1.cat _ _ rfl) ?_ | refine pick_spec (by omega) (by omega) ⟨_, rfl, ?_⟩ | refine ⟨⟨b1.cat _ _ rfl, b1.cat _ _ rfl⟩, ?_⟩))
    refine newB fun g22 w23 b22 f23 h23 => ?_
    have b1' := b1.keep' f23
    (repeat (first | refine ⟨⟨b1.cat _ _ rfl, b1'.cat _ _ rfl⟩, ?_⟩ | refine pick_spec (by omega) (by omega) ⟨_, rfl, ?_⟩ | refine ⟨⟨b1'.cat _ _ rfl, b1'.cat _ _ rfl⟩, ?_⟩))
    rw [e0, e1, e2, e3]
    exact fin b22 rfl f23 h23
end
def mayA (c : Cfg) : Bool := inB c.nodes 64 && inB c.mutators 4 && inB c.slots 8 && inB c.cel 4096 && (Int.tmod c.cel 16 == 0)
def mayC (c : Cfg) : Bool := inB c.objects 64 && inB c.stubs 64 && inB c.calls 16 && inB c.window 8 && inB c.grey 64 && inB c.bag 256 && inB c.inbox 16
def mayD (c : Cfg) : Bool := decide (c.unit ≥ 1) && decide (c.unit ≤ 1048576) && decide (c.drift < c.unit) && decide (c.lease ≤ 4294967295) && decide (IntKind.wrap .u64 (c.lease * IntKind.wrap .u64 (c.unit - c.drift)) ≥ IntKind.wrap .u64 (8 * IntKind.wrap .u64 (c.unit + c.drift)))
def mayE (c : Cfg) : Bool := decide (c.wait ≥ 1) && decide (c.wait ≤ c.most) && decide (c.most ≤ 4294967295) && decide (c.patience ≥ 1) && decide (c.patience ≤ 4294967295)
def mayF (c : Cfg) : Bool := inB c.suspect 38 && decide (c.trace > c.suspect) && decide (c.trace < 40) && inB c.work 64 && decide (c.start ≤ 4611686018427387904) && decide (c.last ≤ 72057594037927935)
def mayB (c : Cfg) : Bool := mayA c && mayC c && mayD c && mayE c && mayF c
section
variable {w w' W : World} {Q : Value → World → Prop} {g gt : Nat} {ft : List Nat} {c : Cfg}
theorem may_j0 {a b d e : Bool} (hb : Blk w g c.cells 26) (ha : a = mayA c) (hc : b = mayC c) (hd : d = mayD c) (he : e = mayE c) (hQ : Q (.bool (mayB c)) w) : X43.j0 Q (at0 g 0) a b d e w := by
  unfold X43.j0
  have no : mayB c = false → Q (.bool false) w := fun h => by rw [h] at hQ; exact hQ
  unfold mayB at *
  rw [← ha, ← hc, ← hd, ← he] at *
  refine bc_bool (fun h1 => bc_bool (fun h2 => bc_bool (fun h3 => bc_bool (fun h4 => ?_) (fun h => no (by simp [h]))) (fun h => no (by simp [h]))) (fun h => no (by simp [h]))) (fun h => no (by simp [h]))
  unfold mayF at *
  refine ld_int (hb.cat 17 _ rfl) (apin_spec ⟨_, rfl, bc_bool (fun h5 => ?_) (fun h => no (by simp [h]))⟩)
  refine ld_int (hb.cat 18 _ rfl) (ld_int (hb.cat 17 _ rfl) (bc_dec (fun h6 => ?_) (fun h => no (by simp [h]))))
  refine ld_int (hb.cat 18 _ rfl) (bc_dec (fun h7 => ?_) (fun h => no (by simp [h])))
  refine ld_int (hb.cat 19 _ rfl) (apin_spec ⟨_, rfl, bc_bool (fun h8 => ?_) (fun h => no (by simp [h]))⟩)
  refine ld_int (hb.cat 20 _ rfl) (bc_dec (fun h9 => ?_) (fun h => no (by simp [h])))
  refine ld_int (hb.cat 21 _ rfl) ?_
  have h6' : c.trace > c.suspect := h6
  simpa [h1, h2, h3, h4, h5, h6', h7, h8, h9] using hQ
theorem may_j1 {a b d : Bool} (hb : Blk w g c.cells 26) (ha : a = mayA c) (hc : b = mayC c) (hd : d = mayD c) (hQ : Q (.bool (mayB c)) w) : X43.j1 Q (at0 g 0) a b d w := by
  unfold X43.j1
  have no : mayE c = false → X43.j0 Q (at0 g 0) a b d false w := fun h => may_j0 hb ha hc hd h.symm hQ
  unfold mayE at no
  refine ld_int (hb.cat 14 _ rfl) (bc_dec (fun h1 => ?_) (fun h => no (by simp [h])))
  refine ld_int (hb.cat 14 _ rfl) (ld_int (hb.cat 15 _ rfl) (bc_dec (fun h2 => ?_) (fun h => no (by simp [h]))))
  refine ld_int (hb.cat 15 _ rfl) (bc_dec (fun h3 => ?_) (fun h => no (by simp [h])))
  refine ld_int (hb.cat 16 _ rfl) (bc_dec (fun h4 => ?_) (fun h => no (by simp [h])))
  exact ld_int (hb.cat 16 _ rfl) (may_j0 hb ha hc hd (by simp [mayE, h1, h2, h3, h4]) hQ)
theorem may_j2 {a b : Bool} (hb : Blk w g c.cells 26) (ha : a = mayA c) (hc : b = mayC c) (hQ : Q (.bool (mayB c)) w) : X43.j2 Q (at0 g 0) a b w := by
  unfold X43.j2
  have no : mayD c = false → X43.j1 Q (at0 g 0) a b false w := fun h => may_j1 hb ha hc h.symm hQ
  unfold mayD at no
  refine ld_int (hb.cat 11 _ rfl) (bc_dec (fun h1 => ?_) (fun h => no (by simp [h])))
  refine ld_int (hb.cat 11 _ rfl) (bc_dec (fun h2 => ?_) (fun h => no (by simp [h])))
  refine ld_int (hb.cat 12 _ rfl) (ld_int (hb.cat 11 _ rfl) (bc_dec (fun h3 => ?_) (fun h => no (by simp [h]))))
  refine ld_int (hb.cat 13 _ rfl) (bc_dec (fun h4 => ?_) (fun h => no (by simp [h])))
  exact ld_int (hb.cat 13 _ rfl) (ld_int (hb.cat 11 _ rfl) (ld_int (hb.cat 12 _ rfl) (ld_int (hb.cat 11 _ rfl) (ld_int (hb.cat 12 _ rfl) (may_j1 hb ha hc (by simp [mayD, h1, h2, h3, h4]) hQ)))))
theorem may_j3 {a : Bool} (hb : Blk w g c.cells 26) (ha : a = mayA c) (hQ : Q (.bool (mayB c)) w) : X43.j3 Q (at0 g 0) a w := by
  unfold X43.j3
  have no : mayC c = false → X43.j2 Q (at0 g 0) a false w := fun h => may_j2 hb ha h.symm hQ
  unfold mayC at no
  refine ld_int (hb.cat 4 _ rfl) (apin_spec ⟨_, rfl, bc_bool (fun h1 => ?_) (fun h => no (by simp [h]))⟩)
  refine ld_int (hb.cat 5 _ rfl) (apin_spec ⟨_, rfl, bc_bool (fun h2 => ?_) (fun h => no (by simp [h]))⟩)
  refine ld_int (hb.cat 6 _ rfl) (apin_spec ⟨_, rfl, bc_bool (fun h3 => ?_) (fun h => no (by simp [h]))⟩)
  refine ld_int (hb.cat 7 _ rfl) (apin_spec ⟨_, rfl, bc_bool (fun h4 => ?_) (fun h => no (by simp [h]))⟩)
  refine ld_int (hb.cat 8 _ rfl) (apin_spec ⟨_, rfl, bc_bool (fun h5 => ?_) (fun h => no (by simp [h]))⟩)
  refine ld_int (hb.cat 9 _ rfl) (apin_spec ⟨_, rfl, bc_bool (fun h6 => ?_) (fun h => no (by simp [h]))⟩)
  exact ld_int (hb.cat 10 _ rfl) (apin_spec ⟨_, rfl, may_j2 hb ha (by simp [mayC, h1, h2, h3, h4, h5, h6]) hQ⟩)
theorem may_spec (hQ : ∀ w', Fr [] w w' → Q (.bool (mayB c)) w') : CallR Try.prog 43 #[c.val] w Q := by
  apply X43.sound
  unfold X43.f
  refine newB fun g w2 hb f2 _ => ?_
  have hb : Blk w2 g c.cells 26 := hb
  have no : mayA c = false → X43.j3 Q (at0 g 0) false w2 := fun h => may_j3 hb h.symm (hQ _ f2)
  unfold mayA at no
  refine ld_int (hb.cat 0 _ rfl) (apin_spec ⟨_, rfl, bc_bool (fun h1 => ?_) (fun h => no (by simp [h]))⟩)
  refine ld_int (hb.cat 1 _ rfl) (apin_spec ⟨_, rfl, bc_bool (fun h2 => ?_) (fun h => no (by simp [h]))⟩)
  refine ld_int (hb.cat 2 _ rfl) (apin_spec ⟨_, rfl, bc_bool (fun h3 => ?_) (fun h => no (by simp [h]))⟩)
  refine ld_int (hb.cat 3 _ rfl) (apin_spec ⟨_, rfl, bc_bool (fun h4 => ?_) (fun h => no (by simp [h]))⟩)
  exact ld_int (hb.cat 3 _ rfl) ⟨by omega, may_j3 hb (by simp [mayA, h1, h2, h3, h4]) (hQ _ f2)⟩
theorem may_stubs (h : mayB c = true) : 1 ≤ c.stubs ∧ c.stubs ≤ 64 := by
  simp only [mayB, mayC, Bool.and_eq_true] at h
  have := h.1.1.1.2.1.1.1.1.1.2
  unfold inB at this
  split at this
  · simp at this; omega
  · cases this
theorem may_nodes (h : mayB c = true) : 1 ≤ c.nodes ∧ c.nodes ≤ 64 := by
  simp only [mayB, mayA, Bool.and_eq_true] at h
  have := h.1.1.1.1.1.1.1.1
  unfold inB at this
  split at this
  · simp at this; omega
  · cases this
theorem may_unit (h : mayB c = true) : 1 ≤ c.unit ∧ c.unit ≤ 1048576 ∧ c.drift < c.unit ∧ c.lease ≤ 4294967295 := by
  simp only [mayB, mayD, Bool.and_eq_true, decide_eq_true_eq] at h
  exact ⟨h.1.1.2.1.1.1.1, h.1.1.2.1.1.1.2, h.1.1.2.1.1.2, h.1.1.2.1.2⟩
theorem may_wait (h : mayB c = true) : 1 ≤ c.wait ∧ c.wait ≤ c.most ∧ c.most ≤ 4294967295 := by
  simp only [mayB, mayE, Bool.and_eq_true, decide_eq_true_eq] at h
  exact ⟨h.1.2.1.1.1.1, h.1.2.1.1.1.2, h.1.2.1.1.2⟩
end
structure RawW (r : Raw) : Prop where
  s0 : 0 ≤ r.start
  l0 : 0 ≤ r.last
theorem inB_of {n most : Int} (h1 : 1 ≤ n) (h2 : n ≤ most) : inB n most = true := by unfold inB; rw [if_pos h1, decide_eq_true h2]
theorem drift_half (r : Raw) : 0 ≤ (configOf r).drift ∧ 2 * (configOf r).drift + 2 ≤ (configOf r).unit ∧ 4 ≤ (configOf r).unit ∧ (configOf r).unit ≤ 23 := by
  have m := md (n := r.unit) (m := 20) (by omega)
  have d := md (n := r.drift) (m := (4 + r.unit % 20) / 2) (by omega)
  show 0 ≤ r.drift % ((4 + r.unit % 20) / 2) ∧ 2 * (r.drift % ((4 + r.unit % 20) / 2)) + 2 ≤ 4 + r.unit % 20 ∧ 4 ≤ 4 + r.unit % 20 ∧ 4 + r.unit % 20 ≤ 23
  omega
theorem lease_rng (r : Raw) : 160 ≤ (configOf r).lease ∧ (configOf r).lease ≤ 5497 := by
  have m := md (n := r.unit) (m := 20) (by omega)
  have d := md (n := r.lease) (m := 200) (by omega)
  have h1 := Int.mul_le_mul (a := 4) (b := 40) (c := 4 + r.unit % 20) (d := 40 + r.lease % 200) (by omega) (by omega) (by omega) (by omega)
  have h2 := Int.mul_le_mul (a := 4 + r.unit % 20) (b := 40 + r.lease % 200) (c := 23) (d := 239) (by omega) (by omega) (by omega) (by omega)
  show 160 ≤ (4 + r.unit % 20) * (40 + r.lease % 200) ∧ (4 + r.unit % 20) * (40 + r.lease % 200) ≤ 5497
  omega
theorem may_config {r : Raw} (hr : RawW r) : mayB (configOf r) = true := by
  have dh := drift_half r
  have ls := lease_rng r
  have hA : mayA (configOf r) = true := by
    have a0 := md (n := r.nodes) (m := 3) (by omega)
    have a1 := md (n := r.mutators) (m := 3) (by omega)
    have a2 := md (n := r.slots) (m := 4) (by omega)
    have a3 := md (n := r.cel) (m := 8) (by omega)
    unfold mayA configOf
    simp only
    rw [inB_of (by omega) (by omega), inB_of (by omega) (by omega), inB_of (by omega) (by omega), inB_of (by omega) (by omega), Int.tmod_eq_emod_of_nonneg (by omega), show 16 * (1 + r.cel % 8) % 16 = 0 by omega]
    rfl
  have hC : mayC (configOf r) = true := by
    have a0 := md (n := r.objects) (m := 14) (by omega)
    have a1 := md (n := r.stubs) (m := 10) (by omega)
    have a2 := md (n := r.calls) (m := 6) (by omega)
    have a3 := md (n := r.window) (m := 4) (by omega)
    have a4 := md (n := r.grey) (m := 8) (by omega)
    have a5 := md (n := r.bag) (m := 60) (by omega)
    have a6 := md (n := r.inbox) (m := 4) (by omega)
    unfold mayC configOf
    simp only
    rw [inB_of (by omega) (by omega), inB_of (by omega) (by omega), inB_of (by omega) (by omega), inB_of (by omega) (by omega), inB_of (by omega) (by omega), inB_of (by omega) (by omega), inB_of (by omega) (by omega)]
    rfl
  have hD : mayD (configOf r) = true := by
    have p1 := mul_rng (a := (configOf r).lease) (b := (configOf r).unit - (configOf r).drift) (A := 5497) (B := 23) (by omega) (by omega) (by omega) (by omega)
    have p2 := Int.mul_le_mul_of_nonneg_right (a := 160) (b := (configOf r).lease) (c := (configOf r).unit - (configOf r).drift) (by omega) (by omega)
    unfold mayD
    rw [u64w ((configOf r).unit - (configOf r).drift) (by omega) (by omega), u64w ((configOf r).unit + (configOf r).drift) (by omega) (by omega), u64w ((configOf r).lease * _) (by omega) (by omega), u64w (8 * _) (by omega) (by omega)]
    rw [decide_eq_true (by omega), decide_eq_true (by omega), decide_eq_true (by omega), decide_eq_true (by omega), decide_eq_true (by omega)]
    rfl
  have hE : mayE (configOf r) = true := by
    have a0 := md (n := r.wait) (m := 30) (by omega)
    have a1 := md (n := r.most) (m := 60) (by omega)
    have a2 := md (n := r.unit) (m := 20) (by omega)
    have a3 := md (n := r.patience) (m := 60) (by omega)
    have h1 := Int.mul_le_mul (a := 4) (b := 1) (c := 4 + r.unit % 20) (d := 1 + r.patience % 60) (by omega) (by omega) (by omega) (by omega)
    have h2 := Int.mul_le_mul (a := 4 + r.unit % 20) (b := 1 + r.patience % 60) (c := 23) (d := 60) (by omega) (by omega) (by omega) (by omega)
    unfold mayE configOf
    simp only
    rw [decide_eq_true (by omega), decide_eq_true (by omega), decide_eq_true (by omega), decide_eq_true (by omega), decide_eq_true (by omega)]
    rfl
  have hF : mayF (configOf r) = true := by
    have a0 := md (n := r.suspect) (m := 4) (by omega)
    have a1 := md (n := r.trace) (m := 4) (by omega)
    have a2 := md (n := r.work) (m := 12) (by omega)
    have s1 : Int.tmod r.start 1000 < 1000 := by rw [Int.tmod_eq_emod_of_nonneg hr.s0]; exact Int.emod_lt_of_pos _ (by omega)
    have s2 : Int.tmod r.last 1000 < 1000 := by rw [Int.tmod_eq_emod_of_nonneg hr.l0]; exact Int.emod_lt_of_pos _ (by omega)
    unfold mayF configOf
    simp only
    rw [inB_of (by omega) (by omega), decide_eq_true (by omega), decide_eq_true (by omega), inB_of (by omega) (by omega), decide_eq_true (by omega), decide_eq_true (by omega)]
    rfl
  unfold mayB
  rw [hA, hC, hD, hE, hF]
  rfl
abbrev rz : Raw := ⟨0, 0, 0, 0, 0, 0, 0, 0, 0, 0, 0, 0, 0, 0, 0, 0, 0, 0, 0, 0, 0, 0⟩
end Go.Proofs.YtnjmkhhaodgpbaaX
