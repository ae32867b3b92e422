/- Config: a config that may be, of any numbers. -/
import Derived.Test.YtglininpmfgggaaL18Told
namespace Go.Proofs.YtglininpmfgggaaX
open Go.RowKit
set_option linter.unusedVariables false
set_option linter.unusedSimpArgs false
set_option maxRecDepth 100000
def configOf (r : Raw) : Cfg :=
  { nodes := 2 + r.nodes % 3, mutators := 1 + r.mutators % 3, slots := 2 + r.slots % 4, cel := 16 * (1 + r.cel % 8), objects := 2 + r.objects % 14, stubs := 2 + r.stubs % 10, calls := 1 + r.calls % 6, window := 1 + r.window % 4,
    grey := 1 + r.grey % 8, bag := 4 + r.bag % 60, inbox := 1 + r.inbox % 4, unit := 4 + r.unit % 20, drift := r.drift % ((4 + r.unit % 20) / 2), lease := (4 + r.unit % 20) * (40 + r.lease % 200), wait := 1 + r.wait % 30,
    most := 1 + r.wait % 30 + r.most % 60, patience := (4 + r.unit % 20) * (1 + r.patience % 60), suspect := 1 + r.suspect % 4, trace := 1 + r.suspect % 4 + 1 + r.trace % 4, work := 1 + r.work % 12, start := Int.tmod r.start 1000, last := Int.tmod r.last 1000 }
section
variable {w w' W : World} {Q : Value → World → Prop} {g1 g3 g22 : Nat} {r : Raw}
theorem pick_spec {n m : Int} {w : World} {Q : Value → World → Prop} (hm : 0 < m) (hb : m ≤ 9223372036854775807) (h : Q (.int .i64 (n % m)) w) : CallR Try.prog 19 #[.int .i64 n, .int .i64 m] w Q := by
  apply X19.sound
  have h2 := Int.emod_nonneg n (by omega : m ≠ 0)
  have h3 := Int.emod_lt_of_pos n hm
  have ht := tmod_pick n m hm
  unfold X19.f
  refine ⟨by omega, bc_dec (fun hlt => ?_) (fun hge => ?_)⟩
  · rw [if_pos hlt] at ht
    rw [ht, i64w _ (by omega) (by omega)]; exact h
  · rw [if_neg hge] at ht
    rw [ht]; exact h
theorem md {n m : Int} (hm : 0 < m) : 0 ≤ n % m ∧ n % m < m := ⟨Int.emod_nonneg _ (by omega), Int.emod_lt_of_pos _ hm⟩
theorem mul_rng {a b A B : Int} (h1 : 0 ≤ a) (h2 : a ≤ A) (h3 : 0 ≤ b) (h4 : b ≤ B) : 0 ≤ a * b ∧ a * b ≤ A * B := ⟨Int.mul_nonneg h1 h3, Int.mul_le_mul h2 h4 h3 (Int.le_trans h1 h2)⟩
theorem wadd {b n m : Int} (h0 : 0 < m) (h1 : 0 ≤ b) (h2 : b + m ≤ 9223372036854775807) : IntKind.wrap .i64 (b + n % m) = b + n % m := by have := md (n := n) h0; exact i64w _ (by omega) (by omega)
theorem waddu {b n m : Int} (h0 : 0 < m) (h1 : 0 ≤ b) (h2 : b + m ≤ 9223372036854775807) : IntKind.wrap .u64 (b + n % m) = b + n % m := by have := md (n := n) h0; exact u64w _ (by omega) (by omega)
theorem wmodu {n m : Int} (h0 : 0 < m) (h2 : m ≤ 9223372036854775807) : IntKind.wrap .u64 (n % m) = n % m := by have := md (n := n) h0; exact u64w _ (by omega) (by omega)
theorem half_pos (u : Int) : 0 < (4 + u % 20) / 2 ∧ (4 + u % 20) / 2 ≤ 9223372036854775807 := by have := md (n := u) (m := 20) (by omega); omega
theorem half_eq (u : Int) : IntKind.wrap .i64 (Int.tdiv (IntKind.wrap .i64 (4 + u % 20)) 2) = (4 + u % 20) / 2 := by
  have := md (n := u) (m := 20) (by omega)
  rw [i64w (4 + u % 20) (by omega) (by omega), Int.tdiv_eq_ediv_of_nonneg (by omega), i64w _ (by omega) (by omega)]
theorem wmul (u l : Int) {b m : Int} (h0 : 0 < m) (h1 : 0 ≤ b) (h2 : b + m ≤ 1000) : IntKind.wrap .u64 ((4 + u % 20) * (b + l % m)) = (4 + u % 20) * (b + l % m) := by
  have := md (n := u) (m := 20) (by omega)
  have := md (n := l) h0
  have := mul_rng (a := 4 + u % 20) (b := b + l % m) (A := 23) (B := 1000) (by omega) (by omega) (by omega) (by omega)
  exact u64w _ (by omega) (by omega)
theorem wthree (a b : Int) : IntKind.wrap .u64 (1 + a % 30 + b % 60) = 1 + a % 30 + b % 60 := by
  have := md (n := a) (m := 30) (by omega)
  have := md (n := b) (m := 60) (by omega)
  exact u64w _ (by omega) (by omega)
theorem wfour (a b : Int) : IntKind.wrap .i64 (IntKind.wrap .i64 (1 + a % 4 + 1) + b % 4) = 1 + a % 4 + 1 + b % 4 := by
  have := md (n := a) (m := 4) (by omega)
  have := md (n := b) (m := 4) (by omega)
  rw [i64w (1 + a % 4 + 1) (by omega) (by omega), i64w _ (by omega) (by omega)]
def cfg4 (r : Raw) : List Value := [.int .i64 (2 + r.nodes % 3), .int .i64 (1 + r.mutators % 3), .int .i64 (2 + r.slots % 4), .int .i64 (16 * (1 + r.cel % 8)), .int .i64 0, .int .i64 0, .int .i64 0, .int .i64 0, .int .i64 0, .int .i64 0, .int .i64 0, .int .u64 0, .int .u64 0, .int .u64 0, .int .u64 0, .int .u64 0, .int .u64 0, .int .i64 0, .int .i64 0, .int .i64 0, .int .u64 0, .int .u64 0]
theorem config_j0 (b1 : Blk w g1 r.cells 34) (b3 : Blk w g3 (cfg4 r) 24) {old : List Value} (b2 : Blk w g22 old 24) (ho : old.length = 22) (n1 : g1 ≠ g3) (n2 : g22 ≠ g3) (F : Fr [] W w) (h3 : W.heap.size ≤ g3) (h2 : W.heap.size ≤ g22) (hQ : ∀ w', Fr [] W w' → Q (configOf r).val w') : X14.j0 Q (at0 g1 0) (at0 g22 0) (at0 g3 0) w := by
  unfold X14.j0
  have b3 : Blk w g3 [.int .i64 (2 + r.nodes % 3), .int .i64 (1 + r.mutators % 3), .int .i64 (2 + r.slots % 4), .int .i64 (16 * (1 + r.cel % 8)), .int .i64 (0), .int .i64 (0), .int .i64 (0), .int .i64 (0), .int .i64 (0), .int .i64 (0), .int .i64 (0), .int .u64 (0), .int .u64 (0), .int .u64 (0), .int .u64 (0), .int .u64 (0), .int .u64 (0), .int .i64 (0), .int .i64 (0), .int .i64 (0), .int .u64 (0), .int .u64 (0)] 24 := b3
  refine ld_int (b1.cat 4 _ rfl) (pick_spec (by decide) (by decide) ⟨_, rfl, ?_⟩)
  rw [wadd (by decide) (by decide) (by decide)]
  refine stB b3 (by simp only [List.length_cons, List.length_nil]; omega) fun x1 b3' f' => ?_
  replace F := F.loc f' h3
  replace b1 := b1.off1 n1 f'
  replace b2 := b2.off1 n2 f'
  clear f'
  have b4 : Blk x1 g3 [.int .i64 (2 + r.nodes % 3), .int .i64 (1 + r.mutators % 3), .int .i64 (2 + r.slots % 4), .int .i64 (16 * (1 + r.cel % 8)), .int .i64 (2 + r.objects % 14), .int .i64 (0), .int .i64 (0), .int .i64 (0), .int .i64 (0), .int .i64 (0), .int .i64 (0), .int .u64 (0), .int .u64 (0), .int .u64 (0), .int .u64 (0), .int .u64 (0), .int .u64 (0), .int .i64 (0), .int .i64 (0), .int .i64 (0), .int .u64 (0), .int .u64 (0)] 24 := b3'
  clear b3'
  replace b3 := b4
  clear b4
  refine ld_int (b1.cat 5 _ rfl) (pick_spec (by decide) (by decide) ⟨_, rfl, ?_⟩)
  rw [wadd (by decide) (by decide) (by decide)]
  refine stB b3 (by simp only [List.length_cons, List.length_nil]; omega) fun x2 b3' f' => ?_
  replace F := F.loc f' h3
  replace b1 := b1.off1 n1 f'
  replace b2 := b2.off1 n2 f'
  clear f'
  have b4 : Blk x2 g3 [.int .i64 (2 + r.nodes % 3), .int .i64 (1 + r.mutators % 3), .int .i64 (2 + r.slots % 4), .int .i64 (16 * (1 + r.cel % 8)), .int .i64 (2 + r.objects % 14), .int .i64 (2 + r.stubs % 10), .int .i64 (0), .int .i64 (0), .int .i64 (0), .int .i64 (0), .int .i64 (0), .int .u64 (0), .int .u64 (0), .int .u64 (0), .int .u64 (0), .int .u64 (0), .int .u64 (0), .int .i64 (0), .int .i64 (0), .int .i64 (0), .int .u64 (0), .int .u64 (0)] 24 := b3'
  clear b3'
  replace b3 := b4
  clear b4
  refine ld_int (b1.cat 6 _ rfl) (pick_spec (by decide) (by decide) ⟨_, rfl, ?_⟩)
  rw [wadd (by decide) (by decide) (by decide)]
  refine stB b3 (by simp only [List.length_cons, List.length_nil]; omega) fun x3 b3' f' => ?_
  replace F := F.loc f' h3
  replace b1 := b1.off1 n1 f'
  replace b2 := b2.off1 n2 f'
  clear f'
  have b4 : Blk x3 g3 [.int .i64 (2 + r.nodes % 3), .int .i64 (1 + r.mutators % 3), .int .i64 (2 + r.slots % 4), .int .i64 (16 * (1 + r.cel % 8)), .int .i64 (2 + r.objects % 14), .int .i64 (2 + r.stubs % 10), .int .i64 (1 + r.calls % 6), .int .i64 (0), .int .i64 (0), .int .i64 (0), .int .i64 (0), .int .u64 (0), .int .u64 (0), .int .u64 (0), .int .u64 (0), .int .u64 (0), .int .u64 (0), .int .i64 (0), .int .i64 (0), .int .i64 (0), .int .u64 (0), .int .u64 (0)] 24 := b3'
  clear b3'
  replace b3 := b4
  clear b4
  refine ld_int (b1.cat 7 _ rfl) (pick_spec (by decide) (by decide) ⟨_, rfl, ?_⟩)
  rw [wadd (by decide) (by decide) (by decide)]
  refine stB b3 (by simp only [List.length_cons, List.length_nil]; omega) fun x4 b3' f' => ?_
  replace F := F.loc f' h3
  replace b1 := b1.off1 n1 f'
  replace b2 := b2.off1 n2 f'
  clear f'
  have b4 : Blk x4 g3 [.int .i64 (2 + r.nodes % 3), .int .i64 (1 + r.mutators % 3), .int .i64 (2 + r.slots % 4), .int .i64 (16 * (1 + r.cel % 8)), .int .i64 (2 + r.objects % 14), .int .i64 (2 + r.stubs % 10), .int .i64 (1 + r.calls % 6), .int .i64 (1 + r.window % 4), .int .i64 (0), .int .i64 (0), .int .i64 (0), .int .u64 (0), .int .u64 (0), .int .u64 (0), .int .u64 (0), .int .u64 (0), .int .u64 (0), .int .i64 (0), .int .i64 (0), .int .i64 (0), .int .u64 (0), .int .u64 (0)] 24 := b3'
  clear b3'
  replace b3 := b4
  clear b4
  refine ld_int (b1.cat 8 _ rfl) (pick_spec (by decide) (by decide) ⟨_, rfl, ?_⟩)
  rw [wadd (by decide) (by decide) (by decide)]
  refine stB b3 (by simp only [List.length_cons, List.length_nil]; omega) fun x5 b3' f' => ?_
  replace F := F.loc f' h3
  replace b1 := b1.off1 n1 f'
  replace b2 := b2.off1 n2 f'
  clear f'
  have b4 : Blk x5 g3 [.int .i64 (2 + r.nodes % 3), .int .i64 (1 + r.mutators % 3), .int .i64 (2 + r.slots % 4), .int .i64 (16 * (1 + r.cel % 8)), .int .i64 (2 + r.objects % 14), .int .i64 (2 + r.stubs % 10), .int .i64 (1 + r.calls % 6), .int .i64 (1 + r.window % 4), .int .i64 (1 + r.grey % 8), .int .i64 (0), .int .i64 (0), .int .u64 (0), .int .u64 (0), .int .u64 (0), .int .u64 (0), .int .u64 (0), .int .u64 (0), .int .i64 (0), .int .i64 (0), .int .i64 (0), .int .u64 (0), .int .u64 (0)] 24 := b3'
  clear b3'
  replace b3 := b4
  clear b4
  refine ld_int (b1.cat 9 _ rfl) (pick_spec (by decide) (by decide) ⟨_, rfl, ?_⟩)
  rw [wadd (by decide) (by decide) (by decide)]
  refine stB b3 (by simp only [List.length_cons, List.length_nil]; omega) fun x6 b3' f' => ?_
  replace F := F.loc f' h3
  replace b1 := b1.off1 n1 f'
  replace b2 := b2.off1 n2 f'
  clear f'
  have b4 : Blk x6 g3 [.int .i64 (2 + r.nodes % 3), .int .i64 (1 + r.mutators % 3), .int .i64 (2 + r.slots % 4), .int .i64 (16 * (1 + r.cel % 8)), .int .i64 (2 + r.objects % 14), .int .i64 (2 + r.stubs % 10), .int .i64 (1 + r.calls % 6), .int .i64 (1 + r.window % 4), .int .i64 (1 + r.grey % 8), .int .i64 (4 + r.bag % 60), .int .i64 (0), .int .u64 (0), .int .u64 (0), .int .u64 (0), .int .u64 (0), .int .u64 (0), .int .u64 (0), .int .i64 (0), .int .i64 (0), .int .i64 (0), .int .u64 (0), .int .u64 (0)] 24 := b3'
  clear b3'
  replace b3 := b4
  clear b4
  refine ld_int (b1.cat 10 _ rfl) (pick_spec (by decide) (by decide) ⟨_, rfl, ?_⟩)
  rw [wadd (by decide) (by decide) (by decide)]
  refine stB b3 (by simp only [List.length_cons, List.length_nil]; omega) fun x7 b3' f' => ?_
  replace F := F.loc f' h3
  replace b1 := b1.off1 n1 f'
  replace b2 := b2.off1 n2 f'
  clear f'
  have b4 : Blk x7 g3 [.int .i64 (2 + r.nodes % 3), .int .i64 (1 + r.mutators % 3), .int .i64 (2 + r.slots % 4), .int .i64 (16 * (1 + r.cel % 8)), .int .i64 (2 + r.objects % 14), .int .i64 (2 + r.stubs % 10), .int .i64 (1 + r.calls % 6), .int .i64 (1 + r.window % 4), .int .i64 (1 + r.grey % 8), .int .i64 (4 + r.bag % 60), .int .i64 (1 + r.inbox % 4), .int .u64 (0), .int .u64 (0), .int .u64 (0), .int .u64 (0), .int .u64 (0), .int .u64 (0), .int .i64 (0), .int .i64 (0), .int .i64 (0), .int .u64 (0), .int .u64 (0)] 24 := b3'
  clear b3'
  replace b3 := b4
  clear b4
  refine ld_int (b1.cat 11 _ rfl) (pick_spec (by decide) (by decide) ⟨_, rfl, ?_⟩)
  rw [wadd (by decide) (by decide) (by decide)]
  rw [waddu (by decide) (by decide) (by decide)]
  refine stB b3 (by simp only [List.length_cons, List.length_nil]; omega) fun x8 b3' f' => ?_
  replace F := F.loc f' h3
  replace b1 := b1.off1 n1 f'
  replace b2 := b2.off1 n2 f'
  clear f'
  have b4 : Blk x8 g3 [.int .i64 (2 + r.nodes % 3), .int .i64 (1 + r.mutators % 3), .int .i64 (2 + r.slots % 4), .int .i64 (16 * (1 + r.cel % 8)), .int .i64 (2 + r.objects % 14), .int .i64 (2 + r.stubs % 10), .int .i64 (1 + r.calls % 6), .int .i64 (1 + r.window % 4), .int .i64 (1 + r.grey % 8), .int .i64 (4 + r.bag % 60), .int .i64 (1 + r.inbox % 4), .int .u64 (4 + r.unit % 20), .int .u64 (0), .int .u64 (0), .int .u64 (0), .int .u64 (0), .int .u64 (0), .int .i64 (0), .int .i64 (0), .int .i64 (0), .int .u64 (0), .int .u64 (0)] 24 := b3'
  clear b3'
  replace b3 := b4
  clear b4
  refine ld_int (b1.cat 12 _ rfl) (ld_int (b3.cat 11 _ rfl) ⟨by decide, ?_⟩)
  rw [half_eq]
  refine pick_spec (half_pos _).1 (half_pos _).2 ⟨_, rfl, ?_⟩
  rw [wmodu (half_pos _).1 (half_pos _).2]
  refine stB b3 (by simp only [List.length_cons, List.length_nil]; omega) fun x9 b3' f' => ?_
  replace F := F.loc f' h3
  replace b1 := b1.off1 n1 f'
  replace b2 := b2.off1 n2 f'
  clear f'
  have b4 : Blk x9 g3 [.int .i64 (2 + r.nodes % 3), .int .i64 (1 + r.mutators % 3), .int .i64 (2 + r.slots % 4), .int .i64 (16 * (1 + r.cel % 8)), .int .i64 (2 + r.objects % 14), .int .i64 (2 + r.stubs % 10), .int .i64 (1 + r.calls % 6), .int .i64 (1 + r.window % 4), .int .i64 (1 + r.grey % 8), .int .i64 (4 + r.bag % 60), .int .i64 (1 + r.inbox % 4), .int .u64 (4 + r.unit % 20), .int .u64 (r.drift % ((4 + r.unit % 20) / 2)), .int .u64 (0), .int .u64 (0), .int .u64 (0), .int .u64 (0), .int .i64 (0), .int .i64 (0), .int .i64 (0), .int .u64 (0), .int .u64 (0)] 24 := b3'
  clear b3'
  replace b3 := b4
  clear b4
  refine drawn fun x10 f' _ => ?_
  replace F := F.tr f'
  replace b1 := b1.keep' f'
  replace b2 := b2.keep' f'
  replace b3 := b3.keep' f'
  clear f'
  refine ld_int (b3.cat 11 _ rfl) (ld_int (b1.cat 13 _ rfl) (pick_spec (by decide) (by decide) ⟨_, rfl, ⟨b3.cat 11 _ rfl, b3.cat 11 _ rfl⟩, ?_⟩))
  rw [wadd (by decide) (by decide) (by decide)]
  rw [waddu (by decide) (by decide) (by decide)]
  rw [wmul _ _ (by decide) (by decide) (by decide)]
  refine stB b3 (by simp only [List.length_cons, List.length_nil]; omega) fun x11 b3' f' => ?_
  replace F := F.loc f' h3
  replace b1 := b1.off1 n1 f'
  replace b2 := b2.off1 n2 f'
  clear f'
  have b4 : Blk x11 g3 [.int .i64 (2 + r.nodes % 3), .int .i64 (1 + r.mutators % 3), .int .i64 (2 + r.slots % 4), .int .i64 (16 * (1 + r.cel % 8)), .int .i64 (2 + r.objects % 14), .int .i64 (2 + r.stubs % 10), .int .i64 (1 + r.calls % 6), .int .i64 (1 + r.window % 4), .int .i64 (1 + r.grey % 8), .int .i64 (4 + r.bag % 60), .int .i64 (1 + r.inbox % 4), .int .u64 (4 + r.unit % 20), .int .u64 (r.drift % ((4 + r.unit % 20) / 2)), .int .u64 ((4 + r.unit % 20) * (40 + r.lease % 200)), .int .u64 (0), .int .u64 (0), .int .u64 (0), .int .i64 (0), .int .i64 (0), .int .i64 (0), .int .u64 (0), .int .u64 (0)] 24 := b3'
  clear b3'
  replace b3 := b4
  clear b4
  refine ld_int (b1.cat 14 _ rfl) (pick_spec (by decide) (by decide) ⟨_, rfl, ?_⟩)
  rw [wadd (by decide) (by decide) (by decide)]
  rw [waddu (by decide) (by decide) (by decide)]
  refine stB b3 (by simp only [List.length_cons, List.length_nil]; omega) fun x12 b3' f' => ?_
  replace F := F.loc f' h3
  replace b1 := b1.off1 n1 f'
  replace b2 := b2.off1 n2 f'
  clear f'
  have b4 : Blk x12 g3 [.int .i64 (2 + r.nodes % 3), .int .i64 (1 + r.mutators % 3), .int .i64 (2 + r.slots % 4), .int .i64 (16 * (1 + r.cel % 8)), .int .i64 (2 + r.objects % 14), .int .i64 (2 + r.stubs % 10), .int .i64 (1 + r.calls % 6), .int .i64 (1 + r.window % 4), .int .i64 (1 + r.grey % 8), .int .i64 (4 + r.bag % 60), .int .i64 (1 + r.inbox % 4), .int .u64 (4 + r.unit % 20), .int .u64 (r.drift % ((4 + r.unit % 20) / 2)), .int .u64 ((4 + r.unit % 20) * (40 + r.lease % 200)), .int .u64 (1 + r.wait % 30), .int .u64 (0), .int .u64 (0), .int .i64 (0), .int .i64 (0), .int .i64 (0), .int .u64 (0), .int .u64 (0)] 24 := b3'
  clear b3'
  replace b3 := b4
  clear b4
  refine drawn fun x13 f' _ => ?_
  replace F := F.tr f'
  replace b1 := b1.keep' f'
  replace b2 := b2.keep' f'
  replace b3 := b3.keep' f'
  clear f'
  refine ld_int (b3.cat 14 _ rfl) (ld_int (b1.cat 15 _ rfl) (pick_spec (by decide) (by decide) ⟨_, rfl, ⟨b3.cat 14 _ rfl, b3.cat 14 _ rfl⟩, ?_⟩))
  rw [wmodu (by decide) (by decide), wthree]
  refine stB b3 (by simp only [List.length_cons, List.length_nil]; omega) fun x14 b3' f' => ?_
  replace F := F.loc f' h3
  replace b1 := b1.off1 n1 f'
  replace b2 := b2.off1 n2 f'
  clear f'
  have b4 : Blk x14 g3 [.int .i64 (2 + r.nodes % 3), .int .i64 (1 + r.mutators % 3), .int .i64 (2 + r.slots % 4), .int .i64 (16 * (1 + r.cel % 8)), .int .i64 (2 + r.objects % 14), .int .i64 (2 + r.stubs % 10), .int .i64 (1 + r.calls % 6), .int .i64 (1 + r.window % 4), .int .i64 (1 + r.grey % 8), .int .i64 (4 + r.bag % 60), .int .i64 (1 + r.inbox % 4), .int .u64 (4 + r.unit % 20), .int .u64 (r.drift % ((4 + r.unit % 20) / 2)), .int .u64 ((4 + r.unit % 20) * (40 + r.lease % 200)), .int .u64 (1 + r.wait % 30), .int .u64 (1 + r.wait % 30 + r.most % 60), .int .u64 (0), .int .i64 (0), .int .i64 (0), .int .i64 (0), .int .u64 (0), .int .u64 (0)] 24 := b3'
  clear b3'
  replace b3 := b4
  clear b4
  refine drawn fun x15 f' _ => ?_
  replace F := F.tr f'
  replace b1 := b1.keep' f'
  replace b2 := b2.keep' f'
  replace b3 := b3.keep' f'
  clear f'
  refine ld_int (b3.cat 11 _ rfl) (ld_int (b1.cat 16 _ rfl) (pick_spec (by decide) (by decide) ⟨_, rfl, ⟨b3.cat 11 _ rfl, b3.cat 11 _ rfl⟩, ?_⟩))
  rw [wadd (by decide) (by decide) (by decide)]
  rw [waddu (by decide) (by decide) (by decide)]
  rw [wmul _ _ (by decide) (by decide) (by decide)]
  refine stB b3 (by simp only [List.length_cons, List.length_nil]; omega) fun x16 b3' f' => ?_
  replace F := F.loc f' h3
  replace b1 := b1.off1 n1 f'
  replace b2 := b2.off1 n2 f'
  clear f'
  have b4 : Blk x16 g3 [.int .i64 (2 + r.nodes % 3), .int .i64 (1 + r.mutators % 3), .int .i64 (2 + r.slots % 4), .int .i64 (16 * (1 + r.cel % 8)), .int .i64 (2 + r.objects % 14), .int .i64 (2 + r.stubs % 10), .int .i64 (1 + r.calls % 6), .int .i64 (1 + r.window % 4), .int .i64 (1 + r.grey % 8), .int .i64 (4 + r.bag % 60), .int .i64 (1 + r.inbox % 4), .int .u64 (4 + r.unit % 20), .int .u64 (r.drift % ((4 + r.unit % 20) / 2)), .int .u64 ((4 + r.unit % 20) * (40 + r.lease % 200)), .int .u64 (1 + r.wait % 30), .int .u64 (1 + r.wait % 30 + r.most % 60), .int .u64 ((4 + r.unit % 20) * (1 + r.patience % 60)), .int .i64 (0), .int .i64 (0), .int .i64 (0), .int .u64 (0), .int .u64 (0)] 24 := b3'
  clear b3'
  replace b3 := b4
  clear b4
  refine ld_int (b1.cat 17 _ rfl) (pick_spec (by decide) (by decide) ⟨_, rfl, ?_⟩)
  rw [wadd (by decide) (by decide) (by decide)]
  refine stB b3 (by simp only [List.length_cons, List.length_nil]; omega) fun x17 b3' f' => ?_
  replace F := F.loc f' h3
  replace b1 := b1.off1 n1 f'
  replace b2 := b2.off1 n2 f'
  clear f'
  have b4 : Blk x17 g3 [.int .i64 (2 + r.nodes % 3), .int .i64 (1 + r.mutators % 3), .int .i64 (2 + r.slots % 4), .int .i64 (16 * (1 + r.cel % 8)), .int .i64 (2 + r.objects % 14), .int .i64 (2 + r.stubs % 10), .int .i64 (1 + r.calls % 6), .int .i64 (1 + r.window % 4), .int .i64 (1 + r.grey % 8), .int .i64 (4 + r.bag % 60), .int .i64 (1 + r.inbox % 4), .int .u64 (4 + r.unit % 20), .int .u64 (r.drift % ((4 + r.unit % 20) / 2)), .int .u64 ((4 + r.unit % 20) * (40 + r.lease % 200)), .int .u64 (1 + r.wait % 30), .int .u64 (1 + r.wait % 30 + r.most % 60), .int .u64 ((4 + r.unit % 20) * (1 + r.patience % 60)), .int .i64 (1 + r.suspect % 4), .int .i64 (0), .int .i64 (0), .int .u64 (0), .int .u64 (0)] 24 := b3'
  clear b3'
  replace b3 := b4
  clear b4
  refine drawn fun x18 f' _ => ?_
  replace F := F.tr f'
  replace b1 := b1.keep' f'
  replace b2 := b2.keep' f'
  replace b3 := b3.keep' f'
  clear f'
  refine ld_int (b3.cat 17 _ rfl) (ld_int (b1.cat 18 _ rfl) (pick_spec (by decide) (by decide) ⟨_, rfl, ⟨b3.cat 17 _ rfl, b3.cat 17 _ rfl⟩, ?_⟩))
  rw [wfour]
  refine stB b3 (by simp only [List.length_cons, List.length_nil]; omega) fun x19 b3' f' => ?_
  replace F := F.loc f' h3
  replace b1 := b1.off1 n1 f'
  replace b2 := b2.off1 n2 f'
  clear f'
  have b4 : Blk x19 g3 [.int .i64 (2 + r.nodes % 3), .int .i64 (1 + r.mutators % 3), .int .i64 (2 + r.slots % 4), .int .i64 (16 * (1 + r.cel % 8)), .int .i64 (2 + r.objects % 14), .int .i64 (2 + r.stubs % 10), .int .i64 (1 + r.calls % 6), .int .i64 (1 + r.window % 4), .int .i64 (1 + r.grey % 8), .int .i64 (4 + r.bag % 60), .int .i64 (1 + r.inbox % 4), .int .u64 (4 + r.unit % 20), .int .u64 (r.drift % ((4 + r.unit % 20) / 2)), .int .u64 ((4 + r.unit % 20) * (40 + r.lease % 200)), .int .u64 (1 + r.wait % 30), .int .u64 (1 + r.wait % 30 + r.most % 60), .int .u64 ((4 + r.unit % 20) * (1 + r.patience % 60)), .int .i64 (1 + r.suspect % 4), .int .i64 (1 + r.suspect % 4 + 1 + r.trace % 4), .int .i64 (0), .int .u64 (0), .int .u64 (0)] 24 := b3'
  clear b3'
  replace b3 := b4
  clear b4
  refine ld_int (b1.cat 19 _ rfl) (pick_spec (by decide) (by decide) ⟨_, rfl, ?_⟩)
  rw [wadd (by decide) (by decide) (by decide)]
  refine stB b3 (by simp only [List.length_cons, List.length_nil]; omega) fun x20 b3' f' => ?_
  replace F := F.loc f' h3
  replace b1 := b1.off1 n1 f'
  replace b2 := b2.off1 n2 f'
  clear f'
  have b4 : Blk x20 g3 [.int .i64 (2 + r.nodes % 3), .int .i64 (1 + r.mutators % 3), .int .i64 (2 + r.slots % 4), .int .i64 (16 * (1 + r.cel % 8)), .int .i64 (2 + r.objects % 14), .int .i64 (2 + r.stubs % 10), .int .i64 (1 + r.calls % 6), .int .i64 (1 + r.window % 4), .int .i64 (1 + r.grey % 8), .int .i64 (4 + r.bag % 60), .int .i64 (1 + r.inbox % 4), .int .u64 (4 + r.unit % 20), .int .u64 (r.drift % ((4 + r.unit % 20) / 2)), .int .u64 ((4 + r.unit % 20) * (40 + r.lease % 200)), .int .u64 (1 + r.wait % 30), .int .u64 (1 + r.wait % 30 + r.most % 60), .int .u64 ((4 + r.unit % 20) * (1 + r.patience % 60)), .int .i64 (1 + r.suspect % 4), .int .i64 (1 + r.suspect % 4 + 1 + r.trace % 4), .int .i64 (1 + r.work % 12), .int .u64 (0), .int .u64 (0)] 24 := b3'
  clear b3'
  replace b3 := b4
  clear b4
  refine ld_int (b1.cat 20 _ rfl) ⟨by decide, ?_⟩
  refine stB b3 (by simp only [List.length_cons, List.length_nil]; omega) fun x21 b3' f' => ?_
  replace F := F.loc f' h3
  replace b1 := b1.off1 n1 f'
  replace b2 := b2.off1 n2 f'
  clear f'
  have b4 : Blk x21 g3 [.int .i64 (2 + r.nodes % 3), .int .i64 (1 + r.mutators % 3), .int .i64 (2 + r.slots % 4), .int .i64 (16 * (1 + r.cel % 8)), .int .i64 (2 + r.objects % 14), .int .i64 (2 + r.stubs % 10), .int .i64 (1 + r.calls % 6), .int .i64 (1 + r.window % 4), .int .i64 (1 + r.grey % 8), .int .i64 (4 + r.bag % 60), .int .i64 (1 + r.inbox % 4), .int .u64 (4 + r.unit % 20), .int .u64 (r.drift % ((4 + r.unit % 20) / 2)), .int .u64 ((4 + r.unit % 20) * (40 + r.lease % 200)), .int .u64 (1 + r.wait % 30), .int .u64 (1 + r.wait % 30 + r.most % 60), .int .u64 ((4 + r.unit % 20) * (1 + r.patience % 60)), .int .i64 (1 + r.suspect % 4), .int .i64 (1 + r.suspect % 4 + 1 + r.trace % 4), .int .i64 (1 + r.work % 12), .int .u64 (Int.tmod r.start 1000), .int .u64 (0)] 24 := b3'
  clear b3'
  replace b3 := b4
  clear b4
  refine ld_int (b1.cat 21 _ rfl) ⟨by decide, ?_⟩
  refine stB b3 (by simp only [List.length_cons, List.length_nil]; omega) fun x22 b3' f' => ?_
  replace F := F.loc f' h3
  replace b1 := b1.off1 n1 f'
  replace b2 := b2.off1 n2 f'
  clear f'
  have b4 : Blk x22 g3 [.int .i64 (2 + r.nodes % 3), .int .i64 (1 + r.mutators % 3), .int .i64 (2 + r.slots % 4), .int .i64 (16 * (1 + r.cel % 8)), .int .i64 (2 + r.objects % 14), .int .i64 (2 + r.stubs % 10), .int .i64 (1 + r.calls % 6), .int .i64 (1 + r.window % 4), .int .i64 (1 + r.grey % 8), .int .i64 (4 + r.bag % 60), .int .i64 (1 + r.inbox % 4), .int .u64 (4 + r.unit % 20), .int .u64 (r.drift % ((4 + r.unit % 20) / 2)), .int .u64 ((4 + r.unit % 20) * (40 + r.lease % 200)), .int .u64 (1 + r.wait % 30), .int .u64 (1 + r.wait % 30 + r.most % 60), .int .u64 ((4 + r.unit % 20) * (1 + r.patience % 60)), .int .i64 (1 + r.suspect % 4), .int .i64 (1 + r.suspect % 4 + 1 + r.trace % 4), .int .i64 (1 + r.work % 12), .int .u64 (Int.tmod r.start 1000), .int .u64 (Int.tmod r.last 1000)] 24 := b3'
  clear b3'
  replace b3 := b4
  clear b4
  refine ld_Cfg (s := configOf r) b3.cat (stAllB (vs := (configOf r).cells) b2 ho.symm fun wz bz fz => ld_Cfg (s := configOf r) bz.cat (hQ _ (F.loc fz h2)))
theorem config_spec (hQ : ∀ w', Fr [] w w' → Q (configOf r).val w') : CallR Try.prog 14 #[r.val] w Q := by
  apply X14.sound
  unfold X14.f
  refine newB fun g1 w2 b1 f2 h1 => newB fun g3 w4 b3 f4 h3 => drawn fun w5 f5 _ => ?_
  have b1 : Blk w5 g1 r.cells 34 := b1.keep' (f4.tr f5)
  have b3 := b3.keep' f5
  have F := (f2.tr f4).tr f5
  have s2 := f2.size
  have l1 := b1.lt
  have l3 := b3.lt
  have m0 := md (n := r.nodes) (m := 3) (by omega)
  have m1 := md (n := r.mutators) (m := 3) (by omega)
  have m2 := md (n := r.slots) (m := 4) (by omega)
  have m3 := md (n := r.cel) (m := 8) (by omega)
  have e0 : IntKind.wrap .i64 (2 + r.nodes % 3) = 2 + r.nodes % 3 := i64w _ (by omega) (by omega)
  have e1 : IntKind.wrap .i64 (1 + r.mutators % 3) = 1 + r.mutators % 3 := i64w _ (by omega) (by omega)
  have e2 : IntKind.wrap .i64 (2 + r.slots % 4) = 2 + r.slots % 4 := i64w _ (by omega) (by omega)
  have e3 : IntKind.wrap .i64 (16 * IntKind.wrap .i64 (1 + r.cel % 8)) = 16 * (1 + r.cel % 8) := by rw [i64w (1 + r.cel % 8) (by omega) (by omega), i64w _ (by omega) (by omega)]
  have fin : ∀ {g22 : Nat} {w23 : World} {old : List Value}, Blk w23 g22 old 24 → old.length = 22 → Fr [] w5 w23 → w5.heap.size ≤ g22 → stAll w23 (at0 g22 0) (cfg4 r) fun w24 => X14.j0 Q (at0 g1 0) (at0 g3 0) (at0 g22 0) w24 := by
    intro g22 w23 old b ho f h
    refine stAllB b ho.symm fun w24 b24 f24 => ?_
    have z := F.size
    exact config_j0 (W := w) ((b1.keep' f).off1 (by omega) f24) b24 ((b3.keep' f).off1 (by omega) f24) rfl (by omega) (by omega) ((F.tr f).loc f24 (by omega)) (by omega) (by omega) hQ
  refine ⟨?_, ?_, ?_, ?_, ?_⟩
  · (repeat (first | refine ld_int (b1.cat _ _ rfl) ?_ | refine pick_spec (by omega) (by omega) ⟨_, rfl, ?_⟩ | refine ⟨⟨b1.cat _ _ rfl, b1.cat _ _ rfl⟩, ?_⟩))
    refine newB fun g22 w23 b22 f23 h23 => ?_
    have b1' := b1.keep' f23
    (repeat (first | refine ⟨⟨b1.cat _ _ rfl, b1'.cat _ _ rfl⟩, ?_⟩ | refine pick_spec (by omega) (by omega) ⟨_, rfl, ?_⟩ | refine ⟨⟨b1'.cat _ _ rfl, b1'.cat _ _ rfl⟩, ?_⟩))
    rw [e0, e1, e2, e3]
    exact fin b22 rfl f23 h23
  · (repeat (first | refine ld_int (b1.cat _ _ rfl) ?_ | refine pick_spec (by omega) (by omega) ⟨_, rfl, ?_⟩ | refine ⟨⟨b1.cat _ _ rfl, b1.cat _ _ rfl⟩, ?_⟩))
    refine newB fun g22 w23 b22 f23 h23 => ?_
    have b1' := b1.keep' f23
    (repeat (first | refine ⟨⟨b1.cat _ _ rfl, b1'.cat _ _ rfl⟩, ?_⟩ | refine pick_spec (by omega) (by omega) ⟨_, rfl, ?_⟩ | refine ⟨⟨b1'.cat _ _ rfl, b1'.cat _ _ rfl⟩, ?_⟩))
    rw [e0, e1, e2, e3]
    exact fin b22 rfl f23 h23
  · (repeat (first | refine ld_int (b1.cat _ _ rfl) ?_ | refine pick_spec (by omega) (by omega) ⟨_, rfl, ?_⟩ | refine ⟨⟨b1.cat _ _ rfl, b1.cat _ _ rfl⟩, ?_⟩))
    refine newB fun g22 w23 b22 f23 h23 => ?_
    have b1' := b1.keep' f23
    (repeat (first | refine ⟨⟨b1.cat _ _ rfl, b1'.cat _ _ rfl⟩, ?_⟩ | refine pick_spec (by omega) (by omega) ⟨_, rfl, ?_⟩ | refine ⟨⟨b1'.cat _ _ rfl, b1'.cat _ _ rfl⟩, ?_⟩))
    rw [e0, e1, e2, e3]
    exact fin b22 rfl f23 h23
  · (repeat (first | refine ld_int (b1.cat _ _ rfl) ?_ | refine pick_spec (by omega) (by omega) ⟨_, rfl, ?_⟩ | refine ⟨⟨b1.cat _ _ rfl, b1.cat _ _ rfl⟩, ?_⟩))
    refine newB fun g22 w23 b22 f23 h23 => ?_
    have b1' := b1.keep' f23
    (repeat (first | refine ⟨⟨b1.cat _ _ rfl, b1'.cat _ _ rfl⟩, ?_⟩ | refine pick_spec (by omega) (by omega) ⟨_, rfl, ?_⟩ | refine ⟨⟨b1'.cat _ _ rfl, b1'.cat _ _ rfl⟩, ?_⟩))
    rw [e0, e1, e2, e3]
    exact fin b22 rfl f23 h23
  · (repeat (first | refine ld_int (b1.cat _ _ rfl) ?_ | refine pick_spec (by omega) (by omega) ⟨_, rfl, ?_⟩ | refine ⟨⟨b1.cat _ _ rfl, b1.cat _ _ rfl⟩, ?_⟩))
    refine newB fun g22 w23 b22 f23 h23 => ?_
    have b1' := b1.keep' f23
    (repeat (first | refine ⟨⟨b1.cat _ _ rfl, b1'.cat _ _ rfl⟩, ?_⟩ | refine pick_spec (by omega) (by omega) ⟨_, rfl, ?_⟩ | refine ⟨⟨b1'.cat _ _ rfl, b1'.cat _ _ rfl⟩, ?_⟩))
    rw [e0, e1, e2, e3]
    exact fin b22 rfl f23 h23
end
end Go.Proofs.YtglininpmfgggaaX
