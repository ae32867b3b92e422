/- LeaseSafe: its body comes to true, whatever the numbers and the ticks. -/
import Derived.Test.YtemdahcphdofmaaXT1
import Derived.Test.YtemdahcphdofmaaXNum
namespace Go.Proofs.YtemdahcphdofmaaX
open Go.RowKit
set_option linter.unusedVariables false

theorem pick_spec {n m : Int} {w : World} {Q : Value → World → Prop} (hm : 0 < m) (hb : m ≤ 9223372036854775807) (h : Q (.int .i64 (n % m)) w) : CallR Try.prog 17 #[.int .i64 n, .int .i64 m] w Q := by
  apply X17.sound
  have h2 := Int.emod_nonneg n (by omega : m ≠ 0)
  have h3 := Int.emod_lt_of_pos n hm
  have ht := tmod_pick n m hm
  unfold X17.f
  refine ⟨by omega, bc_dec (fun hlt => ?_) (fun hge => ?_)⟩
  · rw [if_pos hlt] at ht
    rw [ht, i64w _ (by omega) (by omega)]; exact h
  · rw [if_neg hge] at ht
    rw [ht]; exact h
theorem live0 {s n : Int} {w : World} {Q : Value → World → Prop} (h0 : 0 ≤ n) (h1 : n ≤ 18446744073709551615) (h : Q (.bool (decide (n < s))) w) : CallR Try.prog 13 #[.int .u64 0, .int .u64 s, .int .u64 n] w Q := by
  apply X13.sound
  unfold X13.f
  refine bc_pos h0 ?_
  rw [Int.sub_zero, u64w n h0 h1]
  exact h
theorem holder_spec {l u d : Int} {w : World} {Q : Value → World → Prop} (h1 : 1 ≤ u) (h2 : u ≤ 1048576) (h3 : 0 ≤ d) (h4 : d < u) (h5 : 0 ≤ l) (h6 : l ≤ 4294967295)
    (h : Q (.tuple #[.int .u64 (l * (u - d) / (u + d)), .int .i64 0]) w) : CallR Try.prog 11 #[.int .u64 l, .int .u64 u, .int .u64 d] w Q := by
  apply X11.sound
  have a1 : 0 ≤ l * (u - d) := mul0 h5 (by omega)
  have a2 : l * (u - d) ≤ 4294967295 * 1048576 := mulb h6 (by omega) (by omega) (by omega)
  unfold X11.f
  refine bc_neg (by omega) (bc_neg (by omega) (bc_neg (by omega) (bc_neg (by omega) ?_)))
  rw [u64w (u + d) (by omega) (by omega), u64w (u - d) (by omega) (by omega), u64w (l * (u - d)) (by omega) (by omega), IntWalk.u64_quo _ _ ⟨a1, by omega, by omega⟩]
  exact ⟨by omega, h⟩
theorem known_spec {w : World} {Q : Value → World → Prop} (h : Q (.bool true) w) : CallR Try.prog 12 #[] w Q := by
  apply X12.sound
  unfold X12.f
  refine holder_spec (by omega) (by omega) (by omega) (by omega) (by omega) (by omega) ⟨_, _, rfl, ?_⟩
  refine bc_eq (fun _ => ?_) (fun hn => absurd (by decide) hn)
  refine bc_eq (fun _ => ?_) (fun hn => absurd rfl hn)
  refine X13.sound _ _ _ _ _ ?_
  refine bc_pos (by decide) ⟨_, rfl, bc_bool (fun _ => ?_) (fun hn => absurd hn (by decide))⟩
  refine X13.sound _ _ _ _ _ ?_
  refine bc_pos (by decide) ⟨_, rfl, bc_bool (fun _ => ?_) (fun hn => absurd hn (by decide))⟩
  refine X14.sound _ _ _ ?_
  unfold X14.f
  refine ⟨by decide, ⟨_, rfl, bc_eq (fun _ => ?_) (fun hn => absurd (by decide) hn)⟩⟩
  refine X15.sound _ _ _ _ _ ?_
  unfold X15.f
  exact ⟨by decide, bc_neg (by decide) ⟨_, rfl, h⟩⟩

/-- what holds ahead of round i: the holder has counted at least i short ticks, the owner at most i long ones -/
structure Inv (u d : Int) (i h o : Int) : Prop where
  h0 : i * (u - d) ≤ h
  h1 : h ≤ i * (u + d)
  o0 : 0 ≤ o
  o1 : o ≤ i * (u + d)
theorem mul_succ' (i x : Int) : (i + 1) * x = i * x + x := by rw [Int.add_mul, Int.one_mul]
/-- where the owner's lease is over, so is the holder's -/
theorem safe {u d l span i h o : Int} (hd : 0 ≤ d) (hdu : d < u) (hi : 0 ≤ i) (inv : Inv u d i h o) (hs : span = l * (u - d) / (u + d)) (hl : 0 ≤ l) (hover : ¬ o < l) : ¬ h < span := by
  intro hlt
  have a1 : l ≤ i * (u + d) := by have := inv.o1; omega
  have a2 : l * (u - d) ≤ i * (u + d) * (u - d) := Int.mul_le_mul_of_nonneg_right a1 (by omega)
  have a3 : i * (u + d) * (u - d) = i * (u - d) * (u + d) := by rw [Int.mul_assoc, Int.mul_comm (u + d) (u - d), ← Int.mul_assoc]
  have a4 : l * (u - d) / (u + d) ≤ i * (u - d) := Int.ediv_le_of_le_mul (by omega) (by omega)
  have := inv.h0
  omega
theorem loop (late : Int) (p : Option Addr) (len cap : Nat) (zs : List Int) (w : World) (hrow : IsRow .i64 w p len cap zs) (u d l span : Int) (hu1 : 1 ≤ u) (hu2 : u ≤ 2000) (hd : 0 ≤ d) (hdu : d < u) (hl0 : 0 ≤ l) (hl : l ≤ 100000)
    (hs : span = l * (u - d) / (u + d)) (hlate : 0 ≤ late) (hlen : len * 8 ≤ 140737488351232) (Q : Value → World → Prop) (hQ : Q (.bool true) w) (n : Nat) :
    ∀ (i h o : Int), 0 ≤ i → i + n = 4000 → Inv u d i h o → X9.l0 Q (n + 1) late p len cap u d l span h o i w := by
  induction n with
  | zero =>
    intro i h o h0 hi inv
    rw [X9.l0]
    exact bc_neg (by omega) hQ
  | succ n ih =>
    intro i h o h0 hi inv
    have b1 : 0 ≤ i * (u - d) := mul0 h0 (by omega)
    have b2 : i * (u + d) ≤ 4000 * 4000 := mulb (by omega) (by omega) (by omega) (by omega)
    have b3 := inv.h0
    have b4 := inv.h1
    have b5 := inv.o0
    have b6 := inv.o1
    -- behind the ticks
    have j3 : ∀ (h' o' : Int), Inv u d (i + 1) h' o' → X9.j1 Q (X9.l0 Q (n + 1)) late p len cap u d l span h' o' i w := by
      intro h' o' inv'
      have c1 := inv'.h0
      have c2 := inv'.h1
      have c3 := inv'.o0
      have c4 := inv'.o1
      have e1 := mul_succ' i (u - d)
      have e2 := mul_succ' i (u + d)
      have hnext := ih (i + 1) h' o' (by omega) (by omega) inv'
      unfold X9.j1
      rw [i64w (i + 1) (by omega) (by omega)]
      refine bc_dec (fun hla => ?_) (fun _ => hnext)
      refine live0 (by omega) (by omega) ⟨_, rfl, bc_bool (fun hlive => ?_) (fun _ => hnext)⟩
      refine live0 (by omega) (by omega) ⟨_, rfl, bc_bool (fun hin => ?_) (fun _ => hnext)⟩
      exact absurd (of_decide_eq_true hin) (safe hd hdu (by omega) inv' hs hl0 (by simpa using hlive))
    have j2 : ∀ (a b : Int), u - d ≤ a → a ≤ u + d → u - d ≤ b → b ≤ u + d → X9.j2 Q (X9.l0 Q (n + 1)) late p len cap u d l span h o i a b w := by
      intro a b a1 a2 a3 a4
      have e1 := mul_succ' i (u - d)
      have e2 := mul_succ' i (u + d)
      unfold X9.j2
      rw [u64w (h + a) (by omega) (by omega), u64w (o + b) (by omega) (by omega)]
      refine bc_dec (fun hla => ?_) (fun _ => ?_)
      · exact j3 _ _ ⟨by omega, by omega, by omega, by omega⟩
      · exact j3 _ _ ⟨by omega, by omega, by omega, by omega⟩
    rw [X9.l0]
    refine bc_pos (by omega) (bc_dec (fun hz => ?_) (fun _ => j2 _ _ (by omega) (by omega) (by omega) (by omega)))
    have m1 : Int.tmod i (len : Int) = i % (len : Int) := IntWalk.rem_in _ _ h0
    have m2 : Int.tmod (IntKind.wrap .i64 (i + 1)) (len : Int) = (i + 1) % (len : Int) := by
      rw [i64w (i + 1) (by omega) (by omega)]; exact IntWalk.rem_in _ _ (by omega)
    have r1 := Int.emod_nonneg i (by omega : (len : Int) ≠ 0)
    have r2 := Int.emod_lt_of_pos i hz
    have r3 := Int.emod_nonneg (i + 1) (by omega : (len : Int) ≠ 0)
    have r4 := Int.emod_lt_of_pos (i + 1) hz
    rw [m1, m2, u64w (2 * d) (by omega) (by omega), i64w (2 * d) (by omega) (by omega), i64w (2 * d + 1) (by omega) (by omega)]
    obtain ⟨x1, hx1, hc1, _⟩ := hrow.at_ (i := (i % (len : Int)).toNat) (by omega)
    obtain ⟨x2, hx2, hc2, _⟩ := hrow.at_ (i := ((i + 1) % (len : Int)).toNat) (by omega)
    simp only [Nat.mul_one]
    refine ⟨by omega, ⟨r1, r2⟩, opt_some hx1 (ld_int hc1 (pick_spec (by omega) (by omega) ⟨_, rfl, ?_⟩))⟩
    refine ⟨by omega, ⟨r3, r4⟩, opt_some hx2 (ld_int hc2 ⟨by omega, pick_spec (by omega) (by omega) ⟨_, rfl, ?_⟩⟩)⟩
    refine ⟨by omega, ⟨r1, r2⟩, opt_some hx1 (ld_int hc1 ⟨by omega, ?_⟩)⟩
    generalize zs.getD (i % (len : Int)).toNat 0 = x
    generalize IntKind.wrap .i64 (Int.tdiv (zs.getD ((i + 1) % (len : Int)).toNat 0) 3) = y
    have s1 := Int.emod_nonneg x (by omega : 2 * d + 1 ≠ 0)
    have s2 := Int.emod_lt_of_pos x (by omega : 0 < 2 * d + 1)
    have s3 := Int.emod_nonneg y (by omega : 2 * d + 1 ≠ 0)
    have s4 := Int.emod_lt_of_pos y (by omega : 0 < 2 * d + 1)
    generalize x % (2 * d + 1) = p at *
    generalize y % (2 * d + 1) = q at *
    rw [u64w (u - d) (by omega) (by omega), u64w (u + d) (by omega) (by omega), u64w p (by omega) (by omega), u64w q (by omega) (by omega), u64w (u - d + p) (by omega) (by omega), u64w (u - d + q) (by omega) (by omega)]
    refine bc_bool (fun _ => ?_) (fun _ => ?_)
    · exact j2 _ _ (by omega) (by omega) (by omega) (by omega)
    · exact j2 _ _ (by omega) (by omega) (by omega) (by omega)

theorem leaseSafe (l a b late : Int) (p : Option Addr) (len cap : Nat) (zs : List Int) (w : World) (hl : (Lit.int .u32 l).wf = true) (hrow : IsRow .i64 w p len cap zs) (hlen : len * 8 ≤ 140737488351232) :
    CallR Try.prog 9 #[.int .u32 l, .int .i64 a, .int .i64 b, .int .i64 late, .slice p len cap] w fun v w' => v = .bool true ∧ w' = w := by
  apply X9.sound
  have hl' := u32b hl
  unfold X9.f
  refine pick_spec (by omega) (by omega) ⟨_, rfl, ?_⟩
  have q1 := Int.emod_nonneg a (by omega : (2000 : Int) ≠ 0)
  have q2 := Int.emod_lt_of_pos a (by omega : (0 : Int) < 2000)
  generalize a % 2000 = t at q1 q2
  rw [i64w (1 + t) (by omega) (by omega), u64w (1 + t) (by omega) (by omega), i64w (1 + t) (by omega) (by omega)]
  obtain ⟨u, hu, u1⟩ : ∃ u, u = 1 + t ∧ 1 ≤ u := ⟨1 + t, rfl, by omega⟩
  rw [← hu]
  refine pick_spec (by omega) (by omega) ⟨_, rfl, by omega, ?_⟩
  have q3 := Int.emod_nonneg b (by omega : u ≠ 0)
  have q4 := Int.emod_lt_of_pos b (by omega : 0 < u)
  generalize b % u = d at q3 q4
  have m1 : Int.tmod l 100000 = l % 100000 := IntWalk.rem_in _ _ hl'.1
  have q5 := Int.emod_nonneg l (by omega : (100000 : Int) ≠ 0)
  have q6 := Int.emod_lt_of_pos l (by omega : (0 : Int) < 100000)
  rw [m1, u64w (l % 100000) (by omega) (by omega), u64w d (by omega) (by omega)]
  generalize l % 100000 = m at q5 q6
  refine holder_spec (by omega) (by omega) (by omega) (by omega) (by omega) (by omega) ⟨_, _, rfl, known_spec ⟨_, rfl, ?_⟩⟩
  refine bc_bool (fun hn => absurd hn (by decide)) (fun _ => bc_bool (fun hn => absurd hn (by decide)) (fun _ => ?_))
  unfold X9.j3
  have hr := loop (late % 10) p len cap zs w hrow u d m (m * (u - d) / (u + d)) (by omega) (by omega) (by omega) (by omega) (by omega) (by omega) rfl
    (Int.emod_nonneg late (by omega)) hlen (fun v w' => v = .bool true ∧ w' = w) ⟨rfl, rfl⟩ 4000 0 0 0 (by omega) (by omega) ⟨by omega, by omega, by omega, by omega⟩
  exact pick_spec (by omega) (by omega) ⟨_, rfl, _, hr⟩
end Go.Proofs.YtemdahcphdofmaaX
