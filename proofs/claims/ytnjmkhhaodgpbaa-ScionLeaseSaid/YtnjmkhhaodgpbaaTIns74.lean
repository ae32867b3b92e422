/- slices.Insert of one element into an owned row: function 74, of rows of type 44, elements of type 53, 6 cells each. -/
import Derived.Test.YtnjmkhhaodgpbaaXT1
import Derived.Test.YtnjmkhhaodgpbaaXSlices
namespace Go.Proofs.YtnjmkhhaodgpbaaX
open Go.RowKit
set_option linter.unusedVariables false
set_option linter.unusedSimpArgs false
theorem rowT44 : RowT Try.prog 44 53 6 48 := ⟨by kernel_rfl, ⟨Try.t53, Value.agg #[.int .u64 0, .int .i64 0, .bool false, .int .u64 0, .int .u64 0, .int .i64 0], by kernel_rfl, by kernel_rfl, by kernel_rfl, by kernel_rfl, by kernel_rfl⟩, by omega⟩
theorem zeroT44 : (Try.prog.info? 53).bind (·.zero) = some (Value.agg #[.int .u64 0, .int .i64 0, .bool false, .int .u64 0, .int .u64 0, .int .i64 0]) := by kernel_rfl
theorem insGrow74 {L us cs X : List Value} {a : Nat} (h : a ≤ L.length) : ((L.take a ++ us ++ L.drop (a + us.length)).take (a + us.length) ++ cs ++ X).take (a + us.length + cs.length) = L.take a ++ us ++ cs := by
  have h1 : (L.take a ++ us).length = a + us.length := by simp; omega
  rw [show (L.take a ++ us ++ L.drop (a + us.length)).take (a + us.length) = L.take a ++ us by rw [← h1, List.take_left]]
  rw [show a + us.length + cs.length = (L.take a ++ us ++ cs).length by rw [List.length_append, h1], List.take_left]
theorem insRoom74 {cur us cs : List Value} {a : Nat} (h : a + us.length ≤ cur.length) :
    ((cur.take (a + us.length) ++ cs ++ cur.drop (a + us.length + cs.length)).take a ++ us ++ (cur.take (a + us.length) ++ cs ++ cur.drop (a + us.length + cs.length)).drop (a + us.length)).take (a + us.length + cs.length) = cur.take a ++ us ++ cs := by
  have h1 : (cur.take (a + us.length)).length = a + us.length := by simp; omega
  have x1 : (cur.take (a + us.length) ++ cs ++ cur.drop (a + us.length + cs.length)).take a = cur.take a := by
    rw [List.append_assoc, List.take_append_of_le_length (by omega), List.take_take, Nat.min_eq_left (by omega)]
  have x2 : (cur.take (a + us.length) ++ cs ++ cur.drop (a + us.length + cs.length)).drop (a + us.length) = cs ++ cur.drop (a + us.length + cs.length) := by
    generalize cur.take (a + us.length) = A at h1
    rw [← h1, List.append_assoc, List.drop_left]
  rw [x1, x2]
  have h2 : (cur.take a ++ us ++ cs).length = a + us.length + cs.length := by simp; omega
  rw [← h2, ← List.append_assoc, List.take_left]
theorem ins_74 {w : World} {p : Option Addr} {n c i gv : Nat} {xs us : List Value} {Q : Value → World → Prop} (ho : Own 53 6 w p n c xs) (hi : i ≤ n) (hv : Blk w gv us 53) (hu : us.length = 6) (h1 : ∀ v ∈ xs, v.oneCell' = true) (h1u : ∀ v ∈ us, v.oneCell' = true) (hg : gv ∉ fbl p) (hn : n + 1 ≤ 1048576)
    (hK : ∀ p' c' w', Own 53 6 w' p' (n + 1) c' (xs.take (i * 6) ++ us ++ xs.drop (i * 6)) → Fr (fbl p) w w' → (∀ z ∈ fbl p', z ∈ fbl p ∨ w.heap.size ≤ z) → Q (.slice p' (n + 1) c') w') :
    CallR Try.prog 74 #[.slice p n c, .int .i64 (i : Int), .slice (some (at0 gv 0)) 1 1] w Q := by
  refine X74.sound _ _ _ _ _ _ _ _ _ ?_
  have hle := ho.le
  have hlen : xs.length = n * 6 := ho.len
  have e1 : IntKind.wrap .i64 ((n : Int) + ((1 : Nat) : Int)) = ((n + 1 : Nat) : Int) := by rw [i64w _ (by omega) (by omega)]; omega
  have e2 : IntKind.wrap .i64 ((i : Int) + ((1 : Nat) : Int)) = ((i + 1 : Nat) : Int) := by rw [i64w _ (by omega) (by omega)]; omega
  have hvs : ∀ {w' : World}, Blk w' gv us 53 → Cells w' (some (at0 gv 0)) us := fun hv j u hj => ⟨at0 gv 0, rfl, by rw [add_at, Nat.zero_add]; exact hv.cell hj⟩
  have ei : (i + 1) * 6 = i * 6 + us.length := by omega
  have en : (n + 1) * 6 = i * 6 + us.length + (n - i) * 6 := by omega
  unfold X74.f
  simp only [e1, e2, toNat0, cutAt_zero', Nat.sub_zero, Int.toNat_natCast]
  refine ⟨⟨by omega, by omega, by omega⟩, bc_eq (fun h => absurd h (by decide)) (fun _ => bc_eq (fun hin => ?_) (fun hin => bc_dec (fun hgt => ?_) (fun hroom => ?_)))⟩
  · have hin : i = n := by omega
    subst hin
    refine app_own rowT44 ho (hvs hv) (by omega) (fun h => by cases h) h1u (by simp only [maxLen]; omega) (by omega) ?_
    intro p' c' w' o f e
    refine ⟨_, _, _, rfl, hK p' c' w' ?_ f e⟩
    rw [List.take_of_length_le (by omega), List.drop_eq_nil_of_le (by omega), List.append_nil]
    exact o
  · cases p with
    | none => have := ho.none_c; omega
    | some p =>
      obtain ⟨g, cur, rfl, hb, hcl, htk⟩ := Own.blk ho
      have e3 : IntKind.wrap .i64 (((n + 1 : Nat) : Int) - (i : Int)) = ((n + 1 - i : Nat) : Int) := by rw [i64w _ (by omega) (by omega)]; omega
      rw [e3]
      refine ⟨by omega, grow_blk rowT44 zeroT44 (by kernel_rfl) (xs := cur.take (i * 6)) (by rw [List.length_take]; omega) (fun j u hj => ?_) (by omega) (by omega) (by omega) (by omega) ?_⟩
      · rw [add_at, Nat.zero_add]
        rw [List.getElem?_take] at hj
        split at hj
        · exact hb.cell hj
        · cases hj
      intro C w1 hge hcm b1 f1
      rw [show i + (n + 1 - i) = n + 1 by omega] at *
      refine ⟨_, _, _, rfl, ?_⟩
      generalize hL : cur.take (i * 6) ++ zs (Value.agg #[.int .u64 0, .int .i64 0, .bool false, .int .u64 0, .int .u64 0, .int .i64 0]) (n + 1 - i) ++ zs (Value.agg #[.int .u64 0, .int .i64 0, .bool false, .int .u64 0, .int .u64 0, .int .i64 0]) (C - (n + 1)) = L at b1
      have hzc : (Value.agg #[.int .u64 0, .int .i64 0, .bool false, .int .u64 0, .int .u64 0, .int .i64 0]).cells.size = 6 := by rfl
      have hLl : L.length = C * 6 := by rw [← hL, List.length_append, List.length_append, zs_length, zs_length, hzc, List.length_take]; omega
      have hLi : L.take (i * 6) = cur.take (i * 6) := by rw [← hL, List.append_assoc, List.take_append_of_le_length (by rw [List.length_take]; omega), List.take_take, Nat.min_self]
      have hv1 := hv.keep' f1
      have hb1 := hb.keep' f1
      have hgv := hv.lt
      have hgg := hb.lt
      simp only [cut_at (s := 6) (g := w.heap.size) (show C ≠ i by omega)]
      refine ⟨⟨by omega, by omega, by omega⟩, copy_blk rowT44 b1 (cs := us) (hvs hv1) (by rw [show Nat.min 1 (n + 1 - i) = 1 from Nat.min_eq_left (by omega)]; omega) (by omega) h1u ?_⟩
      intro w2 b2 f2
      unfold drewK
      have hb2 := (hb1.keep f2 (by simp; omega)).keep' (Fr.drew (w := w2))
      have b2' := b2.keep' (Fr.drew (w := w2))
      have hcs : (cur.drop (i * 6)).take ((n - i) * 6) = xs.drop (i * 6) := by rw [← htk, List.drop_take]; congr 1; omega
      have hcl2 : (xs.drop (i * 6)).length = (n - i) * 6 := by rw [List.length_drop]; omega
      by_cases hci : C = i + 1
      · omega
      simp only [cut_at (s := 6) (g := w.heap.size) (show C ≠ i + 1 from hci), cut_at (s := 6) (g := g) (show c ≠ i by omega)]
      refine ⟨_, rfl, ⟨by omega, by omega, by omega⟩, ⟨by omega, by omega, by omega⟩, copy_blk rowT44 b2' (cs := xs.drop (i * 6)) (fun j v hj => ⟨_, rfl, ?_⟩) (by rw [hcl2, show Nat.min (n - i) (n + 1 - (i + 1)) = n - i from Nat.min_eq_left (by omega)]) (by rw [hcl2]; simp only [List.length_append, List.length_take, List.length_drop]; omega) (fun u hu => h1 u (List.mem_of_mem_drop hu)) ?_⟩
      · rw [add_at]
        refine hb2.cell ?_
        rw [← hcs, List.getElem?_take] at hj
        split at hj
        · rwa [List.getElem?_drop] at hj
        · cases hj
      intro w3 b3 f3
      have hext : ∀ x ∈ [w.heap.size], x ∈ fbl (some (at0 g 0)) ∨ w.heap.size ≤ x := fun x hx => .inr (by simp at hx; omega)
      refine ⟨_, rfl, hK (some (at0 w.heap.size 0)) C w3 (own_blk b3 (by rw [hcl2]; simp only [List.length_append, List.length_take, List.length_drop]; omega) (by omega) hcm ?_) (((f1.any.trans f2 hext).tr Fr.drew).trans f3 hext) (fun z hz => .inr (by simp [fbl, at0] at hz; omega))⟩
      have a1 : xs.take (i * 6) = L.take (i * 6) := by rw [hLi, ← htk, List.take_take, Nat.min_eq_left (by omega)]
      rw [en, ei, a1, ← hcl2]
      exact insGrow74 (by omega)
  · cases p with
    | none => have := ho.none_c; omega
    | some p =>
      have hmx := own_max ho
      obtain ⟨g, cur, rfl, hb, hcl, htk⟩ := Own.blk ho
      have hne : gv ≠ g := fun h => hg (by simp [fbl, at0, h])
      simp only [cut_at (s := 6) (g := g) (show c ≠ i + 1 by omega), cut_at (s := 6) (g := g) (show c ≠ i by omega)]
      refine ⟨by omega, ⟨by omega, by omega, by omega⟩, ?_⟩
      refine ⟨_, _, by rw [run_callFunc_extern (fn := Try.f86) Try.func86 (by kernel_rfl) (by kernel_rfl) (by kernel_rfl) (e := Extern.SlicesOverlaps.overlaps #[44, 44] #[4]) (by kernel_rfl), overlaps_apart rowT44 hv hb hne (by omega)]; rfl, _, rfl, ?_⟩
      refine bc_bool (fun _ => ?_) (fun h => absurd h (by decide))
      unfold drewK
      have hb1 := hb.keep' (Fr.drew (w := w))
      have hv1 := hv.keep' (Fr.drew (w := w))
      have hcs : (cur.drop (i * 6)).take ((n - i) * 6) = xs.drop (i * 6) := by rw [← htk, List.drop_take]; congr 1; omega
      have hcl2 : (xs.drop (i * 6)).length = (n - i) * 6 := by rw [List.length_drop]; omega
      refine ⟨⟨by omega, by omega, by omega⟩, ⟨by omega, by omega, by omega⟩, ?_⟩
      refine copy_blk rowT44 hb1 (cs := xs.drop (i * 6)) (fun j v hj => ⟨_, rfl, ?_⟩) (by rw [hcl2, show Nat.min (n + 1 - i) (n + 1 - (i + 1)) = n - i from Nat.min_eq_right (by omega) |>.trans (by omega)]) (by rw [hcl2]; omega) (fun u hu => h1 u (List.mem_of_mem_drop hu)) ?_
      · rw [add_at]
        refine hb1.cell ?_
        rw [← hcs, List.getElem?_take] at hj
        split at hj
        · rwa [List.getElem?_drop] at hj
        · cases hj
      intro w2 b2 f2
      have hv2 := hv1.keep f2 (by simp [hne])
      refine ⟨_, rfl, ⟨by omega, by omega, by omega⟩, ?_⟩
      refine copy_blk rowT44 b2 (cs := us) (hvs hv2) (by rw [show Nat.min 1 (n + 1 - i) = 1 from Nat.min_eq_left (by omega)]; omega) (by rw [hcl2]; simp only [List.length_append, List.length_take, List.length_drop]; omega) h1u ?_
      intro w3 b3 f3
      refine ⟨_, rfl, hK _ _ w3 (own_blk b3 (by rw [hcl2]; simp only [List.length_append, List.length_take, List.length_drop]; omega) (by omega) hmx ?_) ((Fr.drew.tr f2).tr f3) (fun z hz => .inl hz)⟩
      have a1 : xs.take (i * 6) = cur.take (i * 6) := by rw [← htk, List.take_take, Nat.min_eq_left (by omega)]
      rw [en, ei, a1, ← hcl2]
      exact insRoom74 (by omega)
end Go.Proofs.YtnjmkhhaodgpbaaX
