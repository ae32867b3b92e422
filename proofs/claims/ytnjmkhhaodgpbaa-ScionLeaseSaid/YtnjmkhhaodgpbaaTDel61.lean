/- slices.Delete of one element of an owned row: function 61, of rows of type 38, elements of type 22, 1 cells each. -/
import Derived.Test.YtnjmkhhaodgpbaaTIns73
namespace Go.Proofs.YtnjmkhhaodgpbaaX
open Go.RowKit
set_option linter.unusedVariables false
set_option linter.unusedSimpArgs false
theorem delMid61 {cur cs X zs : List Value} {a u : Nat} (h : a + u + cs.length ≤ cur.length) :
    ((cur.take a ++ cs ++ X).take (a + cs.length) ++ zs).take (a + cs.length) = cur.take a ++ cs := by
  have h1 : (cur.take a ++ cs).length = a + cs.length := by simp; omega
  rw [← h1, List.take_left, List.take_left]
theorem del_61 {w : World} {p : Option Addr} {n c i : Nat} {xs : List Value} {Q : Value → World → Prop} (ho : Own 22 1 w p n c xs) (hi : i < n) (h1 : ∀ v ∈ xs, v.oneCell' = true) (hn : n ≤ 1048576)
    (hK : ∀ w', Own 22 1 w' p (n - 1) c (xs.take (i * 1) ++ xs.drop ((i + 1) * 1)) → Fr (fbl p) w w' → Q (.slice p (n - 1) c) w') :
    CallR Try.prog 61 #[.slice p n c, .int .i64 (i : Int), .int .i64 (IntKind.wrap .i64 ((i : Int) + 1))] w Q := by
  have e2 : IntKind.wrap .i64 ((i : Int) + 1) = ((i + 1 : Nat) : Int) := by rw [i64w _ (by omega) (by omega)]; omega
  rw [e2]
  refine X61.sound _ _ _ _ _ _ _ ?_
  have hle := ho.le
  have hlen : xs.length = n * 1 := ho.len
  cases p with
  | none => have := ho.none_c; omega
  | some p =>
    have hmx := own_max ho
    obtain ⟨g, cur, rfl, hb, hcl, htk⟩ := Own.blk ho
    unfold X61.f
    simp only [toNat0, cutAt_zero', Nat.sub_zero, Int.toNat_natCast]
    refine slice3 rowT38 (by omega) (by omega) (by omega) ?_
    intro q
    refine ⟨_, _, _, rfl, bc_eq (fun h => by omega) (fun _ => ?_)⟩
    unfold drewK
    have hb1 := hb.keep' (Fr.drew (w := w))
    refine ⟨⟨by omega, by omega, by omega⟩, ⟨by omega, by omega, by omega⟩, ?_⟩
    obtain ⟨ti, z, hinf, hz, hsz, hby, hzs⟩ := rowT38.info
    have hzo : ∀ v ∈ zs (Value.int .u64 0) 1, v.oneCell' = true := by decide +kernel
    have hcs : (cur.drop ((i + 1) * 1)).take ((n - (i + 1)) * 1) = xs.drop ((i + 1) * 1) := by rw [← htk, List.drop_take, show (n - (i + 1)) * 1 = n * 1 - (i + 1) * 1 by omega]
    have hcl2 : (xs.drop ((i + 1) * 1)).length = (n - (i + 1)) * 1 := by rw [List.length_drop]; omega
    obtain ⟨o, ho2, hat⟩ : ∃ o, cutAt 1 c (i + 1) (some (at0 g 0)) = some (at0 g o) ∧ ∀ j u, (xs.drop ((i + 1) * 1))[j]? = some u → w.drew.cell? ((at0 g o).add j) = some u := by
      by_cases hc : c = i + 1
      · refine ⟨0, by unfold cutAt; rw [if_pos hc], fun j u hj => ?_⟩
        have : (xs.drop ((i + 1) * 1)) = [] := List.drop_eq_nil_of_le (by omega)
        rw [this] at hj
        cases hj
      · refine ⟨(i + 1) * 1, cut_at hc, fun j u hj => ?_⟩
        rw [add_at]
        refine hb1.cell ?_
        rw [← hcs, List.getElem?_take] at hj
        split at hj
        · rwa [List.getElem?_drop] at hj
        · cases hj
    rw [ho2]
    have hr := run_append_room (P := Try.prog) (w := w.drew) 38 38 22 ti rowT38.under hinf g i c cur.toArray hb1 (at0 g o) (n - (i + 1)) (c - (i + 1)) (xs.drop ((i + 1) * 1)) (by rw [hsz]; exact hcl2) hat (fun u hu => h1 u (List.mem_of_mem_drop hu)) (by omega) (by rw [hsz, hcl2]; simp; omega)
    refine ⟨_, _, hr, ?_⟩
    rw [show i + (n - (i + 1)) = n - 1 by omega, hsz]
    have f2 : Fr [g] w.drew (w.drew.setRow g (cur.toArray.toList.take (i * 1) ++ xs.drop ((i + 1) * 1) ++ cur.toArray.toList.drop (i * 1 + (xs.drop ((i + 1) * 1)).length)).toArray) := ⟨rfl, rfl, rfl, by simp, fun k _ hk => setRow_other _ g k _ (fun e => hk (by simp [e]))⟩
    have b2 : Blk (w.drew.setRow g (cur.toArray.toList.take (i * 1) ++ xs.drop ((i + 1) * 1) ++ cur.toArray.toList.drop (i * 1 + (xs.drop ((i + 1) * 1)).length)).toArray) g (cur.take (i * 1) ++ xs.drop ((i + 1) * 1) ++ cur.drop (i * 1 + (xs.drop ((i + 1) * 1)).length)) 22 := setRow_heap w.drew g cur.toArray _ 22 (0, 0) hb1
    generalize (w.drew.setRow g (cur.toArray.toList.take (i * 1) ++ xs.drop ((i + 1) * 1) ++ cur.toArray.toList.drop (i * 1 + (xs.drop ((i + 1) * 1)).length)).toArray) = w2 at b2 f2 ⊢
    refine ⟨_, _, _, rfl, ⟨by omega, by omega, by omega⟩, ?_⟩
    rw [show (⟨g, 0, none⟩ : Addr) = at0 g 0 from rfl]
    rw [cut_at (s := 1) (g := g) (show c ≠ n - 1 by omega), show n - (n - 1) = 1 by omega]
    have hz'' : (Try.prog.info? 22).bind (·.zero) = some (Value.int .u64 0) := zeroT38
    refine clear_blk rowT38 hz'' hzo b2 (by omega) (by rw [hcl2]; simp only [List.length_append, List.length_take, List.length_drop]; omega) ?_
    intro w3 b3 f3
    refine ⟨rfl, hK w3 (own_blk b3 ?_ (by omega) hmx ?_) ((Fr.drew.tr f2).tr f3)⟩
    · have : (zs (Value.int .u64 0) 1).length = 1 := by rw [zs_length]; rfl
      rw [List.length_append, List.length_append, this]
      simp only [List.length_append, List.length_take, List.length_drop]; omega
    · have a1 : xs.take (i * 1) = cur.take (i * 1) := by rw [← htk, List.take_take, Nat.min_eq_left (by omega)]
      rw [a1, show (n - 1) * 1 = i * 1 + (xs.drop ((i + 1) * 1)).length by rw [hcl2]; omega, List.append_assoc ((cur.take (i * 1) ++ xs.drop ((i + 1) * 1) ++ cur.drop (i * 1 + (xs.drop ((i + 1) * 1)).length)).take _)]
      exact delMid61 (u := 1) (by rw [hcl2]; omega)
end Go.Proofs.YtnjmkhhaodgpbaaX
