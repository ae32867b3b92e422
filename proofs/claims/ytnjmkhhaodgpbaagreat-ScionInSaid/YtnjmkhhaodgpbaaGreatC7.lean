/- Part 7. -/
import Derived.Maps.RangeRun
import Derived.Test.YtnjmkhhaodgpbaaGreatC6
set_option linter.unusedVariables false
set_option linter.unusedSimpArgs false
namespace Go.Proofs.YtnjmkhhaodgpbaaGreatX
open Go.RowKit
set_option maxRecDepth 100000
section
variable {rows rows' : List (Int × Scn)} {k s : Int} {r : Scn} {bur bur' : List Int} {S S' : Sc} {n n' : Nat}
theorem put_split (hs : Srt ilt (keys rows)) : ∃ A B mid, rows = A ++ (mid ++ B) ∧ put ilt rows k r = A ++ (k, r) :: B ∧ (∀ e ∈ mid, e.1 = k) ∧ (∀ e ∈ A, e.1 < k) ∧ (∀ e ∈ B, k < e.1) := by
  cases h : has ilt rows k with
  | true =>
    obtain ⟨A, B, u, h1, h2, h3, h4⟩ := split_has ilt_lin hs h
    refine ⟨A, B, [(k, u)], by rw [h1]; rfl, ?_, by simp, fun e he => by simpa [ilt] using h3 e he, fun e he => by simpa [ilt] using h4 e he⟩
    unfold put
    rw [if_pos h, h2, h1]
    simp
  | false =>
    obtain ⟨A, B, h1, h2, h3, h4⟩ := split_not ilt_lin hs h
    refine ⟨A, B, [], by rw [h1]; rfl, ?_, by simp, fun e he => by simpa [ilt] using h3 e he, fun e he => by simpa [ilt] using h4 e he⟩
    unfold put
    rw [if_neg (by rw [h]; decide), h2, h1]
    simp
theorem put_same (hs : Srt ilt (keys rows)) (h : get ilt rows k = some r) : put ilt rows k r = rows := by
  have hm := (get_iff ilt_lin hs).1 h
  obtain ⟨A, B, mid, h1, h2, h3, h4, h5⟩ := put_split (k := k) (r := r) hs
  rw [h2]
  rw [h1] at hm
  rcases List.mem_append.1 hm with hm | hm
  · exact absurd (h4 _ hm) (by simp)
  rcases List.mem_append.1 hm with hm | hm
  · have hmid : mid = [(k, r)] := by
      have hk := hs
      rw [h1] at hk
      match mid, h3, hm, hk with
      | [e], h3, hm, _ => rw [← List.mem_singleton.1 hm]
      | e :: e' :: l, h3, hm, hk =>
        exfalso
        have a1 := h3 e (by simp)
        have a2 := h3 e' (by simp)
        unfold Srt keys at hk
        rw [List.map_append, List.pairwise_append] at hk
        have := hk.2.1
        simp [ilt] at this
        omega
    rw [h1, hmid]
    rfl
  · exact absurd (h5 _ hm) (by simp)
theorem ofR_append {A B : List (Int × Scn)} : ofR (A ++ B) s = ofR A s ++ ofR B s := by
  unfold ofR
  rw [List.filter_append, List.map_append]
theorem ofR_cons {e : Int × Scn} {B : List (Int × Scn)} : ofR (e :: B) s = (if e.2.serial = s then [e.2] else []) ++ ofR B s := by
  unfold ofR
  by_cases h : e.2.serial = s <;> simp [h]
theorem ofR_nope {l : List (Int × Scn)} (h : ∀ e ∈ l, e.2.serial ≠ s) : ofR l s = [] := by
  unfold ofR
  rw [List.filter_eq_nil_iff.2]
  · rfl
  · intro e he
    simpa using h e he
theorem key_ser (R : RI rows) (h : okRow r) : keyS r.serial r.holder = r.serial * 128 + r.holder := by
  obtain ⟨h1, h2, h3⟩ := h
  exact keyS_eq (by omega) (by omega) (by omega) (by omega)
theorem ofR_put (R : RI rows) (h : okRow r) (hn : r.serial ≠ s) : ofR (put ilt rows (keyS r.serial r.holder) r) s = ofR rows s := by
  obtain ⟨A, B, mid, h1, h2, h3, h4, h5⟩ := put_split (k := keyS r.serial r.holder) (r := r) R.srt
  rw [h2]
  have hk := key_ser R h
  have hm : ofR mid s = [] := ofR_nope fun e he => by
    have a1 := h3 e he
    have hr : e ∈ rows := by rw [h1]; simp [he]
    have a2 := R.key e hr
    have a3 := R.hol e hr
    have a4 := h.2.1
    omega
  conv => rhs; rw [h1]
  rw [ofR_append, ofR_append, ofR_append, ofR_cons, if_neg hn, hm]
theorem ofR_putRow (R : RI rows) (h : okRow r) (hn : r.serial ≠ s) : ofR (putRow rows r) s = ofR rows s := by
  unfold putRow
  split
  · exact ofR_put R h hn
  · rfl
theorem drp_filter (hs : Srt ilt (keys rows)) : drp ilt rows k = rows.filter fun e => decide (e.1 ≠ k) := by
  cases h : has ilt rows k with
  | true =>
    obtain ⟨A, B, u, h1, h2, h3, h4⟩ := split_has ilt_lin hs h
    unfold drp
    rw [if_pos h, h2, h1, List.filter_append, List.filter_cons_of_neg (by simp)]
    rw [List.filter_eq_self.2 (fun e he => by have := h3 e he; simp [ilt] at this; simp; omega), List.filter_eq_self.2 (fun e he => by have := h4 e he; simp [ilt] at this; simp; omega)]
    simp
  | false =>
    obtain ⟨A, B, h1, h2, h3, h4⟩ := split_not ilt_lin hs h
    unfold drp
    rw [if_neg (by rw [h]; decide), List.filter_eq_self.2]
    intro e he
    rw [h1] at he
    rcases List.mem_append.1 he with he | he
    · have := h3 e he; simp [ilt] at this; simp; omega
    · have := h4 e he; simp [ilt] at this; simp; omega
theorem drp_fold : ∀ (ks : List Int) {rows : List (Int × Scn)}, Srt ilt (keys rows) → ks.foldl (fun a k => drp ilt a k) rows = rows.filter fun e => decide (e.1 ∉ ks)
  | [], rows, _ => (List.filter_eq_self.2 (by simp)).symm
  | k :: ks, rows, hs => by
    rw [List.foldl_cons, drp_fold ks (drp_srt ilt_lin hs), drp_filter hs, List.filter_filter]
    apply List.filter_congr
    intro e he
    by_cases h1 : e.1 = k <;> by_cases h2 : e.1 ∈ ks <;> simp [h1, h2]
def restR (rows : List (Int × Scn)) (s : Int) : List (Int × Scn) := rows.filter fun e => decide (e.2.serial ≠ s)
theorem restR_id (h : ∀ e ∈ rows, e.2.serial ≠ s) : restR rows s = rows := List.filter_eq_self.2 fun e he => by simpa using h e he
theorem cut_rest (R : RI rows) (h0 : 0 ≤ s) : cutR rows s (ofR rows s) = restR rows s := by
  by_cases hb : s ≤ 72057594037927935
  · unfold cutR
    rw [← List.foldl_map (f := fun r : Scn => keyS s r.holder) (g := fun a k => drp ilt a k), drp_fold _ R.srt]
    apply List.filter_congr
    intro e he
    have a1 := R.key e he
    have a2 := R.hol e he
    have a3 := R.ser e he
    by_cases h : e.2.serial = s
    · have : e.1 ∈ (ofR rows s).map fun r => keyS s r.holder := by
        refine List.mem_map.2 ⟨e.2, ?_, ?_⟩
        · exact List.mem_map.2 ⟨e, List.mem_filter.2 ⟨he, by simpa using h⟩, rfl⟩
        · rw [keyS_eq (by omega) (by omega) (by omega) (by omega), a1, h]
      simp [this, h]
    · have : e.1 ∉ (ofR rows s).map fun r => keyS s r.holder := by
        intro hm
        obtain ⟨r, hr, hk⟩ := List.mem_map.1 hm
        obtain ⟨e', he', rfl⟩ := ofR_mem hr
        have b2 := R.hol e' he'
        rw [keyS_eq (by omega) (by omega) (by omega) (by omega)] at hk
        omega
      simp [this, h]
  · have hn : ∀ e ∈ rows, e.2.serial ≠ s := fun e he => by have := R.ser e he; omega
    rw [ofR_nope hn, restR_id hn]
    rfl
def cutD (rows : List (Int × Scn)) (s : Int) (n : Nat) : List (Int × Scn) := ((List.range n).map fun (h : Nat) => keyS s (h : Int)).foldl (fun a k => drp ilt a k) rows
theorem cutD_succ (i : Nat) : cutD rows s (i + 1) = drp ilt (cutD rows s i) (keyS s (i : Int)) := by
  unfold cutD
  rw [List.range_succ, List.map_append, List.foldl_append]
  rfl
theorem cutD_rest (R : RI rows) (h0 : 0 ≤ s) (hb : s ≤ 72057594037927935) : cutD rows s 65 = restR rows s := by
  unfold cutD
  rw [drp_fold _ R.srt]
  apply List.filter_congr
  intro e he
  have a1 := R.key e he
  have a2 := R.hol e he
  have a3 := R.ser e he
  have : e.1 ∈ ((List.range 65).map fun (h : Nat) => keyS s (h : Int)) ↔ e.2.serial = s := by
    rw [List.mem_map]
    constructor
    · rintro ⟨h, hh, hk⟩
      have := List.mem_range.1 hh
      rw [keyS_eq (by omega) (by omega) (by omega) (by omega)] at hk
      omega
    · intro h
      refine ⟨e.2.holder.toNat, List.mem_range.2 (by omega), ?_⟩
      rw [keyS_eq (by omega) (by omega) (by omega) (by omega)]
      omega
  exact decide_eq_decide.2 (not_congr this)
theorem cutD_ri (R : RI rows) (i : Nat) : RI (cutD rows s i) := by
  induction i with
  | zero => exact R
  | succ i ih => rw [cutD_succ]; exact ih.drpR
theorem drp_le {l : List (Int × Scn)} : (drp ilt l k).length ≤ l.length := by
  rw [drp_length]
  split <;> omega
theorem cutD_le (i : Nat) : (cutD rows s i).length ≤ rows.length := by
  induction i with
  | zero => exact Nat.le_refl _
  | succ i ih => rw [cutD_succ]; exact Nat.le_trans drp_le ih
theorem restR_ri (R : RI rows) : RI (restR rows s) := by
  have hm : ∀ e ∈ restR rows s, e ∈ rows := fun e he => (List.mem_filter.1 he).1
  refine ⟨?_, fun e he => R.key e (hm e he), fun e he => R.ser e (hm e he), fun e he => R.hol e (hm e he), fun e he => R.dis e (hm e he)⟩
  have := R.srt
  unfold Srt keys at *
  rw [List.pairwise_map] at *
  exact this.sublist List.filter_sublist
theorem ofR_rest {s' : Int} (h : s' ≠ s) : ofR (restR rows s) s' = ofR rows s' := by
  unfold ofR restR
  rw [List.filter_filter]
  congr 1
  apply List.filter_congr
  intro e he
  by_cases h1 : e.2.serial = s'
  · simp [h1, h]
  · simp [h1]
theorem inOf_congr (h1 : ofR rows' s = ofR rows s) (h2 : s ∈ bur' ↔ s ∈ bur) : inOf rows' bur' s = inOf rows bur s := by
  rw [inOf_split, inOf_split (bur := bur)]
  have : inOf rows' [] s = inOf rows [] s := by unfold inOf; rw [h1]
  rw [this]
  by_cases h : s ∈ bur
  · rw [if_pos h, if_pos (h2.2 h)]
  · rw [if_neg h, if_neg (fun hh => h (h2.1 hh))]
structure SW (n : Nat) (s : Int) (S : Sc) : Prop where
  ri : RI S.rows
  rl : S.rows.length ≤ n
  bl : S.bur.length ≤ n
  la : 0 ≤ S.last ∧ S.last ≤ n
  rs : ∀ e ∈ S.rows, e.2.serial ≤ S.last
  bs : ∀ y ∈ S.bur, 1 ≤ y ∧ y ≤ S.last
  os : ∀ e ∈ S.os, (1 ≤ e.1 ∧ e.1 ≤ S.last) ∧ (e.1 ≠ s → e.2 = inOf S.rows S.bur e.1)
structure SV (n : Nat) (S : Sc) : Prop where
  ri : RI S.rows
  rl : S.rows.length ≤ n
  bl : S.bur.length ≤ n
  la : 0 ≤ S.last ∧ S.last ≤ n
  rs : ∀ e ∈ S.rows, e.2.serial ≤ S.last
  bs : ∀ y ∈ S.bur, 1 ≤ y ∧ y ≤ S.last
  os : ∀ e ∈ S.os, (1 ≤ e.1 ∧ e.1 ≤ S.last) ∧ e.2 = inOf S.rows S.bur e.1
theorem SV.mono (h : SV n S) (hn : n ≤ n') : SV n' S := ⟨h.ri, Nat.le_trans h.rl hn, Nat.le_trans h.bl hn, ⟨h.la.1, by have := h.la.2; omega⟩, h.rs, h.bs, h.os⟩
theorem SW.keep (h : SW n s S) : SV n (keepS S s) := by
  refine ⟨h.ri, h.rl, h.bl, h.la, h.rs, h.bs, fun e he => ?_⟩
  obtain ⟨e0, h0, rfl⟩ := List.mem_map.1 (show e ∈ setO S.os s (inOf S.rows S.bur s) from he)
  obtain ⟨a, b⟩ := h.os e0 h0
  by_cases hs : e0.1 = s
  · rw [if_pos hs]
    exact ⟨a, by show _ = inOf S.rows S.bur e0.1; rw [hs]⟩
  · rw [if_neg hs]
    exact ⟨a, b hs⟩
theorem SV.alt (h : SV n S) (hn : n ≤ n') (ri : RI rows') (rl : rows'.length ≤ n') (rs : ∀ e ∈ rows', e.2.serial ≤ S.last) (bl : bur'.length ≤ n') (bs : ∀ y ∈ bur', 1 ≤ y ∧ y ≤ S.last)
    (ho : ∀ s', s' ≠ s → ofR rows' s' = ofR S.rows s') (hb : ∀ s', s' ≠ s → (s' ∈ bur' ↔ s' ∈ S.bur)) : SW n' s { S with rows := rows', bur := bur' } :=
  ⟨ri, rl, bl, ⟨h.la.1, by have := h.la.2; show S.last ≤ _; omega⟩, rs, bs, fun e he => ⟨(h.os e he).1, fun hne => by rw [(h.os e he).2]; exact (inOf_congr (ho _ hne) (hb _ hne)).symm⟩⟩
theorem putRow_le : (putRow rows r).length ≤ rows.length + 1 := by
  unfold putRow
  split
  · rw [put_length]
    split <;> omega
  · omega
theorem putRow_mem (R : RI rows) {e : Int × Scn} (he : e ∈ putRow rows r) : e.2 = r ∨ e ∈ rows := by
  unfold putRow at he
  split at he
  · rcases (mem_put ilt_lin R.srt).1 he with rfl | h
    · exact .inl rfl
    · exact .inr h.2
  · exact .inr he
theorem unbur_mem {s' : Int} : s' ∈ unbur S s ↔ s' ∈ S.bur ∧ s' ≠ s := by
  unfold unbur
  rw [List.mem_filter]
  simp
theorem unbur_le : (unbur S s).length ≤ S.bur.length := List.length_filter_le _ _
theorem SV.put (h : SV n S) (hr : okRow r) (hl : r.serial ≤ S.last) : SV (n + 1) (putS S r) := by
  refine SW.keep (h.alt (n' := n + 1) (by omega) (h.ri.putR hr) ?_ (fun e he => ?_) (bur' := S.bur) (by have := h.bl; omega) h.bs (fun s' hs => ofR_putRow h.ri hr (fun e => hs e.symm)) (fun s' hs => Iff.rfl))
  · have := putRow_le (rows := S.rows) (r := r)
    have := h.rl
    omega
  · rcases putRow_mem h.ri he with e1 | h1
    · rw [e1]; exact hl
    · exact h.rs e h1
theorem SV.putU (h : SV n S) (hr : okRow r) (hl : r.serial ≤ S.last) : SV (n + 1) (putS { S with bur := unbur S r.serial } r) := by
  refine SW.keep (s := r.serial) (S := { S with rows := putRow S.rows r, bur := unbur S r.serial }) (h.alt (n' := n + 1) (by omega) (h.ri.putR hr) ?_ (fun e he => ?_) (by have := h.bl; have := unbur_le (S := S) (s := r.serial); omega) (fun y hy => h.bs y (unbur_mem.1 hy).1) (fun s' hs => ofR_putRow h.ri hr (fun e => hs e.symm)) (fun s' hs => by rw [unbur_mem]; simp [hs]))
  · have := putRow_le (rows := S.rows) (r := r)
    have := h.rl
    omega
  · rcases putRow_mem h.ri he with e1 | h1
    · rw [e1]; exact hl
    · exact h.rs e h1
theorem hasO_le (h : SV n S) (hh : hasO S.os s = true) : 1 ≤ s ∧ s ≤ S.last := by
  unfold hasO at hh
  obtain ⟨e, he⟩ := Option.isSome_iff_exists.1 hh
  have h1 := List.find?_some he
  have h2 := List.mem_of_find?_eq_some he
  have := (h.os e h2).1
  simp at h1
  omega
theorem SV.grant {m : Msg} {pin : Bool} {now : Int} (h : SV n S) (hm : ∀ p, okRow (nextR m now p)) (hl : m.ts ≤ S.last) : SV (n + 1) (grantS S m pin now).1 := by
  unfold grantS
  split
  · exact h.putU (hm true) hl
  · exact h.put (hm false) hl
theorem SV.asked {m : Msg} {pin : Bool} {now : Int} (h : SV n S) (hm : ∀ p, okRow (nextR m now p)) (hl : m.ts ≤ S.last) : SV (n + 1) (askedS S m pin now).1 := by
  unfold askedS
  split
  · split
    · exact h.mono (by omega)
    split
    · split
      · exact h.put (hm true) hl
      · exact h.mono (by omega)
    · exact h.grant hm hl
  · exact h.grant hm hl
theorem SV.dirty {m : Msg} {pin : Bool} {now : Int} (h : SV n S) : SV (n + 1) (dirtyS S m pin now).1 := by
  unfold dirtyS
  split
  · split
    · rename_i h1 h2
      exact h.asked (fun p => mine4 h1 now p) (hasO_le h h2).2
    · exact h.mono (by omega)
  · exact h.mono (by omega)
theorem SV.clean {m : Msg} (h : SV n S) : SV (n + 1) (cleanS S m).1 := by
  unfold cleanS
  split
  · rename_i hm
    obtain ⟨hts, hfr⟩ := mine6 hm
    unfold cleanR
    split
    · rename_i r hr
      split
      · exact h.mono (by omega)
      · have hk := (get_key h.ri hr).1
        have hmem := (get_iff ilt_lin h.ri.srt).1 hr
        exact h.put (r := withS r m) hk (h.rs _ hmem)
    · split
      · rename_i ho
        exact h.put (r := ⟨m.ts, m.frm, false, m.seq, 0, 0⟩) ⟨hts, hfr, by simp⟩ (hasO_le h ho).2
      · exact h.mono (by omega)
  · exact h.mono (by omega)
theorem SV.cur (h : SV n S) (c : Int) : SV n { S with cur := c } := ⟨h.ri, h.rl, h.bl, h.la, h.rs, h.bs, h.os⟩
theorem SV.step {now : Int} (h : SV n S) : SV (n + 1) (stepS S now).1 := by
  unfold stepS
  split
  · exact h.mono (by omega)
  · rename_i k hk
    split
    · exact (h.cur _).mono (by omega)
    · rename_i r hr
      split
      · have hko := (get_key h.ri hr).1
        have hmem := (get_iff ilt_lin h.ri.srt).1 hr
        exact SV.put (S := { S with cur := k }) (r := { r with present := false }) (h.cur k) hko (h.rs _ hmem)
      · exact (h.cur _).mono (by omega)
theorem SV.bury (h : SV n S) : SV (n + 1) (buryS S s).1 := by
  unfold buryS
  split
  · rename_i hh
    have hl := hasO_le h hh.1
    refine SW.keep (h.alt (n' := n + 1) (by omega) h.ri (by have := h.rl; omega) h.rs ?_ (fun y hy => ?_) (fun s' hs => rfl) (fun s' hs => by simp [hs]))
    · have := h.bl
      simp
      omega
    · rcases List.mem_append.1 hy with hy | hy
      · exact h.bs y hy
      · simp at hy
        subst hy
        exact hl
  · exact h.mono (by omega)
theorem SV.raise (h : SV n S) : SV n (raiseS S s).1 := by
  unfold raiseS
  split
  · exact SW.keep (h.alt (n' := n) (by omega) h.ri h.rl h.rs (Nat.le_trans unbur_le h.bl) (fun y hy => h.bs y (unbur_mem.1 hy).1) (fun s' hs => rfl) (fun s' hs => by rw [unbur_mem]; simp [hs]))
  · exact h
theorem forgetS_eq (R : RI S.rows) (h0 : 0 ≤ s) : forgetS S s = keepS { S with rows := restR S.rows s, bur := unbur S s } s := by
  unfold forgetS
  rw [cut_rest R h0]
theorem SV.forget (h : SV n S) (h0 : 0 ≤ s) : SV n (forgetS S s) := by
  rw [forgetS_eq h.ri h0]
  refine SW.keep (h.alt (n' := n) (by omega) (restR_ri h.ri) (Nat.le_trans (List.length_filter_le _ _) h.rl) (fun e he => h.rs e (List.mem_filter.1 he).1) (Nat.le_trans unbur_le h.bl) (fun y hy => h.bs y (unbur_mem.1 hy).1) (fun s' hs => ofR_rest hs) (fun s' hs => by rw [unbur_mem]; simp [hs]))
theorem SV.free (h : SV n S) : SV n { S with os := freeO S.os s } := ⟨h.ri, h.rl, h.bl, h.la, h.rs, h.bs, fun e he => h.os e (List.mem_filter.1 he).1⟩
theorem SV.make (h : SV n S) : SV (n + 1) { S with last := (makeO S.last S.os).1, os := (makeO S.last S.os).2.1 } := by
  unfold makeO
  split
  · exact h.mono (by omega)
  split
  · exact h.mono (by omega)
  · have hla := h.la
    refine ⟨h.ri, by have := h.rl; show S.rows.length ≤ _; omega, by have := h.bl; show S.bur.length ≤ _; omega, by show 0 ≤ S.last + 1 ∧ S.last + 1 ≤ _; omega, fun e he => by have := h.rs e he; show _ ≤ S.last + 1; omega, fun y hy => by have := h.bs y hy; show _ ∧ _ ≤ S.last + 1; omega, fun e he => ?_⟩
    rcases List.mem_append.1 he with he | he
    · have := h.os e he
      exact ⟨by show _ ∧ _ ≤ S.last + 1; omega, this.2⟩
    · simp at he
      subst he
      refine ⟨by show 1 ≤ S.last + 1 ∧ S.last + 1 ≤ S.last + 1; omega, ?_⟩
      show 0 = inOf S.rows S.bur (S.last + 1)
      unfold inOf
      rw [ofR_nope (fun e he => by have := h.rs e he; omega)]
      rfl
theorem setO_same {l : List (Int × Int)} {d : Int} (h : ∀ e ∈ l, e.1 = s → e.2 = d) : setO l s d = l := by
  unfold setO
  conv => rhs; rw [← List.map_id l]
  apply List.map_congr_left
  intro e he
  by_cases hs : e.1 = s
  · rw [if_pos hs, ← h e he hs]
    rfl
  · rw [if_neg hs]
    rfl
theorem SV.keepS (h : SV n S) : keepS S s = S := by
  unfold Go.Proofs.YtnjmkhhaodgpbaaGreatX.keepS
  rw [setO_same fun e he hs => by rw [(h.os e he).2, hs]]
theorem SV.putS (h : SV n S) (hg : get ilt S.rows (keyS r.serial r.holder) = some r) : putS S r = S := by
  unfold Go.Proofs.YtnjmkhhaodgpbaaGreatX.putS putRow
  rw [put_same h.ri.srt hg]
  simp only [ite_self]
  exact h.keepS
theorem SV.forgetB (h : SV n S) (hs : S.last < s) : forgetS S s = S := by
  have h0 := h.la.1
  rw [forgetS_eq h.ri (by omega), restR_id (fun e he => by have := h.rs e he; omega)]
  have : unbur S s = S.bur := List.filter_eq_self.2 fun y hy => by
    have := h.bs y hy
    simp
    omega
  rw [this]
  exact h.keepS
theorem SV.sc0 {c : Cfg} {node : Int} : SV 5 (sc0 c node) := by
  refine ⟨⟨List.Pairwise.nil, fun e he => (by cases he), fun e he => (by cases he), fun e he => (by cases he), fun e he => (by cases he)⟩, by show 0 ≤ 5; omega, by show 0 ≤ 5; omega, by show (0 : Int) ≤ 5 ∧ (5 : Int) ≤ (5 : Nat); omega, fun e he => (by cases he), fun y hy => (by cases hy), fun e he => ?_⟩
  obtain ⟨k, hk, rfl⟩ := List.mem_map.1 (show e ∈ objs 5 from he)
  have := List.mem_range.1 hk
  exact ⟨by show 1 ≤ (k : Int) + 1 ∧ (k : Int) + 1 ≤ 5; omega, rfl⟩
end
end Go.Proofs.YtnjmkhhaodgpbaaGreatX
namespace Go.Proofs.YtnjmkhhaodgpbaaGreatX
open Go.RowKit
set_option maxRecDepth 100000
def fname : Nat → ByteArray
  | 0 => ⟨#[99, 97, 108, 108]⟩
  | 1 => ⟨#[102, 108, 111, 111, 114]⟩
  | 2 => ⟨#[105, 116, 101, 109]⟩
  | 3 => ⟨#[111, 112]⟩
  | 4 => ⟨#[102, 105, 101, 108, 100]⟩
  | 5 => ⟨#[116, 97, 114, 103, 101, 116]⟩
  | 6 => ⟨#[115, 101, 113]⟩
  | 7 => ⟨#[118, 111, 117, 99, 104, 101, 114]⟩
  | 8 => ⟨#[97, 116]⟩
  | 9 => ⟨#[100, 105, 115, 116]⟩
  | 10 => ⟨#[99, 111, 100, 101]⟩
  | 11 => ⟨#[118, 97, 108, 117, 101]⟩
  | 12 => ⟨#[114, 101, 102, 115]⟩
  | 13 => ⟨#[115, 116, 97, 109, 112]⟩
  | _ => ⟨#[108, 105, 115, 116]⟩
def kindS : List ByteArray := [(⟨#[]⟩ : ByteArray), (⟨#[99, 97, 108, 108, 32, 102, 108, 111, 111, 114, 32, 111, 112, 32, 102, 105, 101, 108, 100, 32, 116, 97, 114, 103, 101, 116, 32, 118, 97, 108, 117, 101, 32, 114, 101, 102, 115]⟩ : ByteArray), (⟨#[99, 97, 108, 108, 32, 99, 111, 100, 101, 32, 118, 97, 108, 117, 101, 32, 114, 101, 102, 115]⟩ : ByteArray), (⟨#[99, 97, 108, 108]⟩ : ByteArray), (⟨#[116, 97, 114, 103, 101, 116, 32, 115, 101, 113, 32, 118, 111, 117, 99, 104, 101, 114, 32, 97, 116, 32, 100, 105, 115, 116]⟩ : ByteArray), (⟨#[116, 97, 114, 103, 101, 116, 32, 115, 101, 113, 32, 97, 116, 32, 99, 111, 100, 101]⟩ : ByteArray), (⟨#[116, 97, 114, 103, 101, 116, 32, 115, 101, 113]⟩ : ByteArray), (⟨#[116, 97, 114, 103, 101, 116, 32, 115, 101, 113]⟩ : ByteArray), (⟨#[99, 97, 108, 108, 32, 105, 116, 101, 109, 32, 111, 112, 32, 116, 97, 114, 103, 101, 116]⟩ : ByteArray), (⟨#[99, 97, 108, 108, 32, 105, 116, 101, 109, 32, 99, 111, 100, 101, 32, 115, 116, 97, 109, 112, 32, 108, 105, 115, 116]⟩ : ByteArray), (⟨#[99, 97, 108, 108, 32, 105, 116, 101, 109, 32, 116, 97, 114, 103, 101, 116, 32, 115, 116, 97, 109, 112]⟩ : ByteArray), (⟨#[99, 97, 108, 108, 32, 105, 116, 101, 109]⟩ : ByteArray)]
def hasLoop (s t : ByteArray) : Nat → Nat → Nat → Bool
  | 0, _, _ => false
  | k + 1, a, i => if i ≤ s.size then
      if i = s.size then (if strEq (s.extract a i) t then true else hasLoop s t k (i + 1) (i + 1))
      else if byteAt s (i : Int) = 32 then (if strEq (s.extract a i) t then true else hasLoop s t k (i + 1) (i + 1)) else hasLoop s t k a (i + 1)
    else false
theorem has_fin : ∀ k : Fin 11, ∀ i : Fin 15, hasLoop (kindS.getD (k.val + 1) ⟨#[]⟩) (fname i.val) 40 0 0 = hasF ((k.val + 1 : Nat) : Int) i.val := by decide +kernel
section
variable {w : World} {Q : QT}
theorem has_l0 {s t : ByteArray} (hs : s.size ≤ 1000) (f : Nat) : ∀ (a i : Nat), s.size + 1 - i < f → a ≤ i → i ≤ s.size + 1 → Q (.bool (hasLoop s t f a i)) w → X111.l0 Q f t s (a : Int) (i : Int) w := by
  induction f with
  | zero => intro a i hf; omega
  | succ f ih =>
    intro a i hf ha hi hQ
    rw [X111.l0]
    rw [hasLoop] at hQ
    have e1 : IntKind.wrap .i64 ((i : Int) + 1) = ((i + 1 : Nat) : Int) := by rw [i64w _ (by omega) (by omega)]; omega
    rw [e1]
    refine bc_dec (fun h1 => ?_) (fun h1 => ?_)
    · rw [if_pos (by omega)] at hQ
      refine bc_eq (fun h2 => ?_) (fun h2 => ?_)
      · rw [if_pos (by omega)] at hQ
        refine ⟨⟨by omega, by omega, by omega⟩, ?_⟩
        simp only [Int.toNat_natCast]
        refine bc_bool (fun h => ?_) (fun h => ?_)
        · rw [if_pos h] at hQ; exact hQ
        · rw [if_neg (by simp [h])] at hQ
          exact ih _ _ (by omega) (by omega) (by omega) hQ
      · rw [if_neg (by omega)] at hQ
        refine ⟨⟨by omega, by omega⟩, bc_eq (fun h3 => ?_) (fun h3 => ?_)⟩
        · rw [if_pos h3] at hQ
          refine ⟨⟨by omega, by omega, by omega⟩, ?_⟩
          simp only [Int.toNat_natCast]
          refine bc_bool (fun h => ?_) (fun h => ?_)
          · rw [if_pos h] at hQ; exact hQ
          · rw [if_neg (by simp [h])] at hQ
            exact ih _ _ (by omega) (by omega) (by omega) hQ
        · rw [if_neg h3] at hQ
          exact ih _ _ (by omega) (by omega) (by omega) hQ
    · rw [if_neg (by omega)] at hQ
      exact hQ
theorem kindS_size : ∀ k : Fin 11, (kindS.getD (k.val + 1) ⟨#[]⟩).size ≤ 38 := by decide +kernel
theorem has_spec {k : Int} (i : Nat) (hi : i < 15) (hQ : ∀ w', Fr [] w w' → Q (.bool (hasF k i)) w') : CallR Tryz.prog 111 #[.int .i64 k, .string (fname i)] w Q := by
  refine X111.sound _ _ _ _ ?_
  unfold X111.f newK
  rw [show (⟨w.heap.size, 0, none⟩ : Addr) = at0 w.heap.size 0 from rfl]
  obtain ⟨hb, f⟩ := made (w := w) (cs := #[.string (⟨#[]⟩ : ByteArray), .string (⟨#[]⟩ : ByteArray), .string (⟨#[]⟩ : ByteArray), .string (⟨#[]⟩ : ByteArray), .string (⟨#[]⟩ : ByteArray), .string (⟨#[]⟩ : ByteArray), .string (⟨#[]⟩ : ByteArray), .string (⟨#[]⟩ : ByteArray), .string (⟨#[]⟩ : ByteArray), .string (⟨#[]⟩ : ByteArray), .string (⟨#[]⟩ : ByteArray), .string (⟨#[]⟩ : ByteArray)]) (e := 165)
  generalize w.alloc _ = w2 at *
  refine stAll_blk hb (by simp) ?_
  intro w3 b3 f3
  have f03 : Fr [] w w3 := f.trans f3 (fun x hx => by simp at hx; exact .inr (by omega))
  have hout : ¬ (1 ≤ k ∧ k ≤ 11) → hasF k i = false := fun h => by unfold hasF; rw [fieldsN_out h]; simp
  have hq := hQ w3 f03
  refine bc_dec (fun h1 => ?_) (fun h1 => bc_dec (fun h2 => ?_) (fun h2 => ?_))
  · rw [hout (by omega)] at hq; exact hq
  · rw [hout (by omega)] at hq; exact hq
  · have hfin := has_fin ⟨k.toNat - 1, by omega⟩ ⟨i, hi⟩
    have hsz := kindS_size ⟨k.toNat - 1, by omega⟩
    simp only [] at hfin hsz
    rw [show k.toNat - 1 + 1 = k.toNat by omega] at hfin hsz
    rw [show ((k.toNat : Nat) : Int) = k by omega] at hfin
    unfold X111.j1
    refine ⟨⟨by omega, by omega⟩, ?_⟩
    rw [add_at, Nat.zero_add, Nat.mul_one]
    have hl : k.toNat < kindS.length := by show k.toNat < 12; omega
    have hc : w3.cell? (at0 w.heap.size k.toNat) = some (.string (kindS.getD k.toNat ⟨#[]⟩)) := by
      refine b3.cell ?_
      rw [List.getD_eq_getElem?_getD, List.getElem?_eq_getElem hl]
      show (kindS.map Value.string)[k.toNat]? = _
      rw [List.getElem?_map, List.getElem?_eq_getElem hl]
      rfl
    refine ld_str hc ⟨40, has_l0 (by omega) 40 0 0 (by omega) (by omega) (by omega) ?_⟩
    rw [hfin]
    exact hq
theorem within_spec {n lo hi : Int} (hQ : ∀ b : Bool, (b = true ↔ lo ≤ n ∧ n ≤ hi) → Q (.bool b) w) : CallR Tryz.prog 108 #[.int .i64 n, .int .i64 lo, .int .i64 hi] w Q := by
  refine X108.sound _ _ _ _ _ ?_
  exact bc_dec (fun h => hQ _ (by simp; omega)) (fun h => hQ _ (by simp; omega))
theorem rnumber_spec {h : Bool} {n lo hi : Int} (hQ : ∀ b : Bool, (b = true ↔ numberR h n lo hi) → Q (.bool b) w) : CallR Tryz.prog 126 #[.bool h, .int .i64 n, .int .i64 lo, .int .i64 hi] w Q := by
  refine X126.sound _ _ _ _ _ _ ?_
  unfold numberR at hQ
  cases h with
  | false => exact bc_bool (fun _ => hQ _ (by simp)) (fun h => by cases h)
  | true => exact bc_bool (fun h => by cases h) (fun _ => within_spec fun b hb => ⟨_, rfl, hQ _ (by simpa using hb)⟩)
theorem rserial_spec {h : Bool} {n : Int} (hQ : ∀ b : Bool, (b = true ↔ serialR h n) → Q (.bool b) w) : CallR Tryz.prog 125 #[.bool h, .int .u64 n] w Q := by
  refine X125.sound _ _ _ _ ?_
  unfold serialR at hQ
  cases h with
  | false => exact bc_bool (fun _ => hQ _ (by simp)) (fun h => by cases h)
  | true => exact bc_bool (fun h => by cases h) (fun _ => bc_dec (fun h => hQ _ (by simp [okSerial]; omega)) (fun h => hQ _ (by simp [okSerial]; omega)))
theorem none_spec {x y : Int} (hQ : Ans Q (noID (x, y)) w) : CallR Tryz.prog 127 #[.agg #[.int .i64 x, .int .u64 y]] w Q := by
  refine X127.sound _ _ _ _ ?_
  unfold X127.f newK
  obtain ⟨hb, f⟩ := made (w := w) (cs := #[.int .i64 x, .int .u64 y]) (e := 37)
  rw [show (⟨w.heap.size, 0, none⟩ : Addr) = at0 w.heap.size 0 from rfl]
  simp only [add_at, Nat.zero_add]
  generalize w.alloc _ = w2 at *
  refine ld_int (hb.cell rfl) (bc_eq (fun h => ld_int (hb.cell rfl) (hQ _ _ ?_ f)) (fun h => hQ _ _ ?_ f))
  · simp [noID, h]
  · simp [noID, h]
theorem id_spec {x y : Int} (hQ : Ans Q (okID (x, y)) w) : CallR Tryz.prog 112 #[.agg #[.int .i64 x, .int .u64 y]] w Q := by
  refine X112.sound _ _ _ _ ?_
  unfold X112.f newK
  obtain ⟨hb, f⟩ := made (w := w) (cs := #[.int .i64 x, .int .u64 y]) (e := 37)
  rw [show (⟨w.heap.size, 0, none⟩ : Addr) = at0 w.heap.size 0 from rfl]
  simp only [add_at, Nat.zero_add]
  generalize w.alloc _ = w2 at *
  refine ld_int (hb.cell rfl) (bc_eq (fun h => ld_int (hb.cell rfl) (hQ _ _ ?_ f)) (fun h => ld_int (hb.cell rfl) (bc_dec (fun h1 => ld_int (hb.cell rfl) (bc_dec (fun h2 => ld_int (hb.cell rfl) (bc_dec (fun h3 => ld_int (hb.cell rfl) (hQ _ _ ?_ f)) (fun h3 => hQ _ _ ?_ f))) (fun h2 => hQ _ _ ?_ f))) (fun h1 => hQ _ _ ?_ f))))
  all_goals simp only [okID, okSerial, decide_eq_true_eq, beq_iff_eq]
  all_goals first | omega | exact ⟨fun hh => (by cases hh), fun hh => by omega⟩
end
section
variable {w : World} {Q : QT} {m : Msg} {rp lp : Option Addr} {rc lc g : Nat}
theorem Ans.no {P : Prop} {w w' : World} {Q : QT} (h : Ans Q P w) (f : Fr [] w w') (hn : ¬ P) : Q (.bool false) w' := h _ _ ⟨fun h => (by cases h), fun h => absurd h hn⟩ f
theorem Ans.le {P P' : Prop} {w w' : World} {Q : QT} (h : Ans Q P w) (f : Fr [] w w') (e : P' ↔ P) : Ans Q P' w' := fun b w2 hb f2 => h b w2 (hb.trans e) (f.tr f2)
theorem not_true {b : Bool} {P : Prop} (h : b = true ↔ P) (e : (!b) = true) : ¬ P := fun hp => by rw [h.2 hp] at e; cases e
theorem of_not {b : Bool} {P : Prop} (h : b = true ↔ P) (e : (!b) = false) : P := h.1 (by cases b; cases e; rfl)
def nP0 (m : Msg) : Prop := (hasF m.kind 11 = true ∨ m.value = 0) ∧ (hasF m.kind 8 = true ∨ m.at_ = 0) ∧ (hasF m.kind 13 = true ∨ m.stamp = 0)
def nP1 (m : Msg) : Prop := (if hasF m.kind 1 then 1 ≤ m.floor ∧ m.floor ≤ m.call else m.floor = 0) ∧ nP0 m
def nP2 (m : Msg) : Prop := (serialR (hasF m.kind 6) m.seq ∧ numberR (hasF m.kind 7) m.voucher 1 64 ∧ numberR (hasF m.kind 9) m.dist 1 40) ∧ nP1 m
theorem num_j0 (hb : Blk w g (m.cells rp rc lp lc) 41) (hQ : Ans Q (nP0 m) w) : X109.j0 Q (at0 g 0) m.kind w := by
  unfold X109.j0
  simp only [add_at, Nat.zero_add, Nat.add_zero]
  unfold nP0 at hQ
  have last : ∀ {w'} {a : Prop} {b : Prop}, Fr [] w w' → ((hasF m.kind 11 = true ∨ m.value = 0)) → (hasF m.kind 8 = true ∨ m.at_ = 0) → CallR Tryz.prog 111 #[.int .i64 m.kind, .string (⟨#[115, 116, 97, 109, 112]⟩ : ByteArray)] w' fun v7 w8 => ∃ (y9 : Bool), v7 = .bool y9 ∧ bcase y9 (Q (.bool true) w8) (ldI .u64 w8 (at0 g 17) fun x10 => Q (.bool (x10 == (0 : Int))) w8) := by
    intro w' _ _ f h1 h2
    refine has_spec 13 (by omega) fun w2 f2 => ⟨_, rfl, bc_bool (fun h3 => ?_) (fun h3 => ?_)⟩
    · exact hQ _ _ (by simp [h1, h2, h3]) (f.tr f2)
    · refine ld_int ((hb.keep' (f.tr f2)).cell rfl) (hQ _ _ (by simp [h1, h2, h3]) (f.tr f2))
  have mid : ∀ {w'}, Fr [] w w' → ((hasF m.kind 11 = true ∨ m.value = 0)) → CallR Tryz.prog 111 #[.int .i64 m.kind, .string (⟨#[97, 116]⟩ : ByteArray)] w' fun v4 w5 => ∃ (y6 : Bool), v4 = .bool y6 ∧ bcase y6 (CallR Tryz.prog 111 #[.int .i64 m.kind, .string (⟨#[115, 116, 97, 109, 112]⟩ : ByteArray)] w5 fun v7 w8 => ∃ (y9 : Bool), v7 = .bool y9 ∧ bcase y9 (Q (.bool true) w8) (ldI .u64 w8 (at0 g 17) fun x10 => Q (.bool (x10 == (0 : Int))) w8)) (ldI .u64 w5 (at0 g 15) fun x11 => bcase (x11 == (0 : Int)) (CallR Tryz.prog 111 #[.int .i64 m.kind, .string (⟨#[115, 116, 97, 109, 112]⟩ : ByteArray)] w5 fun v12 w13 => ∃ (y14 : Bool), v12 = .bool y14 ∧ bcase y14 (Q (.bool true) w13) (ldI .u64 w13 (at0 g 17) fun x15 => Q (.bool (x15 == (0 : Int))) w13)) (Q (.bool false) w5)) := by
    intro w' f h1
    refine has_spec 8 (by omega) fun w2 f2 => ⟨_, rfl, bc_bool (fun h2 => last (a := True) (b := True) (f.tr f2) h1 (.inl h2)) (fun h2 => ?_)⟩
    refine ld_int ((hb.keep' (f.tr f2)).cell rfl) (bc_eq (fun h3 => last (a := True) (b := True) (f.tr f2) h1 (.inr h3)) (fun h3 => hQ.no (f.tr f2) ?_))
    simp [h2, h3]
  refine has_spec 11 (by omega) fun w2 f2 => ⟨_, rfl, bc_bool (fun h1 => mid f2 (.inl h1)) (fun h1 => ?_)⟩
  refine ld_int ((hb.keep' f2).cell rfl) (bc_eq (fun h2 => mid f2 (.inr h2)) (fun h2 => hQ.no f2 ?_))
  simp [h1, h2]
theorem num_j1 (hb : Blk w g (m.cells rp rc lp lc) 41) (hQ : Ans Q (nP1 m) w) : X109.j1 Q (at0 g 0) m.kind w := by
  unfold X109.j1
  simp only [add_at, Nat.zero_add, Nat.add_zero]
  unfold nP1 at hQ
  refine has_spec 1 (by omega) fun w2 f2 => ⟨_, rfl, bc_bool (fun h1 => ?_) (fun h1 => ?_)⟩
  · have b2 := hb.keep' f2
    refine ld_int (b2.cell rfl) (bc_dec (fun h => hQ.no f2 (by rw [if_pos h1]; omega)) (fun h2 => ?_))
    refine ld_int (b2.cell rfl) (ld_int (b2.cell rfl) (bc_dec (fun h => hQ.no f2 (by rw [if_pos h1]; omega)) (fun h3 => ?_)))
    refine has_spec 1 (by omega) fun w3 f3 => ⟨_, rfl, ?_⟩
    rw [h1]
    refine bc_bool (fun h => by cases h) (fun _ => num_j0 (b2.keep' f3) (hQ.le (f2.tr f3) ?_))
    rw [if_pos h1]
    exact ⟨fun h => ⟨⟨by omega, by omega⟩, h⟩, fun h => h.2⟩
  · refine has_spec 1 (by omega) fun w3 f3 => ⟨_, rfl, ?_⟩
    rw [h1]
    have b3 := hb.keep' (f2.tr f3)
    refine bc_bool (fun _ => ?_) (fun h => by cases h)
    refine ld_int (b3.cell rfl) (bc_ne (fun h => hQ.no (f2.tr f3) (by rw [if_neg (by simp [h1])]; exact fun hh => h hh.1)) (fun h => num_j0 b3 (hQ.le (f2.tr f3) ?_)))
    rw [if_neg (by simp [h1])]
    exact ⟨fun hh => ⟨h, hh⟩, fun hh => hh.2⟩
theorem num_j2 (hb : Blk w g (m.cells rp rc lp lc) 41) (hQ : Ans Q (nP2 m) w) : X109.j2 Q (at0 g 0) m.kind w := by
  unfold X109.j2 drewK
  simp only [add_at, Nat.zero_add, Nat.add_zero]
  unfold nP2 at hQ
  have f0 : Fr [] w w.drew := Fr.drew
  have c : ∀ {w'}, Fr [] w w' → Blk w' g (m.cells rp rc lp lc) 41 := fun f => hb.keep' f
  refine has_spec 6 (by omega) fun w2 f2 => ⟨_, rfl, ?_⟩
  have g2 := f0.tr f2
  refine ld_int ((c g2).cell rfl) ⟨⟨(c f0).cell rfl, (c g2).cell rfl⟩, rserial_spec fun b1 hb1 => ⟨_, rfl, bc_bool (fun e => hQ.no g2 fun h => not_true hb1 e h.1.1) (fun e1 => ?_)⟩⟩
  refine has_spec 7 (by omega) fun w3 f3 => ⟨_, rfl, ?_⟩
  have g3 := g2.tr f3
  refine ld_int ((c g3).cell rfl) ⟨⟨(c g2).cell rfl, (c g3).cell rfl⟩, rnumber_spec fun b2 hb2 => ⟨_, rfl, bc_bool (fun e => hQ.no g3 fun h => not_true hb2 e h.1.2.1) (fun e2 => ?_)⟩⟩
  refine has_spec 9 (by omega) fun w4 f4 => ⟨_, rfl, ?_⟩
  have g4 := g3.tr f4
  refine ld_int ((c g4).cell rfl) ⟨⟨(c g3).cell rfl, (c g4).cell rfl⟩, rnumber_spec fun b3 hb3 => ⟨_, rfl, bc_bool (fun e => hQ.no g4 fun h => not_true hb3 e h.1.2.2) (fun e3 => ?_)⟩⟩
  exact num_j1 (c g4) (hQ.le g4 ⟨fun h => ⟨⟨of_not hb1 e1, of_not hb2 e2, of_not hb3 e3⟩, h⟩, fun h => h.2⟩)
theorem num_j3 (hb : Blk w g (m.cells rp rc lp lc) 41) (hQ : Ans Q (numbersR m) w) : X109.j3 Q (at0 g 0) m.kind (opsN m.kind) (codesN m.kind) w := by
  unfold X109.j3 drewK
  simp only [add_at, Nat.zero_add, Nat.add_zero]
  unfold numbersR at hQ
  have f0 : Fr [] w w.drew := Fr.drew
  have c : ∀ {w'}, Fr [] w w' → Blk w' g (m.cells rp rc lp lc) 41 := fun f => hb.keep' f
  refine has_spec 0 (by omega) fun w2 f2 => ⟨_, rfl, ?_⟩
  have g2 := f0.tr f2
  refine ld_int ((c g2).cell rfl) ⟨⟨(c f0).cell rfl, (c g2).cell rfl⟩, rserial_spec fun b1 hb1 => ⟨_, rfl, bc_bool (fun e => hQ.no g2 fun h => not_true hb1 e h.1.1) (fun e1 => ?_)⟩⟩
  refine has_spec 3 (by omega) fun w3 f3 => ⟨_, rfl, ?_⟩
  have g3 := g2.tr f3
  refine ld_int ((c g3).cell rfl) ⟨⟨(c g2).cell rfl, (c g3).cell rfl⟩, rnumber_spec fun b2 hb2 => ⟨_, rfl, bc_bool (fun e => hQ.no g3 fun h => not_true hb2 e h.1.2.1) (fun e2 => ?_)⟩⟩
  refine has_spec 4 (by omega) fun w4 f4 => ⟨_, rfl, ?_⟩
  have g4 := g3.tr f4
  refine ld_int ((c g4).cell rfl) ⟨⟨(c g3).cell rfl, (c g4).cell rfl⟩, rnumber_spec fun b3 hb3 => ⟨_, rfl, bc_bool (fun e => hQ.no g4 fun h => not_true hb3 e h.1.2.2.1) (fun e3 => ?_)⟩⟩
  refine has_spec 2 (by omega) fun w5 f5 => ⟨_, rfl, ?_⟩
  have g5 := g4.tr f5
  refine ld_int ((c g5).cell rfl) ⟨⟨(c g4).cell rfl, (c g5).cell rfl⟩, rnumber_spec fun b4 hb4 => ⟨_, rfl, bc_bool (fun e => hQ.no g5 fun h => not_true hb4 e h.1.2.2.2.1) (fun e4 => ?_)⟩⟩
  refine has_spec 10 (by omega) fun w6 f6 => ⟨_, rfl, ?_⟩
  have g6 := g5.tr f6
  refine ld_int ((c g6).cell rfl) ⟨⟨(c g5).cell rfl, (c g6).cell rfl⟩, rnumber_spec fun b5 hb5 => ⟨_, rfl, bc_bool (fun e => hQ.no g6 fun h => not_true hb5 e h.1.2.2.2.2) (fun e5 => ?_)⟩⟩
  exact num_j2 (c g6) (hQ.le g6 ⟨fun h => ⟨⟨of_not hb1 e1, of_not hb2 e2, of_not hb3 e3, of_not hb4 e4, of_not hb5 e5⟩, h⟩, fun h => h.2⟩)
theorem rnumbers_spec (hQ : Ans Q (numbersR m) w) : CallR Tryz.prog 109 #[msgV m rp rc lp lc] w Q := by
  apply X109.sound
  unfold X109.f newK
  obtain ⟨hb, f⟩ := made (w := w) (cs := (m.cells rp rc lp lc).toArray) (e := 41)
  rw [show (⟨w.heap.size, 0, none⟩ : Addr) = at0 w.heap.size 0 from rfl]
  simp only [add_at, Nat.zero_add, Nat.add_zero]
  generalize w.alloc _ = w2 at *
  have go := num_j3 hb (hQ.le f Iff.rfl)
  refine ld_int (hb.cell rfl) ?_
  unfold X109.j4
  refine bc_eq (fun h8 => ?_) (fun h8 => ?_)
  · have e1 : opsN m.kind = 3 := by unfold opsN; rw [if_pos h8]
    have e2 : codesN m.kind = 10 := by unfold codesN; rw [if_neg (by omega)]
    rw [e1, e2] at go
    exact bc_eqf (by omega) go
  · have e1 : opsN m.kind = 6 := by unfold opsN; rw [if_neg h8]
    rw [e1] at go
    unfold codesN at go
    refine bc_eq (fun h9 => ?_) (fun h9 => ?_)
    · rw [if_pos h9] at go; exact go
    · rw [if_neg h9] at go; exact go
theorem rtarget_spec (hQ : Ans Q (targetR m) w) : CallR Tryz.prog 110 #[msgV m rp rc lp lc] w Q := by
  apply X110.sound
  unfold X110.f newK
  obtain ⟨hb, f⟩ := made (w := w) (cs := (m.cells rp rc lp lc).toArray) (e := 41)
  rw [show (⟨w.heap.size, 0, none⟩ : Addr) = at0 w.heap.size 0 from rfl]
  simp only [add_at, Nat.zero_add, Nat.add_zero]
  generalize w.alloc _ = w2 at *
  unfold targetR at hQ
  refine ld_int (hb.cell rfl) (has_spec 5 (by omega) fun w3 f3 => ⟨_, rfl, ?_⟩)
  have b3 := hb.keep' f3
  have g3 := f.tr f3
  refine bc_bool (fun h => ?_) (fun h => ?_)
  · have hh : hasF m.kind 5 = false := by cases e : hasF m.kind 5; rfl; rw [e] at h; cases h
    rw [if_neg (by simp [hh])] at hQ
    exact ld_int (b3.cell rfl) (ld_int (b3.cell rfl) (none_spec fun b w4 hb4 f4 => ⟨_, rfl, hQ _ _ hb4 (g3.tr f4)⟩))
  · have hh : hasF m.kind 5 = true := by cases e : hasF m.kind 5; rw [e] at h; cases h; rfl
    rw [if_pos hh] at hQ
    have key : ∀ (c : Bool), (c = true ↔ aimsNone m) → CallR Tryz.prog 112 #[.agg #[.int .i64 m.tn, .int .u64 m.ts]] w3 fun v16 w17 => ∃ (y18 : Bool), v16 = .bool y18 ∧ bcase y18 (ldI .i64 w17 (at0 w.heap.size 8) fun x19 => ldI .u64 w17 (at0 w.heap.size 9) fun x20 => CallR Tryz.prog 127 #[.agg #[.int .i64 x19, .int .u64 x20]] w17 fun v21 w22 => ∃ (y23 : Bool), v21 = .bool y23 ∧ Q (.bool (y23 == c)) w22) (Q (.bool false) w17) := by
      intro c hc
      refine id_spec fun b w4 hb4 f4 => ⟨_, rfl, bc_bool (fun e => ?_) (fun e => ?_)⟩
      · have b4 := b3.keep' f4
        refine ld_int (b4.cell rfl) (ld_int (b4.cell rfl) (none_spec fun d w5 hd f5 => ⟨_, rfl, hQ _ _ ?_ ((g3.tr f4).tr f5)⟩))
        have h1 := hb4.1 e
        rw [← hc, ← hd]
        cases d <;> cases c <;> simp [h1]
      · exact hQ.no (g3.tr f4) fun h => by rw [hb4.2 h.1] at e; cases e
    refine ld_int (b3.cell rfl) (bc_eq (fun h1 => ?_) (fun h1 => ?_))
    · refine ld_int (b3.cell rfl) (bc_eq (fun h2 => ?_) (fun h2 => ?_))
      · exact ld_int (b3.cell rfl) (ld_int (b3.cell rfl) (key true (by simp [aimsNone, h1, h2])))
      · refine ld_int (b3.cell rfl) (bc_eq (fun h3 => ?_) (fun h3 => ?_))
        · exact ld_int (b3.cell rfl) (ld_int (b3.cell rfl) (key true (by simp [aimsNone, h1, h3])))
        · refine ld_int (b3.cell rfl) (bc_eq (fun h4 => by omega) (fun h4 => ?_))
          exact ld_int (b3.cell rfl) (ld_int (b3.cell rfl) (key false (by simp [aimsNone, h1, h2, h3])))
    · refine ld_int (b3.cell rfl) (bc_eq (fun h2 => ?_) (fun h2 => ?_))
      · exact ld_int (b3.cell rfl) (ld_int (b3.cell rfl) (ld_int (b3.cell rfl) (key (m.op == 3) (by simp [aimsNone, h1, h2]))))
      · exact ld_int (b3.cell rfl) (ld_int (b3.cell rfl) (key false (by simp [aimsNone, h1, h2])))
end
section
variable {w : World} {Q : QT} {m : Msg} {rp lp : Option Addr} {rc lc g : Nat}
theorem rr_l1 (hb : Blk w g (m.cells rp rc lp lc) 41) (h : MM w m rp rc lp lc) (hQ : Ans Q (rise m.list) w) (f : Nat) : ∀ (i : Nat) (w' : World), m.list.length - i < f → Fr [] w w' → i ≤ m.list.length → riseTo m.list i → X88.l1 Q f (at0 g 0) (i : Int) w' := by
  induction f with
  | zero => intro i w' hf; omega
  | succ f ih =>
    intro i w' hf hw hi hp
    rw [X88.l1]
    have hsz := h.lsz
    have b1 := hb.keep' hw
    simp only [add_at, Nat.zero_add, Nat.add_zero]
    generalize hN : (72057594037927935 : Int) = N
    refine ld_sl (b1.cell rfl) (bc_dec (fun h1 => ?_) (fun h1 => ?_))
    · have g2 : Fr [] w w'.drew := hw.tr Fr.drew
      have b2 := hb.keep' g2
      have hc := h.list.keep' g2
      have hlt : i < m.list.length := by omega
      have hg := List.getElem?_eq_getElem hlt
      generalize m.list[i] = x at hg
      obtain ⟨q, hq, c0⟩ := cell_u64 hc hg
      have no : ¬ rise m.list → Q (.bool false) w'.drew := fun hn => hQ.no g2 hn
      unfold drewK
      have e2 : IntKind.wrap .i64 ((i : Int) + 1) = ((i + 1 : Nat) : Int) := by rw [i64w _ (by omega) (by omega)]; omega
      rw [e2]
      have c0' : w'.drew.cell? (q.add (Int.toNat (i : Int) * 1)) = some (.int .u64 x) := by rw [Int.toNat_natCast]; exact c0
      refine ld_sl (b2.cell rfl) ⟨⟨by omega, by omega⟩, opt_some hq (ld_int c0' (bc_dec (fun h2 => no fun hr => ?_) (fun h2 => ?_)))⟩
      · have := (hr i x hg).1.1; omega
      refine ld_sl (b2.cell rfl) ⟨⟨by omega, by omega⟩, opt_some hq (ld_int c0' (bc_dec (fun h3 => no fun hr => ?_) (fun h3 => ?_)))⟩
      · have := (hr i x hg).1.2; omega
      have hok : okSerial x := ⟨by omega, by omega⟩
      refine bc_dec (fun h0 => ?_) (fun h0 => ?_)
      · have e1 : IntKind.wrap .i64 ((i : Int) - 1) = ((i - 1 : Nat) : Int) := by rw [i64w _ (by omega) (by omega)]; omega
        rw [e1]
        have hlt1 : i - 1 < m.list.length := by omega
        have hg1 := List.getElem?_eq_getElem hlt1
        generalize m.list[i - 1] = y at hg1
        obtain ⟨q1, hq1, c1⟩ := cell_u64 hc hg1
        refine ld_sl (b2.cell rfl) ⟨⟨by omega, by omega⟩, opt_some hq (ld_int c0' (ld_sl (b2.cell rfl) ⟨⟨by omega, by omega⟩, opt_some hq1 (ld_int (by rw [Int.toNat_natCast]; exact c1) (bc_dec (fun hle => no fun hr => ?_) (fun hle => ?_)))⟩))⟩
        · have := (hr i x hg).2 (i - 1) y (by omega) hg1; omega
        · refine ih (i + 1) _ (by omega) g2 (by omega) (fun j z hj hz => ?_)
          by_cases e : j = i
          · subst e
            rw [hg] at hz; injection hz with hz; subst hz
            refine ⟨hok, fun k u hk hu => ?_⟩
            have : k = j - 1 := by omega
            subst this
            rw [hg1] at hu; injection hu with hu; omega
          · exact hp j z (by omega) hz
      · refine ih (i + 1) _ (by omega) g2 (by omega) (fun j z hj hz => ?_)
        have : j = 0 := by omega
        subst this
        have : i = 0 := by omega
        subst this
        rw [hg] at hz; injection hz with hz; subst hz
        exact ⟨hok, fun k u hk => by omega⟩
    · have : i = m.list.length := by omega
      subst this
      exact hQ _ _ ⟨fun _ => riseTo_all.1 hp, fun _ => rfl⟩ hw
theorem rr_l0 (hb : Blk w g (m.cells rp rc lp lc) 41) (h : MM w m rp rc lp lc) (hQ : Ans Q ((∀ x ∈ m.refs, okID x) ∧ rise m.list) w) (f : Nat) : ∀ (i : Nat) (w' : World), m.refs.length - i < f → Fr [] w w' → i ≤ m.refs.length → (∀ x ∈ m.refs.take i, okID x) → X88.l0 Q f (at0 g 0) (i : Int) w' := by
  induction f with
  | zero => intro i w' hf; omega
  | succ f ih =>
    intro i w' hf hw hi hp
    rw [X88.l0]
    have hsz := h.rsz
    have b1 := hb.keep' hw
    simp only [add_at, Nat.zero_add, Nat.add_zero]
    refine ld_sl (b1.cell rfl) (bc_dec (fun h1 => ?_) (fun h1 => ?_))
    · have hlt : i < m.refs.length := by omega
      have hg := List.getElem?_eq_getElem hlt
      have htk : m.refs.take (i + 1) = m.refs.take i ++ [m.refs[i]] := (List.take_append_getElem hlt).symm
      have hmem : m.refs[i] ∈ m.refs := List.getElem_mem hlt
      generalize m.refs[i] = x at hg htk hmem
      have hc := h.refs.keep' hw
      obtain ⟨q, hq, c0⟩ := hc _ _ (flat_get idc_len m.refs hg (j := 0) rfl)
      obtain ⟨q', hq', c1⟩ := hc _ _ (flat_get idc_len m.refs hg (j := 1) rfl)
      rw [hq] at hq'; injection hq' with hq'; subst hq'
      refine ld_sl (b1.cell rfl) ⟨⟨by omega, by omega⟩, opt_some hq ?_⟩
      rw [Int.toNat_natCast]
      simp only [add_add]
      refine ld_int c0 (ld_int c1 (id_spec fun b w4 hb4 f4 => ⟨_, rfl, bc_bool (fun e => hQ.no (hw.tr f4) fun hh => not_true hb4 e (hh.1 x hmem)) (fun e => ?_)⟩))
      rw [show IntKind.wrap .i64 ((i : Int) + 1) = ((i + 1 : Nat) : Int) by rw [i64w _ (by omega) (by omega)]; omega]
      refine ih (i + 1) w4 (by omega) (hw.tr f4) (by omega) (fun y hy => ?_)
      rw [htk] at hy
      rcases List.mem_append.1 hy with hy | hy
      · exact hp y hy
      · rw [List.mem_singleton.1 hy]; exact of_not hb4 e
    · have ht : m.refs.take i = m.refs := List.take_of_length_le (by omega)
      rw [ht] at hp
      exact ⟨m.list.length + 1, rr_l1 b1 (h.keep' hw) (hQ.le hw ⟨fun h => ⟨hp, h⟩, fun h => h.2⟩) _ 0 w' (by omega) (Fr.refl _) (by omega) (fun j _ hj => by omega)⟩
theorem rr_j2 (hb : Blk w g (m.cells rp rc lp lc) 41) (h : MM w m rp rc lp lc) (hQ : Ans Q ((∀ x ∈ m.refs, okID x) ∧ rise m.list) w) : X88.j2 Q (at0 g 0) w :=
  ⟨m.refs.length + 1, rr_l0 hb h hQ _ 0 w (by omega) (Fr.refl _) (by omega) (by simp)⟩
def rP3 (m : Msg) : Prop := (0 < m.refs.length → hasF m.kind 12 = true) ∧ m.refs.length ≤ 2 ∧ (0 < m.list.length → hasF m.kind 14 = true) ∧ m.list.length ≤ 64 ∧ (∀ x ∈ m.refs, okID x) ∧ rise m.list
theorem rr_j3 (hb : Blk w g (m.cells rp rc lp lc) 41) (h : MM w m rp rc lp lc) (hQ : Ans Q (rP3 m) w) : X88.j3 Q (at0 g 0) w := by
  unfold X88.j3
  simp only [add_at, Nat.zero_add, Nat.add_zero]
  unfold rP3 at hQ
  have c : ∀ {w'}, Fr [] w w' → Blk w' g (m.cells rp rc lp lc) 41 := fun f => hb.keep' f
  have two : ∀ {w'}, Fr [] w w' → (0 < m.refs.length → hasF m.kind 12 = true) → ldSl w' (at0 g 10) fun x6p x6n x6c => bcase (decide (((x6n : Nat) : Int) > (2 : Int))) (Q (.bool false) w') (ldSl w' (at0 g 18) fun x7p x7n x7c => bcase (decide (((x7n : Nat) : Int) > (0 : Int))) (ldI .i64 w' (at0 g 0) fun x8 => CallR Tryz.prog 111 #[.int .i64 x8, .string (⟨#[108, 105, 115, 116]⟩ : ByteArray)] w' fun v9 w10 => ∃ (y11 : Bool), v9 = .bool y11 ∧ bcase (!y11) (Q (.bool false) w10) (ldSl w10 (at0 g 18) fun x12p x12n x12c => bcase (decide (((x12n : Nat) : Int) > (64 : Int))) (Q (.bool false) w10) (X88.j2 Q (at0 g 0) w10))) (ldSl w' (at0 g 18) fun x13p x13n x13c => bcase (decide (((x13n : Nat) : Int) > (64 : Int))) (Q (.bool false) w') (X88.j2 Q (at0 g 0) w'))) := by
    intro w' f h12
    refine ld_sl ((c f).cell rfl) (bc_dec (fun h1 => hQ.no f fun hh => ?_) (fun h1 => ?_))
    · have := hh.2.1; omega
    refine ld_sl ((c f).cell rfl) (bc_dec (fun h2 => ?_) (fun h2 => ?_))
    · refine ld_int ((c f).cell rfl) (has_spec 14 (by omega) fun w4 f4 => ⟨_, rfl, bc_bool (fun e => hQ.no (f.tr f4) fun hh => ?_) (fun e => ?_)⟩)
      · rw [hh.2.2.1 (by omega)] at e; cases e
      have h14 : hasF m.kind 14 = true := by cases he : hasF m.kind 14; rw [he] at e; cases e; rfl
      refine ld_sl ((c (f.tr f4)).cell rfl) (bc_dec (fun h3 => hQ.no (f.tr f4) fun hh => ?_) (fun h3 => ?_))
      · have := hh.2.2.2.1; omega
      exact rr_j2 (c (f.tr f4)) (h.keep' (f.tr f4)) (hQ.le (f.tr f4) ⟨fun hh => ⟨h12, by omega, fun _ => h14, by omega, hh⟩, fun hh => hh.2.2.2.2⟩)
    · refine ld_sl ((c f).cell rfl) (bc_dec (fun h3 => hQ.no f fun hh => ?_) (fun h3 => ?_))
      · have := hh.2.2.2.1; omega
      exact rr_j2 (c f) (h.keep' f) (hQ.le f ⟨fun hh => ⟨h12, by omega, fun hx => by omega, by omega, hh⟩, fun hh => hh.2.2.2.2⟩)
  refine ld_sl (hb.cell rfl) (bc_dec (fun h0 => ?_) (fun h0 => two (Fr.refl w) fun hx => by omega))
  refine ld_int (hb.cell rfl) (has_spec 12 (by omega) fun w4 f4 => ⟨_, rfl, bc_bool (fun e => hQ.no f4 fun hh => ?_) (fun e => ?_)⟩)
  · rw [hh.1 (by omega)] at e; cases e
  have h12 : hasF m.kind 12 = true := by cases he : hasF m.kind 12; rw [he] at e; cases e; rfl
  exact two f4 fun _ => h12
theorem rRight_spec (h : MM w m rp rc lp lc) (hQ : Ans Q (Right m) w) : CallR Tryz.prog 88 #[msgV m rp rc lp lc] w Q := by
  have hQ : Ans Q (RightR m) w := hQ.le (Fr.refl w) (right_iff m).symm
  apply X88.sound
  unfold X88.f newK
  obtain ⟨hb, f⟩ := made (w := w) (cs := (m.cells rp rc lp lc).toArray) (e := 41)
  rw [show (⟨w.heap.size, 0, none⟩ : Addr) = at0 w.heap.size 0 from rfl]
  simp only [add_at, Nat.zero_add, Nat.add_zero]
  have h2 := h.keep' f
  generalize w.alloc _ = w2 at *
  refine ld_int (hb.cell rfl) (within_spec fun b1 hb1 => ⟨_, rfl, bc_bool (fun e => hQ.no f fun hh => not_true hb1 e hh.1) (fun e1 => ?_)⟩)
  refine ld_int (hb.cell rfl) (within_spec fun b2 hb2 => ⟨_, rfl, bc_bool (fun e => hQ.no f fun hh => not_true hb2 e hh.2.1) (fun e2 => ?_)⟩)
  refine ld_int (hb.cell rfl) (within_spec fun b3 hb3 => ⟨_, rfl, bc_bool (fun e => hQ.no f fun hh => not_true hb3 e hh.2.2.1) (fun e3 => ?_)⟩)
  refine ld_int (hb.cell rfl) (ld_int (hb.cell rfl) (bc_eq (fun e => hQ.no f fun hh => hh.2.2.2.1 e) (fun e4 => ?_)))
  refine ld_msg hb (rnumbers_spec (m := m) (rp := rp) (rc := rc) (lp := lp) (lc := lc) fun b5 w5 hb5 f5 => ⟨_, rfl, bc_bool (fun e => hQ.no (f.tr f5) fun hh => not_true hb5 e hh.2.2.2.2.1) (fun e5 => ?_)⟩)
  have bb5 := hb.keep' f5
  refine ld_msg bb5 (rtarget_spec (m := m) (rp := rp) (rc := rc) (lp := lp) (lc := lc) fun b6 w6 hb6 f6 => ⟨_, rfl, bc_bool (fun e => hQ.no ((f.tr f5).tr f6) fun hh => not_true hb6 e hh.2.2.2.2.2.1) (fun e6 => ?_)⟩)
  refine rr_j3 (bb5.keep' f6) (h2.keep' (f5.tr f6)) (hQ.le ((f.tr f5).tr f6) ?_)
  exact ⟨fun hh => ⟨of_not hb1 e1, of_not hb2 e2, of_not hb3 e3, e4, of_not hb5 e5, of_not hb6 e6, hh⟩, fun hh => hh.2.2.2.2.2.2⟩
end
end Go.Proofs.YtnjmkhhaodgpbaaGreatX
namespace Go.Proofs.YtnjmkhhaodgpbaaGreatX
open Go.RowKit
set_option maxRecDepth 100000
section
variable {w w' w2 w3 W : World} {Q : QT} {gr b : Nat} {xr : RHB} {ft ft' ft0 fh fh' rt rt' F L L' : List Nat} {S S' : Sc} {pk pv bp pk' pv' : Option Addr} {ck cv bc ck' cv' : Nat} {s k now : Int} {r : Scn} {m : Msg} {rp lp : Option Addr} {rc lc : Nat} {v : Value} {cs vs : List Value} {e : TypeId} {pin gt : Bool}
theorem RSa.keepF (t : RS w gr xr ft S) (f : Fr F w w') (hd : ∀ y ∈ ft, y ∉ F) : RS w' gr xr ft S := by
  obtain ⟨fh, rt, pk, pv, ck, cv, bp, bc, t⟩ := t
  exact ⟨fh, rt, pk, pv, ck, cv, bp, bc, t.keep f hd⟩
theorem RSa.ltF (t : RS w gr xr ft S) : ∀ y ∈ ft, y < w.heap.size := by
  obtain ⟨fh, rt, pk, pv, ck, cv, bp, bc, t⟩ := t
  exact t.lt
theorem RSa.rows' {rows' : List (Int × Scn)} (t : RSa w gr xr ft fh rt S pk pv ck cv bp bc) (h : RT_SC w' gr (rsc { S with rows := rows' } xr.h pk' pv' ck' cv' bp bc) rt' 1048576 rows' pk' pv' ck' cv') (R : RI rows') (hl : rows'.length ≤ 4096) (f : Fr rt w w') (e : ∀ y ∈ rt', y ∈ rt ∨ w.heap.size ≤ y) :
    RS w' gr xr (rt' ++ (fbl bp ++ fh)) { S with rows := rows' } ∧ Fr ft w w' ∧ ∀ y ∈ rt' ++ (fbl bp ++ fh), y ∈ ft ∨ w.heap.size ≤ y := by
  obtain ⟨m1, m2, m3⟩ := t.mem
  have l1 := t.bur.lt
  have l2 := t.heap.lt
  have o1 : ∀ y ∈ fbl bp, y ∉ rt := fun y hy hm => t.rb y hm hy
  have o2 : ∀ y ∈ fh, y ∉ rt := fun y hy hm => t.rh y hm hy
  refine ⟨⟨fh, rt', pk', pv', ck', cv', bp, bc, h, t.bur.keep f o1, t.heap.keep f o2, R, t.bl, hl, rfl, fun y hy hm => ?_, fun y hy hm => ?_, t.bh⟩, f.mono m1, fun y hy => ?_⟩
  · rcases e y hy with h' | h'
    · exact t.rb y h' hm
    · have := l1 y hm; omega
  · rcases e y hy with h' | h'
    · exact t.rh y h' hm
    · have := l2 y hm; omega
  · rcases List.mem_append.1 hy with hy | hy
    · exact (e y hy).imp_left (m1 y)
    rcases List.mem_append.1 hy with hy | hy
    · exact .inl (m2 y hy)
    · exact .inl (m3 y hy)
theorem rkey_spec {h : Int} (hQ : Q (.int .u64 (keyS s h)) w) : CallR Tryz.prog 65 #[.int .u64 s, .int .i64 h] w Q := by
  apply X65.sound
  unfold X65.f
  exact ⟨by omega, hQ⟩
theorem rputr_spec (t : RS w gr xr ft S) (hl : S.rows.length < 4096) (hr : okRow r) (hQ : AftD w gr xr ft { S with rows := putRow S.rows r } (.bool true) Q) : CallR Tryz.prog 67 #[.pointer (some (at0 gr 23)), .int .u64 (keyS r.serial r.holder), r.val] w Q := by
  obtain ⟨fh, rt, pk, pv, ck, cv, bp, bc, t⟩ := t
  have ep : putRow S.rows r = put ilt S.rows (keyS r.serial r.holder) r := by unfold putRow; rw [if_pos (.inr hl)]
  have R := t.ri.putR hr
  have hle := putRow_le (rows := S.rows) (r := r)
  refine rput_SC t.tab (fun _ => by omega) (fun _ h _ _ => by omega) fun _ rt' pk' pv' ck' cv' w' T f e => ?_
  rw [ep] at R hle hQ
  obtain ⟨t2, f2, e2⟩ := t.rows' (rows' := put ilt S.rows (keyS r.serial r.holder) r) T R (by omega) f e
  exact hQ _ w' t2 f2 e2
structure SD (W w : World) (ft0 : List Nat) (gr : Nat) (xr : RHB) (ft : List Nat) (S : Sc) (L : List Nat) : Prop where
  P : RS w gr xr ft S
  F : Fr ft0 W w
  e : ∀ y ∈ ft, y ∈ ft0 ∨ W.heap.size ≤ y
  L : ∀ b ∈ L, W.heap.size ≤ b ∧ b < w.heap.size ∧ b ∉ ft
theorem SD.mk0 (t : RS w gr xr ft S) : SD w w ft gr xr ft S [] := ⟨t, Fr.refl _ |>.any, fun y hy => .inl hy, fun b hb => by cases hb⟩
theorem SD.next (h : SD W w ft0 gr xr ft S L) (P' : RS w' gr xr ft' S') (f : Fr ft w w') (e : ∀ y ∈ ft', y ∈ ft ∨ w.heap.size ≤ y) : SD W w' ft0 gr xr ft' S' L := by
  have z := h.F.size
  have z2 := f.size
  refine ⟨P', h.F.trans f h.e, fun y hy => ?_, fun b hb => ?_⟩
  · rcases e y hy with h' | h'
    · exact h.e y h'
    · exact .inr (by omega)
  · obtain ⟨h1, h2, h3⟩ := h.L b hb
    refine ⟨h1, by omega, fun hm => ?_⟩
    rcases e b hm with h' | h'
    · exact h3 h'
    · omega
theorem SD.keep (h : SD W w ft0 gr xr ft S L) (f : Fr [] w w') : SD W w' ft0 gr xr ft S L := ⟨RSa.keepF h.P f (by simp), h.F.tr f.any, h.e, fun b hb => by obtain ⟨h1, h2, h3⟩ := h.L b hb; have := f.size; exact ⟨h1, by omega, h3⟩⟩
theorem SD.loc (h : SD W w ft0 gr xr ft S L) (f : Fr [b] w w') (hb : b ∈ L) : SD W w' ft0 gr xr ft S L := by
  obtain ⟨h1, h2, h3⟩ := h.L b hb
  exact ⟨RSa.keepF h.P f (fun y hy hm => h3 (by simp at hm; rwa [← hm])), h.F.trans f (fun y hy => .inr (by simp at hy; omega)), h.e, fun c hc => by obtain ⟨h1, h2, h3⟩ := h.L c hc; have := f.size; exact ⟨h1, by omega, h3⟩⟩
theorem SD.add (h : SD W w ft0 gr xr ft S L) (f : Fr [] w w') (hg : w.heap.size ≤ b) (B : Blk w' b vs e) : SD W w' ft0 gr xr ft S (b :: L) := by
  have h' := h.keep f
  refine ⟨h'.P, h'.F, h'.e, fun c hc => ?_⟩
  rcases List.mem_cons.1 hc with rfl | hc
  · exact ⟨by have := h.F.size; omega, B.lt, fun hm => by have := RSa.ltF h.P _ hm; omega⟩
  · exact h'.L c hc
theorem SD.off (h : SD W w ft0 gr xr ft S L) (hb : b ∈ L) : b ∉ ft := (h.L b hb).2.2
theorem SD.mono (h : SD W w ft0 gr xr ft S L) (hs : ∀ y ∈ L', y ∈ L) : SD W w ft0 gr xr ft S L' := ⟨h.P, h.F, h.e, fun b hb => h.L b (hs b hb)⟩
theorem SD.done (h : SD W w ft0 gr xr ft S L) (hQ : AftD W gr xr ft0 S v Q) : Q v w := hQ ft w h.P h.F h.e
theorem rgetS_spec {node last : Int} {l : List (Int × Int)} (t : PR w xr fh node last l) (hQ : ∀ p : Option Addr, p.isSome = hasO l s → Q (.pointer p) w) : CallR Tryz.prog 43 #[.pointer (some (at0 xr.h 0)), .int .u64 s] w Q := by
  obtain ⟨ts, os, lp, lc, t, rfl⟩ := t
  have e : hasO (os.map OT.pr) s = (os.find? fun o => decide (o.s = s)).isSome := by
    unfold hasO
    rw [List.find?_map, Option.isSome_map]
    rfl
  refine rget_spec t (fun hn => hQ none ?_) (fun o ho _ _ => hQ (some (at0 o.g 0)) ?_)
  · rw [e, hn]; rfl
  · rw [e, ho]; rfl
theorem rmine_spec (t : RS w gr xr ft S) (hm : MM w m rp rc lp lc) (hQ : Ans Q (mineS S m k) w) : CallR Tryz.prog 64 #[.pointer (some (at0 gr 0)), msgV m rp rc lp lc, .int .i64 k] w Q := by
  apply X64.sound
  unfold X64.f
  refine newB fun g1 w2 b2 f2 h2 => drawn fun w3 f3 _ => ?_
  have b2 : Blk w2 g1 (m.cells rp rc lp lc) 41 := b2
  have b3 := b2.keep' f3
  have F3 := f2.tr f3
  have no : ∀ {w'}, Fr [] w w' → ¬ mineS S m k → Q (.bool false) w' := fun f h => hQ false _ ⟨fun e => absurd e (by decide), fun e => absurd e h⟩ f
  unfold mineS at no hQ
  refine ld_int (b3.cat 0 _ rfl) (bc_eq (fun hk => ?_) (fun hk => no F3 (fun h => hk h.1)))
  refine ld_msgA b3 (rRight_spec (hm.keep' F3) fun b w25 hb f25 => ⟨_, rfl, bc_bool (fun hbt => ?_) (fun hbf => no (F3.tr f25) (fun h => by rw [hb.2 h.2.1] at hbf; cases hbf))⟩)
  have F25 := F3.tr f25
  have b25 := b3.keep' f25
  have hR := hb.1 hbt
  obtain ⟨fh, rt, pk, pv, ck, cv, bp, bc, t25⟩ := RSa.keepF t F25 (by simp)
  have c0 : w25.cell? ((at0 xr.h 0).add 0) = some (.int .i64 S.node) := by
    obtain ⟨ts, os, lp, lc, th, _⟩ := t25.heap
    exact th.c0 0 rfl
  refine ld_int (b25.cat 2 _ rfl) (opt_some rfl (ld_ptr t25.c22 (opt_some rfl (ld_int c0 (bc_eq (fun h1 => ?_) (fun h1 => no F25 (fun h => h1 h.2.2.1)))))))
  refine ld_int (b25.cat 1 _ rfl) (opt_some rfl (ld_int (x := S.c.nodes) ?_ (bc_dec (fun h2 => ?_) (fun h2 => no F25 (fun h => h2 h.2.2.2.1)))))
  · rw [add_at]
    exact t25.tab.blk.cell rfl
  have c8 : w25.cell? (((at0 g1 0).add 8).add 0) = some (.int .i64 m.tn) := by
    rw [add_add]
    exact b25.cat 8 _ rfl
  refine ld_int c8 (opt_some rfl (ld_ptr t25.c22 (opt_some rfl (ld_int c0 ?_))))
  refine hQ _ _ ?_ F25
  simp only [beq_iff_eq]
  exact ⟨fun h3 => ⟨hk, hR, h1, h2, h3⟩, fun h => h.2.2.2.2⟩
end
end Go.Proofs.YtnjmkhhaodgpbaaGreatX
namespace Go.Proofs.YtnjmkhhaodgpbaaGreatX
open Go.RowKit
set_option maxRecDepth 100000
structure Base where
  w : World
  D : List Nat
structure P2 (W : Base) (w : World) (g : Nat) (x : HB) (ft : List Nat) (gr : Nat) (xr : RHB) (fr : List Nat) (S R : Sc) (L : List Nat) : Prop where
  P : PS w g x ft S
  R : RS w gr xr fr R
  sep : ∀ y ∈ ft, y ∉ fr
  n1 : ∀ y ∈ ft, y ∈ W.D ∨ W.w.heap.size ≤ y
  n2 : ∀ y ∈ fr, y ∈ W.D ∨ W.w.heap.size ≤ y
  F : Fr W.D W.w w
  L : ∀ b ∈ L, W.w.heap.size ≤ b ∧ b < w.heap.size ∧ b ∉ ft ∧ b ∉ fr
section
variable {W : Base} {w w' w2 w3 V : World} {Q : QT} {g gr b : Nat} {x : HB} {xr : RHB} {ft fr ft' fr' F L L' : List Nat} {S S' R R' : Sc} {cs vs : List Value} {e : TypeId}
theorem RS.keep (t : RS w gr xr fr R) (f : Fr F w w') (hd : ∀ y ∈ fr, y ∉ F) : RS w' gr xr fr R := by
  obtain ⟨fh, rt, pk, pv, ck, cv, bp, bc, t⟩ := t
  exact ⟨fh, rt, pk, pv, ck, cv, bp, bc, t.keep f hd⟩
theorem RS.keep' (t : RS w gr xr fr R) (f : Fr [] w w') : RS w' gr xr fr R := t.keep f (by simp)
theorem RS.lt (t : RS w gr xr fr R) : ∀ y ∈ fr, y < w.heap.size := by
  obtain ⟨fh, rt, pk, pv, ck, cv, bp, bc, t⟩ := t
  exact t.lt
theorem P2.nextT (q : P2 W w g x ft gr xr fr S R L) (P' : PS w' g x ft' S') (f : Fr ft w w') (e : ∀ y ∈ ft', y ∈ ft ∨ w.heap.size ≤ y) : P2 W w' g x ft' gr xr fr S' R L := by
  have z := q.F.size
  have z2 := f.size
  refine ⟨P', q.R.keep f (fun y hy hm => q.sep y hm hy), fun y hy hm => ?_, fun y hy => ?_, q.n2, q.F.trans f q.n1, fun b hb => ?_⟩
  · rcases e y hy with h | h
    · exact q.sep y h hm
    · have := q.R.lt y hm; omega
  · rcases e y hy with h | h
    · exact q.n1 y h
    · exact .inr (by omega)
  · obtain ⟨h1, h2, h3, h4⟩ := q.L b hb
    refine ⟨h1, by omega, fun hm => ?_, h4⟩
    rcases e b hm with h | h
    · exact h3 h
    · omega
theorem P2.nextR (q : P2 W w g x ft gr xr fr S R L) (r' : RS w' gr xr fr' R') (f : Fr fr w w') (e : ∀ y ∈ fr', y ∈ fr ∨ w.heap.size ≤ y) : P2 W w' g x ft gr xr fr' S R' L := by
  have z := q.F.size
  have z2 := f.size
  refine ⟨q.P.keep f (fun y hy hm => q.sep y hy hm), r', fun y hy hm => ?_, q.n1, fun y hy => ?_, q.F.trans f q.n2, fun b hb => ?_⟩
  · rcases e y hm with h | h
    · exact q.sep y hy h
    · have := q.P.lt y hy; omega
  · rcases e y hy with h | h
    · exact q.n2 y h
    · exact .inr (by omega)
  · obtain ⟨h1, h2, h3, h4⟩ := q.L b hb
    refine ⟨h1, by omega, h3, fun hm => ?_⟩
    rcases e b hm with h | h
    · exact h4 h
    · omega
theorem P2.keep (q : P2 W w g x ft gr xr fr S R L) (f : Fr [] w w') : P2 W w' g x ft gr xr fr S R L :=
  ⟨q.P.keep' f, q.R.keep' f, q.sep, q.n1, q.n2, q.F.tr f.any, fun b hb => by obtain ⟨h1, h2, h3, h4⟩ := q.L b hb; have := f.size; exact ⟨h1, by omega, h3, h4⟩⟩
theorem P2.loc (q : P2 W w g x ft gr xr fr S R L) (f : Fr [b] w w') (hb : b ∈ L) : P2 W w' g x ft gr xr fr S R L := by
  obtain ⟨h1, h2, h3, h4⟩ := q.L b hb
  refine ⟨q.P.keep f (fun y hy hm => h3 (by simp at hm; rwa [← hm])), q.R.keep f (fun y hy hm => h4 (by simp at hm; rwa [← hm])), q.sep, q.n1, q.n2, q.F.trans f (fun y hy => .inr (by simp at hy; omega)), fun c hc => ?_⟩
  obtain ⟨h1, h2, h3, h4⟩ := q.L c hc
  have := f.size
  exact ⟨h1, by omega, h3, h4⟩
theorem P2.new (q : P2 W w g x ft gr xr fr S R L) (f : Fr [] w w2) (hg : w.heap.size ≤ b) (B : Blk w3 b vs e) (f3 : Fr [b] w2 w3) : P2 W w3 g x ft gr xr fr S R (b :: L) ∧ Fr [] w w3 := by
  have F3 : Fr [] w w3 := f.trans f3 (fun y hy => .inr (by simp at hy; omega))
  have q3 := q.keep F3
  refine ⟨⟨q3.P, q3.R, q3.sep, q3.n1, q3.n2, q3.F, fun c hc => ?_⟩, F3⟩
  rcases List.mem_cons.1 hc with rfl | hc
  · exact ⟨by have := q.F.size; omega, B.lt, fun hm => by have := q.P.lt _ hm; omega, fun hm => by have := q.R.lt _ hm; omega⟩
  · exact q3.L c hc
theorem P2.new1 (q : P2 W w g x ft gr xr fr S R L) (f : Fr [] w w2) (hg : w.heap.size ≤ b) (B : Blk w2 b vs e) : P2 W w2 g x ft gr xr fr S R (b :: L) := (q.new f hg B (Fr.refl _).any).1
theorem P2.off (q : P2 W w g x ft gr xr fr S R L) (hb : b ∈ L) : b ∉ ft ++ fr := fun hm => by
  obtain ⟨h1, h2, h3, h4⟩ := q.L b hb
  exact (List.mem_append.1 hm).elim h3 h4
theorem P2.mono (q : P2 W w g x ft gr xr fr S R L) (hs : ∀ y ∈ L', y ∈ L) : P2 W w g x ft gr xr fr S R L' := ⟨q.P, q.R, q.sep, q.n1, q.n2, q.F, fun b hb => q.L b (hs b hb)⟩
theorem P2.rebase (q : P2 W w g x ft gr xr fr S R L) : P2 ⟨w, ft ++ fr⟩ w g x ft gr xr fr S R [] := ⟨q.P, q.R, q.sep, fun y hy => .inl (List.mem_append.2 (.inl hy)), fun y hy => .inl (List.mem_append.2 (.inr hy)), Fr.refl _, fun b hb => by cases hb⟩
theorem P2.unbase (q : P2 W w g x ft gr xr fr S R L) (u : P2 ⟨w, ft ++ fr⟩ w' g x ft' gr xr fr' S' R' L') : P2 W w' g x ft' gr xr fr' S' R' L ∧ Fr (ft ++ fr) w w' := by
  have z := q.F.size
  have both : ∀ y, y ∈ ft ++ fr → y ∈ W.D ∨ W.w.heap.size ≤ y := fun y hy => by
    rcases List.mem_append.1 hy with h | h
    · exact q.n1 y h
    · exact q.n2 y h
  refine ⟨⟨u.P, u.R, u.sep, fun y hy => ?_, fun y hy => ?_, q.F.trans u.F both, fun b hb => ?_⟩, u.F⟩
  · rcases u.n1 y hy with h | h
    · exact both y h
    · exact .inr (Nat.le_trans z h)
  · rcases u.n2 y hy with h | h
    · exact both y h
    · exact .inr (Nat.le_trans z h)
  · obtain ⟨h1, h2, h3, h4⟩ := q.L b hb
    have := u.F.size
    have hn := q.off hb
    refine ⟨h1, by show b < w'.heap.size; have : w.heap.size ≤ w'.heap.size := u.F.size; omega, fun hm => ?_, fun hm => ?_⟩
    · rcases u.n1 b hm with h | h
      · exact hn h
      · have h : w.heap.size ≤ b := h
        omega
    · rcases u.n2 b hm with h | h
      · exact hn h
      · have h : w.heap.size ≤ b := h
        omega
theorem two_yard {c : Cfg} {node : Int} (P : PS w g x ft (sc0 c node)) (H : PR w xr fr node 5 (objs 5)) (B : Blk w gr (rscells c xr.h 1048576 none 0 0 none 0 0 none 0 0 0) 82) (dj : ∀ y ∈ ft, y ∉ fr) (n1 : gr ∉ ft) (n2 : gr ∉ fr) (F : Fr [] V w)
    (m1 : ∀ y ∈ ft, V.heap.size ≤ y) (m2 : ∀ y ∈ fr, V.heap.size ≤ y) (m3 : V.heap.size ≤ gr) : P2 ⟨V, []⟩ w g x ft gr xr (gr :: fr) (sc0 c node) (sc0 c node) [] := by
  refine ⟨P, ⟨fr, [gr], none, none, 0, 0, none, 0, ?_, Own.nil, H, P.ri, by show 0 ≤ 4096; omega, by show 0 ≤ 4096; omega, rfl, by simp [fbl], by simpa using n2, by simp [fbl]⟩, fun y hy hm => ?_, fun y hy => .inr (m1 y hy), fun y hy => .inr ?_, F, fun b hb => by cases hb⟩
  · exact ⟨B, rfl, rfl, rfl, Own.nil, Own.nil, rfl, by simp [fbl], by simp [fbl], by simp [fbl], List.Pairwise.nil, by show 0 ≤ 100000; omega⟩
  · rcases List.mem_cons.1 hm with rfl | hm
    · exact n1 hy
    · exact dj y hy hm
  · rcases List.mem_cons.1 hy with rfl | hy
    · exact m3
    · exact m2 y hy
end
end Go.Proofs.YtnjmkhhaodgpbaaGreatX
namespace Go.Proofs.YtnjmkhhaodgpbaaGreatX
open Go.RowKit
set_option maxRecDepth 100000
theorem id_of_lies {H : Type} {w : World} {n : Nat} {cs : List Value} {d : DataW H} (h : Lies Tryz.prog w (n + 2) 37 cs d) : ∃ x : Int × Int, cs = idc x ∧ (Lit.int .u64 x.2).wf = true := by
  obtain ⟨hl, ds, hds, hdl, hf⟩ := lies_struct Tryz.underlying37 h
  rw [show Tryz.prog.cellsOf 37 = 2 by kernel_rfl] at hl
  match cs, hl with
  | [c0, c1], _ =>
  match ds, hdl with
  | [d0, d1], _ =>
  have g0 := hf 0 { name := "Node", type := 3, offset := 0, embedded := false, tag := "", pkgPath := "", byteOffset := 0 } d0 rfl rfl
  have g1 := hf 1 { name := "Serial", type := 22, offset := 1, embedded := false, tag := "", pkgPath := "", byteOffset := 8 } d1 rfl rfl
  simp only [show Tryz.prog.cellsOf 3 = 1 by kernel_rfl, show Tryz.prog.cellsOf 22 = 1 by kernel_rfl, List.drop_zero, List.drop_succ_cons, List.take_succ_cons, List.take_zero] at g0 g1
  obtain ⟨x0, e0, _, _⟩ := lies_int Tryz.underlying3 g0
  obtain ⟨x1, e1, _, w1⟩ := lies_int Tryz.underlying22 g1
  simp only [List.cons.injEq, and_true] at e0 e1
  subst e0; subst e1
  exact ⟨(x0, x1), rfl, w1⟩
theorem cells_ids {w : World} {a : Addr} {l : List (Int × Int)} (h : ∀ i x, l[i]? = some x → w.cell? (a.add (i * 2)) = some (.int .i64 x.1) ∧ w.cell? (a.add (i * 2 + 1)) = some (.int .u64 x.2)) : Cells w (some a) (l.flatMap idc) := by
  intro j u hj
  refine ⟨a, rfl, ?_⟩
  have hlen : (l.flatMap idc).length = l.length * 2 := flat_length idc_len l
  have hjl := (List.getElem?_eq_some_iff.1 hj).1
  have hi : j / 2 < l.length := by omega
  have hg := List.getElem?_eq_getElem hi
  obtain ⟨h1, h2⟩ := h _ _ hg
  by_cases e : j % 2 = 0
  · have := flat_get idc_len l hg (j := 0) rfl
    rw [show j / 2 * 2 + 0 = j by omega, hj] at this
    injection this with this
    subst this
    rw [show j / 2 * 2 = j by omega] at h1
    exact h1
  · have := flat_get idc_len l hg (j := 1) rfl
    rw [show j / 2 * 2 + 1 = j by omega, hj] at this
    injection this with this
    subst this
    rw [show j / 2 * 2 + 1 = j by omega] at h2
    exact h2
theorem refs_of_lies {H : Type} {w : World} {n : Nat} {cs : List Value} {d : DataW H} (h : Lies Tryz.prog w (n + 3) 38 cs d) (hs : SizedD Tryz.prog 38 d) :
    ∃ (p : Option Addr) (c : Nat) (l : List (Int × Int)), cs = [.slice p l.length c] ∧ Cells w p (l.flatMap idc) ∧ l.length ≤ c ∧ (p = none → c = 0) ∧ l.length * 16 ≤ 140737488351232 := by
  rcases lies_slice (P := Tryz.prog) (e := 37) Tryz.underlying38 h with ⟨h1, h2⟩ | ⟨a, len, cap, elems, rest, h1, h2, hl, hm, hlen, hel⟩
  · exact ⟨none, 0, [], h1, fun j u hj => by simp at hj, Nat.le_refl _, fun _ => rfl, by simp⟩
  · subst h2
    have hz := sized_len Tryz.underlying38 hs
    rw [show Tryz.prog.bytesOf 37 = 16 by kernel_rfl] at hz
    obtain ⟨l, hbl, hb⟩ := list_of (R := fun i (y : DataW H) (x : Int × Int) => w.cell? (a.add (i * 2)) = some (.int .i64 x.1) ∧ w.cell? (a.add (i * 2 + 1)) = some (.int .u64 x.2)) elems 0 (fun i y hy => by
      obtain ⟨cs', hcl, hcell, hly⟩ := hel i y hy
      obtain ⟨x, rfl, _⟩ := id_of_lies hly
      rw [show Tryz.prog.cellsOf 37 = 2 by kernel_rfl] at hcell
      exact ⟨x, by simpa using hcell 0 _ rfl, by simpa using hcell 1 _ rfl⟩)
    refine ⟨some a, cap, l, by rw [h1]; congr 2; omega, cells_ids fun i x hi => ?_, by omega, (fun h => by cases h), by omega⟩
    have hlt : i < elems.length := by have := (List.getElem?_eq_some_iff.1 hi).1; omega
    have := hb i _ x (List.getElem?_eq_getElem hlt) hi
    rwa [Nat.zero_add] at this
theorem list_of_lies {H : Type} {w : World} {n : Nat} {cs : List Value} {d : DataW H} (h : Lies Tryz.prog w (n + 2) 39 cs d) (hs : SizedD Tryz.prog 39 d) :
    ∃ (p : Option Addr) (c : Nat) (l : List Int), cs = [.slice p l.length c] ∧ Cells w p (l.map (Value.int .u64)) ∧ l.length ≤ c ∧ (p = none → c = 0) ∧ l.length * 8 ≤ 140737488351232 := by
  rcases lies_slice (P := Tryz.prog) (e := 22) Tryz.underlying39 h with ⟨h1, h2⟩ | ⟨a, len, cap, elems, rest, h1, h2, hl, hm, hlen, hel⟩
  · exact ⟨none, 0, [], h1, fun j u hj => by simp at hj, Nat.le_refl _, fun _ => rfl, by simp⟩
  · subst h2
    have hz := sized_len Tryz.underlying39 hs
    rw [show Tryz.prog.bytesOf 22 = 8 by kernel_rfl] at hz
    obtain ⟨l, hbl, hb⟩ := list_of (R := fun i (y : DataW H) (x : Int) => w.cell? (a.add i) = some (.int .u64 x)) elems 0 (fun i y hy => by
      obtain ⟨cs', hcl, hcell, hly⟩ := hel i y hy
      obtain ⟨x, rfl, _, _⟩ := lies_int Tryz.underlying22 hly
      rw [show Tryz.prog.cellsOf 22 = 1 by kernel_rfl] at hcell
      exact ⟨x, by simpa using hcell 0 _ rfl⟩)
    refine ⟨some a, cap, l, by rw [h1]; congr 2; omega, fun j u hj => ⟨a, rfl, ?_⟩, by omega, (fun h => by cases h), by omega⟩
    rw [List.getElem?_map] at hj
    cases hx : l[j]? with
    | none => rw [hx] at hj; cases hj
    | some x =>
      rw [hx] at hj
      simp at hj
      subst hj
      have hlt : j < elems.length := by have := (List.getElem?_eq_some_iff.1 hx).1; omega
      have := hb j _ x (List.getElem?_eq_getElem hlt) hx
      rwa [Nat.zero_add] at this
theorem msg_of_lies {H : Type} {w : World} {n : Nat} {cs : List Value} {d : DataW H} (h : Lies Tryz.prog w (n + 4) 41 cs d) (hs : SizedD Tryz.prog 41 d) :
    ∃ m rp rc lp lc, cs = Msg.cells m rp rc lp lc ∧ MM w m rp rc lp lc := by
  obtain ⟨hl, ds, hds, hdl, hf⟩ := lies_struct Tryz.underlying41 h
  rw [show Tryz.prog.cellsOf 41 = 19 by kernel_rfl] at hl
  subst hds
  match cs, hl with
  | [c0, c1, c2, c3, c4, c5, c6, c7, c8, c9, c10, c11, c12, c13, c14, c15, c16, c17, c18], _ =>
  match ds, hdl with
  | [d0, d1, d2, d3, d4, d5, d6, d7, d8, d9, d10, d11, d12, d13, d14, d15, d16, d17], _ =>
  have g0 := hf 0 { name := "Kind", type := 3, offset := 0, embedded := false, tag := "", pkgPath := "", byteOffset := 0 } d0 rfl rfl
  have g1 := hf 1 { name := "From", type := 3, offset := 1, embedded := false, tag := "", pkgPath := "", byteOffset := 8 } d1 rfl rfl
  have g2 := hf 2 { name := "To", type := 3, offset := 2, embedded := false, tag := "", pkgPath := "", byteOffset := 16 } d2 rfl rfl
  have g3 := hf 3 { name := "Call", type := 22, offset := 3, embedded := false, tag := "", pkgPath := "", byteOffset := 24 } d3 rfl rfl
  have g4 := hf 4 { name := "Floor", type := 22, offset := 4, embedded := false, tag := "", pkgPath := "", byteOffset := 32 } d4 rfl rfl
  have g5 := hf 5 { name := "Op", type := 3, offset := 5, embedded := false, tag := "", pkgPath := "", byteOffset := 40 } d5 rfl rfl
  have g6 := hf 6 { name := "Field", type := 3, offset := 6, embedded := false, tag := "", pkgPath := "", byteOffset := 48 } d6 rfl rfl
  have g7 := hf 7 { name := "Item", type := 3, offset := 7, embedded := false, tag := "", pkgPath := "", byteOffset := 56 } d7 rfl rfl
  have g8 := hf 8 { name := "Target", type := 37, offset := 8, embedded := false, tag := "", pkgPath := "", byteOffset := 64 } d8 rfl rfl
  have g9 := hf 9 { name := "Refs", type := 38, offset := 10, embedded := false, tag := "", pkgPath := "", byteOffset := 80 } d9 rfl rfl
  have g10 := hf 10 { name := "Value", type := 22, offset := 11, embedded := false, tag := "", pkgPath := "", byteOffset := 104 } d10 rfl rfl
  have g11 := hf 11 { name := "Code", type := 3, offset := 12, embedded := false, tag := "", pkgPath := "", byteOffset := 112 } d11 rfl rfl
  have g12 := hf 12 { name := "Seq", type := 22, offset := 13, embedded := false, tag := "", pkgPath := "", byteOffset := 120 } d12 rfl rfl
  have g13 := hf 13 { name := "Voucher", type := 3, offset := 14, embedded := false, tag := "", pkgPath := "", byteOffset := 128 } d13 rfl rfl
  have g14 := hf 14 { name := "At", type := 22, offset := 15, embedded := false, tag := "", pkgPath := "", byteOffset := 136 } d14 rfl rfl
  have g15 := hf 15 { name := "Dist", type := 3, offset := 16, embedded := false, tag := "", pkgPath := "", byteOffset := 144 } d15 rfl rfl
  have g16 := hf 16 { name := "Stamp", type := 22, offset := 17, embedded := false, tag := "", pkgPath := "", byteOffset := 152 } d16 rfl rfl
  have g17 := hf 17 { name := "List", type := 39, offset := 18, embedded := false, tag := "", pkgPath := "", byteOffset := 160 } d17 rfl rfl
  have s9 : SizedD Tryz.prog 38 d9 := sized_field (i := 9) Tryz.underlying41 hs (f := { name := "Refs", type := 38, offset := 10, embedded := false, tag := "", pkgPath := "", byteOffset := 80 }) rfl rfl
  have s17 : SizedD Tryz.prog 39 d17 := sized_field (i := 17) Tryz.underlying41 hs (f := { name := "List", type := 39, offset := 18, embedded := false, tag := "", pkgPath := "", byteOffset := 160 }) rfl rfl
  simp only [show Tryz.prog.cellsOf 3 = 1 by kernel_rfl, show Tryz.prog.cellsOf 22 = 1 by kernel_rfl, show Tryz.prog.cellsOf 37 = 2 by kernel_rfl, show Tryz.prog.cellsOf 38 = 1 by kernel_rfl, show Tryz.prog.cellsOf 39 = 1 by kernel_rfl, List.drop_zero, List.drop_succ_cons, List.take_succ_cons, List.take_zero] at g0 g1 g2 g3 g4 g5 g6 g7 g8 g9 g10 g11 g12 g13 g14 g15 g16 g17
  obtain ⟨x0, e0, _, w0⟩ := lies_int Tryz.underlying3 g0
  obtain ⟨x1, e1, _, w1⟩ := lies_int Tryz.underlying3 g1
  obtain ⟨x2, e2, _, w2⟩ := lies_int Tryz.underlying3 g2
  obtain ⟨x3, e3, _, w3⟩ := lies_int Tryz.underlying22 g3
  obtain ⟨x4, e4, _, w4⟩ := lies_int Tryz.underlying22 g4
  obtain ⟨x5, e5, _, w5⟩ := lies_int Tryz.underlying3 g5
  obtain ⟨x6, e6, _, w6⟩ := lies_int Tryz.underlying3 g6
  obtain ⟨x7, e7, _, w7⟩ := lies_int Tryz.underlying3 g7
  obtain ⟨x8, e8, w8⟩ := id_of_lies g8
  obtain ⟨rp, rc, x9, e9, r1, r2, r3, r4⟩ := refs_of_lies g9 s9
  obtain ⟨x10, e10, _, w10⟩ := lies_int Tryz.underlying22 g10
  obtain ⟨x11, e11, _, w11⟩ := lies_int Tryz.underlying3 g11
  obtain ⟨x12, e12, _, w12⟩ := lies_int Tryz.underlying22 g12
  obtain ⟨x13, e13, _, w13⟩ := lies_int Tryz.underlying3 g13
  obtain ⟨x14, e14, _, w14⟩ := lies_int Tryz.underlying22 g14
  obtain ⟨x15, e15, _, w15⟩ := lies_int Tryz.underlying3 g15
  obtain ⟨x16, e16, _, w16⟩ := lies_int Tryz.underlying22 g16
  obtain ⟨lp, lc, x17, e17, l1, l2, l3, l4⟩ := list_of_lies g17 s17
  simp only [idc, List.cons.injEq, and_true] at e0 e1 e2 e3 e4 e5 e6 e7 e8 e9 e10 e11 e12 e13 e14 e15 e16 e17
  obtain ⟨e8, e8'⟩ := e8
  subst e0 e1 e2 e3 e4 e5 e6 e7 e8 e9 e10 e11 e12 e13 e14 e15 e16 e17 e8'
  refine ⟨⟨x0, x1, x2, x3, x4, x5, x6, x7, x8.1, x8.2, x9, x10, x11, x12, x13, x14, x15, x16, x17⟩, rp, rc, lp, lc, rfl, ⟨r1, r2, r3, by show x9.length * 16 ≤ _; omega, l1, l2, l3, by show x17.length * 8 ≤ _; omega⟩⟩
structure Stp where
  what : Int
  frm : Int
  voucher : Int
  dist : Int
  serial : Int
  seq : Int
  n : Int
  pinned : Bool
  near : Bool
  m : Msg
def Stp.cells (x : Stp) (rp : Option Addr) (rc : Nat) (lp : Option Addr) (lc : Nat) : List Value := [.int .i64 x.what, .int .i64 x.frm, .int .i64 x.voucher, .int .i64 x.dist, .int .u64 x.serial, .int .u64 x.seq, .int .u64 x.n, .bool x.pinned, .bool x.near] ++ x.m.cells rp rc lp lc
structure StpW (x : Stp) : Prop where
  serial : 0 ≤ x.serial ∧ x.serial ≤ 18446744073709551615
  seq : 0 ≤ x.seq ∧ x.seq ≤ 18446744073709551615
  n : 0 ≤ x.n ∧ x.n ≤ 18446744073709551615
theorem step_of_lies {H : Type} {w : World} {n : Nat} {cs : List Value} {d : DataW H} (h : Lies Tryz.prog w (n + 5) 43 cs d) (hs : SizedD Tryz.prog 43 d) :
    ∃ x rp rc lp lc, cs = Stp.cells x rp rc lp lc ∧ MM w x.m rp rc lp lc ∧ StpW x := by
  obtain ⟨hl, ds, hds, hdl, hf⟩ := lies_struct Tryz.underlying43 h
  rw [show Tryz.prog.cellsOf 43 = 28 by kernel_rfl] at hl
  subst hds
  match cs, hl with
  | [c0, c1, c2, c3, c4, c5, c6, c7, c8, c9, c10, c11, c12, c13, c14, c15, c16, c17, c18, c19, c20, c21, c22, c23, c24, c25, c26, c27], _ =>
  match ds, hdl with
  | [d0, d1, d2, d3, d4, d5, d6, d7, d8, d9], _ =>
  have g0 := hf 0 { name := "What", type := 3, offset := 0, embedded := false, tag := "", pkgPath := "", byteOffset := 0 } d0 rfl rfl
  have g1 := hf 1 { name := "From", type := 3, offset := 1, embedded := false, tag := "", pkgPath := "", byteOffset := 8 } d1 rfl rfl
  have g2 := hf 2 { name := "Voucher", type := 3, offset := 2, embedded := false, tag := "", pkgPath := "", byteOffset := 16 } d2 rfl rfl
  have g3 := hf 3 { name := "Dist", type := 3, offset := 3, embedded := false, tag := "", pkgPath := "", byteOffset := 24 } d3 rfl rfl
  have g4 := hf 4 { name := "Serial", type := 22, offset := 4, embedded := false, tag := "", pkgPath := "", byteOffset := 32 } d4 rfl rfl
  have g5 := hf 5 { name := "Seq", type := 22, offset := 5, embedded := false, tag := "", pkgPath := "", byteOffset := 40 } d5 rfl rfl
  have g6 := hf 6 { name := "N", type := 22, offset := 6, embedded := false, tag := "", pkgPath := "", byteOffset := 48 } d6 rfl rfl
  have g7 := hf 7 { name := "Pinned", type := 4, offset := 7, embedded := false, tag := "", pkgPath := "", byteOffset := 56 } d7 rfl rfl
  have g8 := hf 8 { name := "Near", type := 4, offset := 8, embedded := false, tag := "", pkgPath := "", byteOffset := 57 } d8 rfl rfl
  have g9 := hf 9 { name := "M", type := 41, offset := 9, embedded := false, tag := "", pkgPath := "", byteOffset := 64 } d9 rfl rfl
  have s9 : SizedD Tryz.prog 41 d9 := sized_field (i := 9) Tryz.underlying43 hs (f := { name := "M", type := 41, offset := 9, embedded := false, tag := "", pkgPath := "", byteOffset := 64 }) rfl rfl
  simp only [show Tryz.prog.cellsOf 3 = 1 by kernel_rfl, show Tryz.prog.cellsOf 22 = 1 by kernel_rfl, show Tryz.prog.cellsOf 4 = 1 by kernel_rfl, show Tryz.prog.cellsOf 41 = 19 by kernel_rfl, List.drop_zero, List.drop_succ_cons, List.take_succ_cons, List.take_zero] at g0 g1 g2 g3 g4 g5 g6 g7 g8 g9
  obtain ⟨x0, e0, _, w0⟩ := lies_int Tryz.underlying3 g0
  obtain ⟨x1, e1, _, w1⟩ := lies_int Tryz.underlying3 g1
  obtain ⟨x2, e2, _, w2⟩ := lies_int Tryz.underlying3 g2
  obtain ⟨x3, e3, _, w3⟩ := lies_int Tryz.underlying3 g3
  obtain ⟨x4, e4, _, w4⟩ := lies_int Tryz.underlying22 g4
  obtain ⟨x5, e5, _, w5⟩ := lies_int Tryz.underlying22 g5
  obtain ⟨x6, e6, _, w6⟩ := lies_int Tryz.underlying22 g6
  obtain ⟨x7, e7, _⟩ := lies_bool Tryz.underlying4 g7
  obtain ⟨x8, e8, _⟩ := lies_bool Tryz.underlying4 g8
  obtain ⟨m, rp, rc, lp, lc, e9, h9⟩ := msg_of_lies g9 s9
  simp only [List.cons.injEq, and_true] at e0 e1 e2 e3 e4 e5 e6 e7 e8
  subst e0 e1 e2 e3 e4 e5 e6 e7 e8
  refine ⟨⟨x0, x1, x2, x3, x4, x5, x6, x7, x8, m⟩, rp, rc, lp, lc, ?_, h9, ⟨u64b w4, u64b w5, u64b w6⟩⟩
  show _ = [Value.int .i64 x0, .int .i64 x1, .int .i64 x2, .int .i64 x3, .int .u64 x4, .int .u64 x5, .int .u64 x6, .bool x7, .bool x8] ++ m.cells rp rc lp lc
  rw [← e9]
  rfl
structure StepsAt (W : World) (a : Option Addr) (l : List Stp) : Prop where
  at_ : ∀ i x, l[i]? = some x → ∃ p rp rc lp lc, a = some p ∧ At W (p.add (i * 28)) (x.cells rp rc lp lc) ∧ MM W x.m rp rc lp lc
  wf : ∀ x ∈ l, StpW x
theorem steps_of_lies {H : Type} {W : World} {a : Option Addr} {len cap : Nat} {d : DataW H} (h : Lies Tryz.prog W 6 25 [.slice a len cap] d) (hs : SizedD Tryz.prog 25 d) : ∃ l : List Stp, l.length = len ∧ StepsAt W a l ∧ l.length ≤ 140737488351232 := by
  have hz : True := trivial
  rcases lies_slice Tryz.underlying25 h with ⟨h1, h2⟩ | ⟨p, n, c, elems, rest, h1, h2, hl, hm, hlen, hel⟩
  · simp only [List.cons.injEq, Value.slice.injEq, and_true] at h1
    obtain ⟨rfl, rfl, rfl⟩ := h1
    exact ⟨[], rfl, ⟨fun i x hx => by simp at hx, fun x hx => by cases hx⟩, by simp⟩
  · simp only [List.cons.injEq, Value.slice.injEq, and_true] at h1
    obtain ⟨rfl, rfl, rfl⟩ := h1
    subst h2
    have hz := sized_len Tryz.underlying25 hs
    rw [show Tryz.prog.bytesOf 43 = 248 by kernel_rfl] at hz
    have hc : Tryz.prog.cellsOf 43 = 28 := by kernel_rfl
    obtain ⟨l, hll, hx⟩ := list_of (R := fun i (y : DataW H) (x : Stp) => (∃ rp rc lp lc, At W (p.add (i * 28)) (x.cells rp rc lp lc) ∧ MM W x.m rp rc lp lc) ∧ StpW x) elems 0 (fun i y hy => by
      obtain ⟨cs', hcl, hcell, hly⟩ := hel i y hy
      obtain ⟨x, rp, rc, lp, lc, hxc, h3, h5⟩ := step_of_lies (n := 0) hly (sized_elem Tryz.underlying25 hs (List.mem_of_getElem? hy))
      refine ⟨x, ⟨rp, rc, lp, lc, fun j u hj => ?_, h3⟩, h5⟩
      rw [Nat.zero_add, add_add]
      have := hcell j u (by rw [hxc]; exact hj)
      rw [hc] at this
      exact this)
    have get : ∀ i x, l[i]? = some x → (∃ rp rc lp lc, At W (p.add (i * 28)) (x.cells rp rc lp lc) ∧ MM W x.m rp rc lp lc) ∧ StpW x := fun i x hi => by
      have hlt : i < elems.length := by have := (List.getElem?_eq_some_iff.1 hi).1; omega
      have := hx i _ x (List.getElem?_eq_getElem hlt) hi
      rwa [Nat.zero_add] at this
    refine ⟨l, by omega, ⟨fun i x hi => ?_, fun x hm => ?_⟩, by omega⟩
    · obtain ⟨⟨rp, rc, lp, lc, h1, h2⟩, _⟩ := get i x hi
      exact ⟨p, rp, rc, lp, lc, rfl, h1, h2⟩
    · obtain ⟨i, hi⟩ := List.getElem?_of_mem hm
      exact (get i x hi).2
end Go.Proofs.YtnjmkhhaodgpbaaGreatX
namespace Go.Proofs.YtnjmkhhaodgpbaaGreatX
open Go.RowKit
set_option maxRecDepth 100000
def serX (x : Stp) : Int := if x.near = true then 1 + Int.tmod x.serial 7 else x.serial
def fromX (S : Sc) (x : Stp) : Int := if 1 + x.frm % S.c.nodes = S.node then 1 + Int.tmod (1 + x.frm % S.c.nodes) S.c.nodes else 1 + x.frm % S.c.nodes
def seqX (x : Stp) : Int := 1 + Int.tmod x.seq 9
def vouX (S : Sc) (x : Stp) : Int := 1 + x.voucher % S.c.nodes
def dirM (S : Sc) (x : Stp) : Msg := if x.near = true then dmsg (fromX S x) S.node (serX x) (seqX x) (vouX S x) (1 + x.dist % 40) else x.m
def clnM (S : Sc) (x : Stp) : Msg := if x.near = true then cmsg (fromX S x) S.node (serX x) (seqX x) else x.m
def makeS (S : Sc) : Sc := { S with last := (makeO S.last S.os).1, os := (makeO S.last S.os).2.1 }
noncomputable def playS (S : Sc) (x : Stp) (now : Int) : Sc :=
  if x.what % 13 = 4 ∨ x.what % 13 = 5 then (cleanS S (clnM S x)).1
  else if x.what % 13 = 6 ∨ x.what % 13 = 7 then (stepS S now).1
  else if x.what % 13 = 8 then (buryS S (serX x)).1
  else if x.what % 13 = 9 then (raiseS S (serX x)).1
  else if x.what % 13 = 10 then (if Int.tmod x.n 4 = 0 then forgetS S (serX x) else S)
  else if x.what % 13 = 11 then makeS S
  else if x.what % 13 = 12 then (if Int.tmod x.n 5 = 0 ∧ hasO S.os (serX x) = true then forgetS { S with os := freeO S.os (serX x) } (serX x) else S)
  else (dirtyS S (dirM S x) x.pinned now).1
section
variable {S : Sc} {x : Stp} {now s : Int} {n : Nat}
theorem serX_rng (h : StpW x) : 0 ≤ serX x ∧ serX x ≤ 18446744073709551615 := by
  have := h.serial
  unfold serX
  split
  · rw [Int.tmod_eq_emod_of_nonneg (by omega)]
    omega
  · omega
theorem SV.play (h : SV n S) (w : StpW x) : SV (n + 1) (playS S x now) := by
  have hs := serX_rng w
  unfold playS
  split
  · exact h.clean
  split
  · exact h.step
  split
  · exact h.bury
  split
  · exact h.raise.mono (by omega)
  split
  · split
    · exact (h.forget hs.1).mono (by omega)
    · exact h.mono (by omega)
  split
  · exact h.make
  split
  · split
    · exact (SV.forget (h.free (s := serX x)) hs.1).mono (by omega)
    · exact h.mono (by omega)
  · exact h.dirty
theorem play_node : (playS S x now).node = S.node ∧ (playS S x now).c = S.c := by
  have h1 : ∀ (S : Sc) (r : Scn), (putS S r).node = S.node ∧ (putS S r).c = S.c := fun _ _ => ⟨rfl, rfl⟩
  unfold playS
  split
  · unfold cleanS cleanR
    split
    · split
      · split <;> exact ⟨rfl, rfl⟩
      · split <;> exact ⟨rfl, rfl⟩
    · exact ⟨rfl, rfl⟩
  split
  · unfold stepS
    split
    · exact ⟨rfl, rfl⟩
    · split
      · exact ⟨rfl, rfl⟩
      · split <;> exact ⟨rfl, rfl⟩
  split
  · unfold buryS
    split <;> exact ⟨rfl, rfl⟩
  split
  · unfold raiseS
    split <;> exact ⟨rfl, rfl⟩
  split
  · split <;> exact ⟨rfl, rfl⟩
  split
  · exact ⟨rfl, rfl⟩
  split
  · split <;> exact ⟨rfl, rfl⟩
  · unfold dirtyS askedS grantS
    split
    · split
      · split
        · split
          · exact ⟨rfl, rfl⟩
          split
          · split <;> exact ⟨rfl, rfl⟩
          · split <;> exact ⟨rfl, rfl⟩
        · split <;> exact ⟨rfl, rfl⟩
      · exact ⟨rfl, rfl⟩
    · exact ⟨rfl, rfl⟩
end
end Go.Proofs.YtnjmkhhaodgpbaaGreatX
namespace Go.Proofs.YtnjmkhhaodgpbaaGreatX
open Go.RowKit
set_option maxRecDepth 100000
section
variable {w w' w2 w3 W : World} {Q : QT} {gr b : Nat} {xr : RHB} {ft ft' ft0 fh fh' rt rt' F L L' : List Nat} {S S' : Sc} {pk pv bp pk' pv' : Option Addr} {ck cv bc ck' cv' : Nat} {s k now : Int} {r : Scn} {m : Msg} {rp lp : Option Addr} {rc lc n : Nat} {v : Value} {cs vs : List Value} {e : Int} {pin gt : Bool} {t5 t8 t11 t13 : Nat} {o : Option Scn}
structure DB (w : World) (t5 t8 t11 t13 : Nat) (m : Msg) (rp : Option Addr) (rc : Nat) (lp : Option Addr) (lc : Nat) (e : Int) (r : Scn) : Prop where
  b5 : Blk w t5 (m.cells rp rc lp lc) 41
  b8 : ∃ cs, Blk w t8 cs 41 ∧ cs.length = 19
  b11 : Blk w t11 ((toldM m e).cells none 0 none 0) 41
  b13 : Blk w t13 r.cells 52
  ne : t5 ≠ t8 ∧ t5 ≠ t11 ∧ t5 ≠ t13 ∧ t8 ≠ t11 ∧ t8 ≠ t13 ∧ t11 ≠ t13
theorem DB.keep (D : DB w t5 t8 t11 t13 m rp rc lp lc e r) (f : Fr F w w') (h : ∀ y ∈ [t5, t8, t11, t13], y ∉ F) : DB w' t5 t8 t11 t13 m rp rc lp lc e r := by
  obtain ⟨cs, b8, hl⟩ := D.b8
  exact ⟨D.b5.keep f (h _ (by simp)), ⟨cs, b8.keep f (h _ (by simp)), hl⟩, D.b11.keep f (h _ (by simp)), D.b13.keep f (h _ (by simp)), D.ne⟩
theorem DB.keep' (D : DB w t5 t8 t11 t13 m rp rc lp lc e r) (f : Fr [] w w') : DB w' t5 t8 t11 t13 m rp rc lp lc e r := D.keep f (by simp)
theorem DB.code {K : World → Prop} (D : DB w t5 t8 t11 t13 m rp rc lp lc e r) (hK : ∀ w', DB w' t5 t8 t11 t13 m rp rc lp lc 0 r → Fr [t11] w w' → K w') : stK w ((at0 t11 0).add 12) (.int .i64 0) K := by
  refine stB (i := 12) D.b11 (show 12 < 19 by omega) fun w2 b2 f2 => ?_
  obtain ⟨cs, b8, hl⟩ := D.b8
  obtain ⟨n1, n2, n3, n4, n5, n6⟩ := D.ne
  exact hK w2 ⟨D.b5.off1 n2 f2, ⟨cs, b8.off1 n4 f2, hl⟩, b2, D.b13.off1 (fun h => n6 h.symm) f2, D.ne⟩ f2
theorem rdirty_j4 (h : SD W w ft0 gr xr ft S [t5, t8, t11, t13]) (D : DB w t5 t8 t11 t13 m rp rc lp lc e r) (hl : S.rows.length < 4096) (hr : okRow r) (hs : r.serial = m.ts) (hh : r.holder = m.frm) (hQ : AftD W gr xr ft0 (putS S r) (res3 (toldM m e) gt true) Q) :
    X41.j4 Q (some (at0 gr 0)) (at0 t5 0) (at0 t8 0) (at0 t11 0) m.ts (at0 t13 0) gt w := by
  unfold X41.j4
  refine drawn fun w1 f1 _ => ?_
  have h1 := h.keep f1
  have D1 := D.keep' f1
  refine opt_some rfl (ld_int (D1.b5.cat 1 _ rfl) (rkey_spec ⟨_, rfl, ld_Scn (s := r) D1.b13.cat ⟨⟨D1.b13.cat, D1.b13.cat⟩, ?_⟩⟩))
  rw [← hs, ← hh]
  refine rputr_spec h1.P hl hr fun ft2 w2 P2 f2 e2 => ⟨_, rfl, ?_⟩
  have h2 := h1.next P2 f2 e2
  have D2 := D1.keep f2 (fun y hy => h1.off hy)
  refine rkeep_spec h2.P fun ft3 w3 P3 f3 e3 => ⟨rfl, ?_⟩
  have h3 := h2.next P3 f3 e3
  have D3 := D2.keep f3 (fun y hy => h2.off hy)
  obtain ⟨cs, b8, hcl⟩ := D3.b8
  refine ld_msgA (m := toldM m e) D3.b11 (stAllB (vs := (toldM m e).cells none 0 none 0) b8 hcl.symm fun w4 b4 f4 => ld_msgA (m := toldM m e) b4 ?_)
  exact (h3.loc f4 (by simp)).done hQ
theorem rdirty_j0 (h : SD W w ft0 gr xr ft S [t5, t8, t11, t13]) (D : DB w t5 t8 t11 t13 m rp rc lp lc 4 r) (hm : mineS S m 4) (hl : S.rows.length < 4096) (hg : goodS S m pin = gt)
    (hQ : AftD W gr xr ft0 (grantS S m pin now).1 (res3 (grantS S m pin now).2.1 (grantS S m pin now).2.2.1 (grantS S m pin now).2.2.2) Q) :
    X41.j0 Q (some (at0 gr 0)) now (at0 t5 0) (at0 t8 0) (at0 t11 0) m.ts (at0 t13 0) gt w := by
  unfold X41.j0
  unfold grantS at hQ
  rw [hg] at hQ
  obtain ⟨n1, n2, n3, n4, n5, n6⟩ := D.ne
  refine ld_int (D.b5.cat 1 _ rfl) (ld_int (D.b5.cat 13 _ rfl) (ld_int (D.b5.cat 16 _ rfl) (stAllB (vs := (nextR m now gt).cells) D.b13 rfl fun w4 b4 f4 => ?_)))
  have h4 := h.loc f4 (by simp)
  obtain ⟨cs, b8, hcl⟩ := D.b8
  have D4 : DB w4 t5 t8 t11 t13 m rp rc lp lc 4 (nextR m now gt) := ⟨D.b5.off1 n3 f4, ⟨cs, b8.off1 n5 f4, hcl⟩, D.b11.off1 n6 f4, b4, D.ne⟩
  cases gt with
  | true =>
    rw [if_pos rfl] at hQ
    refine bc_bool (fun _ => D4.code fun w5 D5 f5 => ?_) (fun e => by cases e)
    have h5 := h4.loc f5 (by simp)
    refine runbury_spec h5.P fun ft6 w6 P6 f6 e6 => ⟨rfl, ?_⟩
    exact rdirty_j4 (h5.next P6 f6 e6) (D5.keep f6 (fun y hy => h5.off hy)) hl (mine4 hm now true) rfl rfl hQ
  | false =>
    rw [if_neg (by decide)] at hQ
    exact bc_bool (fun e => by cases e) (fun _ => rdirty_j4 h4 D4 hl (mine4 hm now false) rfl rfl hQ)
theorem rdirty_j1 {t16 : Nat} {v : Scn} (h : SD W w ft0 gr xr ft S [t5, t8, t11, t13]) (D : DB w t5 t8 t11 t13 m rp rc lp lc 4 r) (b16 : Blk w t16 v.cells 52) (hm : mineS S m 4) (hl : S.rows.length < 4096) {t17 : Bool} (hv : get ilt S.rows (keyS m.ts m.voucher) = if t17 = true then some v else none)
    (hQ : AftD W gr xr ft0 (grantS S m pin now).1 (res3 (grantS S m pin now).2.1 (grantS S m pin now).2.2.1 (grantS S m pin now).2.2.2) Q) :
    X41.j1 Q (some (at0 gr 0)) pin now (at0 t5 0) (at0 t8 0) (at0 t11 0) m.ts (at0 t13 0) (at0 t16 0) t17 w := by
  unfold X41.j1
  refine drawn fun w1 f1 _ => ?_
  have h1 := h.keep f1
  have D1 := D.keep' f1
  have b1 := b16.keep' f1
  obtain ⟨fh, rt, pk, pv, ck, cv, bp, bc, t1⟩ := h1.P
  have c0 : w1.cell? ((at0 xr.h 0).add 0) = some (.int .i64 S.node) := by
    obtain ⟨ts, os, lp, lc, th, _⟩ := t1.heap
    exact th.c0 0 rfl
  refine ld_int (D1.b5.cat 14 _ rfl) (opt_some rfl (ld_ptr t1.c22 (opt_some rfl (ld_int c0 (bc_eq (fun he => ?_) (fun hne => ?_))))))
  · have hg : goodS S m pin = pin := by unfold goodS; rw [if_pos he]
    cases pin with
    | true => exact bc_bool (fun _ => rdirty_j0 h1 D1 hm hl hg hQ) (fun e => by cases e)
    | false => exact bc_bool (fun e => by cases e) (fun _ => ld_int (D1.b5.cat 14 _ rfl) (opt_some rfl (ld_ptr t1.c22 (opt_some rfl (ld_int c0 (bc_ne (fun hn => absurd he hn) (fun _ => rdirty_j0 h1 D1 hm hl hg hQ)))))))
  · refine ld_int (D1.b5.cat 14 _ rfl) (opt_some rfl (ld_ptr t1.c22 (opt_some rfl (ld_int c0 (bc_ne (fun _ => ?_) (fun he => absurd he hne))))))
    cases t17 with
    | true =>
      have hg : goodS S m pin = v.present := by unfold goodS; rw [if_neg hne, hv]; rfl
      exact bc_bool (fun _ => ld_bool (b1.cat 2 _ rfl) (rdirty_j0 h1 D1 hm hl hg hQ)) (fun e => by cases e)
    | false =>
      have hg : goodS S m pin = false := by unfold goodS; rw [if_neg hne, hv]; rfl
      exact bc_bool (fun e => by cases e) (fun _ => rdirty_j0 h1 D1 hm hl hg hQ)
theorem rdirty_j2 {t15 : Bool} (h : SD W w ft0 gr xr ft S [t5, t8, t11, t13]) (V : SV n S) (hn : n < 4096) (D : DB w t5 t8 t11 t13 m rp rc lp lc 4 (o.getD scnZ)) (hm : mineS S m 4) (ho : get ilt S.rows (keyS m.ts m.frm) = o) (h1 : ∀ r, o = some r → ¬ r.seq > m.seq)
    (h15 : t15 = true ↔ ∃ r, o = some r ∧ r.seq = m.seq)
    (hQ : AftD W gr xr ft0 (askedS S m pin now).1 (res3 (askedS S m pin now).2.1 (askedS S m pin now).2.2.1 (askedS S m pin now).2.2.2) Q) :
    X41.j2 Q (some (at0 gr 0)) pin now (at0 t5 0) (at0 t8 0) (at0 t11 0) m.ts (at0 t13 0) false t15 w := by
  unfold X41.j2
  have hl : S.rows.length < 4096 := by have := V.rl; omega
  unfold askedS at hQ
  rw [ho] at hQ
  refine bc_bool (fun ht => ?_) (fun ht => ?_)
  · obtain ⟨q, hq, h2⟩ := h15.1 ht
    subst hq
    simp only [] at hQ
    rw [if_neg (h1 q rfl), if_pos h2] at hQ
    have D : DB w t5 t8 t11 t13 m rp rc lp lc 4 q := D
    obtain ⟨hk, he⟩ := get_key V.ri ho
    obtain ⟨k1, k2, k3⟩ := hk
    obtain ⟨j1, j2, j3⟩ := mine4 hm now true
    have hse : q.serial = m.ts ∧ q.holder = m.frm := by
      have e := he
      have j1 : 1 ≤ m.ts ∧ m.ts ≤ 72057594037927935 := j1
      have j2 : 1 ≤ m.frm ∧ m.frm ≤ 64 := j2
      rw [keyS_eq (by omega) (by omega) (by omega) (by omega), keyS_eq (by omega) (by omega) (by omega) (by omega)] at e
      omega
    obtain ⟨n1, n2, n3, n4, n5, n6⟩ := D.ne
    refine ld_bool (D.b13.cat 2 _ rfl) (bc_bool (fun hp => ?_) (fun hp => ?_))
    · rw [if_pos hp] at hQ
      refine stB (i := 4) D.b13 (show 4 < 6 by omega) fun w2 b2 f2 => ld_int ((D.b5.off1 n3 f2).cat 16 _ rfl) (stB (i := 5) b2 (show 5 < 6 by omega) fun w4 b4 f4 => ?_)
      have hw := (h.loc f2 (by simp)).loc f4 (by simp)
      obtain ⟨cs, b8, hcl⟩ := D.b8
      have e4 : (q.cells.set 4 (.int .u64 now)).set 5 (.int .i64 m.dist) = (nextR m now true).cells := by
        obtain ⟨a1, a2, a3, a4, a5, a6⟩ := q
        simp only at hse h2 hp
        obtain ⟨e1, e2⟩ := hse
        subst e1 e2 h2 hp
        rfl
      rw [e4] at b4
      have D4 : DB w4 t5 t8 t11 t13 m rp rc lp lc 4 (nextR m now true) := ⟨(D.b5.off1 n3 f2).off1 n3 f4, ⟨cs, (b8.off1 n5 f2).off1 n5 f4, hcl⟩, (D.b11.off1 n6 f2).off1 n6 f4, b4, D.ne⟩
      exact D4.code fun w5 D5 f5 => rdirty_j4 (hw.loc f5 (by simp)) D5 hl (mine4 hm now true) rfl rfl hQ
    · rw [if_neg (by rw [hp]; decide)] at hQ
      have e5 := V.putS (r := q) (by rw [he]; exact ho)
      rw [← e5] at hQ
      rw [e5] at hQ
      refine rdirty_j4 h D hl ⟨k1, k2, k3⟩ hse.1 hse.2 ?_
      rw [e5]
      exact hQ
  · have hQ : AftD W gr xr ft0 (grantS S m pin now).1 (res3 (grantS S m pin now).2.1 (grantS S m pin now).2.2.1 (grantS S m pin now).2.2.2) Q := by
      cases o with
      | none => exact hQ
      | some q =>
        simp only [] at hQ
        rw [if_neg (h1 q rfl), if_neg (fun e => by rw [h15.2 ⟨q, rfl, e⟩] at ht; cases ht)] at hQ
        exact hQ
    refine drawn fun w6 f6 _ => ?_
    have h6 := h.keep f6
    have D6 := D.keep' f6
    obtain ⟨fh, rt, pk, pv, ck, cv, bp, bc, t6⟩ := h6.P
    refine ⟨?_, ?_, ?_⟩
    · refine opt_some rfl (ld_int (D6.b5.cat 14 _ rfl) (rkey_spec ⟨_, rfl, rget_SC t6.tab (fun hn' w13 f13 => ?_) (fun v hv w13 f13 => ?_)⟩))
      · refine ⟨_, _, _, _, _, _, _, rfl, newB fun g21 w22 b21 f22 _ => ⟨⟨(D6.keep' f13).b5.cat 14 _ rfl, ((D6.keep' f13).keep' f22).b5.cat 14 _ rfl⟩, stAllB (vs := scnZ.cells) b21 rfl fun w23 b23 f23 => ?_⟩⟩
        have F : Fr [] w6 w23 := (f13.tr f22).trans f23 (fun y hy => .inr (by simp at hy; have := f13.size; omega))
        exact rdirty_j1 (h6.keep F) (D6.keep' F) b23 hm hl (by rw [hn']; rfl) hQ
      · refine ⟨_, _, _, _, _, _, _, rfl, newB fun g21 w22 b21 f22 _ => ⟨⟨(D6.keep' f13).b5.cat 14 _ rfl, ((D6.keep' f13).keep' f22).b5.cat 14 _ rfl⟩, stAllB (vs := v.cells) b21 rfl fun w23 b23 f23 => ?_⟩⟩
        have F : Fr [] w6 w23 := (f13.tr f22).trans f23 (fun y hy => .inr (by simp at hy; have := f13.size; omega))
        exact rdirty_j1 (h6.keep F) (D6.keep' F) b23 hm hl (by rw [hv]; rfl) hQ
    · refine opt_some rfl (ld_int (D6.b5.cat 14 _ rfl) (rkey_spec ⟨_, rfl, newB fun g21 w22 b21 f22 _ => ⟨⟨D6.b5.cat 14 _ rfl, (D6.keep' f22).b5.cat 14 _ rfl⟩, rget_SC (t6.keep' f22).tab (fun hn' w13 f13 => ?_) (fun v hv w13 f13 => ?_)⟩⟩))
      · refine ⟨_, _, _, _, _, _, _, rfl, stAllB (vs := scnZ.cells) (b21.keep' f13) rfl fun w23 b23 f23 => ?_⟩
        have F : Fr [] w6 w23 := (f22.tr f13).trans f23 (fun y hy => .inr (by simp at hy; omega))
        exact rdirty_j1 (h6.keep F) (D6.keep' F) b23 hm hl (by rw [hn']; rfl) hQ
      · refine ⟨_, _, _, _, _, _, _, rfl, stAllB (vs := v.cells) (b21.keep' f13) rfl fun w23 b23 f23 => ?_⟩
        have F : Fr [] w6 w23 := (f22.tr f13).trans f23 (fun y hy => .inr (by simp at hy; omega))
        exact rdirty_j1 (h6.keep F) (D6.keep' F) b23 hm hl (by rw [hv]; rfl) hQ
    · refine opt_some rfl (ld_int (D6.b5.cat 14 _ rfl) (newB fun g21 w22 b21 f22 _ => ⟨⟨D6.b5.cat 14 _ rfl, (D6.keep' f22).b5.cat 14 _ rfl⟩, rkey_spec ⟨_, rfl, rget_SC (t6.keep' f22).tab (fun hn' w13 f13 => ?_) (fun v hv w13 f13 => ?_)⟩⟩))
      · refine ⟨_, _, _, _, _, _, _, rfl, stAllB (vs := scnZ.cells) (b21.keep' f13) rfl fun w23 b23 f23 => ?_⟩
        have F : Fr [] w6 w23 := (f22.tr f13).trans f23 (fun y hy => .inr (by simp at hy; omega))
        exact rdirty_j1 (h6.keep F) (D6.keep' F) b23 hm hl (by rw [hn']; rfl) hQ
      · refine ⟨_, _, _, _, _, _, _, rfl, stAllB (vs := v.cells) (b21.keep' f13) rfl fun w23 b23 f23 => ?_⟩
        have F : Fr [] w6 w23 := (f22.tr f13).trans f23 (fun y hy => .inr (by simp at hy; omega))
        exact rdirty_j1 (h6.keep F) (D6.keep' F) b23 hm hl (by rw [hv]; rfl) hQ
theorem rdirty_j5 (h : SD W w ft0 gr xr ft S [t5, t8, t11, t13]) (V : SV n S) (hn : n < 4096) (D : DB w t5 t8 t11 t13 m rp rc lp lc 4 (o.getD scnZ)) (hm : mineS S m 4) (ho : get ilt S.rows (keyS m.ts m.frm) = o)
    (hQ : AftD W gr xr ft0 (askedS S m pin now).1 (res3 (askedS S m pin now).2.1 (askedS S m pin now).2.2.1 (askedS S m pin now).2.2.2) Q) :
    X41.j5 Q (some (at0 gr 0)) pin now (at0 t5 0) (at0 t8 0) (at0 t11 0) m.ts (at0 t13 0) o.isSome w := by
  unfold X41.j5 X41.j3
  cases o with
  | none =>
    exact bc_bool (fun e => by cases e) (fun _ => bc_bool (fun e => by cases e) (fun _ => bc_bool (fun e => by cases e) (fun _ => rdirty_j2 (o := none) h V hn D hm ho (fun r e => by cases e) ⟨fun e => (by cases e), fun ⟨q, e, _⟩ => (by cases e)⟩ hQ)))
  | some q =>
    have D' : DB w t5 t8 t11 t13 m rp rc lp lc 4 q := D
    refine bc_bool (fun _ => ld_int (D'.b13.cat 3 _ rfl) (ld_int (D'.b5.cat 13 _ rfl) (bc_dec (fun hgt => ?_) (fun hgt => bc_bool (fun _ => ld_int (D'.b13.cat 3 _ rfl) (ld_int (D'.b5.cat 13 _ rfl) ?_)) (fun e => by cases e))))) (fun e => by cases e)
    · unfold askedS at hQ
      rw [ho] at hQ
      simp only [] at hQ
      rw [if_pos hgt] at hQ
      obtain ⟨cs, b8, hcl⟩ := D'.b8
      refine stAllB (vs := msgZ.cells none 0 none 0) b8 hcl.symm fun w22 b22 f22 => ld_msgA (m := msgZ) b22 ?_
      exact (h.loc f22 (by simp)).done hQ
    · refine rdirty_j2 (o := some q) h V hn D hm ho (fun r e => by injection e with e; rw [← e]; exact hgt) ⟨fun e => ⟨q, rfl, by simpa using e⟩, fun ⟨q', e, hq⟩ => by injection e with e; rw [← e] at hq; simpa using hq⟩ hQ
theorem rdirty_spec (t : RS w gr xr ft S) (V : SV n S) (hn : n < 4096) (hM : MM w m rp rc lp lc) (hQ : AftD w gr xr ft (dirtyS S m pin now).1 (res3 (dirtyS S m pin now).2.1 (dirtyS S m pin now).2.2.1 (dirtyS S m pin now).2.2.2) Q) :
    CallR Tryz.prog 41 #[.pointer (some (at0 gr 0)), msgV m rp rc lp lc, .bool pin, .int .u64 now] w Q := by
  apply X41.sound
  unfold X41.f
  refine newB fun g1 w2 b1 f2 h2 => newB fun g3 w4 b3 f4 h4 => ?_
  have b1 : Blk w2 g1 (m.cells rp rc lp lc) 41 := b1
  have S4 := ((SD.mk0 t).add f2 h2 b1).add f4 h4 b3
  have F4 := f2.tr f4
  have b1' := b1.keep' f4
  have n13 : g1 ≠ g3 := by have := b1.lt; omega
  refine ld_msgA b1' (rmine_spec S4.P (hM.keep' F4) fun bo w25 hbo f25 => ⟨_, rfl, bc_bool (fun hb => ?_) (fun hb => ?_)⟩)
  · have hnm : ¬ mineS S m 4 := fun h => by rw [hbo.2 h] at hb; cases hb
    unfold dirtyS at hQ
    rw [if_neg hnm] at hQ
    refine stAllB (vs := msgZ.cells none 0 none 0) (b3.keep' f25) rfl fun w27 b27 f27 => ld_msgA (m := msgZ) b27 ?_
    exact ((S4.keep f25).loc f27 (by simp)).done hQ
  · have hm : mineS S m 4 := hbo.1 (by simpa using hb)
    unfold dirtyS at hQ
    rw [if_pos hm] at hQ
    have S25 := S4.keep f25
    have c1 := b1'.keep' f25
    have c3 := b3.keep' f25
    have c8 : w25.cell? (((at0 g1 0).add 8).add 0) = some (.int .i64 m.tn) := by rw [add_add]; exact c1.cat 8 _ rfl
    have c9 : w25.cell? (((at0 g1 0).add 8).add 1) = some (.int .u64 m.ts) := by rw [add_add]; exact c1.cat 9 _ rfl
    refine ld_int (c1.cat 2 _ rfl) (ld_int (c1.cat 1 _ rfl) (ld_int c8 (ld_int c9 (ld_int (c1.cat 13 _ rfl) (ld_int (c1.cat 15 _ rfl) (newB fun g53 w54 b53 f54 h54 => stAllB (vs := (toldM m 4).cells none 0 none 0) b53 rfl fun w55 b55 f55 => ?_))))))
    have S55 := (S25.add f54 h54 b53).loc f55 (by simp)
    have n1 : g1 ≠ g53 := by have := c1.lt; omega
    have n3 : g3 ≠ g53 := by have := c3.lt; omega
    have d1 := (c1.keep' f54).off1 n1 f55
    have d3 := (c3.keep' f54).off1 n3 f55
    have d9 : w55.cell? (((at0 g1 0).add 8).add 1) = some (.int .u64 m.ts) := by rw [add_add]; exact d1.cat 9 _ rfl
    have P55 := S55.P
    obtain ⟨fh, rt, pk, pv, ck, cv, bp, bc, t55⟩ := P55
    refine ld_int d9 (opt_some rfl (ld_ptr t55.c22 (rgetS_spec t55.heap fun p hp => ⟨_, rfl, ?_⟩)))
    cases hp' : p with
    | none =>
      rw [hp'] at hp
      have hno : ¬ hasO S.os m.ts = true := by rw [← hp]; decide
      rw [if_neg hno] at hQ
      refine bc_bool (fun _ => ld_msgA (m := toldM m 4) b55 (stAllB (vs := (toldM m 4).cells none 0 none 0) d3 rfl fun w81 b81 f81 => ld_msgA (m := toldM m 4) b81 ?_)) (fun e => by cases e)
      exact (S55.loc f81 (by simp)).done hQ
    | some q =>
      rw [hp'] at hp
      have hyes : hasO S.os m.ts = true := by rw [← hp]; rfl
      rw [if_pos hyes] at hQ
      refine bc_bool (fun e => by cases e) (fun _ => drawn fun w101 f101 _ => ?_)
      have S1 := S55.keep f101
      have e1 := d1.keep' f101
      have e3 := d3.keep' f101
      have e5 := b55.keep' f101
      have t1 := t55.keep' f101
      have fin : ∀ {w' : World} {g : Nat} {o : Option Scn}, Fr [] w101 w' → w101.heap.size ≤ g → Blk w' g (o.getD scnZ).cells 52 → get ilt S.rows (keyS m.ts m.frm) = o → X41.j5 Q (some (at0 gr 0)) pin now (at0 g1 0) (at0 g3 0) (at0 g53 0) m.ts (at0 g 0) o.isSome w' := by
        intro w' g o f hg B ho
        have l1 := e1.lt
        have l3 := e3.lt
        have l5 := e5.lt
        refine rdirty_j5 ((S1.add f hg B).mono (fun y hy => by simp at hy ⊢; omega)) V hn ⟨e1.keep' f, ⟨_, e3.keep' f, rfl⟩, e5.keep' f, B, n13, n1, by omega, n3, by omega, by omega⟩ hm ho hQ
      refine ⟨?_, ?_, ?_⟩
      · refine opt_some rfl (ld_int (e1.cat 1 _ rfl) (rkey_spec ⟨_, rfl, rget_SC t1.tab (fun hn' w13 f13 => ?_) (fun v hv w13 f13 => ?_)⟩))
        · refine ⟨_, _, _, _, _, _, _, rfl, newB fun g21 w22 b21 f22 h22 => ⟨⟨(e1.keep' f13).cat 1 _ rfl, ((e1.keep' f13).keep' f22).cat 1 _ rfl⟩, stAllB (vs := scnZ.cells) b21 rfl fun w23 b23 f23 => ?_⟩⟩
          have z := f13.size
          exact fin (o := none) ((f13.tr f22).trans f23 (fun y hy => .inr (by simp at hy; omega))) (by omega) b23 hn'
        · refine ⟨_, _, _, _, _, _, _, rfl, newB fun g21 w22 b21 f22 h22 => ⟨⟨(e1.keep' f13).cat 1 _ rfl, ((e1.keep' f13).keep' f22).cat 1 _ rfl⟩, stAllB (vs := v.cells) b21 rfl fun w23 b23 f23 => ?_⟩⟩
          have z := f13.size
          exact fin (o := some v) ((f13.tr f22).trans f23 (fun y hy => .inr (by simp at hy; omega))) (by omega) b23 hv
      · refine opt_some rfl (ld_int (e1.cat 1 _ rfl) (rkey_spec ⟨_, rfl, newB fun g21 w22 b21 f22 h22 => ⟨⟨e1.cat 1 _ rfl, (e1.keep' f22).cat 1 _ rfl⟩, rget_SC (t1.keep' f22).tab (fun hn' w13 f13 => ?_) (fun v hv w13 f13 => ?_)⟩⟩))
        · refine ⟨_, _, _, _, _, _, _, rfl, stAllB (vs := scnZ.cells) (b21.keep' f13) rfl fun w23 b23 f23 => ?_⟩
          exact fin (o := none) ((f22.tr f13).trans f23 (fun y hy => .inr (by simp at hy; omega))) h22 b23 hn'
        · refine ⟨_, _, _, _, _, _, _, rfl, stAllB (vs := v.cells) (b21.keep' f13) rfl fun w23 b23 f23 => ?_⟩
          exact fin (o := some v) ((f22.tr f13).trans f23 (fun y hy => .inr (by simp at hy; omega))) h22 b23 hv
      · refine opt_some rfl (ld_int (e1.cat 1 _ rfl) (newB fun g21 w22 b21 f22 h22 => ⟨⟨e1.cat 1 _ rfl, (e1.keep' f22).cat 1 _ rfl⟩, rkey_spec ⟨_, rfl, rget_SC (t1.keep' f22).tab (fun hn' w13 f13 => ?_) (fun v hv w13 f13 => ?_)⟩⟩))
        · refine ⟨_, _, _, _, _, _, _, rfl, stAllB (vs := scnZ.cells) (b21.keep' f13) rfl fun w23 b23 f23 => ?_⟩
          exact fin (o := none) ((f22.tr f13).trans f23 (fun y hy => .inr (by simp at hy; omega))) h22 b23 hn'
        · refine ⟨_, _, _, _, _, _, _, rfl, stAllB (vs := v.cells) (b21.keep' f13) rfl fun w23 b23 f23 => ?_⟩
          exact fin (o := some v) ((f22.tr f13).trans f23 (fun y hy => .inr (by simp at hy; omega))) h22 b23 hv
end
end Go.Proofs.YtnjmkhhaodgpbaaGreatX
namespace Go.Proofs.YtnjmkhhaodgpbaaGreatX
open Go.RowKit
set_option maxRecDepth 100000
def X11.j1 (Q : QT) (t0 t2 : Option Addr) (t12 : Addr) (w : World) : Prop := ldI .i64 w (t12.add 0) fun x1 => ldI .i64 w (t12.add 1) fun x2 => ldI .i64 w (t12.add 2) fun x3 => ldI .u64 w (t12.add 3) fun x4 => ldI .u64 w (t12.add 4) fun x5 => ldI .i64 w (t12.add 5) fun x6 => ldI .i64 w (t12.add 6) fun x7 => ldI .i64 w (t12.add 7) fun x8 => ldI .i64 w (t12.add 8) fun x9 => ldI .u64 w (t12.add 9) fun x10 => ldSl w (t12.add 10) fun x11p x11n x11c => ldI .u64 w (t12.add 11) fun x12 => ldI .i64 w (t12.add 12) fun x13 => ldI .u64 w (t12.add 13) fun x14 => ldI .i64 w (t12.add 14) fun x15 => ldI .u64 w (t12.add 15) fun x16 => ldI .i64 w (t12.add 16) fun x17 => ldI .u64 w (t12.add 17) fun x18 => ldSl w (t12.add 18) fun x19p x19n x19c => CallR Tryz.prog 22 #[.pointer t0, .agg #[.int .i64 x1, .int .i64 x2, .int .i64 x3, .int .u64 x4, .int .u64 x5, .int .i64 x6, .int .i64 x7, .int .i64 x8, .int .i64 x9, .int .u64 x10, .slice x11p x11n x11c, .int .u64 x12, .int .i64 x13, .int .u64 x14, .int .i64 x15, .int .u64 x16, .int .i64 x17, .int .u64 x18, .slice x19p x19n x19c]] w fun v20 w21 => ∃ (y22 y23 y24 y25 y26 y27 y28 y29 y30 y31 : Int) (y32p : Option Addr) (y32n y32c : Nat) (y33 y34 y35 y36 y37 y38 y39 : Int) (y40p : Option Addr) (y40n y40c : Nat) (y41 : Bool), v20 = .tuple #[.agg #[.int .i64 y22, .int .i64 y23, .int .i64 y24, .int .u64 y25, .int .u64 y26, .int .i64 y27, .int .i64 y28, .int .i64 y29, .int .i64 y30, .int .u64 y31, .slice y32p y32n y32c, .int .u64 y33, .int .i64 y34, .int .u64 y35, .int .i64 y36, .int .u64 y37, .int .i64 y38, .int .u64 y39, .slice y40p y40n y40c], .bool y41] ∧ newK w21 #[.int .i64 0, .int .i64 0, .int .i64 0, .int .u64 0, .int .u64 0, .int .i64 0, .int .i64 0, .int .i64 0, .int .i64 0, .int .u64 0, .slice none 0 0, .int .u64 0, .int .i64 0, .int .u64 0, .int .i64 0, .int .u64 0, .int .i64 0, .int .u64 0, .slice none 0 0] 41 fun g42 w43 => stAll w43 g42 [.int .i64 y22, .int .i64 y23, .int .i64 y24, .int .u64 y25, .int .u64 y26, .int .i64 y27, .int .i64 y28, .int .i64 y29, .int .i64 y30, .int .u64 y31, .slice y32p y32n y32c, .int .u64 y33, .int .i64 y34, .int .u64 y35, .int .i64 y36, .int .u64 y37, .int .i64 y38, .int .u64 y39, .slice y40p y40n y40c] fun w44 => ldI .i64 w44 (t12.add 0) fun x45 => ldI .i64 w44 (t12.add 1) fun x46 => ldI .i64 w44 (t12.add 2) fun x47 => ldI .u64 w44 (t12.add 3) fun x48 => ldI .u64 w44 (t12.add 4) fun x49 => ldI .i64 w44 (t12.add 5) fun x50 => ldI .i64 w44 (t12.add 6) fun x51 => ldI .i64 w44 (t12.add 7) fun x52 => ldI .i64 w44 (t12.add 8) fun x53 => ldI .u64 w44 (t12.add 9) fun x54 => ldSl w44 (t12.add 10) fun x55p x55n x55c => ldI .u64 w44 (t12.add 11) fun x56 => ldI .i64 w44 (t12.add 12) fun x57 => ldI .u64 w44 (t12.add 13) fun x58 => ldI .i64 w44 (t12.add 14) fun x59 => ldI .u64 w44 (t12.add 15) fun x60 => ldI .i64 w44 (t12.add 16) fun x61 => ldI .u64 w44 (t12.add 17) fun x62 => ldSl w44 (t12.add 18) fun x63p x63n x63c => CallR Tryz.prog 29 #[.pointer t2, .agg #[.int .i64 x45, .int .i64 x46, .int .i64 x47, .int .u64 x48, .int .u64 x49, .int .i64 x50, .int .i64 x51, .int .i64 x52, .int .i64 x53, .int .u64 x54, .slice x55p x55n x55c, .int .u64 x56, .int .i64 x57, .int .u64 x58, .int .i64 x59, .int .u64 x60, .int .i64 x61, .int .u64 x62, .slice x63p x63n x63c]] w44 fun v64 w65 => ∃ (y66 y67 y68 y69 y70 y71 y72 y73 y74 y75 : Int) (y76p : Option Addr) (y76n y76c : Nat) (y77 y78 y79 y80 y81 y82 y83 : Int) (y84p : Option Addr) (y84n y84c : Nat) (y85 : Bool), v64 = .tuple #[.agg #[.int .i64 y66, .int .i64 y67, .int .i64 y68, .int .u64 y69, .int .u64 y70, .int .i64 y71, .int .i64 y72, .int .i64 y73, .int .i64 y74, .int .u64 y75, .slice y76p y76n y76c, .int .u64 y77, .int .i64 y78, .int .u64 y79, .int .i64 y80, .int .u64 y81, .int .i64 y82, .int .u64 y83, .slice y84p y84n y84c], .bool y85] ∧ newK w65 #[.int .i64 0, .int .i64 0, .int .i64 0, .int .u64 0, .int .u64 0, .int .i64 0, .int .i64 0, .int .i64 0, .int .i64 0, .int .u64 0, .slice none 0 0, .int .u64 0, .int .i64 0, .int .u64 0, .int .i64 0, .int .u64 0, .int .i64 0, .int .u64 0, .slice none 0 0] 41 fun g86 w87 => stAll w87 g86 [.int .i64 y66, .int .i64 y67, .int .i64 y68, .int .u64 y69, .int .u64 y70, .int .i64 y71, .int .i64 y72, .int .i64 y73, .int .i64 y74, .int .u64 y75, .slice y76p y76n y76c, .int .u64 y77, .int .i64 y78, .int .u64 y79, .int .i64 y80, .int .u64 y81, .int .i64 y82, .int .u64 y83, .slice y84p y84n y84c] fun w88 => bcase (y41 == y85) (ldI .i64 w88 (g42.add 0) fun x89 => ldI .i64 w88 (g42.add 1) fun x90 => ldI .i64 w88 (g42.add 2) fun x91 => ldI .u64 w88 (g42.add 3) fun x92 => ldI .u64 w88 (g42.add 4) fun x93 => ldI .i64 w88 (g42.add 5) fun x94 => ldI .i64 w88 (g42.add 6) fun x95 => ldI .i64 w88 (g42.add 7) fun x96 => ldI .i64 w88 (g42.add 8) fun x97 => ldI .u64 w88 (g42.add 9) fun x98 => ldSl w88 (g42.add 10) fun x99p x99n x99c => ldI .u64 w88 (g42.add 11) fun x100 => ldI .i64 w88 (g42.add 12) fun x101 => ldI .u64 w88 (g42.add 13) fun x102 => ldI .i64 w88 (g42.add 14) fun x103 => ldI .u64 w88 (g42.add 15) fun x104 => ldI .i64 w88 (g42.add 16) fun x105 => ldI .u64 w88 (g42.add 17) fun x106 => ldSl w88 (g42.add 18) fun x107p x107n x107c => ldI .i64 w88 (g86.add 0) fun x108 => ldI .i64 w88 (g86.add 1) fun x109 => ldI .i64 w88 (g86.add 2) fun x110 => ldI .u64 w88 (g86.add 3) fun x111 => ldI .u64 w88 (g86.add 4) fun x112 => ldI .i64 w88 (g86.add 5) fun x113 => ldI .i64 w88 (g86.add 6) fun x114 => ldI .i64 w88 (g86.add 7) fun x115 => ldI .i64 w88 (g86.add 8) fun x116 => ldI .u64 w88 (g86.add 9) fun x117 => ldSl w88 (g86.add 10) fun x118p x118n x118c => ldI .u64 w88 (g86.add 11) fun x119 => ldI .i64 w88 (g86.add 12) fun x120 => ldI .u64 w88 (g86.add 13) fun x121 => ldI .i64 w88 (g86.add 14) fun x122 => ldI .u64 w88 (g86.add 15) fun x123 => ldI .i64 w88 (g86.add 16) fun x124 => ldI .u64 w88 (g86.add 17) fun x125 => ldSl w88 (g86.add 18) fun x126p x126n x126c => CallR Tryz.prog 20 #[.agg #[.int .i64 x89, .int .i64 x90, .int .i64 x91, .int .u64 x92, .int .u64 x93, .int .i64 x94, .int .i64 x95, .int .i64 x96, .int .i64 x97, .int .u64 x98, .slice x99p x99n x99c, .int .u64 x100, .int .i64 x101, .int .u64 x102, .int .i64 x103, .int .u64 x104, .int .i64 x105, .int .u64 x106, .slice x107p x107n x107c], .agg #[.int .i64 x108, .int .i64 x109, .int .i64 x110, .int .u64 x111, .int .u64 x112, .int .i64 x113, .int .i64 x114, .int .i64 x115, .int .i64 x116, .int .u64 x117, .slice x118p x118n x118c, .int .u64 x119, .int .i64 x120, .int .u64 x121, .int .i64 x122, .int .u64 x123, .int .i64 x124, .int .u64 x125, .slice x126p x126n x126c]] w88 fun v127 w128 => ∃ (y129 : Bool), v127 = .bool y129 ∧ Q (.bool y129) w128) (Q (.bool false) w88)
def X11.j2 (Q : QT) (t0 t1 t2 : Option Addr) (t4 : Int) (t8 t12 : Addr) (t13 t93 : Int) (t127 : Bool) (w : World) : Prop := bcase t127 (CallR Tryz.prog 30 #[.pointer t0, .int .u64 t4] w fun v1 w2 => ∃ (y3 y4 : Int) (y5 : Bool) (y6 y7 y8 : Int) (y9 : Bool), v1 = .tuple #[.agg #[.int .u64 y3, .int .i64 y4, .bool y5, .int .u64 y6, .int .u64 y7, .int .i64 y8], .bool y9] ∧ newK w2 #[.int .u64 0, .int .i64 0, .bool false, .int .u64 0, .int .u64 0, .int .i64 0] 52 fun g10 w11 => stAll w11 g10 [.int .u64 y3, .int .i64 y4, .bool y5, .int .u64 y6, .int .u64 y7, .int .i64 y8] fun w12 => CallR Tryz.prog 31 #[.pointer t2, .int .u64 t4] w12 fun v13 w14 => ∃ (y15 y16 : Int) (y17 : Bool) (y18 y19 y20 : Int) (y21 : Bool), v13 = .tuple #[.agg #[.int .u64 y15, .int .i64 y16, .bool y17, .int .u64 y18, .int .u64 y19, .int .i64 y20], .bool y21] ∧ newK w14 #[.int .u64 0, .int .i64 0, .bool false, .int .u64 0, .int .u64 0, .int .i64 0] 52 fun g22 w23 => stAll w23 g22 [.int .u64 y15, .int .i64 y16, .bool y17, .int .u64 y18, .int .u64 y19, .int .i64 y20] fun w24 => bcase (y9 == y21) (ldI .u64 w24 (g10.add 0) fun x25 => ldI .i64 w24 (g10.add 1) fun x26 => ldB w24 (g10.add 2) fun x27 => ldI .u64 w24 (g10.add 3) fun x28 => ldI .u64 w24 (g10.add 4) fun x29 => ldI .i64 w24 (g10.add 5) fun x30 => ldI .u64 w24 (g22.add 0) fun x31 => ldI .i64 w24 (g22.add 1) fun x32 => ldB w24 (g22.add 2) fun x33 => ldI .u64 w24 (g22.add 3) fun x34 => ldI .u64 w24 (g22.add 4) fun x35 => ldI .i64 w24 (g22.add 5) fun x36 => CallR Tryz.prog 32 #[.agg #[.int .u64 x25, .int .i64 x26, .bool x27, .int .u64 x28, .int .u64 x29, .int .i64 x30], .agg #[.int .u64 x31, .int .i64 x32, .bool x33, .int .u64 x34, .int .u64 x35, .int .i64 x36]] w24 fun v37 w38 => ∃ (y39 : Bool), v37 = .bool y39 ∧ Q (.bool y39) w38) (Q (.bool false) w24)) (bcase (t93 == (8 : Int)) (CallR Tryz.prog 33 #[.pointer t0, .int .u64 t13] w fun v40 w41 => ∃ (y42 : Bool), v40 = .bool y42 ∧ CallR Tryz.prog 34 #[.pointer t2, .int .u64 t13] w41 fun v43 w44 => ∃ (y45 : Bool), v43 = .bool y45 ∧ Q (.bool (y42 == y45)) w44) (bcase (t93 == (9 : Int)) (CallR Tryz.prog 35 #[.pointer t0, .int .u64 t13] w fun v46 w47 => ∃ (y48 : Bool), v46 = .bool y48 ∧ CallR Tryz.prog 36 #[.pointer t2, .int .u64 t13] w47 fun v49 w50 => ∃ (y51 : Bool), v49 = .bool y51 ∧ Q (.bool (y48 == y51)) w50) (bcase (t93 == (10 : Int)) (ldI .u64 w (t8.add 6) fun x52 => (4 : Int) ≠ 0 ∧ bcase ((Int.tmod x52 (4 : Int)) == (0 : Int)) (CallR Tryz.prog 37 #[.pointer t0, .int .u64 t13] w fun v53 w54 => v53 = .tuple #[] ∧ CallR Tryz.prog 38 #[.pointer t2, .int .u64 t13] w54 fun v55 w56 => v55 = .tuple #[] ∧ Q (.bool true) w56) (Q (.bool true) w)) (bcase (t93 == (11 : Int)) (CallR Tryz.prog 25 #[.pointer t1, .int .i64 1, .int .i64 0] w fun v57 w58 => ∃ (y59 y60 : Int), v57 = .tuple #[.int .u64 y59, .int .i64 y60] ∧ optP t2 fun p61 => ldP w58 (p61.add 22) fun x62 => CallR Tryz.prog 26 #[.pointer x62, .int .i64 1, .int .i64 0] w58 fun v63 w64 => ∃ (y65 y66 : Int), v63 = .tuple #[.int .u64 y65, .int .i64 y66] ∧ bcase (y59 == y65) (Q (.bool (y60 == y66)) w64) (Q (.bool false) w64)) (bcase (t93 == (12 : Int)) (ldI .u64 w (t8.add 6) fun x67 => (5 : Int) ≠ 0 ∧ bcase ((Int.tmod x67 (5 : Int)) == (0 : Int)) (CallR Tryz.prog 39 #[.pointer t1, .int .u64 t13] w fun v68 w69 => ∃ (y70 : Int), v68 = .int .i64 y70 ∧ bcase (y70 == (0 : Int)) (optP t2 fun p71 => ldP w69 (p71.add 22) fun x72 => CallR Tryz.prog 40 #[.pointer x72, .int .u64 t13] w69 fun v73 w74 => ∃ (y75 : Int), v73 = .int .i64 y75 ∧ CallR Tryz.prog 37 #[.pointer t0, .int .u64 t13] w74 fun v76 w77 => v76 = .tuple #[] ∧ CallR Tryz.prog 38 #[.pointer t2, .int .u64 t13] w77 fun v78 w79 => v78 = .tuple #[] ∧ Q (.bool true) w79) (Q (.bool true) w69)) (Q (.bool true) w)) (ldI .i64 w (t12.add 0) fun x80 => ldI .i64 w (t12.add 1) fun x81 => ldI .i64 w (t12.add 2) fun x82 => ldI .u64 w (t12.add 3) fun x83 => ldI .u64 w (t12.add 4) fun x84 => ldI .i64 w (t12.add 5) fun x85 => ldI .i64 w (t12.add 6) fun x86 => ldI .i64 w (t12.add 7) fun x87 => ldI .i64 w (t12.add 8) fun x88 => ldI .u64 w (t12.add 9) fun x89 => ldSl w (t12.add 10) fun x90p x90n x90c => ldI .u64 w (t12.add 11) fun x91 => ldI .i64 w (t12.add 12) fun x92 => ldI .u64 w (t12.add 13) fun x93 => ldI .i64 w (t12.add 14) fun x94 => ldI .u64 w (t12.add 15) fun x95 => ldI .i64 w (t12.add 16) fun x96 => ldI .u64 w (t12.add 17) fun x97 => ldSl w (t12.add 18) fun x98p x98n x98c => ldB w (t8.add 7) fun x99 => CallR Tryz.prog 19 #[.pointer t0, .agg #[.int .i64 x80, .int .i64 x81, .int .i64 x82, .int .u64 x83, .int .u64 x84, .int .i64 x85, .int .i64 x86, .int .i64 x87, .int .i64 x88, .int .u64 x89, .slice x90p x90n x90c, .int .u64 x91, .int .i64 x92, .int .u64 x93, .int .i64 x94, .int .u64 x95, .int .i64 x96, .int .u64 x97, .slice x98p x98n x98c], .bool x99, .int .u64 t4] w fun v100 w101 => ∃ (y102 y103 y104 y105 y106 y107 y108 y109 y110 y111 : Int) (y112p : Option Addr) (y112n y112c : Nat) (y113 y114 y115 y116 y117 y118 y119 : Int) (y120p : Option Addr) (y120n y120c : Nat) (y121 y122 : Bool), v100 = .tuple #[.agg #[.int .i64 y102, .int .i64 y103, .int .i64 y104, .int .u64 y105, .int .u64 y106, .int .i64 y107, .int .i64 y108, .int .i64 y109, .int .i64 y110, .int .u64 y111, .slice y112p y112n y112c, .int .u64 y113, .int .i64 y114, .int .u64 y115, .int .i64 y116, .int .u64 y117, .int .i64 y118, .int .u64 y119, .slice y120p y120n y120c], .bool y121, .bool y122] ∧ newK w101 #[.int .i64 0, .int .i64 0, .int .i64 0, .int .u64 0, .int .u64 0, .int .i64 0, .int .i64 0, .int .i64 0, .int .i64 0, .int .u64 0, .slice none 0 0, .int .u64 0, .int .i64 0, .int .u64 0, .int .i64 0, .int .u64 0, .int .i64 0, .int .u64 0, .slice none 0 0] 41 fun g123 w124 => stAll w124 g123 [.int .i64 y102, .int .i64 y103, .int .i64 y104, .int .u64 y105, .int .u64 y106, .int .i64 y107, .int .i64 y108, .int .i64 y109, .int .i64 y110, .int .u64 y111, .slice y112p y112n y112c, .int .u64 y113, .int .i64 y114, .int .u64 y115, .int .i64 y116, .int .u64 y117, .int .i64 y118, .int .u64 y119, .slice y120p y120n y120c] fun w125 => ldI .i64 w125 (t12.add 0) fun x126 => ldI .i64 w125 (t12.add 1) fun x127 => ldI .i64 w125 (t12.add 2) fun x128 => ldI .u64 w125 (t12.add 3) fun x129 => ldI .u64 w125 (t12.add 4) fun x130 => ldI .i64 w125 (t12.add 5) fun x131 => ldI .i64 w125 (t12.add 6) fun x132 => ldI .i64 w125 (t12.add 7) fun x133 => ldI .i64 w125 (t12.add 8) fun x134 => ldI .u64 w125 (t12.add 9) fun x135 => ldSl w125 (t12.add 10) fun x136p x136n x136c => ldI .u64 w125 (t12.add 11) fun x137 => ldI .i64 w125 (t12.add 12) fun x138 => ldI .u64 w125 (t12.add 13) fun x139 => ldI .i64 w125 (t12.add 14) fun x140 => ldI .u64 w125 (t12.add 15) fun x141 => ldI .i64 w125 (t12.add 16) fun x142 => ldI .u64 w125 (t12.add 17) fun x143 => ldSl w125 (t12.add 18) fun x144p x144n x144c => ldB w125 (t8.add 7) fun x145 => CallR Tryz.prog 41 #[.pointer t2, .agg #[.int .i64 x126, .int .i64 x127, .int .i64 x128, .int .u64 x129, .int .u64 x130, .int .i64 x131, .int .i64 x132, .int .i64 x133, .int .i64 x134, .int .u64 x135, .slice x136p x136n x136c, .int .u64 x137, .int .i64 x138, .int .u64 x139, .int .i64 x140, .int .u64 x141, .int .i64 x142, .int .u64 x143, .slice x144p x144n x144c], .bool x145, .int .u64 t4] w125 fun v146 w147 => ∃ (y148 y149 y150 y151 y152 y153 y154 y155 y156 y157 : Int) (y158p : Option Addr) (y158n y158c : Nat) (y159 y160 y161 y162 y163 y164 y165 : Int) (y166p : Option Addr) (y166n y166c : Nat) (y167 y168 : Bool), v146 = .tuple #[.agg #[.int .i64 y148, .int .i64 y149, .int .i64 y150, .int .u64 y151, .int .u64 y152, .int .i64 y153, .int .i64 y154, .int .i64 y155, .int .i64 y156, .int .u64 y157, .slice y158p y158n y158c, .int .u64 y159, .int .i64 y160, .int .u64 y161, .int .i64 y162, .int .u64 y163, .int .i64 y164, .int .u64 y165, .slice y166p y166n y166c], .bool y167, .bool y168] ∧ newK w147 #[.int .i64 0, .int .i64 0, .int .i64 0, .int .u64 0, .int .u64 0, .int .i64 0, .int .i64 0, .int .i64 0, .int .i64 0, .int .u64 0, .slice none 0 0, .int .u64 0, .int .i64 0, .int .u64 0, .int .i64 0, .int .u64 0, .int .i64 0, .int .u64 0, .slice none 0 0] 41 fun g169 w170 => stAll w170 g169 [.int .i64 y148, .int .i64 y149, .int .i64 y150, .int .u64 y151, .int .u64 y152, .int .i64 y153, .int .i64 y154, .int .i64 y155, .int .i64 y156, .int .u64 y157, .slice y158p y158n y158c, .int .u64 y159, .int .i64 y160, .int .u64 y161, .int .i64 y162, .int .u64 y163, .int .i64 y164, .int .u64 y165, .slice y166p y166n y166c] fun w171 => bcase (y121 == y167) (bcase (y122 == y168) (ldI .i64 w171 (g123.add 0) fun x172 => ldI .i64 w171 (g123.add 1) fun x173 => ldI .i64 w171 (g123.add 2) fun x174 => ldI .u64 w171 (g123.add 3) fun x175 => ldI .u64 w171 (g123.add 4) fun x176 => ldI .i64 w171 (g123.add 5) fun x177 => ldI .i64 w171 (g123.add 6) fun x178 => ldI .i64 w171 (g123.add 7) fun x179 => ldI .i64 w171 (g123.add 8) fun x180 => ldI .u64 w171 (g123.add 9) fun x181 => ldSl w171 (g123.add 10) fun x182p x182n x182c => ldI .u64 w171 (g123.add 11) fun x183 => ldI .i64 w171 (g123.add 12) fun x184 => ldI .u64 w171 (g123.add 13) fun x185 => ldI .i64 w171 (g123.add 14) fun x186 => ldI .u64 w171 (g123.add 15) fun x187 => ldI .i64 w171 (g123.add 16) fun x188 => ldI .u64 w171 (g123.add 17) fun x189 => ldSl w171 (g123.add 18) fun x190p x190n x190c => ldI .i64 w171 (g169.add 0) fun x191 => ldI .i64 w171 (g169.add 1) fun x192 => ldI .i64 w171 (g169.add 2) fun x193 => ldI .u64 w171 (g169.add 3) fun x194 => ldI .u64 w171 (g169.add 4) fun x195 => ldI .i64 w171 (g169.add 5) fun x196 => ldI .i64 w171 (g169.add 6) fun x197 => ldI .i64 w171 (g169.add 7) fun x198 => ldI .i64 w171 (g169.add 8) fun x199 => ldI .u64 w171 (g169.add 9) fun x200 => ldSl w171 (g169.add 10) fun x201p x201n x201c => ldI .u64 w171 (g169.add 11) fun x202 => ldI .i64 w171 (g169.add 12) fun x203 => ldI .u64 w171 (g169.add 13) fun x204 => ldI .i64 w171 (g169.add 14) fun x205 => ldI .u64 w171 (g169.add 15) fun x206 => ldI .i64 w171 (g169.add 16) fun x207 => ldI .u64 w171 (g169.add 17) fun x208 => ldSl w171 (g169.add 18) fun x209p x209n x209c => CallR Tryz.prog 20 #[.agg #[.int .i64 x172, .int .i64 x173, .int .i64 x174, .int .u64 x175, .int .u64 x176, .int .i64 x177, .int .i64 x178, .int .i64 x179, .int .i64 x180, .int .u64 x181, .slice x182p x182n x182c, .int .u64 x183, .int .i64 x184, .int .u64 x185, .int .i64 x186, .int .u64 x187, .int .i64 x188, .int .u64 x189, .slice x190p x190n x190c], .agg #[.int .i64 x191, .int .i64 x192, .int .i64 x193, .int .u64 x194, .int .u64 x195, .int .i64 x196, .int .i64 x197, .int .i64 x198, .int .i64 x199, .int .u64 x200, .slice x201p x201n x201c, .int .u64 x202, .int .i64 x203, .int .u64 x204, .int .i64 x205, .int .u64 x206, .int .i64 x207, .int .u64 x208, .slice x209p x209n x209c]] w171 fun v210 w211 => ∃ (y212 : Bool), v210 = .bool y212 ∧ Q (.bool y212) w211) (Q (.bool false) w171)) (Q (.bool false) w171)))))))
def X11.j3 (Q : QT) (t0 t1 t2 : Option Addr) (t4 : Int) (t8 : Addr) (t11 : Int) (t12 : Addr) (t13 t93 : Int) (t94 : Bool) (w : World) : Prop := bcase t94 (ldB w (t8.add 8) fun x1 => bcase x1 (ldI .i64 w (t12.add 1) fun x2 => ldI .i64 w ((t12.add 8).add 0) fun x3 => ldI .u64 w ((t12.add 8).add 1) fun x4 => ldI .u64 w (t12.add 13) fun x5 => stAll w t12 [.int .i64 6, .int .i64 x2, .int .i64 t11, .int .u64 0, .int .u64 0, .int .i64 0, .int .i64 0, .int .i64 0, .int .i64 x3, .int .u64 x4, .slice none 0 0, .int .u64 0, .int .i64 0, .int .u64 x5, .int .i64 0, .int .u64 0, .int .i64 0, .int .u64 0, .slice none 0 0] fun w6 => X11.j1 Q t0 t2 t12 w6) (X11.j1 Q t0 t2 t12 w)) (bcase (t93 == (6 : Int)) (X11.j2 Q t0 t1 t2 t4 t8 t12 t13 t93 (t93 == (6 : Int)) w) (X11.j2 Q t0 t1 t2 t4 t8 t12 t13 t93 (t93 == (7 : Int)) w))
def X11.j4 (Q : QT) (t0 t1 t2 : Option Addr) (t4 : Int) (t8 : Addr) (t11 : Int) (t12 : Addr) (t13 : Int) (w : World) : Prop := ldI .i64 w (t8.add 0) fun x1 => CallR Tryz.prog 9 #[.int .i64 x1, .int .i64 13] w fun v2 w3 => ∃ (y4 : Int), v2 = .int .i64 y4 ∧ bcase (y4 == (4 : Int)) (X11.j3 Q t0 t1 t2 t4 t8 t11 t12 t13 y4 (y4 == (4 : Int)) w3) (X11.j3 Q t0 t1 t2 t4 t8 t11 t12 t13 y4 (y4 == (5 : Int)) w3)
def X11.j0 (Q : QT) (t0 t1 t2 : Option Addr) (t4 : Int) (t8 : Addr) (t11 : Int) (t12 : Addr) (t13 t14 : Int) (w : World) : Prop := drewK w fun w1 => ldI .u64 w1 (t8.add 5) fun x2 => (9 : Int) ≠ 0 ∧ ldI .i64 w1 (t8.add 2) fun x3 => optP t2 fun p4 => ldI .i64 w1 ((p4.add 0).add 0) fun x5 => CallR Tryz.prog 9 #[.int .i64 x3, .int .i64 x5] w1 fun v6 w7 => ∃ (y8 : Int), v6 = .int .i64 y8 ∧ (World.cell? w1 (t8.add 5) = some (.int .u64 x2) ∧ World.cell? w7 (t8.add 5) = some (.int .u64 x2)) ∧ ldI .i64 w7 (t8.add 3) fun x9 => (World.cell? w1 (t8.add 3) = some (.int .i64 x9) ∧ World.cell? w7 (t8.add 3) = some (.int .i64 x9)) ∧ CallR Tryz.prog 9 #[.int .i64 x9, .int .i64 40] w7 fun v10 w11 => ∃ (y12 : Int), v10 = .int .i64 y12 ∧ (World.cell? w7 (t8.add 5) = some (.int .u64 x2) ∧ World.cell? w11 (t8.add 5) = some (.int .u64 x2)) ∧ CallR Tryz.prog 18 #[.int .i64 t14, .int .i64 t11, .int .u64 t13, .int .u64 (IntKind.wrap .u64 ((1 : Int) + (Int.tmod x2 (9 : Int)))), .int .i64 (IntKind.wrap .i64 ((1 : Int) + y8)), .int .i64 (IntKind.wrap .i64 ((1 : Int) + y12))] w11 fun v13 w14 => ∃ (y15 y16 y17 y18 y19 y20 y21 y22 y23 y24 : Int) (y25p : Option Addr) (y25n y25c : Nat) (y26 y27 y28 y29 y30 y31 y32 : Int) (y33p : Option Addr) (y33n y33c : Nat), v13 = .agg #[.int .i64 y15, .int .i64 y16, .int .i64 y17, .int .u64 y18, .int .u64 y19, .int .i64 y20, .int .i64 y21, .int .i64 y22, .int .i64 y23, .int .u64 y24, .slice y25p y25n y25c, .int .u64 y26, .int .i64 y27, .int .u64 y28, .int .i64 y29, .int .u64 y30, .int .i64 y31, .int .u64 y32, .slice y33p y33n y33c] ∧ stAll w14 t12 [.int .i64 y15, .int .i64 y16, .int .i64 y17, .int .u64 y18, .int .u64 y19, .int .i64 y20, .int .i64 y21, .int .i64 y22, .int .i64 y23, .int .u64 y24, .slice y25p y25n y25c, .int .u64 y26, .int .i64 y27, .int .u64 y28, .int .i64 y29, .int .u64 y30, .int .i64 y31, .int .u64 y32, .slice y33p y33n y33c] fun w34 => X11.j4 Q t0 t1 t2 t4 t8 t11 t12 t13 w34
def X11.f (a0 a1 a2 : Option Addr) (a3_0 a3_1 a3_2 a3_3 a3_4 a3_5 a3_6 : Int) (a3_7 a3_8 : Bool) (a3_9 a3_10 a3_11 a3_12 a3_13 a3_14 a3_15 a3_16 a3_17 a3_18 : Int) (a3_19p : Option Addr) (a3_19n a3_19c : Nat) (a3_20 a3_21 a3_22 a3_23 a3_24 a3_25 a3_26 : Int) (a3_27p : Option Addr) (a3_27n a3_27c : Nat) (a4 : Int) (w : World) (Q : QT) : Prop := newK w #[.int .i64 a3_0, .int .i64 a3_1, .int .i64 a3_2, .int .i64 a3_3, .int .u64 a3_4, .int .u64 a3_5, .int .u64 a3_6, .bool a3_7, .bool a3_8, .int .i64 a3_9, .int .i64 a3_10, .int .i64 a3_11, .int .u64 a3_12, .int .u64 a3_13, .int .i64 a3_14, .int .i64 a3_15, .int .i64 a3_16, .int .i64 a3_17, .int .u64 a3_18, .slice a3_19p a3_19n a3_19c, .int .u64 a3_20, .int .i64 a3_21, .int .u64 a3_22, .int .i64 a3_23, .int .u64 a3_24, .int .i64 a3_25, .int .u64 a3_26, .slice a3_27p a3_27n a3_27c] 43 fun g1 w2 => optP a2 fun p3 => ldP w2 (p3.add 22) fun x4 => optP x4 fun p5 => ldI .i64 w2 (p5.add 0) fun x6 => ldI .i64 w2 ((g1.add 9).add 0) fun x7 => ldI .i64 w2 ((g1.add 9).add 1) fun x8 => ldI .i64 w2 ((g1.add 9).add 2) fun x9 => ldI .u64 w2 ((g1.add 9).add 3) fun x10 => ldI .u64 w2 ((g1.add 9).add 4) fun x11 => ldI .i64 w2 ((g1.add 9).add 5) fun x12 => ldI .i64 w2 ((g1.add 9).add 6) fun x13 => ldI .i64 w2 ((g1.add 9).add 7) fun x14 => ldI .i64 w2 ((g1.add 9).add 8) fun x15 => ldI .u64 w2 ((g1.add 9).add 9) fun x16 => ldSl w2 ((g1.add 9).add 10) fun x17p x17n x17c => ldI .u64 w2 ((g1.add 9).add 11) fun x18 => ldI .i64 w2 ((g1.add 9).add 12) fun x19 => ldI .u64 w2 ((g1.add 9).add 13) fun x20 => ldI .i64 w2 ((g1.add 9).add 14) fun x21 => ldI .u64 w2 ((g1.add 9).add 15) fun x22 => ldI .i64 w2 ((g1.add 9).add 16) fun x23 => ldI .u64 w2 ((g1.add 9).add 17) fun x24 => ldSl w2 ((g1.add 9).add 18) fun x25p x25n x25c => newK w2 #[.int .i64 0, .int .i64 0, .int .i64 0, .int .u64 0, .int .u64 0, .int .i64 0, .int .i64 0, .int .i64 0, .int .i64 0, .int .u64 0, .slice none 0 0, .int .u64 0, .int .i64 0, .int .u64 0, .int .i64 0, .int .u64 0, .int .i64 0, .int .u64 0, .slice none 0 0] 41 fun g26 w27 => stAll w27 g26 [.int .i64 x7, .int .i64 x8, .int .i64 x9, .int .u64 x10, .int .u64 x11, .int .i64 x12, .int .i64 x13, .int .i64 x14, .int .i64 x15, .int .u64 x16, .slice x17p x17n x17c, .int .u64 x18, .int .i64 x19, .int .u64 x20, .int .i64 x21, .int .u64 x22, .int .i64 x23, .int .u64 x24, .slice x25p x25n x25c] fun w28 => ldI .u64 w28 (g1.add 4) fun x29 => ldB w28 (g1.add 8) fun x30 => bcase x30 (ldI .u64 w28 (g1.add 4) fun x31 => (7 : Int) ≠ 0 ∧ drewK w28 fun w32 => ldI .i64 w32 (g1.add 1) fun x33 => optP a2 fun p34 => ldI .i64 w32 ((p34.add 0).add 0) fun x35 => CallR Tryz.prog 9 #[.int .i64 x33, .int .i64 x35] w32 fun v36 w37 => ∃ (y38 : Int), v36 = .int .i64 y38 ∧ bcase ((IntKind.wrap .i64 ((1 : Int) + y38)) == x6) (optP a2 fun p39 => ldI .i64 w37 ((p39.add 0).add 0) fun x40 => x40 ≠ 0 ∧ X11.j0 Q a0 a1 a2 a4 g1 x6 g26 (IntKind.wrap .u64 ((1 : Int) + (Int.tmod x31 (7 : Int)))) (IntKind.wrap .i64 ((1 : Int) + (Int.tmod (IntKind.wrap .i64 ((1 : Int) + y38)) x40))) w37) (X11.j0 Q a0 a1 a2 a4 g1 x6 g26 (IntKind.wrap .u64 ((1 : Int) + (Int.tmod x31 (7 : Int)))) (IntKind.wrap .i64 ((1 : Int) + y38)) w37)) (X11.j4 Q a0 a1 a2 a4 g1 x6 g26 x29 w28)
def X11.S (Q : QT) : Segs
  | 0, φ, ρ, w => qP (ρ 0) fun t0 => qP (ρ 1) fun t1 => qP (ρ 2) fun t2 => qI .u64 (ρ 4) fun t4 => qA (ρ 8) fun t8 => qI .i64 (ρ 11) fun t11 => qA (ρ 12) fun t12 => qI .u64 (ρ 13) fun t13 => qI .i64 (ρ 14) fun t14 => X11.j0 Q t0 t1 t2 t4 t8 t11 t12 t13 t14 w
  | 1, φ, ρ, w => qP (ρ 0) fun t0 => qP (ρ 2) fun t2 => qA (ρ 12) fun t12 => X11.j1 Q t0 t2 t12 w
  | 2, φ, ρ, w => qP (ρ 0) fun t0 => qP (ρ 1) fun t1 => qP (ρ 2) fun t2 => qI .u64 (ρ 4) fun t4 => qA (ρ 8) fun t8 => qA (ρ 12) fun t12 => qI .u64 (ρ 13) fun t13 => qI .i64 (ρ 93) fun t93 => qB (ρ 127) fun t127 => X11.j2 Q t0 t1 t2 t4 t8 t12 t13 t93 t127 w
  | 3, φ, ρ, w => qP (ρ 0) fun t0 => qP (ρ 1) fun t1 => qP (ρ 2) fun t2 => qI .u64 (ρ 4) fun t4 => qA (ρ 8) fun t8 => qI .i64 (ρ 11) fun t11 => qA (ρ 12) fun t12 => qI .u64 (ρ 13) fun t13 => qI .i64 (ρ 93) fun t93 => qB (ρ 94) fun t94 => X11.j3 Q t0 t1 t2 t4 t8 t11 t12 t13 t93 t94 w
  | 4, φ, ρ, w => qP (ρ 0) fun t0 => qP (ρ 1) fun t1 => qP (ρ 2) fun t2 => qI .u64 (ρ 4) fun t4 => qA (ρ 8) fun t8 => qI .i64 (ρ 11) fun t11 => qA (ρ 12) fun t12 => qI .u64 (ρ 13) fun t13 => X11.j4 Q t0 t1 t2 t4 t8 t11 t12 t13 w
  | _, _, _, _ => False
noncomputable def X11.an : Ann := (.seq .leaf (.seq .leaf (.seq .leaf (.seq .leaf (.seq (.seq .leaf (.cond (.seq .leaf (.seq (.draw [0, 1, 0, 4, 12, 28, 60, 127, 255, 511] [[0, 1, 2, 3, 4, 5, 6, 7, 8, 9]]) (.seq (.seq .leaf (.cond .leaf .leaf)) (.join 0 (.draw [0, 0, 0, 0, 8, 24, 56, 0, 128, 0, 512, 1536, 3584, 7680, 16256, 32640, 0, 65536, 229248, 491392, 1048575, 2097151] [[0, 1, 2, 3, 4, 5, 6, 7, 8, 9, 10, 11, 12, 13, 14, 15, 16, 17, 18, 19, 20, 21]]))))) .leaf)) (.join 4 (.seq (.seq .leaf (.block (.seq (.seq .leaf (.cond .leaf .leaf)) (.join 3 (.cond (.seq (.seq .leaf (.cond .leaf .leaf)) (.join 1 (.seq .leaf (.seq .leaf (.seq .leaf .leaf))))) (.seq (.seq .leaf (.cond .leaf .leaf)) (.join 2 (.cond (.seq .leaf (.seq .leaf (.seq .leaf .leaf))) (.seq .leaf (.cond (.seq .leaf .leaf) (.seq .leaf (.cond (.seq .leaf .leaf) (.seq .leaf (.cond (.seq (.seq .leaf (.cond (.seq .leaf .leaf) .leaf)) (.seq .leaf .leaf)) (.seq .leaf (.cond (.seq .leaf (.seq .leaf (.seq .leaf .leaf))) (.seq .leaf (.cond (.seq (.seq .leaf (.cond (.seq .leaf (.seq .leaf .leaf)) .leaf)) (.seq .leaf .leaf)) .leaf)))))))))))))))))) (.seq .leaf (.seq .leaf (.seq .leaf .leaf))))))))))
noncomputable def X11.c : Code := Tryz.f11.body.getD .skip
theorem X11.v (Q : QT) : V Tryz.prog (X11.S Q) X11.an X11.c (retC Tryz.prog Tryz.f11 Q) := ⟨trivial, ⟨trivial, ⟨trivial, ⟨trivial, ⟨⟨trivial, ⟨⟨trivial, ⟨trivial, ⟨⟨trivial, ⟨trivial, trivial⟩⟩, ⟨(by
    intro φ ρ w h
    simp only [X11.S] at h
    obtain ⟨t0, e0, h⟩ := qP_elim h
    obtain ⟨t1, e1, h⟩ := qP_elim h
    obtain ⟨t2, e2, h⟩ := qP_elim h
    obtain ⟨t4, e4, h⟩ := qI_elim h
    obtain ⟨t8, e8, h⟩ := qA_elim h
    obtain ⟨t11, e11, h⟩ := qI_elim h
    obtain ⟨t12, e12, h⟩ := qA_elim h
    obtain ⟨t13, e13, h⟩ := qI_elim h
    obtain ⟨t14, e14, h⟩ := qI_elim h
    exact ⟨(((((((((Env.nil.put (some 0) (.pointer t0)).put (some 1) (.pointer t1)).put (some 2) (.pointer t2)).put (some 4) (.int .u64 t4)).put (some 8) (.pointer (some t8))).put (some 11) (.int .i64 t11)).put (some 12) (.pointer (some t12))).put (some 13) (.int .u64 t13)).put (some 14) (.int .i64 t14)), Env.le_put e14 (Env.le_put e13 (Env.le_put e12 (Env.le_put e11 (Env.le_put e8 (Env.le_put e4 (Env.le_put e2 (Env.le_put e1 (Env.le_put e0 (Env.le_nil _))))))))), Eq.mp (by kernel_rfl) h⟩), trivial⟩⟩⟩⟩, trivial⟩⟩, ⟨(by
    intro φ ρ w h
    simp only [X11.S] at h
    obtain ⟨t0, e0, h⟩ := qP_elim h
    obtain ⟨t1, e1, h⟩ := qP_elim h
    obtain ⟨t2, e2, h⟩ := qP_elim h
    obtain ⟨t4, e4, h⟩ := qI_elim h
    obtain ⟨t8, e8, h⟩ := qA_elim h
    obtain ⟨t11, e11, h⟩ := qI_elim h
    obtain ⟨t12, e12, h⟩ := qA_elim h
    obtain ⟨t13, e13, h⟩ := qI_elim h
    exact ⟨((((((((Env.nil.put (some 0) (.pointer t0)).put (some 1) (.pointer t1)).put (some 2) (.pointer t2)).put (some 4) (.int .u64 t4)).put (some 8) (.pointer (some t8))).put (some 11) (.int .i64 t11)).put (some 12) (.pointer (some t12))).put (some 13) (.int .u64 t13)), Env.le_put e13 (Env.le_put e12 (Env.le_put e11 (Env.le_put e8 (Env.le_put e4 (Env.le_put e2 (Env.le_put e1 (Env.le_put e0 (Env.le_nil _)))))))), Eq.mp (by kernel_rfl) h⟩), ⟨⟨trivial, ⟨⟨trivial, ⟨trivial, trivial⟩⟩, ⟨(by
    intro φ ρ w h
    simp only [X11.S] at h
    obtain ⟨t0, e0, h⟩ := qP_elim h
    obtain ⟨t1, e1, h⟩ := qP_elim h
    obtain ⟨t2, e2, h⟩ := qP_elim h
    obtain ⟨t4, e4, h⟩ := qI_elim h
    obtain ⟨t8, e8, h⟩ := qA_elim h
    obtain ⟨t11, e11, h⟩ := qI_elim h
    obtain ⟨t12, e12, h⟩ := qA_elim h
    obtain ⟨t13, e13, h⟩ := qI_elim h
    obtain ⟨t93, e93, h⟩ := qI_elim h
    obtain ⟨t94, e94, h⟩ := qB_elim h
    exact ⟨((((((((((Env.nil.put (some 0) (.pointer t0)).put (some 1) (.pointer t1)).put (some 2) (.pointer t2)).put (some 4) (.int .u64 t4)).put (some 8) (.pointer (some t8))).put (some 11) (.int .i64 t11)).put (some 12) (.pointer (some t12))).put (some 13) (.int .u64 t13)).put (some 93) (.int .i64 t93)).put (some 94) (.bool t94)), Env.le_put e94 (Env.le_put e93 (Env.le_put e13 (Env.le_put e12 (Env.le_put e11 (Env.le_put e8 (Env.le_put e4 (Env.le_put e2 (Env.le_put e1 (Env.le_put e0 (Env.le_nil _)))))))))), Eq.mp (by kernel_rfl) h⟩), ⟨⟨⟨trivial, ⟨trivial, trivial⟩⟩, ⟨(by
    intro φ ρ w h
    simp only [X11.S] at h
    obtain ⟨t0, e0, h⟩ := qP_elim h
    obtain ⟨t2, e2, h⟩ := qP_elim h
    obtain ⟨t12, e12, h⟩ := qA_elim h
    exact ⟨(((Env.nil.put (some 0) (.pointer t0)).put (some 2) (.pointer t2)).put (some 12) (.pointer (some t12))), Env.le_put e12 (Env.le_put e2 (Env.le_put e0 (Env.le_nil _))), Eq.mp (by kernel_rfl) h⟩), ⟨trivial, ⟨trivial, ⟨trivial, trivial⟩⟩⟩⟩⟩, ⟨⟨trivial, ⟨trivial, trivial⟩⟩, ⟨(by
    intro φ ρ w h
    simp only [X11.S] at h
    obtain ⟨t0, e0, h⟩ := qP_elim h
    obtain ⟨t1, e1, h⟩ := qP_elim h
    obtain ⟨t2, e2, h⟩ := qP_elim h
    obtain ⟨t4, e4, h⟩ := qI_elim h
    obtain ⟨t8, e8, h⟩ := qA_elim h
    obtain ⟨t12, e12, h⟩ := qA_elim h
    obtain ⟨t13, e13, h⟩ := qI_elim h
    obtain ⟨t93, e93, h⟩ := qI_elim h
    obtain ⟨t127, e127, h⟩ := qB_elim h
    exact ⟨(((((((((Env.nil.put (some 0) (.pointer t0)).put (some 1) (.pointer t1)).put (some 2) (.pointer t2)).put (some 4) (.int .u64 t4)).put (some 8) (.pointer (some t8))).put (some 12) (.pointer (some t12))).put (some 13) (.int .u64 t13)).put (some 93) (.int .i64 t93)).put (some 127) (.bool t127)), Env.le_put e127 (Env.le_put e93 (Env.le_put e13 (Env.le_put e12 (Env.le_put e8 (Env.le_put e4 (Env.le_put e2 (Env.le_put e1 (Env.le_put e0 (Env.le_nil _))))))))), Eq.mp (by kernel_rfl) h⟩), ⟨⟨trivial, ⟨trivial, ⟨trivial, trivial⟩⟩⟩, ⟨trivial, ⟨⟨trivial, trivial⟩, ⟨trivial, ⟨⟨trivial, trivial⟩, ⟨trivial, ⟨⟨⟨trivial, ⟨⟨trivial, trivial⟩, trivial⟩⟩, ⟨trivial, trivial⟩⟩, ⟨trivial, ⟨⟨trivial, ⟨trivial, ⟨trivial, trivial⟩⟩⟩, ⟨trivial, ⟨⟨⟨trivial, ⟨⟨trivial, ⟨trivial, trivial⟩⟩, trivial⟩⟩, ⟨trivial, trivial⟩⟩, trivial⟩⟩⟩⟩⟩⟩⟩⟩⟩⟩⟩⟩⟩⟩⟩⟩⟩, ⟨trivial, ⟨trivial, ⟨trivial, trivial⟩⟩⟩⟩⟩⟩⟩⟩⟩⟩
theorem X11.sound (a0 a1 a2 : Option Addr) (a3_0 a3_1 a3_2 a3_3 a3_4 a3_5 a3_6 : Int) (a3_7 a3_8 : Bool) (a3_9 a3_10 a3_11 a3_12 a3_13 a3_14 a3_15 a3_16 a3_17 a3_18 : Int) (a3_19p : Option Addr) (a3_19n a3_19c : Nat) (a3_20 a3_21 a3_22 a3_23 a3_24 a3_25 a3_26 : Int) (a3_27p : Option Addr) (a3_27n a3_27c : Nat) (a4 : Int) (w : World) (Q : QT) (h : X11.f a0 a1 a2 a3_0 a3_1 a3_2 a3_3 a3_4 a3_5 a3_6 a3_7 a3_8 a3_9 a3_10 a3_11 a3_12 a3_13 a3_14 a3_15 a3_16 a3_17 a3_18 a3_19p a3_19n a3_19c a3_20 a3_21 a3_22 a3_23 a3_24 a3_25 a3_26 a3_27p a3_27n a3_27c a4 w Q) : CallR Tryz.prog 11 #[.pointer a0, .pointer a1, .pointer a2, .agg #[.int .i64 a3_0, .int .i64 a3_1, .int .i64 a3_2, .int .i64 a3_3, .int .u64 a3_4, .int .u64 a3_5, .int .u64 a3_6, .bool a3_7, .bool a3_8, .int .i64 a3_9, .int .i64 a3_10, .int .i64 a3_11, .int .u64 a3_12, .int .u64 a3_13, .int .i64 a3_14, .int .i64 a3_15, .int .i64 a3_16, .int .i64 a3_17, .int .u64 a3_18, .slice a3_19p a3_19n a3_19c, .int .u64 a3_20, .int .i64 a3_21, .int .u64 a3_22, .int .i64 a3_23, .int .u64 a3_24, .int .i64 a3_25, .int .u64 a3_26, .slice a3_27p a3_27n a3_27c], .int .u64 a4] w Q :=
  fn_sound noGr mixed Tryz.func11 (c := X11.c) (an := X11.an) (S := X11.S Q) (φ := fun _ => 0) (args := [.pointer a0, .pointer a1, .pointer a2, .agg #[.int .i64 a3_0, .int .i64 a3_1, .int .i64 a3_2, .int .i64 a3_3, .int .u64 a3_4, .int .u64 a3_5, .int .u64 a3_6, .bool a3_7, .bool a3_8, .int .i64 a3_9, .int .i64 a3_10, .int .i64 a3_11, .int .u64 a3_12, .int .u64 a3_13, .int .i64 a3_14, .int .i64 a3_15, .int .i64 a3_16, .int .i64 a3_17, .int .u64 a3_18, .slice a3_19p a3_19n a3_19c, .int .u64 a3_20, .int .i64 a3_21, .int .u64 a3_22, .int .i64 a3_23, .int .u64 a3_24, .int .i64 a3_25, .int .u64 a3_26, .slice a3_27p a3_27n a3_27c], .int .u64 a4]) (by kernel_rfl) (by kernel_rfl) (by kernel_rfl) (X11.v Q) (Eq.mp (by kernel_rfl) h)
def X38.l0 (Q : QT) : Nat → (Option Addr) → Int → Int → World → Prop
  | 0, _, _, _, _ => False
  | k + 1, t0, t1, t4, w => bcase (decide (t4 ≤ (64 : Int))) (drewK w fun w1 => optP t0 fun p2 => CallR Tryz.prog 65 #[.int .u64 t1, .int .i64 t4] w1 fun v3 w4 => ∃ (y5 : Int), v3 = .int .u64 y5 ∧ CallR Tryz.prog 76 #[.pointer (some (p2.add 23)), .int .u64 y5] w4 fun v6 w7 => ∃ (y8 : Bool), v6 = .bool y8 ∧ X38.l0 Q k t0 t1 (IntKind.wrap .i64 (t4 + (1 : Int))) w7) (CallR Tryz.prog 68 #[.pointer t0, .int .u64 t1] w fun v9 w10 => v9 = .tuple #[] ∧ Q (.tuple #[]) w10)
def X38.f (a0 : Option Addr) (a1 : Int) (w : World) (Q : QT) : Prop := bcase (decide (a1 > (72057594037927935 : Int))) (Q (.tuple #[]) w) (CallR Tryz.prog 74 #[.pointer a0, .int .u64 a1] w fun v1 w2 => v1 = .tuple #[] ∧ ∃ m3, X38.l0 Q m3 a0 a1 (0 : Int) w2)
def X38.S (Q : QT) : Segs
  | 0, φ, ρ, w => qP (ρ 0) fun t0 => qI .u64 (ρ 1) fun t1 => qI .i64 (ρ 4) fun t4 => X38.l0 Q (φ 0) t0 t1 t4 w
  | _, _, _, _ => False
noncomputable def X38.an : Ann := (.seq (.seq .leaf (.cond .leaf .leaf)) (.seq .leaf (.seq (.seq .leaf (.block (.loop 0 (.seq (.seq .leaf (.cond .leaf .leaf)) (.seq (.block (.draw [0, 1, 3, 0, 0, 24, 63] [[0, 1, 2, 3, 4, 5, 6]])) .leaf))))) .leaf)))
noncomputable def X38.c : Code := Tryz.f38.body.getD .skip
theorem X38.v (Q : QT) : V Tryz.prog (X38.S Q) X38.an X38.c (retC Tryz.prog Tryz.f38 Q) := ⟨⟨trivial, ⟨trivial, trivial⟩⟩, ⟨trivial, ⟨⟨trivial, ⟨(by
    intro φ ρ w h
    simp only [X38.S] at h
    obtain ⟨t0, e0, h⟩ := qP_elim h
    obtain ⟨t1, e1, h⟩ := qI_elim h
    obtain ⟨t4, e4, h⟩ := qI_elim h
    cases hk : φ 0 with
    | zero => rw [hk] at h; exact h.elim
    | succ k => rw [hk] at h; exact ⟨k, Nat.lt_succ_self k, (((Env.nil.put (some 0) (.pointer t0)).put (some 1) (.int .u64 t1)).put (some 4) (.int .i64 t4)), Env.le_put e4 (Env.le_put e1 (Env.le_put e0 (Env.le_nil _))), Eq.mp (by kernel_rfl) h⟩), ⟨⟨trivial, ⟨trivial, trivial⟩⟩, ⟨trivial, trivial⟩⟩⟩⟩, trivial⟩⟩⟩
theorem X38.sound (a0 : Option Addr) (a1 : Int) (w : World) (Q : QT) (h : X38.f a0 a1 w Q) : CallR Tryz.prog 38 #[.pointer a0, .int .u64 a1] w Q :=
  fn_sound noGr mixed Tryz.func38 (c := X38.c) (an := X38.an) (S := X38.S Q) (φ := fun _ => 0) (args := [.pointer a0, .int .u64 a1]) (by kernel_rfl) (by kernel_rfl) (by kernel_rfl) (X38.v Q) (Eq.mp (by kernel_rfl) h)
end Go.Proofs.YtnjmkhhaodgpbaaGreatX
namespace Go.Proofs.YtnjmkhhaodgpbaaGreatX
open Go.RowKit
set_option maxRecDepth 100000
section
variable {w w' w2 w3 W : World} {Q : QT} {gr b : Nat} {xr : RHB} {ft ft' ft0 fh fh' rt rt' F L L' : List Nat} {S S' : Sc} {pk pv bp pk' pv' : Option Addr} {ck cv bc ck' cv' : Nat} {s k now : Int} {r : Scn} {m : Msg} {rp lp : Option Addr} {rc lc n : Nat} {v : Value} {cs vs : List Value} {t3 t4 t7 : Nat} {o : Option Scn}
structure CB (w : World) (t3 t4 t7 : Nat) (m : Msg) (rp : Option Addr) (rc : Nat) (lp : Option Addr) (lc : Nat) (r : Scn) : Prop where
  b3 : Blk w t3 (m.cells rp rc lp lc) 41
  b4 : ∃ cs, Blk w t4 cs 41 ∧ cs.length = 19
  b7 : Blk w t7 r.cells 52
  ne : t3 ≠ t4 ∧ t3 ≠ t7 ∧ t4 ≠ t7
theorem CB.keep (D : CB w t3 t4 t7 m rp rc lp lc r) (f : Fr F w w') (h : ∀ y ∈ [t3, t4, t7], y ∉ F) : CB w' t3 t4 t7 m rp rc lp lc r := by
  obtain ⟨cs, b4, hl⟩ := D.b4
  exact ⟨D.b3.keep f (h _ (by simp)), ⟨cs, b4.keep f (h _ (by simp)), hl⟩, D.b7.keep f (h _ (by simp)), D.ne⟩
theorem CB.keep' (D : CB w t3 t4 t7 m rp rc lp lc r) (f : Fr [] w w') : CB w' t3 t4 t7 m rp rc lp lc r := D.keep f (by simp)
theorem CB.c8 (D : CB w t3 t4 t7 m rp rc lp lc r) : w.cell? (((at0 t3 0).add 8).add 0) = some (.int .i64 m.tn) := by rw [add_add]; exact D.b3.cat 8 _ rfl
theorem CB.c9 (D : CB w t3 t4 t7 m rp rc lp lc r) : w.cell? (((at0 t3 0).add 8).add 1) = some (.int .u64 m.ts) := by rw [add_add]; exact D.b3.cat 9 _ rfl
theorem rclean_j0f (h : SD W w ft0 gr xr ft S [t3, t4, t7]) (D : CB w t3 t4 t7 m rp rc lp lc r) (hQ : AftD W gr xr ft0 S (res2 (cleanedM m) true) Q) : X29.j0 Q (some (at0 gr 0)) (at0 t3 0) (at0 t4 0) k (at0 t7 0) false w := by
  unfold X29.j0
  obtain ⟨cs, b4, hcl⟩ := D.b4
  refine bc_bool (fun e => by cases e) (fun _ => ld_int (D.b3.cat 2 _ rfl) (ld_int (D.b3.cat 1 _ rfl) (ld_int D.c8 (ld_int D.c9 (ld_int (D.b3.cat 13 _ rfl) (stAllB (vs := (cleanedM m).cells none 0 none 0) b4 hcl.symm fun w5 b5 f5 => ld_msgA (m := cleanedM m) b5 ?_))))))
  exact (h.loc f5 (by simp)).done hQ
theorem rclean_j0t (h : SD W w ft0 gr xr ft S [t3, t4, t7]) (D : CB w t3 t4 t7 m rp rc lp lc r) (hl : S.rows.length < 4096) (hr : okRow (withS r m)) (hk : k = keyS r.serial r.holder) (hQ : AftD W gr xr ft0 (putS S (withS r m)) (res2 (cleanedM m) true) Q) : X29.j0 Q (some (at0 gr 0)) (at0 t3 0) (at0 t4 0) k (at0 t7 0) true w := by
  unfold X29.j0
  obtain ⟨n1, n2, n3⟩ := D.ne
  obtain ⟨cs, b4, hcl⟩ := D.b4
  refine bc_bool (fun _ => ?_) (fun e => by cases e)
  refine stB (i := 2) D.b7 (show 2 < 6 by omega) fun w1 b1 f1 => ld_int ((D.b3.off1 n2 f1).cat 13 _ rfl) (stB (i := 3) b1 (show 3 < 6 by omega) fun w3 b3 f3 => ?_)
  have b3 : Blk w3 t7 (withS r m).cells 52 := b3
  have h3 := (h.loc f1 (by simp)).loc f3 (by simp)
  have D3 : CB w3 t3 t4 t7 m rp rc lp lc (withS r m) := ⟨(D.b3.off1 n2 f1).off1 n2 f3, ⟨cs, (b4.off1 n3 f1).off1 n3 f3, hcl⟩, b3, D.ne⟩
  refine drawn fun w4 f4 _ => ?_
  have h4 := h3.keep f4
  have D4 := D3.keep' f4
  refine opt_some rfl (ld_Scn (s := withS r m) D4.b7.cat ?_)
  rw [hk]
  refine rputr_spec (r := withS r m) h4.P hl hr fun ft2 w5 P2 f5 e2 => ⟨_, rfl, ?_⟩
  have h5 := h4.next P2 f5 e2
  have D5 := D4.keep f5 (fun y hy => h4.off hy)
  refine ld_int (D5.b7.cat 0 _ rfl) (rkeep_spec h5.P fun ft3 w6 P3 f6 e3 => ⟨rfl, ?_⟩)
  have h6 := h5.next P3 f6 e3
  have D6 := D5.keep f6 (fun y hy => h5.off hy)
  obtain ⟨cs', b4', hcl'⟩ := D6.b4
  refine ld_int (D6.b3.cat 2 _ rfl) (ld_int (D6.b3.cat 1 _ rfl) (ld_int D6.c8 (ld_int D6.c9 (ld_int (D6.b3.cat 13 _ rfl) (stAllB (vs := (cleanedM m).cells none 0 none 0) b4' hcl'.symm fun w7 b7 f7 => ld_msgA (m := cleanedM m) b7 ?_)))))
  exact (h6.loc f7 (by simp)).done hQ
theorem rclean_j1 (h : SD W w ft0 gr xr ft S [t3, t4, t7]) (D : CB w t3 t4 t7 m rp rc lp lc (o.getD scnZ)) (V : SV n S) (hn : n < 4096) (hm : mineS S m 6) (ho : get ilt S.rows (keyS m.ts m.frm) = o) (h1 : ∀ r, o = some r → ¬ r.seq > m.seq) (hQ : AftD W gr xr ft0 (cleanR S m).1 (res2 (cleanR S m).2.1 (cleanR S m).2.2) Q) :
    X29.j1 Q (some (at0 gr 0)) (at0 t3 0) (at0 t4 0) (keyS m.ts m.frm) (at0 t7 0) o.isSome w := by
  unfold X29.j1
  have hl : S.rows.length < 4096 := by have := V.rl; omega
  refine drawn fun w1 f1 _ => ?_
  have hw := h.keep f1
  have D1 := D.keep' f1
  unfold cleanR at hQ
  rw [ho] at hQ
  cases o with
  | some q =>
    simp only [] at hQ
    rw [if_neg (h1 q rfl)] at hQ
    have hk := get_key V.ri ho
    exact bc_bool (fun e => by cases e) (fun _ => rclean_j0t (r := q) hw D1 hl hk.1 hk.2.symm hQ)
  | none =>
    simp only [] at hQ
    obtain ⟨j1, j2⟩ := mine6 hm
    have P1 := hw.P
    obtain ⟨fh, rt, pk, pv, ck, cv, bp, bc, t1⟩ := P1
    refine bc_bool (fun _ => opt_some rfl (ld_ptr t1.c22 (ld_int D1.c9 (rgetS_spec t1.heap fun p hp => ⟨_, rfl, ?_⟩)))) (fun e => by cases e)
    cases hp' : p with
    | none =>
      rw [hp'] at hp
      rw [if_neg (by rw [← hp]; decide)] at hQ
      exact bc_bool (fun e => by cases e) (fun _ => rclean_j0f hw D1 hQ)
    | some q =>
      rw [hp'] at hp
      rw [if_pos (by rw [← hp]; rfl)] at hQ
      obtain ⟨n1, n2, n3⟩ := D1.ne
      obtain ⟨cs, b4, hcl⟩ := D1.b4
      refine bc_bool (fun _ => ld_int D1.c9 (ld_int (D1.b3.cat 1 _ rfl) (stAllB (vs := Scn.cells ⟨m.ts, m.frm, false, 0, 0, 0⟩) D1.b7 rfl fun w4 b4' f4 => ?_))) (fun e => by cases e)
      exact rclean_j0t (r := ⟨m.ts, m.frm, false, 0, 0, 0⟩) (hw.loc f4 (by simp)) ⟨D1.b3.off1 n2 f4, ⟨cs, b4.off1 n3 f4, hcl⟩, b4', D1.ne⟩ hl ⟨j1, j2, by simp⟩ rfl hQ
theorem rclean_spec (t : RS w gr xr ft S) (V : SV n S) (hn : n < 4096) (hM : MM w m rp rc lp lc) (hQ : AftD w gr xr ft (cleanS S m).1 (res2 (cleanS S m).2.1 (cleanS S m).2.2) Q) :
    CallR Tryz.prog 29 #[.pointer (some (at0 gr 0)), msgV m rp rc lp lc] w Q := by
  apply X29.sound
  unfold X29.f
  refine newB fun g1 w2 b1 f2 h2 => newB fun g3 w4 b3 f4 h4 => ?_
  have b1 : Blk w2 g1 (m.cells rp rc lp lc) 41 := b1
  have S4 := ((SD.mk0 t).add f2 h2 b1).add f4 h4 b3
  have F4 := f2.tr f4
  have b1' := b1.keep' f4
  have n13 : g1 ≠ g3 := by have := b1.lt; omega
  refine ld_msgA b1' (rmine_spec S4.P (hM.keep' F4) fun bo w25 hbo f25 => ⟨_, rfl, bc_bool (fun hb => ?_) (fun hb => ?_)⟩)
  · have hnm : ¬ mineS S m 6 := fun h => by rw [hbo.2 h] at hb; cases hb
    unfold cleanS at hQ
    rw [if_neg hnm] at hQ
    refine stAllB (vs := msgZ.cells none 0 none 0) (b3.keep' f25) rfl fun w27 b27 f27 => ld_msgA (m := msgZ) b27 ?_
    exact ((S4.keep f25).loc f27 (by simp)).done hQ
  · have hm : mineS S m 6 := hbo.1 (by simpa using hb)
    unfold cleanS at hQ
    rw [if_pos hm] at hQ
    have S25 := S4.keep f25
    have c1 := b1'.keep' f25
    have c3 := b3.keep' f25
    have c9 : w25.cell? (((at0 g1 0).add 8).add 1) = some (.int .u64 m.ts) := by rw [add_add]; exact c1.cat 9 _ rfl
    have P25 := S25.P
    obtain ⟨fh, rt, pk, pv, ck, cv, bp, bc, t25⟩ := P25
    have fin : ∀ {w' : World} {g : Nat} {o : Option Scn}, Fr [] w25 w' → w25.heap.size ≤ g → Blk w' g (o.getD scnZ).cells 52 → get ilt S.rows (keyS m.ts m.frm) = o → (∀ r, o = some r → ¬ r.seq > m.seq) → X29.j1 Q (some (at0 gr 0)) (at0 g1 0) (at0 g3 0) (keyS m.ts m.frm) (at0 g 0) o.isSome w' := by
      intro w' g o f hg B ho h1
      have l1 := c1.lt
      have l3 := c3.lt
      exact rclean_j1 ((S25.add f hg B).mono (fun y hy => by simp at hy ⊢; omega)) ⟨c1.keep' f, ⟨_, c3.keep' f, rfl⟩, B, n13, by omega, by omega⟩ V hn hm ho h1 hQ
    refine ld_int c9 (ld_int (c1.cat 1 _ rfl) (rkey_spec ⟨_, rfl, opt_some rfl (rget_SC t25.tab (fun hn' w13 f13 => ?_) (fun v hv w13 f13 => ?_))⟩))
    · refine ⟨_, _, _, _, _, _, _, rfl, newB fun g21 w22 b21 f22 h22 => stAllB (vs := scnZ.cells) b21 rfl fun w23 b23 f23 => bc_bool (fun e => by cases e) (fun _ => ?_)⟩
      have z := f13.size
      exact fin (o := none) ((f13.tr f22).trans f23 (fun y hy => .inr (by simp at hy; omega))) (by omega) b23 hn' (fun r e => by cases e)
    · refine ⟨_, _, _, _, _, _, _, rfl, newB fun g21 w22 b21 f22 h22 => stAllB (vs := v.cells) b21 rfl fun w23 b23 f23 => bc_bool (fun _ => ?_) (fun e => by cases e)⟩
      have z := f13.size
      have F : Fr [] w25 w23 := (f13.tr f22).trans f23 (fun y hy => .inr (by simp at hy; omega))
      have e1 := c1.keep' F
      refine ld_int (b23.cat 3 _ rfl) (ld_int (e1.cat 13 _ rfl) (bc_dec (fun hgt => ?_) (fun hgt => fin (o := some v) F (by omega) b23 hv (fun r e => by injection e with e; rw [← e]; exact hgt))))
      have hv : get ilt S.rows (keyS m.ts m.frm) = some v := hv
      unfold cleanR at hQ
      rw [hv] at hQ
      simp only [] at hQ
      rw [if_pos hgt] at hQ
      refine stAllB (vs := msgZ.cells none 0 none 0) (c3.keep' F) rfl fun w27 b27 f27 => ld_msgA (m := msgZ) b27 ?_
      exact ((S25.keep F).loc f27 (by simp)).done hQ
theorem rpast_spec {a span now : Int} (hQ : Q (.bool (pastB a span now)) w) : CallR Tryz.prog 72 #[.int .u64 a, .int .u64 span, .int .u64 now] w Q := by
  apply X72.sound
  unfold X72.f
  unfold pastB at hQ
  exact bc_dec (fun h => by rw [if_pos h] at hQ; exact hQ) (fun h => by rw [if_neg h] at hQ; exact hQ)
theorem RSa.cur' (t : RSa w gr xr ft fh rt S pk pv ck cv bp bc) (k : Int) {K : World → Prop} (hK : ∀ w', RS w' gr xr ft { S with cur := k } → Fr ft w w' → K w') : stK w ((at0 gr 0).add 27) (.int .u64 k) K := by
  have hgr : gr ∈ rt := by rw [t.tab.ft]; simp
  obtain ⟨m1, m2, m3⟩ := t.mem
  refine t.tab.st (i := 27) (show 27 < 28 by omega) (by omega) (by omega) (by omega) fun w2 t2 f2 => hK w2 ⟨fh, rt, pk, pv, ck, cv, bp, bc, t2, t.bur.keep f2 (fun y hy hm => t.rb gr hgr (by simp at hm; rwa [← hm])), t.heap.keep f2 (fun y hy hm => t.rh gr hgr (by simp at hm; rwa [← hm])), t.ri, t.bl, t.rl, t.foot, t.rb, t.rh, t.bh⟩ (f2.mono fun y hy => by simp at hy; rw [hy]; exact m1 _ hgr)
theorem rstep_spec (t : RS w gr xr ft S) (V : SV n S) (hn : n < 4096) (hQ : AftD w gr xr ft (stepS S now).1 (.tuple #[(stepS S now).2.1.val, .bool (stepS S now).2.2]) Q) : CallR Tryz.prog 31 #[.pointer (some (at0 gr 0)), .int .u64 now] w Q := by
  apply X31.sound
  unfold X31.f
  refine newB fun g1 w2 b2 f2 h2 => drawn fun w3 f3 _ => ?_
  have b2 : Blk w2 g1 scnZ.cells 52 := b2
  have b3 := b2.keep' f3
  have S3 := ((SD.mk0 t).add f2 h2 b2).keep f3
  have hl : S.rows.length < 4096 := by have := V.rl; omega
  have P3 := S3.P
  obtain ⟨fh, rt, pk, pv, ck, cv, bp, bc, t3⟩ := P3
  unfold stepS at hQ
  refine opt_some rfl (opt_some rfl (ld_int t3.c27 (rafter_SC t3.tab ⟨_, _, rfl, ?_⟩)))
  have zero : ∀ {w'' : World} {S' : Sc} {ft' L : List Nat}, AftD w gr xr ft S' (.tuple #[scnZ.val, .bool false]) Q → SD w w'' ft gr xr ft' S' (g1 :: L) → Blk w'' g1 scnZ.cells 52 → stAll w'' (at0 g1 0) scnZ.cells fun w12 => ldI .u64 w12 ((at0 g1 0).add 0) fun x13 => ldI .i64 w12 ((at0 g1 0).add 1) fun x14 => ldB w12 ((at0 g1 0).add 2) fun x15 => ldI .u64 w12 ((at0 g1 0).add 3) fun x16 => ldI .u64 w12 ((at0 g1 0).add 4) fun x17 => ldI .i64 w12 ((at0 g1 0).add 5) fun x18 => Q (.tuple #[.agg #[.int .u64 x13, .int .i64 x14, .bool x15, .int .u64 x16, .int .u64 x17, .int .i64 x18], .bool false]) w12 := by
    intro w'' S' ft' L hq P b
    refine stAllB (vs := scnZ.cells) b rfl fun w12 b12 f12 => ld_Scn (s := scnZ) b12.cat ?_
    exact (P.loc f12 (by simp)).done hq
  cases ha : after ilt S.rows S.cur with
  | none =>
    rw [ha] at hQ
    exact bc_bool (fun _ => zero hQ S3 b3) (fun e => by cases e)
  | some k =>
    rw [ha] at hQ
    simp only [] at hQ
    refine bc_bool (fun e => by cases e) (fun _ => opt_some rfl (t3.cur' k fun w20 P20 f20 => ?_))
    have S20 := S3.next P20 f20 (fun y hy => .inl hy)
    have b20 := b3.keep f20 (S3.off (by simp))
    obtain ⟨fh, rt, pk, pv, ck, cv, bp, bc, t20⟩ := P20
    refine opt_some rfl (rget_SC t20.tab (fun hn' w24 f24 => ?_) (fun r hr w24 f24 => ?_))
    · have hn' : get ilt S.rows k = none := hn'
      rw [hn'] at hQ
      simp only [] at hQ
      refine ⟨_, _, _, _, _, _, _, rfl, newB fun g32 w33 b33 f33 h33 => stAllB (vs := scnZ.cells) b33 rfl fun w34 b34 f34 => drawn fun w35 f35 _ => ?_⟩
      have z24 := f24.size
      have F35 : Fr [] w20 w35 := ((f24.tr f33).trans f34 (fun y hy => .inr (by simp at hy; omega))).tr f35
      refine ld_bool ((b34.keep' f35).cat 2 _ rfl) ?_
      exact zero hQ (S20.keep F35) (b20.keep' F35)
    · have hr : get ilt S.rows k = some r := hr
      rw [hr] at hQ
      simp only [] at hQ
      refine ⟨_, _, _, _, _, _, _, rfl, newB fun g32 w33 b33 f33 h33 => stAllB (vs := r.cells) b33 rfl fun w34 b34 f34 => drawn fun w35 f35 _ => ?_⟩
      have z24 := f24.size
      have F35 : Fr [] w20 w35 := ((f24.tr f33).trans f34 (fun y hy => .inr (by simp at hy; omega))).tr f35
      have b35 := b34.keep' f35
      have S35 := S20.add F35 (b := g32) (by omega) b35
      have b1 := b20.keep' F35
      have hne : g1 ≠ g32 := by have := b20.lt; omega
      refine ld_bool (b35.cat 2 _ rfl) ?_
      have swap := S35.mono (L' := [g1, g32]) (fun y hy => by simp at hy ⊢; omega)
      cases hp : r.present with
      | false =>
        rw [if_neg (fun h => by rw [hp] at h; cases h.1)] at hQ
        exact zero hQ swap b1
      | true =>
        have P35 := S35.P
        obtain ⟨fh, rt, pk, pv, ck, cv, bp, bc, t35⟩ := P35
        refine bc_bool (fun e => by cases e) (fun _ => ld_int (b35.cat 4 _ rfl) (opt_some rfl (ld_int (x := S.c.lease) (by rw [add_add, add_at]; exact t35.tab.blk.cell rfl) (rpast_spec ⟨_, rfl, ?_⟩))))
        cases hpa : pastB r.at_ S.c.lease now with
        | false =>
          rw [if_neg (fun h => by rw [hpa] at h; cases h.2)] at hQ
          exact zero hQ swap b1
        | true =>
          rw [if_pos ⟨hp, hpa⟩] at hQ
          refine bc_bool (fun e => by cases e) (fun _ => ?_)
          unfold X31.j0
          obtain ⟨hok, hke⟩ := get_key V.ri hr
          refine stB (i := 2) b35 (show 2 < 6 by omega) fun w57 b57 f57 => drawn fun w58 f58 _ => ?_
          have b57 : Blk w57 g32 (Scn.cells { r with present := false }) 52 := b57
          have b58 := b57.keep' f58
          have S58 := (S35.loc f57 (by simp)).keep f58
          have c58 := (b1.off1 hne f57).keep' f58
          refine opt_some rfl (ld_Scn (s := { r with present := false }) b58.cat ?_)
          rw [← hke]
          refine rputr_spec (r := { r with present := false }) S58.P hl hok fun ft2 w5 P2 f5 e2 => ⟨_, rfl, ?_⟩
          have S5 := S58.next P2 f5 e2
          have b5 := b58.keep f5 (S58.off (by simp))
          have c5 := c58.keep f5 (S58.off (by simp))
          refine ld_int (b5.cat 0 _ rfl) (rkeep_spec S5.P fun ft3 w6 P3 f6 e3 => ⟨rfl, ?_⟩)
          have S6 := S5.next P3 f6 e3
          have b6 := b5.keep f6 (S5.off (by simp))
          have c6 := c5.keep f6 (S5.off (by simp))
          refine ld_Scn (s := { r with present := false }) b6.cat (stAllB (vs := Scn.cells { r with present := false }) c6 rfl fun w7 b7 f7 => ld_Scn (s := { r with present := false }) b7.cat ?_)
          exact (S6.loc f7 (by simp)).done hQ
theorem rbury_spec (t : RS w gr xr ft S) (V : SV n S) (hn : n < 4096) (hQ : AftD w gr xr ft (buryS S s).1 (.bool (buryS S s).2) Q) : CallR Tryz.prog 34 #[.pointer (some (at0 gr 0)), .int .u64 s] w Q := by
  apply X34.sound
  unfold X34.f
  have S0 := SD.mk0 t
  obtain ⟨fh, rt, pk, pv, ck, cv, bp, bc, t⟩ := t
  unfold buryS at hQ
  refine opt_some rfl (ld_ptr t.c22 (rgetS_spec t.heap fun p hp => ⟨_, rfl, ?_⟩))
  cases hp' : p with
  | none =>
    rw [hp'] at hp
    rw [if_neg (fun h => by rw [h.1] at hp; cases hp)] at hQ
    exact bc_bool (fun _ => S0.done hQ) (fun e => by cases e)
  | some q =>
    rw [hp'] at hp
    have hyes : hasO S.os s = true := by rw [← hp]; rfl
    refine bc_bool (fun e => by cases e) (fun _ => rholders_spec t fun hp2 hc w7 o7 f7 n7 => ⟨_, _, _, rfl, ?_⟩)
    have S7 := S0.keep f7
    have t7 := t.keep' f7
    refine bc_eq (fun hz => ?_) (fun hz => ?_)
    · rw [if_neg (fun h => h.2.2 (List.length_eq_zero_iff.1 (by omega)))] at hQ
      exact S7.done hQ
    · have hne : holdS S s ≠ [] := fun e => hz (by rw [e]; rfl)
      refine rburied_spec t7 ⟨_, rfl, bc_dec (fun hb => ?_) (fun hb => ?_)⟩
      · rw [if_neg (fun h => h.2.1 hb)] at hQ
        exact S7.done hQ
      · rw [if_pos ⟨hyes, hb, hne⟩] at hQ
        unfold X34.j0
        have hbl := V.bl
        refine opt_some rfl (ld_sl t7.c26 (newB fun g3 w4 b3 f4 h4 => ?_))
        have t4 := t7.keep' f4
        have S4 := S7.keep f4
        have z4 := S4.F.size
        refine app_own rowT39 t4.bur (x := some (at0 g3 0)) (us := [Value.int .u64 s]) (m := 1) (cells_one b3) rfl some_ne (by simp [Value.oneCell']) (by simp only [maxLen]; omega) (by omega) fun p' c' w6 o6 f6 e6 => ⟨_, _, _, rfl, ?_⟩
        obtain ⟨m1, m2, m3⟩ := t4.mem
        have hgr : gr ∈ rt := by rw [t4.tab.ft]; simp
        have lt := t4.lt
        have lrt := t4.tab.lt
        have lfh := t4.heap.lt
        have T6 := t4.tab.keep f6 t4.rb
        have H6 := t4.heap.keep f6 (fun y hy hm => t4.bh y hm hy)
        have n1 : ∀ y ∈ rt, y ∉ fbl p' := fun y hy hm => by
          rcases e6 y hm with h | h
          · exact t4.rb y hy h
          · have := lrt y hy; omega
        have n2 : ∀ y ∈ fbl p', y ∉ fh := fun y hm hy => by
          rcases e6 y hm with h | h
          · exact t4.bh y h hy
          · have := lfh y hy; omega
        have e3 : S.bur.length + 1 = (S.bur ++ [s]).length := by simp
        refine opt_some rfl (T6.st (i := 26) (show 26 < 28 by omega) (by omega) (by omega) (by omega) fun w9 t9 f9 => ?_)
        have P9 : RS w9 gr xr (rt ++ (fbl p' ++ fh)) { S with bur := S.bur ++ [s] } := by
          have o9 := o6.keep f9 (fun y hy hm => n1 gr hgr (by simp at hm; rwa [← hm]))
          rw [e3] at t9 o9
          refine ⟨fh, rt, pk, pv, ck, cv, p', c', t9, by rw [List.map_append]; exact o9, H6.keep f9 (fun y hy hm => t4.rh gr hgr (by simp at hm; rwa [← hm])), t4.ri, ?_, t4.rl, rfl, n1, t4.rh, n2⟩
          show (S.bur ++ [s]).length ≤ 4096
          rw [← e3]
          omega
        have S9 := S4.next P9 ((f6.mono m2).trans f9 (fun y hy => .inl (by simp at hy; rw [hy]; exact m1 _ hgr))) (fun y hy => by
          rcases List.mem_append.1 hy with hy | hy
          · exact .inl (m1 y hy)
          rcases List.mem_append.1 hy with hy | hy
          · exact (e6 y hy).imp_left (m2 y)
          · exact .inl (m3 y hy))
        refine rkeep_spec S9.P fun ft3 w10 P10 f10 e10 => ⟨rfl, ?_⟩
        exact (S9.next P10 f10 e10).done hQ
theorem rraise_spec (t : RS w gr xr ft S) (hQ : AftD w gr xr ft (raiseS S s).1 (.bool (raiseS S s).2) Q) : CallR Tryz.prog 36 #[.pointer (some (at0 gr 0)), .int .u64 s] w Q := by
  apply X36.sound
  unfold X36.f
  have S0 := SD.mk0 t
  obtain ⟨fh, rt, pk, pv, ck, cv, bp, bc, t⟩ := t
  unfold raiseS at hQ
  by_cases hb : s ∈ S.bur
  · rw [if_pos hb] at hQ
    refine rburied_spec t ⟨_, rfl, bc_bool (fun e => by rw [decide_eq_true hb] at e; cases e) (fun _ => ?_)⟩
    refine runbury_spec S0.P fun ft3 w10 P10 f10 e10 => ⟨rfl, ?_⟩
    have S1 := S0.next P10 f10 e10
    refine rkeep_spec S1.P fun ft4 w11 P11 f11 e11 => ⟨rfl, ?_⟩
    exact (S1.next P11 f11 e11).done hQ
  · rw [if_neg hb] at hQ
    exact rburied_spec t ⟨_, rfl, bc_bool (fun _ => S0.done hQ) (fun e => by rw [decide_eq_false hb] at e; cases e)⟩
theorem rforget_l0 {S0 : Sc} (V : SV n S) (hn : n < 4096) (h0 : 0 ≤ s) (hs : s ≤ 72057594037927935) (e0 : S0 = { S with bur := unbur S s }) (hQ : AftD W gr xr ft0 (forgetS S s) (.tuple #[]) Q) :
    ∀ (f i : Nat) (ft : List Nat) (w : World), 65 - i < f → i ≤ 65 → SD W w ft0 gr xr ft { S0 with rows := cutD S0.rows s i } [] → X38.l0 Q f (some (at0 gr 0)) s (i : Int) w
  | 0, i, ft, w, hf, _, _ => absurd hf (Nat.not_lt_zero _)
  | f + 1, i, ft, w, hf, hi, h => by
    rw [X38.l0]
    have ei : IntKind.wrap .i64 ((i : Int) + 1) = ((i + 1 : Nat) : Int) := by rw [i64w ((i : Int) + 1) (by omega) (by omega)]; omega
    have er : S0.rows = S.rows := by rw [e0]
    refine bc_dec (fun hlt => drawn fun w1 f1 _ => ?_) (fun hge => ?_)
    · have h1 := h.keep f1
      have P1 := h1.P
      obtain ⟨fh, rt, pk, pv, ck, cv, bp, bc, t1⟩ := P1
      refine opt_some rfl (rkey_spec ⟨_, rfl, rdrop_SC t1.tab fun rt' pk' pv' ck' cv' w7 T7 f7 e7 => ⟨_, rfl, ?_⟩⟩)
      have hR : RI (cutD S0.rows s (i + 1)) := by rw [er]; exact cutD_ri V.ri _
      have hL : (cutD S0.rows s (i + 1)).length ≤ 4096 := by
        have := cutD_le (rows := S0.rows) (s := s) (i + 1)
        have hrl := V.rl
        rw [er] at this ⊢
        omega
      have es := cutD_succ (rows := S0.rows) (s := s) i
      obtain ⟨t2, f2, e2⟩ := t1.rows' (rows' := cutD S0.rows s (i + 1)) (by rw [es]; exact T7) hR hL f7 e7
      rw [ei]
      exact rforget_l0 V hn h0 hs e0 hQ f (i + 1) _ w7 (by omega) (by omega) (h1.next t2 f2 e2)
    · have : i = 65 := by omega
      subst this
      refine rkeep_spec h.P fun ft3 w10 P10 f10 e10 => ⟨rfl, ?_⟩
      refine (h.next P10 f10 e10).done ?_
      have e : keepS { S0 with rows := cutD S0.rows s 65 } s = forgetS S s := by
        rw [forgetS_eq V.ri h0, er, cutD_rest V.ri h0 hs, e0]
      rw [e]
      exact hQ
theorem rforget_spec (t : RS w gr xr ft S) (V : SV n S) (hn : n < 4096) (h0 : 0 ≤ s) (hQ : AftD w gr xr ft (forgetS S s) (.tuple #[]) Q) : CallR Tryz.prog 38 #[.pointer (some (at0 gr 0)), .int .u64 s] w Q := by
  apply X38.sound
  unfold X38.f
  refine bc_dec (fun hgt => ?_) (fun hle => ?_)
  · have hla := V.la.2
    rw [V.forgetB (by omega)] at hQ
    exact (SD.mk0 t).done hQ
  · refine runbury_spec t fun ft3 w10 P10 f10 e10 => ⟨rfl, 66, ?_⟩
    exact rforget_l0 (S0 := { S with bur := unbur S s }) V hn h0 (by omega) rfl hQ 66 0 _ w10 (by omega) (by omega) ((SD.mk0 t).next P10 f10 e10)
end
end Go.Proofs.YtnjmkhhaodgpbaaGreatX
namespace Go.Proofs.YtnjmkhhaodgpbaaGreatX
open Go.RowKit
set_option maxRecDepth 100000
section
variable {w w' w2 V : World} {Q : QT} {l : List Int} {p q : Option Addr} {pc qc : Nat} {m : Msg}
theorem numbers_l0 {w0 : World} (h1 : Cells w0 p (l.map (Value.int .u64))) (h2 : Cells w0 q (l.map (Value.int .u64))) (hl : l.length ≤ 100000) (hQ : ∀ w', Fr [] w0 w' → Q (.bool true) w') :
    ∀ (f i : Nat) (w : World), l.length - i < f → i ≤ l.length → Fr [] w0 w → X45.l0 Q f p l.length pc q l.length qc (i : Int) w
  | 0, i, w, hf, _, _ => absurd hf (Nat.not_lt_zero _)
  | f + 1, i, w, hf, hi, F => by
    rw [X45.l0]
    have ei : IntKind.wrap .i64 ((i : Int) + 1) = ((i + 1 : Nat) : Int) := by rw [i64w ((i : Int) + 1) (by omega) (by omega)]; omega
    refine bc_dec (fun hlt => drawn fun w1 f1 _ => ⟨⟨by omega, by omega⟩, ?_⟩) (fun hge => hQ w F)
    have hll : i < l.length := by omega
    have hg : (l.map (Value.int .u64))[i]? = some (.int .u64 l[i]) := by rw [List.getElem?_map, List.getElem?_eq_getElem hll]; rfl
    obtain ⟨a, ha, hc⟩ := (h1.keep' (F.tr f1)) i _ hg
    obtain ⟨b, hb, hd⟩ := (h2.keep' (F.tr f1)) i _ hg
    rw [Int.toNat_natCast, ei, Nat.mul_one]
    exact opt_some ha (ld_int hc ⟨⟨by omega, by omega⟩, opt_some hb (ld_int hd (bc_ne (fun h => absurd rfl h) (fun _ => numbers_l0 h1 h2 hl hQ f (i + 1) w1 (by omega) (by omega) (F.tr f1))))⟩)
theorem numbers_same (h1 : Cells w p (l.map (Value.int .u64))) (h2 : Cells w q (l.map (Value.int .u64))) (hl : l.length ≤ 100000) (hQ : ∀ w', Fr [] w w' → Q (.bool true) w') : CallR Tryz.prog 45 #[.slice p l.length pc, .slice q l.length qc] w Q := by
  apply X45.sound
  unfold X45.f
  exact bc_ne (fun h => absurd rfl h) (fun _ => ⟨l.length + 1, numbers_l0 h1 h2 hl hQ _ 0 w (by omega) (by omega) (Fr.refl _)⟩)
theorem ids_nil (hQ : Q (.bool true) w) : CallR Tryz.prog 56 #[.slice none 0 0, .slice none 0 0] w Q := by
  apply X56.sound
  unfold X56.f
  refine bc_ne (fun h => absurd rfl h) (fun _ => ⟨1, ?_⟩)
  rw [X56.l0]
  exact bc_dec (fun h => absurd h (by omega)) (fun _ => hQ)
theorem same_refl (hr : m.refs = []) (hl : m.list = []) (hQ : ∀ w', Fr [] w w' → Q (.bool true) w') : CallR Tryz.prog 20 #[msgV m none 0 none 0, msgV m none 0 none 0] w Q := by
  obtain ⟨a0, a1, a2, a3, a4, a5, a6, a7, a8, a9, a10, a11, a12, a13, a14, a15, a16, a17, a18⟩ := m
  simp only at hr hl
  subst hr hl
  apply X20.sound
  unfold X20.f
  refine newB fun g1 w2 b1 f2 h2 => newB fun g3 w4 b3 f4 h4 => ?_
  have b1 := b1.keep' f4
  have F := f2.tr f4
  have x8 : w4.cell? (((at0 g1 0).add 8).add 0) = some (.int .i64 a8) := by rw [add_add]; exact b1.cat 8 _ rfl
  have x9 : w4.cell? (((at0 g1 0).add 8).add 1) = some (.int .u64 a9) := by rw [add_add]; exact b1.cat 9 _ rfl
  have y8 : w4.cell? (((at0 g3 0).add 8).add 0) = some (.int .i64 a8) := by rw [add_add]; exact b3.cat 8 _ rfl
  have y9 : w4.cell? (((at0 g3 0).add 8).add 1) = some (.int .u64 a9) := by rw [add_add]; exact b3.cat 9 _ rfl
  have no : ∀ {A B : Prop} {a : Int}, B → bcase (a != a) A B := fun b => bc_ne (fun h => absurd rfl h) (fun _ => b)
  refine ld_int (b1.cat 0 _ rfl) (ld_int (b3.cat 0 _ rfl) (no ?_))
  refine ld_int (b1.cat 1 _ rfl) (ld_int (b3.cat 1 _ rfl) (no ?_))
  refine ld_int (b1.cat 2 _ rfl) (ld_int (b3.cat 2 _ rfl) (no ?_))
  refine ld_int (b1.cat 3 _ rfl) (ld_int (b3.cat 3 _ rfl) (no ?_))
  refine ld_int (b1.cat 4 _ rfl) (ld_int (b3.cat 4 _ rfl) (no ?_))
  refine ld_int (b1.cat 5 _ rfl) (ld_int (b3.cat 5 _ rfl) (no ?_))
  refine ld_int (b1.cat 6 _ rfl) (ld_int (b3.cat 6 _ rfl) (no ?_))
  refine ld_int (b1.cat 7 _ rfl) (ld_int (b3.cat 7 _ rfl) (no ?_))
  refine ld_int x8 (ld_int x9 (ld_int y8 (ld_int y9 ⟨⟨_, Tryz.underlying37⟩, bc_bool (fun e => ?_) (fun _ => ?_)⟩)))
  · simp at e
  refine ld_int (b1.cat 11 _ rfl) (ld_int (b3.cat 11 _ rfl) (no ?_))
  refine ld_int (b1.cat 12 _ rfl) (ld_int (b3.cat 12 _ rfl) (no ?_))
  unfold X20.j0
  refine ld_int (b1.cat 13 _ rfl) (ld_int (b3.cat 13 _ rfl) (bc_eqt' rfl ?_))
  refine ld_int (b1.cat 14 _ rfl) (ld_int (b3.cat 14 _ rfl) (bc_eqt' rfl ?_))
  refine ld_int (b1.cat 15 _ rfl) (ld_int (b3.cat 15 _ rfl) (bc_eqt' rfl ?_))
  refine ld_int (b1.cat 16 _ rfl) (ld_int (b3.cat 16 _ rfl) (bc_eqt' rfl ?_))
  refine ld_int (b1.cat 17 _ rfl) (ld_int (b3.cat 17 _ rfl) (bc_eqt' rfl ?_))
  refine ld_sl (b1.cat 10 _ rfl) (ld_sl (b3.cat 10 _ rfl) (ids_nil ⟨_, rfl, bc_bool (fun _ => ?_) (fun e => by cases e)⟩))
  refine ld_sl (b1.cat 18 _ rfl) (ld_sl (b3.cat 18 _ rfl) (numbers_same (l := []) (fun j u hj => by simp at hj) (fun j u hj => by simp at hj) (by simp) fun w5 f5 => ⟨_, rfl, hQ w5 (F.tr f5)⟩))
theorem dirtyS_nil {S : Sc} {pin : Bool} {now : Int} : (dirtyS S m pin now).2.1.refs = [] ∧ (dirtyS S m pin now).2.1.list = [] := by
  unfold dirtyS askedS grantS
  split
  · split
    · split
      · split
        · exact ⟨rfl, rfl⟩
        split
        · split <;> exact ⟨rfl, rfl⟩
        · split <;> exact ⟨rfl, rfl⟩
      · split <;> exact ⟨rfl, rfl⟩
    · exact ⟨rfl, rfl⟩
  · exact ⟨rfl, rfl⟩
theorem cleanS_nil {S : Sc} : (cleanS S m).2.1.refs = [] ∧ (cleanS S m).2.1.list = [] := by
  unfold cleanS cleanR
  split
  · split
    · split <;> exact ⟨rfl, rfl⟩
    · split <;> exact ⟨rfl, rfl⟩
  · exact ⟨rfl, rfl⟩
end
section
variable {V w w' w2 w3 : World} {B : Base} {Q : QT} {g gr b g1 g26 : Nat} {x : HB} {xr : RHB} {ft fr ft' fr' F L L' : List Nat} {S S' R R' : Sc} {cs vs : List Value} {e : TypeId} {st : Stp} {now : Int} {rp lp : Option Addr} {rc lc n : Nat} {M : Msg}
theorem P2.since (u : P2 B w g x ft gr xr fr S R L) (hB : Fr [] V B.w) (hD : ∀ y ∈ B.D, V.heap.size ≤ y) : Fr [] V w := hB.trans u.F (fun y hy => .inr (hD y hy))
theorem RS.n0 (t : RS w gr xr fr R) : w.cell? ((at0 gr 0).add 22) = some (.pointer (some (at0 xr.h 0))) ∧ w.cell? ((at0 xr.h 0).add 0) = some (.int .i64 R.node) ∧ w.cell? ((at0 xr.h 0).add 2) = some (.int .u64 R.last) ∧ w.cell? (((at0 gr 0).add 0).add 0) = some (.int .i64 R.c.nodes) := by
  obtain ⟨fh, rt, pk, pv, ck, cv, bp, bc, t⟩ := t
  refine ⟨t.c22, ?_, ?_, ?_⟩
  · obtain ⟨ts, os, lp, lc, th, _⟩ := t.heap
    exact th.c0 0 rfl
  · obtain ⟨ts, os, lp, lc, th, _⟩ := t.heap
    exact th.c0 2 rfl
  · rw [add_at]
    exact t.tab.blk.cell rfl
def Pl (B : Base) (g : Nat) (x : HB) (gr : Nat) (xr : RHB) (S' : Sc) (Q : QT) : Prop := ∀ ft' fr' w' L', P2 B w' g x ft' gr xr fr' S' S' L' → Q (.bool true) w'
theorem beq_q {α : Type} [BEq α] [LawfulBEq α] {a : α} (h : Q (.bool true) w) : Q (.bool (a == a)) w := by rw [beq_self_eq_true]; exact h
theorem play_j1 (u : P2 B w g x ft gr xr fr S S L) (hB : Fr [] V B.w) (hD : ∀ y ∈ B.D, V.heap.size ≤ y) (hV : SV n S) (hn : n < 4096) (hb : g26 ∈ L) (b26 : Blk w g26 (M.cells rp rc lp lc) 41) (hM : MM V M rp rc lp lc) (hQ : Pl B g x gr xr (cleanS S M).1 Q) :
    X11.j1 Q (some (at0 g 0)) (some (at0 gr 0)) (at0 g26 0) w := by
  unfold X11.j1
  refine ld_msgA b26 (clean_spec u.P (hM.keep' (u.since hB hD)) fun ft2 w2 P2' f2 e2 => ⟨_, _, _, _, _, _, _, _, _, _, _, _, _, _, _, _, _, _, _, _, _, _, _, _, rfl, ?_⟩)
  have u2 := u.nextT P2' f2 e2
  have b2 := b26.keep f2 (fun h => u.off hb (List.mem_append.2 (.inl h)))
  obtain ⟨r1, r2⟩ := cleanS_nil (S := S) (m := M)
  refine newB fun g42 w43 b43 f43 h43 => stAllB (vs := (cleanS S M).2.1.cells none 0 none 0) b43 rfl fun w44 b44 f44 => ?_
  obtain ⟨u44, F44⟩ := u2.new f43 h43 b44 f44
  have b4 := b2.keep' F44
  refine ld_msgA b4 (rclean_spec u44.R hV hn (hM.keep' (u44.since hB hD)) fun fr2 w5 R5 f5 e5 => ⟨_, _, _, _, _, _, _, _, _, _, _, _, _, _, _, _, _, _, _, _, _, _, _, _, rfl, ?_⟩)
  have u5 := u44.nextR R5 f5 e5
  have c5 := b44.keep f5 (fun h => u44.off (b := g42) (by simp) (List.mem_append.2 (.inr h)))
  refine newB fun g86 w87 b87 f87 h87 => stAllB (vs := (cleanS S M).2.1.cells none 0 none 0) b87 rfl fun w88 b88 f88 => ?_
  obtain ⟨u88, F88⟩ := u5.new f87 h87 b88 f88
  have c8 := c5.keep' F88
  refine bc_bool (fun _ => ?_) (fun e => by simp at e)
  exact ld_msgA c8 (ld_msgA b88 (same_refl r1 r2 fun w9 f9 => ⟨_, rfl, hQ _ _ w9 _ (u88.keep f9)⟩))
theorem play_j2 {t127 : Bool} (u : P2 B w g x ft gr xr fr S S L) (hB : Fr [] V B.w) (hD : ∀ y ∈ B.D, V.heap.size ≤ y) (hV : SV n S) (hn : n < 4096) (hb1 : g1 ∈ L) (b1 : Blk w g1 (st.cells rp rc lp lc) 43) (hs : StpW st)
    {rp' lp' : Option Addr} {rc' lc' : Nat} (hb : g26 ∈ L) (b26 : Blk w g26 ((dirM S st).cells rp' rc' lp' lc') 41) (hM : MM V (dirM S st) rp' rc' lp' lc') (h127 : t127 = true ↔ (st.what % 13 = 6 ∨ st.what % 13 = 7)) (h45 : ¬ (st.what % 13 = 4 ∨ st.what % 13 = 5)) (hQ : Pl B g x gr xr (playS S st now) Q) :
    X11.j2 Q (some (at0 g 0)) (some (at0 x.h 0)) (some (at0 gr 0)) now (at0 g1 0) (at0 g26 0) (serX st) (st.what % 13) t127 w := by
  unfold X11.j2
  obtain ⟨s0, s1⟩ := serX_rng hs
  unfold playS at hQ
  rw [if_neg h45] at hQ
  refine bc_bool (fun ht => ?_) (fun ht => ?_)
  · rw [if_pos (h127.1 ht)] at hQ
    refine step_spec u.P fun ft2 w2 P2' f2 e2 => ⟨_, _, _, _, _, _, _, rfl, ?_⟩
    have u2 := u.nextT P2' f2 e2
    refine newB fun g42 w43 b43 f43 h43 => stAllB (vs := (stepS S now).2.1.cells) b43 rfl fun w44 b44 f44 => ?_
    obtain ⟨u44, F44⟩ := u2.new f43 h43 b44 f44
    refine rstep_spec u44.R hV hn fun fr2 w5 R5 f5 e5 => ⟨_, _, _, _, _, _, _, rfl, ?_⟩
    have u5 := u44.nextR R5 f5 e5
    have c5 := b44.keep f5 (fun h => u44.off (b := g42) (by simp) (List.mem_append.2 (.inr h)))
    refine newB fun g86 w87 b87 f87 h87 => stAllB (vs := (stepS S now).2.1.cells) b87 rfl fun w88 b88 f88 => ?_
    obtain ⟨u88, F88⟩ := u5.new f87 h87 b88 f88
    have c8 := c5.keep' F88
    refine bc_bool (fun _ => ?_) (fun e => by simp at e)
    refine ld_Scn (s := (stepS S now).2.1) c8.cat (ld_Scn (s := (stepS S now).2.1) b88.cat (scn_same (r := (stepS S now).2.1) (r' := (stepS S now).2.1) fun w9 f9 => ⟨_, rfl, ?_⟩))
    rw [decide_eq_true rfl]
    exact hQ _ _ w9 _ (u88.keep f9)
  rw [if_neg (fun h => by rw [h127.2 h] at ht; cases ht)] at hQ
  refine bc_eq (fun h8 => ?_) (fun h8 => ?_)
  · rw [if_pos h8] at hQ
    refine bury_spec u.P s0 s1 fun ft2 w2 P2' f2 e2 => ⟨_, rfl, ?_⟩
    have u2 := u.nextT P2' f2 e2
    refine rbury_spec u2.R hV hn fun fr2 w5 R5 f5 e5 => ⟨_, rfl, beq_q ?_⟩
    exact hQ _ _ w5 _ (u2.nextR R5 f5 e5)
  rw [if_neg h8] at hQ
  refine bc_eq (fun h8 => ?_) (fun h8 => ?_)
  · rw [if_pos h8] at hQ
    refine raise_spec u.P s0 s1 fun ft2 w2 P2' f2 e2 => ⟨_, rfl, ?_⟩
    have u2 := u.nextT P2' f2 e2
    refine rraise_spec u2.R fun fr2 w5 R5 f5 e5 => ⟨_, rfl, beq_q ?_⟩
    exact hQ _ _ w5 _ (u2.nextR R5 f5 e5)
  rw [if_neg h8] at hQ
  refine bc_eq (fun h8 => ?_) (fun h8 => ?_)
  · rw [if_pos h8] at hQ
    refine ld_int (b1.cat 6 _ rfl) ⟨by omega, bc_eq (fun hz => ?_) (fun hz => ?_)⟩
    · rw [if_pos hz] at hQ
      refine forget_spec u.P s0 s1 fun ft2 w2 P2' f2 e2 => ⟨rfl, ?_⟩
      have u2 := u.nextT P2' f2 e2
      refine rforget_spec u2.R hV hn s0 fun fr2 w5 R5 f5 e5 => ⟨rfl, ?_⟩
      exact hQ _ _ w5 _ (u2.nextR R5 f5 e5)
    · rw [if_neg hz] at hQ
      exact hQ _ _ w _ u
  rw [if_neg h8] at hQ
  refine bc_eq (fun h8 => ?_) (fun h8 => ?_)
  · rw [if_pos h8] at hQ
    have P0 := u.P
    obtain ⟨fh, gt, bm, rt, T⟩ := P0
    refine make_spec T.heap fun fh2 w2 H2 f2 e2 => ⟨_, _, rfl, ?_⟩
    obtain ⟨t2, F2, E2⟩ := T.heap' H2 f2 e2
    have u2 := u.nextT (S' := makeS S) ⟨_, _, _, _, t2⟩ F2 E2
    have R2 := u2.R
    obtain ⟨rfh, rrt, pk, pv, ck, cv, bp, bc, T2⟩ := R2
    refine opt_some rfl (ld_ptr T2.c22 (rmake_spec T2.heap fun rh w5 H5 f5 e5 => ⟨_, _, rfl, ?_⟩))
    obtain ⟨t5, F5, E5⟩ := T2.heap' H5 f5 e5
    refine bc_bool (fun _ => beq_q ?_) (fun e => by simp at e)
    exact hQ _ _ w5 _ (u2.nextR (R' := makeS S) t5 F5 E5)
  rw [if_neg h8] at hQ
  refine bc_eq (fun h8 => ?_) (fun h8 => ?_)
  · rw [if_pos h8] at hQ
    refine ld_int (b1.cat 6 _ rfl) ⟨by omega, bc_eq (fun hz => ?_) (fun hz => ?_)⟩
    · have P0 := u.P
      obtain ⟨fh, gt, bm, rt, T⟩ := P0
      refine free_spec' T.heap s0 s1 fun fh2 w2 H2 f2 e2 => ⟨_, rfl, ?_⟩
      obtain ⟨t2, F2, E2⟩ := T.heap' H2 f2 e2
      have u2 := u.nextT (S' := { S with os := freeO S.os (serX st) }) ⟨_, _, _, _, t2⟩ F2 E2
      cases ho : hasO S.os (serX st) with
      | false =>
        rw [if_neg (fun h => by rw [ho] at h; cases h.2)] at hQ
        have e : freeO S.os (serX st) = S.os := by
          unfold freeO
          unfold hasO at ho
          refine List.filter_eq_self.2 fun e he => ?_
          by_cases hf : (S.os.find? fun e => decide (e.1 = serX st)) = none
          · have := List.find?_eq_none.1 hf e he
            simpa using this
          · rw [Option.isSome_iff_ne_none.2 hf] at ho
            cases ho
        rw [e] at u2
        refine bc_bool (fun e => by simp at e) (fun _ => ?_)
        exact hQ _ _ w2 _ u2
      | true =>
        rw [if_pos ⟨hz, ho⟩] at hQ
        have R2 := u2.R
        obtain ⟨rfh, rrt, pk, pv, ck, cv, bp, bc, T2⟩ := R2
        refine bc_bool (fun _ => opt_some rfl (ld_ptr T2.c22 (rhfree_spec T2.heap fun rh w5 H5 f5 e5 => ⟨_, rfl, ?_⟩))) (fun e => by simp at e)
        obtain ⟨t5, F5, E5⟩ := T2.heap' H5 f5 e5
        have u5 := u2.nextR (R' := { S with os := freeO S.os (serX st) }) t5 F5 E5
        refine forget_spec u5.P s0 s1 fun ft6 w6 P6 f6 e6 => ⟨rfl, ?_⟩
        have u6 := u5.nextT P6 f6 e6
        refine rforget_spec u6.R (hV.free (s := serX st)) hn s0 fun fr7 w7 R7 f7 e7 => ⟨rfl, ?_⟩
        exact hQ _ _ w7 _ (u6.nextR R7 f7 e7)
    · rw [if_neg (fun h => hz h.1)] at hQ
      exact hQ _ _ w _ u
  rw [if_neg h8] at hQ
  refine ld_msgA b26 (ld_bool (b1.cat 7 _ rfl) (dirty_spec u.P (hM.keep' (u.since hB hD)) fun ft2 w2 P2' f2 e2 => ⟨_, _, _, _, _, _, _, _, _, _, _, _, _, _, _, _, _, _, _, _, _, _, _, _, _, rfl, ?_⟩))
  have u2 := u.nextT P2' f2 e2
  have b2 := b26.keep f2 (fun h => u.off hb (List.mem_append.2 (.inl h)))
  have d2 := b1.keep f2 (fun h => u.off hb1 (List.mem_append.2 (.inl h)))
  obtain ⟨r1, r2⟩ := dirtyS_nil (S := S) (m := dirM S st) (pin := st.pinned) (now := now)
  refine newB fun g42 w43 b43 f43 h43 => stAllB (vs := (dirtyS S (dirM S st) st.pinned now).2.1.cells none 0 none 0) b43 rfl fun w44 b44 f44 => ?_
  obtain ⟨u44, F44⟩ := u2.new f43 h43 b44 f44
  have b4 := b2.keep' F44
  have d4 := d2.keep' F44
  refine ld_msgA b4 (ld_bool (d4.cat 7 _ rfl) (rdirty_spec u44.R hV hn (hM.keep' (u44.since hB hD)) fun fr2 w5 R5 f5 e5 => ⟨_, _, _, _, _, _, _, _, _, _, _, _, _, _, _, _, _, _, _, _, _, _, _, _, _, rfl, ?_⟩))
  have u5 := u44.nextR R5 f5 e5
  have c5 := b44.keep f5 (fun h => u44.off (b := g42) (by simp) (List.mem_append.2 (.inr h)))
  refine newB fun g86 w87 b87 f87 h87 => stAllB (vs := (dirtyS S (dirM S st) st.pinned now).2.1.cells none 0 none 0) b87 rfl fun w88 b88 f88 => ?_
  obtain ⟨u88, F88⟩ := u5.new f87 h87 b88 f88
  have c8 := c5.keep' F88
  refine bc_bool (fun _ => bc_bool (fun _ => ?_) (fun e => by simp at e)) (fun e => by simp at e)
  exact ld_msgA c8 (ld_msgA b88 (same_refl r1 r2 fun w9 f9 => ⟨_, rfl, hQ _ _ w9 _ (u88.keep f9)⟩))
theorem play_j4 (u : P2 B w g x ft gr xr fr S S L) (hB : Fr [] V B.w) (hD : ∀ y ∈ B.D, V.heap.size ≤ y) (hV : SV n S) (hn : n < 4096) (hb1 : g1 ∈ L) (b1 : Blk w g1 (st.cells rp rc lp lc) 43) (hs : StpW st) (hne : g1 ≠ g26)
    {rp' lp' : Option Addr} {rc' lc' : Nat} (hb : g26 ∈ L) (b26 : Blk w g26 ((dirM S st).cells rp' rc' lp' lc') 41) (hM : MM V (dirM S st) rp' rc' lp' lc') (hQ : Pl B g x gr xr (playS S st now) Q) :
    X11.j4 Q (some (at0 g 0)) (some (at0 x.h 0)) (some (at0 gr 0)) now (at0 g1 0) S.node (at0 g26 0) (serX st) w := by
  unfold X11.j4
  have cl : ∀ {t : Bool}, t = true → (st.what % 13 = 4 ∨ st.what % 13 = 5) → X11.j3 Q (some (at0 g 0)) (some (at0 x.h 0)) (some (at0 gr 0)) now (at0 g1 0) S.node (at0 g26 0) (serX st) (st.what % 13) t w := by
    intro t ht h45
    unfold X11.j3
    unfold playS at hQ
    rw [if_pos h45] at hQ
    refine bc_bool (fun _ => ld_bool (b1.cat 8 _ rfl) (bc_bool (fun hnr => ?_) (fun hnr => ?_))) (fun e => by rw [ht] at e; cases e)
    · have ed : dirM S st = dmsg (fromX S st) S.node (serX st) (seqX st) (vouX S st) (1 + st.dist % 40) := by unfold dirM; rw [if_pos hnr]
      have ec : clnM S st = cmsg (fromX S st) S.node (serX st) (seqX st) := by unfold clnM; rw [if_pos hnr]
      rw [ed] at b26
      have c8 : w.cell? (((at0 g26 0).add 8).add 0) = some (.int .i64 S.node) := by rw [add_add]; exact b26.cat 8 _ rfl
      have c9 : w.cell? (((at0 g26 0).add 8).add 1) = some (.int .u64 (serX st)) := by rw [add_add]; exact b26.cat 9 _ rfl
      refine ld_int (b26.cat 1 _ rfl) (ld_int c8 (ld_int c9 (ld_int (b26.cat 13 _ rfl) (stAllB (vs := (cmsg (fromX S st) S.node (serX st) (seqX st)).cells none 0 none 0) b26 rfl fun w6 b6 f6 => ?_))))
      rw [← ec] at b6
      exact play_j1 (u.loc f6 hb) hB hD hV hn hb b6 (by rw [ec]; exact MM_nil rfl rfl) hQ
    · have ed : dirM S st = st.m := by unfold dirM; rw [if_neg (by rw [hnr]; decide)]
      have ec : clnM S st = st.m := by unfold clnM; rw [if_neg (by rw [hnr]; decide)]
      rw [ed] at b26 hM
      rw [ec] at hQ
      exact play_j1 u hB hD hV hn hb b26 hM hQ
  have nc : ∀ {t : Bool}, t = false → ¬ (st.what % 13 = 4 ∨ st.what % 13 = 5) → X11.j3 Q (some (at0 g 0)) (some (at0 x.h 0)) (some (at0 gr 0)) now (at0 g1 0) S.node (at0 g26 0) (serX st) (st.what % 13) t w := by
    intro t ht h45
    unfold X11.j3
    refine bc_bool (fun e => by rw [ht] at e; cases e) (fun _ => bc_eq (fun h6 => ?_) (fun h6 => ?_))
    · exact play_j2 u hB hD hV hn hb1 b1 hs hb b26 hM (by simp [h6]) h45 hQ
    · exact play_j2 u hB hD hV hn hb1 b1 hs hb b26 hM (by simp [h6]) h45 hQ
  refine ld_int (b1.cat 0 _ rfl) (pick_spec (by omega) (by omega) ⟨_, rfl, bc_eq (fun h4 => cl (by simp [h4]) (.inl h4)) (fun h4 => ?_)⟩)
  by_cases h5 : st.what % 13 = 5
  · exact cl (by simp [h5]) (.inr h5)
  · exact nc (by simp [h5]) (by omega)
theorem play_j0 (u : P2 B w g x ft gr xr fr S S L) (hB : Fr [] V B.w) (hD : ∀ y ∈ B.D, V.heap.size ≤ y) (hV : SV n S) (hn : n < 4096) (hc : 1 ≤ S.c.nodes ∧ S.c.nodes ≤ 64) (hb1 : g1 ∈ L) (b1 : Blk w g1 (st.cells rp rc lp lc) 43) (hs : StpW st) (hnr : st.near = true) (hne : g1 ≠ g26)
    {o : List Value} (hb : g26 ∈ L) (b26 : Blk w g26 o 41) (ho : o.length = 19) (hQ : Pl B g x gr xr (playS S st now) Q) :
    X11.j0 Q (some (at0 g 0)) (some (at0 x.h 0)) (some (at0 gr 0)) now (at0 g1 0) S.node (at0 g26 0) (serX st) (fromX S st) w := by
  unfold X11.j0
  refine drawn fun w1 f1 _ => ?_
  have u1 := u.keep f1
  have c1 := b1.keep' f1
  obtain ⟨n1, n2, n3, n4⟩ := u1.R.n0
  have hseq := hs.seq
  have v1 := Int.emod_nonneg st.voucher (show S.c.nodes ≠ 0 by omega)
  have v2 := Int.emod_lt_of_pos st.voucher (show 0 < S.c.nodes by omega)
  have e9 : Int.tmod st.seq 9 = st.seq % 9 := Int.tmod_eq_emod_of_nonneg hseq.1
  refine ld_int (c1.cat 5 _ rfl) ⟨by omega, ld_int (c1.cat 2 _ rfl) (opt_some rfl (ld_int n4 (pick_spec (by omega) (by omega) ⟨_, rfl, ⟨c1.cat 5 _ rfl, c1.cat 5 _ rfl⟩, ld_int (c1.cat 3 _ rfl) ⟨⟨c1.cat 3 _ rfl, c1.cat 3 _ rfl⟩, pick_spec (by omega) (by omega) ⟨_, rfl, ⟨c1.cat 5 _ rfl, c1.cat 5 _ rfl⟩, ?_⟩⟩⟩)))⟩
  have es : IntKind.wrap .u64 (1 + Int.tmod st.seq 9) = seqX st := by
    unfold seqX
    rw [u64w _ (by omega) (by omega)]
  have ev : IntKind.wrap .i64 (1 + st.voucher % S.c.nodes) = vouX S st := by
    unfold vouX
    rw [i64w _ (by omega) (by omega)]
  have ed : IntKind.wrap .i64 (1 + st.dist % 40) = 1 + st.dist % 40 := i64w _ (by omega) (by omega)
  rw [es, ev, ed]
  refine dmsg_spec fun w14 f14 => ⟨_, _, _, _, _, _, _, _, _, _, _, _, _, _, _, _, _, _, _, _, _, _, _, rfl, ?_⟩
  have u14 := u1.keep f14
  have edm : dirM S st = dmsg (fromX S st) S.node (serX st) (seqX st) (vouX S st) (1 + st.dist % 40) := by unfold dirM; rw [if_pos hnr]
  refine stAllB (vs := (dirM S st).cells none 0 none 0) ((b26.keep' f1).keep' f14) (by rw [ho]; rfl) (fun w34 b34 f34 => ?_) |> fun h => by rw [edm] at h; exact h
  exact play_j4 (u14.loc f34 hb) hB hD hV hn hb1 ((c1.keep' f14).off1 hne f34) hs hne hb b34 (by rw [edm]; exact MM_nil rfl rfl) hQ
end
end Go.Proofs.YtnjmkhhaodgpbaaGreatX
namespace Go.Proofs.YtnjmkhhaodgpbaaGreatX
open Go.RowKit
set_option maxRecDepth 100000
section
variable {V w w' w2 w3 : World} {B : Base} {Q : QT} {g gr b g1 g26 : Nat} {x : HB} {xr : RHB} {ft fr ft' fr' F L L' : List Nat} {S S' R R' : Sc} {cs vs : List Value} {e : TypeId} {st : Stp} {now : Int} {rp lp : Option Addr} {rc lc n : Nat} {M : Msg}
abbrev Stp.val (x : Stp) (rp : Option Addr) (rc : Nat) (lp : Option Addr) (lc : Nat) : Value := .agg #[.int .i64 x.what, .int .i64 x.frm, .int .i64 x.voucher, .int .i64 x.dist, .int .u64 x.serial, .int .u64 x.seq, .int .u64 x.n, .bool x.pinned, .bool x.near, .int .i64 x.m.kind, .int .i64 x.m.frm, .int .i64 x.m.to, .int .u64 x.m.call, .int .u64 x.m.floor, .int .i64 x.m.op, .int .i64 x.m.field, .int .i64 x.m.item, .int .i64 x.m.tn, .int .u64 x.m.ts, .slice rp x.m.refs.length rc, .int .u64 x.m.value, .int .i64 x.m.code, .int .u64 x.m.seq, .int .i64 x.m.voucher, .int .u64 x.m.at_, .int .i64 x.m.dist, .int .u64 x.m.stamp, .slice lp x.m.list.length lc]
theorem ld_msgP {w : World} {p : Addr} {m : Msg} {rp lp : Option Addr} {rc lc : Nat} {K : Int → Int → Int → Int → Int → Int → Int → Int → Int → Int → Option Addr → Nat → Nat → Int → Int → Int → Int → Int → Int → Int → Option Addr → Nat → Nat → Prop} (hb : At w p (m.cells rp rc lp lc)) (h : K m.kind m.frm m.to m.call m.floor m.op m.field m.item m.tn m.ts rp m.refs.length rc m.value m.code m.seq m.voucher m.at_ m.dist m.stamp lp m.list.length lc) :
    ldI .i64 w (p.add 0) fun x0 => ldI .i64 w (p.add 1) fun x1 => ldI .i64 w (p.add 2) fun x2 => ldI .u64 w (p.add 3) fun x3 => ldI .u64 w (p.add 4) fun x4 => ldI .i64 w (p.add 5) fun x5 => ldI .i64 w (p.add 6) fun x6 => ldI .i64 w (p.add 7) fun x7 => ldI .i64 w (p.add 8) fun x8 => ldI .u64 w (p.add 9) fun x9 => ldSl w (p.add 10) fun x10p x10n x10c => ldI .u64 w (p.add 11) fun x11 => ldI .i64 w (p.add 12) fun x12 => ldI .u64 w (p.add 13) fun x13 => ldI .i64 w (p.add 14) fun x14 => ldI .u64 w (p.add 15) fun x15 => ldI .i64 w (p.add 16) fun x16 => ldI .u64 w (p.add 17) fun x17 => ldSl w (p.add 18) fun x18p x18n x18c => K x0 x1 x2 x3 x4 x5 x6 x7 x8 x9 x10p x10n x10c x11 x12 x13 x14 x15 x16 x17 x18p x18n x18c :=
  ld_int (hb 0 _ rfl) (ld_int (hb 1 _ rfl) (ld_int (hb 2 _ rfl) (ld_int (hb 3 _ rfl) (ld_int (hb 4 _ rfl) (ld_int (hb 5 _ rfl) (ld_int (hb 6 _ rfl) (ld_int (hb 7 _ rfl) (ld_int (hb 8 _ rfl) (ld_int (hb 9 _ rfl) (ld_sl (hb 10 _ rfl) (ld_int (hb 11 _ rfl) (ld_int (hb 12 _ rfl) (ld_int (hb 13 _ rfl) (ld_int (hb 14 _ rfl) (ld_int (hb 15 _ rfl) (ld_int (hb 16 _ rfl) (ld_int (hb 17 _ rfl) (ld_sl (hb 18 _ rfl) (h)))))))))))))))))))
theorem At.msg {p : Addr} (h : At w p (st.cells rp rc lp lc)) : At w (p.add 9) (st.m.cells rp rc lp lc) := fun j u hj => by
  rw [add_add]
  refine h (9 + j) u ?_
  unfold Stp.cells
  rw [List.getElem?_append_right (by show 9 ≤ 9 + j; omega)]
  rw [show 9 + j - [Value.int .i64 st.what, .int .i64 st.frm, .int .i64 st.voucher, .int .i64 st.dist, .int .u64 st.serial, .int .u64 st.seq, .int .u64 st.n, .bool st.pinned, .bool st.near].length = j by show 9 + j - 9 = j; omega]
  exact hj
theorem play_spec (q : P2 ⟨V, []⟩ w g x ft gr xr fr S S L) (hV : SV n S) (hn : n < 4096) (hc : 1 ≤ S.c.nodes ∧ S.c.nodes ≤ 64) (hs : StpW st) (hM : MM V st.m rp rc lp lc)
    (hQ : ∀ ft' fr' w', P2 ⟨V, []⟩ w' g x ft' gr xr fr' (playS S st now) (playS S st now) L → Fr (ft ++ fr) w w' → Q (.bool true) w') :
    CallR Tryz.prog 11 #[.pointer (some (at0 g 0)), .pointer (some (at0 x.h 0)), .pointer (some (at0 gr 0)), st.val rp rc lp lc, .int .u64 now] w Q := by
  apply X11.sound
  unfold X11.f
  have u := q.rebase
  have hB : Fr [] V w := q.F
  have hD : ∀ y ∈ ft ++ fr, V.heap.size ≤ y := fun y hy => by
    rcases List.mem_append.1 hy with h | h
    · rcases q.n1 y h with h' | h'
      · cases h'
      · exact h'
    · rcases q.n2 y h with h' | h'
      · cases h'
      · exact h'
  have hP : Pl ⟨w, ft ++ fr⟩ g x gr xr (playS S st now) Q := fun ft' fr' w' L' u' => by
    obtain ⟨q', f'⟩ := q.unbase u'
    exact hQ ft' fr' w' q' f'
  refine newB fun g1 w2 b1 f2 h2 => ?_
  have b1 : Blk w2 g1 (st.cells rp rc lp lc) 43 := b1
  have u2 := u.new1 f2 h2 b1
  obtain ⟨n1, n2, n3, n4⟩ := u2.R.n0
  refine opt_some rfl (ld_ptr n1 (opt_some rfl (ld_int n2 (ld_msgP b1.cat.msg (newB fun g26 w27 b26 f27 h27 => ?_)))))
  have hne : g1 ≠ g26 := by have := b1.lt; omega
  refine stAllB (vs := st.m.cells rp rc lp lc) b26 rfl fun w28 b28 f28 => ?_
  obtain ⟨u28, F28⟩ := u2.new f27 h27 b28 f28
  have c1 := b1.keep' F28
  have hser := hs.serial
  refine ld_int (c1.cat 4 _ rfl) (ld_bool (c1.cat 8 _ rfl) (bc_bool (fun hnr => ?_) (fun hnr => ?_)))
  · have e7 : Int.tmod st.serial 7 = st.serial % 7 := Int.tmod_eq_emod_of_nonneg hser.1
    have es : IntKind.wrap .u64 (1 + Int.tmod st.serial 7) = serX st := by
      unfold serX
      rw [if_pos hnr, u64w _ (by omega) (by omega)]
    refine ld_int (c1.cat 4 _ rfl) ⟨by omega, drawn fun w32 f32 _ => ?_⟩
    have u32 := u28.keep f32
    have c32 := c1.keep' f32
    obtain ⟨n1, n2, n3, n4⟩ := u32.R.n0
    have v1 := Int.emod_nonneg st.frm (show S.c.nodes ≠ 0 by omega)
    have v2 := Int.emod_lt_of_pos st.frm (show 0 < S.c.nodes by omega)
    have ef : IntKind.wrap .i64 (1 + st.frm % S.c.nodes) = 1 + st.frm % S.c.nodes := i64w _ (by omega) (by omega)
    have t1 : Int.tmod (1 + st.frm % S.c.nodes) S.c.nodes = (1 + st.frm % S.c.nodes) % S.c.nodes := Int.tmod_eq_emod_of_nonneg (by omega)
    have t2 := Int.emod_nonneg (1 + st.frm % S.c.nodes) (show S.c.nodes ≠ 0 by omega)
    have t3 := Int.emod_lt_of_pos (1 + st.frm % S.c.nodes) (show 0 < S.c.nodes by omega)
    refine ld_int (c32.cat 1 _ rfl) (opt_some rfl (ld_int n4 (pick_spec (by omega) (by omega) ⟨_, rfl, ?_⟩)))
    rw [ef, es]
    refine bc_eq (fun he => opt_some rfl (ld_int n4 ⟨by omega, ?_⟩)) (fun he => ?_)
    · rw [i64w (1 + Int.tmod (1 + st.frm % S.c.nodes) S.c.nodes) (by omega) (by omega)]
      have e0 : fromX S st = 1 + Int.tmod (1 + st.frm % S.c.nodes) S.c.nodes := by unfold fromX; rw [if_pos he]
      rw [← e0]
      exact play_j0 u32 hB hD hV hn hc (by simp) c32 hs hnr hne (by simp) (b28.keep' f32) rfl hP
    · have e0 : fromX S st = 1 + st.frm % S.c.nodes := by unfold fromX; rw [if_neg he]
      rw [← e0]
      exact play_j0 u32 hB hD hV hn hc (by simp) c32 hs hnr hne (by simp) (b28.keep' f32) rfl hP
  · have es : st.serial = serX st := by unfold serX; rw [if_neg (by rw [hnr]; decide)]
    have ed : dirM S st = st.m := by unfold dirM; rw [if_neg (by rw [hnr]; decide)]
    rw [es]
    exact play_j4 u28 hB hD hV hn (by simp) c1 hs hne (rp' := rp) (lp' := lp) (rc' := rc) (lc' := lc) (by simp) (by rw [ed]; exact b28) (by rw [ed]; exact hM) hP
end
end Go.Proofs.YtnjmkhhaodgpbaaGreatX
namespace Go.Proofs.YtnjmkhhaodgpbaaGreatX
open Go.RowKit
set_option maxRecDepth 100000
section
theorem ld_Stp {w : World} {p : Addr} {st : Stp} {rp lp : Option Addr} {rc lc : Nat} {K : Int → Int → Int → Int → Int → Int → Int → Bool → Bool → Int → Int → Int → Int → Int → Int → Int → Int → Int → Int → Option Addr → Nat → Nat → Int → Int → Int → Int → Int → Int → Int → Option Addr → Nat → Nat → Prop} (h : At w p (st.cells rp rc lp lc)) (hk : K st.what st.frm st.voucher st.dist st.serial st.seq st.n st.pinned st.near st.m.kind st.m.frm st.m.to st.m.call st.m.floor st.m.op st.m.field st.m.item st.m.tn st.m.ts rp st.m.refs.length rc st.m.value st.m.code st.m.seq st.m.voucher st.m.at_ st.m.dist st.m.stamp lp st.m.list.length lc) :
    ldI .i64 w (p.add 0) fun x0 => ldI .i64 w (p.add 1) fun x1 => ldI .i64 w (p.add 2) fun x2 => ldI .i64 w (p.add 3) fun x3 => ldI .u64 w (p.add 4) fun x4 => ldI .u64 w (p.add 5) fun x5 => ldI .u64 w (p.add 6) fun x6 => ldB w (p.add 7) fun x7 => ldB w (p.add 8) fun x8 => ldI .i64 w (p.add 9) fun x9 => ldI .i64 w (p.add 10) fun x10 => ldI .i64 w (p.add 11) fun x11 => ldI .u64 w (p.add 12) fun x12 => ldI .u64 w (p.add 13) fun x13 => ldI .i64 w (p.add 14) fun x14 => ldI .i64 w (p.add 15) fun x15 => ldI .i64 w (p.add 16) fun x16 => ldI .i64 w (p.add 17) fun x17 => ldI .u64 w (p.add 18) fun x18 => ldSl w (p.add 19) fun x19p x19n x19c => ldI .u64 w (p.add 20) fun x20 => ldI .i64 w (p.add 21) fun x21 => ldI .u64 w (p.add 22) fun x22 => ldI .i64 w (p.add 23) fun x23 => ldI .u64 w (p.add 24) fun x24 => ldI .i64 w (p.add 25) fun x25 => ldI .u64 w (p.add 26) fun x26 => ldSl w (p.add 27) fun x27p x27n x27c => K x0 x1 x2 x3 x4 x5 x6 x7 x8 x9 x10 x11 x12 x13 x14 x15 x16 x17 x18 x19p x19n x19c x20 x21 x22 x23 x24 x25 x26 x27p x27n x27c := ld_int (h 0 _ rfl) (ld_int (h 1 _ rfl) (ld_int (h 2 _ rfl) (ld_int (h 3 _ rfl) (ld_int (h 4 _ rfl) (ld_int (h 5 _ rfl) (ld_int (h 6 _ rfl) (ld_bool (h 7 _ rfl) (ld_bool (h 8 _ rfl) (ld_int (h 9 _ rfl) (ld_int (h 10 _ rfl) (ld_int (h 11 _ rfl) (ld_int (h 12 _ rfl) (ld_int (h 13 _ rfl) (ld_int (h 14 _ rfl) (ld_int (h 15 _ rfl) (ld_int (h 16 _ rfl) (ld_int (h 17 _ rfl) (ld_int (h 18 _ rfl) (ld_sl (h 19 _ rfl) (ld_int (h 20 _ rfl) (ld_int (h 21 _ rfl) (ld_int (h 22 _ rfl) (ld_int (h 23 _ rfl) (ld_int (h 24 _ rfl) (ld_int (h 25 _ rfl) (ld_int (h 26 _ rfl) (ld_sl (h 27 _ rfl) (hk))))))))))))))))))))))))))))
variable {V W w w' w2 w3 : World} {B : Base} {Q : QT} {g gr b g1 g26 : Nat} {x : HB} {xr : RHB} {ft fr ft' fr' F fh L L' : List Nat} {S S' R R' : Sc} {cs vs : List Value} {e : TypeId} {st : Stp} {now s node last : Int} {rp lp : Option Addr} {rc lc n : Nat} {M : Msg} {l : List (Int × Int)}
theorem raw_open' {H : Type} {W : World} {cs : Array Value} {d : DataW H} (h : Lies Tryz.prog W 6 24 cs.toList d) : ∃ r : Raw, cs = r.cells.toArray ∧ RawW r := by
  obtain ⟨r, hr, w1, w2⟩ := Raw_of_lies (n := 4) h
  exact ⟨r, by apply Array.ext'; exact hr, ⟨(u64b w1).1, (u64b w2).1⟩⟩
theorem two_of_yard {c : Cfg} (F0 : Fr [] V W) (P : PS w g x ft (sc0 c node)) (H : PR w xr fr node 5 (objs 5)) (Bk : Blk w gr (rscells c xr.h 1048576 none 0 0 none 0 0 none 0 0 0) 82) (dj : ∀ y ∈ ft, y ∉ fr) (n1 : gr ∉ ft) (n2 : gr ∉ fr) (F : Fr [] W w)
    (m1 : ∀ y ∈ ft, W.heap.size ≤ y) (m2 : ∀ y ∈ fr, W.heap.size ≤ y) (m3 : W.heap.size ≤ gr) (hL : ∀ b ∈ L, V.heap.size ≤ b ∧ b < W.heap.size) : P2 ⟨V, []⟩ w g x ft gr xr (gr :: fr) (sc0 c node) (sc0 c node) L := by
  have z := F0.size
  have z2 := F.size
  have q := two_yard P H Bk dj n1 n2 (F0.tr F) (fun y hy => by have := m1 y hy; omega) (fun y hy => by have := m2 y hy; omega) (by omega)
  refine ⟨q.P, q.R, q.sep, q.n1, q.n2, q.F, fun b hb => ?_⟩
  obtain ⟨h1, h2⟩ := hL b hb
  refine ⟨h1, by omega, fun hm => by have := m1 b hm; omega, fun hm => ?_⟩
  rcases List.mem_cons.1 hm with e | hm
  · omega
  · have := m2 b hm; omega
end
end Go.Proofs.YtnjmkhhaodgpbaaGreatX
namespace Go.Proofs.YtnjmkhhaodgpbaaGreatX
open Go.RowKit
set_option maxRecDepth 100000
def X14.l0 (Q : QT) : Nat → Int → Int → Bool → Addr → World → Prop
  | 0, _, _, _, _, _ => False
  | k + 1, t1, t6, t7, t13, w => RunR Tryz.prog (Instr.next (.pointer (some t13)) false 0) w fun v1 w2 => (v1 = .tuple #[.bool false] ∧ Q (.tuple #[.int .u64 t6, .bool t7]) w2) ∨ ∃ (k3 : Int) (e4 : Value), v1 = .tuple #[.bool true, .int .u64 k3, e4] ∧ RunR Tryz.prog (Instr.entry (.pointer (some t13))) w2 fun v5 w6 => ∃ (k7 : Int) (e8 : Value), v5 = .tuple #[.int .u64 k7, e8] ∧ bcase (decide (k7 > t1)) (bcase (!t7) (X14.l0 Q k t1 k7 true t13 w6) (bcase (decide (k7 < t6)) (X14.l0 Q k t1 k7 true t13 w6) (X14.l0 Q k t1 t6 t7 t13 w6))) (X14.l0 Q k t1 t6 t7 t13 w6)
def X14.f (a0 : Option Addr) (a1 : Int) (w : World) (Q : QT) : Prop := optP a0 fun p1 => ldM w (p1.add 4) fun x2 => RunR Tryz.prog (Instr.range 101 (.map x2)) w fun v3 w4 => ∃ r5 : Addr, v3 = .pointer (some r5) ∧ ∃ m6, X14.l0 Q m6 a1 (0 : Int) false r5 w4
def X14.S (Q : QT) : Segs
  | 0, φ, ρ, w => qI .u64 (ρ 1) fun t1 => qI .u64 (ρ 6) fun t6 => qB (ρ 7) fun t7 => qA (ρ 13) fun t13 => X14.l0 Q (φ 0) t1 t6 t7 t13 w
  | _, _, _, _ => False
noncomputable def X14.an : Ann := (.seq .leaf (.seq .leaf (.seq (.seq .leaf (.block (.loop 0 (.seq .leaf (.seq (.cond .leaf .leaf) (.block (.seq .leaf (.seq .leaf (.cond .leaf .leaf))))))))) (.seq .leaf .leaf))))
noncomputable def X14.c : Code := Tryz.f14.body.getD .skip
theorem X14.v (Q : QT) : V Tryz.prog (X14.S Q) X14.an X14.c (retC Tryz.prog Tryz.f14 Q) := ⟨trivial, ⟨trivial, ⟨⟨trivial, ⟨(by
    intro φ ρ w h
    simp only [X14.S] at h
    obtain ⟨t1, e1, h⟩ := qI_elim h
    obtain ⟨t6, e6, h⟩ := qI_elim h
    obtain ⟨t7, e7, h⟩ := qB_elim h
    obtain ⟨t13, e13, h⟩ := qA_elim h
    cases hk : φ 0 with
    | zero => rw [hk] at h; exact h.elim
    | succ k => rw [hk] at h; exact ⟨k, Nat.lt_succ_self k, ((((Env.nil.put (some 1) (.int .u64 t1)).put (some 6) (.int .u64 t6)).put (some 7) (.bool t7)).put (some 13) (.pointer (some t13))), Env.le_put e13 (Env.le_put e7 (Env.le_put e6 (Env.le_put e1 (Env.le_nil _)))), Eq.mp (by kernel_rfl) h⟩), ⟨trivial, ⟨⟨trivial, trivial⟩, ⟨trivial, ⟨trivial, ⟨trivial, trivial⟩⟩⟩⟩⟩⟩⟩, ⟨trivial, trivial⟩⟩⟩⟩
theorem X14.sound (a0 : Option Addr) (a1 : Int) (w : World) (Q : QT) (h : X14.f a0 a1 w Q) : CallR Tryz.prog 14 #[.pointer a0, .int .u64 a1] w Q :=
  fn_sound noGr mixed Tryz.func14 (c := X14.c) (an := X14.an) (S := X14.S Q) (φ := fun _ => 0) (args := [.pointer a0, .int .u64 a1]) (by kernel_rfl) (by kernel_rfl) (by kernel_rfl) (X14.v Q) (Eq.mp (by kernel_rfl) h)
def X4.l2 (Q : QT) (b0 : Option Addr → Nat → Nat → Option Addr → Option Addr → Option Addr → Int → World → Prop) (b1 : Option Addr → Nat → Nat → Option Addr → Option Addr → Option Addr → Int → Option Addr → Nat → Nat → Int → Bool → World → Prop) : Nat → (Option Addr) → Nat → Nat → (Option Addr) → (Option Addr) → (Option Addr) → Int → (Option Addr) → Nat → Nat → Int → Int → Int → World → Prop
  | 0, _, _, _, _, _, _, _, _, _, _, _, _, _, _ => False
  | k + 1, t1p, t1n, t1c, t6, t7, t8, t9, t11p, t11n, t11c, t12, t14, t15, w => bcase (decide (t15 < ((t11n : Nat) : Int))) ((0 ≤ t15 ∧ t15 < ((t11n : Nat) : Int)) ∧ optP t11p fun p1 => ldI .u64 w ((p1.add (Int.toNat t15 * 6)).add 0) fun x2 => bcase (x2 == t12) ((0 ≤ t15 ∧ t15 < ((t11n : Nat) : Int)) ∧ optP t11p fun p3 => ldB w ((p3.add (Int.toNat t15 * 6)).add 2) fun x4 => bcase x4 (bcase (t14 == (0 : Int)) ((0 ≤ t15 ∧ t15 < ((t11n : Nat) : Int)) ∧ optP t11p fun p5 => ldI .i64 w ((p5.add (Int.toNat t15 * 6)).add 5) fun x6 => X4.l2 Q b0 b1 k t1p t1n t1c t6 t7 t8 t9 t11p t11n t11c t12 x6 (IntKind.wrap .i64 (t15 + (1 : Int))) w) ((0 ≤ t15 ∧ t15 < ((t11n : Nat) : Int)) ∧ optP t11p fun p7 => ldI .i64 w ((p7.add (Int.toNat t15 * 6)).add 5) fun x8 => bcase (decide (x8 < t14)) ((0 ≤ t15 ∧ t15 < ((t11n : Nat) : Int)) ∧ optP t11p fun p9 => ldI .i64 w ((p9.add (Int.toNat t15 * 6)).add 5) fun x10 => X4.l2 Q b0 b1 k t1p t1n t1c t6 t7 t8 t9 t11p t11n t11c t12 x10 (IntKind.wrap .i64 (t15 + (1 : Int))) w) (X4.l2 Q b0 b1 k t1p t1n t1c t6 t7 t8 t9 t11p t11n t11c t12 t14 (IntKind.wrap .i64 (t15 + (1 : Int))) w))) (X4.l2 Q b0 b1 k t1p t1n t1c t6 t7 t8 t9 t11p t11n t11c t12 t14 (IntKind.wrap .i64 (t15 + (1 : Int))) w)) (X4.l2 Q b0 b1 k t1p t1n t1c t6 t7 t8 t9 t11p t11n t11c t12 t14 (IntKind.wrap .i64 (t15 + (1 : Int))) w)) (CallR Tryz.prog 15 #[.pointer t6, .int .u64 t12] w fun v11 w12 => ∃ (y13 : Bool), v11 = .bool y13 ∧ bcase y13 (CallR Tryz.prog 16 #[.pointer t7, .int .u64 t12] w12 fun v14 w15 => ∃ (y16 : Int), v14 = .int .i64 y16 ∧ bcase (y16 != (0 : Int)) (Q (.bool false) w15) (CallR Tryz.prog 14 #[.pointer t7, .int .u64 t12] w15 fun v17 w18 => ∃ (y19 : Int) (y20 : Bool), v17 = .tuple #[.int .u64 y19, .bool y20] ∧ b1 t1p t1n t1c t6 t7 t8 t9 t11p t11n t11c y19 y20 w18)) (CallR Tryz.prog 16 #[.pointer t7, .int .u64 t12] w12 fun v21 w22 => ∃ (y23 : Int), v21 = .int .i64 y23 ∧ bcase (y23 != t14) (Q (.bool false) w22) (CallR Tryz.prog 14 #[.pointer t7, .int .u64 t12] w22 fun v24 w25 => ∃ (y26 : Int) (y27 : Bool), v24 = .tuple #[.int .u64 y26, .bool y27] ∧ b1 t1p t1n t1c t6 t7 t8 t9 t11p t11n t11c y26 y27 w25)))
def X4.l1 (Q : QT) (b0 : Option Addr → Nat → Nat → Option Addr → Option Addr → Option Addr → Int → World → Prop) : Nat → (Option Addr) → Nat → Nat → (Option Addr) → (Option Addr) → (Option Addr) → Int → (Option Addr) → Nat → Nat → Int → Bool → World → Prop
  | 0, _, _, _, _, _, _, _, _, _, _, _, _, _ => False
  | k + 1, t1p, t1n, t1c, t6, t7, t8, t9, t11p, t11n, t11c, t12, t13, w => bcase t13 (∃ m1, X4.l2 Q b0 (X4.l1 Q b0 k) m1 t1p t1n t1c t6 t7 t8 t9 t11p t11n t11c t12 (0 : Int) (0 : Int) w) (b0 t1p t1n t1c t6 t7 t8 (IntKind.wrap .i64 (t9 + (1 : Int))) w)
def X4.j3 (Q : QT) (b0 : Option Addr → Nat → Nat → Option Addr → Option Addr → Option Addr → Int → World → Prop) (t1p : Option Addr) (t1n t1c : Nat) (t6 t7 t8 : Option Addr) (t9 : Int) (t10 : Addr) (w : World) : Prop := ldI .i64 w (t10.add 0) fun x1 => ldI .i64 w (t10.add 1) fun x2 => ldI .i64 w (t10.add 2) fun x3 => ldI .i64 w (t10.add 3) fun x4 => ldI .u64 w (t10.add 4) fun x5 => ldI .u64 w (t10.add 5) fun x6 => ldI .u64 w (t10.add 6) fun x7 => ldB w (t10.add 7) fun x8 => ldB w (t10.add 8) fun x9 => ldI .i64 w (t10.add 9) fun x10 => ldI .i64 w (t10.add 10) fun x11 => ldI .i64 w (t10.add 11) fun x12 => ldI .u64 w (t10.add 12) fun x13 => ldI .u64 w (t10.add 13) fun x14 => ldI .i64 w (t10.add 14) fun x15 => ldI .i64 w (t10.add 15) fun x16 => ldI .i64 w (t10.add 16) fun x17 => ldI .i64 w (t10.add 17) fun x18 => ldI .u64 w (t10.add 18) fun x19 => ldSl w (t10.add 19) fun x20p x20n x20c => ldI .u64 w (t10.add 20) fun x21 => ldI .i64 w (t10.add 21) fun x22 => ldI .u64 w (t10.add 22) fun x23 => ldI .i64 w (t10.add 23) fun x24 => ldI .u64 w (t10.add 24) fun x25 => ldI .i64 w (t10.add 25) fun x26 => ldI .u64 w (t10.add 26) fun x27 => ldSl w (t10.add 27) fun x28p x28n x28c => CallR Tryz.prog 11 #[.pointer t6, .pointer t7, .pointer t8, .agg #[.int .i64 x1, .int .i64 x2, .int .i64 x3, .int .i64 x4, .int .u64 x5, .int .u64 x6, .int .u64 x7, .bool x8, .bool x9, .int .i64 x10, .int .i64 x11, .int .i64 x12, .int .u64 x13, .int .u64 x14, .int .i64 x15, .int .i64 x16, .int .i64 x17, .int .i64 x18, .int .u64 x19, .slice x20p x20n x20c, .int .u64 x21, .int .i64 x22, .int .u64 x23, .int .i64 x24, .int .u64 x25, .int .i64 x26, .int .u64 x27, .slice x28p x28n x28c], .int .u64 (IntKind.wrap .u64 (IntKind.wrap .i64 ((2 : Int) * t9)))] w fun v29 w30 => ∃ (y31 : Bool), v29 = .bool y31 ∧ CallR Tryz.prog 13 #[.pointer t6] w30 fun v32 w33 => ∃ (y34p : Option Addr) (y34n y34c : Nat), v32 = .slice y34p y34n y34c ∧ CallR Tryz.prog 14 #[.pointer t7, .int .u64 0] w33 fun v35 w36 => ∃ (y37 : Int) (y38 : Bool), v35 = .tuple #[.int .u64 y37, .bool y38] ∧ ∃ m39, X4.l1 Q b0 m39 t1p t1n t1c t6 t7 t8 t9 y34p y34n y34c y37 y38 w36
def X4.j4 (Q : QT) (b0 : Option Addr → Nat → Nat → Option Addr → Option Addr → Option Addr → Int → World → Prop) (t1p : Option Addr) (t1n t1c : Nat) (t6 t7 t8 : Option Addr) (t9 : Int) (w : World) : Prop := (0 ≤ t9 ∧ t9 < ((t1n : Nat) : Int)) ∧ optP t1p fun p1 => ldI .i64 w ((p1.add (Int.toNat t9 * 28)).add 0) fun x2 => ldI .i64 w ((p1.add (Int.toNat t9 * 28)).add 1) fun x3 => ldI .i64 w ((p1.add (Int.toNat t9 * 28)).add 2) fun x4 => ldI .i64 w ((p1.add (Int.toNat t9 * 28)).add 3) fun x5 => ldI .u64 w ((p1.add (Int.toNat t9 * 28)).add 4) fun x6 => ldI .u64 w ((p1.add (Int.toNat t9 * 28)).add 5) fun x7 => ldI .u64 w ((p1.add (Int.toNat t9 * 28)).add 6) fun x8 => ldB w ((p1.add (Int.toNat t9 * 28)).add 7) fun x9 => ldB w ((p1.add (Int.toNat t9 * 28)).add 8) fun x10 => ldI .i64 w ((p1.add (Int.toNat t9 * 28)).add 9) fun x11 => ldI .i64 w ((p1.add (Int.toNat t9 * 28)).add 10) fun x12 => ldI .i64 w ((p1.add (Int.toNat t9 * 28)).add 11) fun x13 => ldI .u64 w ((p1.add (Int.toNat t9 * 28)).add 12) fun x14 => ldI .u64 w ((p1.add (Int.toNat t9 * 28)).add 13) fun x15 => ldI .i64 w ((p1.add (Int.toNat t9 * 28)).add 14) fun x16 => ldI .i64 w ((p1.add (Int.toNat t9 * 28)).add 15) fun x17 => ldI .i64 w ((p1.add (Int.toNat t9 * 28)).add 16) fun x18 => ldI .i64 w ((p1.add (Int.toNat t9 * 28)).add 17) fun x19 => ldI .u64 w ((p1.add (Int.toNat t9 * 28)).add 18) fun x20 => ldSl w ((p1.add (Int.toNat t9 * 28)).add 19) fun x21p x21n x21c => ldI .u64 w ((p1.add (Int.toNat t9 * 28)).add 20) fun x22 => ldI .i64 w ((p1.add (Int.toNat t9 * 28)).add 21) fun x23 => ldI .u64 w ((p1.add (Int.toNat t9 * 28)).add 22) fun x24 => ldI .i64 w ((p1.add (Int.toNat t9 * 28)).add 23) fun x25 => ldI .u64 w ((p1.add (Int.toNat t9 * 28)).add 24) fun x26 => ldI .i64 w ((p1.add (Int.toNat t9 * 28)).add 25) fun x27 => ldI .u64 w ((p1.add (Int.toNat t9 * 28)).add 26) fun x28 => ldSl w ((p1.add (Int.toNat t9 * 28)).add 27) fun x29p x29n x29c => newK w #[.int .i64 0, .int .i64 0, .int .i64 0, .int .i64 0, .int .u64 0, .int .u64 0, .int .u64 0, .bool false, .bool false, .int .i64 0, .int .i64 0, .int .i64 0, .int .u64 0, .int .u64 0, .int .i64 0, .int .i64 0, .int .i64 0, .int .i64 0, .int .u64 0, .slice none 0 0, .int .u64 0, .int .i64 0, .int .u64 0, .int .i64 0, .int .u64 0, .int .i64 0, .int .u64 0, .slice none 0 0] 43 fun g30 w31 => stAll w31 g30 [.int .i64 x2, .int .i64 x3, .int .i64 x4, .int .i64 x5, .int .u64 x6, .int .u64 x7, .int .u64 x8, .bool x9, .bool x10, .int .i64 x11, .int .i64 x12, .int .i64 x13, .int .u64 x14, .int .u64 x15, .int .i64 x16, .int .i64 x17, .int .i64 x18, .int .i64 x19, .int .u64 x20, .slice x21p x21n x21c, .int .u64 x22, .int .i64 x23, .int .u64 x24, .int .i64 x25, .int .u64 x26, .int .i64 x27, .int .u64 x28, .slice x29p x29n x29c] fun w32 => ldB w32 (g30.add 7) fun x33 => bcase x33 (stK w32 (g30.add 7) (.bool true) fun w34 => X4.j3 Q b0 t1p t1n t1c t6 t7 t8 t9 g30 w34) ((2 : Int) ≠ 0 ∧ stK w32 (g30.add 7) (.bool ((Int.tmod t9 (2 : Int)) == (0 : Int))) fun w35 => X4.j3 Q b0 t1p t1n t1c t6 t7 t8 t9 g30 w35)
def X4.l0 (Q : QT) : Nat → (Option Addr) → Nat → Nat → (Option Addr) → (Option Addr) → (Option Addr) → Int → World → Prop
  | 0, _, _, _, _, _, _, _, _ => False
  | k + 1, t1p, t1n, t1c, t6, t7, t8, t9, w => bcase (decide (t9 < ((t1n : Nat) : Int))) (bcase (decide (t9 < (120 : Int))) (X4.j4 Q (X4.l0 Q k) t1p t1n t1c t6 t7 t8 t9 w) (Q (.bool true) w)) (Q (.bool true) w)
def X4.j5 (Q : QT) (t1p : Option Addr) (t1n t1c : Nat) (t6 t7 t8 : Option Addr) (w : World) : Prop := ∃ m1, X4.l0 Q m1 t1p t1n t1c t6 t7 t8 (0 : Int) w
def X4.f (a0_0 a0_1 a0_2 a0_3 a0_4 a0_5 a0_6 a0_7 a0_8 a0_9 a0_10 a0_11 a0_12 a0_13 a0_14 a0_15 a0_16 a0_17 a0_18 a0_19 a0_20 a0_21 : Int) (a1p : Option Addr) (a1n a1c : Nat) (w : World) (Q : QT) : Prop := newK w #[.int .i64 a0_0, .int .i64 a0_1, .int .i64 a0_2, .int .i64 a0_3, .int .i64 a0_4, .int .i64 a0_5, .int .i64 a0_6, .int .i64 a0_7, .int .i64 a0_8, .int .i64 a0_9, .int .i64 a0_10, .int .i64 a0_11, .int .i64 a0_12, .int .i64 a0_13, .int .i64 a0_14, .int .i64 a0_15, .int .i64 a0_16, .int .i64 a0_17, .int .i64 a0_18, .int .i64 a0_19, .int .u64 a0_20, .int .u64 a0_21] 24 fun g1 w2 => ldI .i64 w2 (g1.add 0) fun x3 => ldI .i64 w2 (g1.add 1) fun x4 => ldI .i64 w2 (g1.add 2) fun x5 => ldI .i64 w2 (g1.add 3) fun x6 => ldI .i64 w2 (g1.add 4) fun x7 => ldI .i64 w2 (g1.add 5) fun x8 => ldI .i64 w2 (g1.add 6) fun x9 => ldI .i64 w2 (g1.add 7) fun x10 => ldI .i64 w2 (g1.add 8) fun x11 => ldI .i64 w2 (g1.add 9) fun x12 => ldI .i64 w2 (g1.add 10) fun x13 => ldI .i64 w2 (g1.add 11) fun x14 => ldI .i64 w2 (g1.add 12) fun x15 => ldI .i64 w2 (g1.add 13) fun x16 => ldI .i64 w2 (g1.add 14) fun x17 => ldI .i64 w2 (g1.add 15) fun x18 => ldI .i64 w2 (g1.add 16) fun x19 => ldI .i64 w2 (g1.add 17) fun x20 => ldI .i64 w2 (g1.add 18) fun x21 => ldI .i64 w2 (g1.add 19) fun x22 => ldI .u64 w2 (g1.add 20) fun x23 => ldI .u64 w2 (g1.add 21) fun x24 => CallR Tryz.prog 7 #[.agg #[.int .i64 x3, .int .i64 x4, .int .i64 x5, .int .i64 x6, .int .i64 x7, .int .i64 x8, .int .i64 x9, .int .i64 x10, .int .i64 x11, .int .i64 x12, .int .i64 x13, .int .i64 x14, .int .i64 x15, .int .i64 x16, .int .i64 x17, .int .i64 x18, .int .i64 x19, .int .i64 x20, .int .i64 x21, .int .i64 x22, .int .u64 x23, .int .u64 x24]] w2 fun v25 w26 => ∃ (y27 y28 y29 y30 y31 y32 y33 y34 y35 y36 y37 y38 y39 y40 y41 y42 y43 y44 y45 y46 y47 y48 : Int), v25 = .agg #[.int .i64 y27, .int .i64 y28, .int .i64 y29, .int .i64 y30, .int .i64 y31, .int .i64 y32, .int .i64 y33, .int .i64 y34, .int .i64 y35, .int .i64 y36, .int .i64 y37, .int .u64 y38, .int .u64 y39, .int .u64 y40, .int .u64 y41, .int .u64 y42, .int .u64 y43, .int .i64 y44, .int .i64 y45, .int .i64 y46, .int .u64 y47, .int .u64 y48] ∧ newK w26 #[.int .i64 0, .int .i64 0, .int .i64 0, .int .i64 0, .int .i64 0, .int .i64 0, .int .i64 0, .int .i64 0, .int .i64 0, .int .i64 0, .int .i64 0, .int .u64 0, .int .u64 0, .int .u64 0, .int .u64 0, .int .u64 0, .int .u64 0, .int .i64 0, .int .i64 0, .int .i64 0, .int .u64 0, .int .u64 0] 27 fun g49 w50 => stAll w50 g49 [.int .i64 y27, .int .i64 y28, .int .i64 y29, .int .i64 y30, .int .i64 y31, .int .i64 y32, .int .i64 y33, .int .i64 y34, .int .i64 y35, .int .i64 y36, .int .i64 y37, .int .u64 y38, .int .u64 y39, .int .u64 y40, .int .u64 y41, .int .u64 y42, .int .u64 y43, .int .i64 y44, .int .i64 y45, .int .i64 y46, .int .u64 y47, .int .u64 y48] fun w51 => ldI .i64 w51 (g49.add 0) fun x52 => ldI .i64 w51 (g49.add 1) fun x53 => ldI .i64 w51 (g49.add 2) fun x54 => ldI .i64 w51 (g49.add 3) fun x55 => ldI .i64 w51 (g49.add 4) fun x56 => ldI .i64 w51 (g49.add 5) fun x57 => ldI .i64 w51 (g49.add 6) fun x58 => ldI .i64 w51 (g49.add 7) fun x59 => ldI .i64 w51 (g49.add 8) fun x60 => ldI .i64 w51 (g49.add 9) fun x61 => ldI .i64 w51 (g49.add 10) fun x62 => ldI .u64 w51 (g49.add 11) fun x63 => ldI .u64 w51 (g49.add 12) fun x64 => ldI .u64 w51 (g49.add 13) fun x65 => ldI .u64 w51 (g49.add 14) fun x66 => ldI .u64 w51 (g49.add 15) fun x67 => ldI .u64 w51 (g49.add 16) fun x68 => ldI .i64 w51 (g49.add 17) fun x69 => ldI .i64 w51 (g49.add 18) fun x70 => ldI .i64 w51 (g49.add 19) fun x71 => ldI .u64 w51 (g49.add 20) fun x72 => ldI .u64 w51 (g49.add 21) fun x73 => CallR Tryz.prog 8 #[.agg #[.int .i64 x52, .int .i64 x53, .int .i64 x54, .int .i64 x55, .int .i64 x56, .int .i64 x57, .int .i64 x58, .int .i64 x59, .int .i64 x60, .int .i64 x61, .int .i64 x62, .int .u64 x63, .int .u64 x64, .int .u64 x65, .int .u64 x66, .int .u64 x67, .int .u64 x68, .int .i64 x69, .int .i64 x70, .int .i64 x71, .int .u64 x72, .int .u64 x73], .int .i64 1] w51 fun v74 w75 => ∃ (y76 y77 y78 : Option Addr), v74 = .tuple #[.pointer y76, .pointer y77, .pointer y78] ∧ CallR Tryz.prog 10 #[] w75 fun v79 w80 => ∃ (y81 : Bool), v79 = .bool y81 ∧ bcase (!y81) (Q (.bool false) w80) (bcase (Option.isNone y76) (Q (.bool false) w80) (X4.j5 Q a1p a1n a1c y76 y77 y78 w80))
def X4.S (Q : QT) : Segs
  | 0, φ, ρ, w => qSl (ρ 1) fun t1p t1n t1c => qP (ρ 6) fun t6 => qP (ρ 7) fun t7 => qP (ρ 8) fun t8 => qI .i64 (ρ 9) fun t9 => X4.l0 Q (φ 0) t1p t1n t1c t6 t7 t8 t9 w
  | 1, φ, ρ, w => qSl (ρ 1) fun t1p t1n t1c => qP (ρ 6) fun t6 => qP (ρ 7) fun t7 => qP (ρ 8) fun t8 => qI .i64 (ρ 9) fun t9 => qSl (ρ 11) fun t11p t11n t11c => qI .u64 (ρ 12) fun t12 => qB (ρ 13) fun t13 => X4.l1 Q (X4.l0 Q (φ 0)) (φ 1) t1p t1n t1c t6 t7 t8 t9 t11p t11n t11c t12 t13 w
  | 2, φ, ρ, w => qSl (ρ 1) fun t1p t1n t1c => qP (ρ 6) fun t6 => qP (ρ 7) fun t7 => qP (ρ 8) fun t8 => qI .i64 (ρ 9) fun t9 => qSl (ρ 11) fun t11p t11n t11c => qI .u64 (ρ 12) fun t12 => qI .i64 (ρ 14) fun t14 => qI .i64 (ρ 15) fun t15 => X4.l2 Q (X4.l0 Q (φ 0)) (X4.l1 Q (X4.l0 Q (φ 0)) (φ 1)) (φ 2) t1p t1n t1c t6 t7 t8 t9 t11p t11n t11c t12 t14 t15 w
  | 3, φ, ρ, w => qSl (ρ 1) fun t1p t1n t1c => qP (ρ 6) fun t6 => qP (ρ 7) fun t7 => qP (ρ 8) fun t8 => qI .i64 (ρ 9) fun t9 => qA (ρ 10) fun t10 => X4.j3 Q (X4.l0 Q (φ 0)) t1p t1n t1c t6 t7 t8 t9 t10 w
  | 4, φ, ρ, w => qSl (ρ 1) fun t1p t1n t1c => qP (ρ 6) fun t6 => qP (ρ 7) fun t7 => qP (ρ 8) fun t8 => qI .i64 (ρ 9) fun t9 => X4.j4 Q (X4.l0 Q (φ 0)) t1p t1n t1c t6 t7 t8 t9 w
  | 5, φ, ρ, w => qSl (ρ 1) fun t1p t1n t1c => qP (ρ 6) fun t6 => qP (ρ 7) fun t7 => qP (ρ 8) fun t8 => X4.j5 Q t1p t1n t1c t6 t7 t8 w
  | _, _, _, _ => False
noncomputable def X4.an : Ann := (.seq .leaf (.seq .leaf (.seq .leaf (.seq (.seq .leaf (.cond (.seq .leaf .leaf) .leaf)) (.join 5 (.seq (.seq .leaf (.block (.loop 0 (.seq (.seq .leaf (.cond .leaf .leaf)) (.join 4 (.seq (.block (.seq .leaf (.seq .leaf (.join 3 (.seq .leaf (.seq .leaf (.seq .leaf (.block (.loop 1 (.seq (.seq .leaf (.cond .leaf .leaf)) (.block (.seq .leaf (.seq (.seq .leaf (.block (.loop 2 (.seq (.seq .leaf (.cond .leaf .leaf)) (.seq (.block (.seq .leaf (.cond .leaf .leaf))) .leaf))))) (.seq (.seq .leaf (.cond .leaf .leaf)) (.seq (.seq .leaf (.cond (.seq .leaf .leaf) .leaf)) .leaf))))))))))))))) .leaf)))))) (.seq .leaf .leaf)))))))
noncomputable def X4.c : Code := Tryz.f4.body.getD .skip
theorem X4.v (Q : QT) : V Tryz.prog (X4.S Q) X4.an X4.c (retC Tryz.prog Tryz.f4 Q) := ⟨trivial, ⟨trivial, ⟨trivial, ⟨⟨trivial, ⟨⟨trivial, trivial⟩, trivial⟩⟩, ⟨(by
    intro φ ρ w h
    simp only [X4.S] at h
    obtain ⟨t1p, t1n, t1c, e1, h⟩ := qSl_elim h
    obtain ⟨t6, e6, h⟩ := qP_elim h
    obtain ⟨t7, e7, h⟩ := qP_elim h
    obtain ⟨t8, e8, h⟩ := qP_elim h
    exact ⟨((((Env.nil.put (some 1) (.slice t1p t1n t1c)).put (some 6) (.pointer t6)).put (some 7) (.pointer t7)).put (some 8) (.pointer t8)), Env.le_put e8 (Env.le_put e7 (Env.le_put e6 (Env.le_put e1 (Env.le_nil _)))), Eq.mp (by kernel_rfl) h⟩), ⟨⟨trivial, ⟨(by
    intro φ ρ w h
    simp only [X4.S] at h
    obtain ⟨t1p, t1n, t1c, e1, h⟩ := qSl_elim h
    obtain ⟨t6, e6, h⟩ := qP_elim h
    obtain ⟨t7, e7, h⟩ := qP_elim h
    obtain ⟨t8, e8, h⟩ := qP_elim h
    obtain ⟨t9, e9, h⟩ := qI_elim h
    cases hk : φ 0 with
    | zero => rw [hk] at h; exact h.elim
    | succ k => rw [hk] at h; exact ⟨k, Nat.lt_succ_self k, (((((Env.nil.put (some 1) (.slice t1p t1n t1c)).put (some 6) (.pointer t6)).put (some 7) (.pointer t7)).put (some 8) (.pointer t8)).put (some 9) (.int .i64 t9)), Env.le_put e9 (Env.le_put e8 (Env.le_put e7 (Env.le_put e6 (Env.le_put e1 (Env.le_nil _))))), Eq.mp (by kernel_rfl) h⟩), ⟨⟨trivial, ⟨trivial, trivial⟩⟩, ⟨(by
    intro φ ρ w h
    simp only [X4.S] at h
    obtain ⟨t1p, t1n, t1c, e1, h⟩ := qSl_elim h
    obtain ⟨t6, e6, h⟩ := qP_elim h
    obtain ⟨t7, e7, h⟩ := qP_elim h
    obtain ⟨t8, e8, h⟩ := qP_elim h
    obtain ⟨t9, e9, h⟩ := qI_elim h
    exact ⟨(((((Env.nil.put (some 1) (.slice t1p t1n t1c)).put (some 6) (.pointer t6)).put (some 7) (.pointer t7)).put (some 8) (.pointer t8)).put (some 9) (.int .i64 t9)), Env.le_put e9 (Env.le_put e8 (Env.le_put e7 (Env.le_put e6 (Env.le_put e1 (Env.le_nil _))))), Eq.mp (by kernel_rfl) h⟩), ⟨⟨trivial, ⟨trivial, ⟨(by
    intro φ ρ w h
    simp only [X4.S] at h
    obtain ⟨t1p, t1n, t1c, e1, h⟩ := qSl_elim h
    obtain ⟨t6, e6, h⟩ := qP_elim h
    obtain ⟨t7, e7, h⟩ := qP_elim h
    obtain ⟨t8, e8, h⟩ := qP_elim h
    obtain ⟨t9, e9, h⟩ := qI_elim h
    obtain ⟨t10, e10, h⟩ := qA_elim h
    exact ⟨((((((Env.nil.put (some 1) (.slice t1p t1n t1c)).put (some 6) (.pointer t6)).put (some 7) (.pointer t7)).put (some 8) (.pointer t8)).put (some 9) (.int .i64 t9)).put (some 10) (.pointer (some t10))), Env.le_put e10 (Env.le_put e9 (Env.le_put e8 (Env.le_put e7 (Env.le_put e6 (Env.le_put e1 (Env.le_nil _)))))), Eq.mp (by kernel_rfl) h⟩), ⟨trivial, ⟨trivial, ⟨trivial, ⟨(by
    intro φ ρ w h
    simp only [X4.S] at h
    obtain ⟨t1p, t1n, t1c, e1, h⟩ := qSl_elim h
    obtain ⟨t6, e6, h⟩ := qP_elim h
    obtain ⟨t7, e7, h⟩ := qP_elim h
    obtain ⟨t8, e8, h⟩ := qP_elim h
    obtain ⟨t9, e9, h⟩ := qI_elim h
    obtain ⟨t11p, t11n, t11c, e11, h⟩ := qSl_elim h
    obtain ⟨t12, e12, h⟩ := qI_elim h
    obtain ⟨t13, e13, h⟩ := qB_elim h
    cases hk : φ 1 with
    | zero => rw [hk] at h; exact h.elim
    | succ k => rw [hk] at h; exact ⟨k, Nat.lt_succ_self k, ((((((((Env.nil.put (some 1) (.slice t1p t1n t1c)).put (some 6) (.pointer t6)).put (some 7) (.pointer t7)).put (some 8) (.pointer t8)).put (some 9) (.int .i64 t9)).put (some 11) (.slice t11p t11n t11c)).put (some 12) (.int .u64 t12)).put (some 13) (.bool t13)), Env.le_put e13 (Env.le_put e12 (Env.le_put e11 (Env.le_put e9 (Env.le_put e8 (Env.le_put e7 (Env.le_put e6 (Env.le_put e1 (Env.le_nil _)))))))), Eq.mp (by kernel_rfl) h⟩), ⟨⟨trivial, ⟨trivial, trivial⟩⟩, ⟨trivial, ⟨⟨trivial, ⟨(by
    intro φ ρ w h
    simp only [X4.S] at h
    obtain ⟨t1p, t1n, t1c, e1, h⟩ := qSl_elim h
    obtain ⟨t6, e6, h⟩ := qP_elim h
    obtain ⟨t7, e7, h⟩ := qP_elim h
    obtain ⟨t8, e8, h⟩ := qP_elim h
    obtain ⟨t9, e9, h⟩ := qI_elim h
    obtain ⟨t11p, t11n, t11c, e11, h⟩ := qSl_elim h
    obtain ⟨t12, e12, h⟩ := qI_elim h
    obtain ⟨t14, e14, h⟩ := qI_elim h
    obtain ⟨t15, e15, h⟩ := qI_elim h
    cases hk : φ 2 with
    | zero => rw [hk] at h; exact h.elim
    | succ k => rw [hk] at h; exact ⟨k, Nat.lt_succ_self k, (((((((((Env.nil.put (some 1) (.slice t1p t1n t1c)).put (some 6) (.pointer t6)).put (some 7) (.pointer t7)).put (some 8) (.pointer t8)).put (some 9) (.int .i64 t9)).put (some 11) (.slice t11p t11n t11c)).put (some 12) (.int .u64 t12)).put (some 14) (.int .i64 t14)).put (some 15) (.int .i64 t15)), Env.le_put e15 (Env.le_put e14 (Env.le_put e12 (Env.le_put e11 (Env.le_put e9 (Env.le_put e8 (Env.le_put e7 (Env.le_put e6 (Env.le_put e1 (Env.le_nil _))))))))), Eq.mp (by kernel_rfl) h⟩), ⟨⟨trivial, ⟨trivial, trivial⟩⟩, ⟨⟨trivial, ⟨trivial, trivial⟩⟩, trivial⟩⟩⟩⟩, ⟨⟨trivial, ⟨trivial, trivial⟩⟩, ⟨⟨trivial, ⟨⟨trivial, trivial⟩, trivial⟩⟩, trivial⟩⟩⟩⟩⟩⟩⟩⟩⟩⟩⟩⟩, trivial⟩⟩⟩⟩⟩, ⟨trivial, trivial⟩⟩⟩⟩⟩⟩⟩
theorem X4.sound (a0_0 a0_1 a0_2 a0_3 a0_4 a0_5 a0_6 a0_7 a0_8 a0_9 a0_10 a0_11 a0_12 a0_13 a0_14 a0_15 a0_16 a0_17 a0_18 a0_19 a0_20 a0_21 : Int) (a1p : Option Addr) (a1n a1c : Nat) (w : World) (Q : QT) (h : X4.f a0_0 a0_1 a0_2 a0_3 a0_4 a0_5 a0_6 a0_7 a0_8 a0_9 a0_10 a0_11 a0_12 a0_13 a0_14 a0_15 a0_16 a0_17 a0_18 a0_19 a0_20 a0_21 a1p a1n a1c w Q) : CallR Tryz.prog 4 #[.agg #[.int .i64 a0_0, .int .i64 a0_1, .int .i64 a0_2, .int .i64 a0_3, .int .i64 a0_4, .int .i64 a0_5, .int .i64 a0_6, .int .i64 a0_7, .int .i64 a0_8, .int .i64 a0_9, .int .i64 a0_10, .int .i64 a0_11, .int .i64 a0_12, .int .i64 a0_13, .int .i64 a0_14, .int .i64 a0_15, .int .i64 a0_16, .int .i64 a0_17, .int .i64 a0_18, .int .i64 a0_19, .int .u64 a0_20, .int .u64 a0_21], .slice a1p a1n a1c] w Q :=
  fn_sound noGr mixed Tryz.func4 (c := X4.c) (an := X4.an) (S := X4.S Q) (φ := fun _ => 0) (args := [.agg #[.int .i64 a0_0, .int .i64 a0_1, .int .i64 a0_2, .int .i64 a0_3, .int .i64 a0_4, .int .i64 a0_5, .int .i64 a0_6, .int .i64 a0_7, .int .i64 a0_8, .int .i64 a0_9, .int .i64 a0_10, .int .i64 a0_11, .int .i64 a0_12, .int .i64 a0_13, .int .i64 a0_14, .int .i64 a0_15, .int .i64 a0_16, .int .i64 a0_17, .int .i64 a0_18, .int .i64 a0_19, .int .u64 a0_20, .int .u64 a0_21], .slice a1p a1n a1c]) (by kernel_rfl) (by kernel_rfl) (by kernel_rfl) (X4.v Q) (Eq.mp (by kernel_rfl) h)
end Go.Proofs.YtnjmkhhaodgpbaaGreatX
namespace Go.Proofs.YtnjmkhhaodgpbaaGreatX
open Go.RowKit
set_option maxRecDepth 100000
def keyE (e : MapEntry) : Int := match e.key with
  | .int _ k => k
  | _ => 0
theorem left_none {es : Array MapEntry} {seen : Array Nat} (h : (leftOf es seen).size = 0) {e : MapEntry} (he : e ∈ es.toList) : seen.contains e.born = true := by
  have h2 : leftOf es seen = #[] := Array.eq_empty_of_size_eq_zero h
  unfold leftOf at h2
  rw [Array.filter_eq_empty_iff] at h2
  have := h2 e (by simpa using he)
  simpa using this
theorem born_one {es : Array MapEntry} (nd : (es.toList.map (·.born)).Nodup) {e e' : MapEntry} (he : e ∈ es.toList) (he' : e' ∈ es.toList) (h : e'.born = e.born) : e' = e := by
  have h1 := find_born e es.toList nd he
  have h2 := find_born e' es.toList nd he'
  rw [h] at h2
  rw [h1] at h2
  injection h2 with h2
  exact h2.symm
section
variable {W w w' : World} {Q : QT} {x : HB} {fh : List Nat} {node last s : Int} {l : List (Int × Value)} {os : List (Int × Int)} {b r : Nat} {es : Array MapEntry} {ck : Nat}
theorem hnext_l0 (hm : es.toList.map (fun e => (e.key, e.val)) = l.map (fun x => (Value.int .u64 x.1, x.2))) (st : StM es ck) (hbr : b ≠ r) (hr0 : W.heap.size ≤ r)
    (hQ : ∀ least ok w', Fr [] W w' → (ok = true → (∃ y ∈ l, y.1 = least) ∧ s < least ∧ ∀ y ∈ l, s < y.1 → least ≤ y.1) → (ok = false → ∀ y ∈ l, y.1 ≤ s) → Q (.tuple #[.int .u64 least, .bool ok]) w') :
    ∀ (f : Nat) (seen : Array Nat) (least : Int) (ok : Bool) (w : World), (leftOf es seen).size < f → w.heap[b]? = some (.map es ck) → w.heap[r]? = some (.mapIter (some b) ck seen ck) → Fr [] W w →
      (ok = true → (∃ e ∈ es.toList, keyE e = least) ∧ s < least) → (∀ e ∈ es.toList, seen.contains e.born = true → s < keyE e → ok = true ∧ least ≤ keyE e) → X14.l0 Q f s least ok ⟨r, 0, none⟩ w
  | 0, seen, least, ok, w, hf, _, _, _, _, _ => absurd hf (Nat.not_lt_zero _)
  | f + 1, seen, least, ok, w, hf, hb, hr, F, hk, hi => by
    rw [X14.l0]
    obtain ⟨s1, s2⟩ := st
    have kx : ∀ e ∈ es.toList, ∃ y ∈ l, e.key = .int .u64 y.1 ∧ keyE e = y.1 := fun e he => by
      obtain ⟨i, hi⟩ := List.getElem?_of_mem he
      obtain ⟨y, hy, h1, _⟩ := MU.at_ hm hi
      exact ⟨y, List.mem_of_getElem? hy, h1, by unfold keyE; rw [h1]⟩
    have xk : ∀ y ∈ l, ∃ e ∈ es.toList, keyE e = y.1 := fun y hy => by
      obtain ⟨i, hi⟩ := List.getElem?_of_mem hy
      obtain ⟨e, he, h1, _⟩ := MU.ta hm hi
      exact ⟨e, List.mem_of_getElem? he, by unfold keyE; rw [h1]⟩
    rcases run_next_at (P := Tryz.prog) w 0 r b ck ck seen es ck hr hb s1 (Nat.le_refl _) with ⟨hz, hrun⟩ | ⟨e, he, w1, hw1, hrun⟩
    · refine ⟨_, w, hrun, .inl ⟨rfl, hQ least ok w F (fun ho => ?_) (fun ho y hy => ?_)⟩⟩
      · obtain ⟨⟨e, he, hke⟩, hs⟩ := hk ho
        obtain ⟨y, hy, _, h2⟩ := kx e he
        refine ⟨⟨y, hy, by rw [← h2, hke]⟩, hs, fun y' hy' hlt => ?_⟩
        obtain ⟨e', he', h3⟩ := xk y' hy'
        have := (hi e' he' (left_none hz he') (by rw [h3]; exact hlt)).2
        rw [h3] at this
        exact this
      · obtain ⟨e', he', h3⟩ := xk y hy
        by_cases hlt : s < y.1
        · have := (hi e' he' (left_none hz he') (by rw [h3]; exact hlt)).1
          rw [ho] at this
          cases this
        · omega
    · obtain ⟨hem, hes⟩ := mem_left he
      obtain ⟨y, hy, hkey, hky⟩ := kx e hem
      have hb1 : w1.heap[b]? = some (.map es ck) := by rcases hw1 with rfl | rfl <;> exact hb
      have hr1 : w1.heap[r]? = some (.mapIter (some b) ck seen ck) := by rcases hw1 with rfl | rfl <;> exact hr
      have F1 : Fr [] W w1 := by
        rcases hw1 with rfl | rfl
        · exact F
        · exact F.tr Fr.drew
      have hr2 : (Go.ChangeMaps.setBlock w1 r (.mapIter (some b) ck (seen.push e.born) ck)).heap[r]? = some (.mapIter (some b) ck (seen.push e.born) ck) := heap_setU hr1
      have hb2 : (Go.ChangeMaps.setBlock w1 r (.mapIter (some b) ck (seen.push e.born) ck)).heap[b]? = some (.map es ck) := by
        have : r ≠ b := fun e => hbr e.symm
        simp [Go.ChangeMaps.setBlock, this]
        exact hb1
      have F2 : Fr [] W (Go.ChangeMaps.setBlock w1 r (.mapIter (some b) ck (seen.push e.born) ck)) := F1.trans fr_setU (fun y hy => .inr (by simp at hy; omega))
      have hlt := left_shrinks es seen e he
      refine ⟨_, _, hrun, .inr ⟨y.1, e.val, by rw [hkey], ?_⟩⟩
      refine ⟨_, _, run_entry_at (P := Tryz.prog) _ r b ck seen es ck e hr2 hb2 hem s2, y.1, e.val, by rw [hkey], ?_⟩
      have push : ∀ e' ∈ es.toList, (seen.push e.born).contains e'.born = true → seen.contains e'.born = true ∨ keyE e' = y.1 := fun e' he' hc => by
        rw [Array.contains_eq_mem, decide_eq_true_eq] at hc
        rcases Array.mem_push.1 hc with h | h
        · exact .inl (by rw [Array.contains_eq_mem, decide_eq_true_eq]; exact h)
        · exact .inr (by rw [born_one s2 hem he' h]; exact hky)
      refine bc_dec (fun hgt => ?_) (fun hgt => ?_)
      · cases ok with
        | false =>
          refine bc_bool (fun _ => ?_) (fun e => by cases e)
          refine hnext_l0 hm ⟨s1, s2⟩ hbr hr0 hQ f _ y.1 true _ (by omega) hb2 hr2 F2 (fun _ => ⟨⟨e, hem, hky⟩, hgt⟩) (fun e' he' hc hs' => ⟨rfl, ?_⟩)
          rcases push e' he' hc with h | h
          · have := (hi e' he' h hs').1
            cases this
          · omega
        | true =>
          obtain ⟨hk1, hk2⟩ := hk rfl
          refine bc_bool (fun e => by cases e) (fun _ => bc_dec (fun hl => ?_) (fun hl => ?_))
          · refine hnext_l0 hm ⟨s1, s2⟩ hbr hr0 hQ f _ y.1 true _ (by omega) hb2 hr2 F2 (fun _ => ⟨⟨e, hem, hky⟩, hgt⟩) (fun e' he' hc hs' => ⟨rfl, ?_⟩)
            rcases push e' he' hc with h | h
            · have := (hi e' he' h hs').2
              omega
            · omega
          · refine hnext_l0 hm ⟨s1, s2⟩ hbr hr0 hQ f _ least true _ (by omega) hb2 hr2 F2 hk (fun e' he' hc hs' => ⟨rfl, ?_⟩)
            rcases push e' he' hc with h | h
            · exact (hi e' he' h hs').2
            · omega
      · refine hnext_l0 hm ⟨s1, s2⟩ hbr hr0 hQ f _ least ok _ (by omega) hb2 hr2 F2 hk (fun e' he' hc hs' => ?_)
        rcases push e' he' hc with h | h
        · exact hi e' he' h hs'
        · omega
theorem hnext_spec (t : PH w x fh node last os) (hQ : ∀ least ok w', Fr [] w w' → (ok = true → hasO os least = true ∧ s < least ∧ ∀ y, hasO os y = true → s < y → least ≤ y) → (ok = false → ∀ y, hasO os y = true → y ≤ s) → Q (.tuple #[.int .u64 least, .bool ok]) w') :
    CallR Tryz.prog 14 #[.pointer (some (at0 x.h 0)), .int .u64 s] w Q := by
  apply X14.sound
  unfold X14.f
  obtain ⟨ts, os', t, rfl⟩ := t
  have M := t.map
  obtain ⟨es, ck, hb, hm⟩ := M.ex
  have st := M.st es ck hb
  have lt := M.lt
  have ho : ∀ y : Int, hasO (os'.map OT.pr) y = true ↔ ∃ z ∈ os'.map OT.ent, z.1 = y := fun y => by
    rw [hasO_os, Option.isSome_iff_exists]
    constructor
    · rintro ⟨o, ho⟩
      have h1 := List.find?_some ho
      have h2 := List.mem_of_find?_eq_some ho
      exact ⟨o.ent, List.mem_map.2 ⟨o, h2, rfl⟩, of_decide_eq_true (p := o.s = y) h1⟩
    · rintro ⟨z, hz, rfl⟩
      obtain ⟨o, ho, rfl⟩ := List.mem_map.1 hz
      cases hf : os'.find? fun p => decide (p.s = o.ent.1) with
      | some p => exact ⟨p, rfl⟩
      | none => exact absurd (show decide (o.s = o.ent.1) = true by simp [OT.ent]) (List.find?_eq_none.1 hf o ho)
  refine opt_some rfl (ld_map (t.blk.cat 4 _ rfl) ⟨_, _, run_range_map (P := Tryz.prog) w 101 22 117 x.m es ck (by kernel_rfl) hb, ⟨w.heap.size, 0, none⟩, rfl, (leftOf es #[]).size + 1, ?_⟩)
  have F : Fr [] w (w.alloc (.mapIter (some x.m) ck #[] ck)) := Fr.alloc _ _
  refine hnext_l0 (W := w) (b := x.m) hm st (by omega) (Nat.le_refl _) (fun least ok w' F' h1 h2 => hQ least ok w' F' (fun hk => ?_) (fun hk y hy => ?_)) _ #[] 0 false _ (by omega) ?_ ?_ F (fun e => by cases e) (fun e he hc => by simp at hc)
  · obtain ⟨⟨y, hy, hye⟩, h3, h4⟩ := h1 hk
    refine ⟨(ho least).2 ⟨y, hy, hye⟩, h3, fun y' hy' hlt => ?_⟩
    obtain ⟨z, hz, rfl⟩ := (ho y').1 hy'
    exact h4 z hz hlt
  · obtain ⟨z, hz, rfl⟩ := (ho y).1 hy
    exact h2 hk z hz
  · exact (F.block _ lt (by simp)).trans hb
  · exact heap_alloc_new w _
end
end Go.Proofs.YtnjmkhhaodgpbaaGreatX
namespace Go.Proofs.YtnjmkhhaodgpbaaGreatX
open Go.RowKit
set_option maxRecDepth 100000
section
variable {V W w w0 w' w2 w3 : World} {Q : QT} {g gr gc : Nat} {x : HB} {xr : RHB} {ft fr L : List Nat} {S R S' : Sc} {C : Cfg} {now s : Int} {l : List Stp} {ip : Option Addr} {cap n : Nat} {st : Stp} {rp lp : Option Addr} {rc lc : Nat}
theorem in_of (hV : SV n S) (h : hasO S.os s = true) : inO S.os s = inOf S.rows S.bur s := by
  unfold hasO at h
  unfold inO
  obtain ⟨e, he⟩ := Option.isSome_iff_exists.1 h
  have h1 := List.find?_some he
  have h2 := List.mem_of_find?_eq_some he
  have h3 : e.1 = s := of_decide_eq_true h1
  rw [he]
  show e.2 = _
  rw [(hV.os e h2).2, h3]
theorem in_l2 {b0 : Option Addr → Nat → Nat → Option Addr → Option Addr → Option Addr → Int → World → Prop} {b1 : Option Addr → Nat → Nat → Option Addr → Option Addr → Option Addr → Int → Option Addr → Nat → Nat → Int → Bool → World → Prop} {a1 a8 : Option Addr} {a2 a3 : Nat} {i9 : Int} {p : Option Addr} {pc : Nat}
    (hP : PS w g x ft S) (hV : SV n S) (hn : n < 4096) (hc : Cells w p (sq (allS S))) (hs : hasO S.os s = true)
    (hb : ∀ least ok w', Fr [] w w' → (ok = true → hasO S.os least = true ∧ s < least) → b1 a1 a2 a3 (some (at0 g 0)) (some (at0 x.h 0)) a8 i9 p (allS S).length pc least ok w') :
    ∀ (f k : Nat), S.rows.length - k < f → k ≤ S.rows.length → X4.l2 Q b0 b1 f a1 a2 a3 (some (at0 g 0)) (some (at0 x.h 0)) a8 i9 p (allS S).length pc s ((ofR (S.rows.take k) s).foldl (stepIn [] s) 0) (k : Int) w
  | 0, k, hf, _ => absurd hf (Nat.not_lt_zero _)
  | f + 1, k, hf, hk => by
    rw [X4.l2]
    have hrl := hV.rl
    have ea : (allS S).length = S.rows.length := by unfold allS; rw [List.length_map]
    have ek : IntKind.wrap .i64 ((k : Int) + 1) = ((k + 1 : Nat) : Int) := by rw [i64w ((k : Int) + 1) (by omega) (by omega)]; omega
    have hse := hasO_le hV hs
    have hla := hV.la
    rw [ek]
    refine bc_dec (fun hlt => ?_) (fun hge => ?_)
    · have hl : k < S.rows.length := by omega
      have hg := List.getElem?_eq_getElem hl
      have ht := fold_take (s := s) hg
      generalize S.rows[k] = e at *
      have hga : (allS S)[k]? = some e.2 := by unfold allS; rw [List.getElem?_map, hg]; rfl
      obtain ⟨a, ha, hat⟩ := scn_at hc hga
      have ih := in_l2 (b0 := b0) hP hV hn hc hs hb f (k + 1) (by omega) (by omega)
      rw [ht] at ih
      rw [Int.toNat_natCast]
      refine ⟨⟨by omega, by omega⟩, opt_some ha (ld_int (hat 0 _ rfl) (bc_eq (fun h1 => ?_) (fun h1 => ?_)))⟩
      · rw [if_pos h1] at ih
        unfold stepIn at ih
        refine ⟨⟨by omega, by omega⟩, opt_some ha (ld_bool (hat 2 _ rfl) (bc_bool (fun h2 => bc_eq (fun hz => ?_) (fun hz => ?_)) (fun h2 => ?_)))⟩
        · rw [if_pos ⟨h2, by simp, .inl hz⟩] at ih
          exact ⟨⟨by omega, by omega⟩, opt_some ha (ld_int (hat 5 _ rfl) ih)⟩
        · refine ⟨⟨by omega, by omega⟩, opt_some ha (ld_int (hat 5 _ rfl) (bc_dec (fun hd => ?_) (fun hd => ?_)))⟩
          · rw [if_pos ⟨h2, by simp, .inr hd⟩] at ih
            exact ⟨⟨by omega, by omega⟩, opt_some ha (ld_int (hat 5 _ rfl) ih)⟩
          · rw [if_neg (fun hh => hh.2.2.elim hz hd)] at ih
            exact ih
        · rw [if_neg (fun hh => by rw [h2] at hh; cases hh.1)] at ih
          exact ih
      · rw [if_neg h1] at ih
        exact ih
    · have : S.rows.take k = S.rows := List.take_of_length_le (by omega)
      rw [this]
      have hin := in_of hV hs
      rw [inOf_split] at hin
      have nx : ∀ {w2 : World}, Fr [] w w2 → CallR Tryz.prog 14 #[.pointer (some (at0 x.h 0)), .int .u64 s] w2 fun v w3 => ∃ (y1 : Int) (y2 : Bool), v = .tuple #[.int .u64 y1, .bool y2] ∧ b1 a1 a2 a3 (some (at0 g 0)) (some (at0 x.h 0)) a8 i9 p (allS S).length pc y1 y2 w3 := by
        intro w2 f2
        have P2' := hP.keep' f2
        obtain ⟨fh, gt, bm, rt, T⟩ := P2'
        exact hnext_spec T.heap fun least ok w3 f3 h1 h2 => ⟨_, _, rfl, hb least ok w3 (f2.tr f3) (fun hk => ⟨(h1 hk).1, (h1 hk).2.1⟩)⟩
      refine buried_spec hP (by omega) (by omega) ⟨_, rfl, bc_dec (fun hb' => ?_) (fun hb' => ?_)⟩
      · rw [if_pos hb'] at hin
        refine inS_spec hP (by omega) (by omega) fun w2 f2 => ⟨_, rfl, ?_⟩
        rw [hin]
        exact bc_ne (fun h => absurd rfl h) (fun _ => nx f2)
      · rw [if_neg hb'] at hin
        refine inS_spec hP (by omega) (by omega) fun w2 f2 => ⟨_, rfl, ?_⟩
        rw [hin]
        exact bc_ne (fun h => absurd rfl h) (fun _ => nx f2)
theorem in_l1 {b0 : Option Addr → Nat → Nat → Option Addr → Option Addr → Option Addr → Int → World → Prop} {a1 a8 : Option Addr} {a2 a3 : Nat} {i9 : Int} {p : Option Addr} {pc : Nat}
    (hP : PS w0 g x ft S) (hV : SV n S) (hn : n < 4096) (hc : Cells w0 p (sq (allS S))) (hb0 : ∀ w', Fr [] w0 w' → b0 a1 a2 a3 (some (at0 g 0)) (some (at0 x.h 0)) a8 (IntKind.wrap .i64 (i9 + 1)) w') :
    ∀ (f : Nat) (s : Int) (ok : Bool) (w : World), Fr [] w0 w → (ok = true → hasO S.os s = true) → (S.last + 1 - s).toNat + 1 < f → 1 ≤ f → X4.l1 Q b0 f a1 a2 a3 (some (at0 g 0)) (some (at0 x.h 0)) a8 i9 p (allS S).length pc s ok w
  | 0, s, ok, w, _, _, _, hf => absurd hf (by omega)
  | f + 1, s, ok, w, F, hs, hf, _ => by
    rw [X4.l1]
    refine bc_bool (fun hk => ?_) (fun hk => hb0 w F)
    have hse := hasO_le hV (hs hk)
    refine ⟨S.rows.length + 1, in_l2 (hP.keep' F) hV hn (hc.keep' F) (hs hk) (fun least ok' w' F' h1 => ?_) _ 0 (by omega) (by omega)⟩
    by_cases hk' : ok' = true
    · have h2 := h1 hk'
      exact in_l1 hP hV hn hc hb0 f least ok' w' (F.tr F') (fun _ => h2.1) (by omega) (by omega)
    · -- none is left
      have hfp : 1 ≤ f := by omega
      obtain ⟨f', rfl⟩ : ∃ f', f = f' + 1 := ⟨f - 1, by omega⟩
      rw [X4.l1]
      exact bc_bool (fun h => absurd h hk') (fun _ => hb0 w' (F.tr F'))
theorem in_j3 {b0 : Option Addr → Nat → Nat → Option Addr → Option Addr → Option Addr → Int → World → Prop} {g30 : Nat} {i : Nat} (u : P2 ⟨V, []⟩ w g x ft gr xr fr S S L) (hV : SV n S) (hn : n + 1 < 4096) (hc : 1 ≤ S.c.nodes ∧ S.c.nodes ≤ 64) (b30 : Blk w g30 (st.cells rp rc lp lc) 43) (hw : StpW st) (hM : MM V st.m rp rc lp lc)
    (hb : ∀ ft' fr' S' w', P2 ⟨V, []⟩ w' g x ft' gr xr fr' S' S' L → SV (n + 1) S' → S'.c = S.c → b0 ip l.length cap (some (at0 g 0)) (some (at0 x.h 0)) (some (at0 gr 0)) (IntKind.wrap .i64 ((i : Int) + 1)) w') :
    X4.j3 Q b0 ip l.length cap (some (at0 g 0)) (some (at0 x.h 0)) (some (at0 gr 0)) (i : Int) (at0 g30 0) w := by
  unfold X4.j3
  refine ld_Stp b30.cat ?_
  refine play_spec u hV (by omega) hc hw hM fun ft2 fr2 w2 u2 f2 => ⟨_, rfl, ?_⟩
  have hV2 := hV.play (now := IntKind.wrap .u64 (IntKind.wrap .i64 (2 * (i : Int)))) hw
  refine all_spec u2.P fun p c w3 o3 f3 k3 => ⟨_, _, _, rfl, ?_⟩
  have u3 := u2.keep f3
  have P3 := u3.P
  obtain ⟨fh, gt, bm, rt, T3⟩ := P3
  refine hnext_spec T3.heap fun least ok w4 f4 h1 h2 => ⟨_, _, rfl, ((playS S st (IntKind.wrap .u64 (IntKind.wrap .i64 (2 * (i : Int))))).last + 1 - least).toNat + 2, ?_⟩
  have u4 := u3.keep f4
  exact in_l1 u4.P hV2 (by omega) ((o3.keep' f4).cells) (fun w' f' => hb ft2 fr2 _ w' (u4.keep f') hV2 play_node.2) _ least ok w4 (Fr.refl _) (fun hk => (h1 hk).1) (by omega) (by omega)
theorem in_l0 (hst : StepsAt V ip l) (hc : 2 ≤ C.nodes ∧ C.nodes ≤ 4) (hll : l.length ≤ 140737488351232) (hQ : ∀ w', Fr [] V w' → Q (.bool true) w') :
    ∀ (f i : Nat) (ft fr : List Nat) (S : Sc) (w : World), 120 - i < f → i ≤ 120 → P2 ⟨V, []⟩ w g x ft gr xr fr S S [] → SV (5 + i) S → S.c = C →
      X4.l0 Q f ip l.length cap (some (at0 g 0)) (some (at0 x.h 0)) (some (at0 gr 0)) (i : Int) w
  | 0, i, ft, fr, S, w, hf, _, _, _, _ => absurd hf (Nat.not_lt_zero _)
  | f + 1, i, ft, fr, S, w, hf, hi, u, hV, hC => by
    rw [X4.l0]
    have ei : IntKind.wrap .i64 ((i : Int) + 1) = ((i + 1 : Nat) : Int) := by rw [i64w ((i : Int) + 1) (by omega) (by omega)]; omega
    refine bc_dec (fun h1 => bc_dec (fun h2 => ?_) (fun _ => hQ w u.F)) (fun _ => hQ w u.F)
    unfold X4.j4
    have hlt : i < l.length := by omega
    have hg := List.getElem?_eq_getElem hlt
    have hm := List.getElem_mem hlt
    generalize l[i] = st at *
    obtain ⟨p, rp, rc, lp, lc, hp, hat, hMM⟩ := hst.at_ i st hg
    have hat := hat.keep' u.F
    have hw := hst.wf st hm
    rw [Int.toNat_natCast]
    have go : ∀ {w34 : World} {g30 : Nat} (b : Bool), P2 ⟨V, []⟩ w34 g x ft gr xr fr S S [g30] → Blk w34 g30 (Stp.cells { st with pinned := b } rp rc lp lc) 43 → X4.j3 Q (X4.l0 Q f) ip l.length cap (some (at0 g 0)) (some (at0 x.h 0)) (some (at0 gr 0)) (i : Int) (at0 g30 0) w34 := by
      intro w34 g30 b u34 b34
      refine in_j3 (st := { st with pinned := b }) u34 hV (by omega) (by rw [hC]; omega) b34 ⟨hw.serial, hw.seq, hw.n⟩ hMM fun ft' fr' S' w' u' hV' hC' => ?_
      rw [ei]
      exact in_l0 hst hc hll hQ f (i + 1) ft' fr' S' w' (by omega) (by omega) (u'.mono (by simp)) hV' (by rw [hC', hC])
    refine ⟨⟨by omega, by omega⟩, opt_some hp (ld_Stp hat (newB fun g30 w31 b30 f31 h31 => stAllB (vs := st.cells rp rc lp lc) b30 rfl fun w32 b32 f32 => ?_))⟩
    obtain ⟨u32, F32⟩ := u.new f31 h31 b32 f32
    refine ld_bool (b32.cat 7 _ rfl) (bc_bool (fun _ => stB (i := 7) b32 (show 7 < 28 by omega) fun w34 b34 f34 => ?_) (fun _ => ⟨by omega, stB (i := 7) b32 (show 7 < 28 by omega) fun w34 b34 f34 => ?_⟩))
    · exact go true (u32.loc f34 (by simp)) b34
    · exact go (Int.tmod (i : Int) 2 == 0) (u32.loc f34 (by simp)) b34
theorem scionIn_row {H : Type} {cs : Array Value} {d d3 : DataW H} (h : Lies Tryz.prog V 6 24 cs.toList d) (hs : SizedD Tryz.prog 24 d) {ip : Option Addr} {n cap : Nat} (h2 : Lies Tryz.prog V 6 25 [.slice ip n cap] d3) (hs2 : SizedD Tryz.prog 25 d3) :
    CallR Tryz.prog 4 #[.agg cs, .slice ip n cap] V fun v w' => v = .bool true ∧ Fr [] V w' := by
  obtain ⟨r, rfl, hr⟩ := raw_open' h
  obtain ⟨l, rfl, hst, hll⟩ := steps_of_lies h2 hs2
  apply X4.sound
  unfold X4.f
  refine newB fun g1 w2 b f2 _ => ?_
  have b : Blk w2 g1 r.cells 24 := b
  have cn := conf_nodes r
  have hmay := may_config hr
  refine ld_Raw (s := r) b.cat (config_spec (r := r) fun w26 f26 => ⟨_, _, _, _, _, _, _, _, _, _, _, _, _, _, _, _, _, _, _, _, _, _, rfl, newB fun gc w50 bc f50 h50 => stAllB (vs := (configOf r).cells) bc rfl fun w51 b51 f51 => ?_⟩)
  generalize hc : configOf r = c at *
  have F26 := f2.tr f26
  have z26 := F26.size
  have F51 : Fr [] V w51 := (F26.tr f50).trans f51 (fun y hy => .inr (by simp at hy; omega))
  refine ld_Cfg (s := c) b51.cat ?_
  refine yard_spec (c := c) (W := w51) hmay (by omega) (by omega) (by omega) fun g x ft gr xr fr w80 P R Bk d1 d2 d3 F m1 m2 m3 => ⟨_, _, _, rfl, ?_⟩
  have u80 := two_of_yard (L := []) F51 P R Bk d1 d2 d3 F m1 m2 m3 (fun b hb => by cases hb)
  refine known_spec fun w85 f85 => ⟨_, rfl, bc_bool (fun e => by cases e) (fun _ => bc_bool (fun e => by cases e) (fun _ => ?_))⟩
  unfold X4.j5
  exact ⟨121, in_l0 (C := c) hst cn hll (fun w' f' => ⟨rfl, f'⟩) 121 0 ft (gr :: fr) _ w85 (by omega) (by omega) (u80.keep f85) SV.sc0 rfl⟩
end
end Go.Proofs.YtnjmkhhaodgpbaaGreatX
