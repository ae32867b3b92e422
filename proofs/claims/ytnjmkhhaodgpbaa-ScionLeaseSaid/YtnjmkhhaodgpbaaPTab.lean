/- Tables as lists of keys and values, in plain Lean: what stands where, what a put and a drop come to. -/
import Derived.Test.YtnjmkhhaodgpbaaXMem
namespace Go.Proofs.YtnjmkhhaodgpbaaX
set_option linter.unusedVariables false
set_option linter.unusedSimpArgs false
set_option linter.unusedSectionVars false
/-- an order that is strict and total -/
structure Lin {α : Type} (lt : α → α → Bool) : Prop where
  irr : ∀ a, lt a a = false
  tr : ∀ a b c, lt a b = true → lt b c = true → lt a c = true
  tot : ∀ a b, lt a b = false → lt b a = false → a = b
def ilt (a b : Int) : Bool := decide (a < b)
theorem ilt_lin : Lin ilt := ⟨fun a => by simp [ilt], fun a b c h k => by simp [ilt] at *; omega, fun a b h k => by simp [ilt] at *; omega⟩
section
variable {α β γ : Type} {lt : α → α → Bool}
def rank (lt : α → α → Bool) (ks : List α) (k : α) : Nat := (ks.takeWhile fun x => lt x k).length
def Srt (lt : α → α → Bool) (ks : List α) : Prop := ks.Pairwise fun a b => lt a b = true
theorem rank_le (ks : List α) (k : α) : rank lt ks k ≤ ks.length := (List.takeWhile_sublist _).length_le
theorem takeWhile_rank (ks : List α) (k : α) : ks.takeWhile (fun x => lt x k) = ks.take (rank lt ks k) := by
  have h := List.takeWhile_append_dropWhile (p := fun x => lt x k) (l := ks)
  have : ks.take (rank lt ks k) = (ks.takeWhile (fun x => lt x k) ++ ks.dropWhile (fun x => lt x k)).take (rank lt ks k) := by rw [h]
  rw [this]
  unfold rank
  rw [List.take_left]
theorem dropWhile_rank (ks : List α) (k : α) : ks.dropWhile (fun x => lt x k) = ks.drop (rank lt ks k) := by
  have h := List.takeWhile_append_dropWhile (p := fun x => lt x k) (l := ks)
  have : ks.drop (rank lt ks k) = (ks.takeWhile (fun x => lt x k) ++ ks.dropWhile (fun x => lt x k)).drop (rank lt ks k) := by rw [h]
  rw [this]
  unfold rank
  rw [List.drop_left]
theorem rank_lt' {ks : List α} {k a : α} (h : a ∈ ks.take (rank lt ks k)) : lt a k = true := by
  rw [← takeWhile_rank] at h
  have : ∀ (l : List α), a ∈ l.takeWhile (fun x => lt x k) → lt a k = true := by
    intro l
    induction l with
    | nil => intro h; cases h
    | cons x l ih =>
      intro h
      rw [List.takeWhile_cons] at h
      split at h
      · rename_i hx
        rcases List.mem_cons.1 h with rfl | h
        · exact hx
        · exact ih h
      · cases h
  exact this ks h
theorem rank_ge' (hL : Lin lt) {ks : List α} {k a : α} (hs : Srt lt ks) (h : a ∈ ks.drop (rank lt ks k)) : lt a k = false := by
  rw [← dropWhile_rank] at h
  have : ∀ (l : List α), Srt lt l → a ∈ l.dropWhile (fun x => lt x k) → lt a k = false := by
    intro l
    induction l with
    | nil => intro _ h; cases h
    | cons x l ih =>
      intro hs h
      rw [List.dropWhile_cons] at h
      have hs' := List.pairwise_cons.1 hs
      split at h
      · exact ih hs'.2 h
      · rename_i hx
        rcases List.mem_cons.1 h with rfl | h
        · simpa using hx
        · cases he : lt a k with
          | false => rfl
          | true => exact absurd (hL.tr _ _ _ (hs'.1 a h) he) hx
  exact this ks hs h
theorem rank_lt {ks : List α} {k a : α} {i : Nat} (h : i < rank lt ks k) (hi : ks[i]? = some a) : lt a k = true :=
  rank_lt' (List.mem_iff_getElem?.2 ⟨i, by rw [List.getElem?_take, if_pos h]; exact hi⟩)
theorem rank_ge (hL : Lin lt) {ks : List α} {k a : α} {i : Nat} (hs : Srt lt ks) (h : rank lt ks k ≤ i) (hi : ks[i]? = some a) : lt a k = false :=
  rank_ge' hL hs (List.mem_iff_getElem?.2 ⟨i - rank lt ks k, by rw [List.getElem?_drop, show rank lt ks k + (i - rank lt ks k) = i by omega]; exact hi⟩)

/-! ### Keys with values -/
abbrev keys (l : List (α × β)) : List α := l.map (·.1)
variable [DecidableEq α]
def at_ (lt : α → α → Bool) (l : List (α × β)) (k : α) : Nat := rank lt (keys l) k
def has (lt : α → α → Bool) (l : List (α × β)) (k : α) : Bool := decide ((keys l)[at_ lt l k]? = some k)
def get (lt : α → α → Bool) (l : List (α × β)) (k : α) : Option β := if has lt l k then (l[at_ lt l k]?).map (·.2) else none
def put (lt : α → α → Bool) (l : List (α × β)) (k : α) (v : β) : List (α × β) := if has lt l k then l.set (at_ lt l k) (k, v) else l.take (at_ lt l k) ++ (k, v) :: l.drop (at_ lt l k)
def drp (lt : α → α → Bool) (l : List (α × β)) (k : α) : List (α × β) := if has lt l k then l.take (at_ lt l k) ++ l.drop (at_ lt l k + 1) else l
def next (lt : α → α → Bool) (l : List (α × β)) (k : α) : Option α := (keys l)[if has lt l k then at_ lt l k + 1 else at_ lt l k]?
def after (lt : α → α → Bool) (l : List (α × β)) (k : α) : Option α := (next lt l k).or (keys l)[0]?
theorem at_le (l : List (α × β)) (k : α) : at_ lt l k ≤ l.length := by
  have := rank_le (lt := lt) (keys l) k
  simpa [at_] using this
theorem at_lt {l : List (α × β)} {k : α} (h : has lt l k = true) : at_ lt l k < l.length := by
  simp only [has, decide_eq_true_eq] at h
  have := (List.getElem?_eq_some_iff.1 h).1
  simpa using this
/-- how a table lies around a key: it is there -/
theorem split_has (hL : Lin lt) {l : List (α × β)} {k : α} (hs : Srt lt (keys l)) (h : has lt l k = true) :
    ∃ A B u, l = A ++ (k, u) :: B ∧ at_ lt l k = A.length ∧ (∀ e ∈ A, lt e.1 k = true) ∧ (∀ e ∈ B, lt k e.1 = true) := by
  have hlt := at_lt h
  simp only [has, decide_eq_true_eq] at h
  refine ⟨l.take (at_ lt l k), l.drop (at_ lt l k + 1), (l[at_ lt l k]).2, ?_, ?_, ?_, ?_⟩
  · have h2 := List.getElem?_eq_getElem hlt
    have h1 : (l[at_ lt l k]).1 = k := by
      rw [List.getElem?_map, h2] at h
      simpa using h
    have : (k, (l[at_ lt l k]).2) = l[at_ lt l k] := Prod.ext h1.symm rfl
    rw [this, List.getElem_cons_drop, List.take_append_drop]
  · simp; omega
  · intro e he
    refine rank_lt' (ks := keys l) ?_
    rw [← List.map_take]
    exact List.mem_map_of_mem he
  · intro e he
    have hp := List.pairwise_iff_getElem.1 hs
    obtain ⟨j, hj⟩ := List.mem_iff_getElem?.1 he
    rw [List.getElem?_drop] at hj
    obtain ⟨hj1, hj2⟩ := List.getElem?_eq_some_iff.1 hj
    obtain ⟨hk1, hk2⟩ := List.getElem?_eq_some_iff.1 h
    have := hp (at_ lt l k) (at_ lt l k + 1 + j) hk1 (by simpa using hj1) (by omega)
    rw [hk2] at this
    simpa [hj2] using this
/-- how a table lies around a key: it isn't -/
theorem split_not (hL : Lin lt) {l : List (α × β)} {k : α} (hs : Srt lt (keys l)) (h : has lt l k = false) :
    ∃ A B, l = A ++ B ∧ at_ lt l k = A.length ∧ (∀ e ∈ A, lt e.1 k = true) ∧ (∀ e ∈ B, lt k e.1 = true) := by
  refine ⟨l.take (at_ lt l k), l.drop (at_ lt l k), (List.take_append_drop _ _).symm, ?_, ?_, ?_⟩
  · have := at_le (lt := lt) l k
    simp; omega
  · intro e he
    refine rank_lt' (ks := keys l) ?_
    rw [← List.map_take]
    exact List.mem_map_of_mem he
  · intro e he
    have h1 : lt e.1 k = false := by
      refine rank_ge' hL hs ?_
      rw [← List.map_drop]
      exact List.mem_map_of_mem he
    cases h2 : lt k e.1 with
    | true => rfl
    | false =>
      have heq := hL.tot _ _ h1 h2
      obtain ⟨j, hj⟩ := List.mem_iff_getElem?.1 he
      rw [List.getElem?_drop] at hj
      obtain ⟨hj1, hj2⟩ := List.getElem?_eq_some_iff.1 hj
      simp only [has, decide_eq_false_iff_not] at h
      exfalso
      cases j with
      | zero =>
        apply h
        rw [List.getElem?_map]
        simp only [Nat.add_zero] at hj
        rw [hj]
        simp [heq]
      | succ j =>
        have hp := List.pairwise_iff_getElem.1 hs
        have hlt : at_ lt l k < l.length := by omega
        have h3 := hp (at_ lt l k) (at_ lt l k + (j + 1)) (by simpa using hlt) (by simpa using hj1) (by omega)
        have h4 : (keys l)[at_ lt l k + (j + 1)]'(by simpa using hj1) = k := by simp [hj2, heq]
        rw [h4] at h3
        have h5 := rank_ge hL hs (k := k) (i := at_ lt l k) (Nat.le_refl _) (List.getElem?_eq_getElem (by simpa using hlt))
        rw [h3] at h5
        cases h5
section
variable (hL : Lin lt) {l : List (α × β)} (hs : Srt lt (keys l))
include hL hs
theorem has_iff {k : α} : has lt l k = true ↔ k ∈ keys l := by
  constructor
  · intro h
    simp only [has, decide_eq_true_eq] at h
    exact List.mem_iff_getElem?.2 ⟨_, h⟩
  · intro h
    cases hh : has lt l k with
    | true => rfl
    | false =>
      obtain ⟨A, B, rfl, _, h1, h2⟩ := split_not hL hs hh
      simp only [keys, List.map_append, List.mem_append, List.mem_map] at h
      rcases h with ⟨e, he, rfl⟩ | ⟨e, he, rfl⟩
      · have := h1 e he; rw [hL.irr] at this; cases this
      · have := h2 e he; rw [hL.irr] at this; cases this
theorem mem_uniq {k : α} {u v : β} (h1 : (k, u) ∈ l) (h2 : (k, v) ∈ l) : u = v := by
  have hk : has lt l k = true := (has_iff hL hs).2 (List.mem_map_of_mem h1)
  obtain ⟨A, B, x, rfl, _, a1, a2⟩ := split_has hL hs hk
  have key : ∀ y, (k, y) ∈ A ++ (k, x) :: B → y = x := by
    intro y hy
    rcases List.mem_append.1 hy with hy | hy
    · have := a1 _ hy; rw [hL.irr] at this; cases this
    · rcases List.mem_cons.1 hy with hy | hy
      · injection hy
      · have := a2 _ hy; rw [hL.irr] at this; cases this
  rw [key u h1, key v h2]
theorem get_iff {k : α} {v : β} : get lt l k = some v ↔ (k, v) ∈ l := by
  unfold get
  constructor
  · intro h
    split at h
    · rename_i hh
      obtain ⟨A, B, u, rfl, ha, _, _⟩ := split_has hL hs hh
      rw [ha] at h
      simp at h
      subst h
      simp
    · cases h
  · intro h
    have hk : has lt l k = true := (has_iff hL hs).2 (List.mem_map_of_mem h)
    rw [if_pos hk]
    obtain ⟨A, B, u, e, ha, _, _⟩ := split_has hL hs hk
    have : v = u := mem_uniq hL hs h (by rw [e]; simp)
    subst this
    rw [ha, e]
    simp
theorem get_none {k : α} : get lt l k = none ↔ k ∉ keys l := by
  constructor
  · intro h hk
    obtain ⟨e, he, rfl⟩ := List.mem_map.1 hk
    have := (get_iff hL hs (v := e.2)).2 he
    rw [this] at h; cases h
  · intro h
    cases hg : get lt l k with
    | none => rfl
    | some v => exact absurd (List.mem_map_of_mem ((get_iff hL hs).1 hg)) h
theorem put_srt {k : α} {v : β} : Srt lt (keys (put lt l k v)) := by
  unfold put
  cases hh : has lt l k with
  | true =>
    obtain ⟨A, B, u, e, ha, a1, a2⟩ := split_has hL hs hh
    rw [if_pos rfl, ha, e]
    rw [e] at hs
    simpa [keys] using hs
  | false =>
    obtain ⟨A, B, e, ha, a1, a2⟩ := split_not hL hs hh
    rw [if_neg (by simp), ha, e]
    rw [e] at hs
    rw [List.take_left, List.drop_left]
    unfold Srt keys at *
    rw [List.map_append, List.pairwise_append] at hs
    rw [List.map_append, List.map_cons, List.pairwise_append, List.pairwise_cons]
    refine ⟨hs.1, ⟨?_, hs.2.1⟩, ?_⟩
    · intro x hx
      obtain ⟨y, hy, rfl⟩ := List.mem_map.1 hx
      exact a2 y hy
    · intro x hx y hy
      obtain ⟨x', hx', rfl⟩ := List.mem_map.1 hx
      rcases List.mem_cons.1 hy with rfl | hy
      · exact a1 x' hx'
      · exact hs.2.2 _ hx _ hy
theorem mem_put {k : α} {v : β} {e : α × β} : e ∈ put lt l k v ↔ e = (k, v) ∨ (e.1 ≠ k ∧ e ∈ l) := by
  unfold put
  cases hh : has lt l k with
  | true =>
    obtain ⟨A, B, u, rfl, ha, a1, a2⟩ := split_has hL hs hh
    rw [if_pos rfl, ha]
    have : (A ++ (k, u) :: B).set A.length (k, v) = A ++ (k, v) :: B := by simp
    rw [this]
    simp only [List.mem_append, List.mem_cons]
    constructor
    · rintro (h | rfl | h)
      · exact .inr ⟨fun he => absurd (a1 e h) (by rw [he, hL.irr]; simp), .inl h⟩
      · exact .inl rfl
      · exact .inr ⟨fun he => absurd (a2 e h) (by rw [he, hL.irr]; simp), .inr (.inr h)⟩
    · rintro (rfl | ⟨h, h' | rfl | h'⟩)
      · exact .inr (.inl rfl)
      · exact .inl h'
      · exact absurd rfl h
      · exact .inr (.inr h')
  | false =>
    obtain ⟨A, B, rfl, ha, a1, a2⟩ := split_not hL hs hh
    rw [if_neg (by simp), ha, List.take_left, List.drop_left]
    simp only [List.mem_append, List.mem_cons]
    constructor
    · rintro (h | rfl | h)
      · exact .inr ⟨fun he => absurd (a1 e h) (by rw [he, hL.irr]; simp), .inl h⟩
      · exact .inl rfl
      · exact .inr ⟨fun he => absurd (a2 e h) (by rw [he, hL.irr]; simp), .inr h⟩
    · rintro (rfl | ⟨_, h | h⟩)
      · exact .inr (.inl rfl)
      · exact .inl h
      · exact .inr (.inr h)
theorem get_put {k x : α} {v : β} : get lt (put lt l k v) x = if x = k then some v else get lt l x := by
  have hs' := put_srt hL hs (k := k) (v := v)
  split
  · rename_i h
    subst h
    exact (get_iff hL hs').2 ((mem_put hL hs).2 (.inl rfl))
  · rename_i h
    cases hg : get lt l x with
    | none =>
      refine (get_none hL hs').2 fun hm => ?_
      obtain ⟨e, he, rfl⟩ := List.mem_map.1 hm
      rcases (mem_put hL hs).1 he with rfl | ⟨_, he⟩
      · exact h rfl
      · exact (get_none hL hs).1 hg (List.mem_map_of_mem he)
    | some u => exact (get_iff hL hs').2 ((mem_put hL hs).2 (.inr ⟨h, (get_iff hL hs).1 hg⟩))
theorem drp_srt {k : α} : Srt lt (keys (drp lt l k)) := by
  unfold drp
  split
  · have : (l.take (at_ lt l k) ++ l.drop (at_ lt l k + 1)).Sublist l := by
      have h1 : (l.drop (at_ lt l k + 1)).Sublist (l.drop (at_ lt l k)) := by
        rw [← List.drop_drop]; exact List.drop_sublist _ _
      have := (List.Sublist.refl (l.take (at_ lt l k))).append h1
      rwa [List.take_append_drop] at this
    exact List.Pairwise.sublist (this.map _) hs
  · exact hs
theorem mem_drp {k : α} {e : α × β} : e ∈ drp lt l k ↔ e.1 ≠ k ∧ e ∈ l := by
  unfold drp
  cases hh : has lt l k with
  | true =>
    obtain ⟨A, B, u, rfl, ha, a1, a2⟩ := split_has hL hs hh
    rw [if_pos rfl, ha]
    have : (A ++ (k, u) :: B).take A.length ++ (A ++ (k, u) :: B).drop (A.length + 1) = A ++ B := by simp
    rw [this]
    simp only [List.mem_append, List.mem_cons]
    constructor
    · rintro (h | h)
      · exact ⟨fun he => absurd (a1 e h) (by rw [he, hL.irr]; simp), .inl h⟩
      · exact ⟨fun he => absurd (a2 e h) (by rw [he, hL.irr]; simp), .inr (.inr h)⟩
    · rintro ⟨h, h' | rfl | h'⟩
      · exact .inl h'
      · exact absurd rfl h
      · exact .inr h'
  | false =>
    rw [if_neg (by simp)]
    refine ⟨fun h => ⟨fun he => ?_, h⟩, fun h => h.2⟩
    have := (has_iff hL hs (k := k)).2 (by rw [← he]; exact List.mem_map_of_mem h)
    rw [this] at hh; cases hh
theorem get_drp {k x : α} : get lt (drp lt l k) x = if x = k then none else get lt l x := by
  have hs' := drp_srt hL hs (k := k)
  split
  · rename_i h
    subst h
    refine (get_none hL hs').2 fun hm => ?_
    obtain ⟨e, he, h2⟩ := List.mem_map.1 hm
    exact ((mem_drp hL hs).1 he).1 h2
  · rename_i h
    cases hg : get lt l x with
    | none =>
      refine (get_none hL hs').2 fun hm => ?_
      obtain ⟨e, he, rfl⟩ := List.mem_map.1 hm
      exact (get_none hL hs).1 hg (List.mem_map_of_mem ((mem_drp hL hs).1 he).2)
    | some u => exact (get_iff hL hs').2 ((mem_drp hL hs).2 ⟨h, (get_iff hL hs).1 hg⟩)
end
theorem put_length {l : List (α × β)} {k : α} {v : β} : (put lt l k v).length = if has lt l k then l.length else l.length + 1 := by
  have := at_le (lt := lt) l k
  unfold put
  split <;> simp
  omega
theorem drp_length {l : List (α × β)} {k : α} : (drp lt l k).length = if has lt l k then l.length - 1 else l.length := by
  unfold drp
  split
  · rename_i h
    have := at_lt h
    simp
    omega
  · rfl
end
/-! ### Elements of some cells each -/
section
variable {β : Type} {f : β → List Value} {Z : Nat} (hf : ∀ v, (f v).length = Z)
include hf
theorem flat_length (l : List β) : (l.flatMap f).length = l.length * Z := by
  induction l with
  | nil => simp
  | cons x l ih => rw [List.flatMap_cons, List.length_append, ih, hf, List.length_cons, Nat.succ_mul]; omega
theorem flat_take (l : List β) (i : Nat) : (l.flatMap f).take (i * Z) = (l.take i).flatMap f := by
  induction l generalizing i with
  | nil => simp
  | cons x l ih =>
    cases i with
    | zero => simp
    | succ i =>
      rw [List.flatMap_cons, List.take_succ_cons, List.flatMap_cons, ← ih, Nat.succ_mul, Nat.add_comm (i * Z) Z, ← hf x, List.take_length_add_append]
theorem flat_drop (l : List β) (i : Nat) : (l.flatMap f).drop (i * Z) = (l.drop i).flatMap f := by
  induction l generalizing i with
  | nil => simp
  | cons x l ih =>
    cases i with
    | zero => simp
    | succ i =>
      rw [List.flatMap_cons, List.drop_succ_cons, ← ih, Nat.succ_mul, Nat.add_comm (i * Z) Z, ← hf x, List.drop_length_add_append]
theorem flat_get (l : List β) {i j : Nat} {v : β} {u : Value} (hi : l[i]? = some v) (hj : (f v)[j]? = some u) : (l.flatMap f)[i * Z + j]? = some u := by
  have h1 := flat_drop hf l i
  obtain ⟨hl, hv⟩ := List.getElem?_eq_some_iff.1 hi
  rw [← List.getElem?_drop, h1, ← List.getElem_cons_drop hl, hv, List.flatMap_cons]
  rw [List.getElem?_append_left (List.getElem?_eq_some_iff.1 hj).1]
  exact hj
theorem flat_ins (l : List β) (i : Nat) (v : β) : (l.take i ++ v :: l.drop i).flatMap f = (l.flatMap f).take (i * Z) ++ f v ++ (l.flatMap f).drop (i * Z) := by
  rw [flat_take hf, flat_drop hf]; simp
theorem flat_del (l : List β) (i : Nat) : (l.take i ++ l.drop (i + 1)).flatMap f = (l.flatMap f).take (i * Z) ++ (l.flatMap f).drop ((i + 1) * Z) := by
  rw [flat_take hf, flat_drop hf]; simp
end
theorem flat_one {β : Type} {f : β → Value} (l : List β) : l.flatMap (fun v => [f v]) = l.map f := by
  induction l with
  | nil => rfl
  | cons x l ih => rw [List.flatMap_cons, ih]; rfl
theorem ld_str {w : World} {p : Addr} {x : ByteArray} {K : ByteArray → Prop} (h : w.cell? p = some (.string x)) (hk : K x) : ldS w p K := ⟨x, h, hk⟩
end Go.Proofs.YtnjmkhhaodgpbaaX
