/- Who holds an owner's objects: an object's distance kept, a row put, holders told, an object buried, raised, forgotten. -/
import Derived.Test.YtnjmkhhaodgpbaaL19T
namespace Go.Proofs.YtnjmkhhaodgpbaaX
open Go.RowKit
set_option linter.unusedVariables false
set_option linter.unusedSimpArgs false
set_option maxRecDepth 100000
section
variable {w w' W : World} {Q : Value → World → Prop} {g gt bm : Nat} {x : HB} {ft fh fh' rt rt' F : List Nat} {S S' : Sc} {s d : Int} {r : Scn}
theorem PSa.heap' {last' : Int} {os' : List (Int × Int)} (t : PSa w g x ft fh gt bm rt S) (h : PH w' x fh' S.node last' os') (f : Fr fh w w') (e : ∀ y ∈ fh', y ∈ fh ∨ w.heap.size ≤ y) :
    PSa w' g x (g :: bm :: (rt ++ fh')) fh' gt bm rt { S with last := last', os := os' } ∧ Fr ft w w' ∧ ∀ y ∈ g :: bm :: (rt ++ fh'), y ∈ ft ∨ w.heap.size ≤ y := by
  obtain ⟨m1, m2, m3, m4⟩ := t.mem
  have l1 := t.blk.lt
  have l2 := t.map.lt
  have l3 := t.tab.lt
  refine ⟨⟨t.blk.keep f t.gh, h, t.tab.keep f t.rh, t.map.keep f t.bh, t.ri, rfl, t.gb, t.gr, fun hm => ?_, t.br, fun hm => ?_, fun y hy hm => ?_⟩, f.mono m4, fun y hy => ?_⟩
  · rcases e g hm with h' | h'
    · exact t.gh h'
    · omega
  · rcases e bm hm with h' | h'
    · exact t.bh h'
    · omega
  · rcases e y hm with h' | h'
    · exact t.rh y hy h'
    · have := l3 y hy
      omega
  · rcases List.mem_cons.1 hy with rfl | hy
    · exact .inl m1
    rcases List.mem_cons.1 hy with rfl | hy
    · exact .inl m2
    rcases List.mem_append.1 hy with hy | hy
    · exact .inl (m3 y hy)
    · rcases e y hy with h' | h'
      · exact .inl (m4 y h')
      · exact .inr h'
theorem PSa.rows' {rows' : List (Int × Scn)} (t : PSa w g x ft fh gt bm rt S) (h : T_SC w' (at0 gt 0) rt' 4096 rows') (R : RI rows') (f : Fr rt w w') (e : ∀ y ∈ rt', y ∈ rt ∨ w.heap.size ≤ y) :
    PSa w' g x (g :: bm :: (rt' ++ fh)) fh gt bm rt' { S with rows := rows' } ∧ Fr ft w w' ∧ ∀ y ∈ g :: bm :: (rt' ++ fh), y ∈ ft ∨ w.heap.size ≤ y := by
  obtain ⟨m1, m2, m3, m4⟩ := t.mem
  have l1 := t.blk.lt
  have l2 := t.map.lt
  have l3 := t.heap.lt
  refine ⟨⟨t.blk.keep f t.gr, t.heap.keep f (fun y hy hm => t.rh y hm hy), h, t.map.keep f t.br, R, rfl, t.gb, fun hm => ?_, t.gh, fun hm => ?_, t.bh, fun y hy hm => ?_⟩, f.mono m3, fun y hy => ?_⟩
  · rcases e g hm with h' | h'
    · exact t.gr h'
    · omega
  · rcases e bm hm with h' | h'
    · exact t.br h'
    · omega
  · rcases e y hy with h' | h'
    · exact t.rh y h' hm
    · have := l3 y hm
      omega
  · rcases List.mem_cons.1 hy with rfl | hy
    · exact .inl m1
    rcases List.mem_cons.1 hy with rfl | hy
    · exact .inl m2
    rcases List.mem_append.1 hy with hy | hy
    · rcases e y hy with h' | h'
      · exact .inl (m3 y h')
      · exact .inr h'
    · exact .inl (m4 y hy)
theorem PSa.bur' {bur' : List Int} (t : PSa w g x ft fh gt bm rt S) (h : MU w' bm (bur'.map bent)) (f : Fr [bm] w w') : PSa w' g x ft fh gt bm rt { S with bur := bur' } ∧ Fr ft w w' := by
  obtain ⟨m1, m2, m3, m4⟩ := t.mem
  exact ⟨⟨t.blk.keep f (by simp; exact t.gb), t.heap.keep f (fun y hy hm => t.bh (by simp at hm; rwa [← hm])), t.tab.keep f (fun y hy hm => t.br (by simp at hm; rwa [← hm])), h, t.ri, t.foot, t.gb, t.gr, t.gh, t.br, t.bh, t.rh⟩, f.mono fun y hy => by simp at hy; rw [hy]; exact m2⟩
theorem PSa.cur' (t : PSa w g x ft fh gt bm rt S) (k : Int) {K : World → Prop} (hK : ∀ w', PSa w' g x ft fh gt bm rt { S with cur := k } → Fr ft w w' → K w') : stK w ((at0 g 0).add 25) (.int .u64 k) K := by
  obtain ⟨m1, m2, m3, m4⟩ := t.mem
  refine stB (i := 25) t.blk (show 25 < 26 by omega) fun w' b f => hK w' ⟨b, t.heap.keep f (fun y hy hm => t.gh (by simp at hm; rwa [← hm])), t.tab.keep f (fun y hy hm => t.gr (by simp at hm; rwa [← hm])), t.map.keep f (by simp; exact fun e => t.gb e.symm), t.ri, t.foot, t.gb, t.gr, t.gh, t.br, t.bh, t.rh⟩ (f.mono fun y hy => by simp at hy; rw [hy]; exact m1)
theorem keep_l0 (t : PS W g x ft S) (h0 : 0 ≤ s) (h1 : s ≤ 18446744073709551615) (hQ : AftS W g x ft (keepS S s) (.tuple #[]) Q) {p : Option Addr} {c : Nat} {w0 : World} (ho : Own 53 6 w0 p (ofR S.rows s).length c (sq (ofR S.rows s))) (F0 : Fr [] W w0) :
    ∀ (f i : Nat) (w1 : World), (ofR S.rows s).length - i < f → i ≤ (ofR S.rows s).length → Fr [] w0 w1 → X45.l0 Q f (some (at0 g 0)) s (((ofR S.rows s).take i).foldl (stepIn S.bur s) 0) p (ofR S.rows s).length c ((ofR S.rows s).length : Int) (i : Int) w1
  | 0, i, w1, hf, _, _ => absurd hf (Nat.not_lt_zero _)
  | f + 1, i, w1, hf, hi, F1 => by
    have R := t.ri
    have hsz := t.size
    have tt := t
    obtain ⟨fh, gt, bm, rt, t⟩ := t
    have F := F0.tr F1
    have t1 := t.keep' F
    have hle : (ofR S.rows s).length ≤ 4096 := by
      unfold ofR
      rw [List.length_map]
      exact Nat.le_trans (List.length_filter_le _ _) hsz
    rw [X45.l0]
    refine bc_dec (fun hlt => ⟨⟨by omega, by omega⟩, ?_⟩) (fun hge => ?_)
    · have hl : i < (ofR S.rows s).length := by omega
      have hr := List.getElem?_eq_getElem hl
      obtain ⟨a, ha, hat⟩ := scn_at ((ho.keep' F1).cells) hr
      generalize (ofR S.rows s)[i] = r at *
      rw [Int.toNat_natCast]
      have e1 : IntKind.wrap .i64 ((i : Int) + 1) = ((i + 1 : Nat) : Int) := by rw [i64w ((i : Int) + 1) (by omega) (by omega)]; omega
      have e2 : ((ofR S.rows s).take (i + 1)).foldl (stepIn S.bur s) 0 = stepIn S.bur s (((ofR S.rows s).take i).foldl (stepIn S.bur s) 0) r := by
        rw [List.take_add_one, hr, List.foldl_append]
        rfl
      have ih := fun w2 (F2 : Fr [] w1 w2) => keep_l0 tt h0 h1 hQ ho F0 f (i + 1) w2 (by omega) (by omega) (F1.tr F2)
      rw [e2] at ih
      rw [e1]
      refine opt_some ha (ld_Scn (s := r) hat (newB fun g8 w9 b9 f9 h9 => stAllB (vs := r.cells) b9 rfl fun w10 b10 f10 => ?_))
      have z9 := f9.size
      have F10 : Fr [] w1 w10 := f9.trans f10 (fun y hy => .inr (by simp at hy; omega))
      have t10 := t1.keep' F10
      have ih := ih w10 F10
      unfold stepIn at ih
      refine ld_bool (b10.cat 2 _ rfl) (bc_bool (fun hp => opt_some rfl (ld_map (t10.cat 24 rfl) (bur_look t10 h0 h1 ⟨_, rfl, ?_⟩))) (fun hp => ?_))
      · by_cases hb : s ∈ S.bur
        · rw [if_pos hb]
          rw [if_neg (fun hh => hh.2.1 hb)] at ih
          exact bc_eq (fun e => by cases e) (fun _ => ih)
        · rw [if_neg hb]
          refine bc_eqt' rfl (bc_eq (fun hz => ?_) (fun hz => ?_))
          · rw [if_pos ⟨hp, hb, .inl hz⟩] at ih
            exact ld_int (b10.cat 5 _ rfl) ih
          · refine ld_int (b10.cat 5 _ rfl) (bc_dec (fun hd => ?_) (fun hd => ?_))
            · rw [if_pos ⟨hp, hb, .inr hd⟩] at ih
              exact ld_int (b10.cat 5 _ rfl) ih
            · rw [if_neg (fun hh => hh.2.2.elim hz hd)] at ih
              exact ih
      · rw [if_neg (fun hh => by rw [hp] at hh; cases hh.1)] at ih
        exact ih
    · have : (ofR S.rows s).take i = ofR S.rows s := List.take_of_length_le (by omega)
      rw [this]
      obtain ⟨r1, r2⟩ := inOf_rng (bur := S.bur) (s := s) R
      refine opt_some rfl (ld_ptr (t1.cat 22 rfl) (setIn_spec t1.heap h0 h1 r1 r2 fun c2 fh' w' P' f' e' => ⟨_, rfl, ?_⟩))
      obtain ⟨t2, f2, e2⟩ := t1.heap' P' f' e'
      exact hQ _ w' ⟨_, _, _, _, t2⟩ (F.any.tr f2) (fun y hy => (e2 y hy).imp_right fun h => by have := F.size; omega)
theorem keep_spec (t : PS w g x ft S) (h0 : 0 ≤ s) (h1 : s ≤ 18446744073709551615) (hQ : AftS w g x ft (keepS S s) (.tuple #[]) Q) : CallR Try.prog 45 #[.pointer (some (at0 g 0)), .int .u64 s] w Q := by
  apply X45.sound
  unfold X45.f
  refine of_spec t h0 h1 fun p c w2 o2 f2 _ => ⟨_, _, _, rfl, (ofR S.rows s).length + 1, ?_⟩
  exact keep_l0 t h0 h1 hQ o2 f2 _ 0 w2 (by omega) (by omega) (Fr.refl _)
theorem put_spec (t : PS w g x ft S) (hr : okRow r) (hQ : AftS w g x ft (putS S r) (.tuple #[]) Q) : CallR Try.prog 37 #[.pointer (some (at0 g 0)), r.val] w Q := by
  apply X37.sound
  unfold X37.f
  refine newB fun g1 w2 b2 f2 h2 => drawn fun w3 f3 _ => ?_
  have b2 : Blk w2 g1 r.cells 53 := b2
  have b3 := b2.keep' f3
  have F3 := f2.tr f3
  have R := t.ri
  have tt := t.keep' F3
  obtain ⟨fh, gt, bm, rt, t⟩ := t
  have t3 := t.keep' F3
  have hs := hr.1
  refine opt_some rfl (ld_ptr (t3.cat 23 rfl) (ld_int (b3.cat 0 _ rfl) (ld_int (b3.cat 1 _ rfl) (key_spec ⟨_, rfl, ⟨t3.cat 23 rfl, t3.cat 23 rfl⟩, ld_Scn (s := r) b3.cat ⟨⟨fun j u hj => b3.cat j u hj, fun j u hj => b3.cat j u hj⟩, ?_⟩⟩))))
  have ng : ∀ {y : Nat}, y ∈ ft → y ≠ g1 := fun hy => by have := t.lt _ hy; omega
  have hQ3 : AftS w3 g x ft (putS S r) (.tuple #[]) Q := hQ.next F3.any (fun y hy => .inl hy)
  refine put_SC t3.tab (fun hn hm w' f' => ⟨_, rfl, ld_int ((b3.keep' f').cat 0 _ rfl) ?_⟩) (fun hh rt' w' T' f' e' => ⟨_, rfl, ?_⟩)
  · have e : putRow S.rows r = S.rows := by
      unfold putRow
      rw [if_neg (by rw [hn]; rintro (h | h); cases h; omega)]
    unfold putS at hQ3
    rw [e] at hQ3
    refine keep_spec (tt.keep' f') (by omega) (by omega) ?_
    intro ft2 w2 P2 f2 e2
    exact ⟨rfl, hQ3.next f'.any (fun y hy => .inl hy) ft2 w2 P2 f2 e2⟩
  · have e : putRow S.rows r = put ilt S.rows (keyS r.serial r.holder) r := by
      unfold putRow
      rw [if_pos (hh.imp_right fun h => by omega)]
    obtain ⟨t2, f2, e2⟩ := t3.rows' T' (by rw [← e]; exact R.putR hr) f' e'
    have bg : g1 ∉ rt := fun hm => ng (t.mem.2.2.1 _ hm) rfl
    refine ld_int ((b3.keep f' bg).cat 0 _ rfl) (keep_spec ⟨_, _, _, _, t2⟩ (by omega) (by omega) ?_)
    unfold putS at hQ3
    rw [e] at hQ3
    intro ft2 w2 P2 f2' e2'
    exact ⟨rfl, hQ3.next f2 e2 ft2 w2 P2 f2' e2'⟩
end
end Go.Proofs.YtnjmkhhaodgpbaaX
