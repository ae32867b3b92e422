/- StubTurn: in as many steps as there are stubs each of them has its turn. -/
import Derived.Test.YtglininpmfgggaaL18TurnP
import Derived.Test.YtglininpmfgggaaL18Full
namespace Go.Proofs.YtglininpmfgggaaX
open Go.RowKit
set_option linter.unusedVariables false
set_option linter.unusedSimpArgs false
set_option maxRecDepth 100000
def nearN (a : Int) (c : Cfg) : Int := IntKind.wrap .i64 (1 + a % c.nodes)
def nearS (a : Int) : Int := IntKind.wrap .u64 (IntKind.wrap .i64 (1 + IntKind.wrap .i64 (Int.tdiv a 4) % 5))
theorem rowT35 : RowT Try.prog 35 3 1 8 := ⟨by kernel_rfl, ⟨Try.t3, Value.int .i64 0, by kernel_rfl, by kernel_rfl, by kernel_rfl, by kernel_rfl, by kernel_rfl⟩, by omega⟩
/-- a row of numbers -/
def rowF (n : Nat) (fn : Nat → Int) : List Value := (List.range n).map fun j => .int .i64 (fn j)
theorem rowF_get {n : Nat} {fn : Nat → Int} {j : Nat} (h : j < n) : (rowF n fn)[j]? = some (.int .i64 (fn j)) := by unfold rowF; simp [h]
theorem rowF_set {n : Nat} {fn : Nat → Int} {k : Nat} {v : Int} : (rowF n fn).set k (.int .i64 v) = rowF n (fun j => if j = k then v else fn j) := by
  apply List.ext_getElem?
  intro j
  unfold rowF
  simp only [List.getElem?_set, List.length_map, List.length_range, List.getElem?_map, List.getElem?_range]
  by_cases hj : k = j
  · subst hj
    by_cases hk : k < n
    · simp [hk]
    · simp [hk]
  · rw [if_neg hj]
    by_cases hk : j < n
    · simp [hk]
      intro h
      exact absurd h.symm hj
    · simp [hk]
theorem rowF_congr {n : Nat} {f g : Nat → Int} (h : ∀ j, j < n → f j = g j) : rowF n f = rowF n g := by
  unfold rowF
  apply List.map_congr_left
  intro j hj
  rw [h j (by simpa using hj)]
theorem makeRow {w : World} {n : Nat} {K : Value → World → Prop} (hn : n ≤ 100000) (hK : ∀ p w', Own 3 1 w' (some p) n n (rowF n fun _ => 0) → Fr [] w w' → w.heap.size ≤ p.block → K (.slice (some p) n n) w') :
    RunR Try.prog (Instr.makeSlice 35 (.int .i64 (n : Int)) (.int .i64 (n : Int))) w K := by
  obtain ⟨i, z, hi, hz, hsz, hby, hzs⟩ := rowT35.info
  obtain rfl : i = Try.t3 := by
    have : Try.prog.info? 3 = some Try.t3 := by kernel_rfl
    rw [this] at hi; injection hi with hi; exact hi.symm
  obtain rfl : z = Value.int .i64 0 := by
    have : Try.t3.zero = some (Value.int .i64 0) := by kernel_rfl
    rw [this] at hz; injection hz with hz; exact hz.symm
  have hmx : n ≤ maxLen := by simp only [maxLen]; omega
  obtain ⟨w', hr, ho, hg⟩ := run_make_full (P := Try.prog) w 0 35 3 Try.t3 (Value.int .i64 0) 1 rowT35.under (by kernel_rfl) (by kernel_rfl) hsz .i64 .i64 n (by rw [hby]; omega) hmx (Nat.zero_le _)
  refine ⟨_, _, hr, hK _ w' ?_ (Fr.grown hg (fun k hk => by cases hk)) (Nat.le_refl _)⟩
  have e : (madeCells (Value.int .i64 0).cells (n * 1)).toList = rowF n fun _ => 0 := by
    rw [Nat.mul_one]
    show (madeCells #[Value.int .i64 0] n).toList = _
    rw [toList_madeCells_one]
    unfold rowF
    rw [List.map_const', List.length_range]
  rw [e] at ho
  exact ho
theorem PTa.small {w : World} {g gt : Nat} {ft : List Nat} {S : Sn} (t : PTa w g gt ft S) : S.l.length ≤ 4096 := by
  obtain ⟨a, b, c, d, e, tt⟩ := t.tab
  have := tt.le; have := tt.top; omega
section
variable {w w' W : World} {Q : Value → World → Prop} {g gt gc gm : Nat} {ft ft' : List Nat} {S S' : Sn} {c : Cfg} {ap sp : Option Addr} {ac sc : Nat} {A B : List (Int × Stb)} {fn f2 : Nat → Int} {now s0 w0 w1 : Int}
theorem near_spec {a : Int} (hc1 : 2 ≤ c.nodes) (hc2 : c.nodes ≤ 64) (hQ : ∀ w', Fr [] w w' → Q (.agg #[.int .i64 (nearN a c), .int .u64 (nearS a)]) w') : CallR Try.prog 16 #[.int .i64 a, c.val] w Q := by
  apply X16.sound
  unfold X16.f
  refine newB fun g1 w2 b1 f2 h1 => newB fun g3 w4 b3 f4 h3 => ?_
  have b1 : Blk w2 g1 c.cells 24 := b1
  have s2 := f2.size
  refine ld_int ((b1.keep' f4).cat 0 _ rfl) (pick_spec (by omega) (by omega) ⟨_, rfl, by omega, pick_spec (by omega) (by omega) ⟨_, rfl, stAllB (vs := idcs (nearN a c) (nearS a)) b3 rfl fun w12 b12 f12 => ?_⟩⟩)
  exact ld_int (b12.cat 0 _ rfl) (ld_int (b12.cat 1 _ rfl) (hQ _ ((f2.tr f4).loc f12 (by omega))))
/-- a round's memory -/
structure RwI (W w : World) (g gt : Nat) (ft : List Nat) (S : Sn) (ap : Option Addr) (ac : Nat) (A : List (Int × Stb)) (sp : Option Addr) (sc : Nat) (fn : Nat → Int) : Prop where
  p : PL W w g gt ft S
  oa : Own 51 9 w ap A.length ac (A.flatMap vc_SB)
  os : Own 3 1 w sp A.length sc (rowF A.length fn)
  na : ∀ x ∈ fbl ap, x ∉ g :: ft
  ns : ∀ x ∈ fbl sp, x ∉ g :: ft
  d : ∀ x ∈ fbl ap, x ∉ fbl sp
  ws : ∀ x ∈ fbl sp, W.heap.size ≤ x
theorem RwI.keep' (h : RwI W w g gt ft S ap ac A sp sc fn) (f : Fr [] w w') : RwI W w' g gt ft S ap ac A sp sc fn := ⟨h.p.keep' f, h.oa.keep' f, h.os.keep' f, h.na, h.ns, h.d, h.ws⟩
theorem RwI.next (h : RwI W w g gt ft S ap ac A sp sc fn) (t' : PTa w' g gt ft' S') (f : Fr (g :: ft) w w') (e : ∀ x ∈ ft', x ∈ ft ∨ w.heap.size ≤ x) : RwI W w' g gt ft' S' ap ac A sp sc fn := by
  have out : ∀ x, x ∉ g :: ft → x < w.heap.size → x ∉ g :: ft' := fun x h1 h2 hm => by
    rcases List.mem_cons.1 hm with rfl | hm
    · exact h1 (by simp)
    · rcases e x hm with h' | h'
      · exact h1 (by simp [h'])
      · omega
  exact ⟨h.p.next t' f e, h.oa.keep f h.na, h.os.keep f h.ns, fun x hx => out x (h.na x hx) (h.oa.lt x hx), fun x hx => out x (h.ns x hx) (h.os.lt x hx), h.d, h.ws⟩
theorem RwI.congr (h : RwI W w g gt ft S ap ac A sp sc fn) (he : ∀ j, j < A.length → fn j = f2 j) : RwI W w g gt ft S ap ac A sp sc f2 := ⟨h.p, h.oa, by rw [← rowF_congr he]; exact h.os, h.na, h.ns, h.d, h.ws⟩
theorem RwI.set {a : Addr} (h : RwI W w g gt ft S ap ac A sp sc fn) (hq : sp = some a) {k : Nat} (hk : k < A.length) {v : Int} {K : World → Prop} (hK : ∀ w', RwI W w' g gt ft S ap ac A sp sc (fun j => if j = k then v else fn j) → Fr (fbl sp) w w' → K w') : stK w (a.add k) (.int .i64 v) K := by
  subst hq
  have hl : k < (rowF A.length fn).length := by simp [rowF]; exact hk
  have f : Fr [a.block] w (w.setCell (a.add k) (.int .i64 v)) := Fr.setCell (by rw [add_block]; simp) _
  have f' : Fr (fbl (some a)) w (w.setCell (a.add k) (.int .i64 v)) := Fr.setCell (by rw [add_block]; simp [fbl]) _
  have hb : ∀ x, x ∉ fbl (some a) → x ∉ [a.block] := fun x hx hm => hx (by simpa [fbl] using hm)
  refine ⟨h.os.storeOk hl, hK _ ⟨h.p.off (h.ns _ (by simp [fbl])) (h.ws _ (by simp [fbl])) f, h.oa.keep f (fun x hx => hb x (h.d x hx)), ?_, h.na, h.ns, h.d, h.ws⟩ f'⟩
  have := h.os.set hl (.int .i64 v)
  rw [rowF_set] at this
  exact this
theorem RwI.num (h : RwI W w g gt ft S ap ac A sp sc fn) {k : Nat} (hk : k < A.length) : ∃ a, sp = some a ∧ w.cell? (a.add (Int.toNat (k : Int) * 1)) = some (.int .i64 (fn k)) := by
  obtain ⟨a, ha, hc⟩ := h.os.cells k _ (rowF_get hk)
  refine ⟨a, ha, ?_⟩
  rw [Int.toNat_natCast, Nat.mul_one]; exact hc
theorem turn_l3 {m : Msg} {p : Nat} {t13 : Int} {b1 : Addr → Option Addr → Option Addr → Nat → Nat → Int → World → Prop} {b2 : Addr → Option Addr → Option Addr → Nat → Nat → Int → Int → Option Addr → Nat → Nat → Int → World → Prop} {gcA : Addr} {gp : Option Addr} {rd tn : Int}
    (hA : ∀ k x, A[k]? = some x → ((x.2.nd = m.tn ∧ x.2.sr = m.ts) ↔ k = p)) (hfn : fn p = 0) (hal : A.length ≤ 4096) (ng : gm ∉ fbl sp)
    (hb : ∀ w', RwI W w' g gt ft S ap ac A sp sc (fun j => if j = p ∧ j < A.length then 1 else fn j) → b2 gcA gp ap A.length ac rd tn sp A.length sc (IntKind.wrap .i64 (t13 + 1)) w') :
    ∀ (f k : Nat) (w : World), A.length - k < f → k ≤ A.length → RwI W w g gt ft S ap ac A sp sc (fun j => if j = p ∧ j < k then 1 else fn j) → Blk w gm m.cells 47 → X4.l3 Q b1 b2 f gcA gp ap A.length ac rd tn sp A.length sc t13 (at0 gm 0) (k : Int) w
  | 0, k, w, hf, _, _, _ => by omega
  | f + 1, k, w, hf, hk, h, bm => by
    rw [X4.l3]
    refine bc_dec (fun h1 => drawn fun w2 f2 _ => ⟨⟨by omega, by omega⟩, ?_⟩) (fun h1 => ?_)
    · have h := h.keep' f2
      have bm := bm.keep' f2
      have hlt : k < A.length := by omega
      have hg := List.getElem?_eq_getElem hlt
      generalize A[k] = e at hg
      obtain ⟨a, ha, hat⟩ := own_at vc_len_SB h.oa rfl hg
      have hat : At w2 (a.add (k * 9)) e.2.cells := hat
      have hiff := hA k e hg
      have ek : IntKind.wrap .i64 ((k : Int) + 1) = ((k + 1 : Nat) : Int) := by rw [i64w ((k : Int) + 1) (by omega) (by omega)]; omega
      refine opt_some ha (ld_int (by rw [Int.toNat_natCast]; exact hat.sub 0 0 rfl) (ld_int (by rw [Int.toNat_natCast]; exact hat.sub 0 1 rfl) (ld_int (bm.cat.sub 8 0 rfl) (ld_int (bm.cat.sub 8 1 rfl) ⟨isS40, bc_bool (fun hc => ⟨⟨by omega, by omega⟩, ?_⟩) (fun hc => ?_)⟩))))
      · have hkp : k = p := hiff.1 (by simpa using hc)
        obtain ⟨q, hq, hcell⟩ := h.num hlt
        refine opt_some hq (ld_int hcell ⟨⟨by omega, by omega⟩, opt_some hq ?_⟩)
        rw [if_neg (by omega), hkp, hfn, ← hkp]
        rw [show IntKind.wrap .i64 ((0 : Int) + 1) = 1 by decide, Int.toNat_natCast, Nat.mul_one]
        refine h.set hq hlt fun w10 h10 f10 => ?_
        rw [ek]
        refine turn_l3 hA hfn hal ng hb f (k + 1) w10 (by omega) (by omega) (h10.congr fun j hj => ?_) (bm.keep f10 ng)
        by_cases h2 : j = k
        · subst h2; rw [if_pos rfl, if_pos ⟨hkp, by omega⟩]
        · rw [if_neg h2]
          by_cases h3 : j = p
          · omega
          · rw [if_neg (by omega), if_neg (by omega)]
      · have hkp : ¬ k = p := fun hh => by have := hiff.2 hh; simp [this.1, this.2] at hc
        rw [ek]
        refine turn_l3 hA hfn hal ng hb f (k + 1) w2 (by omega) (by omega) (h.congr fun j hj => ?_) bm
        by_cases h3 : j = p
        · by_cases h4 : j < k
          · rw [if_pos ⟨h3, h4⟩, if_pos ⟨h3, by omega⟩]
          · rw [if_neg (by omega), if_neg (by omega)]
        · rw [if_neg (by omega), if_neg (by omega)]
    · have : k = A.length := by omega
      subst this
      exact hb w h
theorem turn_l4 {b1 : Addr → Option Addr → Option Addr → Nat → Nat → Int → World → Prop} {gcA : Addr} {rd : Int} (hal : A.length ≤ 4096) (hone : ∀ j, j < A.length → fn j = 1) (hno : (stepS S now).2.2 = false)
    (hb : ∀ w' ft', RwI W w' g gt ft' (stepS S now).1 ap ac A sp sc fn → b1 gcA (some (at0 g 0)) ap A.length ac (IntKind.wrap .i64 (rd + 1)) w') :
    ∀ (f k : Nat) (w : World), A.length - k < f → k ≤ A.length → RwI W w g gt ft S ap ac A sp sc fn → X4.l4 Q b1 f gcA (some (at0 g 0)) ap A.length ac rd now sp A.length sc (k : Int) w
  | 0, k, w, hf, _, _ => by omega
  | f + 1, k, w, hf, hk, h => by
    rw [X4.l4]
    refine bc_dec (fun h1 => ⟨⟨by omega, by omega⟩, ?_⟩) (fun h1 => ?_)
    · obtain ⟨q, hq, hcell⟩ := h.num (k := k) (by omega)
      refine opt_some hq (ld_int hcell (bc_ne (fun hn => absurd (hone k (by omega)) hn) (fun _ => ?_)))
      rw [i64w ((k : Int) + 1) (by omega) (by omega), show (k : Int) + 1 = ((k + 1 : Nat) : Int) by omega]
      exact turn_l4 hal hone hno hb f (k + 1) w (by omega) (by omega) h
    · refine step_spec h.p.t ?_
      intro ft' w2 t2 f2 e2
      rw [hno]
      have h2 := h.next t2 f2 e2
      refine ⟨_, _, _, _, _, _, _, _, _, _, _, _, _, _, _, _, _, _, _, _, _, _, _, _, rfl, newB fun gm w24 bm f24 h24 => stAllB (vs := (stepS S now).2.1.cells) bm rfl fun w25 b25 f25 => bc_bool (fun h => by cases h) (fun _ => ?_)⟩
      have h24' := h2.keep' f24
      have ng := h2.p.fresh h24
      have z2 := h2.p.F.size
      have na : ∀ x, x ∈ fbl ap → x ≠ gm := fun x hx => by have := h2.oa.lt x hx; omega
      have ns : ∀ x, x ∈ fbl sp → x ≠ gm := fun x hx => by have := h2.os.lt x hx; omega
      exact hb w25 ft' ⟨h24'.p.off ng (by omega) f25, h24'.oa.keep f25 (fun x hx => by simpa using na x hx), h24'.os.keep f25 (fun x hx => by simpa using ns x hx), h24'.na, h24'.ns, h24'.d, h24'.ws⟩
theorem turn_l2 {b1 : Addr → Option Addr → Option Addr → Nat → Nat → Int → World → Prop} {gcA : Addr} {rd : Int} {p0 : Nat} (hal : A.length ≤ 4096) (hAB : A.length = B.length) (hids : idsOf A = idsOf B) (b : Base B s0 w0) (hp : p0 < B.length) (hd : pastB s0 w0 now = true) (hw : waitN w0 c.wait c.most = w1)
    (hb : ∀ w' ft' S', RdI c B now w1 p0 S' B.length → RwI W w' g gt ft' S' ap ac A sp sc (fun j => 1) → ∃ m, X4.l4 Q b1 m gcA (some (at0 g 0)) ap A.length ac rd now sp A.length sc (0 : Int) w') :
    ∀ (f i : Nat) (w : World) (ft : List Nat) (S : Sn), A.length - i < f → i ≤ A.length → RdI c B now w1 p0 S i → RwI W w g gt ft S ap ac A sp sc (fun j => if dOf B.length p0 j < i then 1 else 0) → X4.l2 Q b1 f gcA (some (at0 g 0)) ap A.length ac rd now sp A.length sc (i : Int) w
  | 0, i, w, ft, S, hf, _, _, _ => by omega
  | f + 1, i, w, ft, S, hf, hi, r, h => by
    rw [X4.l2]
    refine bc_dec (fun h1 => ?_) (fun h1 => ?_)
    · obtain ⟨e, he, hs2, r'⟩ := rd_step b r hp (by omega) hd hw
      refine step_spec h.p.t ?_
      rw [hs2]
      intro ft' w2 t2 f2 e2
      have h2 := h.next t2 f2 e2
      refine ⟨_, _, _, _, _, _, _, _, _, _, _, _, _, _, _, _, _, _, _, _, _, _, _, _, rfl, newB fun gm w24 bm f24 h24 => stAllB (vs := (dirtyM S e.2 now).cells) bm rfl fun w25 b25 f25 => ?_⟩
      have h24' := h2.keep' f24
      have ng := h2.p.fresh h24
      have z2 := h2.p.F.size
      have na : ∀ x, x ∈ fbl ap → x ≠ gm := fun x hx => by have := h2.oa.lt x hx; omega
      have ns : ∀ x, x ∈ fbl sp → x ≠ gm := fun x hx => by have := h2.os.lt x hx; omega
      have h25 : RwI W w25 g gt ft' (stepS S now).1 ap ac A sp sc (fun j => if dOf B.length p0 j < i then 1 else 0) := ⟨h24'.p.off ng (by omega) f25, h24'.oa.keep f25 (fun x hx => by simpa using na x hx), h24'.os.keep f25 (fun x hx => by simpa using ns x hx), h24'.na, h24'.ns, h24'.d, h24'.ws⟩
      have hpl := pOf_lt hp (show i < B.length by omega)
      have hdp := (dOf_p hp (show i < B.length by omega) hpl).2 rfl
      refine bc_bool (fun h => by cases h) (fun _ => ld_int (b25.cat 0 _ rfl) (bc_ne (fun hn => absurd rfl hn) (fun _ => ld_int (b25.cat 1 _ rfl) (bc_ne (fun hn => absurd r.node hn) (fun _ => ld_int (b25.cat 2 _ rfl) (ld_int (b25.cat.sub 8 0 rfl) (bc_ne (fun hn => absurd rfl hn) (fun _ => ld_int (b25.cat 15 _ rfl) (bc_ne (fun hn => absurd rfl hn) (fun _ => ?_)))))))))) 
      unfold X4.j5
      refine ⟨A.length + 1, turn_l3 (m := dirtyM S e.2 now) (p := pOf B.length p0 i) (fn := fun j => if dOf B.length p0 j < i then 1 else 0) (fun k x hx => ?_) (by rw [if_neg (by omega)]) hal (fun hm => ns _ hm rfl) (fun w' h' => ?_) _ 0 w25 (by omega) (by omega) (h25.congr fun j hj => by rw [if_neg (show ¬ (j = pOf B.length p0 i ∧ j < 0) by omega)]) b25⟩
      · have hkl := (List.getElem?_eq_some_iff.1 hx).1
        have hB := List.getElem?_eq_getElem (show k < B.length by omega)
        generalize B[k] = y at hB
        have hxy : (idsOf A)[k]? = (idsOf B)[k]? := by rw [hids]
        unfold idsOf at hxy
        rw [List.getElem?_map, List.getElem?_map, hx, hB] at hxy
        simp only [Option.map_some, Option.some.injEq, Prod.mk.injEq] at hxy
        show (x.2.nd = e.2.nd ∧ x.2.sr = e.2.sr) ↔ _
        constructor
        · intro hh
          exact ids_one b hB he (hxy.1.symm.trans hh.1) (hxy.2.symm.trans hh.2)
        · intro hh
          subst hh
          rw [he] at hB
          injection hB with hB
          subst hB
          exact hxy
      · rw [i64w ((i : Int) + 1) (by omega) (by omega), show (i : Int) + 1 = ((i + 1 : Nat) : Int) by omega]
        refine turn_l2 hal hAB hids b hp hd hw hb f (i + 1) w' ft' _ (by omega) (by omega) r' (h'.congr fun j hj => ?_)
        have := dOf_p hp (show i < B.length by omega) (show j < B.length by omega)
        by_cases h3 : j = pOf B.length p0 i
        · rw [if_pos ⟨h3, hj⟩, if_pos (by omega)]
        · rw [if_neg (by omega)]
          by_cases h4 : dOf B.length p0 j < i
          · rw [if_pos h4, if_pos (by omega)]
          · rw [if_neg h4, if_neg (by omega)]
    · have hi' : i = B.length := by omega
      subst hi'
      exact hb w ft S r (h.congr fun j hj => by rw [if_pos (dOf_lt hp (by omega))])
/-- a whole round -/
theorem turn_round {b1 : Addr → Option Addr → Option Addr → Nat → Nat → Int → World → Prop} {gcA : Addr} {rd : Int} (hal : A.length ≤ 4096) (hids : idsOf A = idsOf S.l) (h : AskI c s0 w0 S) (hd : pastB s0 w0 now = true) (hw : waitN w0 c.wait c.most = w1) (hw1 : 1 ≤ w1)
    (p : PL W w g gt ft S) (oa : Own 51 9 w ap A.length ac (A.flatMap vc_SB)) (na : ∀ x ∈ fbl ap, x ∉ g :: ft)
    (hb : ∀ w' ft' S', AskI c now w1 S' → idsOf A = idsOf S'.l → PL W w' g gt ft' S' → Own 51 9 w' ap A.length ac (A.flatMap vc_SB) → (∀ x ∈ fbl ap, x ∉ g :: ft') → b1 gcA (some (at0 g 0)) ap A.length ac (IntKind.wrap .i64 (rd + 1)) w') :
    X4.j6 Q b1 gcA (some (at0 g 0)) ap A.length ac rd now w := by
  unfold X4.j6
  have hAB : A.length = S.l.length := by
    have := congrArg List.length hids
    simpa [idsOf] using this
  refine makeRow (by omega) fun sp w2 os f2 hsp => ⟨_, _, _, rfl, A.length + 1, ?_⟩
  have z := p.F.size
  have R : RwI W w2 g gt ft S ap ac A (some sp) A.length (fun _ => 0) := ⟨p.keep' f2, oa.keep' f2, os, na, fun x hx => by simp [fbl] at hx; subst hx; exact p.fresh hsp, fun x hx hm => by simp [fbl] at hm; have := oa.lt x hx; omega, fun x hx => by simp [fbl] at hx; omega⟩
  by_cases hn : S.l.length = 0
  · obtain ⟨r1, r2, r3⟩ := rd_none (now := now) (w1 := w1) h hn
    rw [X4.l2]
    refine bc_dec (fun h1 => by omega) (fun h1 => ⟨A.length + 1, ?_⟩)
    exact turn_l4 hal (fun j hj => by omega) r1 (fun w' ft' R' => hb w' ft' _ r2 (by rw [r3, hids]) R'.p R'.oa R'.na) _ 0 w2 (by omega) (by omega) R
  · obtain ⟨b, p0, hp, r⟩ := rd_start (now := now) (w1 := w1) h (by omega)
    refine turn_l2 (B := S.l) hal hAB hids b hp hd hw (fun w' ft' S' r' R' => ⟨A.length + 1, ?_⟩) _ 0 w2 ft S (by omega) (by omega) r (R.congr fun j hj => by rw [if_neg (by omega)])
    obtain ⟨r1, r2, r3⟩ := rd_end b r' hp hw1
    exact turn_l4 hal (fun j hj => rfl) r1 (fun w' ft' R' => hb w' ft' _ r2 (by rw [r3, hids]) R'.p R'.oa R'.na) _ 0 w' (by omega) (by omega) R'
theorem past_wait {s0 wt : Int} (h0 : 0 ≤ wt) (h1 : wt ≤ 4294967295) : pastB s0 wt (s0 + wt) = true := by
  unfold pastB
  rw [if_pos (by omega), show s0 + wt - s0 = wt by omega, u64w wt (by omega) (by omega), decide_eq_true (by omega)]
theorem turn_j7 (hm : mayB c = true) (bc : Blk W gc c.cells 24) (hQ : ∀ w', Fr [] W w' → Q (.bool true) w') (p : PL W w g gt ft S) (h : AskI c 50 0 S) : X4.j7 Q (at0 gc 0) (some (at0 g 0)) w := by
  have mw := may_wait hm
  have e0 : waitN 0 c.wait c.most = c.wait := by unfold waitN min2; rw [if_pos rfl]; split <;> omega
  have e1 : 1 ≤ waitN c.wait c.wait c.most := by
    unfold waitN
    rw [if_neg (by omega)]
    split
    · omega
    · rename_i hh
      rw [Int.tdiv_eq_ediv_of_nonneg (by omega), u64w _ (by omega) (by omega)] at hh
      rw [u64w _ (by omega) (by omega)]; omega
  unfold X4.j7
  refine all_spec p.t fun ap ac w2 oa f2 n2 => ⟨_, _, _, rfl, 3, ?_⟩
  have p2 := p.keep' f2
  have na : ∀ x ∈ fbl ap, x ∉ g :: ft := fun x hx => p.fresh (n2 x hx)
  have hal := p.t.small
  rw [X4.l1]
  refine bc_dec (fun _ => bc_eq (fun h => absurd h (by decide)) (fun _ => ?_)) (fun h => absurd (by decide) h)
  refine turn_round (w1 := c.wait) hal rfl h (by decide +kernel) e0 (by omega) p2 oa na fun w3 ft3 S3 h3 i3 p3 o3 n3 => ?_
  rw [show IntKind.wrap .i64 ((0 : Int) + 1) = 1 by decide, X4.l1]
  refine bc_dec (fun _ => bc_eq (fun _ => ld_int ((bc.keep' p3.F).cat 14 _ rfl) ?_) (fun h => absurd rfl h)) (fun h => absurd (by decide) h)
  rw [u64w (50 + c.wait) (by omega) (by omega)]
  refine turn_round (w1 := waitN c.wait c.wait c.most) hal i3 h3 (past_wait (by omega) (by omega)) rfl e1 p3 o3 n3 fun w4 ft4 S4 h4 i4 p4 o4 n4 => ?_
  rw [show IntKind.wrap .i64 ((1 : Int) + 1) = 2 by decide, X4.l1]
  exact bc_dec (fun h => absurd h (by decide)) (fun _ => hQ w4 p4.F)
theorem turn_l0 {ip : Option Addr} {n cap : Nat} {zs : List Int} (hr : IsRow .i64 W ip n cap zs) (hm : mayB c = true) (hn2 : 2 ≤ c.nodes) (bc : Blk W gc c.cells 24) (hQ : ∀ w', Fr [] W w' → Q (.bool true) w') :
    ∀ (f i : Nat) (w : World) (ft : List Nat) (S : Sn), 30 - i < f → i ≤ 30 → PL W w g gt ft S → AskI c 50 0 S → X4.l0 Q f ip n cap (at0 gc 0) (some (at0 g 0)) (i : Int) w
  | 0, i, w, ft, S, hf, _, _, _ => by omega
  | f + 1, i, w, ft, S, hf, hi, p, h => by
    rw [X4.l0]
    refine bc_dec (fun h1 => bc_dec (fun h2 => drawn fun w2 f2 _ => ⟨⟨by omega, by omega⟩, ?_⟩) (fun h2 => turn_j7 hm bc hQ p h)) (fun h1 => turn_j7 hm bc hQ p h)
    have p2 := p.keep' f2
    obtain ⟨a, ha, hc, _⟩ := hr.at_ (i := i) (by omega)
    have b2 := bc.keep' p2.F
    have mn := may_nodes hm
    refine opt_some ha (ld_int (by rw [Int.toNat_natCast, Nat.mul_one]; exact p2.F.cell' hc) (ld_Cfg (s := c) b2.cat (near_spec hn2 (by omega) fun w27 f27 => ⟨_, _, rfl, want_spec (p2.keep' f27).t ?_⟩)))
    intro ft' w31 t31 f31 e31
    refine ⟨_, _, rfl, ?_⟩
    rw [i64w ((i : Int) + 1) (by omega) (by omega), show (i : Int) + 1 = ((i + 1 : Nat) : Int) by omega]
    exact turn_l0 hr hm hn2 bc hQ f (i + 1) w31 ft' _ (by omega) (by omega) ((p2.keep' f27).next t31 f31 e31) (ask_want h)
theorem IsRow.keep' {ip : Option Addr} {n cap : Nat} {zs : List Int} (hr : IsRow .i64 w ip n cap zs) (f : Fr [] w w') : IsRow .i64 w' ip n cap zs := by
  rcases hr with h | ⟨x, h1, h2, h3, h4, h5, h6⟩
  · exact .inl h
  · exact .inr ⟨x, h1, h2, h3, h4, fun i hi => f.cell' (h5 i hi), h6⟩
theorem stubTurn_row {H : Type} {cs : Array Value} {d : DataW H} (h : Lies Try.prog W 6 34 cs.toList d) (hs : SizedD Try.prog 34 d) {ip : Option Addr} {n cap : Nat} {zs : List Int} (hr : IsRow .i64 W ip n cap zs) (_ : n * 8 ≤ 140737488351232) :
    CallR Try.prog 4 #[.agg cs, .slice ip n cap] W fun v w' => v = .bool true ∧ Fr [] W w' := by
  obtain ⟨r, rfl, hr0⟩ := raw_open h
  apply X4.sound
  unfold X4.f
  have cr := conf_rng r
  refine newB fun g1 w2 b f2 _ => ?_
  have b : Blk w2 g1 r.cells 34 := b
  refine ld_Raw (s := r) b.cat (config_spec (r := r) fun w26 f26 => ⟨_, _, _, _, _, _, _, _, _, _, _, _, _, _, _, _, _, _, _, _, _, _, rfl, newB fun gc w50 bc f50 h50 => stAllB (vs := (configOf r).cells) bc rfl fun w51 b51 f51 => ?_⟩)
  have F26 := f2.tr f26
  have F51 : Fr [] W w51 := (F26.tr f50).loc f51 (by have := F26.size; omega)
  refine ld_Cfg (s := configOf r) b51.cat (newL (conf_ok hr0 0 (by omega) (by omega)) (drift_half r).1 fun g gt ft w75 p => ⟨_, _, rfl, known_spec fun w79 f79 => ⟨_, rfl, bc_bool (fun h => by cases h) (fun _ => bc_ne (fun h => absurd rfl h) (fun _ => bc_bool (fun h => by cases h) (fun _ => ?_)))⟩⟩)
  unfold X4.j8
  refine ⟨31, turn_l0 (W := w51) (hr.keep' F51) (may_config hr0) (by omega) b51 (fun w' f' => ⟨rfl, F51.tr f'⟩) _ 0 w79 ft _ (by omega) (by omega) (p.keep' f79) ⟨rfl, rfl, fun e he => (by cases he), List.Pairwise.nil⟩⟩
end
end Go.Proofs.YtglininpmfgggaaX
