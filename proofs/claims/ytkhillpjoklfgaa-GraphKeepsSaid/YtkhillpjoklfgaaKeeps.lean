/- The walk of the law that edges that say the same in another order come to the same. -/
import Derived.Test.YtkhillpjoklfgaaLeads
namespace Go.Proofs.Ytkhillpjoklfgaa
open Go.RowKit Mat
attribute [local go_sem ↓] wp_load23 wp_store23 wp_alloc23 wp_build23 wp_eql23
attribute [local go_sem] okRow okAgg_RV cells_agg headOf cellsOf RV_size blk_alloc_at blk_alloc_past blk_drew blk_drewN blk_setRow_same blk_setRow_other putRow setRow_alloc_at setRow_alloc_past setRow_drew lt_ones1 lt_ones2 lt_ones3 lt_ones4 lt_ones5 lt_ones6 lt_ones7 lt_ones8 isRV_RV eqV_RV

/-! ### The plain law: edges of rows, laid once more, in whatever order -/

/-- Rows between the ladder and some rows. -/
structure Under (N M : Nat → Nat) : Prop where
  good : Mat.Good M
  lad : ∀ x y, 1 ≤ x ∧ x ≤ 5 ∧ 1 ≤ y ∧ y < x → T M x y = true
  le : ∀ x y, T M x y = true → T N x y = true

theorem Under.start {N : Nat → Nat} {es : List (Nat × Nat)} (L : Laid N es) : Under N startN :=
  ⟨Mat.Good.start, fun x y h => (T_start x y).2 h, fun x y t => L.ladder x y ((T_start x y).1 t)⟩
/-- An edge of the rows is not refused by rows below them. -/
theorem Under.free {N M : Nat → Nat} (U : Under N M) (G : Mat.Good N) {g h : Nat} (t : T N g h = true) : ¬ (g = h ∨ T M h g = true) := by
  rintro (rfl | u)
  · exact G.ir _ t
  · exact G.ir _ (G.tr _ _ _ t (U.le _ _ u))
theorem Under.edge {N M : Nat → Nat} (U : Under N M) (G : Mat.Good N) {g h : Nat} (t : T N g h = true) : Under N (edN M g h) := by
  have hf := U.free G t
  have hr := G.lo _ _ t
  refine ⟨U.good.edge hr.1 hr.2 (fun e => hf (.inl e)) (fun e => hf (.inr e)), fun x y h => mono_edN _ _ _ _ _ (U.lad x y h), fun x y u => ?_⟩
  rcases (T_edN M g h x y).1 u with a | ⟨a, b⟩
  · exact U.le _ _ a
  · have tx : T N x h = true := by
      rcases a with rfl | a
      · exact t
      · exact G.tr _ _ _ (U.le _ _ a) t
    rcases b with rfl | b
    · exact tx
    · exact G.tr _ _ _ tx (U.le _ _ b)
/-- With all edges laid they are the rows. -/
theorem Under.all {N M : Nat → Nat} {es : List (Nat × Nat)} (U : Under N M) (L : Laid N es) (he : ∀ e ∈ es, T M e.1 e.2 = true) (x : Nat) : M x = N x := by
  refine Mat.Good.ext (fun x y => ⟨U.le x y, fun t => ?_⟩) x
  have key := L.least (fun z => z = x ∨ T M x z = true) ?_ ?_ x y t (.inl rfl)
  · rcases key with e | k
    · subst e; exact absurd t (L.good.ir _)
    · exact k
  · intro p q hpq hp
    have tpq := U.lad p q hpq
    rcases hp with rfl | hp
    · exact .inr tpq
    · exact .inr (U.good.tr _ _ _ hp tpq)
  · intro e hm hp
    have te := he e hm
    rcases hp with hp | hp
    · rw [hp] at te; exact .inr te
    · exact .inr (U.good.tr _ _ _ hp te)

/-- The rows behind k edges, from a place on. -/
def turnK (es : List (Nat × Nat)) (at_ : Nat) : Nat → (Nat → Nat)
  | 0 => startN
  | k + 1 => edN (turnK es at_ k) (es.getD ((k + at_) % es.length) (0, 0)).1 (es.getD ((k + at_) % es.length) (0, 0)).2
theorem turnK_under {N : Nat → Nat} {es : List (Nat × Nat)} (L : Laid N es) (at_ k : Nat) (h0 : 0 < es.length) : Under N (turnK es at_ k) := by
  induction k with
  | zero => exact Under.start L
  | succ k ih =>
    have hi : (k + at_) % es.length < es.length := Nat.mod_lt _ h0
    have e : es.getD ((k + at_) % es.length) (0, 0) = es[(k + at_) % es.length] := by simp [List.getD, hi]
    unfold turnK
    rw [e]
    exact ih.edge L.good (L.holds _ (List.getElem_mem hi))
theorem turnK_mono (es : List (Nat × Nat)) (at_ k j x y : Nat) (t : T (turnK es at_ k) x y = true) : T (turnK es at_ (k + j)) x y = true := by
  induction j with
  | zero => exact t
  | succ j ih => exact mono_edN _ _ _ _ _ ih
theorem turnK_has (es : List (Nat × Nat)) (at_ : Nat) (k : Nat) (i : Nat) (hi : i < k) : T (turnK es at_ k) (es.getD ((i + at_) % es.length) (0, 0)).1 (es.getD ((i + at_) % es.length) (0, 0)).2 = true := by
  obtain ⟨j, rfl⟩ : ∃ j, k = (i + 1) + j := ⟨k - (i + 1), by omega⟩
  refine turnK_mono es at_ (i + 1) j _ _ ?_
  exact (T_edN _ _ _ _ _).2 (.inr ⟨.inl rfl, .inl rfl⟩)
/-- Each place is come to. -/
theorem come_to (n at_ i : Nat) (hi : i < n) : ∃ k, k < n ∧ (k + at_) % n = i := by
  have h0 : 0 < n := by omega
  have ha := Nat.mod_lt at_ h0
  by_cases h : at_ % n ≤ i
  · refine ⟨i - at_ % n, by omega, ?_⟩
    rw [Nat.add_mod, Nat.mod_eq_of_lt (show i - at_ % n < n by omega)]
    rw [show i - at_ % n + at_ % n = i by omega]
    exact Nat.mod_eq_of_lt hi
  · refine ⟨i + n - at_ % n, by omega, ?_⟩
    rw [Nat.add_mod, Nat.mod_eq_of_lt (show i + n - at_ % n < n by omega)]
    rw [show i + n - at_ % n + at_ % n = i + n by omega, Nat.add_mod_right]
    exact Nat.mod_eq_of_lt hi
theorem turnK_all {N : Nat → Nat} {es : List (Nat × Nat)} (L : Laid N es) (at_ : Nat) (x : Nat) : turnK es at_ es.length x = N x := by
  by_cases h0 : 0 < es.length
  · refine (turnK_under L at_ es.length h0).all L (fun e he => ?_) x
    obtain ⟨i, hi, rfl⟩ := List.getElem_of_mem he
    obtain ⟨k, hk, hki⟩ := come_to es.length at_ i hi
    have := turnK_has es at_ es.length k hk
    rw [hki] at this
    simpa [List.getD, hi] using this
  · have e : es = [] := List.eq_nil_of_length_eq_zero (by omega)
    subst e
    refine (Under.start L).all L (fun e he => ?_) x
    cases he

theorem and_keep {N M : Nat → Nat} (hN : ∀ x, N x < 1024) (hM : ∀ x, M x < 1024) (h : ∀ x y, T N x y = true → T M x y = true) (x : Nat) : bits .and .i64 (castR N x) (castR M x) = castR N x := by
  show bits .and .i64 ((N x : Nat) : Int) ((M x : Nat) : Int) = ((N x : Nat) : Int)
  rw [and_nat (hN x) (hM x)]
  have : N x &&& M x = N x := by
    apply Nat.eq_of_testBit_eq
    intro y
    rw [Nat.testBit_and]
    cases hn : (N x).testBit y
    · rfl
    · rw [Bool.true_and]; exact h x y hn
  rw [this]

structure KeptK (u : World) (B C : Nat) (N M : Nat → Nat) (a : Option Addr) (es : List (Nat × Nat)) (w : World) : Prop where
  r : blk w B = some (.cells (RV (castR N)) 23 (0, 0))
  s : blk w C = some (.cells (RV (castR M)) 23 (0, 0))
  e : IsEdges w a es
  d : Below u.heap.size u w
  lt : u.heap.size ≤ C ∧ B ≠ C
theorem KeptK.below {u w w' : World} {B C : Nat} {N M : Nat → Nat} {a : Option Addr} {es : List (Nat × Nat)} (h : KeptK u B C N M a es w) (hb : Below w.heap.size w w') : KeptK u B C N M a es w' :=
  ⟨(row_below hb (row_lt h.r)).trans h.r, (row_below hb (row_lt h.s)).trans h.s, h.e.below hb, h.d.trans (hb.mono h.d.size), h.lt⟩
/-- The rows are written anew; the edges lie elsewhere. -/
theorem KeptK.setRow {u w : World} {B C : Nat} {N M M' : Nat → Nat} {a : Option Addr} {es : List (Nat × Nat)} (h : KeptK u B C N M a es w) (he : ∀ b, a = some ⟨b, 0, none⟩ → b ≠ C) : KeptK u B C N M' a es (w.setRow C (RV (castR M'))) :=
  ⟨(blk_setRow_other _ _ _ _ h.lt.2).trans h.r, by rw [blk_setRow_same, h.s]; rfl,
   ⟨fun i hi => by
     obtain ⟨b, e, c1, c2, hl⟩ := h.e.at_ i hi
     have hne := he b e
     exact ⟨b, e, (cell_setRow_other w C _ ⟨b, i * 2, none⟩ hne).trans c1, (cell_setRow_other w C _ ⟨b, i * 2 + 1, none⟩ hne).trans c2, by simpa using hl⟩⟩,
   below_setRow h.d h.lt.1 _, h.lt⟩
theorem KeptK.drew {u w : World} {B C : Nat} {N M : Nat → Nat} {a : Option Addr} {es : List (Nat × Nat)} (h : KeptK u B C N M a es w) : KeptK u B C N M a es w.drew :=
  ⟨h.r, h.s, ⟨fun i hi => h.e.at_ i hi⟩, h.d.drew, h.lt⟩
theorem own_edges2 {w : World} {base : Nat} {v : Value} {es : List (Nat × Nat)} (h : w.ownsRow base 38 2 v es.length (edgeCells es)) : ∃ a cap, v = .slice a es.length cap ∧ IsEdges w a es ∧ ∀ b, a = some ⟨b, 0, none⟩ → b < w.heap.size := by
  rcases h.2 with ⟨rfl, hn⟩ | ⟨g, cap, cur, rfl, _, hg, _⟩
  · rw [hn]
    exact ⟨none, 0, rfl, ⟨fun i hi => absurd hi (by omega)⟩, fun b e => by simp at e⟩
  · refine ⟨some ⟨g, 0, none⟩, cap, rfl, ⟨fun i hi => ⟨g, rfl, ?_, ?_, row_lt (w := w) hg⟩⟩, fun b e => ?_⟩
    · rw [h.cellAt _ (by omega)]; exact (edgeCells_at es i hi).1
    · rw [h.cellAt _ (by omega)]; exact (edgeCells_at es i hi).2
    · simp at e; subst e; exact row_lt (w := w) hg

set_option maxHeartbeats 2000000 in
theorem keepslaw_walk (a : Option Addr) (l : List (Nat × Nat)) (cap : Nat) (x : Nat) (w : World) (hp : IsPairs w a l) (hm : l.length ≤ maxLen) (hx : x < 256) :
    Calls Try.prog 6 #[.slice a l.length cap, .int .u8 (x : Int)] w fun e w' => e = .returned (.bool true) ∧ Below w.heap.size w w' := by
  have hL := layK_laid l 40
  have h40 := layK_len40 l
  have HLA := Lib.hid (fun (w1 : World) (hb : Below w.heap.size w w1) => laid_any a l cap w1 ⟨fun i hi => let ⟨b, off, e, c1, c2, hlt⟩ := hp.at_ i hi; ⟨b, off, e, (hb.cell (p := ⟨b, off + i * 2, none⟩) hlt).trans c1, (hb.cell (p := ⟨b, off + i * 2 + 1, none⟩) hlt).trans c2, Nat.lt_of_lt_of_le hlt hb.size⟩, hp.lt⟩ hm)
  clear hp
  generalize hN : (layK l 40).1 = N at *
  generalize hE : (layK l 40).2 = es at *
  clear hN hE
  have HG := Lib.hid hL.good
  have HL := Lib.hid hL
  clear hL
  go_enter Try.func6, Try.ntmps6
  go_wp2_with fail
  refine (shown_true _).mono ?_
  rintro e w1 ⟨rfl, b1⟩
  go_wp2_with fail
  refine (HLA.out _ b1).mono ?_
  rintro e w2 ⟨v, rfl, hown, b2⟩
  obtain ⟨ea, ecap, rfl, hed, hea⟩ := own_edges2 hown
  have b12 : Below w.heap.size w w2 := b1.trans (b2.mono b1.size)
  clear hown b1 b2
  have K0 : KeptL w w2.heap.size N ea es (w2.alloc (.cells (RV (castR N)) 23)) := ⟨blk_alloc_at _ _ rfl, hed.below (below_new _ _), b12.trans ((below_new _ _).mono b12.size)⟩
  have HK := Lib.hid K0
  clear K0 hed b12
  go_wp2_with fail
  refine (start_nat _).mono ?_
  rintro e w3 ⟨rfl, b3⟩
  have k3 := HK.out.below b3
  have hlt3 : w2.heap.size < w3.heap.size := row_lt k3.r
  have K4 : KeptK w w2.heap.size w3.heap.size N (turnK es x 0) ea es (w3.alloc (.cells (RV (castR startN)) 23)) :=
    ⟨(blk_alloc_past _ _ (row_lt k3.r)).trans k3.r, blk_alloc_at _ _ rfl, k3.e.below (below_new _ _), k3.d.trans ((below_new _ _).mono k3.d.size), k3.d.size, by omega⟩
  have hea2 : ∀ b, ea = some ⟨b, 0, none⟩ → b ≠ w3.heap.size := fun b e => by have := hea b e; omega
  have HEA := Lib.hid hea2
  have HK4 := Lib.hid K4
  clear b3 k3 K4 hea hea2 HK
  go_wp2_with fail
  generalize w3.heap.size = C at *
  generalize w2.heap.size = B at *
  go_loopw [10] (fun i wr => ∃ k : Nat, k ≤ es.length ∧ i = .int .i64 k ∧ KeptK w B C N (turnK es x k) ea es wr) (fun i _ => es.length - (intOf i).toNat)
  case atStart => exact ⟨0, by omega, rfl, HK4.out⟩
  case round =>
    clear HK4 HLA
    obtain ⟨k, hk, rfl, hkk⟩ := hrel
    by_cases hlt : k < es.length
    · have hkb : decide ((k : Int) < (es.length : Int)) = true := decide_eq_true (by omega)
      have hj : (k + x) % es.length < es.length := Nat.mod_lt _ (by omega)
      have hmod : ((k : Int) + (x : Int)) % (es.length : Int) = (((k + x) % es.length : Nat) : Int) := by simp
      obtain ⟨b, rfl, c1, c2, hbw⟩ := hkk.e.at_ _ hj
      have hU := turnK_under HL.out x k (by omega)
      have ht := HL.out.holds _ (List.getElem_mem hj)
      have hr := HG.out.lo _ _ ht
      have hed := edge_yes hU.good hr.1 hr.2 (hU.free HG.out ht)
      have hn : turnK es x (k + 1) = edN (turnK es x k) (es[(k + x) % es.length]).1 (es[(k + x) % es.length]).2 := by
        show edN _ _ _ = _
        simp [List.getD, hj]
      have hU2 := turnK_under HL.out x (k + 1) (by omega)
      have hsub := fun p q => mono_edN (turnK es x k) (es[(k + x) % es.length]).1 (es[(k + x) % es.length]).2 p q
      rw [← hn] at hed hsub
      have hand := and_keep hU.good.lt hU2.good.lt hsub
      obtain ⟨M2, hM2⟩ : ∃ M2, turnK es x (k + 1) = M2 := ⟨_, rfl⟩
      rw [hM2] at hed hand hU2
      have HM2 := Lib.hid hM2
      clear hM2 hn hsub
      generalize turnK es x k = M1 at *
      generalize es[(k + x) % es.length] = p at *
      generalize (k + x) % es.length = j at *
      obtain ⟨p1, p2⟩ := p
      simp only at c1 c2 hed
      have HED := Lib.hid hed
      have HAND := Lib.hid hand
      have HKK := Lib.hid hkk
      have fs := hkk.s
      have hC := row_lt fs
      clear hed hand hU hU2 ht hr
      go_wp2_with fail
      refine (HED.out _).mono ?_
      rintro e w4 ⟨rfl, b4⟩
      have k4 := (HKK.out.below (below_new _ _)).below b4
      have K5 := k4.below (below_new w4 (.cells (RV (castR M2)) 23))
      have f5 : blk (w4.alloc (.cells (RV (castR M2)) 23)) w4.heap.size = some (.cells (RV (castR M2)) 23 (0, 0)) := blk_alloc_at _ _ rfl
      have HK5 := Lib.hid K5
      have hne : w4.heap.size ≠ C := by have := row_lt k4.s; omega
      have HNE := Lib.hid hne
      clear b4 k4 K5 hkk fs hne
      go_wp2_with fail
      generalize w4.heap.size = D at *
      go_loopw [14] (fun i wi => ∃ m : Nat, m ≤ 10 ∧ i = .int .i64 m ∧ KeptK w B C N M1 (some ⟨b, 0, none⟩) es wi ∧ blk wi D = some (.cells (RV (castR M2)) 23 (0, 0))) (fun i _ => 10 - (intOf i).toNat)
      case atStart => exact ⟨0, by omega, rfl, HK5.out, f5⟩
      case round =>
        clear f5 HK5 HKK
        obtain ⟨m, hm, rfl, hkk, f5⟩ := hrel
        have HKK := Lib.hid hkk
        by_cases hlm : m < 10
        · have hc1 := row_cell hkk.s
          have hc2 := row_cell f5
          have g1 := RV_get (castR M1) m hlm
          have g2 := RV_get (castR M2) m hlm
          have ha := HAND.out m
          have m0 : (0 : Int) ≤ (m : Int) := by omega
          have m1 : (m : Int) < 10 := by omega
          have F5 := Lib.hid f5
          clear hkk
          go_wp2_with fail
          go_region
          all_goals
            go_wp2
            go_roundw
            case rel => exact ⟨m + 1, by omega, by go_num, HKK.out.drew, F5.out⟩
            case measure => simp [intOf]; omega
        · have fs := hkk.s
          clear hkk
          go_wp2
          go_roundw
          case rel => exact ⟨k + 1, by omega, by go_num, by rw [HM2.out]; exact HKK.out.setRow HEA.out⟩
          case measure => simp [intOf]; omega
    · have he : turnK es x k = turnK es x es.length := by rw [show k = es.length by omega]
      have hq : eqR (castR (turnK es x k)) (castR N) = true := by
        rw [eqR_iff]
        intro z _
        show ((turnK es x k z : Nat) : Int) = (N z : Nat)
        rw [he, turnK_all HL.out]
      have f1 := hkk.r
      have f2 := hkk.s
      clear he
      go_wp2
      go_ret
      exact ⟨rfl, hkk.d⟩
end Go.Proofs.Ytkhillpjoklfgaa
