/- The walk of the function that lays the edges it is handed, and keeps those that were not refused. -/
import Derived.Test.YtkhillpjoklfgaaBridge
import Derived.OwnWalk
namespace Go.Proofs.Ytkhillpjoklfgaa
open Go.RowKit Mat
attribute [local go_sem ↓] wp_load23 wp_store23 wp_alloc23 wp_build23 wp_eql23
attribute [local go_sem] okRow okAgg_RV cells_agg headOf cellsOf RV_size blk_alloc_at blk_alloc_past blk_drew blk_drewN blk_setRow_same blk_setRow_other putRow setRow_alloc_at setRow_alloc_past setRow_drew lt_ones1 lt_ones2 lt_ones3 lt_ones4 lt_ones5 lt_ones6 lt_ones7 lt_ones8 isRV_RV eqV_RV

/-- A pair of bytes, made groups. -/
def groupsOf (p : Nat × Nat) : Nat × Nat := (1 + p.1 % 9, 1 + p.2 % 9)
theorem groupsOf_range (p : Nat × Nat) : (1 ≤ (groupsOf p).1 ∧ (groupsOf p).1 < 10) ∧ (1 ≤ (groupsOf p).2 ∧ (groupsOf p).2 < 10) := by
  unfold groupsOf; simp only; omega

/-- A slice of pairs of bytes that was handed in. -/
structure IsPairs (w : World) (a : Option Addr) (l : List (Nat × Nat)) : Prop where
  at_ : ∀ i (hi : i < l.length), ∃ b off, a = some ⟨b, off, none⟩ ∧ w.cell? ⟨b, off + i * 2, none⟩ = some (.int .u8 (l[i].1 : Int)) ∧ w.cell? ⟨b, off + i * 2 + 1, none⟩ = some (.int .u8 (l[i].2 : Int)) ∧ b < w.heap.size
  lt : ∀ p ∈ l, p.1 < 256 ∧ p.2 < 256

/-- Edges, as cells. -/
def edgeCells (es : List (Nat × Nat)) : List Value := es.flatMap fun e => [.int .i64 (e.1 : Int), .int .i64 (e.2 : Int)]
theorem edgeCells_length (es : List (Nat × Nat)) : (edgeCells es).length = es.length * 2 := by
  unfold edgeCells
  induction es with
  | nil => rfl
  | cons e es ih => rw [List.flatMap_cons, List.length_append, ih, List.length_cons]; simp; omega
theorem edgeCells_snoc (es : List (Nat × Nat)) (e : Nat × Nat) : edgeCells (es ++ [e]) = edgeCells es ++ [.int .i64 (e.1 : Int), .int .i64 (e.2 : Int)] := by
  unfold edgeCells; rw [List.flatMap_append]; rfl

theorem info38 : (Try.prog.info? 38).map (fun i => (i.zero, i.size, i.bytes)) = some (some (.agg #[.int .i64 0, .int .i64 0]), 2, 16) := by kernel_rfl

/-- What is laid behind k pairs. -/
def layK (l : List (Nat × Nat)) (k : Nat) : (Nat → Nat) × List (Nat × Nat) := lay ((l.take k).map groupsOf)

theorem layK_zero (l : List (Nat × Nat)) : layK l 0 = (startN, []) := rfl
theorem layK_succ (l : List (Nat × Nat)) (k : Nat) (hk : k < l.length) : layK l (k + 1) = Mat.step (layK l k) (groupsOf l[k]) := by
  unfold layK lay
  rw [List.take_succ_eq_append_getElem hk, List.map_append, List.foldl_append]
  rfl
theorem layK_all (l : List (Nat × Nat)) (k : Nat) (hk : l.length ≤ k) (h4 : k ≤ 40) : layK l k = layK l 40 := by
  unfold layK
  rw [List.take_of_length_le hk, List.take_of_length_le (by omega)]
theorem layK_laid (l : List (Nat × Nat)) (k : Nat) : Laid (layK l k).1 (layK l k).2 := by
  unfold layK
  refine lay_laid _ ?_
  intro e he
  obtain ⟨p, _, rfl⟩ := List.mem_map.1 he
  exact groupsOf_range p
theorem layK_len (l : List (Nat × Nat)) (k : Nat) (hk : k ≤ l.length) : (layK l k).2.length ≤ k := by
  induction k with
  | zero => exact Nat.le_refl _
  | succ k ih =>
    rw [layK_succ l k (by omega)]
    unfold Mat.step
    split
    · have := ih (by omega); omega
    · rw [List.length_append]; have := ih (by omega); simp; omega

theorem below_new (w : World) (o : Obj) : Below w.heap.size w (w.alloc o) := (Below.refl _ _).alloc (Nat.le_refl _) _
theorem own_ne {w : World} {base : Nat} {v : Value} {n N : Nat} {xs : List Value} {cs : Array Value} (h : w.ownsRow base 38 2 v n xs) (hb : blk w N = some (.cells cs 23 (0, 0))) : some N ≠ v.ownBlock := by
  intro e
  rcases h.2 with ⟨rfl, _⟩ | ⟨g, cap, cur, rfl, _, hg, _⟩
  · simp [Value.ownBlock] at e
  · have e' : N = g := by simpa [Value.ownBlock] using e
    subst e'
    unfold blk at hb
    rw [hg] at hb
    simp at hb
theorem own_base {w : World} {base : Nat} {v : Value} {n : Nat} {xs : List Value} (h : w.ownsRow base 38 2 v n xs) : ∀ k, v.ownBlock = some k → base ≤ k := fun k hk => (h.lt k hk).1
theorem own_below {w w' : World} {base : Nat} {v : Value} {n : Nat} {xs : List Value} (h : w.ownsRow base 38 2 v n xs) (hb : Below w.heap.size w w') : w'.ownsRow base 38 2 v n xs := by
  refine ⟨h.1, ?_⟩
  rcases h.2 with h2 | ⟨g, cap, cur, hv, hg, hh, r⟩
  · exact .inl h2
  · exact .inr ⟨g, cap, cur, hv, hg, by rw [hb.block g (Array.getElem?_eq_some_iff.1 hh).1]; exact hh, r⟩
theorem own_setRow {w : World} {base : Nat} {v : Value} {n N : Nat} {xs : List Value} {cs : Array Value} (h : w.ownsRow base 38 2 v n xs) (hn : some N ≠ v.ownBlock) : (w.setRow N cs).ownsRow base 38 2 v n xs := by
  refine ⟨h.1, ?_⟩
  rcases h.2 with h2 | ⟨g, cap, cur, rfl, hg, hh, r⟩
  · exact .inl h2
  · refine .inr ⟨g, cap, cur, rfl, hg, ?_, r⟩
    rw [setRow_other w N g cs (fun e => hn (by simp [Value.ownBlock, e]))]
    exact hh
theorem grown_blk {w w' : World} {row : Option Nat} {N : Nat} {o : Obj} (hg : w.grownBy w' row) (h : blk w N = some o) (hn : some N ≠ row) : blk w' N = some o := (hg.block N (row_lt h) hn).trans h

set_option maxHeartbeats 1000000 in
theorem laid_any (a : Option Addr) (l : List (Nat × Nat)) (cap : Nat) (w : World) (hp : IsPairs w a l) (hm : l.length ≤ maxLen) :
    Calls Try.prog 15 #[.slice a l.length cap] w fun e w' => ∃ v, e = .returned (.tuple #[.agg (RV (castR (layK l 40).1)), v]) ∧ w'.ownsRow w.heap.size 38 2 v (layK l 40).2.length (edgeCells (layK l 40).2) ∧ Below w.heap.size w w' := by
  unfold maxLen at hm
  have HP := Lib.hid hp
  clear hp
  go_enter Try.func15, Try.ntmps15
  go_wp2_with fail
  refine (start_nat _).mono ?_
  rintro e w1 ⟨rfl, b1⟩
  have f1 : blk w1 w.heap.size = some (.cells (RV zeroR) 23 (0, 0)) := (row_below b1 (by simp)).trans (blk_alloc_at _ _ rfl)
  have g1 : Below w.heap.size w w1 := (below_alloc (Below.refl _ w) (Nat.le_refl _) _).trans (b1.mono (by simp))
  have F1 := Lib.hid f1
  have s1 := row_lt f1
  clear b1 f1
  go_wp2_with fail
  go_loopw [5, 6] (fun v i wr => ∃ k : Nat, k ≤ l.length ∧ k ≤ 40 ∧ i = .int .i64 k ∧ blk wr w.heap.size = some (.cells (RV zeroR) 23 (0, 0)) ∧ blk wr w1.heap.size = some (.cells (RV (castR (layK l k).1)) 23 (0, 0)) ∧ wr.ownsRow w.heap.size 38 2 v (layK l k).2.length (edgeCells (layK l k).2) ∧ Below w.heap.size w wr) (fun _ i _ => 40 - (intOf i).toNat)
  case atStart =>
    refine ⟨0, by omega, by omega, rfl, ?_, ?_, ?_, below_alloc (below_alloc g1 (Nat.le_refl _) _) (Nat.le_refl _) _⟩
    · refine (blk_alloc_past (w := w1.alloc _) _ _ ?_).trans ((blk_alloc_past _ _ s1).trans F1.out)
      rw [World.size_alloc]; omega
    · exact (blk_alloc_past _ _ (by simp)).trans (blk_alloc_at _ _ rfl)
    · have hl := World.ownsRow_lit (base := w.heap.size) (size := 2) (e := 38) (w1.alloc (.cells (RV (castR startN)) 23)) #[] 0 (by rw [World.size_alloc]; omega) (by decide) rfl
      rw [World.size_alloc] at hl
      exact hl
  case round =>
    obtain ⟨k, hk, hk4, rfl, h0, h1, hown, hbl⟩ := hrel
    by_cases hlt : k < l.length ∧ k < 40
    · obtain ⟨hlt, hlt4⟩ := hlt
      obtain ⟨b, off, rfl, c1, c2, hbw⟩ := HP.out.at_ k hlt
      obtain ⟨x1, x2⟩ := HP.out.lt _ (List.getElem_mem hlt)
      have c1 := (hbl.cell (p := ⟨b, off + k * 2, none⟩) hbw).trans c1
      have c2 := (hbl.cell (p := ⟨b, off + k * 2 + 1, none⟩) hbw).trans c2
      have hs := layK_succ l k hlt
      have hL := layK_laid l k
      have hlen := layK_len l k (by omega)
      obtain ⟨q, hq0⟩ : ∃ q, layK l (k + 1) = q := ⟨_, rfl⟩
      rw [hq0] at hs
      have HQ := Lib.hid hq0
      clear hq0
      generalize layK l k = s at *
      generalize l[k] = p at *
      obtain ⟨p1, p2⟩ := p
      simp only at c1 c2 x1 x2
      have hgr := groupsOf_range (p1, p2)
      have e1 : (((groupsOf (p1, p2)).1 : Nat) : Int) = 1 + (p1 : Int) % 9 := by simp [groupsOf]
      have e2 : (((groupsOf (p1, p2)).2 : Nat) : Int) = 1 + (p2 : Int) % 9 := by simp [groupsOf]
      have hlt0 := row_lt h0
      have hlt1 := row_lt h1
      by_cases hc : (groupsOf (p1, p2)).1 = (groupsOf (p1, p2)).2 ∨ T s.1 (groupsOf (p1, p2)).2 (groupsOf (p1, p2)).1 = true
      · have hE := edge_no hL.good hgr.1 hgr.2 hc
        rw [e1, e2] at hE
        have hq : q = s := by rw [hs]; unfold Mat.step; rw [if_pos hc]
        subst hq
        have HE := Lib.hid hE
        clear hE hs hc hgr hL e1 e2
        have HO := Lib.hid hown
        have H0 := Lib.hid h0
        have H1 := Lib.hid h1
        clear hown h0
        go_wp2_with fail
        refine (HE.out _).mono ?_
        rintro e w2 ⟨rfl, b2⟩
        go_wp2
        have b3 := below_new w2 (.cells (RV zeroR) 23)
        have b4 : Below wr.heap.size wr (w2.alloc (.cells (RV zeroR) 23)) := b2.trans (b3.mono b2.size)
        go_roundw
        case rel =>
          refine ⟨k + 1, by omega, by omega, by go_num, (row_below b4 hlt0).trans H0.out, ?_, ?_, hbl.trans (b4.mono hbl.size)⟩
          · rw [HQ.out]; exact (row_below b4 hlt1).trans H1.out
          · rw [HQ.out]; exact own_below HO.out b4
        case measure => simp [intOf]; omega
      · have hE := edge_yes hL.good hgr.1 hgr.2 hc
        rw [e1, e2] at hE
        have hq : q = (edN s.1 (groupsOf (p1, p2)).1 (groupsOf (p1, p2)).2, s.2 ++ [groupsOf (p1, p2)]) := by rw [hs]; unfold Mat.step; rw [if_neg hc]
        have HE := Lib.hid hE
        have HC := Lib.hid (edgeCells_snoc s.2 (groupsOf (p1, p2)))
        have E1 := Lib.hid e1
        have E2 := Lib.hid e2
        have HS := Lib.hid hq
        generalize edN s.1 (groupsOf (p1, p2)).1 (groupsOf (p1, p2)).2 = M at *
        clear hE hs hc hgr hL e1 e2 hq
        have HO := Lib.hid hown
        have H0 := Lib.hid h0
        have H1 := Lib.hid h1
        clear hown h0
        obtain ⟨i0, hi, hz0, hz1, hz2⟩ := info_parts info38
        go_wp2_with fail
        refine (HE.out _).mono ?_
        rintro e w2 ⟨rfl, b2⟩
        have hlt2 : w1.heap.size < w2.heap.size := Nat.lt_of_lt_of_le hlt1 b2.size
        have k2 : blk w2 w1.heap.size = some (.cells (RV (castR s.1)) 23 (0, 0)) := (row_below b2 hlt1).trans H1.out
        have K2 := Lib.hid k2
        have hne := own_ne HO.out H1.out
        have HOW := ((own_setRow (cs := RV (castR M)) (own_below HO.out b2) hne).alloc (.cells (RV (castR M)) 23)).alloc (.cells #[.int .i64 (1 + (p1 : Int) % 9), .int .i64 (1 + (p2 : Int) % 9)] 38)
        have HNE := Lib.hid hne
        clear hne
        have HW := Lib.hid HOW
        clear HOW
        go_wp2_with (at_builtin; refine wpList_append_own _ rfl _ _ 31 rfl w.heap.size 38 i0 _ 2 16 Try.underlying31 hi hz0 hz1 hz2 rfl (by decide) _ _ _ rfl HW.out ⟨w2.heap.size + 1, 0, none⟩ 1 1 [.int .i64 (1 + (p1 : Int) % 9), .int .i64 (1 + (p2 : Int) % 9)] rfl rfl ?c1 ?c2 ?c3 ?c4 ?c5 ?_)
        case c1 =>
          intro j u hu
          match j, hu with
          | 0, hu => rw [← hu]; simp [Addr.add, World.cell?_alloc_at]
          | 1, hu => rw [← hu]; simp [Addr.add, World.cell?_alloc_at]
        case c2 => intro u hu; simp at hu; rcases hu with rfl | rfl <;> rfl
        case c3 => unfold maxLen; omega
        case c4 => omega
        case c5 => simp; have := b2.size; omega
        intro v' w3 hown3 hgrow hnil
        clear hnil
        have q1 : blk w3 w1.heap.size = some (.cells (RV (castR M)) 23 (0, 0)) := by
          refine grown_blk hgrow ?_ HNE.out
          refine (blk_alloc_past _ _ ?_).trans ((blk_alloc_past _ _ ?_).trans ?_)
          · simp; omega
          · simp; omega
          · rw [blk_setRow_same, K2.out]; rfl
        have hne0 : some w.heap.size ≠ u5.ownBlock := own_ne HO.out H0.out
        have q0 : blk w3 w.heap.size = some (.cells (RV zeroR) 23 (0, 0)) := by
          refine grown_blk hgrow ?_ hne0
          refine (blk_alloc_past _ _ ?_).trans ((blk_alloc_past _ _ ?_).trans ?_)
          · simp; omega
          · simp; omega
          · rw [blk_setRow_other _ _ _ _ (by omega)]; exact (row_below b2 hlt0).trans H0.out
        have qb : Below w.heap.size w w3 := by
          refine Below.grown ?_ hgrow (by simp; omega) (own_base HO.out)
          exact below_alloc (below_alloc (below_setRow (hbl.trans (b2.mono hbl.size)) (by omega) _) (Nat.le_refl _) _) (Nat.le_refl _) _
        have Q1 := Lib.hid q1
        have Q0 := Lib.hid q0
        have QO := Lib.hid hown3
        clear q1 q0 hown3 hgrow hne0 b2
        go_wp2
        go_roundw
        case rel =>
          refine ⟨k + 1, by omega, by omega, by go_num, Q0.out, ?_, ?_, qb⟩
          · rw [HQ.out, HS.out]; exact Q1.out
          · rw [HQ.out, HS.out]
            show w3.ownsRow w.heap.size 38 2 v' (s.2 ++ [groupsOf (p1, p2)]).length _
            rw [HC.out, E1.out, E2.out, List.length_append]
            exact QO.out
        case measure => simp [intOf]; omega
    · have hk' : l.length ≤ k ∨ k = 40 := by omega
      have he : layK l k = layK l 40 := by
        rcases hk' with h | rfl
        · exact layK_all l k h hk4
        · rfl
      rw [he] at h1 hown
      have hs0 := row_lt h0
      have hs1 := row_lt h1
      have hne := own_ne hown h0
      have HO := Lib.hid (own_setRow (cs := RV (castR (layK l 40).1)) hown hne)
      have H0 := Lib.hid h0
      clear hown hne he
      by_cases hkl : k < l.length
      · obtain rfl : k = 40 := by omega
        go_wp2
        refine bodyPost_ret (results_cell23_2 (p := 2) (u := 3) rfl _ _ w.heap.size _ rfl (by rw [blk_setRow_same, H0.out]; rfl)) rfl ⟨_, rfl, HO.out, below_setRow hbl (by omega) _⟩
      · go_wp2
        refine bodyPost_ret (results_cell23_2 (p := 2) (u := 3) rfl _ _ w.heap.size _ rfl (by rw [blk_setRow_same, H0.out]; rfl)) rfl ⟨_, rfl, HO.out, below_setRow hbl (by omega) _⟩
end Go.Proofs.Ytkhillpjoklfgaa
