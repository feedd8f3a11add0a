/- The walk of the function that tells whether the ladder and some edges lead from one group to another. -/
import Derived.Test.YtkhillpjoklfgaaLaid
import Derived.Test.YtkhillpjoklfgaaBools
import Derived.Deep.QuietTactic
import Derived.BigQuiet
import Derived.StillTailTactics
namespace Go.Proofs.Ytkhillpjoklfgaa
open Go.RowKit Mat
attribute [local go_sem ↓] wp_store42 wp_alloc42 wp_build42
attribute [local go_sem] okRow okAgg_BV cells_agg headOf cellsOf BV_size blk_alloc_at blk_alloc_past blk_drew blk_drewN blk_setRow_same blk_setRow_other putRow setRow_alloc_at setRow_alloc_past setRow_drew lt_ones1 lt_ones2 lt_ones3 lt_ones4 lt_ones5 lt_ones6 lt_ones7 lt_ones8

/-- How many of the ladder's pairs have been gone through at (x, y). -/
def cnt (x y : Nat) : Nat := if x ≤ 5 then (x - 1) * (x - 2) / 2 + (y - 1) else 10
theorem cnt_next_fin : ∀ x y : Fin 6, 1 ≤ y.val → y.val < x.val → ladderPs.take (cnt x.val (y.val + 1)) = ladderPs.take (cnt x.val y.val) ++ [(x.val, y.val)] := by decide +kernel
theorem cnt_next {x y : Nat} (h : x ≤ 5) (h1 : 1 ≤ y) (h2 : y < x) : ladderPs.take (cnt x (y + 1)) = ladderPs.take (cnt x y) ++ [(x, y)] :=
  cnt_next_fin ⟨x, by omega⟩ ⟨y, by omega⟩ h1 h2
theorem cnt_start : cnt 1 1 = 0 := by decide
theorem cnt_end_fin : ∀ x : Fin 10, 1 ≤ x.val → x.val ≤ 5 → cnt x.val x.val = cnt (x.val + 1) 1 := by decide +kernel
theorem cnt_row {x y : Nat} (h1 : 1 ≤ x) (h : (x ≤ 5 ∧ y = x) ∨ ¬ x ≤ 5) : cnt x y = cnt (x + 1) 1 := by
  rcases h with ⟨h, rfl⟩ | h
  · exact cnt_end_fin ⟨y, by omega⟩ h1 h
  · unfold cnt; rw [if_neg h, if_neg (by omega)]
theorem cnt_all : ladderPs.take (cnt 10 1) = ladderPs := by decide +kernel

def upTo (S : Nat → Bool) (x y : Nat) : Nat → Bool := Mat.round (ladderPs.take (cnt x y)) S
theorem upTo_next (S : Nat → Bool) {x y : Nat} (h : x ≤ 5) (h1 : 1 ≤ y) (h2 : y < x) : upTo S x (y + 1) = relax (upTo S x y) (x, y) := by
  unfold upTo Mat.round
  rw [cnt_next h h1 h2, List.foldl_append]
  rfl
def upToE (S : Nat → Bool) (es : List (Nat × Nat)) (k : Nat) : Nat → Bool := Mat.round (es.take k) (Mat.round ladderPs S)
theorem upToE_next (S : Nat → Bool) (es : List (Nat × Nat)) (k : Nat) (hk : k < es.length) : upToE S es (k + 1) = relax (upToE S es k) es[k] := by
  unfold upToE Mat.round
  rw [List.take_succ_eq_append_getElem hk, List.foldl_append]
  rfl
theorem upToE_all (S : Nat → Bool) (es : List (Nat × Nat)) : upToE S es es.length = Mat.round (ladderPs ++ es) S := by
  unfold upToE Mat.round
  rw [List.take_length, List.foldl_append]
theorem relax_upd (S : Nat → Bool) (p : Nat × Nat) : updB S p.2 (S p.2 || S p.1) = relax S p := rfl

theorem brow_relax {w : World} {B : Nat} {S : Nat → Bool} (h : blk w B = some (.cells (BV S) 42 (0, 0))) (x y : Nat) (hy : y < 10) (v : Bool) (hv : v = (S y || S x)) : blk (w.setCell ⟨B, y, none⟩ (.bool v)) B = some (.cells (BV (relax S (x, y))) 42 (0, 0)) := by
  rw [brow_put h y hy v, hv]
  exact congrArg (fun q => some (Obj.cells (BV q) 42 (0, 0))) (relax_upd S (x, y))

/-- Edges in a slice, as the walk reads them. -/
structure IsEdges (w : World) (a : Option Addr) (es : List (Nat × Nat)) : Prop where
  at_ : ∀ i (hi : i < es.length), ∃ b, a = some ⟨b, 0, none⟩ ∧ w.cell? ⟨b, i * 2, none⟩ = some (.int .i64 (es[i].1 : Int)) ∧ w.cell? ⟨b, i * 2 + 1, none⟩ = some (.int .i64 (es[i].2 : Int)) ∧ b < w.heap.size

set_option maxHeartbeats 1000000 in
theorem leads_any (a : Option Addr) (es : List (Nat × Nat)) (cap g h : Nat) (w : World) (hp : IsEdges w a es) (hm : es.length ≤ 40) (he : ∀ e ∈ es, e.1 < 10 ∧ e.2 < 10) (hg : g < 10) (hh : h < 10) :
    Calls Try.prog 16 #[.slice a es.length cap, .int .i64 g, .int .i64 h] w fun e w' => e = .returned (.bool (leadsS es g h)) ∧ Below w.heap.size w w' := by
  have HP := Lib.hid hp
  clear hp
  have G0 : (0 : Int) ≤ g := by omega
  have G1 : (g : Int) < 10 := by omega
  have hz := BV_get (fun _ => false) g hg
  go_enter Try.func16, Try.ntmps16
  go_wp2_with fail
  go_loopw [8] (fun n wr => ∃ k : Nat, k ≤ 10 ∧ n = .int .i64 k ∧ blk wr w.heap.size = some (.cells (BV (rounds (ladderPs ++ es) k (seed g))) 42 (0, 0)) ∧ Below w.heap.size w wr) (fun n _ => 10 - (intOf n).toNat)
  case atStart =>
    refine ⟨0, by omega, rfl, ?_, below_alloc (Below.refl _ _) (Nat.le_refl _) _⟩
    refine brow_as (S := updB (fun _ => false) g true) ?_ (fun x _ => ?_)
    · rw [blk_alloc_at _ _ rfl, BV_set _ _ _ hg]
    · unfold updB rounds seed; split <;> simp_all
  case round =>
    clear hz G0 G1
    obtain ⟨k, hk, rfl, h1, hbl⟩ := hrel
    by_cases hlt : k < 10
    · generalize hS : rounds (ladderPs ++ es) k (seed g) = S at *
      have HS := Lib.hid hS
      clear hS
      have hkb : decide ((k : Int) < 10) = true := decide_eq_true (by omega)
      go_wp2_with fail
      go_loopw [9] (fun x wr => ∃ m : Nat, 1 ≤ m ∧ m ≤ 10 ∧ x = .int .i64 m ∧ blk wr w.heap.size = some (.cells (BV (upTo S m 1)) 42 (0, 0)) ∧ Below w.heap.size w wr) (fun x _ => 10 - (intOf x).toNat)
      case atStart => exact ⟨1, by omega, by omega, rfl, h1, hbl⟩
      case round =>
        clear h1 hbl
        obtain ⟨m, hm1, hm10, rfl, h1, hbl⟩ := hrel
        by_cases hlm : m < 10
        · go_wp2_with fail
          go_loopw [10] (fun y wr => ∃ j : Nat, 1 ≤ j ∧ (j ≤ m ∨ j = 1) ∧ y = .int .i64 j ∧ blk wr w.heap.size = some (.cells (BV (upTo S m j)) 42 (0, 0)) ∧ Below w.heap.size w wr) (fun y _ => 10 - (intOf y).toNat)
          case atStart => exact ⟨1, by omega, by omega, rfl, h1, hbl⟩
          case round =>
            clear h1 hbl
            obtain ⟨j, hj1, hjm, rfl, h1, hbl⟩ := hrel
            by_cases hjl : j < m ∧ m ≤ 5
            · obtain ⟨hjl, hm5⟩ := hjl
              have hn := upTo_next S hm5 hj1 hjl
              have hc := row_cell h1
              have hf := row_free h1
              have gj := BV_get (upTo S m j) j (by omega)
              have gm := BV_get (upTo S m j) m (by omega)
              have HN := Lib.hid hn
              have H1 := Lib.hid h1
              clear hn
              cases b1 : upTo S m j j
              all_goals
                rw [b1] at gj
                have B1 := Lib.hid b1
                clear b1
                go_wp2
                go_roundw
                case rel => exact ⟨j + 1, by omega, by omega, by go_num, by rw [HN.out]; exact brow_relax H1.out m j (by omega) _ (by rw [B1.out]; rfl), hbl.setCell (by simp) _⟩
                case measure => simp [intOf]; omega
            · have hc : cnt m j = cnt (m + 1) 1 := by
                by_cases h5 : m ≤ 5
                · exact cnt_row hm1 (.inl ⟨h5, by omega⟩)
                · exact cnt_row hm1 (.inr h5)
              have he2 : upTo S m j = upTo S (m + 1) 1 := by unfold upTo; rw [hc]
              rw [he2] at h1
              clear hc he2
              by_cases hjl2 : j < m
              · have h5 : ¬ m ≤ 5 := by omega
                go_wp2
                go_roundw
                case rel => exact ⟨m + 1, by omega, by omega, by go_num, h1, hbl⟩
                case measure => simp [intOf]; omega
              · go_wp2
                go_roundw
                case rel => exact ⟨m + 1, by omega, by omega, by go_num, h1, hbl⟩
                case measure => simp [intOf]; omega
        · have he2 : upTo S m 1 = upToE S es 0 := by
            have e10 : m = 10 := by omega
            rw [e10]
            unfold upTo upToE; rw [cnt_all]; rfl
          rw [he2] at h1
          clear he2
          have hmb : decide ((m : Int) < 10) = false := decide_eq_false (by omega)
          go_wp2_with fail
          go_loopw [11] (fun i wr => ∃ j : Nat, j ≤ es.length ∧ i = .int .i64 j ∧ blk wr w.heap.size = some (.cells (BV (upToE S es j)) 42 (0, 0)) ∧ Below w.heap.size w wr) (fun i _ => es.length - (intOf i).toNat)
          case atStart => exact ⟨0, by omega, rfl, h1, hbl⟩
          case round =>
            clear h1 hbl
            obtain ⟨j, hj, rfl, h1, hbl⟩ := hrel
            by_cases hjl : j < es.length
            · obtain ⟨b, rfl, c1, c2, hbw⟩ := HP.out.at_ j hjl
              obtain ⟨x1, x2⟩ := he _ (List.getElem_mem hjl)
              have c1 := (hbl.cell (p := ⟨b, j * 2, none⟩) hbw).trans c1
              have c2 := (hbl.cell (p := ⟨b, j * 2 + 1, none⟩) hbw).trans c2
              have HN := Lib.hid (upToE_next S es j hjl)
              have hc := row_cell h1
              have hf := row_free h1
              have H1 := Lib.hid h1
              generalize es[j] = p at *
              obtain ⟨p1, p2⟩ := p
              simp only at c1 c2 x1 x2
              have gj := BV_get (upToE S es j) p2 x2
              have gm := BV_get (upToE S es j) p1 x1
              have y0 : (0 : Int) ≤ (p1 : Int) := by omega
              have y1 : (p1 : Int) < 10 := by omega
              have z0 : (0 : Int) ≤ (p2 : Int) := by omega
              have z1 : (p2 : Int) < 10 := by omega
              have j0 : (0 : Int) ≤ (j : Int) := by omega
              have j1 : (j : Int) < (es.length : Int) := by omega
              cases b1 : upToE S es j p2
              all_goals
                rw [b1] at gj
                have B1 := Lib.hid b1
                clear b1 h1
                go_wp2
                go_region
                go_wp2
                go_roundw
                case rel => exact ⟨j + 1, by omega, by go_num, by rw [HN.out, blk_drew]; exact brow_relax H1.out p1 p2 x2 _ (by rw [B1.out]; rfl), Below.drew (Below.setCell hbl (Nat.le_refl _) _)⟩
                case measure => simp [intOf]; omega
            · obtain rfl : j = es.length := by omega
              rw [upToE_all] at h1
              have hr : rounds (ladderPs ++ es) (k + 1) (seed g) = Mat.round (ladderPs ++ es) S := by rw [← HS.out]; rfl
              rw [← hr] at h1
              clear hr
              go_wp2
              go_roundw
              case rel => exact ⟨k + 1, by omega, by go_num, h1, hbl⟩
              case measure => simp [intOf]; omega
    · obtain rfl : k = 10 := by omega
      have hc := row_cell h1
      have gh := BV_get (rounds (ladderPs ++ es) 10 (seed g)) h hh
      have h0 : (0 : Int) ≤ (h : Int) := by omega
      have h9 : (h : Int) < 10 := by omega
      by_cases hgh : g = h
      · have hl : leadsS es g h = false := by unfold leadsS; rw [decide_eq_false (by omega)]; rfl
        have HL := Lib.hid hl
        clear hl
        subst hgh
        go_wp2
        go_ret
        exact ⟨by rw [HL.out]; rfl, hbl⟩
      · have hl : leadsS es g h = rounds (ladderPs ++ es) 10 (seed g) h := by unfold leadsS; rw [decide_eq_true (by omega)]; rfl
        have hb : ((g : Int) != (h : Int)) = true := by simp; omega
        have HL := Lib.hid hl
        clear hl
        go_wp2
        go_ret
        exact ⟨by rw [HL.out]; rfl, hbl⟩
end Go.Proofs.Ytkhillpjoklfgaa
