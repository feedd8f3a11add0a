/- The walks of the two functions that lay an edge. -/
import Derived.Test.YtkhillpjoklfgaaTight
import Derived.Test.YtkhillpjoklfgaaSame
namespace Go.Proofs.Ytkhillpjoklfgaa
open Go.RowKit
attribute [local go_sem ↓] wp_load23 wp_store23 wp_alloc23 wp_build23 wp_eql23
attribute [local go_sem] okRow okAgg_RV cells_agg headOf cellsOf RV_size blk_alloc_at blk_alloc_past blk_drew blk_drewN blk_setRow_same blk_setRow_other putRow setRow_alloc_at setRow_alloc_past setRow_drew lt_ones1 lt_ones2 lt_ones3 lt_ones4 lt_ones5 lt_ones6 lt_ones7 lt_ones8 isRV_RV eqV_RV

def moreB (R : Nat → Int) (h : Nat) : Int := bits .or .i64 (R h) (2 ^ h)
/-- The rows behind an edge, of groups below k. -/
def edK (R : Nat → Int) (g h : Nat) (k : Nat) : Nat → Int := fun x => if x < k ∧ (x = g ∨ tgt R x g = true) then bits .or .i64 (R x) (moreB R h) else R x
def zeroR : Nat → Int := fun _ => 0

theorem edge_group (R : Nat → Int) (g h : Int) (w : World) (hn : ¬ ((0 < g ∧ g < 10) ∧ (0 < h ∧ h < 10))) : Calls Try.prog 9 #[.agg (RV R), .int .i64 g, .int .i64 h] w fun e w' => e = .returned (.tuple #[.agg (RV zeroR), .int .i64 21]) ∧ Below w.heap.size w w' := by
  by_cases hg : 0 < g ∧ g < 10
  · go_enter Try.func9, Try.ntmps9
    go_wp2_with fail
    refine (is_yes _ _ (by omega) (by omega)).mono ?_
    rintro e w' ⟨rfl, rfl⟩
    go_wp2_with fail
    refine (is_no _ _ (by omega)).mono ?_
    rintro e w' ⟨rfl, rfl⟩
    go_wp2
    refine bodyPost_ret (results_cell23_2 rfl _ _ (w.heap.size + 1) zeroR rfl (blk_alloc_at _ _ (by simp))) rfl ⟨rfl, ((Below.refl _ _).alloc (Nat.le_refl _) _).alloc (by simp) _⟩
  · go_enter Try.func9, Try.ntmps9
    go_wp2_with fail
    refine (is_no _ _ hg).mono ?_
    rintro e w' ⟨rfl, rfl⟩
    go_wp2
    refine bodyPost_ret (results_cell23_2 rfl _ _ (w.heap.size + 1) zeroR rfl (blk_alloc_at _ _ (by simp))) rfl ⟨rfl, ((Below.refl _ _).alloc (Nat.le_refl _) _).alloc (by simp) _⟩

theorem edge_cycle (R : Nat → Int) (g h : Nat) (w : World) (hg0 : 0 < g) (hg : g < 10) (hh0 : 0 < h) (hh : h < 10) (hc : g = h ∨ tgt R h g = true) : Calls Try.prog 9 #[.agg (RV R), .int .i64 g, .int .i64 h] w fun e w' => e = .returned (.tuple #[.agg (RV zeroR), .int .i64 25]) ∧ Below w.heap.size w w' := by
  by_cases he : g = h
  · subst he
    go_enter Try.func9, Try.ntmps9
    go_wp2_with fail
    refine (is_yes _ _ (by omega) (by omega)).mono ?_
    rintro e w' ⟨rfl, rfl⟩
    go_wp2_with fail
    refine (is_yes _ _ (by omega) (by omega)).mono ?_
    rintro e w' ⟨rfl, rfl⟩
    go_wp2
    refine bodyPost_ret (results_cell23_2 rfl _ _ (w.heap.size + 1) zeroR rfl (blk_alloc_at _ _ (by simp))) rfl ⟨rfl, ((Below.refl _ _).alloc (Nat.le_refl _) _).alloc (by simp) _⟩
  · have ht : tgt R h g = true := hc.resolve_left he
    have hb : ((g : Int) == (h : Int)) = false := by simp; omega
    clear hc
    go_enter Try.func9, Try.ntmps9
    go_wp2_with fail
    refine (is_yes _ _ (by omega) (by omega)).mono ?_
    rintro e w' ⟨rfl, rfl⟩
    go_wp2_with fail
    refine (is_yes _ _ (by omega) (by omega)).mono ?_
    rintro e w' ⟨rfl, rfl⟩
    go_wp2_with fail
    refine (tight R _ _ _).mono ?_
    rintro e w' ⟨rfl, rfl⟩
    go_wp2
    refine bodyPost_ret (results_cell23_2 rfl _ _ (w.heap.size + 1) zeroR rfl (by rw [blk_alloc_past _ _ (by simp)]; exact blk_alloc_at _ _ (by simp))) rfl ⟨rfl, (((Below.refl _ _).alloc (Nat.le_refl _) _).alloc (by simp) _).alloc (by simp; omega) _⟩

theorem wrap_pow (h : Nat) (hh : h < 10) : wrap64 (2 ^ h) = 2 ^ h :=
  lt10 (p := fun h => wrap64 (2 ^ h) = 2 ^ h) (by decide +kernel) (by decide +kernel) (by decide +kernel) (by decide +kernel) (by decide +kernel) (by decide +kernel) (by decide +kernel) (by decide +kernel) (by decide +kernel) (by decide +kernel) h hh

theorem edK_at (R : Nat → Int) (g h k : Nat) (hc : k = g ∨ tgt R k g = true) : edK R g h (k + 1) k = bits .or .i64 (R k) (moreB R h) := by
  unfold edK; rw [if_pos ⟨by omega, hc⟩]
theorem edK_yes (R : Nat → Int) (g h k x : Nat) : upd (edK R g h k) k (edK R g h (k + 1) k) x = edK R g h (k + 1) x := by
  unfold upd
  by_cases e : x = k
  · rw [if_pos e, e]
  · rw [if_neg e]
    unfold edK
    by_cases c : x < k ∧ (x = g ∨ tgt R x g = true)
    · rw [if_pos c, if_pos ⟨by omega, c.2⟩]
    · rw [if_neg c, if_neg (fun q => c ⟨by omega, q.2⟩)]
theorem edK_no (R : Nat → Int) (g h k x : Nat) (hn : k ≠ g) (ht : tgt R k g = false) : edK R g h k x = edK R g h (k + 1) x := by
  unfold edK
  by_cases c : x < k ∧ (x = g ∨ tgt R x g = true)
  · rw [if_pos c, if_pos ⟨by omega, c.2⟩]
  · rw [if_neg c, if_neg]
    rintro ⟨q1, q2⟩
    by_cases e : x = k
    · subst e
      rcases q2 with q2 | q2
      · exact hn q2
      · rw [ht] at q2; exact absurd q2 (by simp)
    · exact c ⟨by omega, q2⟩

set_option maxHeartbeats 1000000 in
theorem edge_ok (R : Nat → Int) (g h : Nat) (w : World) (hg0 : 0 < g) (hg : g < 10) (hh0 : 0 < h) (hh : h < 10) (hne : g ≠ h) (ht : tgt R h g = false) : Calls Try.prog 9 #[.agg (RV R), .int .i64 g, .int .i64 h] w fun e w' => e = .returned (.tuple #[.agg (RV (edK R g h 10)), .int .i64 0]) ∧ Below w.heap.size w w' := by
  have hb : ((g : Int) == (h : Int)) = false := by simp; omega
  have hc := RV_get R h hh
  have b0 : (0 : Int) ≤ (h : Int) := by omega
  have b1 : (h : Int) < 10 := by omega
  have ew := wrap_pow h hh
  have em : bits .or .i64 (R h) (2 ^ h) = moreB R h := rfl
  go_enter Try.func9, Try.ntmps9
  go_wp2_with fail
  refine (is_yes _ _ (by omega) (by omega)).mono ?_
  rintro e w' ⟨rfl, rfl⟩
  go_wp2_with fail
  refine (is_yes _ _ (by omega) (by omega)).mono ?_
  rintro e w' ⟨rfl, rfl⟩
  go_wp2_with fail
  refine (tight R _ _ _).mono ?_
  rintro e w' ⟨rfl, rfl⟩
  go_wp2_with fail
  go_region
  go_wp2_with fail
  go_loopw [39] (fun i wr => ∃ k : Nat, k ≤ 10 ∧ i = .int .i64 k ∧ blk wr w.heap.size = some (.cells (RV (edK R g h k)) 23 (0, 0)) ∧ blk wr (w.heap.size + 1) = some (.cells (RV zeroR) 23 (0, 0)) ∧ blk wr (w.heap.size + 1 + 1 + 1) = some (.cells (RV R) 23 (0, 0)) ∧ Below w.heap.size w wr) (fun i _ => 10 - (intOf i).toNat)
  case atStart =>
    refine ⟨0, by omega, rfl, row_as (R := R) ?_ (fun x _ => by unfold edK; rw [if_neg (by omega)]), ?_, ?_, (below_alloc (below_alloc (below_alloc (below_alloc (Below.refl _ _) (Nat.le_refl _) _) (Nat.le_refl _) _) (Nat.le_refl _) _) (Nat.le_refl _) _).drew⟩
    · go_simp
    · go_simp; rfl
    · go_simp
  case round =>
    clear hc em ew
    obtain ⟨k, hk, rfl, h1, h0, hw, hbl⟩ := hrel
    have hs := row_lt hw
    by_cases hlt : k < 10
    · have hcl := row_cell h1
      have hf := row_free h1
      have hg := RV_get (edK R g h k) k (by omega)
      have gk : edK R g h k k = R k := by unfold edK; rw [if_neg (by omega)]
      rw [gk] at hg
      have hs0 := row_lt h1
      have H1 := Lib.hid h1
      clear gk
      by_cases hkg : k = g
      · have em : bits .or .i64 (R k) (moreB R h) = edK R g h (k + 1) k := (edK_at R g h k (.inl hkg)).symm
        have HR := Lib.hid (row_put h1 k (by omega) (edK R g h (k + 1) k))
        have HR0 := Lib.hid (row_stay h0 ⟨w.heap.size, k, none⟩ (.int .i64 (edK R g h (k + 1) k)) (by simp))
        have HRw := Lib.hid (row_stay hw ⟨w.heap.size, k, none⟩ (.int .i64 (edK R g h (k + 1) k)) (by simp; omega))
        clear h1 h0
        subst hkg
        go_wp2
        go_roundw
        case rel => exact ⟨k + 1, by omega, by go_num, row_as HR.out (fun x _ => edK_yes R k h k x), HR0.out, HRw.out, hbl.setCell (by simp) _⟩
        case measure => simp [intOf]; omega
      · have hbk : ((k : Int) == (g : Int)) = false := by simp; omega
        cases htk : tgt R k g
        · have h1' := row_as h1 (S := edK R g h (k + 1)) (fun x _ => edK_no R g h k x hkg htk)
          have HR := Lib.hid h1'
          have HR0 := Lib.hid h0
          have HRw := Lib.hid hw
          clear h1 h0 h1'
          go_wp2_with fail
          refine (tight R _ _ _).mono ?_
          rintro e w' ⟨rfl, rfl⟩
          go_wp2
          go_roundw
          case rel => exact ⟨k + 1, by omega, by go_num, by rw [blk_alloc_past _ _ (by omega)]; exact HR.out, by rw [blk_alloc_past _ _ (by omega)]; exact HR0.out, by rw [blk_alloc_past _ _ (by omega)]; exact HRw.out, below_alloc hbl (Nat.le_refl _) _⟩
          case measure => simp [intOf]; omega
        · have em : bits .or .i64 (R k) (moreB R h) = edK R g h (k + 1) k := (edK_at R g h k (.inr htk)).symm
          have HR := Lib.hid (row_put h1 k (by omega) (edK R g h (k + 1) k))
          have HR0 := Lib.hid (row_stay h0 ⟨w.heap.size, k, none⟩ (.int .i64 (edK R g h (k + 1) k)) (by simp))
          have HRw := Lib.hid (row_stay hw ⟨w.heap.size, k, none⟩ (.int .i64 (edK R g h (k + 1) k)) (by simp; omega))
          clear h1 h0
          go_wp2_with fail
          refine (tight R _ _ _).mono ?_
          rintro e w' ⟨rfl, rfl⟩
          go_wp2
          go_roundw
          case rel => exact ⟨k + 1, by omega, by go_num, by rw [blk_alloc_past _ _ (by simp [World.setCell]; omega)]; exact row_as HR.out (fun x _ => edK_yes R g h k x), by rw [blk_alloc_past _ _ (by simp [World.setCell]; omega)]; exact HR0.out, by rw [blk_alloc_past _ _ (by simp [World.setCell]; omega)]; exact HRw.out, below_alloc (hbl.setCell (by simp) _) (Nat.le_refl _) _⟩
          case measure => simp [intOf]; omega
    · obtain rfl : k = 10 := by omega
      have hs1 := row_lt h0
      have hs0 := row_lt h1
      cases hq : eqR (edK R g h 10) R
      · go_wp2
        refine bodyPost_ret (results_cell23_2 rfl _ _ (w.heap.size + 1) (edK R g h 10) rfl ?_) rfl ⟨rfl, below_setRow hbl (by omega) _⟩
        rw [blk_setRow_same, h0]
        rfl
      · go_wp2
        refine bodyPost_ret (results_cell23_2 rfl _ _ (w.heap.size + 1) (edK R g h 10) rfl ?_) rfl ⟨rfl, below_setRow hbl (by omega) _⟩
        rw [blk_setRow_same, h0]
        exact congrArg (fun c => some (Obj.cells c 23 (0, 0))) (RV_congr _ _ (fun x hx => ((eqR_iff _ _).1 hq x hx).symm))
end Go.Proofs.Ytkhillpjoklfgaa
