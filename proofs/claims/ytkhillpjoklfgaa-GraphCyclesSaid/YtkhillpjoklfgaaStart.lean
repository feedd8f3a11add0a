/- The walks of the two functions that make the ladder. -/
import Derived.Test.YtkhillpjoklfgaaTight
namespace Go.Proofs.Ytkhillpjoklfgaa
open Go.RowKit
attribute [local go_sem ↓] wp_load23 wp_store23 wp_alloc23 wp_build23
attribute [local go_sem] okRow okAgg_RV cells_agg headOf cellsOf RV_size blk_alloc_at blk_alloc_past blk_drew blk_drewN blk_setRow_same blk_setRow_other putRow setRow_alloc_at setRow_alloc_past setRow_drew lt_ones1 lt_ones2 lt_ones3 lt_ones4 lt_ones5 lt_ones6 lt_ones7 lt_ones8

/-- The ladder, up to a group. -/
def startK (k : Nat) : Nat → Int := fun x => if 1 ≤ x ∧ x ≤ k then 2 ^ x - 2 else 0
def startR : Nat → Int := startK 5

theorem start (w : World) : Calls Try.prog 11 #[] w fun e w' => e = .returned (.agg (RV startR)) ∧ Below w.heap.size w w' := by
  go_enter Try.func11, Try.ntmps11
  go_wp2
  go_loopw [3] (fun i wr => ∃ k : Nat, k ≤ 5 ∧ i = .int .i64 k ∧ blk wr (w.heap.size + 1) = some (.cells (RV (startK k)) 23 (0, 0)) ∧ blk wr w.heap.size = some (.cells (RV fun _ => 0) 23 (0, 0)) ∧ Below w.heap.size w wr) (fun i _ => 5 - (intOf i).toNat)
  case atStart => exact ⟨0, by omega, rfl, row_as (R := fun _ => 0) (blk_alloc_at _ _ (by simp)) (fun k _ => by unfold startK; rw [if_neg (by omega)]), by rw [blk_alloc_past _ _ (by simp)]; exact blk_alloc_at _ _ rfl, ((Below.refl _ _).alloc (Nat.le_refl _) _).alloc (by simp) _⟩
  case round =>
    obtain ⟨k, hk, rfl, h1, h0, hb⟩ := hrel
    by_cases hlt : k < 5
    · have hc := row_cell h1
      have hf := row_free h1
      have hg := RV_get (startK k) (k + 1) (by omega)
      have hr := row_put h1 (k + 1) (by omega) (2 ^ (k + 1) - 2)
      have hr0 := row_far (w := wr) (B := w.heap.size) ⟨w.heap.size + 1, k + 1, none⟩ (.int .i64 (2 ^ (k + 1) - 2)) (by simp)
      have e1 : wrap64 (wrap64 (2 ^ (k + 1)) - 2) = 2 ^ (k + 1) - 2 := by
        rcases (by omega : k = 0 ∨ k = 1 ∨ k = 2 ∨ k = 3 ∨ k = 4) with rfl | rfl | rfl | rfl | rfl <;> decide +kernel
      have HR := Lib.hid hr
      have HR0 := Lib.hid hr0
      have H0 := Lib.hid h0
      clear hr hr0 h0
      go_wp2
      go_roundw
      case rel => exact ⟨k + 1, by omega, by go_num, row_as HR.out (fun x hx => by unfold upd startK; rcases (by omega : k = 0 ∨ k = 1 ∨ k = 2 ∨ k = 3 ∨ k = 4) with rfl | rfl | rfl | rfl | rfl <;> revert x <;> decide +kernel), by rw [HR0.out]; exact H0.out, hb.setCell (by simp) _⟩
      case measure => simp [intOf]; omega
    · obtain rfl : k = 5 := by omega
      have hs0 := row_lt h0
      have hs1 := row_lt h1
      go_wp2
      refine bodyPost_ret (results_cell23 rfl _ _ w.heap.size startR rfl ?_) rfl ⟨rfl, below_setRow hb (Nat.le_refl _) _⟩
      rw [blk_setRow_same, h0]
      rfl

/-- The ladder, in the midst of a row. -/
def startM (k m : Nat) : Nat → Int := fun x => if x = k then 2 ^ m - 2 else startK (k - 1) x
theorem startM_end (m x : Nat) (hm1 : 1 ≤ m) : startM m m x = startK (m + 1 - 1) x := by
  unfold startM startK
  by_cases e : x = m
  · subst e; rw [if_pos rfl, if_pos (by omega)]
  · rw [if_neg e]
    by_cases e2 : 1 ≤ x ∧ x ≤ m - 1
    · rw [if_pos e2, if_pos (by omega)]
    · rw [if_neg e2, if_neg (by omega)]

theorem start_ref (w : World) : Calls Try.prog 12 #[] w fun e w' => e = .returned (.agg (RV startR)) ∧ Below w.heap.size w w' := by
  go_enter Try.func12, Try.ntmps12
  go_wp2
  go_loopw [2] (fun i wr => ∃ k : Nat, 1 ≤ k ∧ k ≤ 6 ∧ i = .int .i64 k ∧ blk wr (w.heap.size + 1) = some (.cells (RV (startK (k - 1))) 23 (0, 0)) ∧ blk wr w.heap.size = some (.cells (RV fun _ => 0) 23 (0, 0)) ∧ Below w.heap.size w wr) (fun i _ => 6 - (intOf i).toNat)
  case atStart => exact ⟨1, by omega, by omega, rfl, row_as (R := fun _ => 0) (blk_alloc_at _ _ (by simp)) (fun k _ => by unfold startK; rw [if_neg (by omega)]), by rw [blk_alloc_past _ _ (by simp)]; exact blk_alloc_at _ _ rfl, ((Below.refl _ _).alloc (Nat.le_refl _) _).alloc (by simp) _⟩
  case round =>
    obtain ⟨k, hk1, hk, rfl, h1, h0, hb⟩ := hrel
    by_cases hlt : k ≤ 5
    · go_wp2
      go_loopw [3] (fun i wi => ∃ m : Nat, 1 ≤ m ∧ m ≤ k ∧ i = .int .i64 m ∧ blk wi (w.heap.size + 1) = some (.cells (RV (startM k m)) 23 (0, 0)) ∧ blk wi w.heap.size = some (.cells (RV fun _ => 0) 23 (0, 0)) ∧ Below w.heap.size w wi) (fun i _ => k - (intOf i).toNat)
      case atStart => exact ⟨1, by omega, by omega, rfl, row_as h1 (fun x hx => by unfold startM startK; split <;> simp <;> omega), h0, hb⟩
      case round =>
        clear h1 h0 hb
        obtain ⟨m, hm1, hm, rfl, h1, h0, hb⟩ := hrel
        by_cases hlt2 : m < k
        · have hc := row_cell h1
          have hf := row_free h1
          have hg := RV_get (startM k m) k (by omega)
          have gk : startM k m k = 2 ^ m - 2 := by unfold startM; rw [if_pos rfl]
          rw [gk] at hg
          have HR := Lib.hid (row_put h1 k (by omega) (2 ^ (m + 1) - 2))
          have HR0 := Lib.hid (row_stay h0 ⟨w.heap.size + 1, k, none⟩ (.int .i64 (2 ^ (m + 1) - 2)) (by simp))
          have e1 : bits .or .i64 (2 ^ m - 2) (wrap64 (2 ^ m)) = 2 ^ (m + 1) - 2 := by
            rcases (by omega : m = 1 ∨ m = 2 ∨ m = 3 ∨ m = 4) with rfl | rfl | rfl | rfl <;> decide +kernel
          have b0 : (0 : Int) ≤ (k : Int) := by omega
          have b1 : (k : Int) < 10 := by omega
          clear gk h0
          go_wp2
          go_region
          all_goals
            go_wp2
            go_roundw
            case rel => exact ⟨m + 1, by omega, by omega, by go_num, row_as HR.out (fun x hx => by unfold upd startM; split <;> rfl), HR0.out, (hb.setCell (by simp) _).drew⟩
            case measure => simp [intOf]; omega
        · obtain rfl : m = k := by omega
          go_wp2
          go_roundw
          case rel => exact ⟨m + 1, by omega, by omega, by go_num, row_as h1 (fun x _ => startM_end m x hm1), h0, hb⟩
          case measure => simp [intOf]; omega
    · obtain rfl : k = 6 := by omega
      have hs0 := row_lt h0
      have hs1 := row_lt h1
      go_wp2
      refine bodyPost_ret (results_cell23 rfl _ _ w.heap.size startR rfl ?_) rfl ⟨rfl, below_setRow hb (Nat.le_refl _) _⟩
      rw [blk_setRow_same, h0]
      rfl
end Go.Proofs.Ytkhillpjoklfgaa
