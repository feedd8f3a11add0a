/- The walks of the small functions of package graph and of its reference: which group there is, and whether one is tighter than another. -/
import Derived.Test.YtkhillpjoklfgaaBase
namespace Go.Proofs.Ytkhillpjoklfgaa
open Go.RowKit
attribute [local go_sem ↓] wp_load23 wp_store23 wp_alloc23 wp_build23
attribute [local go_sem] okRow okAgg_RV cells_agg headOf cellsOf RV_size blk_alloc_at blk_alloc_past blk_drew blk_drewN blk_setRow_same blk_setRow_other putRow setRow_alloc_at setRow_alloc_past setRow_drew lt_ones1 lt_ones2 lt_ones3 lt_ones4 lt_ones5 lt_ones6 lt_ones7 lt_ones8

def bitB (x : Int) (h : Nat) : Bool := bits .and .i64 (x / 2 ^ h) 1 == 1
def inG (g : Int) : Bool := decide (0 ≤ g ∧ g < 10)
def is19 (g : Int) : Bool := decide (0 < g ∧ g < 10)
def tgt (R : Nat → Int) (g h : Int) : Bool := inG g && (inG h && bitB (R g.toNat) h.toNat)

theorem inG_yes {g : Int} (h0 : 0 ≤ g) (h1 : g < 10) : inG g = true := decide_eq_true ⟨h0, h1⟩
theorem inG_no {g : Int} (h : ¬ (0 ≤ g ∧ g < 10)) : inG g = false := decide_eq_false h
theorem is19_yes {g : Int} (h0 : 0 < g) (h1 : g < 10) : is19 g = true := decide_eq_true ⟨h0, h1⟩
theorem is19_no {g : Int} (h : ¬ (0 < g ∧ g < 10)) : is19 g = false := decide_eq_false h

theorem is_any (g : Int) (w : World) : Calls Try.prog 17 #[.int .i64 g] w fun e w' => e = .returned (.bool (is19 g)) ∧ w = w' := by
  unfold is19
  by_cases h : 0 < g
  · by_cases h2 : g < 10
    all_goals
      go_enter Try.func17, Try.ntmps17
      go_wp2
      go_ret
      exact ⟨by simp [h, h2], rfl⟩
  · go_enter Try.func17, Try.ntmps17
    go_wp2
    go_ret
    exact ⟨by simp; omega, rfl⟩

/-- Tighter, of the reference. -/
theorem tight_ref (R : Nat → Int) (g h : Int) (w : World) : Calls Try.prog 14 #[.agg (RV R), .int .i64 g, .int .i64 h] w fun e w' => e = .returned (.bool (tgt R g h)) ∧ w.alloc (.cells (RV R) 23) = w' := by
  by_cases hg : 0 ≤ g ∧ g < 10
  · by_cases hh : 0 ≤ h ∧ h < 10
    · obtain ⟨g0, g1⟩ := hg
      obtain ⟨h0, h1⟩ := hh
      obtain ⟨k, rfl⟩ := Int.eq_ofNat_of_zero_le g0
      obtain ⟨m, rfl⟩ := Int.eq_ofNat_of_zero_le h0
      have hc := RV_get R k (by omega)
      have ht : tgt R k m = bitB (R k) m := by rw [tgt, inG_yes g0 g1, inG_yes h0 h1]; rfl
      rw [ht]
      unfold bitB
      clear ht
      go_enter Try.func14, Try.ntmps14
      go_wp2
      go_ret
      exact ⟨rfl, rfl⟩
    · have ht : tgt R g h = false := by rw [tgt, inG_no hh]; simp
      rw [ht]
      clear ht
      by_cases h0 : 0 ≤ h
      all_goals
        go_enter Try.func14, Try.ntmps14
        go_wp2
        go_ret
        exact ⟨rfl, rfl⟩
  · have ht : tgt R g h = false := by rw [tgt, inG_no hg]; simp
    rw [ht]
    clear ht
    by_cases g0 : 0 ≤ g
    all_goals
      go_enter Try.func14, Try.ntmps14
      go_wp2
      go_ret
      exact ⟨rfl, rfl⟩

theorem is_yes (g : Int) (w : World) (h0 : 0 < g) (h1 : g < 10) : Calls Try.prog 17 #[.int .i64 g] w fun e w' => e = .returned (.bool true) ∧ w = w' := by
  have := is_any g w; rwa [is19_yes h0 h1] at this
theorem is_no (g : Int) (w : World) (h : ¬ (0 < g ∧ g < 10)) : Calls Try.prog 17 #[.int .i64 g] w fun e w' => e = .returned (.bool false) ∧ w = w' := by
  have := is_any g w; rwa [is19_no h] at this

/-- Tighter, of the program. -/
theorem tight (R : Nat → Int) (g h : Int) (w : World) : Calls Try.prog 13 #[.agg (RV R), .int .i64 g, .int .i64 h] w fun e w' => e = .returned (.bool (tgt R g h)) ∧ w.alloc (.cells (RV R) 23) = w' := by
  by_cases hg : 0 ≤ g ∧ g < 10
  · by_cases hh : 0 ≤ h ∧ h < 10
    · obtain ⟨g0, g1⟩ := hg
      obtain ⟨h0, h1⟩ := hh
      obtain ⟨k, rfl⟩ := Int.eq_ofNat_of_zero_le g0
      obtain ⟨m, rfl⟩ := Int.eq_ofNat_of_zero_le h0
      have hc := RV_get R k (by omega)
      have ht : tgt R k m = bitB (R k) m := by rw [tgt, inG_yes g0 g1, inG_yes h0 h1]; rfl
      rw [ht]
      unfold bitB
      clear ht
      by_cases gz : k = 0
      · subst gz
        by_cases hz : m = 0
        · subst hz
          go_enter Try.func13, Try.ntmps13
          go_wp2
          go_ret
          exact ⟨by simp, rfl⟩
        · have hb : ((m : Int) == 0) = false := by simp; omega
          go_enter Try.func13, Try.ntmps13
          go_wp2_with (go_at_call 17; refine (is_yes _ _ (by omega) (by omega)).mono ?_; rintro e w' ⟨rfl, rfl⟩)
          go_ret
          exact ⟨rfl, rfl⟩
      · have gb : ((k : Int) == 0) = false := by simp; omega
        by_cases hz : m = 0
        · subst hz
          go_enter Try.func13, Try.ntmps13
          go_wp2_with (go_at_call 17; refine (is_yes _ _ (by omega) (by omega)).mono ?_; rintro e w' ⟨rfl, rfl⟩)
          go_ret
          exact ⟨by simp, rfl⟩
        · have hb : ((m : Int) == 0) = false := by simp; omega
          go_enter Try.func13, Try.ntmps13
          go_wp2_with (go_at_call 17; refine (is_yes _ _ (by omega) (by omega)).mono ?_; rintro e w' ⟨rfl, rfl⟩)
          go_ret
          exact ⟨rfl, rfl⟩
    · have ht : tgt R g h = false := by rw [tgt, inG_no hh]; simp
      rw [ht]
      clear ht
      obtain ⟨g0, g1⟩ := hg
      have hb : (h == 0) = false := by simp; omega
      by_cases gz : g = 0
      · subst gz
        go_enter Try.func13, Try.ntmps13
        go_wp2_with (go_at_call 17; refine (is_no _ _ (by omega)).mono ?_; rintro e w' ⟨rfl, rfl⟩)
        go_ret
        exact ⟨rfl, rfl⟩
      · have gb : (g == 0) = false := by simp; omega
        go_enter Try.func13, Try.ntmps13
        go_wp2_with fail
        refine (is_yes _ _ (by omega) (by omega)).mono ?_
        rintro e w' ⟨rfl, rfl⟩
        go_wp2_with fail
        refine (is_no _ _ (by omega)).mono ?_
        rintro e w' ⟨rfl, rfl⟩
        go_wp2
        go_ret
        exact ⟨rfl, rfl⟩
  · have ht : tgt R g h = false := by rw [tgt, inG_no hg]; simp
    rw [ht]
    clear ht
    have gb : (g == 0) = false := by simp; omega
    go_enter Try.func13, Try.ntmps13
    go_wp2_with (go_at_call 17; refine (is_no _ _ (by omega)).mono ?_; rintro e w' ⟨rfl, rfl⟩)
    go_ret
    exact ⟨rfl, rfl⟩
end Go.Proofs.Ytkhillpjoklfgaa
