/- The walk of the law on the ladder: whatever two numbers are asked, it answers true. -/
import Derived.Test.YtkhillpjoklfgaaShown
namespace Go.Proofs.Ytkhillpjoklfgaa
open Go.RowKit
attribute [local go_sem ↓] wp_load23 wp_store23 wp_alloc23 wp_build23 wp_eql23
attribute [local go_sem] okRow okAgg_RV cells_agg headOf cellsOf RV_size blk_alloc_at blk_alloc_past blk_drew blk_drewN blk_setRow_same blk_setRow_other putRow setRow_alloc_at setRow_alloc_past setRow_drew lt_ones1 lt_ones2 lt_ones3 lt_ones4 lt_ones5 lt_ones6 lt_ones7 lt_ones8 isRV_RV eqV_RV

theorem bits_and_def (a b : Int) : bits .and .i64 a b = IntKind.i64.wrap ((BitVec.ofInt 64 a &&& BitVec.ofInt 64 b).toNat : Int) := rfl
theorem and3 (a : Int) : ∃ m : Nat, m < 4 ∧ bits .and .i64 a 3 = (m : Int) := by
  refine ⟨(BitVec.ofInt 64 a &&& BitVec.ofInt 64 3).toNat, ?_, ?_⟩
  · rw [BitVec.toNat_and]
    have : (BitVec.ofInt 64 3).toNat = 2 ^ 2 - 1 := by decide
    rw [this, Nat.and_two_pow_sub_one_eq_mod]
    omega
  · have h : (BitVec.ofInt 64 a &&& BitVec.ofInt 64 3).toNat < 4 := by
      rw [BitVec.toNat_and]
      have : (BitVec.ofInt 64 3).toNat = 2 ^ 2 - 1 := by decide
      rw [this, Nat.and_two_pow_sub_one_eq_mod]
      omega
    rw [bits_and_def, IntKind.wrap_i64]
    omega

theorem start_fin : ∀ g h : Fin 10, tgt startR (g.val : Int) (h.val : Int) = decide (1 ≤ g.val ∧ g.val ≤ 5 ∧ 1 ≤ h.val ∧ h.val < g.val) := by decide +kernel
theorem start_tgt (g h : Int) : tgt startR g h = decide (1 ≤ g ∧ g ≤ 5 ∧ 1 ≤ h ∧ h < g) := by
  by_cases hg : 0 ≤ g ∧ g < 10
  · by_cases hh : 0 ≤ h ∧ h < 10
    · have := start_fin ⟨g.toNat, by omega⟩ ⟨h.toNat, by omega⟩
      simp only at this
      rw [show ((g.toNat : Nat) : Int) = g by omega, show ((h.toNat : Nat) : Int) = h by omega] at this
      rw [this, decide_eq_decide]
      omega
    · rw [tgt, inG_no hh, Bool.false_and, Bool.and_false]
      exact (decide_eq_false (by omega)).symm
  · rw [tgt, inG_no hg, Bool.false_and]
    exact (decide_eq_false (by omega)).symm

set_option maxHeartbeats 4000000 in
theorem ladder_core (a0 a1 : Int) (m n : Nat) (b c : Bool) (w : World)
    (EM : Hid (bits .and .i64 a0 3 = (m : Int))) (EN : Hid (bits .and .i64 a1 3 = (n : Int))) (hm : m < 4) (hn : n < 4)
    (h1 : (b = true ∧ 1 ≤ a0 ∧ a0 ≤ 5 ∧ 1 ≤ a1 ∧ a1 < a0) ∨ (b = false ∧ ¬ 1 ≤ a0) ∨ (b = false ∧ 1 ≤ a0 ∧ ¬ a0 ≤ 5) ∨ (b = false ∧ 1 ≤ a0 ∧ a0 ≤ 5 ∧ ¬ 1 ≤ a1) ∨ (b = false ∧ 1 ≤ a0 ∧ a0 ≤ 5 ∧ 1 ≤ a1 ∧ ¬ a1 < a0))
    (h2 : (c = true ∧ 1 ≤ n ∧ n ≤ m) ∨ (c = false ∧ ¬ 1 ≤ n) ∨ (c = false ∧ 1 ≤ n ∧ ¬ n ≤ m)) :
    Calls Try.prog 7 #[.int .i64 a0, .int .i64 a1] w fun e w' => e = .returned (.bool true) ∧ Below w.heap.size w w' := by
  have t1 : tgt startR a0 a1 = b := by
    rw [start_tgt]
    rcases h1 with ⟨rfl, h⟩ | ⟨rfl, h⟩ | ⟨rfl, h⟩ | ⟨rfl, h⟩ | ⟨rfl, h⟩ <;> first | exact decide_eq_true (by omega) | exact decide_eq_false (by omega)
  have t2 : tgt startR (1 + (m : Int)) (n : Int) = c := by
    rw [start_tgt]
    rcases h2 with ⟨rfl, h⟩ | ⟨rfl, h⟩ | ⟨rfl, h⟩ <;> first | exact decide_eq_true (by omega) | exact decide_eq_false (by omega)
  have T1 := Lib.hid t1
  have T2 := Lib.hid t2
  clear t1 t2
  rcases h1 with ⟨rfl, p1, p2, p3, p4⟩ | ⟨rfl, p1⟩ | ⟨rfl, p1, p2⟩ | ⟨rfl, p1, p2, p3⟩ | ⟨rfl, p1, p2, p3, p4⟩
  all_goals
    rcases h2 with ⟨rfl, q1, q2⟩ | ⟨rfl, q1⟩ | ⟨rfl, q1, q2⟩
  all_goals
    go_enter Try.func7, Try.ntmps7
    go_wp2_with fail
    refine (shown_true _).mono ?_
    rintro e w1 ⟨rfl, b1⟩
    go_wp2_with fail
    refine (start _).mono ?_
    rintro e w2 ⟨rfl, b2⟩
    have b12 : Below w.heap.size w w2 := b1.trans (b2.mono b1.size)
    clear b1 b2
    go_wp2_with fail
    refine (tight startR _ _ _).mono ?_
    rintro e w' ⟨rfl, rfl⟩
    rw [T1.out]
    have em := EM.out
    have en := EN.out
    go_wp2_with fail
    refine (tight startR _ _ _).mono ?_
    rintro e w' ⟨rfl, rfl⟩
    rw [T2.out]
    go_wp2_with fail
    go_ret
    exact ⟨by first | rfl | (show Ending.returned (.bool (!decide (a1 < a0))) = _; rw [decide_eq_false (by omega)]; rfl), below_alloc (below_alloc (below_alloc b12 (Nat.le_refl _) _) (Nat.le_refl _) _) (Nat.le_refl _) _⟩

theorem ladder_walk (a0 : Int) (a1 : Int) (w : World) : Calls Try.prog 7 #[.int .i64 a0, .int .i64 a1] w fun e w' => e = .returned (.bool true) ∧ Below w.heap.size w w' := by
  obtain ⟨m, hm, em⟩ := and3 a0
  obtain ⟨n, hn, en⟩ := and3 a1
  have hb : ∃ b : Bool, (b = true ∧ 1 ≤ a0 ∧ a0 ≤ 5 ∧ 1 ≤ a1 ∧ a1 < a0) ∨ (b = false ∧ ¬ 1 ≤ a0) ∨ (b = false ∧ 1 ≤ a0 ∧ ¬ a0 ≤ 5) ∨ (b = false ∧ 1 ≤ a0 ∧ a0 ≤ 5 ∧ ¬ 1 ≤ a1) ∨ (b = false ∧ 1 ≤ a0 ∧ a0 ≤ 5 ∧ 1 ≤ a1 ∧ ¬ a1 < a0) := by
    by_cases h : 1 ≤ a0 ∧ a0 ≤ 5 ∧ 1 ≤ a1 ∧ a1 < a0
    · exact ⟨true, .inl ⟨rfl, h⟩⟩
    · exact ⟨false, by right; simp only [true_and]; omega⟩
  have hc : ∃ c : Bool, (c = true ∧ 1 ≤ n ∧ n ≤ m) ∨ (c = false ∧ ¬ 1 ≤ n) ∨ (c = false ∧ 1 ≤ n ∧ ¬ n ≤ m) := by
    by_cases h : 1 ≤ n ∧ n ≤ m
    · exact ⟨true, .inl ⟨rfl, h⟩⟩
    · exact ⟨false, by right; simp only [true_and]; omega⟩
  obtain ⟨b, hb⟩ := hb
  obtain ⟨c, hc⟩ := hc
  exact ladder_core a0 a1 m n b c w (Lib.hid em) (Lib.hid en) hm hn hb hc
end Go.Proofs.Ytkhillpjoklfgaa
