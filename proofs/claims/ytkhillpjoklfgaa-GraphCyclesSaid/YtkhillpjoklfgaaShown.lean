/- The document's example holds; and an edge laid by the program's function and by the reference's comes to the same. -/
import Derived.Test.YtkhillpjoklfgaaEdgeRef
import Derived.Test.YtkhillpjoklfgaaStart
namespace Go.Proofs.Ytkhillpjoklfgaa
open Go.RowKit
attribute [local go_sem ↓] wp_load23 wp_store23 wp_alloc23 wp_build23 wp_eql23
attribute [local go_sem] okRow okAgg_RV cells_agg headOf cellsOf RV_size blk_alloc_at blk_alloc_past blk_drew blk_drewN blk_setRow_same blk_setRow_other putRow setRow_alloc_at setRow_alloc_past setRow_drew lt_ones1 lt_ones2 lt_ones3 lt_ones4 lt_ones5 lt_ones6 lt_ones7 lt_ones8 isRV_RV eqV_RV

/-- What an edge comes to. -/
def edgeS (R : Nat → Int) (g h : Int) : (Nat → Int) × Int :=
  if (0 < g ∧ g < 10) ∧ (0 < h ∧ h < 10) then (if g = h ∨ tgt R h g = true then (zeroR, 25) else (edK R g.toNat h.toNat 10, 0)) else (zeroR, 21)

def EdgePost (R : Nat → Int) (g h : Int) (w : World) (e : Ending) (w' : World) : Prop :=
  e = .returned (.tuple #[.agg (RV (edgeS R g h).1), .int .i64 (edgeS R g h).2]) ∧ Below w.heap.size w w'

theorem edge_any (R : Nat → Int) (g h : Int) (w : World) : Calls Try.prog 9 #[.agg (RV R), .int .i64 g, .int .i64 h] w (EdgePost R g h w) := by
  unfold EdgePost edgeS
  by_cases c : (0 < g ∧ g < 10) ∧ (0 < h ∧ h < 10)
  · rw [if_pos c]
    obtain ⟨⟨g0, g1⟩, h0, h1⟩ := c
    obtain ⟨m, rfl⟩ := Int.eq_ofNat_of_zero_le (Int.le_of_lt g0)
    obtain ⟨n, rfl⟩ := Int.eq_ofNat_of_zero_le (Int.le_of_lt h0)
    by_cases d : (m : Int) = n ∨ tgt R n m = true
    · rw [if_pos d]
      exact edge_cycle R m n w (by omega) (by omega) (by omega) (by omega) (d.imp (by omega) id)
    · rw [if_neg d]
      exact edge_ok R m n w (by omega) (by omega) (by omega) (by omega) (fun e => d (.inl (by omega))) (by simpa using fun e => d (.inr e))
  · rw [if_neg c]
    exact edge_group R g h w c

theorem redge_any (R : Nat → Int) (g h : Int) (w : World) : Calls Try.prog 10 #[.agg (RV R), .int .i64 g, .int .i64 h] w (EdgePost R g h w) := by
  unfold EdgePost edgeS
  by_cases c : (0 < g ∧ g < 10) ∧ (0 < h ∧ h < 10)
  · rw [if_pos c]
    obtain ⟨⟨g0, g1⟩, h0, h1⟩ := c
    obtain ⟨m, rfl⟩ := Int.eq_ofNat_of_zero_le (Int.le_of_lt g0)
    obtain ⟨n, rfl⟩ := Int.eq_ofNat_of_zero_le (Int.le_of_lt h0)
    by_cases d : (m : Int) = n ∨ tgt R n m = true
    · rw [if_pos d]
      exact redge_cycle R m n w (by omega) (by omega) (by omega) (by omega) (d.imp (by omega) id)
    · rw [if_neg d]
      exact redge_ok R m n w (by omega) (by omega) (by omega) (by omega) (fun e => d (.inl (by omega))) (by simpa using fun e => d (.inr e))
  · rw [if_neg c]
    exact redge_group R g h w c

def showR : Nat → Int := edK startR 7 3 10
theorem show7 : showR 7 = 14 := by decide +kernel
theorem show71 : tgt showR 7 1 = true := by decide +kernel
theorem show74 : tgt showR 7 4 = false := by decide +kernel

theorem edge_show (w : World) : Calls Try.prog 9 #[.agg (RV startR), .int .i64 7, .int .i64 3] w fun e w' => e = .returned (.tuple #[.agg (RV showR), .int .i64 0]) ∧ Below w.heap.size w w' :=
  edge_ok startR 7 3 w (by decide) (by decide) (by decide) (by decide) (by decide) (by decide +kernel)

theorem shown_true (w : World) : Calls Try.prog 8 #[] w fun e w' => e = .returned (.bool true) ∧ Below w.heap.size w w' := by
  have h7 : (RV showR)[7]? = some (.int .i64 14) := by rw [RV_get showR 7 (by decide), show7]
  have k1 := show71
  have k4 := show74
  go_enter Try.func8, Try.ntmps8
  go_wp2_with fail
  refine (start _).mono ?_
  rintro e w1 ⟨rfl, b1⟩
  go_wp2_with fail
  refine (edge_show _).mono ?_
  rintro e w2 ⟨rfl, b2⟩
  have b12 : Below w.heap.size w w2 := b1.trans (b2.mono b1.size)
  clear b1 b2
  go_wp2_with fail
  refine (tight showR _ _ _).mono ?_
  rintro e w' ⟨rfl, rfl⟩
  go_wp2_with fail
  refine (tight showR _ _ _).mono ?_
  rintro e w' ⟨rfl, rfl⟩
  go_wp2_with fail
  go_ret
  exact ⟨rfl, below_alloc (below_alloc (below_alloc b12 (Nat.le_refl _) _) (Nat.le_refl _) _) (Nat.le_refl _) _⟩
end Go.Proofs.Ytkhillpjoklfgaa
