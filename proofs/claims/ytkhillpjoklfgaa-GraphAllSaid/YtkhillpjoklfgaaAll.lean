/- The walk of the law that holds the program's graph against the reference's: it answers true. -/
import Derived.Test.YtkhillpjoklfgaaShown
import Derived.Deep.RegionHeld3
import Derived.Deep.MidRow
import Derived.Deep.DrawnRows
import Derived.Deep.RegionWith
namespace Go.Proofs.Ytkhillpjoklfgaa
open Go.RowKit
attribute [local go_sem ↓] wp_load23 wp_store23 wp_alloc23 wp_build23 wp_eql23
attribute [local go_sem] okRow okAgg_RV cells_agg headOf cellsOf RV_size blk_alloc_at blk_alloc_past blk_drew blk_drewN blk_setRow_same blk_setRow_other putRow setRow_alloc_at setRow_alloc_past setRow_drew lt_ones1 lt_ones2 lt_ones3 lt_ones4 lt_ones5 lt_ones6 lt_ones7 lt_ones8 isRV_RV eqV_RV
attribute [local go_sem ↓] Go.wp_at_zero Go.wp_at_succ
attribute [local go_sem] run_eql23 run_eqGuard23

theorem eqR_self (R : Nat → Int) : eqR R R = true := (eqR_iff R R).2 fun _ _ => rfl


theorem both (R : Nat → Int) (g h : Int) : ∃ (S : Nat → Int) (c : Int), (∀ w, Calls Try.prog 9 #[.agg (RV R), .int .i64 g, .int .i64 h] w fun e w' => e = .returned (.tuple #[.agg (RV S), .int .i64 c]) ∧ Below w.heap.size w w') ∧
    ∀ w, Calls Try.prog 10 #[.agg (RV R), .int .i64 g, .int .i64 h] w fun e w' => e = .returned (.tuple #[.agg (RV S), .int .i64 c]) ∧ Below w.heap.size w w' :=
  ⟨_, _, edge_any R g h, redge_any R g h⟩

/-- Three blocks hold what they held; what was there ahead of the call is as it was. -/
structure Held3 (u : World) (A B C : Nat) (R S T : Nat → Int) (w : World) : Prop where
  a : blk w A = some (.cells (RV R) 23 (0, 0))
  b : blk w B = some (.cells (RV S) 23 (0, 0))
  c : blk w C = some (.cells (RV T) 23 (0, 0))
  d : Below u.heap.size u w
theorem Held3.keep {u w w' : World} {A B C : Nat} {R S T : Nat → Int} (h : Held3 u A B C R S T w) (hb : Below w.heap.size w w') : Held3 u A B C R S T w' :=
  ⟨(row_below hb (row_lt h.a)).trans h.a, (row_below hb (row_lt h.b)).trans h.b, (row_below hb (row_lt h.c)).trans h.c, h.d.trans (hb.mono h.d.size)⟩
theorem Held3.drew {u w : World} {A B C : Nat} {R S T : Nat → Int} (h : Held3 u A B C R S T w) : Held3 u A B C R S T w.drew := ⟨h.a, h.b, h.c, h.d.drew⟩
theorem below_new (w : World) (o : Obj) : Below w.heap.size w (w.alloc o) := (Below.refl _ _).alloc (Nat.le_refl _) _

theorem tight_b (R : Nat → Int) (g h : Int) (w : World) : Calls Try.prog 13 #[.agg (RV R), .int .i64 g, .int .i64 h] w fun e w' => e = .returned (.bool (tgt R g h)) ∧ Below w.heap.size w w' :=
  (tight R g h w).mono fun _ _ ⟨he, hw⟩ => ⟨he, hw ▸ below_new _ _⟩
theorem tight_ref_b (R : Nat → Int) (g h : Int) (w : World) : Calls Try.prog 14 #[.agg (RV R), .int .i64 g, .int .i64 h] w fun e w' => e = .returned (.bool (tgt R g h)) ∧ Below w.heap.size w w' :=
  (tight_ref R g h w).mono fun _ _ ⟨he, hw⟩ => ⟨he, hw ▸ below_new _ _⟩

set_option maxHeartbeats 4000000 in
theorem all_walk (R : Nat → Int) (g h : Int) (w : World) : Calls Try.prog 3 #[.agg (RV R), .int .i64 g, .int .i64 h] w fun e w' => e = .returned (.bool true) ∧ Below w.heap.size w w' := by
  obtain ⟨S, c, e1, e2⟩ := both R g h
  have E1 := Lib.hid e1
  have E2 := Lib.hid e2
  have eS := eqR_self S
  have e0 := eqR_self startR
  clear e1 e2
  go_enter Try.func3, Try.ntmps3
  go_wp2_with fail
  refine (shown_true _).mono ?_
  rintro e w1 ⟨rfl, b1⟩
  have f1 : blk w1 w.heap.size = some (.cells (RV R) 23 (0, 0)) := (row_below b1 (by simp)).trans (blk_alloc_at _ _ rfl)
  have g1 : Below w.heap.size w w1 := (below_alloc (Below.refl _ w) (Nat.le_refl _) _).trans (b1.mono (by simp))
  have s1 := row_lt f1
  clear b1
  go_wp2_with fail
  refine (E1.out _).mono ?_
  rintro e w2 ⟨rfl, b2⟩
  have f2 : blk w2 w.heap.size = some (.cells (RV R) 23 (0, 0)) := (row_below b2 s1).trans f1
  have g2 : Below w.heap.size w w2 := g1.trans (b2.mono g1.size)
  have s2 := row_lt f2
  clear b2 f1 g1 s1
  go_wp2_with fail
  refine (E2.out _).mono ?_
  rintro e w3 ⟨rfl, b3⟩
  have f3 : blk w3 w.heap.size = some (.cells (RV R) 23 (0, 0)) := (row_below b3 (by simp; omega)).trans ((blk_alloc_past _ _ (by omega)).trans f2)
  have k3 : blk w3 w2.heap.size = some (.cells (RV S) 23 (0, 0)) := (row_below b3 (by simp)).trans (blk_alloc_at _ _ rfl)
  have g3 : Below w.heap.size w w3 := (below_alloc g2 (Nat.le_refl _) _).trans (b3.mono (by have := g2.size; simp; omega))
  have s3 := row_lt f3
  have t3 := row_lt k3
  clear b3 f2 g2 s2
  generalize w2.heap.size = N2 at *
  clear w2 w1
  go_wp2_with fail
  have f4 : blk (w3.alloc (.cells (RV S) 23)) w.heap.size = some (.cells (RV R) 23 (0, 0)) := (blk_alloc_past _ _ s3).trans f3
  have k4 : blk (w3.alloc (.cells (RV S) 23)) N2 = some (.cells (RV S) 23 (0, 0)) := (blk_alloc_past _ _ t3).trans k3
  have l4 : blk (w3.alloc (.cells (RV S) 23)) w3.heap.size = some (.cells (RV S) 23 (0, 0)) := blk_alloc_at _ _ rfl
  have g4 : Below w.heap.size w (w3.alloc (.cells (RV S) 23)) := below_alloc g3 (Nat.le_refl _) _
  have s4 := row_lt f4
  have t4 := row_lt k4
  have u4 := row_lt l4
  clear f3 k3 g3 s3 t3
  generalize w3.heap.size = N3 at *
  generalize w3.alloc (.cells (RV S) 23) = w4 at *
  clear w3
  have H4 : Held3 w w.heap.size N2 N3 R S S w4 := ⟨f4, k4, l4, g4⟩
  have H := H4.drew
  clear s4 t4 u4
  have ST := Lib.hid start
  have SR := Lib.hid start_ref
  have T1 := Lib.hid (tight_b R g h)
  have T2 := Lib.hid (tight_ref_b R g h)
  go_region_with (first | (go_at_call 11; refine (ST.out _).mono ?_; rintro e wx ⟨rfl, bx⟩; have hx := Held3.keep (by assumption) bx; have fx := hx.a; have kx := hx.b; have lx := hx.c; clear bx) | (go_at_call 12; refine (SR.out _).mono ?_; rintro e wx ⟨rfl, bx⟩; have hx := Held3.keep (by assumption) bx; have fx := hx.a; have kx := hx.b; have lx := hx.c; clear bx) | (go_at_call 13; refine (T1.out _).mono ?_; rintro e wx ⟨rfl, bx⟩; have hx := Held3.keep (by assumption) bx; have fx := hx.a; have kx := hx.b; have lx := hx.c; clear bx) | (go_at_call 14; refine (T2.out _).mono ?_; rintro e wx ⟨rfl, bx⟩; have hx := Held3.keep (by assumption) bx; have fx := hx.a; have kx := hx.b; have lx := hx.c; clear bx))
  all_goals
    go_wp2
    refine bodyPost_ret (v := .bool true) ?_ ?_ ⟨rfl, (show Held3 w w.heap.size N2 N3 R S S _ by assumption).d⟩
    · rw [results_tmp rfl]
      simp [Act.put]
    · simp [Act.put]
end Go.Proofs.Ytkhillpjoklfgaa
