/- The walk of the reference's function that lays an edge: it comes to the same as the program's. -/
import Derived.Test.YtkhillpjoklfgaaEdge
namespace Go.Proofs.Ytkhillpjoklfgaa
open Go.RowKit
attribute [local go_sem ↓] wp_load23 wp_store23 wp_alloc23 wp_build23 wp_eql23
attribute [local go_sem] okRow okAgg_RV cells_agg headOf cellsOf RV_size blk_alloc_at blk_alloc_past blk_drew blk_drewN blk_setRow_same blk_setRow_other putRow setRow_alloc_at setRow_alloc_past setRow_drew lt_ones1 lt_ones2 lt_ones3 lt_ones4 lt_ones5 lt_ones6 lt_ones7 lt_ones8 isRV_RV eqV_RV

theorem ofInt_wrap (n : Int) : BitVec.ofInt 64 (IntKind.i64.wrap n) = BitVec.ofInt 64 n := by
  rw [IntKind.wrap_i64]
  apply BitVec.eq_of_toInt_eq
  rw [BitVec.toInt_ofInt, BitVec.toInt_ofInt]
  simp only [Int.bmod_def]
  have h : ((n + 9223372036854775808) % 18446744073709551616 - 9223372036854775808) % ((2 ^ 64 : Nat) : Int) = n % ((2 ^ 64 : Nat) : Int) := by
    have e : ((2 ^ 64 : Nat) : Int) = 18446744073709551616 := by decide
    rw [e]
    omega
  rw [h]
theorem bits_or_def (a b : Int) : bits .or .i64 a b = IntKind.i64.wrap ((BitVec.ofInt 64 a ||| BitVec.ofInt 64 b).toNat : Int) := rfl
theorem or_back (v : BitVec 64) : BitVec.ofInt 64 (IntKind.i64.wrap (v.toNat : Int)) = v := by
  rw [ofInt_wrap, BitVec.ofInt_natCast, BitVec.ofNat_toNat, BitVec.setWidth_eq]
theorem or_assoc64 (a b c : Int) : bits .or .i64 (bits .or .i64 a b) c = bits .or .i64 a (bits .or .i64 b c) := by
  rw [bits_or_def, bits_or_def a b, or_back, bits_or_def a, bits_or_def b c, or_back, BitVec.or_assoc]

theorem redge_group (R : Nat → Int) (g h : Int) (w : World) (hn : ¬ ((0 < g ∧ g < 10) ∧ (0 < h ∧ h < 10))) : Calls Try.prog 10 #[.agg (RV R), .int .i64 g, .int .i64 h] w fun e w' => e = .returned (.tuple #[.agg (RV zeroR), .int .i64 21]) ∧ Below w.heap.size w w' := by
  by_cases h1 : g < 1
  · go_enter Try.func10, Try.ntmps10
    go_wp2
    refine bodyPost_ret (results_cell23_2 rfl _ _ (w.heap.size + 1) zeroR rfl (blk_alloc_at _ _ (by simp))) rfl ⟨rfl, ((Below.refl _ _).alloc (Nat.le_refl _) _).alloc (by simp) _⟩
  · by_cases h2 : 9 < g
    · go_enter Try.func10, Try.ntmps10
      go_wp2
      refine bodyPost_ret (results_cell23_2 rfl _ _ (w.heap.size + 1) zeroR rfl (blk_alloc_at _ _ (by simp))) rfl ⟨rfl, ((Below.refl _ _).alloc (Nat.le_refl _) _).alloc (by simp) _⟩
    · by_cases h3 : h < 1
      · go_enter Try.func10, Try.ntmps10
        go_wp2
        refine bodyPost_ret (results_cell23_2 rfl _ _ (w.heap.size + 1) zeroR rfl (blk_alloc_at _ _ (by simp))) rfl ⟨rfl, ((Below.refl _ _).alloc (Nat.le_refl _) _).alloc (by simp) _⟩
      · have h4 : 9 < h := by omega
        go_enter Try.func10, Try.ntmps10
        go_wp2
        refine bodyPost_ret (results_cell23_2 rfl _ _ (w.heap.size + 1) zeroR rfl (blk_alloc_at _ _ (by simp))) rfl ⟨rfl, ((Below.refl _ _).alloc (Nat.le_refl _) _).alloc (by simp) _⟩

theorem redge_cycle (R : Nat → Int) (g h : Nat) (w : World) (hg0 : 0 < g) (hg : g < 10) (hh0 : 0 < h) (hh : h < 10) (hc : g = h ∨ tgt R h g = true) : Calls Try.prog 10 #[.agg (RV R), .int .i64 g, .int .i64 h] w fun e w' => e = .returned (.tuple #[.agg (RV zeroR), .int .i64 25]) ∧ Below w.heap.size w w' := by
  have a1 : ¬ (g : Int) < 1 := by omega
  have a2 : ¬ 9 < (g : Int) := by omega
  have a3 : ¬ (h : Int) < 1 := by omega
  have a4 : ¬ 9 < (h : Int) := by omega
  by_cases he : g = h
  · subst he
    go_enter Try.func10, Try.ntmps10
    go_wp2
    refine bodyPost_ret (results_cell23_2 rfl _ _ (w.heap.size + 1) zeroR rfl (blk_alloc_at _ _ (by simp))) rfl ⟨rfl, ((Below.refl _ _).alloc (Nat.le_refl _) _).alloc (by simp) _⟩
  · have ht : tgt R h g = true := hc.resolve_left he
    have hb : ((g : Int) == (h : Int)) = false := by simp; omega
    clear hc
    go_enter Try.func10, Try.ntmps10
    go_wp2_with fail
    refine (tight_ref R _ _ _).mono ?_
    rintro e w' ⟨rfl, rfl⟩
    go_wp2
    refine bodyPost_ret (results_cell23_2 rfl _ _ (w.heap.size + 1) zeroR rfl (by rw [blk_alloc_past _ _ (by simp)]; exact blk_alloc_at _ _ (by simp))) rfl ⟨rfl, (((Below.refl _ _).alloc (Nat.le_refl _) _).alloc (by simp) _).alloc (by simp; omega) _⟩

set_option maxHeartbeats 1000000 in
theorem redge_ok (R : Nat → Int) (g h : Nat) (w : World) (hg0 : 0 < g) (hg : g < 10) (hh0 : 0 < h) (hh : h < 10) (hne : g ≠ h) (ht : tgt R h g = false) : Calls Try.prog 10 #[.agg (RV R), .int .i64 g, .int .i64 h] w fun e w' => e = .returned (.tuple #[.agg (RV (edK R g h 10)), .int .i64 0]) ∧ Below w.heap.size w w' := by
  have a1 : ¬ (g : Int) < 1 := by omega
  have a2 : ¬ 9 < (g : Int) := by omega
  have a3 : ¬ (h : Int) < 1 := by omega
  have a4 : ¬ 9 < (h : Int) := by omega
  have hb : ((g : Int) == (h : Int)) = false := by simp; omega
  go_enter Try.func10, Try.ntmps10
  go_wp2_with fail
  refine (tight_ref R _ _ _).mono ?_
  rintro e w' ⟨rfl, rfl⟩
  go_wp2_with fail
  go_loopw [9] (fun i wr => ∃ k : Nat, k ≤ 10 ∧ i = .int .i64 k ∧ blk wr w.heap.size = some (.cells (RV R) 23 (0, 0)) ∧ blk wr (w.heap.size + 1) = some (.cells (RV zeroR) 23 (0, 0)) ∧ blk wr (w.heap.size + 1 + 1 + 1) = some (.cells (RV (edK R g h k)) 23 (0, 0)) ∧ Below w.heap.size w wr) (fun i _ => 10 - (intOf i).toNat)
  case atStart =>
    refine ⟨0, by omega, rfl, ?_, ?_, row_as (R := R) ?_ (fun x _ => by unfold edK; rw [if_neg (by omega)]), (below_alloc (below_alloc (below_alloc (below_alloc (Below.refl _ _) (Nat.le_refl _) _) (Nat.le_refl _) _) (Nat.le_refl _) _) (Nat.le_refl _) _)⟩
    · go_simp
    · go_simp; rfl
    · go_simp
  case round =>
    clear a1 a2 a3 a4
    obtain ⟨k, hk, rfl, h1, h0, hw, hbl⟩ := hrel
    have hs := row_lt hw
    by_cases hlt : k < 10
    · have hclr := row_cell h1
      have hclw := row_cell hw
      have hfw := row_free hw
      have hgk := RV_get R k (by omega)
      have hgh := RV_get R h (by omega)
      have hgw := RV_get (edK R g h k) k (by omega)
      have hs0 := row_lt h1
      have ew := wrap_pow h hh
      have c0 : (0 : Int) ≤ (k : Int) := by omega
      have c1 : (k : Int) < 10 := by omega
      have d0 : (0 : Int) ≤ (h : Int) := by omega
      have d1 : (h : Int) < 10 := by omega
      by_cases hkg : k = g
      · have em : bits .or .i64 (bits .or .i64 (R k) (R h)) (2 ^ h) = edK R g h (k + 1) k := by rw [or_assoc64]; exact (edK_at R g h k (.inl hkg)).symm
        have HR := Lib.hid (row_put hw k (by omega) (edK R g h (k + 1) k))
        have HR0 := Lib.hid (row_stay h0 ⟨w.heap.size + 1 + 1 + 1, k, none⟩ (.int .i64 (edK R g h (k + 1) k)) (by simp))
        have HR1 := Lib.hid (row_stay h1 ⟨w.heap.size + 1 + 1 + 1, k, none⟩ (.int .i64 (edK R g h (k + 1) k)) (by simp; omega))
        clear h0 hw
        subst hkg
        go_wp2
        go_region
        all_goals
          go_wp2
          go_roundw
          case rel => exact ⟨k + 1, by omega, by go_num, HR1.out, HR0.out, row_as HR.out (fun x _ => edK_yes R k h k x), (hbl.setCell (by simp; omega) _).drew⟩
          case measure => simp [intOf]; omega
      · have hbk : ((k : Int) == (g : Int)) = false := by simp; omega
        cases htk : tgt R k g
        · have HR := Lib.hid (row_as hw (S := edK R g h (k + 1)) (fun x _ => edK_no R g h k x hkg htk))
          have HR0 := Lib.hid h0
          have HR1 := Lib.hid h1
          clear h0 hw
          go_wp2_with fail
          refine (tight_ref R _ _ _).mono ?_
          rintro e w' ⟨rfl, rfl⟩
          go_wp2
          go_roundw
          case rel => exact ⟨k + 1, by omega, by go_num, by rw [blk_alloc_past _ _ (by omega)]; exact HR1.out, by rw [blk_alloc_past _ _ (by omega)]; exact HR0.out, by rw [blk_alloc_past _ _ (by omega)]; exact HR.out, below_alloc hbl (Nat.le_refl _) _⟩
          case measure => simp [intOf]; omega
        · have em : bits .or .i64 (bits .or .i64 (R k) (R h)) (2 ^ h) = edK R g h (k + 1) k := by rw [or_assoc64]; exact (edK_at R g h k (.inr htk)).symm
          have HR := Lib.hid (row_put hw k (by omega) (edK R g h (k + 1) k))
          have HR0 := Lib.hid (row_stay h0 ⟨w.heap.size + 1 + 1 + 1, k, none⟩ (.int .i64 (edK R g h (k + 1) k)) (by simp))
          have HR1 := Lib.hid (row_stay h1 ⟨w.heap.size + 1 + 1 + 1, k, none⟩ (.int .i64 (edK R g h (k + 1) k)) (by simp; omega))
          clear h0 hw
          go_wp2_with fail
          refine (tight_ref R _ _ _).mono ?_
          rintro e w' ⟨rfl, rfl⟩
          go_wp2_with fail
          go_region
          all_goals
            go_wp2
            go_roundw
            case rel => exact ⟨k + 1, by omega, by go_num, by rw [blk_drew, blk_alloc_past _ _ (by simp [World.setCell]; omega)]; exact HR1.out, by rw [blk_drew, blk_alloc_past _ _ (by simp [World.setCell]; omega)]; exact HR0.out, by rw [blk_drew, blk_alloc_past _ _ (by simp [World.setCell]; omega)]; exact row_as HR.out (fun x _ => edK_yes R g h k x), (below_alloc (hbl.setCell (by simp; omega) _) (Nat.le_refl _) _).drew⟩
            case measure => simp [intOf]; omega
    · obtain rfl : k = 10 := by omega
      have hs1 := row_lt h0
      go_wp2
      refine bodyPost_ret (results_cell23_2 rfl _ _ (w.heap.size + 1) (edK R g h 10) rfl ?_) rfl ⟨rfl, below_setRow hbl (by omega) _⟩
      rw [blk_setRow_same, h0]
      rfl
end Go.Proofs.Ytkhillpjoklfgaa
