/- The walk of RopeSlices. -/
import Derived.Test.YteaciponojocbaaThree
import Derived.Test.YteaciponojocbaaAt
import Derived.Laws.Concat
namespace Go.Proofs.Yteaciponojocbaa
open Go.RowKit Tw

theorem remw (x m j : Nat) (hx : x < 65536) (hj : x % m = j) : (x : Int).tmod (m : Int) = (j : Int) := by
  rw [Int.tmod_eq_emod_of_nonneg (by omega), ← hj]; exact (Int.natCast_emod _ _).symm

theorem strN_append (a b : List Nat) : strN (a ++ b) = strN a ++ strN b := by
  apply ByteArray.ext
  simp [strN, strOfNums]
theorem below_draws {N : Nat} {a w : World} (h : Below N a w) (n : Nat) : Below N a (w.drewN n) := ⟨h.os, h.tape, h.output, h.size, h.block⟩
theorem strN_sum {P : Program} (w : World) (a b c : List Nat) (h : a ++ b = c) (hl : c.length ≤ 65536) : (Op.stringOp .add (strN a) (strN b)).run P w = .ok (.string (strN c)) w := by
  have hs : ∀ l : List Nat, (strN l).size = l.length := fun l => by
    show (strN l).data.size = l.length
    simp [strN, strOfNums]
  rw [← h, strN_append]
  have hl' : a.length + b.length ≤ 65536 := by rw [← List.length_append, h]; exact hl
  exact run_string_add_sum w _ _ (by rw [hs, hs]; omega)
theorem cut_list (bs : List Nat) (i j k : Nat) (h1 : i ≤ j) (h2 : j ≤ k) (h3 : k ≤ bs.length) : (bs.take j).drop i ++ (bs.take k).drop j = (bs.take k).drop i := by
  have e : bs.take j = (bs.take k).take j := by rw [List.take_take, Nat.min_eq_left h2]
  rw [e]
  generalize hc : bs.take k = cs
  have hl : cs.length = k := by rw [← hc, List.length_take]; omega
  rw [← List.drop_append_of_le_length (by rw [List.length_take]; omega), List.take_append_drop]
theorem cell_below' {w w' : World} {b i : Nat} {v : Value} (h : w.cell? ⟨b, i, none⟩ = some v) (hb : Below w.heap.size w w') : w'.cell? ⟨b, i, none⟩ = some v := (hb.cell (p := ⟨b, i, none⟩) (block_lt_of_cell h)).trans h

set_option maxRecDepth 100000 in
set_option maxHeartbeats 4000000 in
theorem slices_walk (a : Option Addr) (l : List Nat) (cap x y z : Nat) (w : World) (h : ArgBytes w a cap l) (hx : x < 65536) (hy : y < 65536) (hz : z < 65536) :
    Calls Try.prog 6 #[.slice a l.length cap, .agg #[.int .u16 (x : Int), .int .u16 (y : Int), .int .u16 (z : Int)]] w fun e w' => e = .returned (.bool true) ∧ Below w.heap.size w w' := by
  have H := Lib.hid h
  clear h
  go_enter Try.func6, Try.ntmps6
  go_wp2_with (go_at_call 9; refine (shown_any _).mono ?_; rintro e w1 ⟨rfl, b1⟩)
  have d1 : Below w.heap.size w w1 := (below_new w _).trans (b1.mono (by simp))
  have x0 : w1.cell? ⟨w.heap.size, 0, none⟩ = some (.int .u16 (x : Int)) := by rw [b1.cell (p := ⟨w.heap.size, 0, none⟩) (by simp)]; simp
  have x1 : w1.cell? ⟨w.heap.size, 1, none⟩ = some (.int .u16 (y : Int)) := by rw [b1.cell (p := ⟨w.heap.size, 1, none⟩) (by simp)]; simp
  have x2 : w1.cell? ⟨w.heap.size, 2, none⟩ = some (.int .u16 (z : Int)) := by rw [b1.cell (p := ⟨w.heap.size, 2, none⟩) (by simp)]; simp
  refine (few_n a cap l _ (H.out.below d1)).mono ?_
  rintro e w2 ⟨a2, cap2, bs, n, rfl, hbn, hn3, _, hb, b2⟩
  have y0 := (b2.cell (p := ⟨w.heap.size, 0, none⟩) (block_lt_of_cell x0)).trans x0
  have y1 := (b2.cell (p := ⟨w.heap.size, 1, none⟩) (block_lt_of_cell x1)).trans x1
  have y2 := (b2.cell (p := ⟨w.heap.size, 2, none⟩) (block_lt_of_cell x2)).trans x2
  have H1 := Lib.hid (And.intro hb (And.intro hbn (d1.trans (b2.mono d1.size))))
  clear hb hbn b1 b2 d1 H x0 x1 x2
  go_wp2_with fail
  refine (new_len a2 cap2 n bs _ H1.out.1 H1.out.2.1 (by omega)).mono ?_
  rintro e w3 ⟨b1, R, rfl, hR, hr⟩
  have z0 := (b1.cell (p := ⟨w.heap.size, 0, none⟩) (block_lt_of_cell y0)).trans y0
  have z1 := (b1.cell (p := ⟨w.heap.size, 1, none⟩) (block_lt_of_cell y1)).trans y1
  have z2 := (b1.cell (p := ⟨w.heap.size, 2, none⟩) (block_lt_of_cell y2)).trans y2
  have H2 := Lib.hid (And.intro hr (And.intro (H1.out.1.below b1) (And.intro H1.out.2.1 (And.intro (Nat.le_trans H1.out.2.2.size hR) (H1.out.2.2.trans (b1.mono H1.out.2.2.size))))))
  clear hr hR b1 y0 y1 y2 H1
  obtain ⟨n1, hn1⟩ : ∃ n1 : Nat, n1 = n + 1 := ⟨_, rfl⟩
  have q0 : ¬ n1 = 0 := by omega
  have q1 : IntKind.i64.wrap ((n : Int) + 1) = (n1 : Int) := by rw [show (n : Int) + 1 = (n1 : Int) by omega]; exact IntWalk.i64_in _ (by omega)
  obtain ⟨i, hi⟩ : ∃ i, x % n1 = i := ⟨_, rfl⟩
  have il : i < n1 := by have := Nat.mod_lt x (show 0 < n1 by omega); omega
  have q2 := remw x n1 i hx hi
  obtain ⟨m1, hm1⟩ : ∃ m1 : Nat, m1 = n1 - i := ⟨_, rfl⟩
  have q3 : IntKind.i64.wrap ((n1 : Int) - (i : Int)) = (m1 : Int) := by rw [show (n1 : Int) - (i : Int) = (m1 : Int) by omega]; exact IntWalk.i64_in _ (by omega)
  have q4 : ¬ m1 = 0 := by omega
  obtain ⟨r1, hr1⟩ : ∃ r, y % m1 = r := ⟨_, rfl⟩
  have r1l : r1 < m1 := by have := Nat.mod_lt y (show 0 < m1 by omega); omega
  have q5 := remw y m1 r1 hy hr1
  obtain ⟨j, hj⟩ : ∃ j : Nat, j = i + r1 := ⟨_, rfl⟩
  have q6 : IntKind.i64.wrap ((i : Int) + (r1 : Int)) = (j : Int) := by rw [show (i : Int) + (r1 : Int) = (j : Int) by omega]; exact IntWalk.i64_in _ (by omega)
  obtain ⟨m2, hm2⟩ : ∃ m2 : Nat, m2 = n1 - j := ⟨_, rfl⟩
  have q7 : IntKind.i64.wrap ((n1 : Int) - (j : Int)) = (m2 : Int) := by rw [show (n1 : Int) - (j : Int) = (m2 : Int) by omega]; exact IntWalk.i64_in _ (by omega)
  have q8 : ¬ m2 = 0 := by omega
  obtain ⟨r2, hr2⟩ : ∃ r, z % m2 = r := ⟨_, rfl⟩
  have r2l : r2 < m2 := by have := Nat.mod_lt z (show 0 < m2 by omega); omega
  have q9 := remw z m2 r2 hz hr2
  obtain ⟨k, hk⟩ : ∃ k : Nat, k = j + r2 := ⟨_, rfl⟩
  have q10 : IntKind.i64.wrap ((j : Int) + (r2 : Int)) = (k : Int) := by rw [show (j : Int) + (r2 : Int) = (k : Int) by omega]; exact IntWalk.i64_in _ (by omega)
  have p1 : i ≤ j := by omega
  have p2 : j ≤ k := by omega
  have p3 : k ≤ n := by omega
  have p4 : k ≤ 300 := by omega
  have HN := Lib.hid hn1
  clear hi hr1 hr2 hn1 hm1 hm2 hj hk r1l r2l il
  go_wp2_with fail
  refine (slice_good w.heap.size R bs i j _ H2.out.1 H2.out.2.2.2.1 p1 (by rw [H2.out.2.2.1]; omega)).mono ?_
  rintro e w4 ⟨a4, c4, rfl, hb4, k4⟩
  have H3 := Lib.hid (And.intro (k4.rope _ _ H2.out.1) (And.intro (k4.byt _ _ _ H2.out.2.1) (And.intro hb4 (H2.out.2.2.2.2.trans k4.below))))
  clear hb4 k4
  go_wp2_with fail
  refine (slice_good w.heap.size R bs j k _ H3.out.1 H2.out.2.2.2.1 p2 (by rw [H2.out.2.2.1]; omega)).mono ?_
  rintro e w5 ⟨a5, c5, rfl, hb5, k5⟩
  have H4 := Lib.hid (And.intro (k5.rope _ _ H3.out.1) (And.intro (k5.byt _ _ _ H3.out.2.1) (And.intro (k5.byt _ _ _ H3.out.2.2.1) (And.intro hb5 (H3.out.2.2.2.trans k5.below)))))
  clear hb5 k5
  go_wp2_with fail
  refine (slice_good w.heap.size R bs i k _ H4.out.1 H2.out.2.2.2.1 (Nat.le_trans p1 p2) (by rw [H2.out.2.2.1]; omega)).mono ?_
  rintro e w6 ⟨a6, c6, rfl, hb6, k6⟩
  have H5 := Lib.hid (And.intro (k6.rope _ _ H4.out.1) (And.intro (k6.byt _ _ _ H4.out.2.1) (And.intro (k6.byt _ _ _ H4.out.2.2.1) (And.intro (k6.byt _ _ _ H4.out.2.2.2.1) (And.intro hb6 (H4.out.2.2.2.2.trans k6.below))))))
  clear hb6 k6
  have q11 : IntKind.i64.wrap ((i : Int) - 1) = (i : Int) - 1 := IntWalk.i64_in _ (by omega)
  go_wp2_with fail
  refine (slice_bad R bs (k : Int) ((i : Int) - 1) _ H5.out.1 (by omega)).mono ?_
  rintro e w7 ⟨rfl, hw7⟩
  have hw7' := hw7.symm
  clear hw7
  subst hw7'
  go_wp2_with fail
  refine (slice_bad R bs (i : Int) (n1 : Int) _ H5.out.1 (by rw [H2.out.2.2.1]; have := HN.out; omega)).mono ?_
  rintro e w8 ⟨rfl, hw8⟩
  have hw8' := hw8.symm
  clear hw8
  subst hw8'
  go_wp2_with fail
  generalize hL : k - i = L
  have hLb : L ≤ 300 := by omega
  have HLL := Lib.hid hL
  go_loopw [23] (fun m wr => ∃ q : Nat, m = .int .i64 (q : Int) ∧ q ≤ L ∧ Below w6.heap.size w6 wr) (fun m _ => L - (intOf m).toNat)
  case atStart => exact ⟨0, rfl, Nat.zero_le _, Below.refl _ _⟩
  case round =>
    rename_i wr
    obtain ⟨q, rfl, hqL, hbl⟩ := hrel
    have hiL : i + L ≤ n := by omega
    have hiL2 : i + L = k := by omega
    clear q0 q1 q2 q3 q4 q5 q6 q7 q8 q9 q10 q11 z0 z1 z2 hx hy hz
    have G1 := H5.out.1.below hbl
    have G2 := H5.out.2.2.2.2.1.below hbl
    have G3 := H5.out.2.2.2.2.2.trans (hbl.mono H5.out.2.2.2.2.2.size)
    by_cases hlt : q < L
    · have s1 : (q : Int) < (L : Int) := by omega
      have s2 : (0 : Int) ≤ (q : Int) := by omega
      obtain ⟨t, ht⟩ : ∃ t : Nat, t = i + q := ⟨_, rfl⟩
      have s3 : IntKind.i64.wrap ((i : Int) + (q : Int)) = (t : Int) := by rw [show (i : Int) + (q : Int) = (t : Int) by omega]; exact IntWalk.i64_in _ (by omega)
      have htb : t < bs.length := by rw [H2.out.2.2.1]; omega
      obtain ⟨c, hc⟩ : ∃ c, bs[t]? = some c := ⟨_, List.getElem?_eq_getElem htb⟩
      have hc2 : ((bs.take k).drop i)[q]? = some c := by rw [List.getElem?_drop, ← ht, List.getElem?_take_of_lt (by omega)]; exact hc
      obtain ⟨b6, o6, e6, hcell, hq6⟩ := leafByte G2 hc2
      have HA := Lib.hid (And.intro G1 (And.intro hc (And.intro hbl hcell)))
      have hgo : t = i + q := ht
      have HT := Lib.hid hgo
      clear G1 G2 G3 hc hc2 hbl hcell htb hq6 hL ht hgo hiL hiL2 p1 p2 p3 p4
      go_wp2_with fail
      refine (at_any R t bs c _ HA.out.1 HA.out.2.1).mono ?_
      rintro e w9 ⟨rfl, b9⟩
      have hcell9 := cell_below' HA.out.2.2.2 b9
      have HD := Lib.hid (HA.out.2.2.1.trans (b9.mono HA.out.2.2.1.size))
      subst e6
      clear b9
      go_wp2
      go_roundw
      case rel => exact ⟨q + 1, by go_num, by omega, HD.out⟩
      case measure => simp [intOf]; omega
    · have s1 : ¬ (q : Int) < (L : Int) := by omega
      have G4 := H5.out.2.1.below hbl
      have G5 := H5.out.2.2.1.below hbl
      have G6 := H5.out.2.2.2.1.below hbl
      have HZ := Lib.hid (And.intro G2 (And.intro G4 (And.intro G5 (And.intro G6 G3))))
      clear G1 G2 G3 G4 G5 G6 hbl hL
      have hn := H2.out.2.2.1
      have l1 : ((bs.take j).drop i).length = j - i := by rw [List.length_drop, List.length_take]; omega
      have l2 : ((bs.take k).drop j).length = k - j := by rw [List.length_drop, List.length_take]; omega
      have l3 : ((bs.take k).drop i).length = L := by rw [List.length_drop, List.length_take]; omega
      have dr : ∀ m, Below wr.heap.size wr (wr.drewN m) := fun m => below_draws (Below.refl _ _) m
      have cv1 := fun m => str_conv (HZ.out.2.2.1.below (dr m)) l1
      have cv2 := fun m => str_conv (HZ.out.2.2.2.1.below (dr m)) l2
      have cv3 := fun m => str_conv (HZ.out.1.below (dr m)) l3
      have ecat := fun w => strN_sum (P := Try.prog) w _ _ _ (cut_list bs i j k p1 p2 (by omega)) (by omega)
      have hcap : n ≤ cap2 := by have := HZ.out.2.1.le; omega
      have u1 : (i : Int) ≤ (k : Int) := by omega
      have u2 : (k : Int) ≤ (cap2 : Int) := by omega
      have u3 : (0 : Int) ≤ (i : Int) := by omega
      have hkL : k - i = L := by omega
      by_cases hic : cap2 = i
      · have cv4 := fun m => str_conv (from_end (from_take (HZ.out.2.1.below (dr m)) k (by omega)) i (by rw [List.length_take]; omega) hic) l3
        have HF := Lib.hid HZ.out.2.2.2.2
        clear l1 l2 l3 dr hn HZ hcap hLb HLL hiL hiL2 p1 p2 p3 p4 hn3
        generalize strN ((bs.take j).drop i) = S1 at *
        generalize strN ((bs.take k).drop j) = S2 at *
        generalize strN ((bs.take k).drop i) = S3 at *
        go_wp2_with fail
        go_quiet (fail)
        go_wp2
        go_ret
        exact ⟨rfl, below_draws HF.out _⟩
      · have cv4 := fun m => str_conv (from_mid (from_take (HZ.out.2.1.below (dr m)) k (by omega)) i (by rw [List.length_take]; omega) hic) l3
        have HF := Lib.hid HZ.out.2.2.2.2
        clear l1 l2 l3 dr hn HZ hcap hLb HLL hiL hiL2 p1 p2 p3 p4 hn3
        generalize strN ((bs.take j).drop i) = S1 at *
        generalize strN ((bs.take k).drop j) = S2 at *
        generalize strN ((bs.take k).drop i) = S3 at *
        go_wp2_with fail
        go_quiet (fail)
        go_wp2
        go_ret
        exact ⟨rfl, below_draws HF.out _⟩
end Go.Proofs.Yteaciponojocbaa
