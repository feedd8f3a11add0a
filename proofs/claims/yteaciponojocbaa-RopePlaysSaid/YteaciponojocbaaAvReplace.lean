/- The walk of the rope's Replace: what it gives has no bytes in block K. -/
import Derived.Test.YteaciponojocbaaAvCut
import Derived.Test.YteaciponojocbaaReplace
namespace Go.Proofs.Yteaciponojocbaa.Av
open Go.RowKit
variable {K : Nat}

set_option maxHeartbeats 1000000 in
theorem replace_av (B : Nat) (bs : List Nat) (i j : Nat) (a : Option Addr) (cap : Nat) (cs : List Nat) (w : World) (h : IsRope K w B bs) (hi : i ≤ bs.length) (hj : i + j ≤ bs.length) (hn : bs.length - j + cs.length ≤ 2048) (hc : IsBytes w a cap cs) (hKl : K < w.heap.size) :
    Calls Try.prog 11 #[.pointer (some ⟨B, 0, none⟩), .int .i64 (i : Int), .int .i64 (j : Int), .slice a cs.length cap] w (Made K w (swapped bs i j cs)) := by
  have hbs : bs.length ≤ 2048 := by obtain ⟨_, _, _, _, _, _, _, _, _, q, _⟩ := id h; exact q
  have h1 : ¬ (i : Int) < 0 := by omega
  have h2 : ¬ (j : Int) < 0 := by omega
  have h3 : ¬ (bs.length : Int) < (i : Int) := by omega
  obtain ⟨m, hm⟩ : ∃ m : Nat, (bs.length : Int) - (i : Int) = (m : Int) := ⟨bs.length - i, by omega⟩
  have hw : IntKind.i64.wrap ((bs.length : Int) - (i : Int)) = (m : Int) := by rw [hm]; exact IntWalk.i64_in _ (by omega)
  have h4 : ¬ (m : Int) < (j : Int) := by omega
  obtain ⟨r, hr⟩ : ∃ r : Nat, (bs.length : Int) - (j : Int) = (r : Int) := ⟨bs.length - j, by omega⟩
  have hw2 : IntKind.i64.wrap ((bs.length : Int) - (j : Int)) = (r : Int) := by rw [hr]; exact IntWalk.i64_in _ (by omega)
  have hw3 : IntKind.i64.wrap ((r : Int) + (cs.length : Int)) = (r : Int) + (cs.length : Int) := IntWalk.i64_in _ (by omega)
  have h5 : ¬ (2048 : Int) < (r : Int) + (cs.length : Int) := by omega
  have hlen := swapped_length bs i j cs hj
  have HKL := Lib.hid hKl
  clear hKl
  have HL := Lib.hid hlen
  obtain ⟨J, t, d, all, q, g1, g2, g3, g4, _, g6⟩ := id h
  have c0 := blk_cell g1 0
  have htr := g2
  have hsz : t.size = bs.length := by unfold Tr.size; rw [g3]
  have H := Lib.hid (And.intro h (And.intro g2 (And.intro g3 hc)))
  clear h g1 g2 g3 g6 hc htr hlen
  go_enter Try.func11, Try.ntmps11
  go_wp2_with (go_at_call 12; refine (len_any B bs _ H.out.1.rope).mono ?_; rintro e w' ⟨rfl, rfl⟩)
  refine (cut_any t J i _ H.out.2.1 (by omega) (by omega) (by omega) HKL.out).mono ?_
  rintro e w1 ⟨A, R, tl, tr, rfl, i1, i2, e1, e2, d1, d2, b1⟩
  have s1 : tl.size = i := by unfold Tr.size; rw [e1, H.out.2.2.1, List.length_take]; omega
  have s2 : tr.size = bs.length - i := by unfold Tr.size; rw [e2, H.out.2.2.1, List.length_drop]
  have H1 := Lib.hid (And.intro i1 (And.intro i2 (And.intro e1 (And.intro e2 (And.intro b1 (H.out.2.2.2.below b1))))))
  clear i1 i2 e1 e2 b1
  go_wp2_with fail
  refine (cut_any tr R j _ H1.out.2.1 (by omega) (by omega) (by omega) (Nat.lt_of_lt_of_le HKL.out H1.out.2.2.2.2.1.size)).mono ?_
  rintro e w2 ⟨A2, R2, tm, te, rfl, i1, i2, e1, e2, d3, d4, b1⟩
  have s3 : te.size = bs.length - i - j := by unfold Tr.size; rw [e2, List.length_drop]; show tr.size - j = _; omega
  have e2' : te.bytes = (bs.drop i).drop j := by rw [e2, H1.out.2.2.2.1, H.out.2.2.1]
  have hd2 := H1.out.2.2.2.2.1.trans (b1.mono H1.out.2.2.2.2.1.size)
  have H2 := Lib.hid (And.intro (H1.out.1.below b1) (And.intro i2 (And.intro e2' (And.intro hd2 (H1.out.2.2.2.2.2.below b1)))))
  clear i1 i2 e1 e2 b1 e2' hd2
  go_wp2_with fail
  refine (build_any a cap cs _ H2.out.2.2.2.2 (by omega) (Nat.lt_of_lt_of_le HKL.out H2.out.2.2.2.1.size)).mono ?_
  rintro e w3 ⟨C, tc, rfl, i1, e1, d5, d6, b1⟩
  have d5' : tc.deep ≤ 6 := d5 5 (by omega)
  have s4 : tc.size = cs.length := by unfold Tr.size; rw [e1]
  have hd3 := H2.out.2.2.2.1.trans (b1.mono H2.out.2.2.2.1.size)
  have H3 := Lib.hid (And.intro (H2.out.1.below b1) (And.intro (H2.out.2.1.below b1) (And.intro i1 (And.intro e1 hd3))))
  clear i1 e1 b1 d5 d6 hd3
  go_wp2_with fail
  refine (join_any A C tl tc _ H3.out.1 H3.out.2.2.1 (by omega) (by omega) (by omega) (by omega) (Nat.lt_of_lt_of_le HKL.out H3.out.2.2.2.2.size)).mono ?_
  rintro e w4 ⟨D, rfl, i1, b1⟩
  have hd4 := H3.out.2.2.2.2.trans (b1.mono H3.out.2.2.2.2.size)
  have z1 := joinT_size tl tc
  have z2 := joinT_deep tl tc
  have H4 := Lib.hid (And.intro i1 (And.intro (H3.out.2.1.below b1) hd4))
  clear i1 b1 hd4
  go_wp2_with fail
  refine (join_any D R2 (joinT tl tc) te _ H4.out.1 H4.out.2.1 (by omega) (by omega) (by omega) (by omega) (Nat.lt_of_lt_of_le HKL.out H4.out.2.2.size)).mono ?_
  rintro e w5 ⟨E, rfl, i1, b1⟩
  have hd5 := H4.out.2.2.trans (b1.mono H4.out.2.2.size)
  have z3 := joinT_size (joinT tl tc) te
  have z4 := joinT_deep (joinT tl tc) te
  have hbytes : (joinT (joinT tl tc) te).bytes = swapped bs i j cs := by rw [joinT_bytes, joinT_bytes, H3.out.2.2.2.1, H2.out.2.2.1, H1.out.2.2.1, H.out.2.2.1]; rfl
  have c4 := i1.deepCell.2
  generalize joinT (joinT tl tc) te = tj at *
  have H5 := Lib.hid (And.intro i1 (And.intro hbytes hd5))
  clear i1 b1 hbytes hd5 H4 H3 H2 H1 H
  by_cases hdp : tj.deep ≤ 20
  · have hdi : ¬ (20 : Int) < (tj.deep : Int) := by omega
    go_wp2_with fail
    go_ret2
    refine ⟨H5.out.2.2.trans ((below_new _ _).mono H5.out.2.2.size), w5.heap.size, rfl, H5.out.2.2.size, E, tj, 0, .slice none 0 0, 0, blk_alloc_at _ _ rfl, H5.out.1.below (below_new _ _), H5.out.2.1, hdp, by rw [HL.out]; exact hn, .inl ⟨rfl, rfl⟩⟩
  · have hdi : (20 : Int) < (tj.deep : Int) := by omega
    go_wp2_with fail
    refine (bytes_any tj E _ H5.out.1.tr (by omega)).mono ?_
    rintro e w6 ⟨u, rfl, own, b1⟩
    obtain ⟨a2, cap2, rfl, hbb⟩ := bytes_own own (fun b hb => H5.out.1.lt256 b hb)
    have hd6 := H5.out.2.2.trans (b1.mono H5.out.2.2.size)
    have H6 := Lib.hid (And.intro hbb hd6)
    clear own b1 hbb hd6
    go_wp2_with fail
    refine (build_any a2 cap2 tj.bytes _ H6.out.1 (by show tj.size ≤ _; omega) (Nat.lt_of_lt_of_le HKL.out H6.out.2.size)).mono ?_
    rintro e w7 ⟨F, tf, rfl, i1, e1, d5, d6, b1⟩
    have d5' : tf.deep ≤ 6 := d5 5 (by show tj.size ≤ _; omega)
    have hd7 := H6.out.2.trans (b1.mono H6.out.2.size)
    have H7 := Lib.hid (And.intro i1 (And.intro e1 hd7))
    clear i1 e1 b1 d5 d6 hd7
    go_wp2_with fail
    go_ret2
    refine ⟨H7.out.2.2.trans ((below_new _ _).mono H7.out.2.2.size), w7.heap.size, rfl, H7.out.2.2.size, F, tf, 0, .slice none 0 0, 0, blk_alloc_at _ _ rfl, H7.out.1.below (below_new _ _), H7.out.2.1.trans H5.out.2.1, by omega, by rw [HL.out]; exact hn, .inl ⟨rfl, rfl⟩⟩
end Go.Proofs.Yteaciponojocbaa.Av
