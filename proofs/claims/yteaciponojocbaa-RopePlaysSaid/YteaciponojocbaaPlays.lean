/- The walk of RopePlays. -/
import Derived.Test.YteaciponojocbaaPlaysA
namespace Go.Proofs.Yteaciponojocbaa
open Go.RowKit Tw
attribute [local go_sem ↓] Go.wp_at_zero Go.wp_at_succ

set_option maxRecDepth 100000 in
set_option maxHeartbeats 8000000 in
theorem plays_walk (a aE : Option Addr) (l : List Nat) (cap nE capE : Nat) (x0 x1 x2 : Int) (w : World) (h : ArgBytes w a cap l) (hE : ArgEdits w aE nE) (hnE : nE ≤ maxLen) :
    Calls Try.prog 7 #[.slice a l.length cap, .slice aE nE capE, .agg #[.int .i64 x0, .int .i64 x1, .int .i64 x2]] w fun e w' => e = .returned (.bool true) ∧ Below w.heap.size w w' := by
  obtain ⟨u, hu⟩ : ∃ u, u = w.alloc (.cells #[.int .i64 x0, .int .i64 x1, .int .i64 x2] 45) := ⟨_, rfl⟩
  have bu : Below w.heap.size w u := by rw [hu]; exact below_new _ _
  have us : w.heap.size < u.heap.size := by rw [hu]; simp
  have X0 : u.cell? ⟨w.heap.size, 0, none⟩ = some (.int .i64 x0) := by rw [hu]; simp
  have X1 : u.cell? ⟨w.heap.size, 1, none⟩ = some (.int .i64 x1) := by rw [hu]; simp
  have X2 : u.cell? ⟨w.heap.size, 2, none⟩ = some (.int .i64 x2) := by rw [hu]; simp
  have HU := Lib.hid (And.intro bu (And.intro (h.below bu) (hE.below bu)))
  have HX := Lib.hid (And.intro X0 (And.intro X1 X2))
  have hnE' : nE ≤ 9223372036854775807 := by unfold maxLen at hnE; omega
  clear h hE bu X0 X1 X2 hnE
  have HUU := Lib.hid hu
  clear hu
  go_enter Try.func7, Try.ntmps7
  go_wp2_with fail
  rw [← HUU.out]
  refine (shown_any _).mono ?_
  rintro e w1 ⟨rfl, d1⟩
  have D1 := Lib.hid d1
  clear d1
  go_wp2_with fail
  refine (few_n a cap l _ (HU.out.2.1.below D1.out)).mono ?_
  rintro e w2 ⟨a2, cap2, t, n, rfl, htn, hn3, htl, hb, b2⟩
  have H2 := Lib.hid (And.intro htn (And.intro htl (And.intro hb (D1.out.trans (b2.mono D1.out.size)))))
  clear htn htl hb b2 D1
  go_wp2_with fail
  refine (new_len a2 cap2 n t _ H2.out.2.2.1 H2.out.1 (by omega)).mono ?_
  rintro e w3 ⟨b1, F, rfl, hF, hr⟩
  have H3 := Lib.hid (And.intro hr (And.intro (Nat.le_trans H2.out.2.2.2.size hF) (H2.out.2.2.2.trans (b1.mono H2.out.2.2.2.size))))
  clear b1 hF hr
  go_wp2_with fail
  refine (few_n a cap l _ (HU.out.2.1.below H3.out.2.2)).mono ?_
  rintro e w4 ⟨a4, cap4, t4, n4, rfl, htn, hn4, htl, hb, b2⟩
  obtain rfl : t4 = t := htl.trans H2.out.2.1.symm
  obtain rfl : n4 = n := htn.symm.trans H2.out.1
  have H4 := Lib.hid (And.intro hb (And.intro (H3.out.1.below b2) (H3.out.2.2.trans (b2.mono H3.out.2.2.size))))
  clear htn htl hb b2
  go_wp2_with fail
  refine (ref_new a4 cap4 n4 t4 _ H4.out.1 H2.out.1 (by omega)).mono ?_
  rintro e w5 ⟨uy, rfl, hfr⟩
  obtain ⟨ho, hb5, _⟩ := hfr
  rw [← H2.out.1] at ho
  obtain ⟨ay, capy, rfl, hby⟩ := bytes_own ho (fun b hb => H4.out.1.lt b hb)
  rw [H2.out.1]
  have H5 := Lib.hid (PL.mk (u := u) ⟨H4.out.2.1.below hb5, H3.out.2.1⟩ ⟨H4.out.2.1.below hb5, H3.out.2.1⟩ hby H2.out.1 (H4.out.2.2.trans (hb5.mono H4.out.2.2.size)))
  clear ho hb5 hby
  go_wp2_with fail
  go_loopw [8, 10, 13] (fun r y i wr => AtHead u F t4 nE r y i wr) (fun _ _ i _ => 40 - (intOf i).toNat)
  case atStart => exact ⟨0, F, t4, ay, _, capy, rfl, Nat.zero_le _, by omega, rfl, rfl, H5.out⟩
  case round =>
    obtain ⟨wh, rfl⟩ : ∃ x : World, x = wr := ⟨_, rfl⟩
    obtain ⟨q, R, bs, ay, ny, capy, rfl, hq1, hq2, rfl, rfl, hPL⟩ := hrel
    have HP := Lib.hid hPL
    clear hPL H5 H4
    by_cases hlt : q < nE
    · by_cases hlt2 : q < 40
      · have hc1 : (q : Int) < (nE : Int) := by omega
        have hc2 : (q : Int) < 40 := by omega
        have hc3 : (0 : Int) ≤ (q : Int) := by omega
        obtain ⟨be, off, rfl, ex, ey, s, sl, sc, hed⟩ := HP.out.edits HU.out.2.2 q hlt
        have e2 := hed.2.2.1
        have HED := Lib.hid hed
        clear hed
        go_wp2_with fail
        refine (few_at s sc sl _ HED.out.2.2.2 (arg_lt HED.out.2.2.2)).mono ?_
        rintro e wr1 ⟨ac, c, nc, capc, K, rfl, hcl, hcn, hnc, hco, hcb, hb1, hK1, hK2, hK3⟩
        have P1 := Lib.hid (HP.out.step hb1)
        have ed1 := HED.out.below hb1
        have ed1d := ed1.below (Below.refl _ wr1).drew
        have HC := Lib.hid (And.intro hcn (And.intro hco (And.intro hcb (And.intro hb1 (And.intro hK1 (And.intro hK2 hK3))))))
        have HE1 := Lib.hid (And.intro ed1 ed1d)
        have HKD := Lib.hid (show K < wr1.drew.heap.size from hK2)
        have HR1 := Lib.hid (((Av.rope_old hK1 HP.out.r.1).below hb1).below (Below.refl _ wr1).drew)
        have HCL := Lib.hid hcl
        clear hcl hcn hco hcb hb1 hK1 hK2 hK3 ed1 ed1d e2
        by_cases hok : repNo ny ex ey nc = 0
        · obtain ⟨ri, rj, rfl, rfl, ri1, ri2, ri3⟩ := repNo_ok hok
          have HOK := Lib.hid (And.intro hok (And.intro ri1 (And.intro ri2 ri3)))
          clear hok ri1 ri2 ri3
          go_wp2_with fail
          go_region_held3 (fun w' => w'.cell? ⟨be, off + q * 3, none⟩ = some (.int .i64 (ri : Int)) ∧ w'.cell? ⟨be, off + q * 3 + 1, none⟩ = some (.int .i64 (rj : Int)))
            (first | exact ⟨HE1.out.2.1, HE1.out.2.2.1⟩ | exact ⟨HE1.out.1.1, HE1.out.1.2.1⟩ | exact ⟨HE2.out.1, HE2.out.2.1⟩ | assumption)
            (first | (go_at_call 11; (with_reducible refine (rep_av R bs ri rj ny nc ac capc c _ HR1.out (P1.out.n) (HOK.out.2.1) (HOK.out.2.2.1) (HC.out.1) (HOK.out.2.2.2) (HC.out.2.2.1.below (Below.refl _ _).drew) HKD.out).mono ?_); rintro e wr2 ⟨hb2, S, rfl, hS, hs2⟩; have HE2 := Lib.hid (HE1.out.2.below hb2)))
          have bb2 : Below wr1.heap.size wr1 wr2 := (Below.refl _ wr1).drew.trans hb2
          have H2 := Lib.hid (And.intro hs2 (And.intro hS bb2))
          clear hs2 hS bb2 hb2
          obtain ⟨ss, hss⟩ : ∃ ss, ss = swapped bs ri rj c := ⟨_, rfl⟩
          have H2b := Lib.hid (show Av.IsRope K wr2 S ss by rw [hss]; exact H2.out.1)
          have HSS := Lib.hid hss
          have P2 := Lib.hid (P1.out.step H2.out.2.2)
          have HE3 := Lib.hid (HE2.out.below (Below.refl _ wr2).drew)
          have HA3 := Lib.hid (show ArgBytes wr2.drew s sc sl from HE3.out.2.2.2)
          have HC2 := Lib.hid ((HC.out.2.2.1.below H2.out.2.2).below (Below.refl _ wr2).drew)
          clear hss
          go_wp2_with fail
          go_region_held3 (fun w' => w'.cell? ⟨be, off + q * 3, none⟩ = some (.int .i64 (ri : Int)) ∧ w'.cell? ⟨be, off + q * 3 + 1, none⟩ = some (.int .i64 (rj : Int)) ∧ w'.cell? ⟨be, off + q * 3 + 2, none⟩ = some (.slice s sl.length sc))
            (first | exact ⟨HE3.out.1, HE3.out.2.1, HE3.out.2.2.1⟩ | exact ⟨HE2.out.1, HE2.out.2.1, HE2.out.2.2.1⟩ | exact ⟨HE4.out.1, HE4.out.2.1, HE4.out.2.2.1⟩ | exact ⟨HE5.out.1, HE5.out.2.1, HE5.out.2.2.1⟩ | assumption)
            (first
              | (go_at_call 13; (with_reducible refine (few_n s sc sl _ HA3.out).mono ?_); rintro e wr3 ⟨a6, cap6, c6, nc6, rfl, hn6, hs6, hl6, hb6, hd6⟩; have HE4 := Lib.hid (HE3.out.below hd6); have hd7 : Below wr2.heap.size wr2 wr3 := (Below.refl _ wr2).drew.trans hd6; have H3c := Lib.hid (And.intro hn6 (And.intro hl6 (And.intro hb6 hd7))); clear hn6 hl6 hb6 hd6 hd7)
              | (go_at_call 18; have hlen : ny - rj + nc6 ≤ 2048 := (by rw [← H3c.out.1, H3c.out.2.1, ← HCL.out, HC.out.1]; exact HOK.out.2.2.2); (with_reducible refine (ref_rep_n ay a6 capy ny cap6 nc6 ri rj bs c6 _ (P2.out.step H3c.out.2.2.2).y H3c.out.2.2.1 P2.out.n H3c.out.1 HOK.out.2.1 HOK.out.2.2.1 hlen P2.out.small).mono ?_); rintro e wr4 ⟨az, nz, capz, rfl, hz1, hz2, hz3, hz4⟩; have HE5 := Lib.hid (HE4.out.below hz4)))
          have hc6 : c6 = c := H3c.out.2.1.trans HCL.out.symm
          rw [hc6, ← HSS.out] at hz1 hz2
          have bb3 : Below wr2.heap.size wr2 wr4 := H3c.out.2.2.2.trans (hz4.mono H3c.out.2.2.2.size)
          have bb1 : Below wr1.heap.size wr1 wr4 := H2.out.2.2.trans (bb3.mono H2.out.2.2.size)
          have bb0 : Below wh.heap.size wh wr4 := HC.out.2.2.2.1.trans (bb1.mono HC.out.2.2.2.1.size)
          have hW : WA wh ac nc capc K S ss az capz wr4 := ⟨bb0, ⟨_, own_below HC.out.2.1 bb1⟩, HC.out.2.2.2.2.2.2, H2b.out.below bb3, hz2, fun p e => by have := hz3 p e; have := H3c.out.2.2.2.size; have := H2.out.2.2.size; have := HC.out.2.2.2.2.2.1; omega⟩
          have HW := Lib.hid hW
          have HN := Lib.hid (And.intro hz1 (Nat.le_trans HP.out.d.size (Nat.le_trans HC.out.2.2.2.1.size H2.out.2.1)))
          clear hz1 hz2 hz3 hz4 hc6 bb0 bb1 bb3 hW HE5 HE4 H3c HA3 HC2 HE3 HE2 P2 H2b
          go_wp2_with fail
          go_loopw [19] (fun m wl => ∃ q2 : Nat, m = .int .i64 (q2 : Int) ∧ q2 ≤ nc ∧ WA wh ac nc capc K S ss az capz wl) (fun m _ => nc - (intOf m).toNat)
          case atStart => exact ⟨0, rfl, Nat.zero_le _, HW.out⟩
          case round =>
            obtain ⟨wl, rfl⟩ : ∃ x : World, x = wr := ⟨_, rfl⟩
            obtain ⟨q2, rfl, hq3, hWl⟩ := hrel
            by_cases hlt3 : q2 < nc
            · obtain ⟨g, rfl, ⟨v, hv⟩, hfz, hnext⟩ := hWl.cell hlt3
              have i1 : (q2 : Int) < (nc : Int) := by omega
              have i2 : (0 : Int) ≤ (q2 : Int) := by omega
              have HNX := Lib.hid hnext
              clear hWl hnext
              go_wp2
              go_roundw
              case rel => exact ⟨q2 + 1, by go_num, by omega, HNX.out⟩
              case measure => simp [intOf]; omega
            · have i1 : ¬ (q2 : Int) < (nc : Int) := by omega
              have P5 := Lib.hid ((HP.out.step hWl.d).turn hWl.s.rope HN.out.2 hWl.z.1 HN.out.1)
              have P5o := Lib.hid (HP.out.step hWl.d)
              clear hWl
              have P5d := Lib.hid (P5.out.step (Below.refl _ wl).drew)
              have P5od := Lib.hid (P5o.out.step (Below.refl _ wl).drew)
              have cz1 := str_conv P5o.out.y P5o.out.n
              have cz2 := str_conv P5od.out.y P5od.out.n
              go_wp2_with fail
              go_region_held3 (fun w' => (convert 28 9 (.slice ay ny capy)).run Try.prog w' = .ok (.string (strN bs)) w')
                (first | exact cz2 | exact cz1 | exact cz3 | assumption)
                (first | (go_at_call 14; (with_reducible refine (whole_any u.heap.size R bs _ P5od.out.r.1 P5od.out.r.2).mono ?_); rintro e wm ⟨rfl, kx⟩; have P6 := Lib.hid (P5d.out.kept kx); have P6o := Lib.hid (P5od.out.kept kx); have cz3 := str_conv P6o.out.y P6o.out.n; clear kx))
              clear cz1 cz2 cz3 P5 P5o P5d P5od P6o HW
              have c0 := (P6.out.d.cell (p := ⟨w.heap.size, 0, none⟩) us).trans HX.out.1
              have c1 := (P6.out.d.cell (p := ⟨w.heap.size, 1, none⟩) us).trans HX.out.2.1
              go_wp2_with fail
              refine (rope_slice_n u.heap.size S nz ss x0 x1 _ P6.out.r.1 P6.out.r.2 P6.out.n).mono ?_
              rintro e wn ⟨ap, np, capp, wg, rfl, hp1, hp2, hp3, hp4, hp5⟩
              have P7g := Lib.hid (P6.out.kept hp5)
              have P7 := Lib.hid (P7g.out.step hp4)
              have HPP := Lib.hid (And.intro hp1 (And.intro hp2 (And.intro hp3 hp4)))
              clear hp1 hp2 hp3 hp4 hp5 c0 c1 P6
              have c0 := (P7.out.d.cell (p := ⟨w.heap.size, 0, none⟩) us).trans HX.out.1
              have c1 := (P7.out.d.cell (p := ⟨w.heap.size, 1, none⟩) us).trans HX.out.2.1
              go_wp2_with fail
              refine (ref_slice_n az capz nz x0 x1 ss _ P7.out.y P7.out.n (Nat.le_trans P7.out.small (by decide))).mono ?_
              rintro e wo ⟨aq, nq, capq, rfl, hq4, hq5, hq6⟩
              have P8 := Lib.hid (P7.out.step hq6)
              have HQQ := Lib.hid (And.intro hq4 (And.intro hq5 hq6))
              clear hq4 hq5 hq6 c0 c1
              have c2 := (P8.out.d.cell (p := ⟨w.heap.size, 2, none⟩) us).trans HX.out.2.2
              go_wp2_with fail
              refine (rope_at_n S nz x2 ss _ P8.out.r.1 P8.out.n).mono ?_
              rintro e wq ⟨rfl, hr6⟩
              have P9 := Lib.hid (P8.out.step hr6)
              have HRR := Lib.hid hr6
              clear hr6 c2
              have c2 := (P9.out.d.cell (p := ⟨w.heap.size, 2, none⟩) us).trans HX.out.2.2
              go_wp2_with fail
              refine (ref_at az capz nz x2 ss _ P9.out.y P9.out.n).mono ?_
              rintro e wq2 ⟨rfl, hw2⟩
              have hw2' := hw2.symm
              clear hw2 c2
              subst hw2'
              have cvp := str_conv ((HPP.out.2.2.1.below HQQ.out.2.2).below HRR.out) HPP.out.1
              have cvq := str_conv (HQQ.out.2.1.below HRR.out) HQQ.out.1
              generalize atOf ss x2 = vat at *
              generalize atOk nz x2 = kat at *
              generalize sliceNo nz x0 x1 = csl at *
              go_wp2_with fail
              have HWN := Lib.hid (show WN wg ap np capp wq from ⟨HPP.out.2.2.2.trans ((HQQ.out.2.2.trans (HRR.out.mono HQQ.out.2.2.size)).mono HPP.out.2.2.2.size), _, own_below (own_below HPP.out.2.1 HQQ.out.2.2) HRR.out⟩)
              clear cvp cvq
              go_loopw [29] (fun m wl => ∃ q3 : Nat, m = .int .i64 (q3 : Int) ∧ q3 ≤ np ∧ WN wg ap np capp wl) (fun m _ => np - (intOf m).toNat)
              case atStart => exact ⟨0, rfl, Nat.zero_le _, HWN.out⟩
              case round =>
                obtain ⟨wk, rfl⟩ : ∃ x : World, x = wr := ⟨_, rfl⟩
                obtain ⟨q3, rfl, hq7, hWk⟩ := hrel
                have hnp : np ≤ 2048 := by rw [← HPP.out.1]; exact Nat.le_trans (sliceOf_le ss x0 x1) (rope_small P9.out.r.1)
                by_cases hlt4 : q3 < np
                · obtain ⟨g2, rfl, ⟨v2, hv2⟩, hfz2, hnext2⟩ := hWk.cell hlt4
                  have j1 : (q3 : Int) < (np : Int) := by omega
                  have j2 : (0 : Int) ≤ (q3 : Int) := by omega
                  have HNX2 := Lib.hid hnext2
                  clear hWk hnext2
                  go_wp2
                  go_roundw
                  case rel => exact ⟨q3 + 1, by go_num, by omega, HNX2.out _⟩
                  case measure => simp [intOf]; omega
                · have j1 : ¬ (q3 : Int) < (np : Int) := by omega
                  have PA := Lib.hid (P7g.out.step hWk.d)
                  have PB := Lib.hid (PA.out.step (Below.refl _ wk).drew)
                  clear hWk hnp
                  have cy1 := str_conv PA.out.y PA.out.n
                  have cy2 := str_conv PB.out.y PB.out.n
                  clear P7g P7 P8 P9 HPP HQQ HRR HWN
                  go_wp2_with fail
                  go_region_held3 (fun w' => (convert 28 9 (.slice az nz capz)).run Try.prog w' = .ok (.string (strN ss)) w')
                    (first | exact cy2 | exact cy1 | exact cy3 | assumption)
                    (first
                      | (go_at_call 14; (with_reducible refine (whole_any u.heap.size S ss _ PB.out.r.1 PB.out.r.2).mono ?_); rintro e wz ⟨rfl, kx⟩; have PC := Lib.hid (PB.out.kept kx); have cy3 := str_conv PC.out.y PC.out.n; clear kx)
                      | (go_at_call 12; (with_reducible refine (len_same S ss nz _ PC.out.r.1 PC.out.n).mono ?_); rintro e w' ⟨rfl, rfl⟩)
                      | (go_at_call 21; (with_reducible refine (deep_same S ss _ PC.out.r.1).mono ?_); rintro e w' ⟨dd, rfl, dd1, dd2, dd3, dd4, rfl⟩))
                  go_wp2_with fail
                  go_roundw
                  case rel => exact ⟨q + 1, S, ss, az, nz, capz, by go_num, by omega, by omega, rfl, rfl, PC.out⟩
                  case measure => simp [intOf]; omega
        · obtain ⟨code, hcode⟩ : ∃ code, repNo ny ex ey nc = code := ⟨_, rfl⟩
          rw [hcode] at hok
          have hk1 : decide (code = 0) = false := by simpa using hok
          have hk2 : (code == 0) = false := by simpa using hok
          have HOK := Lib.hid hcode
          have HE2 := Lib.hid (HE1.out.2.below (Below.refl _ wr1.drew).drew)
          have HA3 := Lib.hid (show ArgBytes wr1.drew.drew s sc sl from HE2.out.2.2.2)
          have P1d := Lib.hid (P1.out.step (Below.refl _ wr1).drew)
          have hnc2 : nc ≤ 65536 := by omega
          clear hcode HR1
          go_wp2_with fail
          go_region_held3 (fun w' => w'.cell? ⟨be, off + q * 3, none⟩ = some (.int .i64 ex) ∧ w'.cell? ⟨be, off + q * 3 + 1, none⟩ = some (.int .i64 ey))
            (first | exact ⟨HE1.out.2.1, HE1.out.2.2.1⟩ | exact ⟨HE1.out.1.1, HE1.out.1.2.1⟩ | assumption)
            (first | (go_at_call 11; (with_reducible refine (rope_no_same R ny bs ex ey code ac nc capc _ P1d.out.r.1 P1d.out.n hnc2 HOK.out hok).mono ?_); rintro e wx ⟨rfl, rfl⟩))
          go_wp2_with fail
          go_region_held3 (fun w' => w'.cell? ⟨be, off + q * 3, none⟩ = some (.int .i64 ex) ∧ w'.cell? ⟨be, off + q * 3 + 1, none⟩ = some (.int .i64 ey) ∧ w'.cell? ⟨be, off + q * 3 + 2, none⟩ = some (.slice s sl.length sc))
            (first | exact ⟨HE2.out.1, HE2.out.2.1, HE2.out.2.2.1⟩ | exact ⟨HE1.out.2.1, HE1.out.2.2.1, HE1.out.2.2.2.1⟩ | exact ⟨HE4.out.1, HE4.out.2.1, HE4.out.2.2.1⟩ | assumption)
            (first
              | (go_at_call 13; (with_reducible refine (few_n s sc sl _ HA3.out).mono ?_); rintro e wr3 ⟨a6, cap6, c6, nc6, rfl, hn6, hs6, hl6, hb6, hd6⟩; have HE4 := Lib.hid (HE2.out.below hd6); have hd7 : Below wr1.heap.size wr1 wr3 := ((Below.refl _ wr1).drew.drew).trans hd6; have hnc6 : nc6 = nc := (by rw [← hn6, hl6, ← HCL.out, HC.out.1]); have H3c := Lib.hid (And.intro hnc6 hd7); have hnc7 : nc6 ≤ 65536 := (by omega); have HOK2 := Lib.hid (show repNo ny ex ey nc6 = code by rw [hnc6]; exact HOK.out); clear hn6 hl6 hb6 hd6 hd7 hnc6)
              | (go_at_call 18; (with_reducible refine (ref_no_same ny ex ey code ay a6 capy nc6 cap6 _ (Nat.le_trans P1.out.small (by decide)) hnc7 HOK2.out hok).mono ?_); rintro e wr4 ⟨rfl, rfl⟩))
          have hW : WN wh ac nc capc wr3 := ⟨HC.out.2.2.2.1.trans (H3c.out.2.mono HC.out.2.2.2.1.size), ⟨_, own_below HC.out.2.1 H3c.out.2⟩⟩
          have HW := Lib.hid hW
          clear hW HE4 HA3 HE2
          go_wp2_with fail
          go_loopw [19] (fun m wl => ∃ q2 : Nat, m = .int .i64 (q2 : Int) ∧ q2 ≤ nc ∧ WN wh ac nc capc wl) (fun m _ => nc - (intOf m).toNat)
          case atStart => exact ⟨0, rfl, Nat.zero_le _, HW.out⟩
          case round =>
            obtain ⟨wl, rfl⟩ : ∃ x : World, x = wr := ⟨_, rfl⟩
            obtain ⟨q2, rfl, hq3, hWl⟩ := hrel
            by_cases hlt3 : q2 < nc
            · obtain ⟨g, rfl, ⟨v, hv⟩, hfz, hnext⟩ := hWl.cell hlt3
              have i1 : (q2 : Int) < (nc : Int) := by omega
              have i2 : (0 : Int) ≤ (q2 : Int) := by omega
              have HNX := Lib.hid hnext
              clear hWl hnext
              go_wp2
              go_roundw
              case rel => exact ⟨q2 + 1, by go_num, by omega, HNX.out _⟩
              case measure => simp [intOf]; omega
            · have i1 : ¬ (q2 : Int) < (nc : Int) := by omega
              have P5 := Lib.hid (HP.out.step hWl.d)
              clear hWl
              have P5d := Lib.hid (P5.out.step (Below.refl _ wl).drew)
              have cz1 := str_conv P5.out.y P5.out.n
              have cz2 := str_conv P5d.out.y P5d.out.n
              go_wp2_with fail
              go_region_held3 (fun w' => (convert 28 9 (.slice ay ny capy)).run Try.prog w' = .ok (.string (strN bs)) w')
                (first | exact cz2 | exact cz1 | exact cz3 | assumption)
                (first | (go_at_call 14; (with_reducible refine (whole_any u.heap.size R bs _ P5d.out.r.1 P5d.out.r.2).mono ?_); rintro e wm ⟨rfl, kx⟩; have P6 := Lib.hid (P5d.out.kept kx); have cz3 := str_conv P6.out.y P6.out.n; clear kx))
              clear cz1 cz2 cz3 P5 P5d HW
              have c0 := (P6.out.d.cell (p := ⟨w.heap.size, 0, none⟩) us).trans HX.out.1
              have c1 := (P6.out.d.cell (p := ⟨w.heap.size, 1, none⟩) us).trans HX.out.2.1
              go_wp2_with fail
              refine (rope_slice_n u.heap.size R ny bs x0 x1 _ P6.out.r.1 P6.out.r.2 P6.out.n).mono ?_
              rintro e wn ⟨ap, np, capp, wg, rfl, hp1, hp2, hp3, hp4, hp5⟩
              have P7g := Lib.hid (P6.out.kept hp5)
              have P7 := Lib.hid (P7g.out.step hp4)
              have HPP := Lib.hid (And.intro hp1 (And.intro hp2 (And.intro hp3 hp4)))
              clear hp1 hp2 hp3 hp4 hp5 c0 c1 P6
              have c0 := (P7.out.d.cell (p := ⟨w.heap.size, 0, none⟩) us).trans HX.out.1
              have c1 := (P7.out.d.cell (p := ⟨w.heap.size, 1, none⟩) us).trans HX.out.2.1
              go_wp2_with fail
              refine (ref_slice_n ay capy ny x0 x1 bs _ P7.out.y P7.out.n (Nat.le_trans P7.out.small (by decide))).mono ?_
              rintro e wo ⟨aq, nq, capq, rfl, hq4, hq5, hq6⟩
              have P8 := Lib.hid (P7.out.step hq6)
              have HQQ := Lib.hid (And.intro hq4 (And.intro hq5 hq6))
              clear hq4 hq5 hq6 c0 c1
              have c2 := (P8.out.d.cell (p := ⟨w.heap.size, 2, none⟩) us).trans HX.out.2.2
              go_wp2_with fail
              refine (rope_at_n R ny x2 bs _ P8.out.r.1 P8.out.n).mono ?_
              rintro e wq ⟨rfl, hr6⟩
              have P9 := Lib.hid (P8.out.step hr6)
              have HRR := Lib.hid hr6
              clear hr6 c2
              have c2 := (P9.out.d.cell (p := ⟨w.heap.size, 2, none⟩) us).trans HX.out.2.2
              go_wp2_with fail
              refine (ref_at ay capy ny x2 bs _ P9.out.y P9.out.n).mono ?_
              rintro e wq2 ⟨rfl, hw2⟩
              have hw2' := hw2.symm
              clear hw2 c2
              subst hw2'
              have cvp := str_conv ((HPP.out.2.2.1.below HQQ.out.2.2).below HRR.out) HPP.out.1
              have cvq := str_conv (HQQ.out.2.1.below HRR.out) HQQ.out.1
              generalize atOf bs x2 = vat at *
              generalize atOk ny x2 = kat at *
              generalize sliceNo ny x0 x1 = csl at *
              go_wp2_with fail
              have HWN := Lib.hid (show WN wg ap np capp wq from ⟨HPP.out.2.2.2.trans ((HQQ.out.2.2.trans (HRR.out.mono HQQ.out.2.2.size)).mono HPP.out.2.2.2.size), _, own_below (own_below HPP.out.2.1 HQQ.out.2.2) HRR.out⟩)
              clear cvp cvq
              go_loopw [29] (fun m wl => ∃ q3 : Nat, m = .int .i64 (q3 : Int) ∧ q3 ≤ np ∧ WN wg ap np capp wl) (fun m _ => np - (intOf m).toNat)
              case atStart => exact ⟨0, rfl, Nat.zero_le _, HWN.out⟩
              case round =>
                obtain ⟨wk, rfl⟩ : ∃ x : World, x = wr := ⟨_, rfl⟩
                obtain ⟨q3, rfl, hq7, hWk⟩ := hrel
                have hnp : np ≤ 2048 := by rw [← HPP.out.1]; exact Nat.le_trans (sliceOf_le bs x0 x1) (rope_small P9.out.r.1)
                by_cases hlt4 : q3 < np
                · obtain ⟨g2, rfl, ⟨v2, hv2⟩, hfz2, hnext2⟩ := hWk.cell hlt4
                  have j1 : (q3 : Int) < (np : Int) := by omega
                  have j2 : (0 : Int) ≤ (q3 : Int) := by omega
                  have HNX2 := Lib.hid hnext2
                  clear hWk hnext2
                  go_wp2
                  go_roundw
                  case rel => exact ⟨q3 + 1, by go_num, by omega, HNX2.out _⟩
                  case measure => simp [intOf]; omega
                · have j1 : ¬ (q3 : Int) < (np : Int) := by omega
                  have PA := Lib.hid (P7g.out.step hWk.d)
                  have PB := Lib.hid (PA.out.step (Below.refl _ wk).drew)
                  clear hWk hnp
                  have cy1 := str_conv PA.out.y PA.out.n
                  have cy2 := str_conv PB.out.y PB.out.n
                  clear P7g P7 P8 P9 HPP HQQ HRR HWN
                  go_wp2_with fail
                  go_region_held3 (fun w' => (convert 28 9 (.slice ay ny capy)).run Try.prog w' = .ok (.string (strN bs)) w')
                    (first | exact cy2 | exact cy1 | exact cy3 | assumption)
                    (first
                      | (go_at_call 14; (with_reducible refine (whole_any u.heap.size R bs _ PB.out.r.1 PB.out.r.2).mono ?_); rintro e wz ⟨rfl, kx⟩; have PC := Lib.hid (PB.out.kept kx); have cy3 := str_conv PC.out.y PC.out.n; clear kx)
                      | (go_at_call 12; (with_reducible refine (len_same R bs ny _ PC.out.r.1 PC.out.n).mono ?_); rintro e w' ⟨rfl, rfl⟩)
                      | (go_at_call 21; (with_reducible refine (deep_same R bs _ PC.out.r.1).mono ?_); rintro e w' ⟨dd, rfl, dd1, dd2, dd3, dd4, rfl⟩))
                  go_wp2_with fail
                  go_roundw
                  case rel => exact ⟨q + 1, R, bs, ay, ny, capy, by go_num, by omega, by omega, rfl, rfl, PC.out⟩
                  case measure => simp [intOf]; omega
      · have hc1 : (q : Int) < (nE : Int) := by omega
        have hc2 : ¬ (q : Int) < 40 := by omega
        have HPF := Lib.hid HP.out.f
        go_wp2_with fail
        refine (whole_any u.heap.size F t4 _ HPF.out.1 HPF.out.2).mono ?_
        rintro e wx ⟨rfl, kx⟩
        have PX := Lib.hid (HP.out.d.trans kx.below)
        clear kx
        go_wp2_with fail
        refine (few_n a cap l _ (HU.out.2.1.below PX.out)).mono ?_
        rintro e wy ⟨a6, cap6, t6, n6, rfl, h6n, _, h6t, h6b, h6d⟩
        obtain rfl : t6 = t4 := h6t.trans H2.out.2.1.symm
        have cv := str_conv h6b h6n
        have HF := Lib.hid (HU.out.1.trans ((PX.out.trans (h6d.mono PX.out.size)).mono (Nat.le_of_lt us)))
        clear h6b h6n h6t h6d
        go_wp2_with fail
        go_ret
        exact ⟨rfl, HF.out⟩
    · have hc1 : ¬ (q : Int) < (nE : Int) := by omega
      have HPF := Lib.hid HP.out.f
      go_wp2_with fail
      refine (whole_any u.heap.size F t4 _ HPF.out.1 HPF.out.2).mono ?_
      rintro e wx ⟨rfl, kx⟩
      have PX := Lib.hid (HP.out.d.trans kx.below)
      clear kx
      go_wp2_with fail
      refine (few_n a cap l _ (HU.out.2.1.below PX.out)).mono ?_
      rintro e wy ⟨a6, cap6, t6, n6, rfl, h6n, _, h6t, h6b, h6d⟩
      obtain rfl : t6 = t4 := h6t.trans H2.out.2.1.symm
      have cv := str_conv h6b h6n
      have HF := Lib.hid (HU.out.1.trans ((PX.out.trans (h6d.mono PX.out.size)).mono (Nat.le_of_lt us)))
      clear h6b h6n h6t h6d
      go_wp2_with fail
      go_ret
      exact ⟨rfl, HF.out⟩
end Go.Proofs.Yteaciponojocbaa
