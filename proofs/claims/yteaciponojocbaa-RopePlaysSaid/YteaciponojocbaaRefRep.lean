/- The document's Replace, in new memory. -/
import Derived.Test.YteaciponojocbaaRefs
namespace Go.Proofs.Yteaciponojocbaa
open Go.RowKit

attribute [local go_sem ↓] Go.wp_at_zero Go.wp_at_succ

set_option maxHeartbeats 1000000 in
theorem ref_rep_bad (a b : Option Addr) (cap n cap2 m : Nat) (i j : Int) (w : World) (hn : n ≤ 65536) (hij : i < 0 ∨ j < 0 ∨ (n : Int) < i ∨ (n : Int) - i < j) :
    Calls Try.prog 18 #[.slice a n cap, .int .i64 i, .int .i64 j, .slice b m cap2] w fun e w' => e = .returned (.tuple #[.slice none 0 0, .int .i64 3]) ∧ w' = w := by
  by_cases h1 : i < 0
  · go_enter Try.func18, Try.ntmps18
    go_wp2
    go_ret2
    exact ⟨rfl, rfl⟩
  · by_cases h2 : j < 0
    · go_enter Try.func18, Try.ntmps18
      go_wp2
      go_ret2
      exact ⟨rfl, rfl⟩
    · by_cases h3 : (n : Int) < i
      · go_enter Try.func18, Try.ntmps18
        go_wp2
        go_ret2
        exact ⟨rfl, rfl⟩
      · have h4 : (n : Int) - i < j := by omega
        have hw : IntKind.i64.wrap ((n : Int) - i) = (n : Int) - i := IntWalk.i64_in _ (by omega)
        go_enter Try.func18, Try.ntmps18
        go_wp2
        go_ret2
        exact ⟨rfl, rfl⟩
set_option maxHeartbeats 1000000 in
theorem ref_rep_big (a b : Option Addr) (cap n cap2 m i j : Nat) (w : World) (hn : n ≤ 65536) (hi : i ≤ n) (hj : i + j ≤ n) (hm : m ≤ 65536) (hbig : 2048 < n - j + m) :
    Calls Try.prog 18 #[.slice a n cap, .int .i64 (i : Int), .int .i64 (j : Int), .slice b m cap2] w fun e w' => e = .returned (.tuple #[.slice none 0 0, .int .i64 4]) ∧ w' = w := by
  have h1 : ¬ (i : Int) < 0 := by omega
  have h2 : ¬ (j : Int) < 0 := by omega
  have h3 : ¬ (n : Int) < (i : Int) := by omega
  obtain ⟨q, hq⟩ : ∃ q : Nat, (n : Int) - (i : Int) = (q : Int) := ⟨n - i, by omega⟩
  have hw : IntKind.i64.wrap ((n : Int) - (i : Int)) = (q : Int) := by rw [hq]; exact IntWalk.i64_in _ (by omega)
  have h4 : ¬ (q : Int) < (j : Int) := by omega
  obtain ⟨r, hr⟩ : ∃ r : Nat, (n : Int) - (j : Int) = (r : Int) := ⟨n - j, by omega⟩
  have hw2 : IntKind.i64.wrap ((n : Int) - (j : Int)) = (r : Int) := by rw [hr]; exact IntWalk.i64_in _ (by omega)
  have hw3 : IntKind.i64.wrap ((r : Int) + (m : Int)) = (r : Int) + (m : Int) := IntWalk.i64_in _ (by omega)
  have h5 : (2048 : Int) < (r : Int) + (m : Int) := by omega
  clear hq hr
  go_enter Try.func18, Try.ntmps18
  go_wp2
  go_ret2
  exact ⟨rfl, rfl⟩

theorem below_own {w w1 w2 : World} {v : Value} {n : Nat} {xs : List Value} (h : Below w.heap.size w w1) (ho : w1.ownsRow w.heap.size 5 1 v n xs) (hg : w1.grownBy w2 v.ownBlock) : Below w.heap.size w w2 :=
  Below.grown h hg h.size (own_base ho)
theorem rep_bytes (bs cs : List Nat) (i j k : Nat) (h : i + j = k) : ([] ++ bs.take i ++ cs) ++ bs.drop k = swapped bs i j cs := by
  unfold swapped
  rw [List.nil_append, List.drop_drop, h]

set_option maxRecDepth 100000 in
set_option maxHeartbeats 4000000 in
theorem ref_rep_ok (a b : Option Addr) (cap n cap2 m i j : Nat) (bs cs : List Nat) (w : World) (ha : IsBytes w a cap bs) (hb : IsBytes w b cap2 cs) (hbn : bs.length = n) (hcm : cs.length = m) (hi : i ≤ n) (hj : i + j ≤ n) (hs : n - j + m ≤ 2048) (hn : n ≤ 2048) :
    Calls Try.prog 18 #[.slice a n cap, .int .i64 (i : Int), .int .i64 (j : Int), .slice b m cap2] w fun e w' => ∃ u q, e = .returned (.tuple #[u, .int .i64 0]) ∧ (swapped bs i j cs).length = q ∧ w'.ownsRow w.heap.size 5 1 u q (u8s (swapped bs i j cs)) ∧ Below w.heap.size w w' := by
  have h1 : ¬ (i : Int) < 0 := by omega
  have h2 : ¬ (j : Int) < 0 := by omega
  have h3 : ¬ (n : Int) < (i : Int) := by omega
  obtain ⟨q, hq⟩ : ∃ q : Nat, (n : Int) - (i : Int) = (q : Int) := ⟨n - i, by omega⟩
  have hw : IntKind.i64.wrap ((n : Int) - (i : Int)) = (q : Int) := by rw [hq]; exact IntWalk.i64_in _ (by omega)
  have h4 : ¬ (q : Int) < (j : Int) := by omega
  obtain ⟨r, hr⟩ : ∃ r : Nat, (n : Int) - (j : Int) = (r : Int) := ⟨n - j, by omega⟩
  have hw2 : IntKind.i64.wrap ((n : Int) - (j : Int)) = (r : Int) := by rw [hr]; exact IntWalk.i64_in _ (by omega)
  have hw3 : IntKind.i64.wrap ((r : Int) + (m : Int)) = (r : Int) + (m : Int) := IntWalk.i64_in _ (by omega)
  have h5 : ¬ (2048 : Int) < (r : Int) + (m : Int) := by omega
  obtain ⟨k, hk⟩ : ∃ k : Nat, i + j = k := ⟨_, rfl⟩
  have hw4 : IntKind.i64.wrap ((i : Int) + (j : Int)) = (k : Int) := by rw [show (i : Int) + (j : Int) = (k : Int) by omega]; exact IntWalk.i64_in _ (by omega)
  have hcap := ha.le
  have h6 : (0 : Int) ≤ (i : Int) := by omega
  have h7 : (i : Int) ≤ (cap : Int) := by omega
  have h8 : (0 : Int) ≤ (k : Int) := by omega
  have h9 : (k : Int) ≤ (n : Int) := by omega
  have h10 : (n : Int) ≤ (cap : Int) := by omega
  obtain ⟨z, hz⟩ : ∃ z : Nat, n - k = z := ⟨_, rfl⟩
  have b0 : Below w.heap.size w (w.alloc (.cells #[] 5)).drew := (below_new w _).drew
  have HO := Lib.hid ((own_empty w w.heap.size (Nat.le_refl _)).drew)
  have t1 := from_take ha i (by omega)
  have H1 := Lib.hid (And.intro (t1.below b0) (And.intro (show (bs.take i).length = i by rw [List.length_take]; omega) (And.intro b0.size (show 0 + i ≤ 140737488355328 by omega))))
  have HB := Lib.hid (And.intro hb hcm)
  have HS := Lib.hid (And.intro (show 0 + i + m ≤ 140737488355328 by omega) (show 0 + i + m + z ≤ 140737488355328 by omega))
  have HE := Lib.hid (rep_bytes bs cs i j k hk)
  have HQ := Lib.hid (show (swapped bs i j cs).length = 0 + i + m + z by rw [swapped_length _ _ _ _ (by omega)]; omega)
  have HZ := Lib.hid (show (bs.drop k).length = z by rw [List.length_drop]; omega)
  have B0 := Lib.hid b0
  clear hq hr hcm hs
  by_cases hic : cap = k
  · subst hic
    have H3 := Lib.hid (from_end ha cap (by omega) rfl)
    clear ha hb hbn t1 b0 hk
    go_enter Try.func18, Try.ntmps18
    go_wp2_with fail
    go_region_held3 (fun _ => True) (trivial)
      (first
        | (refine step_app (by rfl) (.tmp 38) (.tmp 41) (by rfl) (by rfl) HO.out (by rfl) H1.out.1 H1.out.2.1 H1.out.2.2.1 H1.out.2.2.2 ?_; intro v1 w2 own1 gr1; have B1 := Lib.hid (below_own B0.out HO.out gr1); have O1 := Lib.hid own1; clear own1 gr1)
        | (refine step_app (by rfl) (.tmp 42) (.tmp 43) (by rfl) (by rfl) O1.out (by rfl) (HB.out.1.below B1.out) HB.out.2 B1.out.size HS.out.1 ?_; intro v2 w3 own2 gr2; have B2 := Lib.hid (below_own B1.out O1.out gr2); have O2 := Lib.hid own2; clear own2 gr2)
        | (refine step_app (by rfl) (.tmp 44) (.tmp 49) (by rfl) (by rfl) O2.out (by rfl) (H3.out.below B2.out) HZ.out B2.out.size HS.out.2 ?_; intro v3 w4 own3 gr3; have B3 := Lib.hid (below_own B2.out O2.out gr3); have O3 := Lib.hid own3; clear own3 gr3))
    go_wp2
    go_ret2
    exact ⟨v3, _, rfl, HQ.out, by rw [← HE.out]; exact O3.out, B3.out⟩
  · obtain ⟨bk, off, rfl⟩ : ∃ bk off, a = some ⟨bk, off, none⟩ := by
      cases a with
      | none => have := ha.nil rfl; omega
      | some p => exact ⟨p.block, p.off, by have := (ha.at_ p rfl).1; obtain ⟨x, y, z⟩ := p; have e : z = none := this; subst e; rfl⟩
    have H3 := Lib.hid (ha.drop k (by omega))
    clear ha hb hbn t1 b0 hk
    go_enter Try.func18, Try.ntmps18
    go_wp2_with fail
    go_region_held3 (fun _ => True) (trivial)
      (first
        | (refine step_app (by rfl) (.tmp 38) (.tmp 41) (by rfl) (by rfl) HO.out (by rfl) H1.out.1 H1.out.2.1 H1.out.2.2.1 H1.out.2.2.2 ?_; intro v1 w2 own1 gr1; have B1 := Lib.hid (below_own B0.out HO.out gr1); have O1 := Lib.hid own1; clear own1 gr1)
        | (refine step_app (by rfl) (.tmp 42) (.tmp 43) (by rfl) (by rfl) O1.out (by rfl) (HB.out.1.below B1.out) HB.out.2 B1.out.size HS.out.1 ?_; intro v2 w3 own2 gr2; have B2 := Lib.hid (below_own B1.out O1.out gr2); have O2 := Lib.hid own2; clear own2 gr2)
        | (refine step_app (by rfl) (.tmp 44) (.tmp 49) (by rfl) (by rfl) O2.out (by rfl) (H3.out.below B2.out) HZ.out B2.out.size HS.out.2 ?_; intro v3 w4 own3 gr3; have B3 := Lib.hid (below_own B2.out O2.out gr3); have O3 := Lib.hid own3; clear own3 gr3))
    go_wp2
    go_ret2
    exact ⟨v3, _, rfl, HQ.out, by rw [← HE.out]; exact O3.out, B3.out⟩
end Go.Proofs.Yteaciponojocbaa
