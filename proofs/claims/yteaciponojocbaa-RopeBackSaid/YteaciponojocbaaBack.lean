/- The walk of RopeBack. -/
import Derived.Test.YteaciponojocbaaState
namespace Go.Proofs.Yteaciponojocbaa
open Go.RowKit Tw

set_option maxRecDepth 100000 in
set_option maxHeartbeats 4000000 in
theorem back_walk (a1 a2 aB : Option Addr) (l1 l2 lB : List Nat) (cap1 cap2 capB : Nat) (xA xD : Int) (w : World) (h1 : ArgBytes w a1 cap1 l1) (h2 : ArgBytes w a2 cap2 l2) (hB : ArgBytes w aB capB lB) :
    Calls Try.prog 4 #[.slice a1 l1.length cap1, .agg #[.int .i64 xA, .int .i64 xD, .slice aB lB.length capB], .slice a2 l2.length cap2] w fun e w' => e = .returned (.bool true) ∧ Below w.heap.size w w' := by
  have G0 : St w [] [] [(a1, cap1, l1), (a2, cap2, l2), (aB, capB, lB)] w := ⟨fun p hp => by simp at hp, fun p hp => by simp at hp, fun p hp => by simp at hp; rcases hp with rfl | rfl | rfl <;> assumption, Below.refl _ _⟩
  have K0 := Lib.hid G0
  clear h1 h2 hB G0
  go_enter Try.func4, Try.ntmps4
  go_wp2_with (go_at_call 9; refine (shown_any _).mono ?_; rintro e w1 ⟨rfl, b1⟩)
  have x0 : w1.cell? ⟨w.heap.size, 0, none⟩ = some (.int .i64 xA) := by rw [b1.cell (p := ⟨w.heap.size, 0, none⟩) (by simp)]; simp
  have x1 : w1.cell? ⟨w.heap.size, 1, none⟩ = some (.int .i64 xD) := by rw [b1.cell (p := ⟨w.heap.size, 1, none⟩) (by simp)]; simp
  have x2 : w1.cell? ⟨w.heap.size, 2, none⟩ = some (.slice aB lB.length capB) := by rw [b1.cell (p := ⟨w.heap.size, 2, none⟩) (by simp)]; simp
  have K1 := Lib.hid (K0.out.step ((below_new w _).trans (b1.mono (by simp))))
  clear b1 K0
  refine (few_n a1 cap1 l1 _ (K1.out.arg (a1, cap1, l1) (by simp))).mono ?_
  rintro e w2 ⟨a3, cap3, t, n, rfl, htn, hn3, _, hb, b2⟩
  have y0 := (b2.cell (p := ⟨w.heap.size, 0, none⟩) (block_lt_of_cell x0)).trans x0
  have y1 := (b2.cell (p := ⟨w.heap.size, 1, none⟩) (block_lt_of_cell x1)).trans x1
  have y2 := (b2.cell (p := ⟨w.heap.size, 2, none⟩) (block_lt_of_cell x2)).trans x2
  have K2 := Lib.hid ((K1.out.step b2).addByt hb)
  have HT := Lib.hid htn
  have hle := hb.le
  have hcap : n ≤ cap3 := by omega
  clear hb htn b2 K1 x0 x1 x2 hle
  go_wp2_with fail
  refine (new_len a3 cap3 n t _ (K2.out.byt (a3, cap3, t) (by simp)) HT.out (by omega)).mono ?_
  rintro e w3 ⟨b1, R, rfl, hR, hr⟩
  have z0 := (b1.cell (p := ⟨w.heap.size, 0, none⟩) (block_lt_of_cell y0)).trans y0
  have z1 := (b1.cell (p := ⟨w.heap.size, 1, none⟩) (block_lt_of_cell y1)).trans y1
  have z2 := (b1.cell (p := ⟨w.heap.size, 2, none⟩) (block_lt_of_cell y2)).trans y2
  have K3 := Lib.hid (K2.out.made b1 hR hr)
  clear b1 hR hr K2 y0 y1 y2
  obtain ⟨n1, hn1⟩ : ∃ n1 : Nat, n1 = n + 1 := ⟨_, rfl⟩
  have q0 : ¬ n1 = 0 := by omega
  have q1 : IntKind.i64.wrap ((n : Int) + 1) = (n1 : Int) := by rw [show (n : Int) + 1 = (n1 : Int) by omega]; exact IntWalk.i64_in _ (by omega)
  obtain ⟨y, hy, hy1, hy2⟩ : ∃ y : Int, xA.tmod (n1 : Int) = y ∧ -(n1 : Int) < y ∧ y < (n1 : Int) := ⟨_, rfl, Int.lt_tmod_of_pos _ (by omega), Int.tmod_lt_of_pos _ (by omega)⟩
  obtain ⟨v, hv⟩ : ∃ v : Nat, (v : Int) = y + (n : Int) + 1 := ⟨(y + (n : Int) + 1).toNat, by omega⟩
  have q2 : IntKind.i64.wrap (y + (n : Int)) = (v : Int) - 1 := by rw [show y + (n : Int) = (v : Int) - 1 by omega]; exact IntWalk.i64_in _ (by omega)
  have q3 : v ≤ 100000 := by omega
  obtain ⟨k, hk⟩ : ∃ k, v % n1 = k := ⟨_, rfl⟩
  have hkn : k ≤ n := by have := Nat.mod_lt v (show 0 < n1 by omega); omega
  have q4 : (v : Int).tmod (n1 : Int) = (k : Int) := by rw [Int.tmod_eq_emod_of_nonneg (by omega), ← hk]; exact (Int.natCast_emod _ _).symm
  have q4' : (v : Int) % (n1 : Int) = (k : Int) := by rw [← hk]; exact (Int.natCast_emod _ _).symm
  obtain ⟨m, hm⟩ : ∃ m : Nat, m = n - k := ⟨_, rfl⟩
  have q5 : IntKind.i64.wrap ((n : Int) - (k : Int)) = (m : Int) := by rw [show (n : Int) - (k : Int) = (m : Int) by omega]; exact IntWalk.i64_in _ (by omega)
  obtain ⟨lf, hlf⟩ : ∃ lf : Nat, lf = m + 1 := ⟨_, rfl⟩
  have q6 : IntKind.i64.wrap ((m : Int) + 1) = (lf : Int) := by rw [show (m : Int) + 1 = (lf : Int) by omega]; exact IntWalk.i64_in _ (by omega)
  have q7 : ¬ lf = 0 := by omega
  obtain ⟨z, hz, hz1, hz2⟩ : ∃ z : Int, xD.tmod (lf : Int) = z ∧ -(lf : Int) < z ∧ z < (lf : Int) := ⟨_, rfl, Int.lt_tmod_of_pos _ (by omega), Int.tmod_lt_of_pos _ (by omega)⟩
  obtain ⟨v2, hv2⟩ : ∃ v : Nat, (v : Int) = z + (lf : Int) := ⟨(z + (lf : Int)).toNat, by omega⟩
  have q8 : IntKind.i64.wrap (z + (lf : Int)) = (v2 : Int) := by rw [← hv2]; exact IntWalk.i64_in _ (by omega)
  obtain ⟨d, hd⟩ : ∃ d, v2 % lf = d := ⟨_, rfl⟩
  have hdm : d ≤ m := by have := Nat.mod_lt v2 (show 0 < lf by omega); omega
  have q9 : (v2 : Int).tmod (lf : Int) = (d : Int) := by rw [Int.tmod_eq_emod_of_nonneg (by omega), ← hd]; exact (Int.natCast_emod _ _).symm
  have hkd : k + d ≤ n := by omega
  obtain ⟨kd, hkde⟩ : ∃ kd : Nat, kd = k + d := ⟨_, rfl⟩
  have q9' : (v2 : Int) % (lf : Int) = (d : Int) := by rw [← hd]; exact (Int.natCast_emod _ _).symm
  have q10 : v2 ≤ 100000 := by omega
  have HKD := Lib.hid hkde
  have HKN := Lib.hid hkd
  clear hk hd hv hv2 hm hlf hn1 hy1 hy2 hz1 hz2 hdm hkn hkd hkde
  go_wp2_with fail
  refine (few_n aB capB lB _ (K3.out.arg (aB, capB, lB) (by simp))).mono ?_
  rintro e w4 ⟨aC, capC, c, mc, rfl, hcn, hmc, _, hb, b2⟩
  have K4 := Lib.hid ((K3.out.step b2).addByt hb)
  have HC := Lib.hid hcn
  clear hb hcn b2 K3 z0 z1 z2 q0 q1 hy q2 q3 q4 q4' q5 q6 q7 hz q8 q9 q9' q10
  go_wp2_with fail
  refine (replace_len R t k d mc aC capC c _ (K4.out.rope (R, t) (by simp)).1 (by rw [HT.out]; have := HKN.out; omega) (by rw [HT.out]; exact HKN.out) HC.out (by rw [HT.out]; omega) (K4.out.byt (aC, capC, c) (by simp))).mono ?_
  rintro e w5 ⟨b1, S, rfl, hS, hr⟩
  obtain ⟨ss, hss⟩ : ∃ ss, ss = swapped t k d c := ⟨_, rfl⟩
  rw [← hss] at hr
  have hsl : ss.length = n - d + mc := by rw [hss, swapped_length _ _ _ _ (by rw [HT.out]; exact HKN.out), HT.out, HC.out]
  obtain ⟨ns, hns⟩ : ∃ ns, ns = n - d + mc := ⟨_, rfl⟩
  rw [← hns] at hsl
  have HS := Lib.hid (And.intro hss hsl)
  have K5 := Lib.hid (K4.out.made b1 hS hr)
  have r1 : IntKind.i64.wrap ((k : Int) + (d : Int)) = (kd : Int) := by rw [show (k : Int) + (d : Int) = (kd : Int) by have := HKD.out; omega]; exact IntWalk.i64_in _ (by have := HKD.out; have := HKN.out; omega)
  have r2 : (k : Int) ≤ (kd : Int) := by have := HKD.out; omega
  have r3 : (kd : Int) ≤ (cap3 : Int) := by have := HKD.out; have := HKN.out; omega
  have r4 : (0 : Int) ≤ (k : Int) := by omega
  have r5 : kd - k = d := by have := HKD.out; omega
  have HNS := Lib.hid hns
  clear b1 hS hr K4 hss hsl hns
  by_cases hic : cap3 = k
  all_goals (
    go_wp2_with fail
    have hkl : ((t.take kd).drop k).length = d := by rw [List.length_drop, List.length_take, HT.out]; have := HKD.out; have := HKN.out; omega
    have hkt : kd ≤ t.length := by rw [HT.out, HKD.out]; exact HKN.out
    have htb : IsBytes _ a3 cap3 (t.take kd) := from_take (K5.out.byt (a3, cap3, t) (by simp)) kd hkt
    have hkk : k ≤ (t.take kd).length := by rw [List.length_take, HT.out]; have := HKD.out; have := HKN.out; omega
    refine (replace_len S ss k mc d _ _ ((t.take kd).drop k) _ (K5.out.rope (S, ss) (by simp)).1 (by rw [HS.out.2]; have := HNS.out; have := HKN.out; omega) (by rw [HS.out.2]; have := HNS.out; have := HKN.out; omega) hkl (by rw [HS.out.2]; have := HNS.out; have := HKN.out; omega) (by first | exact from_end htb k hkk hic | exact from_mid htb k hkk hic)).mono ?_
    rintro e w6 ⟨b1, U, rfl, hU, hr⟩
    have heu : swapped ss k mc ((t.take kd).drop k) = t := by rw [HS.out.1, HKD.out]; exact sw_back t c k d mc (by rw [HT.out]; exact HKN.out) HC.out
    rw [heu] at hr
    have K6 := Lib.hid (K5.out.made b1 hU hr)
    clear b1 hU hr K5 heu hkl hkt htb hkk r1 r2 r3 r4 r5
    go_wp2_with fail
    refine (len_is S ss ns _ (K6.out.rope (S, ss) (by simp)).1 HS.out.2).mono ?_
    rintro e w7 ⟨rfl, rfl⟩
    go_wp2_with fail
    refine (few_n a2 cap2 l2 _ (K6.out.arg (a2, cap2, l2) (by simp))).mono ?_
    rintro e w8 ⟨aE, capE, en, me, rfl, hen, hme, hee, hb, b2⟩
    have K7 := Lib.hid ((K6.out.step b2).addByt hb)
    have HE := Lib.hid (And.intro hen hee)
    clear hb hen hee b2 K6
    go_wp2_with fail
    refine (replace_len S ss ns 0 me aE capE en _ (K7.out.rope (S, ss) (by simp)).1 (by rw [HS.out.2]; omega) (by rw [HS.out.2]; omega) HE.out.1 (by rw [HS.out.2]; have := HNS.out; have := HKN.out; omega) (K7.out.byt (aE, capE, en) (by simp))).mono ?_
    rintro e w9 ⟨b1, V, rfl, hV, hr⟩
    rw [sw_end ss en ns HS.out.2] at hr
    have K8 := Lib.hid (K7.out.made b1 hV hr)
    clear b1 hV hr K7
    go_wp2_with fail
    refine (len_is R t n _ (K8.out.rope (R, t) (by simp)).1 HT.out).mono ?_
    rintro e w7 ⟨rfl, rfl⟩
    go_wp2_with fail
    refine (few_n a2 cap2 l2 _ (K8.out.arg (a2, cap2, l2) (by simp))).mono ?_
    rintro e w10 ⟨aF, capF, fn, mf, rfl, hfn, hmf, hff, hb, b2⟩
    have K9 := Lib.hid ((K8.out.step b2).addByt hb)
    have HF := Lib.hid (And.intro hfn (hff.trans HE.out.2.symm))
    clear hb hfn hff b2 K8
    go_wp2_with fail
    refine (replace_len R t n 0 mf aF capF fn _ (K9.out.rope (R, t) (by simp)).1 (by rw [HT.out]; omega) (by rw [HT.out]; omega) HF.out.1 (by rw [HT.out]; omega) (K9.out.byt (aF, capF, fn) (by simp))).mono ?_
    rintro e w11 ⟨b1, W, rfl, hW, hr⟩
    rw [sw_end t fn n HT.out, HF.out.2] at hr
    have K10 := Lib.hid (K9.out.made b1 hW hr)
    clear b1 hW hr K9
    go_wp2_with fail
    refine (replace_len W (t ++ en) k d mc aC capC c _ (K10.out.rope (W, t ++ en) (by simp)).1 (by rw [List.length_append, HT.out]; have := HKN.out; omega) (by rw [List.length_append, HT.out]; have := HKN.out; omega) HC.out (by rw [List.length_append, HT.out, HE.out.1]; omega) (K10.out.byt (aC, capC, c) (by simp))).mono ?_
    rintro e w12 ⟨b1, Z, rfl, hZ, hr⟩
    rw [sw_comm t en c k d (by rw [HT.out]; exact HKN.out), ← HS.out.1] at hr
    have K11 := Lib.hid (K10.out.made b1 hZ hr)
    clear b1 hZ hr K10
    first | subst hic | skip
    have K12 := Lib.hid (K11.out.step (Below.refl _ _).drew)
    have ts := str_conv (K12.out.byt (a3, cap3, t) (by simp)) HT.out
    have ms := str_conv (K11.out.byt (a3, cap3, t) (by simp)) HT.out
    have mU : (U, t) ∈ [(Z, ss ++ en), (W, t ++ en), (V, ss ++ en), (U, t), (S, ss), (R, t)] := by simp
    have mV : (V, ss ++ en) ∈ [(Z, ss ++ en), (W, t ++ en), (V, ss ++ en), (U, t), (S, ss), (R, t)] := by simp
    have mZ : (Z, ss ++ en) ∈ [(Z, ss ++ en), (W, t ++ en), (V, ss ++ en), (U, t), (S, ss), (R, t)] := by simp
    have mR : (R, t) ∈ [(Z, ss ++ en), (W, t ++ en), (V, ss ++ en), (U, t), (S, ss), (R, t)] := by simp
    have mt : (a3, cap3, t) ∈ [(aF, capF, fn), (aE, capE, en), (aC, capC, c), (a3, cap3, t)] := by simp
    have MM := Lib.hid (And.intro mU (And.intro mV (And.intro mZ (And.intro mR mt))))
    clear mU mV mZ mR mt K11
    generalize ss ++ en = se at *
    go_wp2_with fail
    go_region_held3 (fun w' => (convert 28 9 (.slice a3 n cap3)).run Try.prog w' = .ok (.string (strN t)) w')
      (first | exact ts | exact ms | exact ts1 | exact ts2 | exact ts3 | exact ts4 | assumption)
      (first
        | (go_at_call 14; (with_reducible refine (whole_any w.heap.size U t _ (K12.out.rope (U, t) MM.out.1).1 (K12.out.rope (U, t) MM.out.1).2).mono ?_); rintro e w13 ⟨rfl, kx⟩; have K13 := Lib.hid (K12.out.kept kx); have ts1 := str_conv (K13.out.byt (a3, cap3, t) MM.out.2.2.2.2) HT.out; clear kx)
        | (go_at_call 14; (with_reducible refine (whole_any w.heap.size V se _ (K13.out.rope (V, se) MM.out.2.1).1 (K13.out.rope (V, se) MM.out.2.1).2).mono ?_); rintro e w14 ⟨rfl, kx⟩; have K14 := Lib.hid (K13.out.kept kx); have ts2 := str_conv (K14.out.byt (a3, cap3, t) MM.out.2.2.2.2) HT.out; clear kx)
        | (go_at_call 14; (with_reducible refine (whole_any w.heap.size Z se _ (K14.out.rope (Z, se) MM.out.2.2.1).1 (K14.out.rope (Z, se) MM.out.2.2.1).2).mono ?_); rintro e w15 ⟨rfl, kx⟩; have K15 := Lib.hid (K14.out.kept kx); have ts3 := str_conv (K15.out.byt (a3, cap3, t) MM.out.2.2.2.2) HT.out; clear kx)
        | (go_at_call 14; (with_reducible refine (whole_any w.heap.size R t _ (K15.out.rope (R, t) MM.out.2.2.2.1).1 (K15.out.rope (R, t) MM.out.2.2.2.1).2).mono ?_); rintro e w16 ⟨rfl, kx⟩; have K16 := Lib.hid (K15.out.kept kx); have ts4 := str_conv (K16.out.byt (a3, cap3, t) MM.out.2.2.2.2) HT.out; clear kx))
    all_goals (
      go_wp2_with fail
      go_ret
      exact ⟨rfl, K16.out.d⟩))
end Go.Proofs.Yteaciponojocbaa
