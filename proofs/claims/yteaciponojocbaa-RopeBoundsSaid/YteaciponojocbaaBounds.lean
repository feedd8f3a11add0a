/- The walk of RopeBounds. -/
import Derived.Test.YteaciponojocbaaSmall
import Derived.OwnWalk
namespace Go.Proofs.Yteaciponojocbaa
open Go.RowKit

theorem len_is (B : Nat) (bs : List Nat) (n : Nat) (w : World) (h : IsRope w B bs) (hn : bs.length = n) :
    Calls Try.prog 12 #[.pointer (some ⟨B, 0, none⟩)] w fun e w' => e = .returned (.int .i64 (n : Int)) ∧ w' = w := by subst hn; exact len_any B bs w h
theorem new_len (a : Option Addr) (cap n : Nat) (bs : List Nat) (w : World) (h : IsBytes w a cap bs) (hl : bs.length = n) (hn : n ≤ 2048) : Calls Try.prog 10 #[.slice a n cap] w (Made w bs) := by subst hl; exact new_any a cap bs w h hn
theorem replace_len (B : Nat) (bs : List Nat) (i j n : Nat) (a : Option Addr) (cap : Nat) (cs : List Nat) (w : World) (h : IsRope w B bs) (hi : i ≤ bs.length) (hj : i + j ≤ bs.length) (hl : cs.length = n) (hn : bs.length - j + n ≤ 2048) (hc : IsBytes w a cap cs) :
    Calls Try.prog 11 #[.pointer (some ⟨B, 0, none⟩), .int .i64 (i : Int), .int .i64 (j : Int), .slice a n cap] w (Made w (swapped bs i j cs)) := by subst hl; exact replace_ok B bs i j a cap cs w h hi hj hn hc
theorem IsRope.small {w : World} {B : Nat} {bs : List Nat} (h : IsRope w B bs) : bs.length ≤ 2048 := by obtain ⟨_, _, _, _, _, _, _, _, _, q, _⟩ := h; exact q

theorem zeros {w w' : World} {n : Nat} (h : w'.ownsRow w.heap.size 5 1 (.slice (some ⟨w.heap.size, 0, none⟩) n n) n (madeCells (Value.int .u8 0).cells (n * 1)).toList) (hg : w.grownBy w' none) : IsBytes w' (some ⟨w.heap.size, 0, none⟩) n (List.replicate n 0) ∧ Below w.heap.size w w' := by
  have e : (madeCells (Value.int .u8 0).cells (n * 1)).toList = u8s (List.replicate n 0) := by
    show (madeCells #[Value.int .u8 0] (n * 1)).toList = _
    rw [Nat.mul_one, toList_madeCells_one]
    simp [u8s]
  rw [e] at h
  have h2 : w'.ownsRow w.heap.size 5 1 (.slice (some ⟨w.heap.size, 0, none⟩) n n) (List.replicate n 0).length (u8s (List.replicate n 0)) := by rw [List.length_replicate]; exact h
  obtain ⟨a, cap, e2, hb⟩ := bytes_own h2 (fun b hb => by rw [(List.mem_replicate.1 hb).2]; omega)
  simp at e2
  obtain ⟨e3, e4⟩ := e2
  subst e3 e4
  exact ⟨hb, Below.grown (Below.refl _ _) hg (Nat.le_refl _) (fun k hk => by cases hk)⟩

theorem err_bad (bs : List Nat) (B : Nat) (z : Nat) (w : World) (h : IsRope w B bs) (hz : bs.length = z) (i j : Int) (hij : i < 0 ∨ j < 0 ∨ (z : Int) < i ∨ (z : Int) - i < j) (a : Option Addr) (n cap : Nat) :
    Calls Try.prog 11 #[.pointer (some ⟨B, 0, none⟩), .int .i64 i, .int .i64 j, .slice a n cap] w fun e w' => e = .returned (.tuple #[.pointer none, .int .i64 3]) ∧ w' = w := by
  subst hz; exact replace_bad B bs i j a n cap w h hij

set_option maxRecDepth 100000 in
set_option maxHeartbeats 4000000 in
theorem bounds_walk (n m l : Nat) (w : World) (hn : n < 65536) (hm : m < 65536) (hl : l < 65536) :
    Calls Try.prog 3 #[.int .u16 (n : Int), .int .u16 (m : Int), .int .u16 (l : Int)] w fun e w' => e = .returned (.bool true) ∧ Below w.heap.size w w' := by
  obtain ⟨i0, hi, hz0, hz1, hz2⟩ := info_parts info5
  obtain ⟨k, hk, hk2⟩ : ∃ k : Nat, (n : Int) % 2300 = (k : Int) ∧ k < 2300 := ⟨n % 2300, by omega, by omega⟩
  obtain ⟨p, hp, hp2⟩ : ∃ p : Nat, (m : Int) % 2300 = (p : Int) ∧ p < 2300 := ⟨m % 2300, by omega, by omega⟩
  obtain ⟨d, hd, hd2⟩ : ∃ d : Nat, (l : Int) % ((k : Int) + 1) = (d : Int) ∧ d ≤ k := ⟨l % (k + 1), by rw [Int.natCast_emod]; rfl, by have := Nat.mod_lt l (show 0 < k + 1 by omega); omega⟩
  obtain ⟨q, hq⟩ : ∃ q : Nat, (k : Int) - (d : Int) = (q : Int) := ⟨k - d, by omega⟩
  have hw1 : IntKind.i64.wrap ((k : Int) - (d : Int)) = (q : Int) := by rw [hq]; exact IntWalk.i64_in _ (by omega)
  obtain ⟨z, hz⟩ : ∃ z : Nat, (q : Int) + (p : Int) = (z : Int) := ⟨q + p, by omega⟩
  have hkq : k - d = q := by omega
  have hqz : q + p = z := by omega
  have hnz : ¬ ((k : Int) + 1 = 0) := by omega
  have HH := Lib.hid (And.intro hkq (And.intro hqz hd2))
  have hd2' := hd2
  have hwz : IntKind.i64.wrap ((q : Int) + (p : Int)) = (z : Int) := by rw [hz]; exact IntWalk.i64_in _ (by omega)
  have hzu : z ≤ 4600 := by omega
  clear hq hkq hqz hd2 hz
  by_cases hbig : 2048 < k
  · have hb1 : (2048 : Int) < (k : Int) := by omega
    go_enter Try.func3, Try.ntmps3
    go_wp2_with (first | (go_at_call 9; refine (shown_any _).mono ?_; rintro e w1 ⟨rfl, b1⟩) | (rw [hk]; refine wpList_make_full _ rfl _ _ 28 rfl w1.heap.size 5 i0 _ 1 Try.underlying28 hi hz0 hz1 .i64 .i64 _ _ k rfl rfl rfl rfl (by rw [hz2]; omega) (by unfold maxLen; omega) (Nat.le_refl _) ?_; intro w2 own hg; obtain ⟨hby, hb2⟩ := zeros own hg; have HB := Lib.hid (And.intro hby (b1.trans (hb2.mono b1.size))); clear own hg hby hb2 b1))
    refine (new_big _ k _ _ hbig (by omega)).mono ?_
    rintro e w3 ⟨rfl, rfl⟩
    go_wp2_with fail
    go_ret
    exact ⟨rfl, HB.out.2⟩
  · have hb1 : ¬ (2048 : Int) < (k : Int) := by omega
    go_enter Try.func3, Try.ntmps3
    go_wp2_with (first | (go_at_call 9; refine (shown_any _).mono ?_; rintro e w1 ⟨rfl, b1⟩) | (rw [hk]; refine wpList_make_full _ rfl _ _ 28 rfl w1.heap.size 5 i0 _ 1 Try.underlying28 hi hz0 hz1 .i64 .i64 _ _ k rfl rfl rfl rfl (by rw [hz2]; omega) (by unfold maxLen; omega) (Nat.le_refl _) ?_; intro w2 own hg; obtain ⟨hby, hb2⟩ := zeros own hg; have HB := Lib.hid (And.intro hby (b1.trans (hb2.mono b1.size))); clear own hg hby hb2 b1))
    refine (new_len _ k k (List.replicate k 0) _ HB.out.1 (List.length_replicate ..) (by omega)).mono ?_
    rintro e w3 ⟨b1, B, rfl, hB, hr⟩
    have hlr : (List.replicate k 0).length = k := List.length_replicate ..
    generalize List.replicate k 0 = bs at *
    have H1 := Lib.hid (And.intro hr (And.intro hlr (HB.out.2.trans (b1.mono HB.out.2.size))))
    clear b1 hB hr hlr HB
    go_wp2_with (rw [hp]; refine wpList_make_full _ rfl _ _ 28 rfl w3.heap.size 5 i0 _ 1 Try.underlying28 hi hz0 hz1 .i64 .i64 _ _ p rfl rfl rfl rfl (by rw [hz2]; omega) (by unfold maxLen; omega) (Nat.le_refl _) ?_; intro w4 own hg; obtain ⟨hby, hb2⟩ := zeros own hg; have HB := Lib.hid (And.intro hby (And.intro (H1.out.1.below hb2) (H1.out.2.2.trans (hb2.mono H1.out.2.2.size)))); clear own hg hby hb2)
    by_cases hbig2 : 2048 < z
    · have hb2 : (2048 : Int) < (z : Int) := by omega
      refine (replace_big B bs q d _ p _ _ HB.out.2.1 (by rw [H1.out.2.1]; have := HH.out; omega) (by rw [H1.out.2.1]; have := HH.out; omega) (by rw [H1.out.2.1]; have := HH.out; omega) (by omega)).mono ?_
      rintro e w5 ⟨rfl, rfl⟩
      go_wp2_with (go_at_call 12; (with_reducible refine (len_is B bs k _ HB.out.2.1 H1.out.2.1).mono ?_); rintro e w' ⟨rfl, rfl⟩)
      go_ret
      exact ⟨rfl, HB.out.2.2⟩
    · have hb2 : ¬ (2048 : Int) < (z : Int) := by omega
      refine (replace_len B bs q d p _ _ (List.replicate p 0) _ HB.out.2.1 (by rw [H1.out.2.1]; have := HH.out; omega) (by rw [H1.out.2.1]; have := HH.out; omega) (List.length_replicate ..) (by rw [H1.out.2.1]; have := HH.out; omega) HB.out.1).mono ?_
      rintro e w5 ⟨b1, C, rfl, hC, hr⟩
      have hls : (swapped bs q d (List.replicate p 0)).length = z := by rw [swapped_length _ _ _ _ (by rw [H1.out.2.1]; have := HH.out; omega), H1.out.2.1, List.length_replicate]; have := HH.out; omega
      generalize swapped bs q d (List.replicate p 0) = cs at *
      have H2 := Lib.hid (And.intro (HB.out.2.1.below b1) (And.intro hr (And.intro hls (HB.out.2.2.trans (b1.mono HB.out.2.2.size)))))
      have hzb : z ≤ 2048 := by omega
      have hz1' : ¬ (z : Int) + 1 < 0 := by omega
      clear b1 hC hr hls
      go_wp2_with (first | (go_at_call 12; (with_reducible refine (len_is B bs k _ H2.out.1 H1.out.2.1).mono ?_); rintro e w' ⟨rfl, rfl⟩) | (go_at_call 12; (with_reducible refine (len_is C cs z _ H2.out.2.1 H2.out.2.2.1).mono ?_); rintro e w' ⟨rfl, rfl⟩) | (go_at_call 11; (with_reducible refine (err_bad cs C z _ H2.out.2.1 H2.out.2.2.1 _ _ (by omega) _ _ _).mono ?_); rintro e w' ⟨rfl, rfl⟩))
      go_ret
      exact ⟨rfl, H2.out.2.2.2⟩
end Go.Proofs.Yteaciponojocbaa
