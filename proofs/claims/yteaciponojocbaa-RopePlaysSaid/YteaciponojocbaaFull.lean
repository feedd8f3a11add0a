/- The rope's Slice and At wherever they are asked, and what an edit is answered that may not be. -/
import Derived.Test.YteaciponojocbaaRefRep
import Derived.Test.YteaciponojocbaaAt
namespace Go.Proofs.Yteaciponojocbaa
open Go.RowKit

set_option maxHeartbeats 1000000 in
theorem slice_own (N B : Nat) (bs : List Nat) (i j : Nat) (w : World) (h : IsRope w B bs) (hN : N ≤ B) (hij : i ≤ j) (hj : j ≤ bs.length) :
    Calls Try.prog 15 #[.pointer (some ⟨B, 0, none⟩), .int .i64 (i : Int), .int .i64 (j : Int)] w fun e w' => ∃ u w1, e = .returned (.tuple #[u, .int .i64 0]) ∧ w'.ownsRow w1.heap.size 5 1 u (j - i) (u8s ((bs.take j).drop i)) ∧ Below w1.heap.size w1 w' ∧ Kept N w w1 := by
  have h1 : ¬ (i : Int) < 0 := by omega
  have h2 : ¬ (j : Int) < (i : Int) := by omega
  have h3 : ¬ (bs.length : Int) < (j : Int) := by omega
  have HR := Lib.hid h
  have hlen : ((bs.take j).drop i).length = j - i := by rw [List.length_drop, List.length_take]; omega
  have hlt : N ≤ w.heap.size := by have := h.lt; omega
  have hbs : bs.length ≤ 2048 := by obtain ⟨_, _, _, _, _, _, _, _, _, q, _⟩ := h; exact q
  clear h
  go_enter Try.func15, Try.ntmps15
  go_wp2_with (go_at_call 12; refine (len_any B bs _ HR.out).mono ?_; rintro e w' ⟨rfl, rfl⟩)
  refine (method_any N B bs _ HR.out hN).mono ?_
  rintro e w1 ⟨v, rfl, ⟨a, cap, rfl, hb⟩, hk⟩
  have hcp := hb.le
  have hcp1 : (bs.length : Int) ≤ (cap : Int) := by omega
  have hji : (j : Int) ≤ (cap : Int) := by omega
  have HL := Lib.hid hlen
  have HH := Lib.hid (And.intro hb hk)
  clear hb hk hlen
  cases a with
  | none =>
    have h0 := HH.out.1.nil rfl
    subst h0
    have ei : i = 0 := by omega
    have ej : j = 0 := by omega
    subst ei ej
    go_wp2_with fail
    refine (clone_len none 0 0 [] _ ⟨Nat.le_refl _, by decide, fun _ => rfl, fun p e => (by cases e), fun b hb => (by cases hb)⟩ rfl (by omega)).mono ?_
    rintro e w2 ⟨u, rfl, own, hb2⟩
    have H2 := Lib.hid (And.intro own (And.intro hb2 HH.out.2))
    clear own hb2
    go_wp2_with fail
    go_ret2
    exact ⟨u, w1, rfl, by simpa using H2.out.1, H2.out.2.1, H2.out.2.2⟩
  | some p =>
    have hsp := (HH.out.1.at_ p rfl).1
    obtain ⟨b, off, spot⟩ := p
    have hsp' : spot = none := hsp
    subst hsp'
    by_cases hic : cap = i
    · subst hic
      have ez : (bs.take j).drop cap = [] := List.eq_nil_of_length_eq_zero (by rw [HL.out]; omega)
      have EZ := Lib.hid ez
      have hj0 : j - cap = 0 := by omega
      have hq : IsBytes w1 (some ⟨b, off, none⟩) 0 [] := ⟨Nat.le_refl _, by decide, fun _ => rfl, fun p e => ⟨(HH.out.1.at_ p e).1, fun i hi => absurd hi (by simp), (HH.out.1.at_ p e).2.2⟩, fun b hb => by cases hb⟩
      have HQ := Lib.hid hq
      clear ez hq
      go_wp2_with fail
      refine (clone_len (some ⟨b, off, none⟩) 0 0 [] _ HQ.out rfl (by omega)).mono ?_
      rintro e w2 ⟨u, rfl, own, hb2⟩
      have H2 := Lib.hid (And.intro own (And.intro hb2 HH.out.2))
      clear own hb2
      go_wp2_with fail
      go_ret2
      exact ⟨u, w1, rfl, by rw [EZ.out, hj0]; exact H2.out.1, H2.out.2.1, H2.out.2.2⟩
    · go_wp2_with fail
      refine (clone_len (some ⟨b, off + i, none⟩) (cap - i) (j - i) ((bs.take j).drop i) _ ((HH.out.1.take j hj).drop i (by rw [List.length_take]; omega)) HL.out (by omega)).mono ?_
      rintro e w2 ⟨u, rfl, own, hb2⟩
      have H2 := Lib.hid (And.intro own (And.intro hb2 HH.out.2))
      clear own hb2
      go_wp2_with fail
      go_ret2
      exact ⟨u, w1, rfl, H2.out.1, H2.out.2.1, H2.out.2.2⟩

/-- The rope's Slice, wherever it is asked. -/
theorem rope_slice (N B : Nat) (bs : List Nat) (i j : Int) (w : World) (h : IsRope w B bs) (hN : N ≤ B) :
    Calls Try.prog 15 #[.pointer (some ⟨B, 0, none⟩), .int .i64 i, .int .i64 j] w fun e w' => ∃ u m w1, e = .returned (.tuple #[u, .int .i64 (sliceNo bs.length i j)]) ∧ (sliceOf bs i j).length = m ∧ w'.ownsRow w1.heap.size 5 1 u m (u8s (sliceOf bs i j)) ∧ Below w1.heap.size w1 w' ∧ Kept N w w1 := by
  by_cases hok : sliceOk bs.length i j = true
  · obtain ⟨h0, h1, h2⟩ := sliceOk_is.1 hok
    obtain ⟨i', rfl⟩ := Int.eq_ofNat_of_zero_le h0
    obtain ⟨j', rfl⟩ := Int.eq_ofNat_of_zero_le (Int.le_trans h0 h1)
    have e : sliceOf bs (i' : Int) (j' : Int) = (bs.take j').drop i' := by unfold sliceOf; rw [if_pos hok]; rfl
    have e2 : sliceNo bs.length (i' : Int) (j' : Int) = 0 := by unfold sliceNo; rw [if_pos hok]
    rw [e, e2]
    exact (slice_own N B bs i' j' w h hN (by omega) (by omega)).mono fun e w' ⟨u, w1, he, h1, h2, h3⟩ => ⟨u, _, w1, he, by rw [List.length_drop, List.length_take]; omega, h1, h2, h3⟩
  · have e : sliceOf bs i j = [] := by unfold sliceOf; rw [if_neg hok]
    have e2 : sliceNo bs.length i j = 3 := by unfold sliceNo; rw [if_neg hok]
    rw [e, e2]
    have hbad : i < 0 ∨ j < i ∨ (bs.length : Int) < j := by
      rw [sliceOk_is] at hok; omega
    exact (slice_bad B bs i j w h hbad).mono fun e w' ⟨he, hw⟩ => ⟨_, 0, w, he, rfl, World.ownsRow_nil _ _ _ _, hw ▸ Below.refl _ _, Kept.refl w⟩

set_option maxHeartbeats 1000000 in
theorem at_bad (B : Nat) (i : Int) (bs : List Nat) (w : World) (h : IsRope w B bs) (hi : i < 0 ∨ (bs.length : Int) ≤ i) :
    Calls Try.prog 16 #[.pointer (some ⟨B, 0, none⟩), .int .i64 i] w fun e w' => e = .returned (.tuple #[.int .u8 0, .bool false]) ∧ w' = w := by
  have HR := Lib.hid h
  clear h
  by_cases h1 : i < 0
  · go_enter Try.func16, Try.ntmps16
    go_wp2
    go_ret2
    exact ⟨rfl, rfl⟩
  · have h2 : (bs.length : Int) ≤ i := by omega
    go_enter Try.func16, Try.ntmps16
    go_wp2_with (go_at_call 12; refine (len_any B bs _ HR.out).mono ?_; rintro e w' ⟨rfl, rfl⟩)
    go_ret2
    exact ⟨rfl, rfl⟩
/-- The rope's At, wherever it is asked. -/
theorem rope_at (B : Nat) (i : Int) (bs : List Nat) (w : World) (h : IsRope w B bs) :
    Calls Try.prog 16 #[.pointer (some ⟨B, 0, none⟩), .int .i64 i] w fun e w' => e = .returned (.tuple #[.int .u8 (atOf bs i : Int), .bool (atOk bs.length i)]) ∧ Below w.heap.size w w' := by
  by_cases hok : atOk bs.length i = true
  · obtain ⟨h0, h1⟩ := atOk_is.1 hok
    obtain ⟨i', rfl⟩ := Int.eq_ofNat_of_zero_le h0
    have hi : i' < bs.length := by omega
    have e : atOf bs (i' : Int) = bs[i'] := by unfold atOf; rw [if_pos hok]; simp [hi]
    rw [e, hok]
    exact at_any B i' bs bs[i'] w h (List.getElem?_eq_getElem hi)
  · have hbad : i < 0 ∨ (bs.length : Int) ≤ i := by rw [atOk_is] at hok; omega
    have e : atOf bs i = 0 := by unfold atOf; rw [if_neg hok]
    have e2 : atOk bs.length i = false := by simpa using hok
    rw [e, e2]
    exact (at_bad B i bs w h hbad).mono fun e w' ⟨he, hw⟩ => ⟨he, hw ▸ Below.refl _ _⟩

/-- Why an edit may not be: 0 if it may. -/
def repNo (n : Nat) (i j : Int) (m : Nat) : Int := if i < 0 ∨ j < 0 ∨ (n : Int) < i ∨ (n : Int) - i < j then 3 else if 2048 < (n : Int) - j + (m : Int) then 4 else 0
theorem repNo_ok {n m : Nat} {i j : Int} (h : repNo n i j m = 0) : ∃ i' j' : Nat, i = i' ∧ j = j' ∧ i' ≤ n ∧ i' + j' ≤ n ∧ n - j' + m ≤ 2048 := by
  unfold repNo at h
  split at h
  · cases h
  · split at h
    · cases h
    · exact ⟨i.toNat, j.toNat, by omega, by omega, by omega, by omega, by omega⟩
theorem repNo_not {n m : Nat} {i j c : Int} (h : repNo n i j m = c) (hc : c ≠ 0) : (c = 3 ∧ (i < 0 ∨ j < 0 ∨ (n : Int) < i ∨ (n : Int) - i < j)) ∨ (c = 4 ∧ ∃ i' j' : Nat, i = i' ∧ j = j' ∧ i' ≤ n ∧ i' + j' ≤ n ∧ 2048 < n - j' + m) := by
  unfold repNo at h
  split at h
  · exact .inl ⟨h.symm, by assumption⟩
  · split at h
    · exact .inr ⟨h.symm, i.toNat, j.toNat, by omega, by omega, by omega, by omega, by omega⟩
    · omega
theorem rope_no (B n : Nat) (bs : List Nat) (i j c : Int) (a : Option Addr) (m cap : Nat) (w : World) (h : IsRope w B bs) (hn : bs.length = n) (hm : m ≤ 65536) (hr : repNo n i j m = c) (hc : c ≠ 0) :
    Calls Try.prog 11 #[.pointer (some ⟨B, 0, none⟩), .int .i64 i, .int .i64 j, .slice a m cap] w fun e w' => e = .returned (.tuple #[.pointer none, .int .i64 c]) ∧ w' = w := by
  subst hn
  rcases repNo_not hr hc with ⟨rfl, h1⟩ | ⟨rfl, i', j', rfl, rfl, h1, h2, h3⟩
  · exact replace_bad B bs i j a m cap w h h1
  · exact replace_big B bs i' j' a m cap w h h1 h2 h3 (by omega)
theorem ref_no (n : Nat) (i j c : Int) (a b : Option Addr) (cap m cap2 : Nat) (w : World) (hn : n ≤ 65536) (hm : m ≤ 65536) (hr : repNo n i j m = c) (hc : c ≠ 0) :
    Calls Try.prog 18 #[.slice a n cap, .int .i64 i, .int .i64 j, .slice b m cap2] w fun e w' => e = .returned (.tuple #[.slice none 0 0, .int .i64 c]) ∧ w' = w := by
  rcases repNo_not hr hc with ⟨rfl, h1⟩ | ⟨rfl, i', j', rfl, rfl, h1, h2, h3⟩
  · exact ref_rep_bad a b cap n cap2 m i j w hn h1
  · exact ref_rep_big a b cap n cap2 m i' j' w hn h1 h2 hm h3
end Go.Proofs.Yteaciponojocbaa
