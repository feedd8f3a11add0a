/- The laws' few, and the document's New, Slice and At, in new memory. -/
import Derived.Test.YteaciponojocbaaApp
namespace Go.Proofs.Yteaciponojocbaa
open Go.RowKit

/-- Bytes in new memory, in a block that is told. -/
def Fresh (w : World) (t : List Nat) (n : Nat) (u : Value) (w' : World) : Prop :=
  w'.ownsRow w.heap.size 5 1 u n (u8s t) ∧ Below w.heap.size w w' ∧ w.heap.size < w'.heap.size
theorem fresh_empty (w : World) : Fresh w [] 0 (.slice (some ⟨w.heap.size, 0, none⟩) 0 0) (w.alloc (.cells #[] 5)) := ⟨own_empty w _ (Nat.le_refl _), below_new _ _, by simp⟩
theorem fresh_app {w w' : World} {v : Value} {n m : Nat} {t : List Nat} (ho : w'.ownsRow w.heap.size 5 1 v n (u8s t)) (hg : (w.alloc (.cells #[] 5)).grownBy w' (Value.ownBlock (.slice (some ⟨w.heap.size, 0, none⟩) 0 0))) (hm : n = m) : Fresh w t m v w' := by
  subst hm
  refine ⟨ho, Below.grown (below_new w _) hg (by simp) (fun k hk => by simp [Value.ownBlock] at hk; omega), ?_⟩
  have := hg.size
  simp at this
  omega

set_option maxHeartbeats 1000000 in
set_option maxRecDepth 100000 in
theorem few_short' (p : Addr) (cap : Nat) (bs : List Nat) (w : World) (h : IsBytes w (some p) cap bs) (hs : bs.length ≤ 300) :
    Calls Try.prog 13 #[.slice (some p) bs.length cap] w fun e w' => ∃ u, e = .returned u ∧ Fresh w bs bs.length u w' := by
  have HH := Lib.hid (h.below (below_new w (.cells #[] 5)))
  have hle := h.le
  have hle2 : (bs.length : Int) ≤ (cap : Int) := by omega
  have hs2 : ¬ (300 : Int) < (bs.length : Int) := by omega
  have hs3 : (bs.length : Int) ≤ 300 := by omega
  have hsp := (h.at_ p rfl).1
  obtain ⟨b, off, spot⟩ := p
  have hsp' : spot = none := hsp
  subst hsp'
  clear hsp h
  have HO := Lib.hid (own_empty w w.heap.size (Nat.le_refl _))
  go_enter Try.func13, Try.ntmps13
  go_wp2_with (at_builtin; refine wpList_app rfl _ _ rfl rfl HO.out rfl HH.out rfl ?c0 ?c1 ?_)
  try (case c1 => omega)
  intro v' w' hown hgrow
  have HF := Lib.hid (fresh_app hown hgrow (by first | rfl | exact Nat.zero_add _))
  clear hown hgrow
  go_wp2
  go_ret
  exact ⟨v', rfl, by simpa using HF.out⟩
set_option maxHeartbeats 1000000 in
set_option maxRecDepth 100000 in
theorem few_long' (p : Addr) (cap : Nat) (bs : List Nat) (w : World) (h : IsBytes w (some p) cap bs) (hs : 300 < bs.length) :
    Calls Try.prog 13 #[.slice (some p) bs.length cap] w fun e w' => ∃ u, e = .returned u ∧ Fresh w (bs.take 300) 300 u w' := by
  have HH := Lib.hid ((h.take 300 (by omega)).below (below_new w (.cells #[] 5)))
  have HL := Lib.hid (show (bs.take 300).length = 300 by rw [List.length_take]; omega)
  have hle := h.le
  have hle2 : (bs.length : Int) ≤ (cap : Int) := by omega
  have hs2 : (300 : Int) < (bs.length : Int) := by omega
  have hs3 : ¬ (bs.length : Int) ≤ 300 := by omega
  have hs4 : 300 ≤ cap := by omega
  have hsp := (h.at_ p rfl).1
  obtain ⟨b, off, spot⟩ := p
  have hsp' : spot = none := hsp
  subst hsp'
  clear hsp h
  have HO := Lib.hid (own_empty w w.heap.size (Nat.le_refl _))
  go_enter Try.func13, Try.ntmps13
  go_wp2_with (at_builtin; refine wpList_app rfl _ _ rfl rfl HO.out rfl HH.out HL.out ?c0 ?c1 ?_)
  try (case c1 => omega)
  intro v' w' hown hgrow
  have HF := Lib.hid (fresh_app hown hgrow (by first | rfl | exact Nat.zero_add _))
  clear hown hgrow
  go_wp2
  go_ret
  exact ⟨v', rfl, by simpa using HF.out⟩
theorem few_no (a : Option Addr) (ha : a = none ∨ ∃ p, a = some p) (w : World) : Calls Try.prog 13 #[.slice a 0 0] w fun e w' => ∃ u, e = .returned u ∧ Fresh w [] 0 u w' := by
  rcases ha with rfl | ⟨⟨b, off, spot⟩, rfl⟩
  · go_enter Try.func13, Try.ntmps13
    go_wp2
    go_ret
    exact ⟨_, rfl, fresh_empty w⟩
  · go_enter Try.func13, Try.ntmps13
    go_wp2
    go_ret
    exact ⟨_, rfl, fresh_empty w⟩
/-- The law's few: 300 bytes at most, in new memory. -/
theorem few_own (a : Option Addr) (cap : Nat) (bs : List Nat) (w : World) (h : ArgBytes w a cap bs) :
    Calls Try.prog 13 #[.slice a bs.length cap] w fun e w' => ∃ u t n, e = .returned u ∧ t = bs.take 300 ∧ t.length = n ∧ n ≤ 300 ∧ Fresh w t n u w' := by
  rcases h with h | ⟨rfl, rfl⟩
  · cases a with
    | none =>
      have h0 := h.nil rfl
      have h1 := h.le
      have hb : bs = [] := List.eq_nil_of_length_eq_zero (by omega)
      subst hb
      subst h0
      exact (few_no none (.inl rfl) w).mono fun e w' ⟨u, he, hf⟩ => ⟨u, [], 0, he, rfl, rfl, by omega, hf⟩
    | some p =>
      by_cases hs : bs.length ≤ 300
      · exact (few_short' p cap bs w h hs).mono fun e w' ⟨u, he, hf⟩ => ⟨u, bs, bs.length, he, (List.take_of_length_le hs).symm, rfl, hs, hf⟩
      · exact (few_long' p cap bs w h (by omega)).mono fun e w' ⟨u, he, hf⟩ => ⟨u, bs.take 300, 300, he, rfl, by rw [List.length_take]; omega, by omega, hf⟩
  · exact (few_no a (match a with | none => .inl rfl | some p => .inr ⟨p, rfl⟩) w).mono fun e w' ⟨u, he, hf⟩ => ⟨u, [], 0, he, rfl, rfl, by omega, hf⟩

set_option maxHeartbeats 1000000 in
/-- The document's New. -/
theorem ref_new (a : Option Addr) (cap n : Nat) (bs : List Nat) (w : World) (h : IsBytes w a cap bs) (hn : bs.length = n) (hs : n ≤ 2048) :
    Calls Try.prog 17 #[.slice a n cap] w fun e w' => ∃ u, e = .returned (.tuple #[u, .int .i64 0]) ∧ Fresh w bs n u w' := by
  have HH := Lib.hid (h.below (below_new w (.cells #[] 5)))
  have HN := Lib.hid hn
  have hs2 : ¬ (2048 : Int) < (n : Int) := by omega
  have HO := Lib.hid (own_empty w w.heap.size (Nat.le_refl _))
  clear h hn
  go_enter Try.func17, Try.ntmps17
  go_wp2_with (at_builtin; refine wpList_app rfl _ _ rfl rfl HO.out rfl HH.out HN.out ?c0 ?c1 ?_)
  try (case c1 => omega)
  intro v' w' hown hgrow
  have HF := Lib.hid (fresh_app hown hgrow (by first | rfl | exact Nat.zero_add _))
  clear hown hgrow
  go_wp2
  go_ret2
  exact ⟨v', rfl, by simpa using HF.out⟩

/-- What a slice of some bytes is, and why not. -/
def sliceOk (n : Nat) (i j : Int) : Bool := decide (0 ≤ i) && (decide (i ≤ j) && decide (j ≤ (n : Int)))
def sliceOf (bs : List Nat) (i j : Int) : List Nat := if sliceOk bs.length i j = true then (bs.take j.toNat).drop i.toNat else []
def sliceNo (n : Nat) (i j : Int) : Int := if sliceOk n i j = true then 0 else 3
theorem sliceOk_is {n : Nat} {i j : Int} : sliceOk n i j = true ↔ 0 ≤ i ∧ i ≤ j ∧ j ≤ (n : Int) := by simp [sliceOk]

set_option maxHeartbeats 1000000 in
theorem ref_slice_bad (a : Option Addr) (cap n : Nat) (i j : Int) (w : World) (hij : i < 0 ∨ j < i ∨ (n : Int) < j) :
    Calls Try.prog 19 #[.slice a n cap, .int .i64 i, .int .i64 j] w fun e w' => e = .returned (.tuple #[.slice none 0 0, .int .i64 3]) ∧ w' = w := by
  by_cases h1 : i < 0
  · go_enter Try.func19, Try.ntmps19
    go_wp2
    go_ret2
    exact ⟨rfl, rfl⟩
  · by_cases h2 : j < i
    · go_enter Try.func19, Try.ntmps19
      go_wp2
      go_ret2
      exact ⟨rfl, rfl⟩
    · have h3 : (n : Int) < j := by omega
      go_enter Try.func19, Try.ntmps19
      go_wp2
      go_ret2
      exact ⟨rfl, rfl⟩

set_option maxHeartbeats 1000000 in
theorem ref_slice_good (a : Option Addr) (cap n i j m : Nat) (bs : List Nat) (w : World) (h : IsBytes w a cap bs) (hn : bs.length = n) (hij : i ≤ j) (hj : j ≤ n) (hu : n ≤ 65536) (hm : j - i = m) :
    Calls Try.prog 19 #[.slice a n cap, .int .i64 (i : Int), .int .i64 (j : Int)] w fun e w' => ∃ u, e = .returned (.tuple #[u, .int .i64 0]) ∧ Fresh w ((bs.take j).drop i) m u w' := by
  have h1 : ¬ (i : Int) < 0 := by omega
  have h2 : ¬ (j : Int) < (i : Int) := by omega
  have h3 : ¬ (n : Int) < (j : Int) := by omega
  have hc := h.le
  have h4 : (j : Int) ≤ (cap : Int) := by omega
  have hb1 := from_take h j (by omega)
  have hl1 : i ≤ (bs.take j).length := by rw [List.length_take]; omega
  have HL := Lib.hid (show ((bs.take j).drop i).length = m by rw [List.length_drop, List.length_take]; omega)
  have HO := Lib.hid (own_empty w w.heap.size (Nat.le_refl _))
  have hmi : (m : Int) ≤ 65536 := by omega
  have HS := Lib.hid (And.intro (below_new w (.cells #[] 5)).size (show 0 + m ≤ 140737488355328 by omega))
  by_cases hic : cap = i
  · have HB := Lib.hid ((from_end hb1 i hl1 hic).below (below_new w (.cells #[] 5)))
    clear h hn hb1 hl1 hc
    go_enter Try.func19, Try.ntmps19
    go_wp2_with (at_builtin; refine wpList_app rfl _ _ rfl rfl HO.out rfl HB.out HL.out HS.out.1 HS.out.2 ?_)
    intro v' w' hown hgrow
    have HF := Lib.hid (fresh_app hown hgrow (by first | rfl | exact Nat.zero_add _))
    clear hown hgrow
    go_wp2
    go_ret2
    exact ⟨v', rfl, by simpa using HF.out⟩
  · cases a with
    | none => have := h.nil rfl; omega
    | some p =>
      have hsp := (h.at_ p rfl).1
      obtain ⟨b, off, spot⟩ := p
      have hsp' : spot = none := hsp
      subst hsp'
      have HB := Lib.hid ((hb1.drop i hl1).below (below_new w (.cells #[] 5)))
      clear h hn hb1 hl1 hc hsp
      go_enter Try.func19, Try.ntmps19
      go_wp2_with (at_builtin; refine wpList_app rfl _ _ rfl rfl HO.out rfl HB.out HL.out HS.out.1 HS.out.2 ?_)
      intro v' w' hown hgrow
      have HF := Lib.hid (fresh_app hown hgrow (by first | rfl | exact Nat.zero_add _))
      clear hown hgrow
      go_wp2
      go_ret2
      exact ⟨v', rfl, by simpa using HF.out⟩

/-- The document's Slice. -/
theorem ref_slice (a : Option Addr) (cap n : Nat) (i j : Int) (bs : List Nat) (w : World) (h : IsBytes w a cap bs) (hn : bs.length = n) (hu : n ≤ 65536) :
    Calls Try.prog 19 #[.slice a n cap, .int .i64 i, .int .i64 j] w fun e w' => ∃ u m, e = .returned (.tuple #[u, .int .i64 (sliceNo n i j)]) ∧ (sliceOf bs i j).length = m ∧ w'.ownsRow w.heap.size 5 1 u m (u8s (sliceOf bs i j)) ∧ Below w.heap.size w w' := by
  by_cases hok : sliceOk n i j = true
  · obtain ⟨h0, h1, h2⟩ := sliceOk_is.1 hok
    obtain ⟨i', rfl⟩ := Int.eq_ofNat_of_zero_le h0
    obtain ⟨j', rfl⟩ := Int.eq_ofNat_of_zero_le (Int.le_trans h0 h1)
    have e : sliceOf bs (i' : Int) (j' : Int) = (bs.take j').drop i' := by unfold sliceOf; rw [hn, if_pos hok]; rfl
    have e2 : sliceNo n (i' : Int) (j' : Int) = 0 := by unfold sliceNo; rw [if_pos hok]
    rw [e, e2]
    exact (ref_slice_good a cap n i' j' (j' - i') bs w h hn (by omega) (by omega) hu rfl).mono fun e w' ⟨u, he, h1, h2, _⟩ => ⟨u, _, he, by rw [List.length_drop, List.length_take]; omega, h1, h2⟩
  · have e : sliceOf bs i j = [] := by unfold sliceOf; rw [hn, if_neg hok]
    have e2 : sliceNo n i j = 3 := by unfold sliceNo; rw [if_neg hok]
    rw [e, e2]
    have hbad : i < 0 ∨ j < i ∨ (n : Int) < j := by
      rw [sliceOk_is] at hok; omega
    exact (ref_slice_bad a cap n i j w hbad).mono fun e w' ⟨he, hw⟩ => ⟨_, 0, he, rfl, World.ownsRow_nil _ _ _ _, hw ▸ Below.refl _ _⟩

/-- What a byte is, and whether it is there. -/
def atOk (n : Nat) (i : Int) : Bool := decide (0 ≤ i) && decide (i < (n : Int))
def atOf (bs : List Nat) (i : Int) : Nat := if atOk bs.length i = true then bs.getD i.toNat 0 else 0
theorem atOk_is {n : Nat} {i : Int} : atOk n i = true ↔ 0 ≤ i ∧ i < (n : Int) := by simp [atOk]

set_option maxHeartbeats 1000000 in
/-- The document's At. -/
theorem ref_at (a : Option Addr) (cap n : Nat) (i : Int) (bs : List Nat) (w : World) (h : IsBytes w a cap bs) (hn : bs.length = n) :
    Calls Try.prog 20 #[.slice a n cap, .int .i64 i] w fun e w' => e = .returned (.tuple #[.int .u8 (atOf bs i : Int), .bool (atOk n i)]) ∧ w' = w := by
  by_cases hok : atOk n i = true
  · obtain ⟨h0, h1⟩ := atOk_is.1 hok
    obtain ⟨i', rfl⟩ := Int.eq_ofNat_of_zero_le h0
    have hi : i' < bs.length := by omega
    have e : atOf bs (i' : Int) = bs[i'] := by unfold atOf; rw [hn, if_pos hok]; simp [hi]
    rw [e, hok]
    cases a with
    | none => have := h.nil rfl; have := h.le; omega
    | some p =>
      obtain ⟨q1, q2, q3⟩ := h.at_ p rfl
      obtain ⟨b, off, spot⟩ := p
      have q1' : spot = none := q1
      subst q1'
      have hc := q2 i' hi
      generalize bs[i'] = c at *
      have hn0 : ¬ (i' : Int) < 0 := by omega
      have hn1 : ¬ (n : Int) ≤ (i' : Int) := by omega
      clear h hn e hok h1 q2
      go_enter Try.func20, Try.ntmps20
      go_wp2
      go_ret2
      exact ⟨rfl, rfl⟩
  · have hbad : i < 0 ∨ (n : Int) ≤ i := by rw [atOk_is] at hok; omega
    have e : atOf bs i = 0 := by unfold atOf; rw [hn, if_neg hok]
    have e2 : atOk n i = false := by simpa using hok
    rw [e, e2]
    clear h hn e e2 hok
    by_cases h1 : i < 0
    · go_enter Try.func20, Try.ntmps20
      go_wp2
      go_ret2
      exact ⟨rfl, rfl⟩
    · have h2 : (n : Int) ≤ i := by omega
      go_enter Try.func20, Try.ntmps20
      go_wp2
      go_ret2
      exact ⟨rfl, rfl⟩
end Go.Proofs.Yteaciponojocbaa
