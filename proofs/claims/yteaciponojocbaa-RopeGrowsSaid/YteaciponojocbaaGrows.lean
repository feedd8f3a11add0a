/- The walk of RopeGrows. -/
import Derived.Test.YteaciponojocbaaAt
import Derived.Test.YteaciponojocbaaTwice
namespace Go.Proofs.Yteaciponojocbaa
open Go.RowKit Go.ChangeShapes Go.WideShapes Tw

/-- A slice of numbers of two bytes. -/
structure IsNums (w : World) (a : Option Addr) (l : List Nat) : Prop where
  at_ : ∀ i (hi : i < l.length), ∃ b off, a = some ⟨b, off, none⟩ ∧ w.cell? ⟨b, off + i, none⟩ = some (.int .u16 (l[i] : Int)) ∧ b < w.heap.size
  lt : ∀ x ∈ l, x < 65536

theorem open_nums {H : Type} {enc : TypeId × Value → H} {w : World} {r : Reach} {b0 : Nat} {v : Value} {d : DataW H} {ps : List MemPlace}
    (hval : Value.okWide Try.prog w r b0 51 v) (hd : DataW.Trod enc Try.prog w 0 (fun _ => true) true 51 v d ps) :
    ∃ (a : Option Addr) (l : List Nat) (cap : Nat), v = .slice a l.length cap ∧ IsNums w a l ∧ l.length ≤ maxLen := by
  obtain ⟨a0, len, cap, rfl⟩ := okWide_slice Try.underlying51 hval
  obtain ⟨fuel, hf⟩ := hd
  rcases open_ints Try.underlying51 Try.underlying22 (by kernel_rfl) hf with ⟨hcs, _⟩ | ⟨a, len', cap', zs, hcs, _, hl, hm, hz, _, hcell, hwz⟩
  · have e : Value.slice a0 len cap = .slice none 0 0 := by simpa [Value.cells] using hcs
    rw [e]
    exact ⟨none, [], 0, rfl, ⟨fun i hi => absurd hi (by simp), fun x hx => by cases hx⟩, Nat.zero_le _⟩
  · have e : Value.slice a0 len cap = .slice (some a) len' cap' := by simpa [Value.cells] using hcs
    rw [e]
    simp only [if_true] at hz
    have hlen : ((zs.take len').map fun z => z.toNat).length = len' := by simp; omega
    refine ⟨some a, (zs.take len').map fun z => z.toNat, cap', by rw [hlen], ⟨fun i hi => ?_, fun x hx => ?_⟩, by rw [hlen]; omega⟩
    · rw [hlen] at hi
      obtain ⟨b, off, spot⟩ := a
      have hs0 : (⟨b, off, spot⟩ : Addr).spot = none := by
        have := World.cell?_spot (hcell 0 (by omega))
        simpa [Addr.add] using this
      have hs : spot = none := hs0
      subst hs
      have hci := hcell i (by omega)
      rw [Addr.add_mid] at hci
      refine ⟨b, off, rfl, ?_, block_lt_of_cell hci⟩
      rw [hci]
      have hw := hwz _ (List.getElem_mem (show i < zs.length by omega))
      obtain ⟨n, hn, _⟩ := u16_nat hw
      simp only [List.getElem_map, List.getElem_take, List.getD, List.getElem?_eq_getElem (show i < zs.length by omega), Option.getD_some]
      rw [hn]; rfl
    · obtain ⟨z, hz1, rfl⟩ := List.mem_map.1 hx
      have hw := hwz _ (List.mem_of_mem_take hz1)
      have := bounds_u16 hw
      omega

theorem rope_drew {w : World} {B : Nat} {bs : List Nat} (h : IsRope w B bs) : IsRope w.drew B bs := h.below (Below.refl _ _).drew
theorem rope_alloc {w : World} {B : Nat} {bs : List Nat} (h : IsRope w B bs) (o : Obj) : IsRope (w.alloc o) B bs := h.below (below_new _ _)
theorem cell_alloc {w : World} {b i : Nat} {v : Value} (h : w.cell? ⟨b, i, none⟩ = some v) (o : Obj) : (w.alloc o).cell? ⟨b, i, none⟩ = some v := by
  rw [World.cell?_alloc_past _ _ _ (block_lt_of_cell h)]; exact h
theorem cell_below {w w' : World} {b i : Nat} {v : Value} (h : w.cell? ⟨b, i, none⟩ = some v) (hb : Below w.heap.size w w') : w'.cell? ⟨b, i, none⟩ = some v := (hb.cell (p := ⟨b, i, none⟩) (block_lt_of_cell h)).trans h
theorem sw_at (bs : List Nat) (j c : Nat) (h : j ≤ bs.length) : (swapped bs j 0 [c])[j]? = some c := by
  rw [sw_form, List.getElem?_append_right (by rw [List.length_take]; omega), List.length_take, Nat.min_eq_left h, Nat.sub_self]
  rfl

set_option maxRecDepth 100000 in
set_option maxHeartbeats 4000000 in
theorem grows_walk (a : Option Addr) (l : List Nat) (cap : Nat) (w : World) (hl : IsNums w a l) :
    Calls Try.prog 8 #[.slice a l.length cap] w fun e w' => e = .returned (.bool true) ∧ Below w.heap.size w w' := by
  have HL := Lib.hid hl
  clear hl
  go_enter Try.func8, Try.ntmps8
  go_wp2_with (go_at_call 9; refine (shown_any _).mono ?_; rintro e w1 ⟨rfl, b1⟩)
  refine (new_len none 0 0 [] _ (nilBytes _) rfl (by omega)).mono ?_
  rintro e w2 ⟨b2, R, rfl, hR, hr⟩
  have H := Lib.hid (And.intro hr (b1.trans (b2.mono b1.size)))
  clear b1 b2 hR hr
  go_wp2_with fail
  go_loopw [6, 4] (fun i r wr => ∃ (k B : Nat) (bs : List Nat), i = .int .i64 (k : Int) ∧ r = .pointer (some ⟨B, 0, none⟩) ∧ IsRope wr B bs ∧ bs.length = k ∧ k ≤ l.length ∧ k ≤ 2048 ∧ Below w.heap.size w wr) (fun i _ _ => 2048 - (intOf i).toNat)
  case atStart => exact ⟨0, R, [], rfl, rfl, H.out.1, rfl, Nat.zero_le _, Nat.zero_le _, H.out.2⟩
  case round =>
    rename_i wr
    obtain ⟨k, B, bs, rfl, rfl, hr, hbk, hkl, hk2, hbl⟩ := hrel
    clear H
    by_cases hlt : k < l.length
    · by_cases hlt2 : k < 2048
      · have hi1 : (k : Int) < (l.length : Int) := by omega
        have hi2 : (k : Int) < 2048 := by omega
        have k0 : (0 : Int) ≤ (k : Int) := by omega
        obtain ⟨b, off, rfl, hcell, hbh⟩ := HL.out.at_ k hlt
        have hx : l[k] < 65536 := HL.out.lt _ (List.getElem_mem hlt)
        generalize l[k] = x at *
        have cw : wr.drew.cell? ⟨b, off + k, none⟩ = some (.int .u16 (x : Int)) := by
          have := (hbl.cell (p := ⟨b, off + k, none⟩) hbh).trans hcell
          exact this
        have HCW := Lib.hid hcell
        obtain ⟨j, hj, hjk⟩ : ∃ j : Nat, (x : Int) % ((k : Int) + 1) = (j : Int) ∧ j ≤ k := ⟨x % (k + 1), by rw [Int.natCast_emod]; rfl, by have := Nat.mod_lt x (show 0 < k + 1 by omega); omega⟩
        obtain ⟨c, hc, hc2⟩ : ∃ c : Nat, IntKind.u8.wrap (k : Int) = (c : Int) ∧ c < 256 := ⟨k % 256, by simp [IntKind.wrap, IntKind.signed, IntKind.bits], by omega⟩
        have hnz : ¬ ((k : Int) + 1 = 0) := by omega
        obtain ⟨k1, hk1, hk1n⟩ : ∃ k1 : Nat, (k : Int) + 1 = (k1 : Int) ∧ ¬ ((k1 : Int) = 0) := ⟨k + 1, by omega, by omega⟩
        have hkw : IntKind.i64.wrap ((k : Int) + 1) = (k1 : Int) := by rw [hk1]; exact IntWalk.i64_in _ (by omega)
        have HK1 := Lib.hid hk1
        rw [hk1] at hj
        clear hk1 hnz
        have hjt : (IntKind.i64.wrap (x : Int)).tmod (k1 : Int) = (j : Int) := by
          rw [IntWalk.i64_in _ (by omega), Int.tmod_eq_emod_of_nonneg (by omega)]
          exact hj
        have hjt2 : (x : Int).tmod (k1 : Int) = (j : Int) := by
          rw [Int.tmod_eq_emod_of_nonneg (by omega)]
          exact hj
        have hk1z : ¬ k1 = 0 := by omega
        have HB := Lib.hid (And.intro hr (And.intro hbk hbl))
        clear hr hbk hbl hcell
        go_wp2_with fail
        go_region_held3 (fun w' => w'.cell? ⟨b, off + k, none⟩ = some (.int .u16 (x : Int)))
          (first | assumption | exact cell_alloc (by assumption) _ | exact cell_below (by assumption) b3 | exact cell_below (cell_alloc (by assumption) _) b3)
          (first | (go_at_call 12; (with_reducible refine (len_is B bs k _ (by first | exact rope_drew HB.out.1 | exact rope_drew (rope_alloc HB.out.1 _) | exact rope_alloc (rope_drew HB.out.1) _) HB.out.2.1).mono ?_); rintro e wq ⟨rfl, rfl⟩) | (go_at_call 11; refine (replace_len B bs j 0 1 _ 1 [c] _ (rope_drew (rope_alloc HB.out.1 _)) (by rw [HB.out.2.1]; exact hjk) (by rw [HB.out.2.1]; omega) rfl (by rw [HB.out.2.1]; omega) ((lit_bytes wr [c] (0, 0) (by intro y hy; simp at hy; omega) (by simp)).below (Below.refl _ _).drew)).mono ?_; rintro e w3 ⟨b3, C, rfl, hC, hr⟩))
        all_goals (
          have hC1 : IsRope w3 B bs := (rope_drew (rope_alloc HB.out.1 _)).below b3
          have hC2 : Below w.heap.size w w3 := HB.out.2.2.trans ((((below_new _ _).drew).trans (b3.mono (by simp))).mono HB.out.2.2.size)
          have hC3 : (swapped bs j 0 [c]).length = k1 := by
            rw [sw_len _ _ _ (by rw [HB.out.2.1]; exact hjk), HB.out.2.1]
            have := HK1.out
            simp only [List.length_cons, List.length_nil]
            omega
          have hC4 := sw_at bs j c (by rw [HB.out.2.1]; exact hjk)
          have cw3 : w3.drew.cell? ⟨b, off + k, none⟩ = some (.int .u16 (x : Int)) := by
            have := (hC2.cell (p := ⟨b, off + k, none⟩) hbh).trans HCW.out
            exact this
          have H3 := Lib.hid (And.intro hC1 (And.intro hr (And.intro hC3 (And.intro hC4 (And.intro HB.out.2.1 hC2)))))
          generalize swapped bs j 0 [c] = cs at *
          clear hC1 hC2 hC3 hC4 hr hC b3 HB cw
          go_wp2_with fail
          refine (deep_any C cs _ H3.out.2.1).mono ?_
          rintro e wq ⟨dq, rfl, hd1, hd2, hwq⟩
          have hwq2 := hwq.symm
          clear hwq
          subst hwq2
          have hd3 : ¬ (24 : Int) < (dq : Int) := by omega
          have hd4 : ¬ (dq : Int) < 1 := by omega
          clear hd1 hd2
          go_wp2_with fail
          refine (deep_any C cs _ H3.out.2.1).mono ?_
          rintro e wq ⟨dr, rfl, hd1, hd2, hwq⟩
          have hwq2 := hwq.symm
          clear hwq
          subst hwq2
          have hd5 : ¬ (24 : Int) < (dr : Int) := by omega
          have hd6 : ¬ (dr : Int) < 1 := by omega
          clear hd1 hd2
          go_wp2_with fail
          refine (len_is C cs k1 _ H3.out.2.1 H3.out.2.2.1).mono ?_
          rintro e wq ⟨rfl, hwq⟩
          have hwq2 := hwq.symm
          clear hwq
          subst hwq2
          go_wp2_with fail
          go_region_held3 (fun w' => w'.cell? ⟨b, off + k, none⟩ = some (.int .u16 (x : Int)))
            (first | assumption | exact cell_below (by assumption) b4)
            (first | (go_at_call 12; (with_reducible refine (len_is B bs k _ (rope_drew H3.out.1) H3.out.2.2.2.2.1).mono ?_); rintro e wq ⟨rfl, rfl⟩) | (go_at_call 16; (with_reducible refine (at_any C j cs c _ (rope_drew H3.out.2.1) H3.out.2.2.2.1).mono ?_); rintro e w4 ⟨rfl, b4⟩))
          all_goals (
            have hE1 : IsRope w4 C cs := (rope_drew H3.out.2.1).below b4
            have hE2 : Below w.heap.size w w4 := H3.out.2.2.2.2.2.drew.trans (b4.mono H3.out.2.2.2.2.2.size)
            have HE := Lib.hid (And.intro hE1 hE2)
            clear hE1 hE2 b4
            go_wp2
            go_roundw
            case rel =>
              exact ⟨k1, C, cs, rfl, rfl, HE.out.1, H3.out.2.2.1, by have := HK1.out; omega, by have := HK1.out; omega, HE.out.2⟩
            case measure => have := HK1.out; simp [intOf]; omega))
      · have hi1 : (k : Int) < (l.length : Int) := by omega
        have hi2 : ¬ (k : Int) < 2048 := by omega
        have HB := Lib.hid hbl
        clear hr hbk hbl
        go_wp2
        go_ret
        exact ⟨rfl, HB.out⟩
    · have hi1 : ¬ (k : Int) < (l.length : Int) := by omega
      have HB := Lib.hid hbl
      clear hr hbk hbl
      go_wp2
      go_ret
      exact ⟨rfl, HB.out⟩
end Go.Proofs.Yteaciponojocbaa
