/- The function that puts two trees behind each other: no leaf's bytes lie in block K. -/
import Derived.Test.YteaciponojocbaaAvTree
namespace Go.Proofs.Yteaciponojocbaa.Av
open Go.RowKit
variable {K : Nat}

theorem node_tr {w : World} {L R : Nat} {l r : Tr} (hl : IsTr K w L l) (hr : IsTr K w R r) (s d : Int) (hs : s = ((l.size + r.size : Nat) : Int)) (hd : d = ((max l.deep r.deep + 1 : Nat) : Int)) (h1 : 0 < l.size) (h2 : 0 < r.size) :
    IsTr K (w.alloc (.cells #[.pointer (some ⟨L, 0, none⟩), .pointer (some ⟨R, 0, none⟩), .slice none 0 0, .int .i64 s, .int .i64 d] 76)).drew.drew w.heap.size (.node l r) := by
  have hb0 : Below w.heap.size w (w.alloc (.cells #[.pointer (some ⟨L, 0, none⟩), .pointer (some ⟨R, 0, none⟩), .slice none 0 0, .int .i64 s, .int .i64 d] 76)).drew.drew := (below_new w _).drew.drew
  refine ⟨L, R, ?_, hl.below hb0, hr.below hb0, h1, h2⟩
  rw [← hs, ← hd]
  exact blk_alloc_at _ _ rfl

set_option maxHeartbeats 1000000 in
theorem join_any (L R : Nat) (l r : Tr) (w : World) (hl : IsTr K w L l) (hr : IsTr K w R r) (hls : l.size ≤ 16384) (hrs : r.size ≤ 16384) (hld : l.deep ≤ 16384) (hrd : r.deep ≤ 16384) (hKl : K < w.heap.size) :
    Calls Try.prog 24 #[.pointer (some ⟨L, 0, none⟩), .pointer (some ⟨R, 0, none⟩)] w fun e w' => ∃ J, e = .returned (.pointer (some ⟨J, 0, none⟩)) ∧ IsTr K w' J (joinT l r) ∧ Below w.heap.size w w' := by
  obtain ⟨l3, l4⟩ := hl.deepCell
  obtain ⟨r3, r4⟩ := hr.deepCell
  have hlB := hl.lt
  have hrB := hr.lt
  have HKL := Lib.hid hKl
  clear hKl
  have HL := Lib.hid hl
  have HR := Lib.hid hr
  clear hl hr
  by_cases h1 : l.size = 0
  · have hj : joinT l r = r := by unfold joinT; rw [if_pos h1]
    have HJ := Lib.hid hj
    have hb : ((l.size : Int) == 0) = true := by simp; omega
    clear hj h1
    go_enter Try.func24, Try.ntmps24
    go_wp2
    go_ret
    exact ⟨R, rfl, by rw [HJ.out]; exact HR.out, Below.refl _ _⟩
  · have hb : ((l.size : Int) == 0) = false := by simp; omega
    by_cases h2 : r.size = 0
    · have hj : joinT l r = l := by unfold joinT; rw [if_neg h1, if_pos h2]
      have HJ := Lib.hid hj
      have hb2 : ((r.size : Int) == 0) = true := by simp; omega
      clear hj h2
      go_enter Try.func24, Try.ntmps24
      go_wp2
      go_ret
      exact ⟨L, rfl, by rw [HJ.out]; exact HL.out, Below.refl _ _⟩
    · have hb2 : ((r.size : Int) == 0) = false := by simp; omega
      by_cases h3 : l.size + r.size ≤ 64
      · have hj : joinT l r = .leaf (l.bytes ++ r.bytes) := by unfold joinT; rw [if_neg h1, if_neg h2, if_pos h3]
        have HJ := Lib.hid hj
        have h3i : (l.size : Int) + (r.size : Int) ≤ 64 := by omega
        clear hj
        go_enter Try.func24, Try.ntmps24
        go_wp2
        go_region
        go_wp2_with fail
        refine (bytes_any l L _ (HL.out.below (Below.refl _ _).drew).tr (by omega)).mono ?_
        rintro e w1 ⟨u1, rfl, own1, b1⟩
        have b1' : Below w.heap.size w w1 := (Below.refl _ w).drew.trans b1
        go_wp2_with fail
        refine (bytes_any r R _ (HR.out.below b1').tr (by omega)).mono ?_
        rintro e w2 ⟨u2, rfl, own2, b2⟩
        have own1' : w2.ownsRow w.heap.size 5 1 u1 l.size (u8s l.bytes) := own_below own1 b2
        have b2' : Below w.heap.size w w2 := b1'.trans (b2.mono b1'.size)
        obtain ⟨g2, cap2, rfl, _, _⟩ := own2.form (by omega)
        have O1 := Lib.hid own1'
        have O2 := Lib.hid own2
        clear own1 own1' own2 b1 b1' b2
        obtain ⟨i0, hi, hz0, hz1, hz2⟩ := info_parts info5
        go_wp2_with (at_builtin; refine wpList_append_own _ rfl _ _ 28 rfl w.heap.size 5 i0 _ 1 1 Try.underlying28 hi hz0 hz1 hz2 rfl (by decide) u1 l.size (u8s l.bytes) rfl O1.out ⟨g2, 0, none⟩ r.size cap2 (u8s r.bytes) rfl ?c0 ?c1 ?c2 ?c3 ?c4 ?c5 ?_)
        case c0 => rw [u8s_length]; exact (Nat.mul_one _).symm
        case c1 => exact own_cells O2.out
        case c2 => exact u8s_one _
        case c3 => unfold maxLen; omega
        case c4 => omega
        case c5 => exact b2'.size
        intro v' w3 own3 hgrow hnil
        have hb3 : Below w.heap.size w w3 := Below.grown b2' hgrow b2'.size (own_base O1.out)
        have e3 : l.size + r.size = (l.bytes ++ r.bytes).length := by rw [List.length_append]; rfl
        rw [e3, ← u8s_append] at own3
        obtain ⟨a, cap, rfl, hB⟩ := bytes_own own3 (fun b hb => by
          rcases List.mem_append.1 hb with hb | hb
          · exact HL.out.lt256 b hb
          · exact HR.out.lt256 b hb)
        have HFR := Lib.hid (own_far own3 HKL.out)
        generalize l.bytes ++ r.bytes = bs at *
        have HB := Lib.hid hB
        have HB3 := Lib.hid hb3
        clear own3 hgrow hnil hB hb3 e3 b2'
        go_wp2_with fail
        refine (leaf_any a _ cap _).mono ?_
        rintro e w4 ⟨rfl, rfl⟩
        go_wp2_with fail
        go_ret
        exact ⟨w3.heap.size, rfl, by rw [HJ.out]; exact ⟨a, cap, blk_alloc_at _ _ rfl, HB.out.below (below_new _ _), HFR.out⟩, below_alloc HB3.out (Nat.le_refl _) _⟩
      · have hj : joinT l r = .node l r := by unfold joinT; rw [if_neg h1, if_neg h2, if_neg h3]
        have HJ := Lib.hid hj
        have h3i : ¬ (l.size : Int) + (r.size : Int) ≤ 64 := by omega
        clear hj
        go_enter Try.func24, Try.ntmps24
        go_wp2
        go_region
        go_wp2
        go_region
        go_wp2
        all_goals
          go_ret
          exact ⟨w.heap.size, rfl, by rw [HJ.out]; exact node_tr HL.out HR.out _ _ (by omega) (by omega) (by omega) (by omega), (below_new w _).drew.drew⟩
end Go.Proofs.Yteaciponojocbaa.Av
