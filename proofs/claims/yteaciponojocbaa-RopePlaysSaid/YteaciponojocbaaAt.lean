/- The walk of the rope's At. -/
import Derived.Test.YteaciponojocbaaOpen
namespace Go.Proofs.Yteaciponojocbaa
open Go.RowKit

theorem IsTr.left {w : World} {B : Nat} {t : Tr} (h : IsTr w B t) : (∃ bs, t = .leaf bs) ∨ ∃ l r, t = .node l r := by cases t; exact .inl ⟨_, rfl⟩; exact .inr ⟨_, _, rfl⟩

/-- How deep the tree is that a pointer leads to. -/
def deepOf (p : Value) (w : World) : Nat :=
  match p with
  | .pointer (some a) => match w.cell? ⟨a.block, 4, none⟩ with
    | some (.int _ d) => d.toNat
    | _ => 0
  | _ => 0
theorem deepOf_is {w : World} {B : Nat} {t : Tr} (h : IsTr w B t) : deepOf (.pointer (some ⟨B, 0, none⟩)) w = t.deep := by
  have := h.deepCell.2
  simp [deepOf, this]
theorem leafByte {w : World} {a : Option Addr} {cap : Nat} {bs : List Nat} (h : IsBytes w a cap bs) {i c : Nat} (hc : bs[i]? = some c) : ∃ b off, a = some ⟨b, off, none⟩ ∧ w.cell? ⟨b, off + i, none⟩ = some (.int .u8 (c : Int)) ∧ i < bs.length := by
  obtain ⟨hi, e⟩ := List.getElem?_eq_some_iff.1 hc
  cases a with
  | none => have := h.nil rfl; have := h.le; omega
  | some p =>
    obtain ⟨h1, h2, h3⟩ := h.at_ p rfl
    obtain ⟨b, off, spot⟩ := p
    have h1' : spot = none := h1
    subst h1'
    exact ⟨b, off, rfl, by rw [h2 i hi, e], hi⟩

set_option maxRecDepth 100000 in
set_option maxHeartbeats 2000000 in
theorem at_any (B i : Nat) (bs : List Nat) (c : Nat) (w : World) (h : IsRope w B bs) (hc : bs[i]? = some c) :
    Calls Try.prog 16 #[.pointer (some ⟨B, 0, none⟩), .int .i64 (i : Int)] w fun e w' => e = .returned (.tuple #[.int .u8 (c : Int), .bool true]) ∧ Below w.heap.size w w' := by
  obtain ⟨J, t, d, all, n, g1, g2, g3, g4, g5, g6⟩ := id h
  have c0 := blk_cell g1 0
  have hil : i < bs.length := (List.getElem?_eq_some_iff.1 hc).1
  have h1 : ¬ (i : Int) < 0 := by omega
  have h2 : (i : Int) < (bs.length : Int) := by omega
  have HR := Lib.hid h
  have HT := Lib.hid (And.intro g2 (And.intro g3 hc))
  clear h g1 g2 g3 g6 hc
  go_enter Try.func16, Try.ntmps16
  go_wp2_with (go_at_call 12; refine (len_any B bs _ HR.out).mono ?_; rintro e w' ⟨rfl, rfl⟩)
  have hdb : decide (bs.length ≤ i) = false := by simp; omega
  simp only [hdb]
  go_loopw [6, 1] (fun p q wr => ∃ (J' : Nat) (t' : Tr) (i' : Nat), p = .pointer (some ⟨J', 0, none⟩) ∧ q = .int .i64 (i' : Int) ∧ IsTr wr J' t' ∧ t'.bytes[i']? = some c ∧ t'.size ≤ 2048 ∧ Below w'.heap.size w' wr) (fun p _ wr => deepOf p wr)
  case atStart =>
    exact ⟨J, t, i, rfl, rfl, HT.out.1, by rw [HT.out.2.1]; exact HT.out.2.2, by unfold Tr.size; rw [HT.out.2.1]; exact g5, Below.refl _ _⟩
  case round =>
    rename_i wr
    obtain ⟨J', t', i', rfl, rfl, htr, hci, hsz, hbl⟩ := hrel
    have hil' : i' < t'.bytes.length := (List.getElem?_eq_some_iff.1 hci).1
    clear c0 HR HT
    cases t' with
    | leaf bs' =>
      obtain ⟨a', cap', k1, k2⟩ := htr
      obtain ⟨b', off', rfl, k3, k4⟩ := leafByte k2 hci
      have q0 := blk_cell k1 0
      have q2 := blk_cell k1 2
      have k4i : (i' : Int) < (bs'.length : Int) := by omega
      have k5 : (0 : Int) ≤ (i' : Int) := by omega
      have HB := Lib.hid hbl
      clear k1 k2 hci hbl hil' hsz
      go_wp2
      go_ret2
      exact ⟨rfl, HB.out⟩
    | node l r =>
      obtain ⟨L, R, k1, k2, k3, k4, k5⟩ := htr
      have q0 := blk_cell k1 0
      have q1 := blk_cell k1 1
      have q3 := k2.deepCell.1
      have hsz' : l.size + r.size ≤ 2048 := by have : (Tr.node l r).size = l.size + r.size := by simp [Tr.size, Tr.bytes]
                                               omega
      have dp : deepOf (.pointer (some ⟨J', 0, none⟩)) wr = max l.deep r.deep + 1 := by
        have q4 := blk_cell k1 4
        simp at q4
        simp [deepOf, q4]
      have HB := Lib.hid hbl
      have HK := Lib.hid (And.intro k2 k3)
      have HC := Lib.hid hci
      have HD := Lib.hid dp
      clear k1 k2 k3 hci hbl hsz dp
      by_cases hlt : i' < l.size
      · have hlti : (i' : Int) < (l.size : Int) := by omega
        clear hil'
        go_wp2
        go_roundw
        case rel =>
          refine ⟨L, l, i', rfl, rfl, HK.out.1, ?_, by omega, HB.out⟩
          have := HC.out
          rw [show (Tr.node l r).bytes = l.bytes ++ r.bytes from rfl, List.getElem?_append_left hlt] at this
          exact this
        case measure => rw [HD.out, deepOf_is HK.out.1]; omega
      · have hlti : ¬ (i' : Int) < (l.size : Int) := by omega
        obtain ⟨m, hm⟩ : ∃ m : Nat, (i' : Int) - (l.size : Int) = (m : Int) := ⟨i' - l.size, by omega⟩
        have hmm : m = i' - l.size := by omega
        have hib : i' < 2048 := by have e : (Tr.node l r).bytes.length = l.size + r.size := by simp [Tr.size, Tr.bytes]
                                   omega
        have hw : IntKind.i64.wrap ((i' : Int) - (l.size : Int)) = (m : Int) := by rw [hm]; exact IntWalk.i64_in _ (by omega)
        have HM := Lib.hid hmm
        clear hil' hm hmm
        go_wp2
        go_region
        all_goals (
          go_wp2
          go_roundw
          case rel =>
            refine ⟨R, r, m, rfl, rfl, HK.out.2.below (Below.refl _ _).drew, ?_, by omega, HB.out.drew⟩
            have := HC.out
            rw [show (Tr.node l r).bytes = l.bytes ++ r.bytes from rfl, List.getElem?_append_right (by show l.size ≤ i'; omega)] at this
            rw [HM.out]; exact this
          case measure => rw [HD.out, deepOf_is (HK.out.2.below (Below.refl _ _).drew)]; omega)
end Go.Proofs.Yteaciponojocbaa
