/- The rope's tree: in plain words, and in memory; the walk of the function that tells a tree's bytes. -/
import Derived.Test.YteaciponojocbaaBase
import Derived.Deep.RegionHeld3
import Derived.Deep.AppendLies
import Derived.Deep.DrawnRows
namespace Go.Proofs.Yteaciponojocbaa
open Go.RowKit

/-- A leaf, or two trees, one behind the other. -/
inductive Tr where
  | leaf (bs : List Nat)
  | node (l r : Tr)
def Tr.bytes : Tr → List Nat
  | .leaf bs => bs
  | .node l r => l.bytes ++ r.bytes
def Tr.deep : Tr → Nat
  | .leaf _ => 1
  | .node l r => max l.deep r.deep + 1
def Tr.size (t : Tr) : Nat := t.bytes.length

/-- A tree in memory: what is behind a block's number. -/
def IsTr (w : World) (B : Nat) : Tr → Prop
  | .leaf bs => ∃ a cap, blk w B = some (.cells #[.pointer none, .pointer none, .slice a bs.length cap, .int .i64 (bs.length : Int), .int .i64 1] 76 (0, 0)) ∧ IsBytes w a cap bs
  | .node l r => ∃ L R, blk w B = some (.cells #[.pointer (some ⟨L, 0, none⟩), .pointer (some ⟨R, 0, none⟩), .slice none 0 0, .int .i64 ((l.size + r.size : Nat) : Int), .int .i64 ((max l.deep r.deep + 1 : Nat) : Int)] 76 (0, 0)) ∧ IsTr w L l ∧ IsTr w R r ∧ 0 < l.size ∧ 0 < r.size

theorem IsTr.lt {w : World} {B : Nat} {t : Tr} (h : IsTr w B t) : B < w.heap.size := by
  cases t with
  | leaf bs => obtain ⟨a, cap, h1, _⟩ := h; exact blk_lt h1
  | node l r => obtain ⟨L, R, h1, _⟩ := h; exact blk_lt h1
theorem IsTr.below {w w' : World} {t : Tr} : ∀ {B : Nat}, IsTr w B t → Below w.heap.size w w' → IsTr w' B t := by
  induction t with
  | leaf bs => intro B ⟨a, cap, h1, h2⟩ hb; exact ⟨a, cap, (blk_below hb (blk_lt h1)).trans h1, h2.below hb⟩
  | node l r il ir => intro B ⟨L, R, h1, h2, h3, h4, h5⟩ hb; exact ⟨L, R, (blk_below hb (blk_lt h1)).trans h1, il h2 hb, ir h3 hb, h4, h5⟩
theorem IsTr.deepCell {w : World} {B : Nat} {t : Tr} (h : IsTr w B t) : w.cell? ⟨B, 3, none⟩ = some (.int .i64 (t.size : Int)) ∧ w.cell? ⟨B, 4, none⟩ = some (.int .i64 (t.deep : Int)) := by
  cases t with
  | leaf bs => obtain ⟨a, cap, h1, _⟩ := h; exact ⟨blk_cell h1 3, blk_cell h1 4⟩
  | node l r =>
    obtain ⟨L, R, h1, _⟩ := h
    refine ⟨(blk_cell h1 3).trans ?_, blk_cell h1 4⟩
    have : (Tr.node l r).size = l.size + r.size := by simp [Tr.size, Tr.bytes]
    rw [this]; rfl
theorem own_below {w w' : World} {base : Nat} {v : Value} {n : Nat} {xs : List Value} (h : w.ownsRow base 5 1 v n xs) (hb : Below w.heap.size w w') : w'.ownsRow base 5 1 v n xs := by
  refine ⟨h.1, ?_⟩
  rcases h.2 with h2 | ⟨g, cap, cur, hv, hg, hh, r⟩
  · exact .inl h2
  · exact .inr ⟨g, cap, cur, hv, hg, by rw [hb.block g (Array.getElem?_eq_some_iff.1 hh).1]; exact hh, r⟩

theorem bytes_leaf (B : Nat) (bs : List Nat) (w : World) (h : IsTr w B (.leaf bs)) (hl : bs.length ≤ 65536) :
    Calls Try.prog 25 #[.pointer (some ⟨B, 0, none⟩)] w fun e w' => ∃ u, e = .returned u ∧ w'.ownsRow w.heap.size 5 1 u bs.length (u8s bs) ∧ Below w.heap.size w w' := by
  obtain ⟨a, cap, h1, h2⟩ := h
  have hc := blk_cell h1
  have HB := Lib.hid h2
  clear h1 h2
  go_enter Try.func25, Try.ntmps25
  go_wp2_with (go_at_call 26; refine (clone_any a cap bs _ HB.out (by omega)).mono ?_; rintro e w1 ⟨u, rfl, hown, hb⟩)
  go_ret
  exact ⟨u, rfl, hown, hb⟩

structure KN (u : World) (L R : Nat) (l r : Tr) (w : World) : Prop where
  l : IsTr w L l
  r : IsTr w R r
  d : Below u.heap.size u w
theorem KN.below {u w w' : World} {L R : Nat} {l r : Tr} (h : KN u L R l r w) (hb : Below w.heap.size w w') : KN u L R l r w' := ⟨h.l.below hb, h.r.below hb, h.d.trans (hb.mono h.d.size)⟩

theorem own_cells {w : World} {base g cap : Nat} {bs : List Nat} (h : w.ownsRow base 5 1 (.slice (some ⟨g, 0, none⟩) bs.length cap) bs.length (u8s bs)) : ∀ j u, (u8s bs)[j]? = some u → w.cell? ((⟨g, 0, none⟩ : Addr).add j) = some u := by
  intro j u hu
  have hj : j < bs.length := by
    rcases Nat.lt_or_ge j bs.length with h | h
    · exact h
    · rw [List.getElem?_eq_none (by rw [u8s_length]; exact h)] at hu; cases hu
  have e : (⟨g, 0, none⟩ : Addr).add j = ⟨g, j, none⟩ := by unfold Addr.add; split <;> simp_all
  rw [e, h.cellAt j (by omega)]
  exact hu
theorem u8s_one (bs : List Nat) : ∀ u ∈ u8s bs, u.oneCell' = true := fun u hu => by obtain ⟨x, _, rfl⟩ := List.mem_map.1 hu; rfl
theorem own_base {w : World} {base : Nat} {v : Value} {n : Nat} {xs : List Value} (h : w.ownsRow base 5 1 v n xs) : ∀ k, v.ownBlock = some k → base ≤ k := fun k hk => (h.lt k hk).1
theorem two_grown {w w' : World} {B N : Nat} {x y : Value} {i j : Nat} {row : Option Nat} (h : w.cell? ⟨B, i, none⟩ = some x ∧ w.cell? ⟨B, j, none⟩ = some y ∧ B < w.heap.size) (hg : w.grownBy w' row) (hr : ∀ k, row = some k → N ≤ k) (hB : B < N) : w'.cell? ⟨B, i, none⟩ = some x ∧ w'.cell? ⟨B, j, none⟩ = some y ∧ B < w'.heap.size := by
  have hne : some B ≠ row := fun e => by have := hr B e.symm; omega
  exact ⟨(hg.cell_far ⟨B, i, none⟩ h.2.2 hne).trans h.1, (hg.cell_far ⟨B, j, none⟩ h.2.2 hne).trans h.2.1, Nat.lt_of_lt_of_le h.2.2 hg.size⟩
theorem two_keep {w w' : World} {B : Nat} {x y : Value} {i j : Nat} (h : w.cell? ⟨B, i, none⟩ = some x ∧ w.cell? ⟨B, j, none⟩ = some y ∧ B < w.heap.size) (hb : Below w.heap.size w w') : w'.cell? ⟨B, i, none⟩ = some x ∧ w'.cell? ⟨B, j, none⟩ = some y ∧ B < w'.heap.size :=
  ⟨(hb.cell (p := ⟨B, i, none⟩) h.2.2).trans h.1, (hb.cell (p := ⟨B, j, none⟩) h.2.2).trans h.2.1, Nat.lt_of_lt_of_le h.2.2 hb.size⟩

set_option maxHeartbeats 1000000 in
theorem bytes_node (B : Nat) (l r : Tr) (w : World) (h : IsTr w B (.node l r)) (hl : (Tr.node l r).size ≤ 65536)
    (il : ∀ (L : Nat) (w : World), IsTr w L l → Calls Try.prog 25 #[.pointer (some ⟨L, 0, none⟩)] w fun e w' => ∃ u, e = .returned u ∧ w'.ownsRow w.heap.size 5 1 u l.size (u8s l.bytes) ∧ Below w.heap.size w w')
    (ir : ∀ (R : Nat) (w : World), IsTr w R r → Calls Try.prog 25 #[.pointer (some ⟨R, 0, none⟩)] w fun e w' => ∃ u, e = .returned u ∧ w'.ownsRow w.heap.size 5 1 u r.size (u8s r.bytes) ∧ Below w.heap.size w w') :
    Calls Try.prog 25 #[.pointer (some ⟨B, 0, none⟩)] w fun e w' => ∃ u, e = .returned u ∧ w'.ownsRow w.heap.size 5 1 u (Tr.node l r).size (u8s (Tr.node l r).bytes) ∧ Below w.heap.size w w' := by
  obtain ⟨L, R, h1, h2, h3, h4, h5⟩ := h
  obtain ⟨i0, hi, hz0, hz1, hz2⟩ := info_parts info5
  have IL := Lib.hid il
  have IR := Lib.hid ir
  have hsz : l.size + r.size ≤ 65536 := by have : (Tr.node l r).size = l.size + r.size := by simp [Tr.size, Tr.bytes]
                                           omega
  have c0 : w.cell? ⟨B, 0, none⟩ = some (.pointer (some ⟨L, 0, none⟩)) := blk_cell h1 0
  have c1 : w.cell? ⟨B, 1, none⟩ = some (.pointer (some ⟨R, 0, none⟩)) := blk_cell h1 1
  have hB := blk_lt h1
  have k0 : KN w L R l r w.drew := (KN.mk h2 h3 (Below.refl _ _)).below (Below.refl _ _).drew
  have K0 := Lib.hid k0
  clear k0 h1 h2 h3 il ir
  go_enter Try.func25, Try.ntmps25
  go_wp2_with fail
  go_region_held3 (fun w' => w'.cell? ⟨B, 0, none⟩ = some (.pointer (some ⟨L, 0, none⟩)) ∧ w'.cell? ⟨B, 1, none⟩ = some (.pointer (some ⟨R, 0, none⟩)) ∧ B < w'.heap.size)
    (first | exact ⟨c0, c1, hB⟩ | assumption | exact two_keep (w := w.drew) ⟨c0, c1, hB⟩ b1 | exact two_keep (by assumption) b2 | exact two_grown (by assumption) hgrow (own_base own1') hB)
    (first | (go_at_call 25; (with_reducible refine (IL.out L _ (KN.l K0.out)).mono ?_); rintro e w1 ⟨u1, rfl, own1, b1⟩; have K1 := Lib.hid (K0.out.below b1)) | (go_at_call 25; (with_reducible refine (IR.out R _ (KN.r K1.out)).mono ?_); rintro e w2 ⟨u2, rfl, own2, b2⟩; have K2 := Lib.hid (K1.out.below b2); have own1' := own_below own1 b2; have hbase := Nat.le_trans b1.size b2.size; obtain ⟨g2, cap2, rfl, _, _⟩ := own2.form h5) | ((refine step_append_lies _ (by rfl) _ _ _ (by rfl) w.heap.size 5 i0 _ 1 1 Try.underlying28 hi hz0 hz1 hz2 (by rfl) (by decide) u1 l.size (u8s l.bytes) (by rfl) own1' ⟨g2, 0, none⟩ r.size cap2 (u8s r.bytes) (by rfl) (by rw [u8s_length]; exact (Nat.mul_one _).symm) (own_cells own2) (u8s_one _) h5 (by unfold maxLen; omega) (by omega) hbase _ rfl ?_; intro g cap w3 own3 hgrow hat hlt)))
  have hd : Below w.heap.size w w3 := Below.grown K2.out.d hgrow hbase (own_base own1')
  have ho : w3.ownsRow w.heap.size 5 1 (.slice (some ⟨g, 0, none⟩) (l.size + r.size) cap) (Tr.node l r).size (u8s (Tr.node l r).bytes) := by
    have e1 : (Tr.node l r).size = l.size + r.size := by simp [Tr.size, Tr.bytes]
    rw [e1, Tr.bytes, u8s_append]
    exact own3
  have HO := Lib.hid ho
  clear own1 own2 own1' own3 hgrow hat hlt ho b1 b2
  go_wp2
  go_ret
  exact ⟨_, rfl, HO.out, hd⟩

/-- A tree's bytes, in new memory. -/
theorem bytes_any (t : Tr) : ∀ (B : Nat) (w : World), IsTr w B t → t.size ≤ 65536 → Calls Try.prog 25 #[.pointer (some ⟨B, 0, none⟩)] w fun e w' => ∃ u, e = .returned u ∧ w'.ownsRow w.heap.size 5 1 u t.size (u8s t.bytes) ∧ Below w.heap.size w w' := by
  induction t with
  | leaf bs => intro B w h hl; exact bytes_leaf B bs w h hl
  | node l r il ir =>
    intro B w h hl
    have hsz : (Tr.node l r).size = l.size + r.size := by simp [Tr.size, Tr.bytes]
    exact bytes_node B l r w h hl (fun L w h => il L w h (by omega)) (fun R w h => ir R w h (by omega))
end Go.Proofs.Yteaciponojocbaa
