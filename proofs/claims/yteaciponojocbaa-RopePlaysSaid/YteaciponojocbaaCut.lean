/- The walk of the function that cuts a tree in two. -/
import Derived.Test.YteaciponojocbaaBuild
namespace Go.Proofs.Yteaciponojocbaa
open Go.RowKit

def CutAt (w : World) (t : Tr) (k : Nat) (e : Ending) (w' : World) : Prop :=
  ∃ L R l r, e = .returned (.tuple #[.pointer (some ⟨L, 0, none⟩), .pointer (some ⟨R, 0, none⟩)]) ∧ IsTr w' L l ∧ IsTr w' R r ∧ l.bytes = t.bytes.take k ∧ r.bytes = t.bytes.drop k ∧ l.deep ≤ t.deep ∧ r.deep ≤ t.deep ∧ Below w.heap.size w w'

theorem leaf_b (a : Option Addr) (n cap : Nat) (w : World) :
    Calls Try.prog 29 #[.slice a n cap] w fun e w' => ∃ J, e = .returned (.pointer (some ⟨J, 0, none⟩)) ∧ (∀ bs, IsBytes w a cap bs → bs.length = n → IsTr w' J (.leaf bs)) ∧ Below w.heap.size w w' :=
  (leaf_any a n cap w).mono fun e w' ⟨he, hw⟩ => ⟨w.heap.size, he, fun bs hb hn => by
    subst hw
    refine ⟨a, cap, ?_, hb.below (below_new _ _)⟩
    rw [hn]; exact blk_alloc_at _ _ rfl, hw ▸ below_new _ _⟩

theorem cell_keep {w w' : World} {B i : Nat} {x : Value} (h : w.cell? ⟨B, i, none⟩ = some x ∧ B < w.heap.size) (hb : Below w.heap.size w w') : w'.cell? ⟨B, i, none⟩ = some x ∧ B < w'.heap.size :=
  ⟨(hb.cell (p := ⟨B, i, none⟩) h.2).trans h.1, Nat.lt_of_lt_of_le h.2 hb.size⟩

set_option maxHeartbeats 1000000 in
/-- The cut behind which there is no room. -/
theorem cut_leaf_end (B k : Nat) (a : Option Addr) (bs : List Nat) (w : World) (c0 : w.cell? ⟨B, 0, none⟩ = some (.pointer none)) (c2 : w.cell? ⟨B, 2, none⟩ = some (.slice a k k)) (hB : B < w.heap.size) (hb : IsBytes w a k bs) (hk : bs.length = k) (hu : k ≤ 16384) :
    Calls Try.prog 23 #[.pointer (some ⟨B, 0, none⟩), .int .i64 (k : Int)] w (CutAt w (.leaf bs) k) := by
  have k0 : (0 : Int) ≤ (k : Int) := by omega
  have HB := Lib.hid (hb.below (Below.refl _ _).drew)
  have HK := Lib.hid hk
  clear hb hk
  go_enter Try.func23, Try.ntmps23
  go_wp2_with fail
  go_region_held3 (fun w' => w'.cell? ⟨B, 2, none⟩ = some (.slice a k k) ∧ B < w'.heap.size)
    (first | exact ⟨c2, hB⟩ | assumption | exact cell_keep (w := w.drew) ⟨c2, hB⟩ b1 | exact cell_keep (by assumption) b2)
    (first | (go_at_call 29; (with_reducible refine (leaf_b a k k _).mono ?_); rintro e w1 ⟨J1, rfl, q1, b1⟩) | (go_at_call 29; refine (leaf_b _ _ _ _).mono ?_; rintro e w2 ⟨J2, rfl, q2, b2⟩))
  have p1 := (q1 bs HB.out HK.out).below b2
  have p2 := q2 [] ⟨Nat.zero_le _, by decide, fun _ => rfl, fun p e => ⟨((HB.out.below b1).at_ p e).1, fun i hi => absurd hi (by simp), ((HB.out.below b1).at_ p e).2.2⟩, fun b hb => by cases hb⟩ rfl
  have hd : Below w.heap.size w w2 := (Below.refl _ w).drew.trans (b1.trans (b2.mono b1.size))
  have H := Lib.hid (And.intro p1 (And.intro p2 hd))
  clear q1 q2 p1 p2 hd b1 b2
  go_wp2
  go_ret2
  refine ⟨J1, J2, _, _, rfl, H.out.1, H.out.2.1, ?_, ?_, Nat.le_refl _, Nat.le_refl _, H.out.2.2⟩
  · show bs = bs.take k
    rw [← HK.out, List.take_length]
  · show [] = bs.drop k
    rw [← HK.out, List.drop_length]

set_option maxHeartbeats 1000000 in
theorem cut_leaf_mid (B k n cap b off : Nat) (bs : List Nat) (w : World) (c0 : w.cell? ⟨B, 0, none⟩ = some (.pointer none)) (c2 : w.cell? ⟨B, 2, none⟩ = some (.slice (some ⟨b, off, none⟩) n cap)) (hB : B < w.heap.size) (hb : IsBytes w (some ⟨b, off, none⟩) cap bs) (hn : bs.length = n) (hk : k ≤ n) (hcap : n ≤ cap) (hne : ¬ cap = k) :
    Calls Try.prog 23 #[.pointer (some ⟨B, 0, none⟩), .int .i64 (k : Int)] w (CutAt w (.leaf bs) k) := by
  have k0 : (0 : Int) ≤ (k : Int) := by omega
  have k1 : (k : Int) ≤ (n : Int) := by omega
  have k2 : (k : Int) ≤ (cap : Int) := by omega
  have n2 : (n : Int) ≤ (cap : Int) := by omega
  have HB := Lib.hid (hb.below (Below.refl _ _).drew)
  have HN := Lib.hid hn
  clear hb hn
  go_enter Try.func23, Try.ntmps23
  go_wp2_with fail
  go_region_held3 (fun w' => w'.cell? ⟨B, 2, none⟩ = some (.slice (some ⟨b, off, none⟩) n cap) ∧ B < w'.heap.size)
    (first | exact ⟨c2, hB⟩ | assumption | exact cell_keep (w := w.drew) ⟨c2, hB⟩ b1 | exact cell_keep (by assumption) b2)
    (first | (go_at_call 29; (with_reducible refine (leaf_b (some ⟨b, off, none⟩) k cap _).mono ?_); rintro e w1 ⟨J1, rfl, q1, b1⟩) | (go_at_call 29; refine (leaf_b _ _ _ _).mono ?_; rintro e w2 ⟨J2, rfl, q2, b2⟩))
  have p1 := (q1 (bs.take k) (HB.out.take k (by rw [HN.out]; exact hk)) (by rw [List.length_take, HN.out]; omega)).below b2
  have p2 := q2 (bs.drop k) ((HB.out.below b1).drop k (by rw [HN.out]; exact hk)) (by rw [List.length_drop, HN.out])
  have hd : Below w.heap.size w w2 := (Below.refl _ w).drew.trans (b1.trans (b2.mono b1.size))
  have H := Lib.hid (And.intro p1 (And.intro p2 hd))
  clear q1 q2 p1 p2 hd b1 b2
  go_wp2
  go_ret2
  exact ⟨J1, J2, _, _, rfl, H.out.1, H.out.2.1, rfl, rfl, Nat.le_refl _, Nat.le_refl _, H.out.2.2⟩

theorem cut_leaf (B k : Nat) (bs : List Nat) (w : World) (h : IsTr w B (.leaf bs)) (hk : k ≤ bs.length) (hu : bs.length ≤ 16384) :
    Calls Try.prog 23 #[.pointer (some ⟨B, 0, none⟩), .int .i64 (k : Int)] w (CutAt w (.leaf bs) k) := by
  obtain ⟨a, cap, h1, h2⟩ := h
  have c0 : w.cell? ⟨B, 0, none⟩ = some (.pointer none) := blk_cell h1 0
  have c2 : w.cell? ⟨B, 2, none⟩ = some (.slice a bs.length cap) := blk_cell h1 2
  have hcap := h2.le
  by_cases hck : cap = k
  · have hn : bs.length = k := by omega
    subst hck
    rw [hn] at c2
    exact cut_leaf_end B cap a bs w c0 c2 (blk_lt h1) h2 hn (by omega)
  · cases a with
    | none => have := h2.nil rfl; omega
    | some p =>
      have hsp := (h2.at_ p rfl).1
      obtain ⟨b, off, spot⟩ := p
      have hsp' : spot = none := hsp
      subst hsp'
      exact cut_leaf_mid B k bs.length cap b off bs w c0 c2 (blk_lt h1) h2 rfl hk hcap hck

theorem three_keep {w w' : World} {B L : Nat} {x y z : Value} {i j k : Nat} (h : w.cell? ⟨B, i, none⟩ = some x ∧ w.cell? ⟨B, j, none⟩ = some y ∧ w.cell? ⟨L, k, none⟩ = some z ∧ B < w.heap.size ∧ L < w.heap.size) (hb : Below w.heap.size w w') : w'.cell? ⟨B, i, none⟩ = some x ∧ w'.cell? ⟨B, j, none⟩ = some y ∧ w'.cell? ⟨L, k, none⟩ = some z ∧ B < w'.heap.size ∧ L < w'.heap.size :=
  ⟨(hb.cell (p := ⟨B, i, none⟩) h.2.2.2.1).trans h.1, (hb.cell (p := ⟨B, j, none⟩) h.2.2.2.1).trans h.2.1, (hb.cell (p := ⟨L, k, none⟩) h.2.2.2.2).trans h.2.2.1, Nat.lt_of_lt_of_le h.2.2.2.1 hb.size, Nat.lt_of_lt_of_le h.2.2.2.2 hb.size⟩

set_option maxHeartbeats 1000000 in
theorem cut_node (B k : Nat) (l r : Tr) (w : World) (h : IsTr w B (.node l r)) (hk : k ≤ (Tr.node l r).size) (hu : (Tr.node l r).size ≤ 16384) (hd : (Tr.node l r).deep ≤ 16384)
    (il : ∀ (L k : Nat) (w : World), IsTr w L l → k ≤ l.size → Calls Try.prog 23 #[.pointer (some ⟨L, 0, none⟩), .int .i64 (k : Int)] w (CutAt w l k))
    (ir : ∀ (R k : Nat) (w : World), IsTr w R r → k ≤ r.size → Calls Try.prog 23 #[.pointer (some ⟨R, 0, none⟩), .int .i64 (k : Int)] w (CutAt w r k)) :
    Calls Try.prog 23 #[.pointer (some ⟨B, 0, none⟩), .int .i64 (k : Int)] w (CutAt w (.node l r) k) := by
  obtain ⟨L, R, h1, h2, h3, h4, h5⟩ := h
  have hsz : (Tr.node l r).size = l.size + r.size := by simp [Tr.size, Tr.bytes]
  have hdp : (Tr.node l r).deep = max l.deep r.deep + 1 := rfl
  have c0 : w.cell? ⟨B, 0, none⟩ = some (.pointer (some ⟨L, 0, none⟩)) := blk_cell h1 0
  have c1 : w.cell? ⟨B, 1, none⟩ = some (.pointer (some ⟨R, 0, none⟩)) := blk_cell h1 1
  have c3 := h2.deepCell.1
  have hB := blk_lt h1
  have hL := h2.lt
  have K := Lib.hid (And.intro h2 h3)
  have IL := Lib.hid il
  have IR := Lib.hid ir
  rw [hsz] at hk hu
  rw [hdp] at hd
  clear h1 h2 h3 il ir hsz hdp
  by_cases hlk : k ≤ l.size
  · have hki : (k : Int) ≤ (l.size : Int) := by omega
    go_enter Try.func23, Try.ntmps23
    go_wp2_with fail
    refine (IL.out L k _ K.out.1 hlk).mono ?_
    rintro e w1 ⟨A, C, t1, t2, rfl, i1, i2, e1, e2, d1, d2, b1⟩
    have c1w : w1.cell? ⟨B, 1, none⟩ = some (.pointer (some ⟨R, 0, none⟩)) := (b1.cell (p := ⟨B, 1, none⟩) hB).trans c1
    have s2 : t2.size ≤ 16384 := by unfold Tr.size; rw [e2, List.length_drop]; show l.size - k ≤ _; omega
    have hT := (K.out.2.below b1)
    have H := Lib.hid (And.intro i1 (And.intro i2 (And.intro hT b1)))
    have HE := Lib.hid (And.intro e1 e2)
    clear i1 i2 hT b1 e1 e2 K
    go_wp2_with fail
    refine (join_any C R t2 r _ H.out.2.1 H.out.2.2.1 s2 (by omega) (by omega) (by omega)).mono ?_
    rintro e w2 ⟨J, rfl, tj, b2⟩
    have hd2 : Below w.heap.size w w2 := H.out.2.2.2.trans (b2.mono H.out.2.2.2.size)
    have H2 := Lib.hid (And.intro (H.out.1.below b2) (And.intro tj hd2))
    clear tj b2 hd2
    go_wp2_with fail
    go_ret2
    have hj := joinT_deep t2 r
    refine ⟨A, J, t1, joinT t2 r, rfl, H2.out.1, H2.out.2.1, ?_, ?_, ?_, ?_, H2.out.2.2⟩
    · rw [HE.out.1]; show _ = (l.bytes ++ r.bytes).take k
      rw [List.take_append_of_le_length hlk]
    · rw [joinT_bytes, HE.out.2]; show _ = (l.bytes ++ r.bytes).drop k
      rw [List.drop_append_of_le_length hlk]
    · show _ ≤ max l.deep r.deep + 1; omega
    · show _ ≤ max l.deep r.deep + 1; omega
  · have hki : ¬ (k : Int) ≤ (l.size : Int) := by omega
    obtain ⟨m, hm⟩ : ∃ m : Nat, (k : Int) - (l.size : Int) = (m : Int) := ⟨k - l.size, by omega⟩
    have hmr : m ≤ r.size := by omega
    have hkm : k = l.size + m := by omega
    have HKM := Lib.hid hkm
    have k0 : (0 : Int) ≤ (k : Int) := by omega
    have kb : (k : Int) ≤ 16384 := by omega
    have hw : IntKind.i64.wrap ((k : Int) - (l.size : Int)) = (m : Int) := by rw [hm]; exact IntWalk.i64_in _ (by omega)
    clear hkm hm
    go_enter Try.func23, Try.ntmps23
    go_wp2_with fail
    go_region_held3 (fun w' => w'.cell? ⟨B, 0, none⟩ = some (.pointer (some ⟨L, 0, none⟩)) ∧ w'.cell? ⟨B, 1, none⟩ = some (.pointer (some ⟨R, 0, none⟩)) ∧ w'.cell? ⟨L, 3, none⟩ = some (.int .i64 (l.size : Int)) ∧ B < w'.heap.size ∧ L < w'.heap.size)
      (first | exact ⟨c0, c1, c3, hB, hL⟩ | assumption | exact three_keep (w := w.drew) ⟨c0, c1, c3, hB, hL⟩ b1)
      (first | (go_at_call 23; (with_reducible refine (IR.out R m _ (K.out.2.below (Below.refl _ _).drew) hmr).mono ?_); rintro e w1 ⟨A, C, t1, t2, rfl, i1, i2, e1, e2, d1, d2, b1⟩))
    have b1' : Below w.heap.size w w1 := (Below.refl _ w).drew.trans b1
    have c0w : w1.cell? ⟨B, 0, none⟩ = some (.pointer (some ⟨L, 0, none⟩)) := (b1'.cell (p := ⟨B, 0, none⟩) hB).trans c0
    have s1 : t1.size ≤ 16384 := by unfold Tr.size; rw [e1, List.length_take]; show min m r.size ≤ _; omega
    have hT := K.out.1.below b1'
    have H := Lib.hid (And.intro i1 (And.intro i2 (And.intro hT b1')))
    have HE := Lib.hid (And.intro e1 e2)
    clear i1 i2 hT b1 b1' e1 e2 K
    go_wp2_with fail
    refine (join_any L A l t1 _ H.out.2.2.1 H.out.1 (by omega) s1 (by omega) (by omega)).mono ?_
    rintro e w2 ⟨J, rfl, tj, b2⟩
    have hd2 : Below w.heap.size w w2 := H.out.2.2.2.trans (b2.mono H.out.2.2.2.size)
    have H2 := Lib.hid (And.intro (H.out.2.1.below b2) (And.intro tj hd2))
    clear tj b2 hd2
    go_wp2_with fail
    go_ret2
    have hj := joinT_deep l t1
    refine ⟨J, C, joinT l t1, t2, rfl, H2.out.2.1, H2.out.1, ?_, ?_, ?_, ?_, H2.out.2.2⟩
    · rw [joinT_bytes, HE.out.1, HKM.out]; show _ = (l.bytes ++ r.bytes).take (l.bytes.length + m)
      rw [List.take_length_add_append]
    · rw [HE.out.2, HKM.out]; show _ = (l.bytes ++ r.bytes).drop (l.bytes.length + m)
      rw [List.drop_length_add_append]
    · show _ ≤ max l.deep r.deep + 1; omega
    · show _ ≤ max l.deep r.deep + 1; omega

/-- A tree is cut in two. -/
theorem cut_any (t : Tr) : ∀ (B k : Nat) (w : World), IsTr w B t → k ≤ t.size → t.size ≤ 16384 → t.deep ≤ 16384 → Calls Try.prog 23 #[.pointer (some ⟨B, 0, none⟩), .int .i64 (k : Int)] w (CutAt w t k) := by
  induction t with
  | leaf bs => intro B k w h hk hs hd; exact cut_leaf B k bs w h hk hs
  | node l r il ir =>
    intro B k w h hk hs hd
    have hsz : (Tr.node l r).size = l.size + r.size := by simp [Tr.size, Tr.bytes]
    have hdp : (Tr.node l r).deep = max l.deep r.deep + 1 := rfl
    exact cut_node B k l r w h hk hs hd (fun L k w h hk => il L k w h hk (by omega) (by omega)) (fun R k w h hk => ir R k w h hk (by omega) (by omega))
end Go.Proofs.Yteaciponojocbaa
