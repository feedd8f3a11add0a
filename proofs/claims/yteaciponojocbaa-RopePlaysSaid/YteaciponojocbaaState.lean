/- What is known of a world while a law of the rope runs: its ropes, its bytes, and that what was there is as it was. -/
import Derived.Test.YteaciponojocbaaSlices
namespace Go.Proofs.Yteaciponojocbaa
open Go.RowKit Tw

structure St (u : World) (rs : List (Nat × List Nat)) (ys gs : List (Option Addr × Nat × List Nat)) (w : World) : Prop where
  rope : ∀ p ∈ rs, IsRope w p.1 p.2 ∧ u.heap.size ≤ p.1
  byt : ∀ p ∈ ys, IsBytes w p.1 p.2.1 p.2.2
  arg : ∀ p ∈ gs, ArgBytes w p.1 p.2.1 p.2.2
  d : Below u.heap.size u w
theorem St.kept {u w w' : World} {rs : List (Nat × List Nat)} {ys gs : List (Option Addr × Nat × List Nat)} (h : St u rs ys gs w) (k : Kept u.heap.size w w') : St u rs ys gs w' :=
  ⟨fun p hp => ⟨k.rope _ _ (h.rope p hp).1, (h.rope p hp).2⟩, fun p hp => k.byt _ _ _ (h.byt p hp), fun p hp => (h.arg p hp).imp (fun q => k.byt _ _ _ q) id, h.d.trans k.below⟩
theorem St.step {u w w' : World} {rs : List (Nat × List Nat)} {ys gs : List (Option Addr × Nat × List Nat)} (h : St u rs ys gs w) (k : Below w.heap.size w w') : St u rs ys gs w' := h.kept (Kept.of k h.d.size)
theorem St.addRope {u w : World} {rs : List (Nat × List Nat)} {ys gs : List (Option Addr × Nat × List Nat)} (h : St u rs ys gs w) {B : Nat} {bs : List Nat} (hr : IsRope w B bs) (hB : u.heap.size ≤ B) : St u ((B, bs) :: rs) ys gs w :=
  ⟨fun p hp => (List.mem_cons.1 hp).elim (fun e => e ▸ ⟨hr, hB⟩) (h.rope p), h.byt, h.arg, h.d⟩
theorem St.made {u w w' : World} {rs : List (Nat × List Nat)} {ys gs : List (Option Addr × Nat × List Nat)} (h : St u rs ys gs w) {B : Nat} {bs : List Nat} (b : Below w.heap.size w w') (hB : w.heap.size ≤ B) (hr : IsRope w' B bs) : St u ((B, bs) :: rs) ys gs w' :=
  (h.step b).addRope hr (Nat.le_trans h.d.size hB)
theorem St.addByt {u w : World} {rs : List (Nat × List Nat)} {ys gs : List (Option Addr × Nat × List Nat)} (h : St u rs ys gs w) {a : Option Addr} {cap : Nat} {bs : List Nat} (hr : IsBytes w a cap bs) : St u rs ((a, cap, bs) :: ys) gs w :=
  ⟨h.rope, fun p hp => (List.mem_cons.1 hp).elim (fun e => e ▸ hr) (h.byt p), h.arg, h.d⟩

/-- The plain laws. -/
theorem sw_end (bs e : List Nat) (n : Nat) (h : bs.length = n) : swapped bs n 0 e = bs ++ e := by
  rw [sw_form, ← h, List.take_length, List.drop_length, List.append_nil]
theorem sw_comm (t e c : List Nat) (a d : Nat) (h : a + d ≤ t.length) : swapped (t ++ e) a d c = swapped t a d c ++ e := by
  unfold swapped
  rw [List.take_append_of_le_length (by omega), List.drop_drop, List.drop_drop, List.drop_append_of_le_length (by omega)]
  simp only [List.append_assoc]
theorem sw_back (t c : List Nat) (a d m : Nat) (h : a + d ≤ t.length) (hc : c.length = m) : swapped (swapped t a d c) a m ((t.take (a + d)).drop a) = t := by
  have h1 : (t.take a).length = a := by rw [List.length_take]; omega
  have e1 : (swapped t a d c).take a = t.take a := by
    unfold swapped; rw [List.append_assoc]; exact List.take_left' h1
  have e2 : (swapped t a d c).drop a = c ++ (t.drop a).drop d := by
    unfold swapped; rw [List.append_assoc]; exact List.drop_left' h1
  have e3 : ((swapped t a d c).drop a).drop m = (t.drop a).drop d := by rw [e2]; exact List.drop_left' hc
  show ((swapped t a d c).take a ++ _) ++ ((swapped t a d c).drop a).drop m = t
  rw [e1, e3, List.drop_take, Nat.add_sub_cancel_left, List.append_assoc, List.take_append_drop, List.take_append_drop]
end Go.Proofs.Yteaciponojocbaa
