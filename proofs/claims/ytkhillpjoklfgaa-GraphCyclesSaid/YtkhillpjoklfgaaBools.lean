/- Words for rows of ten bools in memory, and rules by which the walk makes and stores such a row whole. -/
import Derived.Test.YtkhillpjoklfgaaBase
namespace Go.Proofs.Ytkhillpjoklfgaa
open Go.RowKit
/-- Ten bools, as cells. -/
def BV (S : Nat → Bool) : Array Value := #[.bool (S 0), .bool (S 1), .bool (S 2), .bool (S 3), .bool (S 4), .bool (S 5), .bool (S 6), .bool (S 7), .bool (S 8), .bool (S 9)]
theorem BV_size (S : Nat → Bool) : (BV S).size = 10 := rfl
theorem BV_get (S : Nat → Bool) (k : Nat) (hk : k < 10) : (BV S)[k]? = some (.bool (S k)) :=
  lt10 (p := fun k => (BV S)[k]? = some (.bool (S k))) rfl rfl rfl rfl rfl rfl rfl rfl rfl rfl k hk
def updB (S : Nat → Bool) (k : Nat) (v : Bool) : Nat → Bool := fun x => if x = k then v else S x
theorem BV_set (S : Nat → Bool) (k : Nat) (v : Bool) (hk : k < 10) : (BV S).setIfInBounds k (.bool v) = BV (updB S k v) :=
  lt10 (p := fun k => (BV S).setIfInBounds k (.bool v) = BV (updB S k v)) rfl rfl rfl rfl rfl rfl rfl rfl rfl rfl k hk
theorem BV_congr (S U : Nat → Bool) (h : ∀ k, k < 10 → S k = U k) : BV S = BV U := by
  unfold BV
  rw [h 0 (by decide), h 1 (by decide), h 2 (by decide), h 3 (by decide), h 4 (by decide), h 5 (by decide), h 6 (by decide), h 7 (by decide), h 8 (by decide), h 9 (by decide)]
theorem BV_one (S : Nat → Bool) : (BV S).all (·.oneCell') = true := by simp [BV, Value.oneCell']
theorem okAgg_BV (S : Nat → Bool) : okAgg (.agg (BV S)) = true := by
  show ((BV S).size == 10 && (BV S).all (·.oneCell')) = true
  rw [Bool.and_eq_true]
  exact ⟨rfl, BV_one S⟩
theorem info42 : (Try.prog.info? 42).map (·.size) = some 10 := by kernel_rfl

theorem wp_store42 (d : Option Tmp) (type : TypeId) (pos : String) (after : Array Edge) (guard : Option (Nat × Bool)) (x y : Operand) (a : Act) (w : World) (K : Act → World → Prop) (Q : Exit → Act → World → Prop)
    (h1 : a.eval x = .pointer (some ⟨headOf (a.eval x), 0, none⟩)) (h2 : okRow w (headOf (a.eval x)) = true) (h3 : okAgg (a.eval y) = true) :
    Oper.wp Try.prog ⟨d, .store 42 x y, type, pos, after, guard⟩ a w K Q = K (a.put d undef) (w.setRow (headOf (a.eval x)) (a.eval y).cells) := by
  obtain ⟨t, hg, hs⟩ := okRow_spec h2
  unfold Oper.wp execOp
  generalize hb : headOf (a.eval x) = b at *
  generalize hy : a.eval y = v at *
  cases v <;> simp only [okAgg, Bool.false_eq_true] at h3
  rename_i cs
  simp only [Bool.and_eq_true, beq_iff_eq] at h3
  simp only [h1, hy, Instr.storeAt, Instr.sureAddr, Sem.run_bind, Sem.run_pure, Result.andThen_ok, run_storeVar_row (P := Try.prog) w b t 42 _ cs hg (by rw [h3.1]; exact info42) (by rw [hs, h3.1]) h3.2]
  rfl

theorem wp_alloc42 (d : Option Tmp) (type : TypeId) (pos : String) (after : Array Edge) (guard : Option (Nat × Bool)) (a : Act) (w : World) (K : Act → World → Prop) (Q : Exit → Act → World → Prop) :
    Oper.wp Try.prog ⟨d, .alloc 42, type, pos, after, guard⟩ a w K Q = K (a.put d (.pointer (some ⟨w.heap.size, 0, none⟩))) (w.alloc (.cells (BV fun _ => false) 42)) := by
  have h : (Instr.alloc 42 true (.tuple #[])).run Try.prog w = .ok (.pointer (some ⟨w.heap.size, 0, none⟩)) (w.alloc (.cells (BV fun _ => false) 42)) := by
    go_simp
    rfl
  unfold Oper.wp execOp
  simp only [Sem.run_bind, h, Result.andThen_ok]
  rfl

theorem wp_build42 (d : Option Tmp) (type : TypeId) (pos : String) (after : Array Edge) (guard : Option (Nat × Bool)) (a : Act) (w : World) (K : Act → World → Prop) (Q : Exit → Act → World → Prop) :
    Oper.wp Try.prog ⟨d, .build 42 #[], type, pos, after, guard⟩ a w K Q = K (a.put d (.agg (BV fun _ => false))) w := by
  have h : (Instr.build 42 #[]).run Try.prog w = .ok (.agg (BV fun _ => false)) w := run_build w 42 #[] _ (by kernel_rfl)
  unfold Oper.wp execOp
  simp only [List.map_toArray, List.map_nil, Sem.run_bind, h, Result.andThen_ok]
  rfl

theorem brow_put {w : World} {B : Nat} {S : Nat → Bool} {t : TypeId} (h : blk w B = some (.cells (BV S) t (0, 0))) (k : Nat) (hk : k < 10) (v : Bool) :
    blk (w.setCell ⟨B, k, none⟩ (.bool v)) B = some (.cells (BV (updB S k v)) t (0, 0)) := by
  unfold blk
  rw [heap_setCell_same w B k _ t _ h, BV_set S k v hk]
theorem brow_as {w : World} {B : Nat} {S U : Nat → Bool} {t : TypeId} (h : blk w B = some (.cells (BV S) t (0, 0))) (hs : ∀ k, k < 10 → S k = U k) : blk w B = some (.cells (BV U) t (0, 0)) := by
  rw [h, BV_congr S U hs]
end Go.Proofs.Ytkhillpjoklfgaa
