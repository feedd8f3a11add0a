/- Words for rows of ten whole numbers in memory, and rules by which the walk loads and stores such a row whole. -/
import Derived.Test.YtkhillpjoklfgaaRows
import Derived.WalkKit
import Derived.ProofKit
import Derived.Deep.QuietTactic
import Derived.BigQuiet
import Derived.WalkLawsBesides
import Derived.WalkSpells
import Derived.Lib.Hide
namespace Go.Proofs.Ytkhillpjoklfgaa
open Go.RowKit

/-- Ten whole numbers, as cells. -/
def RV (R : Nat → Int) : Array Value := #[.int .i64 (R 0), .int .i64 (R 1), .int .i64 (R 2), .int .i64 (R 3), .int .i64 (R 4), .int .i64 (R 5), .int .i64 (R 6), .int .i64 (R 7), .int .i64 (R 8), .int .i64 (R 9)]

theorem lt10 {p : Nat → Prop} (h0 : p 0) (h1 : p 1) (h2 : p 2) (h3 : p 3) (h4 : p 4) (h5 : p 5) (h6 : p 6) (h7 : p 7) (h8 : p 8) (h9 : p 9) (k : Nat) (hk : k < 10) : p k := by
  match k, hk with
  | 0, _ => exact h0
  | 1, _ => exact h1
  | 2, _ => exact h2
  | 3, _ => exact h3
  | 4, _ => exact h4
  | 5, _ => exact h5
  | 6, _ => exact h6
  | 7, _ => exact h7
  | 8, _ => exact h8
  | 9, _ => exact h9

theorem RV_size (R : Nat → Int) : (RV R).size = 10 := rfl
theorem RV_get (R : Nat → Int) (k : Nat) (hk : k < 10) : (RV R)[k]? = some (.int .i64 (R k)) :=
  lt10 (p := fun k => (RV R)[k]? = some (.int .i64 (R k))) rfl rfl rfl rfl rfl rfl rfl rfl rfl rfl k hk

/-- Sums of ones, written out: without a side condition, so that simp needs no depth for them. -/
theorem lt_ones1 (n : Nat) : (n < n + 1) = True := by simp only [eq_iff_iff, iff_true]; omega
theorem lt_ones2 (n : Nat) : (n < n + 1 + 1) = True := by simp only [eq_iff_iff, iff_true]; omega
theorem lt_ones3 (n : Nat) : (n < n + 1 + 1 + 1) = True := by simp only [eq_iff_iff, iff_true]; omega
theorem lt_ones4 (n : Nat) : (n < n + 1 + 1 + 1 + 1) = True := by simp only [eq_iff_iff, iff_true]; omega
theorem lt_ones5 (n : Nat) : (n < n + 1 + 1 + 1 + 1 + 1) = True := by simp only [eq_iff_iff, iff_true]; omega
theorem lt_ones6 (n : Nat) : (n < n + 1 + 1 + 1 + 1 + 1 + 1) = True := by simp only [eq_iff_iff, iff_true]; omega
theorem lt_ones7 (n : Nat) : (n < n + 1 + 1 + 1 + 1 + 1 + 1 + 1) = True := by simp only [eq_iff_iff, iff_true]; omega
theorem lt_ones8 (n : Nat) : (n < n + 1 + 1 + 1 + 1 + 1 + 1 + 1 + 1) = True := by simp only [eq_iff_iff, iff_true]; omega

def upd (R : Nat → Int) (k : Nat) (v : Int) : Nat → Int := fun x => if x = k then v else R x

theorem RV_set (R : Nat → Int) (k : Nat) (v : Int) (hk : k < 10) : (RV R).setIfInBounds k (.int .i64 v) = RV (upd R k v) :=
  lt10 (p := fun k => (RV R).setIfInBounds k (.int .i64 v) = RV (upd R k v)) rfl rfl rfl rfl rfl rfl rfl rfl rfl rfl k hk

theorem RV_congr (R S : Nat → Int) (h : ∀ k, k < 10 → R k = S k) : RV R = RV S := by
  unfold RV
  rw [h 0 (by decide), h 1 (by decide), h 2 (by decide), h 3 (by decide), h 4 (by decide), h 5 (by decide), h 6 (by decide), h 7 (by decide), h 8 (by decide), h 9 (by decide)]

theorem RV_one (R : Nat → Int) : (RV R).all (·.oneCell') = true := by simp [RV, Value.oneCell']

/-- What block b is. (A name of its own, so that simp's rules on arrays leave it alone.) -/
def blk (w : World) (b : Nat) : Option Obj := w.heap[b]?
/-- The cells of a block. -/
def cellsOf (w : World) (b : Nat) : Array Value := match blk w b with | some (.cells cs _ _) => cs | _ => #[]
/-- Ten cells, none frozen. -/
def okRow (w : World) (b : Nat) : Bool := match blk w b with | some (.cells cs _ fr) => cs.size == 10 && fr == (0, 0) | _ => false
def headOf : Value → Nat | .pointer (some p) => p.block | _ => 0
def okAgg : Value → Bool | .agg cs => cs.size == 10 && cs.all (·.oneCell') | _ => false

theorem okAgg_RV (R : Nat → Int) : okAgg (.agg (RV R)) = true := by
  show ((RV R).size == 10 && (RV R).all (·.oneCell')) = true
  rw [Bool.and_eq_true]
  exact ⟨rfl, RV_one R⟩
theorem cells_agg (cs : Array Value) : (Value.agg cs).cells = cs := rfl

theorem info23 : (Try.prog.info? 23).map (·.size) = some 10 := by kernel_rfl

theorem okRow_spec {w : World} {b : Nat} (h : okRow w b = true) : ∃ t, w.heap[b]? = some (.cells (cellsOf w b) t (0, 0)) ∧ (cellsOf w b).size = 10 := by
  unfold okRow at h
  unfold cellsOf
  split at h
  · rename_i cs t fr hh
    simp only [Bool.and_eq_true, beq_iff_eq] at h
    refine ⟨t, ?_, ?_⟩
    · have hh2 : w.heap[b]? = some (.cells cs t fr) := hh
      rw [hh2, h.2]
    · simpa using h.1
  · exact absurd h (by simp)

theorem wp_load23 (d : Option Tmp) (type : TypeId) (pos : String) (after : Array Edge) (guard : Option (Nat × Bool)) (x : Operand) (a : Act) (w : World) (K : Act → World → Prop) (Q : Exit → Act → World → Prop)
    (h1 : a.eval x = .pointer (some ⟨headOf (a.eval x), 0, none⟩)) (h2 : okRow w (headOf (a.eval x)) = true) :
    Oper.wp Try.prog ⟨d, .load 23 x, type, pos, after, guard⟩ a w K Q = K (a.put d (.agg (cellsOf w (headOf (a.eval x))))) w := by
  obtain ⟨t, hg, hs⟩ := okRow_spec h2
  unfold Oper.wp execOp
  generalize hb : headOf (a.eval x) = b at *
  simp only [h1, Instr.loadAt, Instr.sureAddr, Sem.run_bind, Sem.run_pure, Result.andThen_ok, run_loadVar_row (P := Try.prog) w b t 23 _ _ _ hg Try.underlying23 rfl (by rw [hs]; exact info23)]
  rfl

theorem wp_store23 (d : Option Tmp) (type : TypeId) (pos : String) (after : Array Edge) (guard : Option (Nat × Bool)) (x y : Operand) (a : Act) (w : World) (K : Act → World → Prop) (Q : Exit → Act → World → Prop)
    (h1 : a.eval x = .pointer (some ⟨headOf (a.eval x), 0, none⟩)) (h2 : okRow w (headOf (a.eval x)) = true) (h3 : okAgg (a.eval y) = true) :
    Oper.wp Try.prog ⟨d, .store 23 x y, type, pos, after, guard⟩ a w K Q = K (a.put d undef) (w.setRow (headOf (a.eval x)) (a.eval y).cells) := by
  obtain ⟨t, hg, hs⟩ := okRow_spec h2
  unfold Oper.wp execOp
  generalize hb : headOf (a.eval x) = b at *
  generalize hy : a.eval y = v at *
  cases v <;> simp only [okAgg, Bool.false_eq_true] at h3
  rename_i cs
  simp only [Bool.and_eq_true, beq_iff_eq] at h3
  simp only [h1, hy, Instr.storeAt, Instr.sureAddr, Sem.run_bind, Sem.run_pure, Result.andThen_ok, run_storeVar_row (P := Try.prog) w b t 23 _ cs hg (by rw [h3.1]; exact info23) (by rw [hs, h3.1]) h3.2]
  rfl

theorem wp_alloc23 (d : Option Tmp) (type : TypeId) (pos : String) (after : Array Edge) (guard : Option (Nat × Bool)) (a : Act) (w : World) (K : Act → World → Prop) (Q : Exit → Act → World → Prop) :
    Oper.wp Try.prog ⟨d, .alloc 23, type, pos, after, guard⟩ a w K Q = K (a.put d (.pointer (some ⟨w.heap.size, 0, none⟩))) (w.alloc (.cells (RV fun _ => 0) 23)) := by
  have h : (Instr.alloc 23 true (.tuple #[])).run Try.prog w = .ok (.pointer (some ⟨w.heap.size, 0, none⟩)) (w.alloc (.cells (RV fun _ => 0) 23)) := by
    go_simp
    rfl
  unfold Oper.wp execOp
  simp only [Sem.run_bind, h, Result.andThen_ok]
  rfl

theorem wp_build23 (d : Option Tmp) (type : TypeId) (pos : String) (after : Array Edge) (guard : Option (Nat × Bool)) (a : Act) (w : World) (K : Act → World → Prop) (Q : Exit → Act → World → Prop) :
    Oper.wp Try.prog ⟨d, .build 23 #[], type, pos, after, guard⟩ a w K Q = K (a.put d (.agg (RV fun _ => 0))) w := by
  have h : (Instr.build 23 #[]).run Try.prog w = .ok (.agg (RV fun _ => 0)) w := run_build w 23 #[] _ (by kernel_rfl)
  unfold Oper.wp execOp
  simp only [List.map_toArray, List.map_nil, Sem.run_bind, h, Result.andThen_ok]
  rfl

theorem blk_alloc_at {w : World} (o : Obj) (n : Nat) (hn : n = w.heap.size) : blk (w.alloc o) n = some o := by subst hn; exact heap_alloc_new w o
theorem blk_alloc_past {w : World} (o : Obj) (n : Nat) (hn : n < w.heap.size) : blk (w.alloc o) n = blk w n := Below.heap_alloc w o n hn
theorem blk_drew (w : World) (n : Nat) : blk w.drew n = blk w n := rfl
theorem blk_drewN (w : World) (k n : Nat) : blk (w.drewN k) n = blk w n := rfl
def putRow (cs : Array Value) : Option Obj → Option Obj
  | some (.cells _ e fr) => some (.cells cs e fr)
  | o => o
theorem blk_setRow_same (w : World) (g : Nat) (cs : Array Value) : blk (w.setRow g cs) g = putRow cs (blk w g) := by
  unfold World.setRow blk
  simp only [Array.getElem?_modify, if_true]
  cases h : w.heap[g]? with
  | none => rfl
  | some o => cases o <;> rfl
theorem blk_setRow_other (w : World) (g k : Nat) (cs : Array Value) (h : k ≠ g) : blk (w.setRow g cs) k = blk w k := setRow_other w g k cs h
theorem setRow_alloc_at {w : World} (c cs : Array Value) (t : TypeId) (fr : Nat × Nat) (n : Nat) (hn : n = w.heap.size) : (w.alloc (.cells c t fr)).setRow n cs = w.alloc (.cells cs t fr) := by
  subst hn
  unfold World.setRow World.alloc
  congr 1
  apply Array.ext_getElem?
  intro k
  simp only [Array.getElem?_modify, Array.getElem?_push]
  by_cases hk : k = w.heap.size
  · subst hk; simp
  · simp [hk, Ne.symm hk]
theorem setRow_alloc_past {w : World} (o : Obj) (cs : Array Value) (n : Nat) (hn : n < w.heap.size) : (w.alloc o).setRow n cs = (w.setRow n cs).alloc o := by
  unfold World.setRow World.alloc
  congr 1
  apply Array.ext_getElem?
  intro k
  simp only [Array.getElem?_modify, Array.getElem?_push, Array.size_modify]
  by_cases hk : k = w.heap.size
  · subst hk; simp [Nat.ne_of_lt hn]
  · simp [hk]
theorem setRow_drew (w : World) (g : Nat) (cs : Array Value) : w.drew.setRow g cs = (w.setRow g cs).drew := rfl

/-- What a block of ten reads as, place by place. -/
theorem row_cell {w : World} {B : Nat} {cs : Array Value} {t : TypeId} (h : blk w B = some (.cells cs t (0, 0))) : ∀ j, w.cell? ⟨B, j, none⟩ = cs[j]? := fun j => cell_of_row w B j cs t (0, 0) h
theorem row_free {w : World} {B : Nat} {cs : Array Value} {t : TypeId} (h : blk w B = some (.cells cs t (0, 0))) : ∀ j, w.frozen? ⟨B, j, none⟩ = false := fun j => frozen_of_row w B j cs t h
theorem row_lt {w : World} {B : Nat} {o : Obj} (h : blk w B = some o) : B < w.heap.size := (Array.getElem?_eq_some_iff.1 h).1
theorem row_put {w : World} {B : Nat} {R : Nat → Int} {t : TypeId} (h : blk w B = some (.cells (RV R) t (0, 0))) (k : Nat) (hk : k < 10) (v : Int) :
    blk (w.setCell ⟨B, k, none⟩ (.int .i64 v)) B = some (.cells (RV (upd R k v)) t (0, 0)) := by
  unfold blk
  rw [heap_setCell_same w B k _ t _ h, RV_set R k v hk]
theorem row_far {w : World} {B : Nat} (p : Addr) (v : Value) (hp : B ≠ p.block) : blk (w.setCell p v) B = blk w B := heap_setCell_other w p B v hp
theorem row_stay {w : World} {B : Nat} {o : Option Obj} (h : blk w B = o) (p : Addr) (v : Value) (hp : B ≠ p.block) : blk (w.setCell p v) B = o := (row_far p v hp).trans h
theorem row_as {w : World} {B : Nat} {R S : Nat → Int} {t : TypeId} (h : blk w B = some (.cells (RV R) t (0, 0))) (hs : ∀ k, k < 10 → R k = S k) : blk w B = some (.cells (RV S) t (0, 0)) := by
  rw [h, RV_congr R S hs]
theorem row_below {w w' : World} {B N : Nat} (h : Below N w w') (hB : B < N) : blk w' B = blk w B := h.block B hB
theorem below_setRow {B : Nat} {a w : World} (h : Below B a w) {g : Nat} (hg : B ≤ g) (cs : Array Value) : Below B a (w.setRow g cs) :=
  h.trans ⟨rfl, rfl, rfl, by simp, fun k hk => setRow_other w g k cs (by omega)⟩

/-- Some new blocks, and a draw or none. -/
theorem below_alloc {B : Nat} {a w : World} (h : Below B a w) (hB : B ≤ a.heap.size) (o : Obj) : Below B a (w.alloc o) := h.alloc (Nat.le_trans hB h.size) o

theorem results_cell23 {fn : Func} {p : Tmp} (h : fn.results = #[.cell p 23]) (tmps : Array Value) (w : World) (b : Nat) (R : Nat → Int) (hp : tmps.getD p undef = .pointer (some ⟨b, 0, none⟩)) (hg : blk w b = some (.cells (RV R) 23 (0, 0))) :
    (results fn tmps).run Try.prog w = .ok (.agg (RV R)) w :=
  results_cell_row h tmps w b 23 (RV R) (0, 0) _ hp hg Try.underlying23 rfl (by rw [RV_size]; exact info23)
theorem results_cell23_2 {fn : Func} {p u : Tmp} (h : fn.results = #[.cell p 23, .tmp u]) (tmps : Array Value) (w : World) (b : Nat) (R : Nat → Int) (hp : tmps.getD p undef = .pointer (some ⟨b, 0, none⟩)) (hg : blk w b = some (.cells (RV R) 23 (0, 0))) :
    (results fn tmps).run Try.prog w = .ok (.tuple #[.agg (RV R), tmps.getD u undef]) w := by
  rw [results_cell_tmp h, hp]
  simp only [asAddr, Sem.run_pure, Result.andThen_ok, run_loadVar_row (P := Try.prog) w b 23 23 _ _ _ hg Try.underlying23 rfl (by rw [RV_size]; exact info23)]
end Go.Proofs.Ytkhillpjoklfgaa
