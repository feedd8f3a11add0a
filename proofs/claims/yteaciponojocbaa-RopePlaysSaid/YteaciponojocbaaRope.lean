/- The rope itself in memory: what stays, and the walks of its small functions. -/
import Derived.Test.YteaciponojocbaaSync
import Derived.Laws.NewBlocks
namespace Go.Proofs.Yteaciponojocbaa
open Go.RowKit

/-- A value that reads as bytes. -/
def Reads (w : World) (v : Value) (bs : List Nat) : Prop := ∃ a cap, v = .slice a bs.length cap ∧ IsBytes w a cap bs
def RopeObj (J : Nat) (d : Int) (all : Value) (n : Int) : Obj := .cells #[.pointer (some ⟨J, 0, none⟩), .int .u32 d, .int .i32 0, .int .u32 0, all, .int .i64 n] 71 (0, 0)
/-- A rope of some bytes. -/
def IsRope (w : World) (B : Nat) (bs : List Nat) : Prop :=
  ∃ J t d all n, blk w B = some (RopeObj J d all n) ∧ IsTr w J t ∧ t.bytes = bs ∧ t.deep ≤ 20 ∧ bs.length ≤ 2048 ∧ (d = 0 ∧ all = .slice none 0 0 ∨ d = 1 ∧ Reads w all bs)

theorem Reads.below {w w' : World} {v : Value} {bs : List Nat} (h : Reads w v bs) (hb : Below w.heap.size w w') : Reads w' v bs := let ⟨a, cap, h1, h2⟩ := h; ⟨a, cap, h1, h2.below hb⟩
theorem IsRope.lt {w : World} {B : Nat} {bs : List Nat} (h : IsRope w B bs) : B < w.heap.size := let ⟨_, _, _, _, _, h1, _⟩ := h; blk_lt h1
theorem IsRope.below {w w' : World} {B : Nat} {bs : List Nat} (h : IsRope w B bs) (hb : Below w.heap.size w w') : IsRope w' B bs := by
  obtain ⟨J, t, d, all, n, h1, h2, h3, h4, h5, h6⟩ := h
  exact ⟨J, t, d, all, n, (blk_below hb (blk_lt h1)).trans h1, h2.below hb, h3, h4, h5, h6.imp id fun ⟨e, r⟩ => ⟨e, r.below hb⟩⟩

/-- What is known of a world is known of the next one. -/
structure Kept (N : Nat) (w w' : World) : Prop where
  below : Below N w w'
  byt : ∀ a cap bs, IsBytes w a cap bs → IsBytes w' a cap bs
  tr : ∀ B t, IsTr w B t → IsTr w' B t
  rope : ∀ B bs, IsRope w B bs → IsRope w' B bs
theorem Kept.size {N : Nat} {w w' : World} (h : Kept N w w') : w.heap.size ≤ w'.heap.size := h.below.size
theorem Kept.trans {N : Nat} {a b c : World} (h : Kept N a b) (k : Kept N b c) : Kept N a c :=
  ⟨h.below.trans k.below, fun x y z q => k.byt _ _ _ (h.byt x y z q), fun x y q => k.tr _ _ (h.tr x y q), fun x y q => k.rope _ _ (h.rope x y q)⟩
theorem Kept.of {w w' : World} (h : Below w.heap.size w w') {N : Nat} (hN : N ≤ w.heap.size) : Kept N w w' :=
  ⟨h.mono hN, fun _ _ _ q => q.below h, fun _ _ q => q.below h, fun _ _ q => q.below h⟩
theorem Kept.refl {N : Nat} (w : World) : Kept N w w := ⟨Below.refl _ _, fun _ _ _ q => q, fun _ _ q => q, fun _ _ q => q⟩

theorem blk_cell_out {w : World} {B : Nat} {cs : Array Value} {t : TypeId} {fr : Nat × Nat} (h : blk w B = some (.cells cs t fr)) (j : Nat) (x : Value) (hx : w.cell? ⟨B, j, none⟩ = some x) : x ∈ cs.toList := by
  rw [blk_cell h] at hx
  obtain ⟨hl, e⟩ := Array.getElem?_eq_some_iff.1 hx
  rw [← e]; exact Array.mem_toList_iff.2 (Array.getElem_mem hl)

theorem blk_set_same {w : World} {B i : Nat} {cs : Array Value} {t : TypeId} {fr : Nat × Nat} (h : blk w B = some (.cells cs t fr)) (v : Value) : blk (w.setCell ⟨B, i, none⟩ v) B = some (.cells (cs.setIfInBounds i v) t fr) := by
  unfold blk at h ⊢
  simp [World.setCell, Array.getElem?_modify, h]
theorem blk_set_other {w : World} {B i k : Nat} (v : Value) (h : k ≠ B) : blk (w.setCell ⟨B, i, none⟩ v) k = blk w k := Below.heap_setCell w ⟨B, i, none⟩ v k h
theorem blk_frozen {w : World} {B i : Nat} {cs : Array Value} {t : TypeId} (h : blk w B = some (.cells cs t (0, 0))) : w.frozen? ⟨B, i, none⟩ = false := by
  unfold blk at h
  simp [World.frozen?, h]
theorem kept_bytes {w w' : World} {B : Nat} {cs : Array Value} {t : TypeId} (hB : blk w B = some (.cells cs t (0, 0))) (ho : ∀ k, k < w.heap.size → k ≠ B → blk w' k = blk w k) (hs : w.heap.size ≤ w'.heap.size) (hcs : ∀ x ∈ cs.toList, ∀ n, x ≠ .int .u8 n) :
    ∀ a cap bs, IsBytes w a cap bs → IsBytes w' a cap bs := by
  intro a cap bs h
  refine ⟨h.le, h.big, h.nil, fun p e => ?_, h.lt⟩
  obtain ⟨h1, h2, h3⟩ := h.at_ p e
  refine ⟨h1, fun i hi => ?_, Nat.lt_of_lt_of_le h3 hs⟩
  by_cases hp : p.block = B
  · exfalso
    have hc := h2 i hi
    rw [hp] at hc
    exact hcs _ (blk_cell_out hB _ _ hc) _ rfl
  · exact (World.cell?_of_block (w := w) (a := ⟨p.block, p.off + i, none⟩) (ho _ h3 hp)).trans (h2 i hi)
theorem kept_tree {w w' : World} {B : Nat} {cs : Array Value} (hB : blk w B = some (.cells cs 71 (0, 0))) (ho : ∀ k, k < w.heap.size → k ≠ B → blk w' k = blk w k) (hs : w.heap.size ≤ w'.heap.size) (hcs : ∀ x ∈ cs.toList, ∀ n, x ≠ .int .u8 n) :
    ∀ (t : Tr) (C : Nat), IsTr w C t → IsTr w' C t := by
  intro t
  induction t with
  | leaf bs =>
    intro C ⟨a, cap, h1, h2⟩
    have hC : C ≠ B := by
      rintro rfl
      rw [hB] at h1
      simp at h1
    exact ⟨a, cap, (ho C (blk_lt h1) hC).trans h1, kept_bytes hB ho hs hcs _ _ _ h2⟩
  | node l r il ir =>
    intro C ⟨L, R, h1, h2, h3, h4⟩
    have hC : C ≠ B := by
      rintro rfl
      rw [hB] at h1
      simp at h1
    exact ⟨L, R, (ho C (blk_lt h1) hC).trans h1, il L h2, ir R h3, h4⟩
theorem rope_cells (J : Nat) (d s : Int) (a : Option Addr) (m cap : Nat) (n : Int) : ∀ x ∈ (#[.pointer (some ⟨J, 0, none⟩), .int .u32 d, .int .i32 s, .int .u32 0, .slice a m cap, .int .i64 n] : Array Value).toList, ∀ n, x ≠ .int .u8 n := by
  intro x hx n e
  subst e
  simp at hx

/-- A rope's own block is written anew. -/
theorem Kept.step {N B J : Nat} {w w' : World} {d d' n n' : Int} {all all' : Value} (hB : blk w B = some (RopeObj J d all n)) (ho : ∀ k, k < w.heap.size → k ≠ B → blk w' k = blk w k) (hB' : blk w' B = some (RopeObj J d' all' n')) (hsl : ∃ a n cap, all = .slice a n cap)
    (hN : Below N w w') (hg : ∀ t, IsTr w J t → d' = 0 ∧ all' = .slice none 0 0 ∨ d' = 1 ∧ ((d = 1 ∧ all' = all) ∨ Reads w' all' t.bytes)) : Kept N w w' := by
  have hcs : ∀ x ∈ (#[.pointer (some ⟨J, 0, none⟩), .int .u32 d, .int .i32 0, .int .u32 0, all, .int .i64 n] : Array Value).toList, ∀ n, x ≠ .int .u8 n := by
    obtain ⟨a, m, cap, rfl⟩ := hsl
    exact rope_cells J d 0 a m cap n
  have hby := kept_bytes hB ho hN.size hcs
  have htr := kept_tree hB ho hN.size hcs
  refine ⟨hN, hby, fun C t h => htr t C h, fun C bs h => ?_⟩
  obtain ⟨J2, t, d2, all2, n2, h1, h2, h3, h4, h5, h6⟩ := h
  by_cases hC : C = B
  · subst hC
    have he := hB.symm.trans h1
    simp only [RopeObj, Option.some.injEq, Obj.cells.injEq, and_true] at he
    simp at he
    obtain ⟨e1, e2, e3, e4⟩ := he
    subst e1 e2 e3 e4
    refine ⟨J, t, d', all', n', hB', htr t _ h2, h3, h4, h5, ?_⟩
    rcases hg t h2 with hz | ⟨hz, hr⟩
    · exact .inl hz
    · refine .inr ⟨hz, ?_⟩
      rcases hr with ⟨hd, hall⟩ | hr
      · rcases h6 with h6 | ⟨_, a, cap, e, hbb⟩
        · omega
        · exact ⟨a, cap, hall.trans e, hby _ _ _ hbb⟩
      · rw [← h3]; exact hr
  · exact ⟨J2, t, d2, all2, n2, (ho C (blk_lt h1) hC).trans h1, htr t _ h2, h3, h4, h5, h6.imp id fun ⟨e, a, cap, q, hbb⟩ => ⟨e, a, cap, q, hby _ _ _ hbb⟩⟩

theorem len_any (B : Nat) (bs : List Nat) (w : World) (h : IsRope w B bs) :
    Calls Try.prog 12 #[.pointer (some ⟨B, 0, none⟩)] w fun e w' => e = .returned (.int .i64 (bs.length : Int)) ∧ w' = w := by
  obtain ⟨J, t, d, all, n, h1, h2, h3, h4, h5, h6⟩ := h
  have c0 := blk_cell h1 0
  have c3 := h2.deepCell.1
  unfold Tr.size at c3
  rw [h3] at c3
  clear h1 h2 h3 h4 h5 h6
  go_enter Try.func12, Try.ntmps12
  go_wp2
  go_ret
  exact ⟨rfl, rfl⟩
theorem deep_any (B : Nat) (bs : List Nat) (w : World) (h : IsRope w B bs) :
    Calls Try.prog 21 #[.pointer (some ⟨B, 0, none⟩)] w fun e w' => ∃ d : Nat, e = .returned (.int .i64 (d : Int)) ∧ d ≤ 20 ∧ 1 ≤ d ∧ w' = w := by
  obtain ⟨J, t, d, all, n, h1, h2, h3, h4, h5, h6⟩ := h
  have c0 := blk_cell h1 0
  have c3 := h2.deepCell.2
  have hd1 : 1 ≤ t.deep := by cases t <;> simp [Tr.deep]
  clear h1 h2 h3 h5 h6
  go_enter Try.func21, Try.ntmps21
  go_wp2
  go_ret
  exact ⟨_, rfl, h4, hd1, rfl⟩

/-- A rope, or none and a reason. -/
def Made (w : World) (bs : List Nat) (e : Ending) (w' : World) : Prop :=
  Below w.heap.size w w' ∧ ∃ B, e = .returned (.tuple #[.pointer (some ⟨B, 0, none⟩), .int .i64 0]) ∧ w.heap.size ≤ B ∧ IsRope w' B bs

theorem new_big (a : Option Addr) (n cap : Nat) (w : World) (hn : 2048 < n) (hu : n ≤ 140737488351232) : Calls Try.prog 10 #[.slice a n cap] w fun e w' => e = .returned (.tuple #[.pointer none, .int .i64 4]) ∧ w' = w := by
  have hi : (2048 : Int) < (n : Int) := by omega
  go_enter Try.func10, Try.ntmps10
  go_wp2
  go_ret2
  exact ⟨rfl, rfl⟩
theorem new_any (a : Option Addr) (cap : Nat) (bs : List Nat) (w : World) (h : IsBytes w a cap bs) (hn : bs.length ≤ 2048) : Calls Try.prog 10 #[.slice a bs.length cap] w (Made w bs) := by
  have hi : ¬ (2048 : Int) < (bs.length : Int) := by omega
  have HB := Lib.hid h
  clear h
  go_enter Try.func10, Try.ntmps10
  go_wp2_with fail
  refine (build_any a cap bs _ HB.out (by omega)).mono ?_
  rintro e w1 ⟨J, t, rfl, h1, h2, h3, h4, h5⟩
  have hd : t.deep ≤ 6 := h3 5 (by omega)
  have H := Lib.hid (And.intro h1 (And.intro h2 (And.intro hd h5)))
  clear h1 h2 h3 h4 h5 hd
  go_wp2_with fail
  go_ret2
  refine ⟨H.out.2.2.2.trans ((below_new _ _).mono H.out.2.2.2.size), w1.heap.size, rfl, H.out.2.2.2.size, J, t, 0, .slice none 0 0, 0, ?_, H.out.1.below (below_new _ _), H.out.2.1, by have := H.out.2.2.1; omega, hn, .inl ⟨rfl, rfl⟩⟩
  exact blk_alloc_at _ _ rfl
end Go.Proofs.Yteaciponojocbaa
