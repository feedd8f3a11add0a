/- Trees and ropes none of whose bytes lie in block K: what is written there does not touch them. -/
import Derived.Test.YteaciponojocbaaRope
namespace Go.Proofs.Yteaciponojocbaa.Av
open Go.RowKit
variable {K : Nat}

/-- A tree in memory, outside block K. -/
def IsTr (K : Nat) (w : World) (B : Nat) : Tr → Prop
  | .leaf bs => ∃ a cap, blk w B = some (.cells #[.pointer none, .pointer none, .slice a bs.length cap, .int .i64 (bs.length : Int), .int .i64 1] 76 (0, 0)) ∧ IsBytes w a cap bs ∧ ∀ p, a = some p → p.block ≠ K
  | .node l r => ∃ L R, blk w B = some (.cells #[.pointer (some ⟨L, 0, none⟩), .pointer (some ⟨R, 0, none⟩), .slice none 0 0, .int .i64 ((l.size + r.size : Nat) : Int), .int .i64 ((max l.deep r.deep + 1 : Nat) : Int)] 76 (0, 0)) ∧ IsTr K w L l ∧ IsTr K w R r ∧ 0 < l.size ∧ 0 < r.size

theorem IsTr.tr {w : World} {t : Tr} : ∀ {B : Nat}, IsTr K w B t → Yteaciponojocbaa.IsTr w B t := by
  induction t with
  | leaf bs => intro B ⟨a, cap, h1, h2, _⟩; exact ⟨a, cap, h1, h2⟩
  | node l r il ir => intro B ⟨L, R, h1, h2, h3, h4, h5⟩; exact ⟨L, R, h1, il h2, ir h3, h4, h5⟩
theorem IsTr.lt {w : World} {B : Nat} {t : Tr} (h : IsTr K w B t) : B < w.heap.size := h.tr.lt
theorem IsTr.deepCell {w : World} {B : Nat} {t : Tr} (h : IsTr K w B t) : w.cell? ⟨B, 3, none⟩ = some (.int .i64 (t.size : Int)) ∧ w.cell? ⟨B, 4, none⟩ = some (.int .i64 (t.deep : Int)) := h.tr.deepCell
theorem IsTr.lt256 {w : World} {B : Nat} {t : Tr} (h : IsTr K w B t) : ∀ b ∈ t.bytes, b < 256 := h.tr.lt256
theorem IsTr.below {w w' : World} {t : Tr} : ∀ {B : Nat}, IsTr K w B t → Below w.heap.size w w' → IsTr K w' B t := by
  induction t with
  | leaf bs => intro B ⟨a, cap, h1, h2, h3⟩ hb; exact ⟨a, cap, (blk_below hb (blk_lt h1)).trans h1, h2.below hb, h3⟩
  | node l r il ir => intro B ⟨L, R, h1, h2, h3, h4, h5⟩ hb; exact ⟨L, R, (blk_below hb (blk_lt h1)).trans h1, il h2 hb, ir h3 hb, h4, h5⟩
/-- What was there before block K was made lies outside it. -/
theorem tr_old {w : World} (hK : w.heap.size ≤ K) {t : Tr} : ∀ {B : Nat}, Yteaciponojocbaa.IsTr w B t → IsTr K w B t := by
  induction t with
  | leaf bs => intro B ⟨a, cap, h1, h2⟩; exact ⟨a, cap, h1, h2, fun p e => by have := (h2.at_ p e).2.2; omega⟩
  | node l r il ir => intro B ⟨L, R, h1, h2, h3, h4, h5⟩; exact ⟨L, R, h1, il h2, ir h3, h4, h5⟩

/-- Only block K is written, which holds bytes. -/
structure Only (K : Nat) (w w' : World) : Prop where
  size : w.heap.size ≤ w'.heap.size
  same : ∀ k, k < w.heap.size → k ≠ K → blk w' k = blk w k
  own : ∃ cs fr, blk w K = some (.cells cs 5 fr)
theorem bytes_only {w w' : World} (o : Only K w w') {a : Option Addr} {cap : Nat} {bs : List Nat} (h : IsBytes w a cap bs) (hf : ∀ p, a = some p → p.block ≠ K) : IsBytes w' a cap bs :=
  ⟨h.le, h.big, h.nil, fun p e => let ⟨h1, h2, h3⟩ := h.at_ p e; ⟨h1, fun i hi => (World.cell?_of_block (w := w) (a := ⟨p.block, p.off + i, none⟩) (o.same _ h3 (hf p e))).trans (h2 i hi), Nat.lt_of_lt_of_le h3 o.size⟩, h.lt⟩
theorem ne_of_type {w w' : World} (o : Only K w w') {B : Nat} {cs : Array Value} {t : TypeId} {fr : Nat × Nat} (h : blk w B = some (.cells cs t fr)) (ht : t ≠ 5) : B ≠ K := by
  rintro rfl
  obtain ⟨cs', fr', h'⟩ := o.own
  have e := h.symm.trans h'
  simp at e
  exact ht e.2.1
theorem IsTr.only {w w' : World} (o : Only K w w') {t : Tr} : ∀ {B : Nat}, IsTr K w B t → IsTr K w' B t := by
  induction t with
  | leaf bs => intro B ⟨a, cap, h1, h2, h3⟩; exact ⟨a, cap, (o.same B (blk_lt h1) (ne_of_type o h1 (by decide))).trans h1, bytes_only o h2 h3, h3⟩
  | node l r il ir => intro B ⟨L, R, h1, h2, h3, h4, h5⟩; exact ⟨L, R, (o.same B (blk_lt h1) (ne_of_type o h1 (by decide))).trans h1, il h2, ir h3, h4, h5⟩

/-- A rope of some bytes, outside block K. -/
def IsRope (K : Nat) (w : World) (B : Nat) (bs : List Nat) : Prop :=
  ∃ J t d all n, blk w B = some (RopeObj J d all n) ∧ IsTr K w J t ∧ t.bytes = bs ∧ t.deep ≤ 20 ∧ bs.length ≤ 2048 ∧ (d = 0 ∧ all = .slice none 0 0 ∨ d = 1 ∧ ∃ a cap, all = .slice a bs.length cap ∧ IsBytes w a cap bs ∧ ∀ p, a = some p → p.block ≠ K)
theorem IsRope.rope {w : World} {B : Nat} {bs : List Nat} (h : IsRope K w B bs) : Yteaciponojocbaa.IsRope w B bs := by
  obtain ⟨J, t, d, all, n, h1, h2, h3, h4, h5, h6⟩ := h
  exact ⟨J, t, d, all, n, h1, h2.tr, h3, h4, h5, h6.imp id fun ⟨e, a, cap, q, r, _⟩ => ⟨e, a, cap, q, r⟩⟩
theorem IsRope.below {w w' : World} {B : Nat} {bs : List Nat} (h : IsRope K w B bs) (hb : Below w.heap.size w w') : IsRope K w' B bs := by
  obtain ⟨J, t, d, all, n, h1, h2, h3, h4, h5, h6⟩ := h
  exact ⟨J, t, d, all, n, (blk_below hb (blk_lt h1)).trans h1, h2.below hb, h3, h4, h5, h6.imp id fun ⟨e, a, cap, q, r, f⟩ => ⟨e, a, cap, q, r.below hb, f⟩⟩
theorem rope_old {w : World} (hK : w.heap.size ≤ K) {B : Nat} {bs : List Nat} (h : Yteaciponojocbaa.IsRope w B bs) : IsRope K w B bs := by
  obtain ⟨J, t, d, all, n, h1, h2, h3, h4, h5, h6⟩ := h
  exact ⟨J, t, d, all, n, h1, tr_old hK h2, h3, h4, h5, h6.imp id fun ⟨e, a, cap, q, r⟩ => ⟨e, a, cap, q, r, fun p e => by have := (r.at_ p e).2.2; omega⟩⟩
theorem IsRope.only {w w' : World} (o : Only K w w') {B : Nat} {bs : List Nat} (h : IsRope K w B bs) : IsRope K w' B bs := by
  obtain ⟨J, t, d, all, n, h1, h2, h3, h4, h5, h6⟩ := h
  exact ⟨J, t, d, all, n, (o.same B (blk_lt h1) (ne_of_type o h1 (by decide))).trans h1, h2.only o, h3, h4, h5, h6.imp id fun ⟨e, a, cap, q, r, f⟩ => ⟨e, a, cap, q, bytes_only o r f, f⟩⟩

/-- A rope, in new memory. -/
def Made (K : Nat) (w : World) (bs : List Nat) (e : Ending) (w' : World) : Prop :=
  Below w.heap.size w w' ∧ ∃ B, e = .returned (.tuple #[.pointer (some ⟨B, 0, none⟩), .int .i64 0]) ∧ w.heap.size ≤ B ∧ IsRope K w' B bs

theorem own_far {w : World} {base n cap m : Nat} {a : Option Addr} {xs : List Value} (h : w.ownsRow base 5 1 (.slice a n cap) m xs) (hK : K < base) : ∀ p, a = some p → p.block ≠ K := by
  rintro p rfl
  have := own_base h p.block rfl
  omega
end Go.Proofs.Yteaciponojocbaa.Av
