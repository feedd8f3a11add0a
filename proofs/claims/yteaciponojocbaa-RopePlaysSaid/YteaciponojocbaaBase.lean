/- Words for bytes in memory, and the walks of slices.Clone and of the function that makes a leaf. -/
import Derived.Test.YteaciponojocbaaRows
import Derived.WalkKit
import Derived.ProofKit
import Derived.Deep.QuietTactic
import Derived.BigQuiet
import Derived.WalkLawsBesides
import Derived.WalkSpells
import Derived.Lib.Hide
import Derived.Laws.AppendOwnNone
namespace Go.Proofs.Yteaciponojocbaa
open Go.RowKit

/-- Bytes, as cells. -/
def u8s (bs : List Nat) : List Value := bs.map fun (b : Nat) => Value.int .u8 (b : Int)
theorem u8s_length (bs : List Nat) : (u8s bs).length = bs.length := by simp [u8s]
theorem u8s_append (a b : List Nat) : u8s (a ++ b) = u8s a ++ u8s b := by simp [u8s]
theorem u8s_get (bs : List Nat) (i : Nat) (hi : i < bs.length) : (u8s bs)[i]? = some (.int .u8 (bs[i] : Int)) := by simp [u8s, hi]

/-- What block b is. -/
def blk (w : World) (b : Nat) : Option Obj := w.heap[b]?
theorem blk_lt {w : World} {B : Nat} {o : Obj} (h : blk w B = some o) : B < w.heap.size := (Array.getElem?_eq_some_iff.1 h).1
theorem blk_below {w w' : World} {B N : Nat} (h : Below N w w') (hB : B < N) : blk w' B = blk w B := h.block B hB
theorem blk_alloc_at {w : World} (o : Obj) (n : Nat) (hn : n = w.heap.size) : blk (w.alloc o) n = some o := by subst hn; exact heap_alloc_new w o
theorem blk_alloc_past {w : World} (o : Obj) (n : Nat) (hn : n < w.heap.size) : blk (w.alloc o) n = blk w n := Below.heap_alloc w o n hn
theorem blk_drew (w : World) (n : Nat) : blk w.drew n = blk w n := rfl
theorem blk_cell {w : World} {B : Nat} {cs : Array Value} {t : TypeId} {fr : Nat × Nat} (h : blk w B = some (.cells cs t fr)) (j : Nat) : w.cell? ⟨B, j, none⟩ = cs[j]? := cell_of_row w B j cs t fr h
theorem below_new (w : World) (o : Obj) : Below w.heap.size w (w.alloc o) := (Below.refl _ _).alloc (Nat.le_refl _) _
theorem below_alloc {B : Nat} {a w : World} (h : Below B a w) (hB : B ≤ a.heap.size) (o : Obj) : Below B a (w.alloc o) := h.alloc (Nat.le_trans hB h.size) o

/-- A slice that reads as bytes: nil, or an address and room. -/
structure IsBytes (w : World) (a : Option Addr) (cap : Nat) (bs : List Nat) : Prop where
  le : bs.length ≤ cap
  big : cap ≤ maxLen
  nil : a = none → cap = 0
  at_ : ∀ p, a = some p → p.spot = none ∧ (∀ i (hi : i < bs.length), w.cell? ⟨p.block, p.off + i, none⟩ = some (.int .u8 (bs[i] : Int))) ∧ p.block < w.heap.size
  lt : ∀ b ∈ bs, b < 256

theorem IsBytes.below {w w' : World} {a : Option Addr} {cap : Nat} {bs : List Nat} (h : IsBytes w a cap bs) (hb : Below w.heap.size w w') : IsBytes w' a cap bs :=
  ⟨h.le, h.big, h.nil, fun p e => let ⟨h1, h2, h3⟩ := h.at_ p e; ⟨h1, fun i hi => (hb.cell (p := ⟨p.block, p.off + i, none⟩) h3).trans (h2 i hi), Nat.lt_of_lt_of_le h3 hb.size⟩, h.lt⟩

theorem info5 : (Try.prog.info? 5).map (fun i => (i.zero, i.size, i.bytes)) = some (some (.int .u8 0), 1, 1) := by kernel_rfl

/-- A row of the call's own reads as bytes. -/
theorem bytes_own {w : World} {base : Nat} {v : Value} {bs : List Nat} (h : w.ownsRow base 5 1 v bs.length (u8s bs)) (hb : ∀ b ∈ bs, b < 256) : ∃ a cap, v = .slice a bs.length cap ∧ IsBytes w a cap bs := by
  rcases h.2 with ⟨rfl, hn⟩ | ⟨g, cap, cur, rfl, _, hg, hle, hm, _⟩
  · rw [hn]
    exact ⟨none, 0, rfl, by omega, by unfold maxLen; omega, fun _ => rfl, fun p e => (by cases e), hb⟩
  · refine ⟨some ⟨g, 0, none⟩, cap, rfl, hle, hm, fun e => (by cases e), fun p e => ?_, hb⟩
    obtain rfl : p = ⟨g, 0, none⟩ := by simpa using e.symm
    refine ⟨rfl, fun i hi => ?_, blk_lt (w := w) hg⟩
    rw [Nat.zero_add, h.cellAt _ (by omega)]
    exact u8s_get bs i hi

theorem leaf_any (a : Option Addr) (n cap : Nat) (w : World) :
    Calls Try.prog 29 #[.slice a n cap] w fun e w' => e = .returned (.pointer (some ⟨w.heap.size, 0, none⟩)) ∧ w.alloc (.cells #[.pointer none, .pointer none, .slice a n cap, .int .i64 (n : Int), .int .i64 1] 76) = w' := by
  go_enter Try.func29, Try.ntmps29
  go_wp2
  go_ret
  exact ⟨rfl, rfl⟩

theorem clone_nil (w : World) : Calls Try.prog 26 #[.slice none 0 0] w fun e w' => e = .returned (.slice none 0 0) ∧ w = w' := by
  have hq : ∀ w, (binOp .eql 28 (.slice none 0 0) (.slice none 0 0)).run Try.prog w = .ok (.bool true) w := fun w => Lib.run_eql_slice_nil w 28 5 none 0 0 0 0 Try.underlying28
  go_enter Try.func26, Try.ntmps26
  go_wp2
  go_ret
  exact ⟨rfl, rfl⟩

theorem clone_some (p : Addr) (cap : Nat) (bs : List Nat) (w : World) (h : IsBytes w (some p) cap bs) (hl : bs.length ≤ 140737488351232) :
    Calls Try.prog 26 #[.slice (some p) bs.length cap] w fun e w' => ∃ u, e = .returned u ∧ w'.ownsRow w.heap.size 5 1 u bs.length (u8s bs) ∧ Below w.heap.size w w' := by
  obtain ⟨i0, hi, hz0, hz1, hz2⟩ := info_parts info5
  have HH := Lib.hid h
  have hq : ∀ w, (binOp .eql 28 (.slice (some p) bs.length cap) (.slice none 0 0)).run Try.prog w = .ok (.bool false) w := fun w => Lib.run_eql_slice_nil w 28 5 (some p) _ _ 0 0 Try.underlying28
  clear h
  go_enter Try.func26, Try.ntmps26
  have hsp := (HH.out.at_ p rfl).1
  obtain ⟨b, off, spot⟩ := p
  have hsp' : spot = none := hsp
  subst hsp'
  have HO := Lib.hid (World.ownsRow_lit (base := w.heap.size) (size := 1) (e := 5) w #[] 0 (Nat.le_refl _) (by decide) rfl)
  clear hsp
  go_wp2_with (at_builtin; refine wpList_append_own _ rfl _ _ 28 rfl w.heap.size 5 i0 _ 1 1 Try.underlying28 hi hz0 hz1 hz2 rfl (by decide) _ 0 [] rfl HO.out ⟨b, off, none⟩ bs.length cap (u8s bs) rfl ?c0 ?c1 ?c2 ?c3 ?c4 ?c5 ?_)
  case c0 => exact u8s_length bs
  case c1 =>
    intro j u hu
    have hj : j < bs.length := by
      rcases Nat.lt_or_ge j bs.length with h | h
      · exact h
      · rw [List.getElem?_eq_none (by rw [u8s_length]; exact h)] at hu; cases hu
    obtain ⟨_, h2, h3⟩ := HH.out.at_ _ rfl
    refine (World.cell?_alloc_lt w _ ⟨b, off + j, none⟩ h3).trans ((h2 j hj).trans ?_)
    rw [← hu, u8s_get bs j hj]
  case c2 => intro u hu; obtain ⟨x, _, rfl⟩ := List.mem_map.1 hu; rfl
  case c3 => unfold maxLen; omega
  case c4 => omega
  intro v' w' hown hgrow hnil
  have hb : Below w.heap.size w w' := Below.grown (below_new w _) hgrow (by simp) (fun k hk => by simp [Value.ownBlock] at hk; omega)
  clear hgrow hnil
  have HW := Lib.hid hown
  clear hown
  go_wp2
  go_ret
  exact ⟨v', rfl, HW.out, hb⟩

theorem clone_any (a : Option Addr) (cap : Nat) (bs : List Nat) (w : World) (h : IsBytes w a cap bs) (hl : bs.length ≤ 140737488351232) :
    Calls Try.prog 26 #[.slice a bs.length cap] w fun e w' => ∃ u, e = .returned u ∧ w'.ownsRow w.heap.size 5 1 u bs.length (u8s bs) ∧ Below w.heap.size w w' := by
  cases a with
  | some p => exact clone_some p cap bs w h hl
  | none =>
    have h0 := h.nil rfl
    have h1 := h.le
    have hb : bs = [] := List.eq_nil_of_length_eq_zero (by omega)
    subst hb
    subst h0
    exact (clone_nil w).mono fun e w' ⟨he, hw⟩ => ⟨_, he, World.ownsRow_nil _ _ _ _, hw ▸ Below.refl _ _⟩
end Go.Proofs.Yteaciponojocbaa
