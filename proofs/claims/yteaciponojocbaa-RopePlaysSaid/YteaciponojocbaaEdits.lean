/- A row of edits, and three numbers, handed in. -/
import Derived.Test.YteaciponojocbaaEdit
import Derived.Deep.Strs
namespace Go.Proofs.Yteaciponojocbaa
open Go.ChangeShapes Go.WideShapes Go.RowKit

/-- An edit, in memory. -/
def EditAt (w : World) (b off : Nat) (x y : Int) (s : Option Addr) (l : List Nat) (c : Nat) : Prop :=
  w.cell? ⟨b, off, none⟩ = some (.int .i64 x) ∧ w.cell? ⟨b, off + 1, none⟩ = some (.int .i64 y) ∧ w.cell? ⟨b, off + 2, none⟩ = some (.slice s l.length c) ∧ ArgBytes w s c l
/-- A row of edits. -/
def ArgEdits (w : World) (a : Option Addr) (n : Nat) : Prop :=
  ∀ i, i < n → ∃ b off, a = some ⟨b, off, none⟩ ∧ ∃ x y s l c, EditAt w b (off + i * 3) x y s l c
theorem EditAt.below {w w' : World} {b off : Nat} {x y : Int} {s : Option Addr} {l : List Nat} {c : Nat} (h : EditAt w b off x y s l c) (hb : Below w.heap.size w w') : EditAt w' b off x y s l c := by
  obtain ⟨h1, h2, h3, h4⟩ := h
  exact ⟨(hb.cell (p := ⟨b, off, none⟩) (block_lt_of_cell h1)).trans h1, (hb.cell (p := ⟨b, off + 1, none⟩) (block_lt_of_cell h2)).trans h2, (hb.cell (p := ⟨b, off + 2, none⟩) (block_lt_of_cell h3)).trans h3, h4.below hb⟩
theorem ArgEdits.below {w w' : World} {a : Option Addr} {n : Nat} (h : ArgEdits w a n) (hb : Below w.heap.size w w') : ArgEdits w' a n :=
  fun i hi => let ⟨b, off, e, x, y, s, l, c, q⟩ := h i hi; ⟨b, off, e, x, y, s, l, c, q.below hb⟩

theorem open_edits {H : Type} {enc : TypeId × Value → H} {w : World} {r : Reach} {b0 : Nat} {v : Value} {d : DataW H} {ps : List MemPlace}
    (hval : Value.okWide Try.prog w r b0 44 v) (hd : DataW.Trod enc Try.prog w 0 (fun _ => true) true 44 v d ps) :
    ∃ (a : Option Addr) (n cap : Nat), v = .slice a n cap ∧ n ≤ maxLen ∧ ArgEdits w a n := by
  obtain ⟨a0, len, cap, rfl⟩ := okWide_slice Try.underlying44 hval
  obtain ⟨fuel, hf⟩ := hd
  have hC : Try.prog.cellsOf 33 = 3 := by kernel_rfl
  rcases DataW.trod_slice Try.underlying44 hf with ⟨hcs, _⟩ | ⟨a, len', cap', elems, rest, n, _, hcs, _, _, hl, hm, hel, hcell, _, _⟩
  · have e : Value.slice a0 len cap = .slice none 0 0 := by simpa [Value.cells] using hcs
    rw [e]
    exact ⟨none, 0, 0, rfl, Nat.zero_le _, fun i hi => absurd hi (Nat.not_lt_zero i)⟩
  · have e : Value.slice a0 len cap = .slice (some a) len' cap' := by simpa [Value.cells] using hcs
    rw [e]
    rw [hC] at hcell
    refine ⟨some a, len', cap', rfl, Nat.le_trans hl hm, fun i hi => ?_⟩
    have h1 := hcell i hi
    rw [List.getElem?_eq_getElem (by omega)] at h1
    obtain ⟨cs, h2, h3⟩ := Option.bind_eq_some_iff.1 h1
    obtain ⟨_, hlen, hat⟩ := World.cells?_some h2
    match cs, hlen with
    | [c0, c1, c2], _ =>
      obtain ⟨y0, y1, y2, m, _, _, t0, t1, t2⟩ := Go.Deep.trod_struct3 Try.underlying33 h3
      have t0' : DataW.trod enc Try.prog w 0 (fun _ => true) true m 3 ([c0, c1, c2].take (Try.prog.cellsOf 3)) = some y0 := t0
      have t1' : DataW.trod enc Try.prog w 0 (fun _ => true) true m 3 ([c1, c2].take (Try.prog.cellsOf 3)) = some y1 := t1
      have t2' : DataW.trod enc Try.prog w 0 (fun _ => true) true m 28 ([c2].take (Try.prog.cellsOf 28)) = some y2 := t2
      rw [show Try.prog.cellsOf 3 = 1 by kernel_rfl] at t0' t1'
      rw [show Try.prog.cellsOf 28 = 1 by kernel_rfl] at t2'
      obtain ⟨x, e0, _⟩ := DataW.trod_int Try.underlying3 t0'
      obtain ⟨y, e1, _⟩ := DataW.trod_int Try.underlying3 t1'
      obtain ⟨s, l, c, rfl, hb⟩ := open_bytes_cell (fuel := m) (v := c2) t2'
      have q0 := hat 0 (by omega)
      have q1 := hat 1 (by omega)
      have q2 := hat 2 (by omega)
      simp at e0 e1 q0 q1 q2
      subst e0 e1
      obtain ⟨b, off, spot⟩ := a
      have hs0 : (⟨b, off, spot⟩ : Addr).spot = none := by
        have h00 := hcell 0 (by omega)
        rw [List.getElem?_eq_getElem (by omega : 0 < elems.length)] at h00
        obtain ⟨cs0, g2, _⟩ := Option.bind_eq_some_iff.1 h00
        obtain ⟨_, glen, gat⟩ := World.cells?_some g2
        have g0 := gat 0 (by omega)
        rw [List.getElem?_eq_getElem (by omega)] at g0
        have := World.cell?_spot g0
        simpa [Addr.add] using this
      have hs : spot = none := hs0
      subst hs
      simp only [Addr.add_mid] at q0 q1 q2
      exact ⟨b, off, rfl, x, y, s, l, c, by simpa using q0, q1, q2, hb⟩

theorem open_ints3 {H : Type} {enc : TypeId × Value → H} {w : World} {base : Nat} {spare : Nat → Bool} {held : Bool} {r : Reach} {b0 : Nat} {v : Value} {d : DataW H} {ps : List MemPlace}
    (hval : Value.okWide Try.prog w r b0 45 v) (hd : DataW.Trod enc Try.prog w base spare held 45 v d ps) : ∃ x y z : Int, v = .agg #[.int .i64 x, .int .i64 y, .int .i64 z] := by
  obtain ⟨zs, rfl, _⟩ := open_array Try.underlying45 Try.underlying3 (by kernel_rfl) (by kernel_rfl) hval hd
  exact ⟨zs 0, zs 1, zs 2, rfl⟩
end Go.Proofs.Yteaciponojocbaa
