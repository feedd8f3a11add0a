/- Arguments opened: a slice of pairs of bytes; one such pair. -/
import Derived.Test.YtkhillpjoklfgaaOpen
import Derived.Test.YtkhillpjoklfgaaLaid
namespace Go.Proofs.Ytkhillpjoklfgaa
open Go.ChangeShapes Go.WideShapes Go.RowKit

theorem pair_nat {z : Int} (h : (Lit.int .u8 z).wf = true) : ∃ n : Nat, z = n ∧ n < 256 := by
  have := bounds_u8 h
  exact ⟨z.toNat, by omega, by omega⟩

/-- A slice of pairs of bytes, whatever it holds. -/
theorem open_pairs {H : Type} {enc : TypeId × Value → H} {w : World} {r : Reach} {b0 : Nat} {v : Value} {d : DataW H} {ps : List MemPlace}
    (hval : Value.okWide Try.prog w r b0 30 v) (hd : DataW.Trod enc Try.prog w 0 (fun _ => true) true 30 v d ps) :
    ∃ (a : Option Addr) (l : List (Nat × Nat)) (cap : Nat), v = .slice a l.length cap ∧ IsPairs w a l ∧ l.length ≤ maxLen := by
  obtain ⟨a0, len, cap, rfl⟩ := okWide_slice Try.underlying30 hval
  obtain ⟨fuel, hf⟩ := hd
  rcases Go.Deep.open_slice Try.underlying30 hf with ⟨hcs, _⟩ | ⟨a, len', cap', m, n, D, Pl, hcs, _, hl, hmx, hm, _, hx⟩
  · have e : Value.slice a0 len cap = .slice none 0 0 := by simpa [Value.cells] using hcs
    rw [e]
    exact ⟨none, [], 0, rfl, ⟨fun i hi => absurd hi (by simp), fun p hp => by cases hp⟩, Nat.zero_le _⟩
  · have e : Value.slice a0 len cap = .slice (some a) len' cap' := by simpa [Value.cells] using hcs
    rw [e]
    have hm' : m = cap' := hm
    have each : ∀ i, i < len' → ∃ p : Nat × Nat, w.cell? (a.add (i * 2)) = some (.int .u8 (p.1 : Int)) ∧ w.cell? ((a.add (i * 2)).add 1) = some (.int .u8 (p.2 : Int)) ∧ p.1 < 256 ∧ p.2 < 256 := by
      intro i hi
      obtain ⟨cs', h1, h2⟩ := hx i (by omega)
      rw [cells36] at h1
      obtain ⟨zs, h3, h4⟩ := ints_of_trod Try.underlying36 Try.underlying5 cells5 cells36 h2
      obtain ⟨_, _, h5⟩ := World.cells?_some h1
      obtain ⟨x, hx0, hx1⟩ := pair_nat (h4 0 (by decide))
      obtain ⟨y, hy0, hy1⟩ := pair_nat (h4 1 (by decide))
      refine ⟨(x, y), ?_, ?_, hx1, hy1⟩
      · have := h5 0 (by decide)
        rw [h3] at this
        rw [show (a.add (i * 2)).add 0 = a.add (i * 2) from rfl] at this
        rw [this, ← hx0]; rfl
      · have := h5 1 (by decide)
        rw [h3] at this
        rw [this, ← hy0]; rfl
    obtain ⟨f, hf2⟩ := Go.Deep.choose_lt each
    refine ⟨some a, (List.range len').map f, cap', by simp, ⟨?_, ?_⟩, by simp; omega⟩
    · intro i hi
      have hi' : i < len' := by simpa using hi
      obtain ⟨c1, c2, _, _⟩ := hf2 i hi'
      obtain ⟨b, off, spot⟩ := a
      have hs0 : (⟨b, off, spot⟩ : Addr).spot = none := by
        have c0 := (hf2 0 (by omega)).1
        have := World.cell?_spot c0
        simpa [Addr.add] using this
      have hs : spot = none := hs0
      subst hs
      have e1 : (⟨b, off, none⟩ : Addr).add (i * 2) = ⟨b, off + i * 2, none⟩ := Addr.add_mid b off (i * 2)
      have e2 : (⟨b, off + i * 2, none⟩ : Addr).add 1 = ⟨b, off + i * 2 + 1, none⟩ := Addr.add_mid b _ 1
      rw [e1] at c1 c2
      rw [e2] at c2
      refine ⟨b, off, rfl, ?_, ?_, block_lt_of_cell c1⟩
      · simpa using c1
      · simpa using c2
    · intro p hp
      obtain ⟨i, hi, rfl⟩ := List.mem_map.1 hp
      exact (hf2 i (List.mem_range.1 hi)).2.2

/-- One pair of bytes, handed in by value. -/
theorem open_pair {H : Type} {enc : TypeId × Value → H} {w : World} {base : Nat} {spare : Nat → Bool} {held : Bool} {r : Reach} {b0 : Nat} {v : Value} {d : DataW H} {ps : List MemPlace}
    (hval : Value.okWide Try.prog w r b0 36 v) (hd : DataW.Trod enc Try.prog w base spare held 36 v d ps) : ∃ x y : Nat, v = .agg #[.int .u8 (x : Int), .int .u8 (y : Int)] ∧ x < 256 ∧ y < 256 := by
  obtain ⟨zs, rfl, hz⟩ := open_array Try.underlying36 Try.underlying5 cells5 cells36 hval hd
  obtain ⟨x, hx0, hx1⟩ := pair_nat (hz 0 (by decide))
  obtain ⟨y, hy0, hy1⟩ := pair_nat (hz 1 (by decide))
  refine ⟨x, y, ?_, hx1, hy1⟩
  rw [← hx0, ← hy0]; rfl
end Go.Proofs.Ytkhillpjoklfgaa
