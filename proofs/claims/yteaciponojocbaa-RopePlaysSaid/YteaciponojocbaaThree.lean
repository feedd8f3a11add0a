/- An array of three numbers of two bytes, handed in by value. -/
import Derived.Test.YteaciponojocbaaTwice
import Derived.Deep.Slices
namespace Go.Proofs.Yteaciponojocbaa
open Go.ChangeShapes Go.WideShapes Go.RowKit
section
variable {H : Type} {enc : TypeId × Value → H} {P : Program} {w : World} {base : Nat} {spare : Nat → Bool} {held : Bool}

/-- The cells of an array of whole numbers, as a reading tells. -/
theorem ints_of_trod {t e : TypeId} {k : IntKind} {n fuel : Nat} {cs : List Value} {x : DataW H × List MemPlace} (ht : P.underlying t = some (.array n e)) (he : P.underlying e = some (.int k)) (hce : P.cellsOf e = 1) (hct : P.cellsOf t = n)
    (h : DataW.trod enc P w base spare held fuel t cs = some x) : ∃ zs : Nat → Int, cs = (List.range n).map (fun i => Value.int k (zs i)) ∧ ∀ i, i < n → (Lit.int k (zs i)).wf = true := by
  obtain ⟨xs, m, rfl, rfl, hl, hxl, hx⟩ := DataW.trod_array ht h
  rw [hct] at hl
  have each : ∀ i, i < n → ∃ z : Int, cs[i]? = some (.int k z) ∧ (Lit.int k z).wf = true := by
    intro i hi
    have := hx i hi
    rw [hce, Nat.mul_one, List.getElem?_eq_getElem (by omega)] at this
    obtain ⟨z, h1, _, h3⟩ := DataW.trod_int he this
    refine ⟨z, ?_, h3⟩
    have h2 : ((cs.drop i).take 1)[0]? = some (.int k z) := by rw [h1]; rfl
    simpa using h2
  obtain ⟨zs, hz⟩ := Go.Deep.choose_lt each
  refine ⟨zs, ?_, fun i hi => (hz i hi).2⟩
  apply List.ext_getElem?
  intro i
  by_cases hi : i < n
  · rw [(hz i hi).1]
    simp [hi]
  · rw [List.getElem?_eq_none (by omega), List.getElem?_eq_none (by simp; omega)]

theorem okWide_array {r : Reach} {b0 : Nat} {t e : TypeId} {n : Nat} {v : Value} (ht : P.underlying t = some (.array n e)) (h : Value.okWide P w r b0 t v) : ∃ cs, v = .agg cs ∧ cs.size = P.cellsOf t := by
  simp only [Value.okWide, ht] at h
  obtain ⟨cs, h1, h2, _⟩ := h
  exact ⟨cs, h1, h2⟩
theorem open_array {r : Reach} {b0 : Nat} {t e : TypeId} {k : IntKind} {n : Nat} {v : Value} {d : DataW H} {ps : List MemPlace} (ht : P.underlying t = some (.array n e)) (he : P.underlying e = some (.int k)) (hce : P.cellsOf e = 1) (hct : P.cellsOf t = n)
    (hval : Value.okWide P w r b0 t v) (hd : DataW.Trod enc P w base spare held t v d ps) : ∃ zs : Nat → Int, v = .agg ((List.range n).map (fun i => Value.int k (zs i))).toArray ∧ ∀ i, i < n → (Lit.int k (zs i)).wf = true := by
  obtain ⟨cs, rfl, _⟩ := okWide_array ht hval
  obtain ⟨fuel, hf⟩ := hd
  obtain ⟨zs, h1, h2⟩ := ints_of_trod ht he hce hct hf
  refine ⟨zs, ?_, h2⟩
  have : cs.toList = (List.range n).map (fun i => Value.int k (zs i)) := h1
  rw [← this]
end
theorem open_three {H : Type} {enc : TypeId × Value → H} {w : World} {base : Nat} {spare : Nat → Bool} {held : Bool} {r : Reach} {b0 : Nat} {v : Value} {d : DataW H} {ps : List MemPlace}
    (hval : Value.okWide Try.prog w r b0 38 v) (hd : DataW.Trod enc Try.prog w base spare held 38 v d ps) : ∃ x y z : Nat, v = .agg #[.int .u16 (x : Int), .int .u16 (y : Int), .int .u16 (z : Int)] ∧ x < 65536 ∧ y < 65536 ∧ z < 65536 := by
  obtain ⟨zs, rfl, hw⟩ := open_array Try.underlying38 Try.underlying22 (by kernel_rfl) (by kernel_rfl) hval hd
  obtain ⟨x, hx, hx2⟩ := u16_nat (hw 0 (by decide))
  obtain ⟨y, hy, hy2⟩ := u16_nat (hw 1 (by decide))
  obtain ⟨z, hz, hz2⟩ := u16_nat (hw 2 (by decide))
  exact ⟨x, y, z, by rw [← hx, ← hy, ← hz]; rfl, hx2, hy2, hz2⟩
end Go.Proofs.Yteaciponojocbaa
