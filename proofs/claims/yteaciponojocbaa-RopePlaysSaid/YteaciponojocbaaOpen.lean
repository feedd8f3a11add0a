/- Arguments opened: numbers of two bytes; slices of bytes. -/
import Derived.Test.YteaciponojocbaaSmall
import Derived.OpenShut
import Derived.ChangeSlices
namespace Go.Proofs.Yteaciponojocbaa
open Go.ChangeShapes Go.WideShapes Go.RowKit

theorem laidOut : laidOutB Try.prog = true := by kernel_rfl
theorem cells5 : Try.prog.cellsOf 5 = 1 := by kernel_rfl
theorem u16_nat {z : Int} (h : (Lit.int .u16 z).wf = true) : ∃ n : Nat, z = n ∧ n < 65536 := by
  have := bounds_u16 h
  exact ⟨z.toNat, by omega, by omega⟩
theorem u8_nat {z : Int} (h : (Lit.int .u8 z).wf = true) : ∃ n : Nat, z = n ∧ n < 256 := by
  have := bounds_u8 h
  exact ⟨z.toNat, by omega, by omega⟩

/-- Bytes handed in: a slice without room may lie anywhere. -/
def ArgBytes (w : World) (a : Option Addr) (cap : Nat) (bs : List Nat) : Prop := IsBytes w a cap bs ∨ bs = [] ∧ cap = 0

theorem open_bytes {H : Type} {enc : TypeId × Value → H} {w : World} {r : Reach} {b0 : Nat} {v : Value} {d : DataW H} {ps : List MemPlace}
    (hval : Value.okWide Try.prog w r b0 28 v) (hd : DataW.Trod enc Try.prog w 0 (fun _ => true) true 28 v d ps) :
    ∃ (a : Option Addr) (bs : List Nat) (cap : Nat), v = .slice a bs.length cap ∧ ArgBytes w a cap bs := by
  obtain ⟨a0, len, cap, rfl⟩ := okWide_slice Try.underlying28 hval
  obtain ⟨fuel, hf⟩ := hd
  rcases open_ints Try.underlying28 Try.underlying5 cells5 hf with ⟨hcs, _⟩ | ⟨a, len', cap', zs, hcs, _, hl, hm, hz, _, hcell, hwz⟩
  · have e : Value.slice a0 len cap = .slice none 0 0 := by simpa [Value.cells] using hcs
    rw [e]
    exact ⟨none, [], 0, rfl, .inr ⟨rfl, rfl⟩⟩
  · have e : Value.slice a0 len cap = .slice (some a) len' cap' := by simpa [Value.cells] using hcs
    rw [e]
    simp only [if_true] at hz
    have hlen : ((zs.take len').map fun z => z.toNat).length = len' := by simp; omega
    refine ⟨some a, (zs.take len').map fun z => z.toNat, cap', by rw [hlen], ?_⟩
    by_cases hc : cap' = 0
    · right
      exact ⟨List.eq_nil_of_length_eq_zero (by rw [hlen]; omega), hc⟩
    · left
      obtain ⟨b, off, spot⟩ := a
      have hs0 : (⟨b, off, spot⟩ : Addr).spot = none := by
        have := World.cell?_spot (hcell 0 (by omega))
        simpa [Addr.add] using this
      have hs : spot = none := hs0
      subst hs
      have hblk : b < w.heap.size := by
        have := hcell 0 (by omega)
        rw [Addr.add_mid] at this
        exact block_lt_of_cell this
      refine ⟨by rw [hlen]; exact hl, hm, fun e => (by cases e), fun p e => ?_, fun x hx => ?_⟩
      · obtain rfl : p = ⟨b, off, none⟩ := by simpa using e.symm
        refine ⟨rfl, fun i hi => ?_, hblk⟩
        rw [hlen] at hi
        have hci := hcell i (by omega)
        rw [Addr.add_mid] at hci
        rw [hci]
        have hw := hwz _ (List.getElem_mem (show i < zs.length by omega))
        obtain ⟨n, hn, _⟩ := u8_nat hw
        simp only [List.getElem_map, List.getElem_take, List.getD, List.getElem?_eq_getElem (show i < zs.length by omega), Option.getD_some]
        rw [hn]; rfl
      · obtain ⟨z, hz1, rfl⟩ := List.mem_map.1 hx
        have hw := hwz _ (List.mem_of_mem_take hz1)
        have := bounds_u8 hw
        omega

theorem few_zero (p : Addr) (w : World) : Calls Try.prog 13 #[.slice (some p) 0 0] w fun e w' => ∃ a2 cap2, e = .returned (.slice a2 ([] : List Nat).length cap2) ∧ IsBytes w' a2 cap2 [] ∧ Below w.heap.size w w' := by
  obtain ⟨b, off, spot⟩ := p
  go_enter Try.func13, Try.ntmps13
  go_wp2
  go_ret
  exact ⟨_, _, rfl, ⟨Nat.le_refl _, by decide, fun e => (by cases e), fun p e => ⟨by cases e; rfl, fun i hi => absurd hi (by simp), by cases e; simp⟩, fun b hb => (by cases hb)⟩, below_new _ _⟩
theorem few_arg (a : Option Addr) (cap : Nat) (bs : List Nat) (w : World) (h : ArgBytes w a cap bs) :
    Calls Try.prog 13 #[.slice a bs.length cap] w fun e w' => ∃ a2 cap2, e = .returned (.slice a2 (bs.take 300).length cap2) ∧ IsBytes w' a2 cap2 (bs.take 300) ∧ Below w.heap.size w w' := by
  rcases h with h | ⟨rfl, rfl⟩
  · exact few_any a cap bs w h
  · cases a with
    | none => exact few_nil w
    | some p => exact few_zero p w
theorem ArgBytes.below {w w' : World} {a : Option Addr} {cap : Nat} {bs : List Nat} (h : ArgBytes w a cap bs) (hb : Below w.heap.size w w') : ArgBytes w' a cap bs := h.imp (fun h => h.below hb) id
end Go.Proofs.Yteaciponojocbaa
