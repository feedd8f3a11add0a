/- An edit, handed in by value. -/
import Derived.Test.YteaciponojocbaaThree
import Derived.Lib.SmallJoins
namespace Go.Proofs.Yteaciponojocbaa
open Go.ChangeShapes Go.WideShapes Go.RowKit

theorem open_bytes_cell {H : Type} {enc : TypeId × Value → H} {w : World} {fuel : Nat} {v : Value} {x : DataW H × List MemPlace}
    (hf : DataW.trod enc Try.prog w 0 (fun _ => true) true fuel 28 [v] = some x) :
    ∃ (a : Option Addr) (bs : List Nat) (cap : Nat), v = .slice a bs.length cap ∧ ArgBytes w a cap bs := by
  rcases open_ints Try.underlying28 Try.underlying5 cells5 hf with ⟨hcs, _⟩ | ⟨a, len', cap', zs, hcs, _, hl, hm, hz, _, hcell, hwz⟩
  · have e : v = .slice none 0 0 := by simpa [Value.cells] using hcs
    rw [e]
    exact ⟨none, [], 0, rfl, .inr ⟨rfl, rfl⟩⟩
  · have e : v = .slice (some a) len' cap' := by simpa [Value.cells] using hcs
    rw [e]
    simp only [if_true] at hz
    have hlen : ((zs.take len').map fun z => z.toNat).length = len' := by simp; omega
    refine ⟨some a, (zs.take len').map fun z => z.toNat, cap', by rw [hlen], ?_⟩
    by_cases hc : cap' = 0
    · right
      exact ⟨List.eq_nil_of_length_eq_zero (by rw [hlen]; omega), hc⟩
    · left
      obtain ⟨b, off, spot⟩ := a
      have hs0 : (⟨b, off, spot⟩ : Addr).spot = none := by
        have := World.cell?_spot (hcell 0 (by omega))
        simpa [Addr.add] using this
      have hs : spot = none := hs0
      subst hs
      have hblk : b < w.heap.size := by
        have := hcell 0 (by omega)
        rw [Addr.add_mid] at this
        exact block_lt_of_cell this
      refine ⟨by rw [hlen]; exact hl, hm, fun e => (by cases e), fun p e => ?_, fun x hx => ?_⟩
      · obtain rfl : p = ⟨b, off, none⟩ := by simpa using e.symm
        refine ⟨rfl, fun i hi => ?_, hblk⟩
        rw [hlen] at hi
        have hci := hcell i (by omega)
        rw [Addr.add_mid] at hci
        rw [hci]
        have hw := hwz _ (List.getElem_mem (show i < zs.length by omega))
        obtain ⟨n, hn, _⟩ := u8_nat hw
        simp only [List.getElem_map, List.getElem_take, List.getD, List.getElem?_eq_getElem (show i < zs.length by omega), Option.getD_some]
        rw [hn]; rfl
      · obtain ⟨z, hz1, rfl⟩ := List.mem_map.1 hx
        have hw := hwz _ (List.mem_of_mem_take hz1)
        have := bounds_u8 hw
        omega

theorem open_edit {H : Type} {enc : TypeId × Value → H} {w : World} {r : Reach} {b0 : Nat} {v : Value} {d : DataW H} {ps : List MemPlace}
    (hval : Value.okWide Try.prog w r b0 33 v) (hd : DataW.Trod enc Try.prog w 0 (fun _ => true) true 33 v d ps) :
    ∃ (x y : Int) (a : Option Addr) (bs : List Nat) (cap : Nat), v = .agg #[.int .i64 x, .int .i64 y, .slice a bs.length cap] ∧ ArgBytes w a cap bs := by
  obtain ⟨v0, v1, v2, y0, y1, y2, n, rfl, _, _, h0, h1, h2⟩ := Joins.open_agg3 Try.underlying33 (by kernel_rfl) (by kernel_rfl) hval hd
  obtain ⟨x, e0, _⟩ := DataW.trod_int Try.underlying3 h0
  obtain ⟨y, e1, _⟩ := DataW.trod_int Try.underlying3 h1
  obtain ⟨a, bs, cap, rfl, hb⟩ := open_bytes_cell h2
  simp only [List.cons.injEq, and_true] at e0 e1
  subst e0 e1
  exact ⟨x, y, a, bs, cap, rfl, hb⟩
end Go.Proofs.Yteaciponojocbaa
