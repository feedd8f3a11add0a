/- What the walks compute, said in the plain mathematics of groups and edges. -/
import Derived.Test.YtkhillpjoklfgaaShown
import Derived.Test.YtkhillpjoklfgaaMath
namespace Go.Proofs.Ytkhillpjoklfgaa
open Go.RowKit Mat

/-- Rows of natural numbers, as Go's ints. -/
def castR (N : Nat → Nat) : Nat → Int := fun x => (N x : Int)

theorem wrap_nat {n : Nat} (h : n < 9223372036854775808) : IntKind.i64.wrap (n : Int) = n := by
  rw [IntKind.wrap_i64]; omega
theorem ofInt_nat {n : Nat} (h : n < 9223372036854775808) : (BitVec.ofInt 64 (n : Int)).toNat = n := by
  rw [BitVec.ofInt_natCast, BitVec.toNat_ofNat]; exact Nat.mod_eq_of_lt (by omega)
theorem and_nat {a b : Nat} (ha : a < 1024) (hb : b < 1024) : bits .and .i64 (a : Int) (b : Int) = ((a &&& b : Nat) : Int) := by
  show IntKind.i64.wrap ((BitVec.ofInt 64 (a : Int) &&& BitVec.ofInt 64 (b : Int)).toNat : Int) = _
  rw [BitVec.toNat_and, ofInt_nat (by omega), ofInt_nat (by omega)]
  have : a &&& b < 1024 := Nat.and_lt_two_pow (n := 10) _ hb
  exact wrap_nat (by omega)
theorem or_nat {a b : Nat} (ha : a < 1024) (hb : b < 1024) : bits .or .i64 (a : Int) (b : Int) = ((a ||| b : Nat) : Int) := by
  show IntKind.i64.wrap ((BitVec.ofInt 64 (a : Int) ||| BitVec.ofInt 64 (b : Int)).toNat : Int) = _
  rw [BitVec.toNat_or, ofInt_nat (by omega), ofInt_nat (by omega)]
  have : a ||| b < 1024 := or_lt ha hb
  exact wrap_nat (by omega)

theorem bitB_nat {n : Nat} (hn : n < 1024) (k : Nat) : bitB (n : Int) k = n.testBit k := by
  have hd : ((n : Int) / 2 ^ k) = ((n / 2 ^ k : Nat) : Int) := by simp
  have hq : n / 2 ^ k < 1024 := Nat.lt_of_le_of_lt (Nat.div_le_self _ _) hn
  unfold bitB
  rw [hd]
  have := and_nat (a := n / 2 ^ k) (b := 1) hq (by decide)
  rw [show ((1 : Nat) : Int) = 1 from rfl] at this
  rw [this, Nat.testBit_eq_decide_div_mod_eq, Nat.and_one_is_mod]
  rw [Bool.eq_iff_iff, beq_iff_eq, decide_eq_true_eq]
  omega

theorem tgt_cast {N : Nat → Nat} (hl : ∀ x, N x < 1024) {x y : Nat} (hx : x < 10) (hy : y < 10) : tgt (castR N) x y = T N x y := by
  rw [tgt, inG_yes (by omega) (by omega), inG_yes (by omega) (by omega), Bool.true_and, Bool.true_and]
  exact bitB_nat (hl x) y

theorem pow_cast (h : Nat) : ((2 : Int) ^ h) = ((2 ^ h : Nat) : Int) := by simp

theorem edK_cast {N : Nat → Nat} (hl : ∀ x, N x < 1024) {g h x : Nat} (hg : g < 10) (hh : h < 10) (hx : x < 10) : edK (castR N) g h 10 x = castR (edN N g h) x := by
  unfold edK moreB castR edN
  rw [show (fun x => (N x : Int)) = castR N from rfl, tgt_cast hl hx hg]
  by_cases c : x = g ∨ T N x g = true
  · rw [if_pos ⟨hx, c⟩, if_pos c, pow_cast, or_nat (hl h) (pow_lt hh), or_nat (hl x) (or_lt (hl h) (pow_lt hh))]
  · rw [if_neg (fun q => c q.2), if_neg c]

theorem startR_cast (x : Nat) (hx : x < 10) : startR x = castR startN x := by
  have : ∀ x : Fin 10, startR x.val = castR startN x.val := by decide +kernel
  exact this ⟨x, hx⟩
theorem RV_start : RV startR = RV (castR startN) := RV_congr _ _ startR_cast
theorem RV_edN {N : Nat → Nat} (hl : ∀ x, N x < 1024) {g h : Nat} (hg : g < 10) (hh : h < 10) : RV (edK (castR N) g h 10) = RV (castR (edN N g h)) :=
  RV_congr _ _ fun _ hx => edK_cast hl hg hh hx

/-- An edge over rows of natural numbers: refused .. -/
theorem edge_no {N : Nat → Nat} (G : Mat.Good N) {g h : Nat} (hg : 1 ≤ g ∧ g < 10) (hh : 1 ≤ h ∧ h < 10) (hc : g = h ∨ T N h g = true) (w : World) : Calls Try.prog 9 #[.agg (RV (castR N)), .int .i64 g, .int .i64 h] w fun e w' => e = .returned (.tuple #[.agg (RV zeroR), .int .i64 25]) ∧ Below w.heap.size w w' :=
  edge_cycle _ g h w (by omega) hg.2 (by omega) hh.2 (by rw [tgt_cast G.lt hh.2 hg.2]; exact hc)
/-- .. or laid. -/
theorem edge_yes {N : Nat → Nat} (G : Mat.Good N) {g h : Nat} (hg : 1 ≤ g ∧ g < 10) (hh : 1 ≤ h ∧ h < 10) (hc : ¬ (g = h ∨ T N h g = true)) (w : World) : Calls Try.prog 9 #[.agg (RV (castR N)), .int .i64 g, .int .i64 h] w fun e w' => e = .returned (.tuple #[.agg (RV (castR (edN N g h))), .int .i64 0]) ∧ Below w.heap.size w w' := by
  have := edge_ok (castR N) g h w (by omega) hg.2 (by omega) hh.2 (fun e => hc (.inl e)) (by rw [tgt_cast G.lt hh.2 hg.2]; simpa using fun e => hc (.inr e))
  rwa [RV_edN G.lt hg.2 hh.2] at this
theorem tight_nat {N : Nat → Nat} (G : Mat.Good N) {g h : Nat} (hg : g < 10) (hh : h < 10) (w : World) : Calls Try.prog 13 #[.agg (RV (castR N)), .int .i64 g, .int .i64 h] w fun e w' => e = .returned (.bool (T N g h)) ∧ w.alloc (.cells (RV (castR N)) 23) = w' := by
  have := tight (castR N) g h w
  rwa [tgt_cast G.lt hg hh] at this
theorem start_nat (w : World) : Calls Try.prog 11 #[] w fun e w' => e = .returned (.agg (RV (castR startN))) ∧ Below w.heap.size w w' := by
  have := start w
  rwa [RV_start] at this
end Go.Proofs.Ytkhillpjoklfgaa
