/- Two rows of ten whole numbers held against each other, as the walk meets it. -/
import Derived.Test.YtkhillpjoklfgaaTight
namespace Go.Proofs.Ytkhillpjoklfgaa
open Go.RowKit
def eqR (R S : Nat → Int) : Bool := R 0 == S 0 && (R 1 == S 1 && (R 2 == S 2 && (R 3 == S 3 && (R 4 == S 4 && (R 5 == S 5 && (R 6 == S 6 && (R 7 == S 7 && (R 8 == S 8 && R 9 == S 9))))))))
theorem eqR_iff (R S : Nat → Int) : eqR R S = true ↔ ∀ k, k < 10 → R k = S k := by
  unfold eqR
  simp only [Bool.and_eq_true, beq_iff_eq]
  constructor
  · rintro ⟨h0, h1, h2, h3, h4, h5, h6, h7, h8, h9⟩
    exact lt10 (p := fun k => R k = S k) h0 h1 h2 h3 h4 h5 h6 h7 h8 h9
  · intro h
    exact ⟨h 0 (by decide), h 1 (by decide), h 2 (by decide), h 3 (by decide), h 4 (by decide), h 5 (by decide), h 6 (by decide), h 7 (by decide), h 8 (by decide), h 9 (by decide)⟩
theorem run_equalIn23 (R S : Nat → Int) (w : World) (d : Nat) : (Op.equalIn (d+2) 23 (.agg (RV R)) (.agg (RV S))).run Try.prog w = .ok (eqR R S) w := by
  unfold Op.equalIn RV eqR
  go_simp
  have e : List.range' 0 10 = [0, 1, 2, 3, 4, 5, 6, 7, 8, 9] := rfl
  rw [e]
  simp only [List.forIn_cons, List.forIn_nil]
  generalize hb0 : (R 0 == S 0) = b0
  generalize hb1 : (R 1 == S 1) = b1
  generalize hb2 : (R 2 == S 2) = b2
  generalize hb3 : (R 3 == S 3) = b3
  generalize hb4 : (R 4 == S 4) = b4
  generalize hb5 : (R 5 == S 5) = b5
  generalize hb6 : (R 6 == S 6) = b6
  generalize hb7 : (R 7 == S 7) = b7
  generalize hb8 : (R 8 == S 8) = b8
  generalize hb9 : (R 9 == S 9) = b9
  cases b0
  · go_simp
  cases b1
  · go_simp
  cases b2
  · go_simp
  cases b3
  · go_simp
  cases b4
  · go_simp
  cases b5
  · go_simp
  cases b6
  · go_simp
  cases b7
  · go_simp
  cases b8
  · go_simp
  cases b9 <;> go_simp

theorem run_eql23 (R S : Nat → Int) (w : World) : (binOp .eql 23 (.agg (RV R)) (.agg (RV S))).run Try.prog w = .ok (.bool (eqR R S)) w := by
  have h := run_equalIn23 R S w 9998
  simp only [binOp]
  simp [Op.equal, Op.maxDepth, h]

theorem guard23 : Try.prog.eqGuardType Try.prog.depth 23 = false := by kernel_rfl

theorem run_eqGuard23 (x y : Operand) (R S : Nat → Int) (w : World) : (eqGuard .eql 23 x y (.agg (RV R)) (.agg (RV S))).run Try.prog w = .ok () w := by
  have h := guard23
  unfold eqGuard
  simp [Sem.run_bind, h]

def rowOf (v : Value) : Nat → Int := fun k => match v with | .agg cs => (match cs[k]? with | some (.int _ n) => n | _ => 0) | _ => 0
theorem rowOf_RV (R : Nat → Int) (k : Nat) (hk : k < 10) : rowOf (.agg (RV R)) k = R k := by
  unfold rowOf
  simp only [RV_get R k hk]
def isRV (v : Value) : Prop := ∃ R, v = .agg (RV R)
theorem isRV_RV (R : Nat → Int) : isRV (.agg (RV R)) := ⟨R, rfl⟩
def eqV (v u : Value) : Bool := eqR (rowOf v) (rowOf u)
theorem eqR_congr {R R' S S' : Nat → Int} (h : ∀ k, k < 10 → R k = R' k) (h' : ∀ k, k < 10 → S k = S' k) : eqR R S = eqR R' S' := by
  rw [Bool.eq_iff_iff, eqR_iff, eqR_iff]
  constructor
  · intro q k hk; rw [← h k hk, ← h' k hk]; exact q k hk
  · intro q k hk; rw [h k hk, h' k hk]; exact q k hk
theorem eqV_RV (R S : Nat → Int) : eqV (.agg (RV R)) (.agg (RV S)) = eqR R S := eqR_congr (rowOf_RV R) (rowOf_RV S)

theorem wp_eql23 (d : Option Tmp) (type : TypeId) (pos : String) (after : Array Edge) (guard : Option (Nat × Bool)) (x y : Operand) (a : Act) (w : World) (K : Act → World → Prop) (Q : Exit → Act → World → Prop)
    (h1 : isRV (a.eval x)) (h2 : isRV (a.eval y)) :
    Oper.wp Try.prog ⟨d, .binOp .eql 23 x y 23, type, pos, after, guard⟩ a w K Q = K (a.put d (.bool (eqV (a.eval x) (a.eval y)))) w := by
  obtain ⟨R, hR⟩ := h1
  obtain ⟨S, hS⟩ := h2
  unfold Oper.wp execOp
  rw [hR, hS, eqV_RV]
  simp only [hR, hS, Sem.run_bind, Sem.run_pure, run_eqGuard23 x y R S w, run_eql23 R S w, Result.andThen_ok]
  rfl
end Go.Proofs.Ytkhillpjoklfgaa
