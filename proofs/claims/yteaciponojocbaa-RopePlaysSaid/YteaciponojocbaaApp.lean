/- Appending bytes, nil or not, to a row of the call's own: one law, in three forms. -/
import Derived.Test.YteaciponojocbaaState
namespace Go.Proofs.Yteaciponojocbaa
open Go.RowKit

theorem bytes_cells {w : World} {p : Addr} {cap : Nat} {y : List Nat} (h : IsBytes w (some p) cap y) : ∀ j u, (u8s y)[j]? = some u → w.cell? (p.add j) = some u := by
  intro j u hu
  have hj : j < y.length := by
    rcases Nat.lt_or_ge j y.length with h | h
    · exact h
    · rw [List.getElem?_eq_none (by rw [u8s_length]; exact h)] at hu; cases hu
  obtain ⟨h1, h2, _⟩ := h.at_ p rfl
  obtain ⟨b, off, spot⟩ := p
  have h1' : spot = none := h1
  subst h1'
  rw [Addr.add_mid, ← hu, u8s_get y j hj]
  exact h2 j hj

theorem run_app {w : World} {base n m : Nat} {v : Value} {x y : List Nat} (ty : TypeId) (hown : w.ownsRow base 5 1 v n (u8s x)) {a : Option Addr} {cap : Nat} (hy : IsBytes w a cap y) (hm : y.length = m) (hb : base ≤ w.heap.size) (hl : n + m ≤ 140737488355328) :
    ∃ v' w', (Builtin.append_ #[28, 28] ty #[v, .slice a m cap]).run Try.prog w = .ok v' w' ∧ w'.ownsRow base 5 1 v' (n + m) (u8s (x ++ y)) ∧ w.grownBy w' v.ownBlock := by
  obtain ⟨i0, hi, hz0, hz1, hz2⟩ := info_parts info5
  cases a with
  | none =>
    have h0 := hy.nil rfl
    have h1 := hy.le
    have e : y = [] := List.eq_nil_of_length_eq_zero (by omega)
    subst e
    have hm0 : m = 0 := by rw [← hm]; rfl
    subst hm0
    subst h0
    exact ⟨v, w, run_append_owned_none (P := Try.prog) (w := w) base 28 ty 5 i0 1 Try.underlying28 hi v n _ hown, by simpa using hown, ⟨rfl, rfl, rfl, Nat.le_refl _, fun _ _ _ => rfl⟩⟩
  | some p =>
    obtain ⟨v', w', h1, h2, h3, _⟩ := run_append_own (P := Try.prog) w base 28 ty 5 i0 _ 1 1 Try.underlying28 hi hz0 hz1 hz2 rfl (by decide) v n (u8s x) hown p m cap (u8s y) (by rw [u8s_length, hm, Nat.mul_one]) (bytes_cells hy) (u8s_one y) (by unfold maxLen; omega) (by omega) hb
    exact ⟨v', w', h1, by rw [u8s_append]; exact h2, h3⟩

theorem wp_app {o : Oper} {ac : Act} {K : Act → World → Prop} {Q : Exit → Act → World → Prop} (s r : Operand) (ho : o.op = .call { callee := .builtin .append, args := #[s, r], argTypes := #[28, 28] })
    {w : World} {base n m : Nat} {v : Value} {x y : List Nat} (hs : ac.eval s = v) (hown : w.ownsRow base 5 1 v n (u8s x)) {a : Option Addr} {cap : Nat} (hx : ac.eval r = .slice a m cap) (hy : IsBytes w a cap y) (hm : y.length = m) (hb : base ≤ w.heap.size) (hl : n + m ≤ 140737488355328)
    (h : ∀ v' w', w'.ownsRow base 5 1 v' (n + m) (u8s (x ++ y)) → w.grownBy w' v.ownBlock → K (ac.put o.dst v') w') : o.wp Try.prog ac w K Q := by
  obtain ⟨v', w', hr, h2, h3⟩ := run_app o.type hown hy hm hb hl
  unfold Oper.wp execOp
  simp only [ho, resolve, invoke, builtin, Sem.run_bind, Sem.run_pure, Result.andThen_ok, List.map_toArray, List.map_cons, List.map_nil, hs, hx, hr]
  exact h v' w' h2 h3
theorem wpList_app {ops : Array Oper} {rest : List Oper} {o : Oper} {ac : Act} {Q : Exit → Act → World → Prop} (hgd : o.guard = none) (s r : Operand) (ho : o.op = .call { callee := .builtin .append, args := #[s, r], argTypes := #[28, 28] })
    {w : World} {base n m : Nat} {v : Value} {x y : List Nat} (hs : ac.eval s = v) (hown : w.ownsRow base 5 1 v n (u8s x)) {a : Option Addr} {cap : Nat} (hx : ac.eval r = .slice a m cap) (hy : IsBytes w a cap y) (hm : y.length = m) (hb : base ≤ w.heap.size) (hl : n + m ≤ 140737488355328)
    (h : ∀ v' w', w'.ownsRow base 5 1 v' (n + m) (u8s (x ++ y)) → w.grownBy w' v.ownBlock → wpList Try.prog ops Q rest (ac.put o.dst v') w') : wpList Try.prog ops Q (o :: rest) ac w :=
  wpList_plain hgd fun _ hK => wp_app s r ho hs hown hx hy hm hb hl fun v' w' h2 h3 => hK _ _ (h v' w' h2 h3)
theorem step_app {ops : Array Oper} {o : Oper} {ac : Act} {K : Act → World → Prop} {Q : Exit → Act → World → Prop} {E : Prop} (hgd : o.guard = none) (s r : Operand) (ho : o.op = .call { callee := .builtin .append, args := #[s, r], argTypes := #[28, 28] })
    {w : World} {base n m : Nat} {v : Value} {x y : List Nat} (hs : ac.eval s = v) (hown : w.ownsRow base 5 1 v n (u8s x)) {a : Option Addr} {cap : Nat} (hx : ac.eval r = .slice a m cap) (hy : IsBytes w a cap y) (hm : y.length = m) (hb : base ≤ w.heap.size) (hl : n + m ≤ 140737488355328)
    (h : ∀ v' w', w'.ownsRow base 5 1 v' (n + m) (u8s (x ++ y)) → w.grownBy w' v.ownBlock → K (ac.put o.dst v') w') :
    if Region.wanted o (yielded ops ac.tmps) = true then Oper.wp Try.prog o ac w K Q else E := by
  have hw : Region.wanted o (yielded ops ac.tmps) = true := by simp [Region.wanted, hgd]
  rw [if_pos hw]
  exact wp_app s r ho hs hown hx hy hm hb hl h

/-- The empty row that '[]byte{}' makes. -/
theorem own_empty (w : World) (base : Nat) (hb : base ≤ w.heap.size) : (w.alloc (.cells #[] 5)).ownsRow base 5 1 (.slice (some ⟨w.heap.size, 0, none⟩) 0 0) 0 (u8s []) := World.ownsRow_lit (base := base) (size := 1) (e := 5) w #[] 0 hb (by decide) rfl

/-- A row of the call's own lies in one block. -/
theorem own_block {w : World} {base n : Nat} {v : Value} {xs : List Value} (h : w.ownsRow base 5 1 v n xs) (hb : base < w.heap.size) : ∃ K, base ≤ K ∧ K < w.heap.size ∧ ∀ k, v.ownBlock = some k → k = K := by
  cases hv : v.ownBlock with
  | none => exact ⟨base, Nat.le_refl _, hb, fun k e => by cases e⟩
  | some g => exact ⟨g, (h.lt g hv).1, (h.lt g hv).2, fun k e => by cases e; rfl⟩
end Go.Proofs.Yteaciponojocbaa
