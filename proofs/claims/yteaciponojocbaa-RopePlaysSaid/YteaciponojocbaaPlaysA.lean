/- What is known while RopePlays runs. -/
import Derived.Test.YteaciponojocbaaFull
import Derived.Test.YteaciponojocbaaAvReplace
import Derived.Test.YteaciponojocbaaEdits
namespace Go.Proofs.Yteaciponojocbaa
open Go.RowKit Tw

structure PL (u : World) (F : Nat) (t : List Nat) (R : Nat) (bs : List Nat) (ay : Option Addr) (ny capy : Nat) (w : World) : Prop where
  f : IsRope w F t ∧ u.heap.size ≤ F
  r : IsRope w R bs ∧ u.heap.size ≤ R
  y : IsBytes w ay capy bs
  n : bs.length = ny
  d : Below u.heap.size u w
theorem PL.kept {u w w' : World} {F R ny capy : Nat} {t bs : List Nat} {ay : Option Addr} (h : PL u F t R bs ay ny capy w) (k : Kept u.heap.size w w') : PL u F t R bs ay ny capy w' :=
  ⟨⟨k.rope _ _ h.f.1, h.f.2⟩, ⟨k.rope _ _ h.r.1, h.r.2⟩, k.byt _ _ _ h.y, h.n, h.d.trans k.below⟩
theorem PL.step {u w w' : World} {F R ny capy : Nat} {t bs : List Nat} {ay : Option Addr} (h : PL u F t R bs ay ny capy w) (k : Below w.heap.size w w') : PL u F t R bs ay ny capy w' := h.kept (Kept.of k h.d.size)
theorem PL.small {u w : World} {F R ny capy : Nat} {t bs : List Nat} {ay : Option Addr} (h : PL u F t R bs ay ny capy w) : ny ≤ 2048 := by rw [← h.n]; exact rope_small h.r.1
theorem PL.edits {u w : World} {F R ny capy : Nat} {t bs : List Nat} {ay : Option Addr} (h : PL u F t R bs ay ny capy w) {a : Option Addr} {n : Nat} (e : ArgEdits u a n) : ArgEdits w a n := e.below h.d
theorem PL.turn {u w : World} {F R ny capy S ny2 capy2 : Nat} {t bs ss : List Nat} {ay az : Option Addr} (h : PL u F t R bs ay ny capy w) (hr : IsRope w S ss) (hS : u.heap.size ≤ S) (hy : IsBytes w az capy2 ss) (hn : ss.length = ny2) : PL u F t S ss az ny2 capy2 w := ⟨h.f, ⟨hr, hS⟩, hy, hn, h.d⟩

/-- The head of the loop over the edits. -/
def AtHead (u : World) (F : Nat) (t : List Nat) (nE : Nat) (r y i : Value) (w : World) : Prop :=
  ∃ (q R : Nat) (bs : List Nat) (ay : Option Addr) (ny capy : Nat), i = .int .i64 (q : Int) ∧ q ≤ nE ∧ q ≤ 40 ∧ r = .pointer (some ⟨R, 0, none⟩) ∧ y = .slice ay ny capy ∧ PL u F t R bs ay ny capy w

/-- While bytes of the call's own are written: all that was there before them is as it was; the new rope, and its bytes, are. -/
structure WA (wb : World) (ac : Option Addr) (nc capc : Nat) (K S : Nat) (ss : List Nat) (az : Option Addr) (capz : Nat) (w : World) : Prop where
  d : Below wb.heap.size wb w
  own : ∃ xs, w.ownsRow wb.heap.size 5 1 (.slice ac nc capc) nc xs
  kl : ∀ k, (Value.slice ac nc capc).ownBlock = some k → k = K
  s : Av.IsRope K w S ss
  z : IsBytes w az capz ss ∧ ∀ p, az = some p → p.block ≠ K
theorem WA.cell {wb w : World} {ac : Option Addr} {nc capc K S capz i : Nat} {ss : List Nat} {az : Option Addr} (h : WA wb ac nc capc K S ss az capz w) (hi : i < nc) :
    ∃ g, ac = some ⟨g, 0, none⟩ ∧ (∃ v, w.cell? ⟨g, i, none⟩ = some v) ∧ w.frozen? ⟨g, i, none⟩ = false ∧ WA wb ac nc capc K S ss az capz (w.setCell ⟨g, i, none⟩ (.int .u8 7)) := by
  obtain ⟨xs, ho⟩ := h.own
  rcases ho.2 with ⟨_, h0⟩ | ⟨g, cap, cur, hv, hb, hg, hnc, _, hcs, htake⟩
  · omega
  · simp only [Value.slice.injEq, true_and] at hv
    obtain ⟨rfl, rfl⟩ := hv
    have hK : g = K := h.kl g rfl
    obtain ⟨h1, h2⟩ := ho.stored i (.int .u8 7)
    have on : Av.Only K w (w.setCell ⟨g, i, none⟩ (.int .u8 7)) := by
      subst hK
      exact ⟨by simp, fun k _ hk => blk_set_other _ hk, cur, (0, 0), hg⟩
    refine ⟨g, rfl, ⟨_, by rw [cell_of_row w g i cur 5 (0, 0) hg, Array.getElem?_eq_getElem (by omega)]⟩, blk_frozen hg, Below.grown h.d h2 h.d.size (fun k hk => by cases hk; exact hb), ⟨_, h1⟩, h.kl, h.s.only on, Av.bytes_only on h.z.1 h.z.2, h.z.2⟩

/-- The same, where no rope was made. -/
structure WN (wb : World) (ac : Option Addr) (nc capc : Nat) (w : World) : Prop where
  d : Below wb.heap.size wb w
  own : ∃ xs, w.ownsRow wb.heap.size 5 1 (.slice ac nc capc) nc xs
theorem WN.cell {wb w : World} {ac : Option Addr} {nc capc i : Nat} (h : WN wb ac nc capc w) (hi : i < nc) :
    ∃ g, ac = some ⟨g, 0, none⟩ ∧ (∃ v, w.cell? ⟨g, i, none⟩ = some v) ∧ w.frozen? ⟨g, i, none⟩ = false ∧ ∀ n, WN wb ac nc capc (w.setCell ⟨g, i, none⟩ (.int .u8 n)) := by
  obtain ⟨xs, ho⟩ := h.own
  rcases ho.2 with ⟨_, h0⟩ | ⟨g, cap, cur, hv, hb, hg, hnc, _, hcs, htake⟩
  · omega
  · simp only [Value.slice.injEq, true_and] at hv
    obtain ⟨rfl, rfl⟩ := hv
    exact ⟨g, rfl, ⟨_, by rw [cell_of_row w g i cur 5 (0, 0) hg, Array.getElem?_eq_getElem (by omega)]⟩, blk_frozen hg, fun n => ⟨Below.grown h.d (ho.stored i (.int .u8 n)).2 h.d.size (fun k hk => by cases hk; exact hb), _, (ho.stored i (.int .u8 n)).1⟩⟩

theorem rope_slice_n (N B n : Nat) (bs : List Nat) (i j : Int) (w : World) (h : IsRope w B bs) (hN : N ≤ B) (hn : bs.length = n) :
    Calls Try.prog 15 #[.pointer (some ⟨B, 0, none⟩), .int .i64 i, .int .i64 j] w fun e w' => ∃ a m cap w1, e = .returned (.tuple #[.slice a m cap, .int .i64 (sliceNo n i j)]) ∧ (sliceOf bs i j).length = m ∧ w'.ownsRow w1.heap.size 5 1 (.slice a m cap) m (u8s (sliceOf bs i j)) ∧ IsBytes w' a cap (sliceOf bs i j) ∧ Below w1.heap.size w1 w' ∧ Kept N w w1 := by
  subst hn
  refine (rope_slice N B bs i j w h hN).mono fun e w' ⟨u, m, w1, he, hm, ho, hb, hk⟩ => ?_
  subst hm
  obtain ⟨a, cap, rfl, hbb⟩ := bytes_own ho (fun b hb => by
    have hr := h
    obtain ⟨J, t, d, all, n, h1, h2, h3, _⟩ := hr
    unfold sliceOf at hb
    split at hb
    · rw [← h3] at hb; exact h2.lt256 b (List.mem_of_mem_take (List.mem_of_mem_drop hb))
    · cases hb)
  exact ⟨a, _, cap, w1, he, rfl, ho, hbb, hb, hk⟩
theorem ref_slice_n (a : Option Addr) (cap n : Nat) (i j : Int) (bs : List Nat) (w : World) (h : IsBytes w a cap bs) (hn : bs.length = n) (hu : n ≤ 65536) :
    Calls Try.prog 19 #[.slice a n cap, .int .i64 i, .int .i64 j] w fun e w' => ∃ b m c, e = .returned (.tuple #[.slice b m c, .int .i64 (sliceNo n i j)]) ∧ (sliceOf bs i j).length = m ∧ IsBytes w' b c (sliceOf bs i j) ∧ Below w.heap.size w w' := by
  refine (ref_slice a cap n i j bs w h hn hu).mono fun e w' ⟨u, m, he, hm, ho, hb⟩ => ?_
  subst hm
  obtain ⟨b, c, rfl, hbb⟩ := bytes_own ho (fun x hx => by
    unfold sliceOf at hx
    split at hx
    · exact h.lt x (List.mem_of_mem_take (List.mem_of_mem_drop hx))
    · cases hx)
  exact ⟨b, _, c, he, rfl, hbb, hb⟩
theorem rope_at_n (B n : Nat) (i : Int) (bs : List Nat) (w : World) (h : IsRope w B bs) (hn : bs.length = n) :
    Calls Try.prog 16 #[.pointer (some ⟨B, 0, none⟩), .int .i64 i] w fun e w' => e = .returned (.tuple #[.int .u8 (atOf bs i : Int), .bool (atOk n i)]) ∧ Below w.heap.size w w' := by
  subst hn; exact rope_at B i bs w h
/-- The rope's Replace, the lengths by name. -/
theorem rep_av {K : Nat} (B : Nat) (bs : List Nat) (i j n m : Nat) (a : Option Addr) (cap : Nat) (cs : List Nat) (w : World) (h : Av.IsRope K w B bs) (hn : bs.length = n) (hi : i ≤ n) (hj : i + j ≤ n) (hm : cs.length = m) (hs : n - j + m ≤ 2048) (hc : IsBytes w a cap cs) (hK : K < w.heap.size) :
    Calls Try.prog 11 #[.pointer (some ⟨B, 0, none⟩), .int .i64 (i : Int), .int .i64 (j : Int), .slice a m cap] w (Av.Made K w (swapped bs i j cs)) := by
  subst hn hm; exact Av.replace_av B bs i j a cap cs w h hi hj hs hc hK
/-- The document's Replace, and where its bytes lie. -/
theorem ref_rep_n (a b : Option Addr) (cap n cap2 m i j : Nat) (bs cs : List Nat) (w : World) (ha : IsBytes w a cap bs) (hb : IsBytes w b cap2 cs) (hbn : bs.length = n) (hcm : cs.length = m) (hi : i ≤ n) (hj : i + j ≤ n) (hs : n - j + m ≤ 2048) (hn : n ≤ 2048) :
    Calls Try.prog 18 #[.slice a n cap, .int .i64 (i : Int), .int .i64 (j : Int), .slice b m cap2] w fun e w' => ∃ z q c, e = .returned (.tuple #[.slice z q c, .int .i64 0]) ∧ (swapped bs i j cs).length = q ∧ IsBytes w' z c (swapped bs i j cs) ∧ (∀ p, z = some p → w.heap.size ≤ p.block) ∧ Below w.heap.size w w' := by
  refine (ref_rep_ok a b cap n cap2 m i j bs cs w ha hb hbn hcm hi hj hs hn).mono fun e w' ⟨u, q, he, hq, ho, hd⟩ => ?_
  subst hq
  obtain ⟨z, c, rfl, hbb⟩ := bytes_own ho (fun x hx => by
    unfold swapped at hx
    rcases List.mem_append.1 hx with hx | hx
    · rcases List.mem_append.1 hx with hx | hx
      · exact ha.lt x (List.mem_of_mem_take hx)
      · exact hb.lt x hx
    · exact ha.lt x (List.mem_of_mem_drop (List.mem_of_mem_drop hx)))
  exact ⟨z, _, c, he, rfl, hbb, fun p e => by subst e; exact own_base ho p.block rfl, hd⟩
theorem sliceOf_le (bs : List Nat) (i j : Int) : (sliceOf bs i j).length ≤ bs.length := by
  unfold sliceOf
  split
  · rw [List.length_drop, List.length_take]; omega
  · exact Nat.zero_le _
theorem len_same (B : Nat) (bs : List Nat) (n : Nat) (w : World) (h : IsRope w B bs) (hn : bs.length = n) :
    Calls Try.prog 12 #[.pointer (some ⟨B, 0, none⟩)] w fun e w' => e = .returned (.int .i64 (n : Int)) ∧ w = w' := (len_is B bs n w h hn).mono fun _ _ ⟨a, b⟩ => ⟨a, b.symm⟩
theorem deep_same (B : Nat) (bs : List Nat) (w : World) (h : IsRope w B bs) :
    Calls Try.prog 21 #[.pointer (some ⟨B, 0, none⟩)] w fun e w' => ∃ d : Int, e = .returned (.int .i64 d) ∧ ¬ d < 1 ∧ ¬ 24 < d ∧ decide (d < 1) = false ∧ decide (24 < d) = false ∧ w = w' := (deep_any B bs w h).mono fun _ _ ⟨d, a, b, c, e⟩ => ⟨(d : Int), a, by omega, by omega, by simp; omega, by simp; omega, e.symm⟩
theorem rope_no_same (B n : Nat) (bs : List Nat) (i j c : Int) (a : Option Addr) (m cap : Nat) (w : World) (h : IsRope w B bs) (hn : bs.length = n) (hm : m ≤ 65536) (hr : repNo n i j m = c) (hc : c ≠ 0) :
    Calls Try.prog 11 #[.pointer (some ⟨B, 0, none⟩), .int .i64 i, .int .i64 j, .slice a m cap] w fun e w' => e = .returned (.tuple #[.pointer none, .int .i64 c]) ∧ w = w' := (rope_no B n bs i j c a m cap w h hn hm hr hc).mono fun _ _ ⟨a, b⟩ => ⟨a, b.symm⟩
theorem ref_no_same (n : Nat) (i j c : Int) (a b : Option Addr) (cap m cap2 : Nat) (w : World) (hn : n ≤ 65536) (hm : m ≤ 65536) (hr : repNo n i j m = c) (hc : c ≠ 0) :
    Calls Try.prog 18 #[.slice a n cap, .int .i64 i, .int .i64 j, .slice b m cap2] w fun e w' => e = .returned (.tuple #[.slice none 0 0, .int .i64 c]) ∧ w = w' := (ref_no n i j c a b cap m cap2 w hn hm hr hc).mono fun _ _ ⟨a, b⟩ => ⟨a, b.symm⟩
/-- few, and where its bytes lie. -/
theorem few_at (a : Option Addr) (cap : Nat) (bs : List Nat) (w : World) (h : ArgBytes w a cap bs) (hl : ∀ b ∈ bs, b < 256) :
    Calls Try.prog 13 #[.slice a bs.length cap] w fun e w' => ∃ b t n c K, e = .returned (.slice b n c) ∧ t = bs.take 300 ∧ t.length = n ∧ n ≤ 300 ∧ w'.ownsRow w.heap.size 5 1 (.slice b n c) n (u8s t) ∧ IsBytes w' b c t ∧ Below w.heap.size w w' ∧ w.heap.size ≤ K ∧ K < w'.heap.size ∧ ∀ k, (Value.slice b n c).ownBlock = some k → k = K := by
  refine (few_own a cap bs w h).mono fun e w' ⟨u, t, n, he, ht, hn, hs, ho, hb, hlt⟩ => ?_
  subst hn
  obtain ⟨K, k1, k2, k3⟩ := own_block ho hlt
  obtain ⟨b, c, rfl, hbb⟩ := bytes_own ho (fun x hx => hl x (by rw [ht] at hx; exact List.mem_of_mem_take hx))
  exact ⟨b, t, _, c, K, he, ht, rfl, hs, ho, hbb, hb, k1, k2, k3⟩
theorem arg_lt {w : World} {a : Option Addr} {cap : Nat} {bs : List Nat} (h : ArgBytes w a cap bs) : ∀ b ∈ bs, b < 256 := by
  rcases h with h | ⟨rfl, _⟩
  · exact h.lt
  · intro b hb; cases hb
end Go.Proofs.Yteaciponojocbaa
