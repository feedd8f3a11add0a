/- The walk of RopeTwice. -/
import Derived.Test.YteaciponojocbaaOpen
import Derived.Test.YteaciponojocbaaWraps
namespace Go.Proofs.Yteaciponojocbaa
open Go.RowKit Tw

theorem sw_form (bs y : List Nat) (k : Nat) : swapped bs k 0 y = bs.take k ++ (y ++ bs.drop k) := by
  unfold swapped
  rw [List.drop_zero, List.append_assoc]
theorem sw_take (bs y : List Nat) (k : Nat) (h : k ≤ bs.length) : (swapped bs k 0 y).take k = bs.take k := by
  rw [sw_form]; exact List.take_left' (by rw [List.length_take]; omega)
theorem sw_drop (bs y : List Nat) (k : Nat) (h : k ≤ bs.length) : (swapped bs k 0 y).drop k = y ++ bs.drop k := by
  rw [sw_form]; exact List.drop_left' (by rw [List.length_take]; omega)
theorem sw_sw (bs y1 y2 : List Nat) (k : Nat) (h : k ≤ bs.length) : swapped (swapped bs k 0 y2) k 0 y1 = swapped bs k 0 (y1 ++ y2) := by
  rw [sw_form (swapped bs k 0 y2), sw_take _ _ _ h, sw_drop _ _ _ h, sw_form, List.append_assoc]
theorem sw_del (bs y1 y2 : List Nat) (k n : Nat) (h : k ≤ bs.length) (hn : y1.length = n) : swapped (swapped bs k 0 (y1 ++ y2)) k n [] = swapped bs k 0 y2 := by
  have e : swapped (swapped bs k 0 (y1 ++ y2)) k n [] = ((swapped bs k 0 (y1 ++ y2)).take k ++ []) ++ ((swapped bs k 0 (y1 ++ y2)).drop k).drop n := rfl
  rw [e, sw_take _ _ _ h, sw_drop _ _ _ h, List.append_nil, List.append_assoc, List.drop_left' hn, sw_form]
theorem sw_nil (bs : List Nat) (k : Nat) : swapped bs k 0 [] = bs := by rw [sw_form]; exact List.take_append_drop k bs
theorem sw_len (bs y : List Nat) (k : Nat) (h : k ≤ bs.length) : (swapped bs k 0 y).length = bs.length + y.length := by
  rw [swapped_length _ _ _ _ (by omega)]; rfl

theorem few_n (a : Option Addr) (cap : Nat) (bs : List Nat) (w : World) (h : ArgBytes w a cap bs) :
    Calls Try.prog 13 #[.slice a bs.length cap] w fun e w' => ∃ a2 cap2 t n, e = .returned (.slice a2 n cap2) ∧ t.length = n ∧ n ≤ 300 ∧ t = bs.take 300 ∧ IsBytes w' a2 cap2 t ∧ Below w.heap.size w w' :=
  (few_arg a cap bs w h).mono fun e w' ⟨a2, cap2, he, hb, hd⟩ => ⟨a2, cap2, _, _, he, rfl, by rw [List.length_take]; omega, rfl, hb, hd⟩

theorem from_take {w : World} {a : Option Addr} {cap : Nat} {x : List Nat} (h : IsBytes w a cap x) (j : Nat) (hj : j ≤ x.length) : IsBytes w a cap (x.take j) := by
  cases a with
  | some p => exact h.take j hj
  | none =>
    have h0 := h.nil rfl
    have h1 := h.le
    exact ⟨by rw [List.length_take]; omega, h.big, h.nil, fun p e => (by cases e), fun b hb => h.lt b (List.mem_of_mem_take hb)⟩
theorem from_end {w : World} {a : Option Addr} {cap : Nat} {x : List Nat} (h : IsBytes w a cap x) (j : Nat) (hj : j ≤ x.length) (hc : cap = j) : IsBytes w a 0 (x.drop j) := by
  have h1 := h.le
  have e : x.drop j = [] := List.eq_nil_of_length_eq_zero (by rw [List.length_drop]; omega)
  rw [e]
  exact ⟨Nat.le_refl _, by decide, fun _ => rfl, fun p e => ⟨(h.at_ p e).1, fun i hi => absurd hi (by simp), (h.at_ p e).2.2⟩, fun b hb => by cases hb⟩
theorem from_mid {w : World} {a : Option Addr} {cap : Nat} {x : List Nat} (h : IsBytes w a cap x) (j : Nat) (hj : j ≤ x.length) (hc : ¬ cap = j) : IsBytes w (Option.map (fun y => y.add j) a) (cap - j) (x.drop j) := by
  cases a with
  | none => have := h.nil rfl; have := h.le; omega
  | some p =>
    have hsp := (h.at_ p rfl).1
    obtain ⟨b, off, spot⟩ := p
    have hsp' : spot = none := hsp
    subst hsp'
    show IsBytes w (some ((⟨b, off, none⟩ : Addr).add j)) (cap - j) (x.drop j)
    rw [Addr.add_mid]
    exact h.drop j hj

structure KT (u : World) (R O W T L M : Nat) (bs one two : List Nat) (w : World) : Prop where
  r : IsRope w R bs
  o : IsRope w O one
  w2 : IsRope w W two
  t : IsRope w T one
  l : IsRope w L two
  m : IsRope w M bs
  d : Below u.heap.size u w
theorem KT.kept {u w w' : World} {R O W T L M : Nat} {bs one two : List Nat} (h : KT u R O W T L M bs one two w) (k : Kept u.heap.size w w') : KT u R O W T L M bs one two w' :=
  ⟨k.rope _ _ h.r, k.rope _ _ h.o, k.rope _ _ h.w2, k.rope _ _ h.t, k.rope _ _ h.l, k.rope _ _ h.m, h.d.trans k.below⟩

theorem nilBytes (w : World) : IsBytes w none 0 [] := ⟨Nat.le_refl _, by decide, fun _ => rfl, fun p e => (by cases e), fun b hb => (by cases hb)⟩

set_option maxRecDepth 100000 in
set_option maxHeartbeats 4000000 in
theorem twice_walk (a1 a2 : Option Addr) (l1 l2 : List Nat) (cap1 cap2 q : Nat) (w : World) (h1 : ArgBytes w a1 cap1 l1) (h2 : ArgBytes w a2 cap2 l2) (hq : q < 65536) :
    Calls Try.prog 5 #[.slice a1 l1.length cap1, .slice a2 l2.length cap2, .int .u16 (q : Int)] w fun e w' => e = .returned (.bool true) ∧ Below w.heap.size w w' := by
  have H := Lib.hid (And.intro h1 h2)
  clear h1 h2
  go_enter Try.func5, Try.ntmps5
  go_wp2_with (go_at_call 9; refine (shown_any _).mono ?_; rintro e w1 ⟨rfl, b1⟩)
  refine (few_n a1 cap1 l1 _ (H.out.1.below b1)).mono ?_
  rintro e w2 ⟨a3, cap3, bs, n, rfl, hbn, hn3, _, hb, b2⟩
  have H1 := Lib.hid (And.intro hb (And.intro hbn (And.intro ((H.out.2.below b1).below b2) (b1.trans (b2.mono b1.size)))))
  clear hb hbn b1 b2 H
  obtain ⟨k, hk, hkn⟩ : ∃ k : Nat, (q : Int) % ((n : Int) + 1) = (k : Int) ∧ k ≤ n := ⟨q % (n + 1), by rw [Int.natCast_emod]; rfl, by have := Nat.mod_lt q (show 0 < n + 1 by omega); omega⟩
  have hnz : ¬ ((n : Int) + 1 = 0) := by omega
  go_wp2_with fail
  refine (new_len a3 cap3 n bs _ H1.out.1 H1.out.2.1 (by omega)).mono ?_
  rintro e w3 ⟨b1, R, rfl, hR, hr⟩
  have H2 := Lib.hid (And.intro hr (And.intro (Nat.le_trans H1.out.2.2.2.size hR) (And.intro (H1.out.2.2.1.below b1) (H1.out.2.2.2.trans (b1.mono H1.out.2.2.2.size)))))
  clear hr hR b1
  go_wp2_with fail
  refine (few_n a2 cap2 l2 _ H2.out.2.2.1).mono ?_
  rintro e w4 ⟨a5, cap5, x, m, rfl, hxm, hm3, _, hb, b2⟩
  have hm5 : m ≤ cap5 := by rw [← hxm]; exact hb.le
  have hm6 : (m : Int) ≤ (cap5 : Int) := by omega
  have hf4 : (m : Int) / 2 ≤ (m : Int) := by omega
  have hf5 : (m : Int) / 2 ≤ (cap5 : Int) := by omega
  have hf6 : (0 : Int) ≤ (m : Int) / 2 := by omega
  have hf7 : m / 2 ≤ m := by omega
  obtain ⟨r, hr1, hr2⟩ : ∃ r : Nat, (m : Int) - (m : Int) / 2 = (r : Int) ∧ r = m - m / 2 := ⟨m - m / 2, by omega, rfl⟩
  have hw := IntWalk.i64_in (r : Int) (by omega)
  rw [← hr1] at hw
  have hw' : IntKind.i64.wrap ((m : Int) - (m : Int) / 2) = (r : Int) := by rw [hw, hr1]
  have H3 := Lib.hid (And.intro (H2.out.1.below b2) (And.intro hb (And.intro hxm (H2.out.2.2.2.trans (b2.mono H2.out.2.2.2.size)))))
  have HR := Lib.hid hr2
  have hRN := Lib.hid (Nat.le_trans H1.out.2.2.2.size (Nat.le_refl _))
  clear hb hxm b2 hw hr1 hr2
  go_wp2_with fail
  refine (replace_len R bs k 0 m a5 cap5 x _ H3.out.1 (by rw [H1.out.2.1]; exact hkn) (by rw [H1.out.2.1]; omega) H3.out.2.2.1 (by rw [H1.out.2.1]; omega) H3.out.2.1).mono ?_
  rintro e w5 ⟨b1, O, rfl, hO, hr⟩
  have H4 := Lib.hid (And.intro (H3.out.1.below b1) (And.intro (H3.out.2.1.below b1) (And.intro hr (And.intro (Nat.le_trans H3.out.2.2.2.size hO) (H3.out.2.2.2.trans (b1.mono H3.out.2.2.2.size))))))
  clear hr hO b1
  by_cases hcf : cap5 = m / 2
  all_goals (
    go_wp2_with fail
    refine (replace_len R bs k 0 (m - m / 2) _ _ (x.drop (m / 2)) _ H4.out.1 (by rw [H1.out.2.1]; exact hkn) (by rw [H1.out.2.1]; omega) (by rw [List.length_drop, H3.out.2.2.1]) (by rw [H1.out.2.1]; omega) (by first | exact from_mid H4.out.2.1 _ (by rw [H3.out.2.2.1]; exact hf7) hcf | exact from_end H4.out.2.1 _ (by rw [H3.out.2.2.1]; exact hf7) hcf | (have := from_end H4.out.2.1 _ (by rw [H3.out.2.2.1]; exact hf7) hcf; simpa [hcf] using this))).mono ?_
    rintro e w6 ⟨b1, W, rfl, hW, hr⟩
    have H5 := Lib.hid (And.intro (H4.out.1.below b1) (And.intro (H4.out.2.1.below b1) (And.intro (H4.out.2.2.1.below b1) (And.intro hr (And.intro (Nat.le_trans H4.out.2.2.2.2.size hW) (H4.out.2.2.2.2.trans (b1.mono H4.out.2.2.2.2.size)))))))
    clear hr hW b1
    go_wp2_with fail
    refine (replace_len W _ k 0 (m / 2) _ _ (x.take (m / 2)) _ H5.out.2.2.2.1 (by rw [sw_len _ _ _ (by rw [H1.out.2.1]; exact hkn), H1.out.2.1]; omega) (by rw [sw_len _ _ _ (by rw [H1.out.2.1]; exact hkn), H1.out.2.1]; omega) (by rw [List.length_take, H3.out.2.2.1]; omega) (by rw [sw_len _ _ _ (by rw [H1.out.2.1]; exact hkn), H1.out.2.1, List.length_drop, H3.out.2.2.1]; omega) (by first | exact from_take H5.out.2.1 _ (by rw [H3.out.2.2.1]; exact hf7) | (have := from_take H5.out.2.1 (m / 2) (by rw [H3.out.2.2.1]; exact hf7); simpa [hcf] using this))).mono ?_
    rintro e w7 ⟨b1, T, rfl, hT, hr⟩
    rw [sw_sw _ _ _ _ (by rw [H1.out.2.1]; exact hkn), List.take_append_drop] at hr
    have H6 := Lib.hid (And.intro (H5.out.1.below b1) (And.intro (H5.out.2.2.1.below b1) (And.intro (H5.out.2.2.2.1.below b1) (And.intro hr (And.intro (Nat.le_trans H5.out.2.2.2.2.2.size hT) (H5.out.2.2.2.2.2.trans (b1.mono H5.out.2.2.2.2.2.size)))))))
    clear hr hT b1
    go_wp2_with fail
    refine (replace_len T _ k (m / 2) 0 _ _ [] _ H6.out.2.2.2.1 (by rw [sw_len _ _ _ (by rw [H1.out.2.1]; exact hkn), H1.out.2.1]; omega) (by rw [sw_len _ _ _ (by rw [H1.out.2.1]; exact hkn), H1.out.2.1, H3.out.2.2.1]; omega) rfl (by rw [sw_len _ _ _ (by rw [H1.out.2.1]; exact hkn), H1.out.2.1, H3.out.2.2.1]; omega) (nilBytes _)).mono ?_
    rintro e w8 ⟨b1, L, rfl, hL, hr⟩
    rw [← List.take_append_drop (m / 2) x, sw_del _ _ _ _ _ (by rw [H1.out.2.1]; exact hkn) (by rw [List.length_take, H3.out.2.2.1]; omega)] at hr
    have H7 := Lib.hid (And.intro (H6.out.1.below b1) (And.intro (H6.out.2.1.below b1) (And.intro (H6.out.2.2.1.below b1) (And.intro (H6.out.2.2.2.1.below b1) (And.intro hr (And.intro (Nat.le_trans H6.out.2.2.2.2.2.size hL) (H6.out.2.2.2.2.2.trans (b1.mono H6.out.2.2.2.2.2.size))))))))
    clear hr hL b1
    go_wp2_with fail
    refine (replace_len L _ k r 0 _ _ [] _ H7.out.2.2.2.2.1 (by rw [sw_len _ _ _ (by rw [H1.out.2.1]; exact hkn), H1.out.2.1]; omega) (by rw [sw_len _ _ _ (by rw [H1.out.2.1]; exact hkn), H1.out.2.1, List.length_drop, H3.out.2.2.1, HR.out]; omega) rfl (by rw [sw_len _ _ _ (by rw [H1.out.2.1]; exact hkn), H1.out.2.1, List.length_drop, H3.out.2.2.1]; omega) (nilBytes _)).mono ?_
    rintro e w9 ⟨b1, M, rfl, hM, hr⟩
    have e9 : swapped (swapped bs k 0 (x.drop (m / 2))) k r [] = bs := by
      have := sw_del bs (x.drop (m / 2)) [] k r (by rw [H1.out.2.1]; exact hkn) (by rw [List.length_drop, H3.out.2.2.1, HR.out])
      rw [List.append_nil, sw_nil] at this
      exact this
    rw [e9] at hr
    have K := Lib.hid (KT.mk (u := w) (H7.out.1.below b1) (H7.out.2.1.below b1) (H7.out.2.2.1.below b1) (H7.out.2.2.2.1.below b1) (H7.out.2.2.2.2.1.below b1) hr (H7.out.2.2.2.2.2.2.trans (b1.mono H7.out.2.2.2.2.2.2.size)))
    have hN : w.heap.size ≤ R ∧ w.heap.size ≤ O ∧ w.heap.size ≤ W ∧ w.heap.size ≤ T ∧ w.heap.size ≤ L ∧ w.heap.size ≤ M := ⟨H2.out.2.1, H4.out.2.2.2.1, H5.out.2.2.2.2.1, H6.out.2.2.2.2.1, H7.out.2.2.2.2.2.1, Nat.le_trans H7.out.2.2.2.2.2.2.size hM⟩
    have HN := Lib.hid hN
    clear hr hM b1 hN e9 H7 H6 H5 H4 H3
    generalize swapped bs k 0 x = one at *
    generalize swapped bs k 0 (x.drop (m / 2)) = two at *
    go_wp2_with fail
    refine (whole_any w.heap.size O one _ K.out.o HN.out.2.1).mono ?_
    rintro e wx0 ⟨rfl, kx⟩
    have K0 := Lib.hid (K.out.kept kx)
    clear kx K
    go_wp2_with fail
    refine (whole_any w.heap.size T one _ K0.out.t HN.out.2.2.2.1).mono ?_
    rintro e wx1 ⟨rfl, kx⟩
    have K1 := Lib.hid (K0.out.kept kx)
    clear kx K0
    go_wp2_with fail
    refine (whole_any w.heap.size L two _ K1.out.l HN.out.2.2.2.2.1).mono ?_
    rintro e wx2 ⟨rfl, kx⟩
    have K2 := Lib.hid (K1.out.kept kx)
    clear kx K1
    go_wp2_with fail
    refine (whole_any w.heap.size W two _ K2.out.w2 HN.out.2.2.1).mono ?_
    rintro e wx3 ⟨rfl, kx⟩
    have K3 := Lib.hid (K2.out.kept kx)
    clear kx K2
    go_wp2_with fail
    refine (whole_any w.heap.size M bs _ K3.out.m HN.out.2.2.2.2.2).mono ?_
    rintro e wx4 ⟨rfl, kx⟩
    have K4 := Lib.hid (K3.out.kept kx)
    clear kx K3
    go_wp2_with fail
    refine (whole_any w.heap.size R bs _ K4.out.r HN.out.1).mono ?_
    rintro e wx5 ⟨rfl, kx⟩
    have K5 := Lib.hid (K4.out.kept kx)
    clear kx K4
    go_wp2_with fail
    go_ret
    exact ⟨rfl, K5.out.d⟩)
end Go.Proofs.Yteaciponojocbaa
