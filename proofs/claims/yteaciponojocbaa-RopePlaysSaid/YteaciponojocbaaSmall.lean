/- The walks of the laws' small helpers: whole, few, shown. -/
import Derived.Test.YteaciponojocbaaReplace
import Derived.Laws.BytesArg
import Derived.Lib.SlBytesConst
namespace Go.Proofs.Yteaciponojocbaa
open Go.RowKit

/-- Bytes as a string. -/
def strN (bs : List Nat) : ByteArray := strOfNums (bs.map fun (b : Nat) => (b : Int))

theorem str_conv {w : World} {a : Option Addr} {cap n : Nat} {bs : List Nat} (h : IsBytes w a cap bs) (hn : bs.length = n) : (convert 28 9 (.slice a n cap)).run Try.prog w = .ok (.string (strN bs)) w := by
  cases a with
  | none =>
    have h0 := h.nil rfl
    have h1 := h.le
    have e : bs = [] := List.eq_nil_of_length_eq_zero (by omega)
    subst e
    exact run_convert_bytes_nil w 28 5 Try.underlying28 Try.underlying5 n cap 9 Try.underlying9
  | some p =>
    obtain ⟨b, off, spot⟩ := p
    obtain ⟨h1, h2, h3⟩ := h.at_ _ rfl
    have h1' : spot = none := h1
    subst h1'
    refine run_convert_bytes_arg w 28 5 Try.underlying28 Try.underlying5 b off n cap (bs.map fun (b : Nat) => (b : Int)) (by rw [List.length_map, hn]) (fun i hi => ?_) 9 Try.underlying9
    have hi' : i < bs.length := by omega
    rw [h2 i hi']
    simp [List.getD, hi']

set_option maxRecDepth 100000 in
theorem whole_any (N B : Nat) (bs : List Nat) (w : World) (h : IsRope w B bs) (hN : N ≤ B) :
    Calls Try.prog 14 #[.pointer (some ⟨B, 0, none⟩)] w fun e w' => e = .returned (.string (strN bs)) ∧ Kept N w w' := by
  have H := Lib.hid h
  clear h
  go_enter Try.func14, Try.ntmps14
  go_wp2_with (go_at_call 12; refine (len_any B bs _ H.out).mono ?_; rintro e w' ⟨rfl, rfl⟩)
  refine (slice_good N B bs 0 bs.length _ H.out hN (Nat.zero_le _) (Nat.le_refl _)).mono ?_
  rintro e w1 ⟨a, cap, rfl, hb, hk⟩
  have hb' : IsBytes w1 a cap bs := by simpa using hb
  have hcv := str_conv (n := bs.length) hb' rfl
  have hcv2 := str_conv (n := bs.length - 0) hb' rfl
  have HK := Lib.hid hk
  clear hb hk hb'
  go_wp2
  go_ret
  exact ⟨rfl, HK.out⟩

theorem few_nil (w : World) : Calls Try.prog 13 #[.slice none 0 0] w fun e w' => ∃ a2 cap2, e = .returned (.slice a2 ([] : List Nat).length cap2) ∧ IsBytes w' a2 cap2 [] ∧ Below w.heap.size w w' := by
  go_enter Try.func13, Try.ntmps13
  go_wp2
  go_ret
  exact ⟨_, _, rfl, ⟨Nat.le_refl _, by decide, fun e => (by cases e), fun p e => ⟨by cases e; rfl, fun i hi => absurd hi (by simp), by cases e; simp⟩, fun b hb => (by cases hb)⟩, below_new _ _⟩

set_option maxHeartbeats 1000000 in
set_option maxRecDepth 100000 in
theorem few_short (p : Addr) (cap : Nat) (bs : List Nat) (w : World) (h : IsBytes w (some p) cap bs) (hs : bs.length ≤ 300) :
    Calls Try.prog 13 #[.slice (some p) bs.length cap] w fun e w' => ∃ a2 cap2, e = .returned (.slice a2 bs.length cap2) ∧ IsBytes w' a2 cap2 (bs) ∧ Below w.heap.size w w' := by
  obtain ⟨i0, hi, hz0, hz1, hz2⟩ := info_parts info5
  have hr : (bs).length = bs.length := by simp <;> omega
  have HR := Lib.hid hr
  have HH := Lib.hid h
  have hle := h.le
  have hle2 : (bs.length : Int) ≤ (cap : Int) := by omega
  have hs2 : ¬ (300 : Int) < (bs.length : Int) := by omega
  have hs3 : (bs.length : Int) ≤ 300 := by omega
  clear h hr
  have hsp := (HH.out.at_ p rfl).1
  obtain ⟨b, off, spot⟩ := p
  have hsp' : spot = none := hsp
  subst hsp'
  clear hsp
  go_enter Try.func13, Try.ntmps13
  have HO := Lib.hid (World.ownsRow_lit (base := w.heap.size) (size := 1) (e := 5) w #[] 0 (Nat.le_refl _) (by decide) rfl)
  go_wp2_with (at_builtin; refine wpList_append_own _ rfl _ _ 28 rfl w.heap.size 5 i0 _ 1 1 Try.underlying28 hi hz0 hz1 hz2 rfl (by decide) _ 0 [] rfl HO.out ⟨b, off, none⟩ (bs.length) cap (u8s (bs)) rfl ?c0 ?c1 ?c2 ?c3 ?c4 ?c5 ?_)
  case c0 => first | exact u8s_length _ | rw [u8s_length, HR.out]
  case c1 =>
    intro j u hu
    have hj : j < (bs).length := by
      rcases Nat.lt_or_ge j (bs).length with h | h
      · exact h
      · rw [List.getElem?_eq_none (by rw [u8s_length]; exact h)] at hu; cases hu
    have hjb : j < bs.length := by have := HR.out; omega
    obtain ⟨_, h2, h3⟩ := HH.out.at_ _ rfl
    refine (World.cell?_alloc_lt w _ ⟨b, off + j, none⟩ h3).trans ((h2 j hjb).trans ?_)
    rw [← hu, u8s_get _ j hj]
    try simp only [List.getElem_take]
  case c2 => exact u8s_one _
  case c3 => unfold maxLen; omega
  try (case c4 => omega)
  try (case c5 => omega)
  intro v' w' hown hgrow hnil
  have hb : Below w.heap.size w w' := Below.grown (below_new w _) hgrow (by simp) (fun k hk => by simp [Value.ownBlock] at hk; omega)
  clear hgrow hnil
  have hown2 : w'.ownsRow w.heap.size 5 1 v' (bs).length (u8s (bs)) := by
    first | simpa using hown | (rw [HR.out]; simpa using hown)
  obtain ⟨a2, cap2, rfl, hbb⟩ := bytes_own hown2 (fun b hb => HH.out.lt b (by first | exact hb | exact List.mem_of_mem_take hb))
  have HW := Lib.hid (And.intro hbb hb)
  have HR2 := Lib.hid HR.out
  clear hown hown2 hbb hb
  go_wp2
  go_ret
  exact ⟨a2, cap2, by first | rfl | (rw [HR.out]; rfl), HW.out⟩

set_option maxHeartbeats 1000000 in
set_option maxRecDepth 100000 in
theorem few_long (p : Addr) (cap : Nat) (bs : List Nat) (w : World) (h : IsBytes w (some p) cap bs) (hs : 300 < bs.length) :
    Calls Try.prog 13 #[.slice (some p) bs.length cap] w fun e w' => ∃ a2 cap2, e = .returned (.slice a2 300 cap2) ∧ IsBytes w' a2 cap2 (bs.take 300) ∧ Below w.heap.size w w' := by
  obtain ⟨i0, hi, hz0, hz1, hz2⟩ := info_parts info5
  have hr : (bs.take 300).length = 300 := by simp <;> omega
  have HR := Lib.hid hr
  have HH := Lib.hid h
  have hle := h.le
  have hle2 : (bs.length : Int) ≤ (cap : Int) := by omega
  have hs2 : (300 : Int) < (bs.length : Int) := by omega
  have hs3 : ¬ (bs.length : Int) ≤ 300 := by omega
  have hs4 : 300 ≤ cap := by omega
  clear h hr
  have hsp := (HH.out.at_ p rfl).1
  obtain ⟨b, off, spot⟩ := p
  have hsp' : spot = none := hsp
  subst hsp'
  clear hsp
  go_enter Try.func13, Try.ntmps13
  have HO := Lib.hid (World.ownsRow_lit (base := w.heap.size) (size := 1) (e := 5) w #[] 0 (Nat.le_refl _) (by decide) rfl)
  go_wp2_with (at_builtin; refine wpList_append_own _ rfl _ _ 28 rfl w.heap.size 5 i0 _ 1 1 Try.underlying28 hi hz0 hz1 hz2 rfl (by decide) _ 0 [] rfl HO.out ⟨b, off, none⟩ (300) cap (u8s (bs.take 300)) rfl ?c0 ?c1 ?c2 ?c3 ?c4 ?c5 ?_)
  case c0 => first | exact u8s_length _ | rw [u8s_length, HR.out]
  case c1 =>
    intro j u hu
    have hj : j < (bs.take 300).length := by
      rcases Nat.lt_or_ge j (bs.take 300).length with h | h
      · exact h
      · rw [List.getElem?_eq_none (by rw [u8s_length]; exact h)] at hu; cases hu
    have hjb : j < bs.length := by have := HR.out; omega
    obtain ⟨_, h2, h3⟩ := HH.out.at_ _ rfl
    refine (World.cell?_alloc_lt w _ ⟨b, off + j, none⟩ h3).trans ((h2 j hjb).trans ?_)
    rw [← hu, u8s_get _ j hj]
    try simp only [List.getElem_take]
  case c2 => exact u8s_one _
  case c3 => unfold maxLen; omega
  try (case c4 => omega)
  try (case c5 => omega)
  intro v' w' hown hgrow hnil
  have hb : Below w.heap.size w w' := Below.grown (below_new w _) hgrow (by simp) (fun k hk => by simp [Value.ownBlock] at hk; omega)
  clear hgrow hnil
  have hown2 : w'.ownsRow w.heap.size 5 1 v' (bs.take 300).length (u8s (bs.take 300)) := by
    first | simpa using hown | (rw [HR.out]; simpa using hown)
  obtain ⟨a2, cap2, rfl, hbb⟩ := bytes_own hown2 (fun b hb => HH.out.lt b (by first | exact hb | exact List.mem_of_mem_take hb))
  have HW := Lib.hid (And.intro hbb hb)
  have HR2 := Lib.hid HR.out
  clear hown hown2 hbb hb
  go_wp2
  go_ret
  exact ⟨a2, cap2, by first | rfl | (rw [HR.out]; rfl), HW.out⟩

theorem few_any (a : Option Addr) (cap : Nat) (bs : List Nat) (w : World) (h : IsBytes w a cap bs) :
    Calls Try.prog 13 #[.slice a bs.length cap] w fun e w' => ∃ a2 cap2, e = .returned (.slice a2 (bs.take 300).length cap2) ∧ IsBytes w' a2 cap2 (bs.take 300) ∧ Below w.heap.size w w' := by
  cases a with
  | none =>
    have h0 := h.nil rfl
    have h1 := h.le
    have hb : bs = [] := List.eq_nil_of_length_eq_zero (by omega)
    subst hb
    subst h0
    exact few_nil w
  | some p =>
    by_cases hs : bs.length ≤ 300
    · rw [List.take_of_length_le hs]; exact few_short p cap bs w h hs
    · have e : (bs.take 300).length = 300 := by rw [List.length_take]; omega
      rw [e]; exact few_long p cap bs w h (by omega)

theorem lit_bytes (w : World) (cs : List Nat) (fr : Nat × Nat) (hc : ∀ b ∈ cs, b < 256) (hl : cs.length ≤ 64) : IsBytes (w.alloc (.cells (u8s cs).toArray 5 fr)) (some ⟨w.heap.size, 0, none⟩) cs.length cs := by
  refine ⟨Nat.le_refl _, by unfold maxLen; omega, fun e => (by cases e), fun p e => ?_, hc⟩
  obtain rfl : p = ⟨w.heap.size, 0, none⟩ := by simpa using e.symm
  refine ⟨rfl, fun i hi => ?_, by simp⟩
  rw [blk_cell (blk_alloc_at _ _ rfl)]
  simp [u8s, hi]

set_option maxHeartbeats 1000000 in
set_option maxRecDepth 100000 in
theorem shown_any (w : World) : Calls Try.prog 9 #[] w fun e w' => e = .returned (.bool true) ∧ Below w.heap.size w w' := by
  have kc := fun (w : World) (C : Array Value) (n c : Nat) => Lib.run_convert_bytes_const (P := Try.prog) w 28 5 C n c Try.underlying28 Try.underlying5
  have hst : strN [97, 120, 121, 122, 100] = ⟨#[97, 120, 121, 122, 100]⟩ := by rfl
  go_enter Try.func9, Try.ntmps9
  go_wp2_with fail
  refine (new_any (some ⟨w.heap.size, 0, none⟩) 4 [97, 98, 99, 100] _ (lit_bytes w [97, 98, 99, 100] _ (by decide) (by decide)) (by decide)).mono ?_
  rintro e w1 ⟨b1, B, rfl, hB, hr⟩
  have d1 : Below w.heap.size w w1 := (below_new w _).trans (b1.mono (by simp))
  have hB1 : w.heap.size ≤ B := Nat.le_trans (by simp) hB
  have H1 := Lib.hid (And.intro hr d1)
  clear b1 hr d1 hB
  go_wp2_with fail
  refine (replace_ok B [97, 98, 99, 100] 1 2 (some ⟨w1.heap.size, 0, none⟩) 3 [120, 121, 122] _ (H1.out.1.below (below_new _ _)) (by decide) (by decide) (by decide) (lit_bytes w1 [120, 121, 122] _ (by decide) (by decide))).mono ?_
  rintro e w2 ⟨b1, C, rfl, hC, hr⟩
  have e1 : swapped [97, 98, 99, 100] 1 2 [120, 121, 122] = [97, 120, 121, 122, 100] := by rfl
  rw [e1] at hr
  have bw : Below w1.heap.size w1 w2 := (below_new _ _).trans (b1.mono (by simp))
  have d2 : Below w.heap.size w w2 := H1.out.2.trans (bw.mono H1.out.2.size)
  have hC1 : w.heap.size ≤ C := Nat.le_trans H1.out.2.size (Nat.le_trans (by simp) hC)
  have H2 := Lib.hid (And.intro (H1.out.1.below bw) (And.intro hr d2))
  clear b1 hr bw d2 hC e1
  go_wp2_with fail
  refine (slice_good w.heap.size C [97, 120, 121, 122, 100] 0 5 _ H2.out.2.1 hC1 (by decide) (by decide)).mono ?_
  rintro e w3 ⟨a, cap, rfl, hb, hk⟩
  have hcv := str_conv (n := 5) hb rfl
  have e2 : List.drop 0 (List.take 5 [97, 120, 121, 122, 100]) = [97, 120, 121, 122, 100] := by rfl
  rw [e2, hst] at hcv
  have H3 := Lib.hid (And.intro (hk.rope _ _ H2.out.1) (And.intro (hk.rope _ _ H2.out.2.1) (H2.out.2.2.trans hk.below)))
  clear hb hk e2
  go_wp2_with (first | (go_at_call 12; (with_reducible refine (len_any B [97, 98, 99, 100] _ H3.out.1).mono ?_); rintro e w' ⟨rfl, rfl⟩) | (go_at_call 12; (with_reducible refine (len_any C [97, 120, 121, 122, 100] _ H3.out.2.1).mono ?_); rintro e w' ⟨rfl, rfl⟩))
  go_ret
  exact ⟨rfl, H3.out.2.2⟩
end Go.Proofs.Yteaciponojocbaa
