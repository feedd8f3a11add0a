/- The walks of the function that builds a tree of bytes, as low as can be. -/
import Derived.Test.YteaciponojocbaaJoin
import Derived.Laws.EntriesVeiled
namespace Go.Proofs.Yteaciponojocbaa
open Go.RowKit

/-- A tree of some bytes, in new memory. -/
def Built (w : World) (bs : List Nat) (e : Ending) (w' : World) : Prop :=
  ∃ J t, e = .returned (.pointer (some ⟨J, 0, none⟩)) ∧ IsTr w' J t ∧ t.bytes = bs ∧ (∀ k, bs.length ≤ 64 * 2 ^ k → t.deep ≤ k + 1) ∧ t.deep ≤ bs.length + 1 ∧ Below w.heap.size w w'

/-- The closure's variable holds the closure. -/
def Half (V : Nat) : Value := .func (.func 28) #[] #[.pointer (some ⟨V, 0, none⟩)]

theorem IsBytes.take {w : World} {p : Addr} {cap : Nat} {bs : List Nat} (h : IsBytes w (some p) cap bs) (m : Nat) (_hm : m ≤ bs.length) : IsBytes w (some p) cap (bs.take m) := by
  refine ⟨?_, h.big, h.nil, fun q e => ?_, fun b hb => h.lt b (List.mem_of_mem_take hb)⟩
  · have := h.le; rw [List.length_take]; omega
  · obtain ⟨h1, h2, h3⟩ := h.at_ q e
    refine ⟨h1, fun i hi => ?_, h3⟩
    rw [List.length_take] at hi
    rw [h2 i (by omega), List.getElem_take]
theorem IsBytes.drop {w : World} {b off cap : Nat} {bs : List Nat} (h : IsBytes w (some ⟨b, off, none⟩) cap bs) (m : Nat) (hm : m ≤ bs.length) : IsBytes w (some ⟨b, off + m, none⟩) (cap - m) (bs.drop m) := by
  refine ⟨?_, Nat.le_trans (Nat.sub_le _ _) h.big, fun e => (by cases e), fun q e => ?_, fun b hb => h.lt b (List.mem_of_mem_drop hb)⟩
  · have := h.le; rw [List.length_drop]; omega
  · obtain ⟨_, h2, h3⟩ := h.at_ _ rfl
    obtain rfl : q = ⟨b, off + m, none⟩ := by simpa using e.symm
    refine ⟨rfl, fun i hi => ?_, h3⟩
    rw [List.length_drop] at hi
    have := h2 (m + i) (by omega)
    rw [show off + m + i = off + (m + i) by omega, List.getElem_drop]
    exact this

theorem half_small (V : Nat) (a : Option Addr) (cap : Nat) (bs : List Nat) (w : World) (h : IsBytes w a cap bs) (hl : bs.length ≤ 64) :
    Calls Try.prog 28 #[.slice a bs.length cap, .pointer (some ⟨V, 0, none⟩)] w (Built w bs) := by
  have hli : (bs.length : Int) ≤ 64 := by omega
  have HB := Lib.hid h
  have HP := Lib.hid h.lt
  clear h
  generalize hn : bs.length = n at *
  have HN := Lib.hid hn
  clear hn
  go_enter Try.func28, Try.ntmps28
  go_wp2_with fail
  rw [← HN.out]
  refine (clone_any a cap bs _ HB.out (by rw [HN.out]; omega)).mono ?_
  rintro e w1 ⟨u, rfl, hown, hb⟩
  obtain ⟨a', cap', rfl, hB⟩ := bytes_own hown HP.out
  rw [HN.out]
  have HB2 := Lib.hid hB
  clear hown hB
  go_wp2_with fail
  refine (leaf_any a' n cap' _).mono ?_
  rintro e w2 ⟨rfl, rfl⟩
  go_wp2_with fail
  go_ret
  refine ⟨w1.heap.size, .leaf bs, rfl, ⟨a', cap', ?_, HB2.out.below (below_new _ _)⟩, rfl, fun k _ => ?_, ?_, below_alloc hb (Nat.le_refl _) _⟩
  · rw [HN.out]; exact blk_alloc_at _ _ rfl
  · show 1 ≤ k + 1; omega
  · show 1 ≤ _; omega

/-- What is kept while the two halves are built. -/
structure KH (w : World) (V b off cap : Nat) (bs : List Nat) : Prop where
  b : IsBytes w (some ⟨b, off, none⟩) cap bs
  v : w.cell? ⟨V, 0, none⟩ = some (Half V)
  l : V < w.heap.size
theorem KH.below {w w' : World} {V b off cap : Nat} {bs : List Nat} (h : KH w V b off cap bs) (hb : Below w.heap.size w w') : KH w' V b off cap bs :=
  ⟨h.b.below hb, (hb.cell (p := ⟨V, 0, none⟩) h.l).trans h.v, Nat.lt_of_lt_of_le h.l hb.size⟩
theorem KH.vl {w : World} {V b off cap : Nat} {bs : List Nat} (h : KH w V b off cap bs) : w.cell? ⟨V, 0, none⟩ = some (.func (.func 28) #[] #[.pointer (some ⟨V, 0, none⟩)]) ∧ V < w.heap.size := ⟨h.v, h.l⟩

set_option maxHeartbeats 1000000 in
theorem half_big (V : Nat) (b off cap m : Nat) (bs : List Nat) (w : World) (h : IsBytes w (some ⟨b, off, none⟩) cap bs) (hl : 64 < bs.length) (hu : bs.length ≤ 16384) (hm : (bs.length : Int) / 2 = (m : Int))
    (hV : w.cell? ⟨V, 0, none⟩ = some (Half V)) (hVl : V < w.heap.size)
    (ih : ∀ (bs' : List Nat) (b off cap : Nat) (w : World), bs'.length < bs.length → 0 < bs'.length → IsBytes w (some ⟨b, off, none⟩) cap bs' → w.cell? ⟨V, 0, none⟩ = some (Half V) → V < w.heap.size → Calls Try.prog 28 #[.slice (some ⟨b, off, none⟩) bs'.length cap, .pointer (some ⟨V, 0, none⟩)] w (Built w bs')) :
    Calls Try.prog 28 #[.slice (some ⟨b, off, none⟩) bs.length cap, .pointer (some ⟨V, 0, none⟩)] w (Built w bs) := by
  have hli : ¬ (bs.length : Int) ≤ 64 := by omega
  have hcap := h.le
  have hbig := h.big
  unfold maxLen at hbig
  have HB := Lib.hid h
  have IH := Lib.hid ih
  have m0 : (0 : Int) ≤ (m : Int) := by omega
  have m1 : (m : Int) ≤ (bs.length : Int) := by omega
  have m2 : (m : Int) ≤ (cap : Int) := by omega
  have mlt : m < bs.length := by omega
  have mpos : 0 < m := by omega
  have n2 : (bs.length : Int) ≤ (cap : Int) := by omega
  have l1 : (bs.take m).length = m := by rw [List.length_take]; omega
  have l2 : (bs.drop m).length = bs.length - m := by rw [List.length_drop]
  have ih1 : ∀ w', KH w' V b off cap bs → Calls Try.prog 28 #[.slice (some ⟨b, off, none⟩) m cap, .pointer (some ⟨V, 0, none⟩)] w' (Built w' (bs.take m)) := fun w' k => by
    have := ih (bs.take m) b off cap w' (by omega) (by omega) (k.b.take m (by omega)) k.v k.l
    rwa [l1] at this
  have ih2 : ∀ w', KH w' V b off cap bs → Calls Try.prog 28 #[.slice (some ⟨b, off + m, none⟩) (bs.length - m) (cap - m), .pointer (some ⟨V, 0, none⟩)] w' (Built w' (bs.drop m)) := fun w' k => by
    have := ih (bs.drop m) b (off + m) (cap - m) w' (by omega) (by omega) (k.b.drop m (by omega)) k.v k.l
    rwa [l2] at this
  have I1 := Lib.hid ih1
  have I2 := Lib.hid ih2
  have K0 : KH w.drew V b off cap bs := (KH.mk h hV hVl).below (Below.refl _ _).drew
  have HK0 := Lib.hid K0
  have hfin : ∀ (t1 t2 : Tr), t1.bytes = bs.take m → t2.bytes = bs.drop m → (∀ k, m ≤ 64 * 2 ^ k → t1.deep ≤ k + 1) → (∀ k, bs.length - m ≤ 64 * 2 ^ k → t2.deep ≤ k + 1) → t1.deep ≤ m + 1 → t2.deep ≤ bs.length - m + 1 →
      (joinT t1 t2).bytes = bs ∧ (∀ k, bs.length ≤ 64 * 2 ^ k → (joinT t1 t2).deep ≤ k + 1) ∧ (joinT t1 t2).deep ≤ bs.length + 1 := by
    intro t1 t2 e1 e2 d1 d2 f1 f2
    have hj := joinT_deep t1 t2
    refine ⟨by rw [joinT_bytes, e1, e2, List.take_append_drop], fun k hk => ?_, by omega⟩
    cases k with
    | zero => simp at hk; omega
    | succ k =>
      rw [Nat.pow_succ] at hk
      have := d1 k (by omega)
      have := d2 k (by omega)
      omega
  have HF := Lib.hid hfin
  have HL1 := Lib.hid (show ∀ t : Tr, t.bytes = bs.take m → t.size = m from fun t e => by unfold Tr.size; rw [e]; exact l1)
  have HL2 := Lib.hid (show ∀ t : Tr, t.bytes = bs.drop m → t.size = bs.length - m from fun t e => by unfold Tr.size; rw [e]; exact l2)
  clear h ih ih1 ih2 l1 l2 K0 hfin
  unfold Half at hV
  generalize hn : bs.length = n at *
  have HN := Lib.hid hn
  clear hn
  go_enter Try.func28, Try.ntmps28
  go_wp2_with fail
  go_region_held3 (fun w' => w'.cell? ⟨V, 0, none⟩ = some (.func (.func 28) #[] #[.pointer (some ⟨V, 0, none⟩)]) ∧ V < w'.heap.size)
    (first | exact ⟨hV, hVl⟩ | assumption | exact HK1.out.vl | exact HK2.out.vl | exact HK3.out.vl)
    (first | (go_at_call 28; (with_reducible refine (I1.out _ HK0.out).mono ?_); rintro e w1 ⟨J1, t1, rfl, tr1, tb1, td1, te1, b1⟩; have HK1 := Lib.hid (HK0.out.below b1); rw [List.length_take] at td1 te1) | (go_at_call 28; (with_reducible refine (I2.out _ HK1.out).mono ?_); rintro e w2 ⟨J2, t2, rfl, tr2, tb2, td2, te2, b2⟩; have HK2 := Lib.hid (HK1.out.below b2); rw [List.length_drop, HN.out] at td2 te2) | (go_at_call 24; refine (join_any J1 J2 t1 t2 _ (tr1.below b2) tr2 (by rw [HL1.out t1 tb1]; omega) (by rw [HL2.out t2 tb2]; omega) (by omega) (by omega)).mono ?_; rintro e w3 ⟨J3, rfl, tr3, b3⟩; have HK3 := Lib.hid (HK2.out.below b3)))
  rw [Nat.min_eq_left (by rw [HN.out]; omega)] at td1 te1
  obtain ⟨f1, f2, f3⟩ := HF.out t1 t2 tb1 tb2 td1 td2 te1 te2
  have hd : Below w.heap.size w w3 := (Below.refl _ w).drew.trans (b1.trans ((b2.trans (b3.mono b2.size)).mono b1.size))
  have HD := Lib.hid hd
  clear b1 b2 b3 hd td1 td2 te1 te2
  go_wp2
  go_ret
  exact ⟨J3, _, rfl, tr3, f1, by rw [HN.out]; exact f2, by rw [HN.out]; exact f3, HD.out⟩

theorem half_any (V : Nat) : ∀ (n : Nat) (bs : List Nat) (a : Option Addr) (cap : Nat) (w : World), bs.length ≤ n → bs.length ≤ 16384 → IsBytes w a cap bs → w.cell? ⟨V, 0, none⟩ = some (Half V) → V < w.heap.size →
    Calls Try.prog 28 #[.slice a bs.length cap, .pointer (some ⟨V, 0, none⟩)] w (Built w bs) := by
  intro n
  induction n with
  | zero => intro bs a cap w hn _ h _ _; exact half_small V a cap bs w h (by omega)
  | succ n ih =>
    intro bs a cap w hn hu h hV hVl
    by_cases hl : bs.length ≤ 64
    · exact half_small V a cap bs w h hl
    · cases a with
      | none => have := h.nil rfl; have := h.le; omega
      | some p =>
        have hsp := (h.at_ p rfl).1
        obtain ⟨b, off, spot⟩ := p
        have hsp' : spot = none := hsp
        subst hsp'
        exact half_big V b off cap (bs.length / 2) bs w h (by omega) hu (by omega) hV hVl (fun bs' b off cap w hlt _ hb hv hvl => ih bs' _ cap w (by omega) (by omega) hb hv hvl)

theorem build_any (a : Option Addr) (cap : Nat) (bs : List Nat) (w : World) (h : IsBytes w a cap bs) (hu : bs.length ≤ 16384) : Calls Try.prog 22 #[.slice a bs.length cap] w (Built w bs) := by
  have HB := Lib.hid h
  clear h
  have hmf : ∀ (fn : Fn) (first cap : Array Value) (w : World), (Instr.makeFunc fn first cap).run Try.prog w = .ok (.func fn first cap) w := fun _ _ _ _ => rfl
  go_enter Try.func22, Try.ntmps22
  go_wp2_with fail
  refine (half_any w.heap.size bs.length bs a cap _ (Nat.le_refl _) hu (HB.out.below (below_new _ _)) (by simp [Half]) (by simp)).mono ?_
  rintro e w1 ⟨J, t, rfl, h1, h2, h3, h4, h5⟩
  have hd : Below w.heap.size w w1 := (below_new w _).trans (h5.mono (by simp))
  have H := Lib.hid (And.intro h1 (And.intro h2 (And.intro h3 (And.intro h4 hd))))
  clear h1 h2 h3 h4 h5 hd
  go_wp2_with fail
  go_ret
  exact ⟨J, t, rfl, H.out⟩
end Go.Proofs.Yteaciponojocbaa
