/- The walk of the law that an edge is refused just if it would come round. -/
import Derived.Test.YtkhillpjoklfgaaLeads
import Derived.Deep.DrawnRows
import Derived.Deep.RegionWith
namespace Go.Proofs.Ytkhillpjoklfgaa
open Go.RowKit Mat
attribute [local go_sem ↓] wp_load23 wp_store23 wp_alloc23 wp_build23 wp_eql23
attribute [local go_sem] okRow okAgg_RV cells_agg headOf cellsOf RV_size blk_alloc_at blk_alloc_past blk_drew blk_drewN blk_setRow_same blk_setRow_other putRow setRow_alloc_at setRow_alloc_past setRow_drew lt_ones1 lt_ones2 lt_ones3 lt_ones4 lt_ones5 lt_ones6 lt_ones7 lt_ones8 isRV_RV eqV_RV
attribute [local go_sem ↓] Go.wp_at_zero Go.wp_at_succ
attribute [local go_sem] run_eql23 run_eqGuard23

/-- An edge that says what is so already changes nothing; each other one changes something. -/
theorem edN_same {N : Nat → Nat} (G : Mat.Good N) {g h : Nat} (t : T N g h = true) (x : Nat) : edN N g h x = N x := by
  refine Mat.Good.ext (fun x y => ?_) x
  rw [T_edN]
  constructor
  · rintro (a | ⟨a, b⟩)
    · exact a
    · have tx : T N x h = true := by
        rcases a with rfl | a
        · exact t
        · exact G.tr _ _ _ a t
      rcases b with rfl | b
      · exact tx
      · exact G.tr _ _ _ tx b
  · exact .inl
theorem edN_new (N : Nat → Nat) (g h : Nat) : T (edN N g h) g h = true := (T_edN N g h g h).2 (.inr ⟨.inl rfl, .inl rfl⟩)
theorem eqR_edN {N : Nat → Nat} (G : Mat.Good N) {g h : Nat} (hg : g < 10) : eqR (castR (edN N g h)) (castR N) = T N g h := by
  rw [Bool.eq_iff_iff, eqR_iff]
  constructor
  · intro e
    have h1 : ((edN N g h g : Nat) : Int) = (N g : Nat) := e g hg
    have h2 : edN N g h g = N g := by omega
    have := edN_new N g h
    unfold T at this ⊢
    rwa [h2] at this
  · intro t k _
    show ((edN N g h k : Nat) : Int) = (N k : Nat)
    rw [edN_same G t k]

theorem eqR_self (R : Nat → Int) : eqR R R = true := (eqR_iff R R).2 fun _ _ => rfl
structure KeptC (u : World) (B C : Nat) (N M : Nat → Nat) (a : Option Addr) (es : List (Nat × Nat)) (w : World) : Prop where
  r : blk w B = some (.cells (RV (castR N)) 23 (0, 0))
  s : blk w C = some (.cells (RV (castR M)) 23 (0, 0))
  e : IsEdges w a es
  d : Below u.heap.size u w
theorem KeptC.below {u w w' : World} {B C : Nat} {N M : Nat → Nat} {a : Option Addr} {es : List (Nat × Nat)} (h : KeptC u B C N M a es w) (hb : Below w.heap.size w w') : KeptC u B C N M a es w' :=
  ⟨(row_below hb (row_lt h.r)).trans h.r, (row_below hb (row_lt h.s)).trans h.s, h.e.below hb, h.d.trans (hb.mono h.d.size)⟩
theorem KeptC.drew {u w : World} {B C : Nat} {N M : Nat → Nat} {a : Option Addr} {es : List (Nat × Nat)} (h : KeptC u B C N M a es w) : KeptC u B C N M a es w.drew :=
  ⟨h.r, h.s, ⟨fun i hi => h.e.at_ i hi⟩, h.d.drew⟩
theorem tight_isb {N : Nat → Nat} (G : Mat.Good N) {g h : Nat} {b : Bool} (hb : T N g h = b) (hg : g < 10) (hh : h < 10) (w : World) : Calls Try.prog 13 #[.agg (RV (castR N)), .int .i64 g, .int .i64 h] w fun e w' => e = .returned (.bool b) ∧ Below w.heap.size w w' :=
  (tight_is G hb hg hh w).mono fun _ _ ⟨he, hw⟩ => ⟨he, hw ▸ below_new _ _⟩

set_option maxHeartbeats 16000000 in
theorem cycleslaw_walk (a : Option Addr) (l : List (Nat × Nat)) (cap x y : Nat) (w : World) (hp : IsPairs w a l) (hm : l.length ≤ maxLen) (hx : x < 256) (hy : y < 256) :
    Calls Try.prog 5 #[.slice a l.length cap, .agg #[.int .u8 (x : Int), .int .u8 (y : Int)]] w fun e w' => e = .returned (.bool true) ∧ Below w.heap.size w w' := by
  have hL := layK_laid l 40
  have h40 := layK_len40 l
  have HLA := Lib.hid (fun (w1 : World) (hb : Below w.heap.size w w1) => laid_any a l cap w1 ⟨fun i hi => let ⟨b, off, e, c1, c2, hlt⟩ := hp.at_ i hi; ⟨b, off, e, (hb.cell (p := ⟨b, off + i * 2, none⟩) hlt).trans c1, (hb.cell (p := ⟨b, off + i * 2 + 1, none⟩) hlt).trans c2, Nat.lt_of_lt_of_le hlt hb.size⟩, hp.lt⟩ hm)
  clear hp
  generalize hN : (layK l 40).1 = N at *
  generalize hE : (layK l 40).2 = es at *
  clear hN hE
  have HG := Lib.hid hL.good
  have HL := Lib.hid hL
  clear hL
  obtain ⟨hgr, hhr⟩ := groupsOf_range (x, y)
  have e1 : (((groupsOf (x, y)).1 : Nat) : Int) = 1 + (x : Int) % 9 := by simp [groupsOf]
  have e2 : (((groupsOf (x, y)).2 : Nat) : Int) = 1 + (y : Int) % 9 := by simp [groupsOf]
  generalize (groupsOf (x, y)).1 = g at *
  generalize (groupsOf (x, y)).2 = h at *
  have E1 := Lib.hid e1
  have E2 := Lib.hid e2
  clear e1 e2
  go_enter Try.func5, Try.ntmps5
  go_wp2_with fail
  refine (shown_true _).mono ?_
  rintro e w1 ⟨rfl, b1⟩
  have p1 : blk w1 w.heap.size = some (.cells #[.int .u8 (x : Int), .int .u8 (y : Int)] 36 (0, 0)) := (row_below b1 (by simp)).trans (blk_alloc_at _ _ rfl)
  have b1' : Below w.heap.size w w1 := (below_new w _).trans (b1.mono (by simp))
  clear b1
  go_wp2_with fail
  refine (HLA.out _ b1').mono ?_
  rintro e w2 ⟨v, rfl, hown, b2⟩
  obtain ⟨ea, ecap, rfl, hed⟩ := own_edges hown
  have b12 : Below w.heap.size w w2 := b1'.trans (b2.mono b1'.size)
  have p2 : blk w2 w.heap.size = some (.cells #[.int .u8 (x : Int), .int .u8 (y : Int)] 36 (0, 0)) := (row_below b2 (row_lt p1)).trans p1
  clear hown b1' b2 p1
  have K0 : KeptL w w2.heap.size N ea es (w2.alloc (.cells (RV (castR N)) 23)) := ⟨blk_alloc_at _ _ rfl, hed.below (below_new _ _), b12.trans ((below_new _ _).mono b12.size)⟩
  have hc := row_cell ((blk_alloc_past (.cells (RV (castR N)) 23) _ (row_lt p2)).trans p2)
  have f := K0.r
  have HK := Lib.hid K0
  clear K0 hed b12 p2 HLA
  go_wp2_with fail
  rw [← E1.out, ← E2.out]
  clear hc
  by_cases hcy : g = h ∨ T N h g = true
  · refine (edge_no HG.out hgr hhr hcy _).mono ?_
    rintro e w3 ⟨rfl, b3⟩
    have k3 := HK.out.below b3
    have f3 := k3.r
    clear b3 f HK
    have ez : eqR zeroR (fun _ => 0) = true := eqR_self zeroR
    have K3 := Lib.hid k3
    clear k3
    by_cases hgh : g = h
    · subst hgh
      clear hcy
      go_wp2_with fail
      go_ret
      exact ⟨rfl, K3.out.d.trans ((below_new _ _).mono K3.out.d.size)⟩
    · have hb : ((g : Int) == (h : Int)) = false := by simp; omega
      have HT := Lib.hid (hcy.resolve_left hgh)
      clear hcy
      go_wp2_with fail
      refine (leads_is HL.out h40 ea ecap HT.out _ (K3.out.e.below (below_new _ _)) hhr.2 hgr.2).mono ?_
      rintro e w4 ⟨rfl, b4⟩
      have f4 : blk w4 w3.heap.size = some (.cells (RV zeroR) 23 (0, 0)) := (row_below b4 (by simp)).trans (blk_alloc_at _ _ rfl)
      have d4 : Below w.heap.size w w4 := (K3.out.d.trans ((below_new _ _).mono K3.out.d.size)).trans (b4.mono (by have := K3.out.d.size; simp; omega))
      clear b4
      go_wp2_with fail
      go_ret
      exact ⟨rfl, d4⟩
  · refine (edge_yes HG.out hgr hhr hcy _).mono ?_
    rintro e w3 ⟨rfl, b3⟩
    have k3 := HK.out.below b3
    have f3 := k3.r
    have hb : ((g : Int) == (h : Int)) = false := by simp; omega
    have ht : T N h g = false := by
      cases h2 : T N h g
      · rfl
      · exact absurd (.inr h2) hcy
    have HT := Lib.hid ht
    have HGM := Lib.hid (HG.out.edge hgr hhr (fun q => hcy (.inl q)) (fun q => hcy (.inr q)))
    have HN := Lib.hid (edN_new N g h)
    have HQ := Lib.hid (eqR_edN HG.out (h := h) hgr.2)
    generalize edN N g h = M at *
    clear b3 f HK ht hcy
    have k4 : KeptC w w2.heap.size w3.heap.size N M ea es (w3.alloc (.cells (RV (castR M)) 23)) :=
      ⟨(blk_alloc_past _ _ (row_lt f3)).trans f3, blk_alloc_at _ _ rfl, k3.e.below (below_new _ _), k3.d.trans ((below_new _ _).mono k3.d.size)⟩
    have K4 := Lib.hid k4
    clear k4 k3
    go_wp2_with fail
    refine (leads_is HL.out h40 ea ecap HT.out _ K4.out.e hhr.2 hgr.2).mono ?_
    rintro e w4 ⟨rfl, b4⟩
    have k5 := K4.out.below b4
    generalize w3.heap.size = C at *
    generalize w2.heap.size = B at *
    clear K4 b4 f3
    go_wp2_with fail
    have k6 := k5.drew
    have r6 := k5.r
    have s6 := k5.s
    obtain ⟨b, hgt⟩ : ∃ b, T N g h = b := ⟨_, rfl⟩
    have hq := HQ.out
    rw [hgt] at hq
    have HLD := Lib.hid (fun (W : World) (hW : KeptC w B C N M ea es W) => leads_is HL.out h40 ea ecap hgt W hW.e hgr.2 hhr.2)
    have HTM := Lib.hid (tight_isb HGM.out HN.out hgr.2 hhr.2)
    have hg2 := hgr.2
    have hh2 := hhr.2
    clear HQ hgt HL HG HGM HN HT E1 E2 h40 hm hx hy hgr hhr k5 hb w1 w2 w3
    go_region_with (first | (go_at_call 16; (with_reducible refine (HLD.out _ (by assumption)).mono ?_); rintro e wx ⟨rfl, bx⟩; have kx := KeptC.below (by assumption) bx; have rx := kx.r; have sx := kx.s; clear bx) | (go_at_call 13; (with_reducible refine (HTM.out _).mono ?_); rintro e wx ⟨rfl, bx⟩; have kx := KeptC.below (by assumption) bx; have rx := kx.r; have sx := kx.s; clear bx))
    all_goals
      go_wp2
      refine bodyPost_ret (v := .bool true) ?_ ?_ ⟨rfl, (show KeptC w B C N M ea es _ by assumption).d⟩
      · rw [results_tmp rfl]
        simp [Act.put]
      · simp [Act.put]
end Go.Proofs.Ytkhillpjoklfgaa
