/- The walk of the law that what is tighter is what the ladder and the edges lead to. -/
import Derived.Test.YtkhillpjoklfgaaReach
namespace Go.Proofs.Ytkhillpjoklfgaa
open Go.RowKit Mat
attribute [local go_sem ↓] wp_load23 wp_store23 wp_alloc23 wp_build23 wp_eql23
attribute [local go_sem] okRow okAgg_RV cells_agg headOf cellsOf RV_size blk_alloc_at blk_alloc_past blk_drew blk_drewN blk_setRow_same blk_setRow_other putRow setRow_alloc_at setRow_alloc_past setRow_drew lt_ones1 lt_ones2 lt_ones3 lt_ones4 lt_ones5 lt_ones6 lt_ones7 lt_ones8 isRV_RV eqV_RV

theorem edgeCells_at (es : List (Nat × Nat)) (i : Nat) (hi : i < es.length) : (edgeCells es)[i * 2]? = some (.int .i64 (es[i].1 : Int)) ∧ (edgeCells es)[i * 2 + 1]? = some (.int .i64 (es[i].2 : Int)) := by
  induction es generalizing i with
  | nil => exact absurd hi (by simp)
  | cons e es ih =>
    cases i with
    | zero => exact ⟨rfl, rfl⟩
    | succ i =>
      have := ih i (by simpa using hi)
      have e1 : (i + 1) * 2 = i * 2 + 2 := by omega
      rw [e1]
      exact this
theorem own_edges {w : World} {base : Nat} {v : Value} {es : List (Nat × Nat)} (h : w.ownsRow base 38 2 v es.length (edgeCells es)) : ∃ a cap, v = .slice a es.length cap ∧ IsEdges w a es := by
  rcases h.2 with ⟨rfl, hn⟩ | ⟨g, cap, cur, rfl, _, hg, _⟩
  · rw [hn]
    exact ⟨none, 0, rfl, ⟨fun i hi => absurd hi (by omega)⟩⟩
  · refine ⟨some ⟨g, 0, none⟩, cap, rfl, ⟨fun i hi => ⟨g, rfl, ?_, ?_, row_lt (w := w) hg⟩⟩⟩
    · rw [h.cellAt _ (by omega)]; exact (edgeCells_at es i hi).1
    · rw [h.cellAt _ (by omega)]; exact (edgeCells_at es i hi).2
theorem IsEdges.below {w w' : World} {a : Option Addr} {es : List (Nat × Nat)} (h : IsEdges w a es) (hb : Below w.heap.size w w') : IsEdges w' a es :=
  ⟨fun i hi => let ⟨b, e, c1, c2, hl⟩ := h.at_ i hi; ⟨b, e, (hb.cell (p := ⟨b, i * 2, none⟩) hl).trans c1, (hb.cell (p := ⟨b, i * 2 + 1, none⟩) hl).trans c2, Nat.lt_of_lt_of_le hl hb.size⟩⟩

theorem layK_len40 (l : List (Nat × Nat)) : (layK l 40).2.length ≤ 40 := by
  rcases Nat.le_total 40 l.length with h | h
  · exact layK_len l 40 h
  · have := layK_len l l.length (Nat.le_refl _)
    rw [layK_all l l.length (Nat.le_refl _) h] at this
    omega

/-- What the edges lead to is what is tighter. -/
theorem leads_T {N : Nat → Nat} {es : List (Nat × Nat)} (L : Laid N es) (hm : es.length ≤ 40) (a : Option Addr) (cap g h : Nat) (w : World) (hp : IsEdges w a es) (hg : g < 10) (hh : h < 10) :
    Calls Try.prog 16 #[.slice a es.length cap, .int .i64 g, .int .i64 h] w fun e w' => e = .returned (.bool (T N g h)) ∧ Below w.heap.size w w' := by
  have := leads_any a es cap g h w hp hm (fun e he => ⟨(L.range e he).1.2, (L.range e he).2.2⟩) hg hh
  have e : leadsS es g h = T N g h := by rw [Bool.eq_iff_iff]; exact leads_iff L g h hg
  rwa [e] at this

theorem tight_is {N : Nat → Nat} (G : Mat.Good N) {g h : Nat} {b : Bool} (hb : T N g h = b) (hg : g < 10) (hh : h < 10) (w : World) : Calls Try.prog 13 #[.agg (RV (castR N)), .int .i64 g, .int .i64 h] w fun e w' => e = .returned (.bool b) ∧ w.alloc (.cells (RV (castR N)) 23) = w' := by
  have := tight_nat G hg hh w
  rwa [hb] at this
theorem leads_is {N : Nat → Nat} {es : List (Nat × Nat)} (L : Laid N es) (hm : es.length ≤ 40) (a : Option Addr) (cap : Nat) {g h : Nat} {b : Bool} (hb : T N g h = b) (w : World) (hp : IsEdges w a es) (hg : g < 10) (hh : h < 10) :
    Calls Try.prog 16 #[.slice a es.length cap, .int .i64 g, .int .i64 h] w fun e w' => e = .returned (.bool b) ∧ Below w.heap.size w w' := by
  have := leads_T L hm a cap g h w hp hg hh
  rwa [hb] at this

/-- What is kept over the law's rounds. -/
structure KeptL (u : World) (B : Nat) (N : Nat → Nat) (a : Option Addr) (es : List (Nat × Nat)) (w : World) : Prop where
  r : blk w B = some (.cells (RV (castR N)) 23 (0, 0))
  e : IsEdges w a es
  d : Below u.heap.size u w
theorem KeptL.below {u w w' : World} {B : Nat} {N : Nat → Nat} {a : Option Addr} {es : List (Nat × Nat)} (h : KeptL u B N a es w) (hb : Below w.heap.size w w') : KeptL u B N a es w' :=
  ⟨(row_below hb (row_lt h.r)).trans h.r, h.e.below hb, h.d.trans (hb.mono h.d.size)⟩
theorem KeptL.alloc {u w : World} {B : Nat} {N : Nat → Nat} {a : Option Addr} {es : List (Nat × Nat)} (h : KeptL u B N a es w) (o : Obj) : KeptL u B N a es (w.alloc o) := h.below (below_new w o)

set_option maxHeartbeats 1000000 in
theorem leadslaw_walk (a : Option Addr) (l : List (Nat × Nat)) (cap : Nat) (w : World) (hp : IsPairs w a l) (hm : l.length ≤ maxLen) :
    Calls Try.prog 4 #[.slice a l.length cap] w fun e w' => e = .returned (.bool true) ∧ Below w.heap.size w w' := by
  have hL := layK_laid l 40
  have h40 := layK_len40 l
  have HLA := Lib.hid (fun (w1 : World) (hb : Below w.heap.size w w1) => laid_any a l cap w1 ⟨fun i hi => let ⟨b, off, e, c1, c2, hlt⟩ := hp.at_ i hi; ⟨b, off, e, (hb.cell (p := ⟨b, off + i * 2, none⟩) hlt).trans c1, (hb.cell (p := ⟨b, off + i * 2 + 1, none⟩) hlt).trans c2, Nat.lt_of_lt_of_le hlt hb.size⟩, hp.lt⟩ hm)
  clear hp
  generalize hN : (layK l 40).1 = N at *
  generalize hE : (layK l 40).2 = es at *
  clear hN hE
  have HG := Lib.hid hL.good
  have HL := Lib.hid hL
  clear hL
  go_enter Try.func4, Try.ntmps4
  go_wp2_with fail
  refine (shown_true _).mono ?_
  rintro e w1 ⟨rfl, b1⟩
  go_wp2_with fail
  refine (HLA.out _ b1).mono ?_
  rintro e w2 ⟨v, rfl, hown, b2⟩
  obtain ⟨ea, ecap, rfl, hed⟩ := own_edges hown
  have b12 : Below w.heap.size w w2 := b1.trans (b2.mono b1.size)
  clear hown b1 b2
  have K0 : KeptL w w2.heap.size N ea es (w2.alloc (.cells (RV (castR N)) 23)) := ⟨blk_alloc_at _ _ rfl, hed.below (below_new _ _), b12.trans ((below_new _ _).mono b12.size)⟩
  have HK := Lib.hid K0
  clear K0 hed b12
  go_wp2_with fail
  generalize w2.heap.size = B at *
  go_loopw [6] (fun x wr => ∃ g : Nat, 1 ≤ g ∧ g ≤ 10 ∧ x = .int .i64 g ∧ KeptL w B N ea es wr) (fun x _ => 10 - (intOf x).toNat)
  case atStart => exact ⟨1, by omega, by omega, rfl, HK.out⟩
  case round =>
    clear HK HLA
    obtain ⟨g, hg1, hg, rfl, hk⟩ := hrel
    by_cases hlt : g < 10
    · have hgb : decide ((g : Int) < 10) = true := decide_eq_true (by omega)
      go_wp2_with fail
      go_loopw [7] (fun x wr => ∃ h : Nat, 1 ≤ h ∧ h ≤ 10 ∧ x = .int .i64 h ∧ KeptL w B N ea es wr) (fun x _ => 10 - (intOf x).toNat)
      case atStart => exact ⟨1, by omega, by omega, rfl, hk⟩
      case round =>
        clear hk
        obtain ⟨h, hh1, hh, rfl, hk⟩ := hrel
        by_cases hlh : h < 10
        · have hhb : decide ((h : Int) < 10) = true := decide_eq_true (by omega)
          have f := hk.r
          cases ht : T N g h
          · have HT := Lib.hid ht
            clear ht
            go_wp2_with fail
            refine (tight_is HG.out HT.out hlt hlh _).mono ?_
            rintro e wa ⟨rfl, rfl⟩
            have hk := hk.alloc (.cells (RV (castR N)) 23)
            have f := hk.r
            go_wp2_with fail
            refine (leads_is HL.out h40 ea ecap HT.out _ hk.e hlt hlh).mono ?_
            rintro e wb ⟨rfl, bb⟩
            have hk := hk.below bb
            have f := hk.r
            clear bb
            go_wp2_with fail
            refine (tight_is HG.out HT.out hlt hlh _).mono ?_
            rintro e wa ⟨rfl, rfl⟩
            have hk := hk.alloc (.cells (RV (castR N)) 23)
            have f := hk.r
            go_wp2_with fail
            go_loopw [8] (fun x wr => ∃ k : Nat, 1 ≤ k ∧ k ≤ 10 ∧ x = .int .i64 k ∧ KeptL w B N ea es wr) (fun x _ => 10 - (intOf x).toNat)
            case atStart => exact ⟨1, by omega, by omega, rfl, hk⟩
            case round =>
              clear hk f
              obtain ⟨k, hk1, hkl, rfl, hk⟩ := hrel
              by_cases hlk : k < 10
              · have hkb : decide ((k : Int) < 10) = true := decide_eq_true (by omega)
                have f := hk.r
                go_wp2_with fail
                refine (tight_is HG.out HT.out hlt hlh _).mono ?_
                rintro e wa ⟨rfl, rfl⟩
                have hk := hk.alloc (.cells (RV (castR N)) 23)
                go_wp2_with fail
                go_roundw
                case rel => exact ⟨k + 1, by omega, by omega, by go_num, hk⟩
                case measure => simp [intOf]; omega
              · go_wp2_with fail
                go_roundw
                case rel => exact ⟨h + 1, by omega, by omega, by go_num, hk⟩
                case measure => simp [intOf]; omega
          · have HT := Lib.hid ht
            have hr : T N h g = false := by
              cases h2 : T N h g
              · rfl
              · exact absurd (HG.out.tr _ _ _ ht h2) (HG.out.ir g)
            have HR := Lib.hid hr
            clear ht hr
            go_wp2_with fail
            refine (tight_is HG.out HT.out hlt hlh _).mono ?_
            rintro e wa ⟨rfl, rfl⟩
            have hk := hk.alloc (.cells (RV (castR N)) 23)
            have f := hk.r
            go_wp2_with fail
            refine (leads_is HL.out h40 ea ecap HT.out _ hk.e hlt hlh).mono ?_
            rintro e wb ⟨rfl, bb⟩
            have hk := hk.below bb
            have f := hk.r
            clear bb
            go_wp2_with fail
            refine (tight_is HG.out HT.out hlt hlh _).mono ?_
            rintro e wa ⟨rfl, rfl⟩
            have hk := hk.alloc (.cells (RV (castR N)) 23)
            have f := hk.r
            go_wp2_with fail
            refine (tight_is HG.out HR.out hlh hlt _).mono ?_
            rintro e wa ⟨rfl, rfl⟩
            have hk := hk.alloc (.cells (RV (castR N)) 23)
            have f := hk.r
            go_wp2_with fail
            go_loopw [8] (fun x wr => ∃ k : Nat, 1 ≤ k ∧ k ≤ 10 ∧ x = .int .i64 k ∧ KeptL w B N ea es wr) (fun x _ => 10 - (intOf x).toNat)
            case atStart => exact ⟨1, by omega, by omega, rfl, hk⟩
            case round =>
              clear hk f
              obtain ⟨k, hk1, hkl, rfl, hk⟩ := hrel
              by_cases hlk : k < 10
              · have hkb : decide ((k : Int) < 10) = true := decide_eq_true (by omega)
                have f := hk.r
                go_wp2_with fail
                refine (tight_is HG.out HT.out hlt hlh _).mono ?_
                rintro e wa ⟨rfl, rfl⟩
                have hk := hk.alloc (.cells (RV (castR N)) 23)
                have f := hk.r
                cases hq : T N h k
                · have HQ := Lib.hid hq
                  clear hq
                  go_wp2_with fail
                  refine (tight_is HG.out HQ.out hlh hlk _).mono ?_
                  rintro e wa ⟨rfl, rfl⟩
                  have hk := hk.alloc (.cells (RV (castR N)) 23)
                  go_wp2_with fail
                  go_roundw
                  case rel => exact ⟨k + 1, by omega, by omega, by go_num, hk⟩
                  case measure => simp [intOf]; omega
                · have HQ := Lib.hid hq
                  have HS := Lib.hid (HG.out.tr _ _ _ HT.out hq)
                  clear hq
                  go_wp2_with fail
                  refine (tight_is HG.out HQ.out hlh hlk _).mono ?_
                  rintro e wa ⟨rfl, rfl⟩
                  have hk := hk.alloc (.cells (RV (castR N)) 23)
                  have f := hk.r
                  go_wp2_with fail
                  refine (tight_is HG.out HS.out hlt hlk _).mono ?_
                  rintro e wa ⟨rfl, rfl⟩
                  have hk := hk.alloc (.cells (RV (castR N)) 23)
                  go_wp2_with fail
                  go_roundw
                  case rel => exact ⟨k + 1, by omega, by omega, by go_num, hk⟩
                  case measure => simp [intOf]; omega
              · go_wp2_with fail
                go_roundw
                case rel => exact ⟨h + 1, by omega, by omega, by go_num, hk⟩
                case measure => simp [intOf]; omega
        · go_wp2_with fail
          go_roundw
          case rel => exact ⟨g + 1, by omega, by omega, by go_num, hk⟩
          case measure => simp [intOf]; omega
    · go_wp2_with fail
      go_ret
      exact ⟨rfl, hk.d⟩
end Go.Proofs.Ytkhillpjoklfgaa
