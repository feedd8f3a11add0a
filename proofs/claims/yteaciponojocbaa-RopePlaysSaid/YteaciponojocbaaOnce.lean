/- The rope's bytes, told once: the walks of the closure, of Once's two roads, of the method. -/
import Derived.Test.YteaciponojocbaaRope
namespace Go.Proofs.Yteaciponojocbaa
open Go.RowKit

theorem fro_keep {w w' : World} {B i : Nat} {x : Value} (h : w.cell? ⟨B, i, none⟩ = some x ∧ w.frozen? ⟨B, i, none⟩ = false ∧ B < w.heap.size) (hb : Below w.heap.size w w') : w'.cell? ⟨B, i, none⟩ = some x ∧ w'.frozen? ⟨B, i, none⟩ = false ∧ B < w'.heap.size :=
  ⟨(hb.cell (p := ⟨B, i, none⟩) h.2.2).trans h.1, (hb.frozen (p := ⟨B, i, none⟩) h.2.2).trans h.2.1, Nat.lt_of_lt_of_le h.2.2 hb.size⟩

structure KF (V B J : Nat) (x : Value) (w : World) : Prop where
  v : w.cell? ⟨V, 0, none⟩ = some (.pointer (some ⟨B, 0, none⟩))
  b0 : w.cell? ⟨B, 0, none⟩ = some (.pointer (some ⟨J, 0, none⟩))
  b4 : w.cell? ⟨B, 4, none⟩ = some x
  f4 : w.frozen? ⟨B, 4, none⟩ = false
  lv : V < w.heap.size
  lb : B < w.heap.size
theorem KF.keep {V B J : Nat} {x : Value} {w w' : World} (h : KF V B J x w) (hb : Below w.heap.size w w') : KF V B J x w' :=
  ⟨(hb.cell (p := ⟨V, 0, none⟩) h.lv).trans h.v, (hb.cell (p := ⟨B, 0, none⟩) h.lb).trans h.b0, (hb.cell (p := ⟨B, 4, none⟩) h.lb).trans h.b4, (hb.frozen (p := ⟨B, 4, none⟩) h.lb).trans h.f4, Nat.lt_of_lt_of_le h.lv hb.size, Nat.lt_of_lt_of_le h.lb hb.size⟩
theorem KF.stored {V B J : Nat} {x : Value} {w : World} (h : KF V B J x w) (y : Value) : (w.setCell ⟨B, 4, none⟩ y).cell? ⟨V, 0, none⟩ = some (.pointer (some ⟨B, 0, none⟩)) ∧ (w.setCell ⟨B, 4, none⟩ y).cell? ⟨B, 0, none⟩ = some (.pointer (some ⟨J, 0, none⟩)) :=
  ⟨(World.cell?_setCell_other _ _ _ _ (by simp)).trans h.v, (World.cell?_setCell_other _ _ _ _ (by simp)).trans h.b0⟩

set_option maxHeartbeats 1000000 in
theorem fill_any (V B J : Nat) (t : Tr) (x : Value) (w : World) (h : KF V B J x w) (ht : IsTr w J t) (hs : t.size ≤ 65536) :
    Calls Try.prog 32 #[.pointer (some ⟨V, 0, none⟩)] w fun e w' => e = .returned (.tuple #[]) ∧ ∃ a cap w1, IsBytes w1 a cap t.bytes ∧ Below w.heap.size w w1 ∧ w' = w1.setCell ⟨B, 4, none⟩ (.slice a t.size cap) := by
  have HT := Lib.hid (ht.below (Below.refl _ _).drew)
  obtain ⟨v, b0, b4, f4, lv, lb⟩ := id h
  have HF := Lib.hid (h.keep (Below.refl _ _).drew)
  clear h ht
  go_enter Try.func32, Try.ntmps32
  go_wp2_with fail
  go_region_held3 (fun w' => w'.cell? ⟨V, 0, none⟩ = some (.pointer (some ⟨B, 0, none⟩)) ∧ w'.cell? ⟨B, 0, none⟩ = some (.pointer (some ⟨J, 0, none⟩)))
    (first | exact ⟨v, b0⟩ | assumption | exact ⟨HF.out.v, HF.out.b0⟩ | exact ⟨HK1.out.v, HK1.out.b0⟩ | exact HK1.out.stored _)
    (first | (go_at_call 25; (with_reducible refine (bytes_any t J _ HT.out hs).mono ?_); rintro e w1 ⟨u, rfl, own, b1⟩; have HK1 := Lib.hid (HF.out.keep b1); have q4 := HK1.out.b4; have qf := HK1.out.f4; obtain ⟨a, cap, rfl, hbb⟩ := bytes_own own (fun b hb => HT.out.lt256 b hb)))
  have hd : Below w.heap.size w w1 := (Below.refl _ w).drew.trans b1
  have H := Lib.hid (And.intro hbb hd)
  clear hbb hd own HK1 b1
  go_end0
  exact ⟨rfl, a, cap, w1, H.out.1, H.out.2, rfl⟩

/-- The rope's bytes are laid. -/
def Laid (w : World) (B J : Nat) (t : Tr) (n : Int) (w' : World) : Prop :=
  ∃ a cap, IsBytes w' a cap t.bytes ∧ blk w' B = some (RopeObj J 1 (.slice a t.bytes.length cap) n) ∧ (∀ k, k < w.heap.size → k ≠ B → blk w' k = blk w k) ∧ (∀ N, N ≤ B → N ≤ w.heap.size → Below N w w')

set_option maxRecDepth 100000 in
set_option maxHeartbeats 1600000 in
theorem slow_any (V B J : Nat) (t : Tr) (n : Int) (w : World) (hB : blk w B = some (RopeObj J 0 (.slice none 0 0) n)) (hV : w.cell? ⟨V, 0, none⟩ = some (.pointer (some ⟨B, 0, none⟩))) (hVl : V < w.heap.size) (ht : IsTr w J t) (hs : t.size ≤ 65536) :
    Calls Try.prog 35 #[.pointer (some ⟨B, 1, none⟩), .func (.func 32) #[] #[.pointer (some ⟨V, 0, none⟩)]] w fun e w' => e = .returned (.tuple #[]) ∧ Laid w B J t n w' := by
  have h0 : w.cell? ⟨B, 1, none⟩ = some (.int .u32 0) := blk_cell hB 1
  have h1 : w.cell? ⟨B, 2, none⟩ = some (.int .i32 0) := blk_cell hB 2
  have f0 : w.frozen? ⟨B, 1, none⟩ = false := blk_frozen hB
  have f1 : w.frozen? ⟨B, 2, none⟩ = false := blk_frozen hB
  have hl : (w.setCell ⟨B, 2, none⟩ (.int .i32 1)).cell? ⟨B, 1, none⟩ = some (.int .u32 0) := (World.cell?_setCell_other _ ⟨B, 2, none⟩ ⟨B, 1, none⟩ _ (by simp)).trans h0
  have hnot : ∀ (x : Bool) (w : World), (Op.unary .not (.bool x)).run Try.prog w = .ok (.bool (!x)) w := fun _ _ => rfl
  have hB1 := blk_set_same (i := 2) hB (.int .i32 1)
  have hz1 : (w.setCell ⟨B, 2, none⟩ (.int .i32 1)).heap.size = w.heap.size := by simp
  have k1 : KF V B J (.slice none 0 0) (w.setCell ⟨B, 2, none⟩ (.int .i32 1)) :=
    ⟨(World.cell?_setCell_other _ _ _ _ (by simp)).trans hV, blk_cell hB1 0, blk_cell hB1 4, blk_frozen hB1, by rw [hz1]; exact hVl, by rw [hz1]; exact blk_lt hB⟩
  have t1 : IsTr (w.setCell ⟨B, 2, none⟩ (.int .i32 1)) J t := kept_tree hB (fun k _ hk => blk_set_other _ hk) (by rw [hz1]; exact Nat.le_refl _) (rope_cells _ _ _ _ _ _ _) t J ht
  have HK := Lib.hid (And.intro k1 t1)
  have HB := Lib.hid hB
  have HB1 := Lib.hid hB1
  clear hB hB1 k1 t1 hV
  go_enter_defers Try.func35, Try.ntmps35
  go_wp2_with (first | (go_at_call 37; refine (lock_free ⟨B, 2, none⟩ _ (by go_simp) (by go_simp)).mono ?_; rintro e w' ⟨rfl, rfl⟩) | (go_at_call 34; refine (done_load ⟨B, 1, none⟩ 0 _ hl).mono ?_; rintro e w' ⟨rfl, rfl⟩))
  refine (fill_any V B J t _ _ HK.out.1 HK.out.2 hs).mono ?_
  rintro e w' ⟨rfl, a, cap, w1, hb1, hd1, rfl⟩
  have hz2 : w.heap.size ≤ w1.heap.size := by rw [← hz1]; exact hd1.size
  have g1 : blk w1 B = some (.cells #[.pointer (some ⟨J, 0, none⟩), .int .u32 0, .int .i32 1, .int .u32 0, .slice none 0 0, .int .i64 n] 71 (0, 0)) := (blk_below hd1 (by rw [hz1]; exact blk_lt HB.out)).trans HB1.out
  have g2 := blk_set_same (i := 4) g1 (.slice a t.size cap)
  have g2d : blk (w1.setCell ⟨B, 4, none⟩ (.slice a t.size cap)).drew B = _ := (blk_drew _ _).trans g2
  have g3 := blk_set_same (i := 1) g2d (.int .u32 1)
  have g4 := blk_set_same (i := 2) g3 (.int .i32 0)
  have a1 := blk_cell g2 1
  have fz1 := blk_frozen (i := 1) g2
  have a2 := blk_cell g3 2
  have fz2 := blk_frozen (i := 2) g3
  have HF : Laid w B J t n ((((w1.setCell ⟨B, 4, none⟩ (.slice a t.size cap)).drew.setCell ⟨B, 1, none⟩ (.int .u32 1)).setCell ⟨B, 2, none⟩ (.int .i32 0))) := by
    refine ⟨a, cap, ?_, g4, fun k hk hkB => ?_, fun N hN hNs => ?_⟩
    · exact kept_bytes g3 (fun k _ hk => blk_set_other _ hk) (by simp) (rope_cells _ _ _ _ _ _ _) _ _ _ (kept_bytes g2d (fun k _ hk => blk_set_other _ hk) (by simp) (rope_cells _ _ _ _ _ _ _) _ _ _ ((kept_bytes g1 (fun k _ hk => blk_set_other _ hk) (by simp) (rope_cells _ _ _ _ _ _ _) _ _ _ hb1).below (Below.refl _ _).drew))
    · rw [blk_set_other _ hkB, blk_set_other _ hkB, blk_drew, blk_set_other _ hkB, blk_below hd1 (by rw [hz1]; exact hk), blk_set_other _ hkB]
    · exact (((((Below.refl N w).setCell (p := ⟨B, 2, none⟩) hN _).trans (hd1.mono (by rw [hz1]; exact hNs))).setCell (p := ⟨B, 4, none⟩) hN _).drew.setCell (p := ⟨B, 1, none⟩) hN _).setCell (p := ⟨B, 2, none⟩) hN _
  have HL := Lib.hid HF
  clear HF g1 g2 g2d g3 g4 hb1 hd1 HK HB HB1
  go_wp2
  refine leaves_cons (f := 39) (args := #[.pointer (some ⟨B, 1, none⟩), .bool true]) (by simp) (by simp [go_sem]) ?_
  refine (store_deferred ⟨B, 1, none⟩ (.int .u32 0) .returning _ a1 fz1).mono ?_
  rintro e u' w'' ⟨rfl, rfl, rfl⟩
  refine leaves_cons (f := 38) (args := #[.pointer (some ⟨B, 2, none⟩)]) (by simp [settle]) (by simp [go_sem]) ?_
  refine (unlock_deferred ⟨B, 2, none⟩ _ _ a2 fz2).mono ?_
  rintro e u' w'' ⟨rfl, rfl, rfl⟩
  simpa [Leaves, settle, results, Try.results35] using HL.out

theorem do_first (V B J : Nat) (t : Tr) (n : Int) (w : World) (hB : blk w B = some (RopeObj J 0 (.slice none 0 0) n)) (hV : w.cell? ⟨V, 0, none⟩ = some (.pointer (some ⟨B, 0, none⟩))) (hVl : V < w.heap.size) (ht : IsTr w J t) (hs : t.size ≤ 65536) :
    Calls Try.prog 31 #[.pointer (some ⟨B, 1, none⟩), .func (.func 32) #[] #[.pointer (some ⟨V, 0, none⟩)]] w fun e w' => e = .returned (.tuple #[]) ∧ Laid w B J t n w' := by
  have h0 : w.cell? ⟨B, 1, none⟩ = some (.int .u32 0) := blk_cell hB 1
  have hnot : ∀ (x : Bool) (w : World), (Op.unary .not (.bool x)).run Try.prog w = .ok (.bool (!x)) w := fun _ _ => rfl
  go_enter Try.func31, Try.ntmps31
  go_wp2_with (first | (go_at_call 35; refine (slow_any V B J t n _ hB hV hVl ht hs).mono ?_; rintro e w' ⟨rfl, hL⟩) | (go_at_call 34; refine (done_load ⟨B, 1, none⟩ 0 _ h0).mono ?_; rintro e w' ⟨rfl, rfl⟩))
  go_end0
  exact ⟨rfl, hL⟩
theorem do_done (a : Addr) (fv : Value) (w : World) (h0 : w.cell? a = some (.int .u32 1)) (B : Nat) (ha : a = ⟨B, 1, none⟩) :
    Calls Try.prog 31 #[.pointer (some a), fv] w fun e w' => e = .returned (.tuple #[]) ∧ w' = w := by
  subst ha
  have hnot : ∀ (x : Bool) (w : World), (Op.unary .not (.bool x)).run Try.prog w = .ok (.bool (!x)) w := fun _ _ => rfl
  go_enter Try.func31, Try.ntmps31
  go_wp2_with (go_at_call 34; refine (done_load ⟨B, 1, none⟩ 1 _ h0).mono ?_; rintro e w' ⟨rfl, rfl⟩)
  go_end0
  exact ⟨rfl, rfl⟩

theorem IsBytes.uniq {w : World} {a : Option Addr} {cap cap' : Nat} {bs bs' : List Nat} (h : IsBytes w a cap bs) (h' : IsBytes w a cap' bs') (hl : bs.length = bs'.length) : bs = bs' := by
  cases a with
  | none =>
    have h0 := h.nil rfl
    have h1 := h.le
    have e : bs = [] := List.eq_nil_of_length_eq_zero (by omega)
    have e' : bs' = [] := List.eq_nil_of_length_eq_zero (by omega)
    rw [e, e']
  | some p =>
    refine List.ext_getElem hl fun i hi hi' => ?_
    have q := (h.at_ p rfl).2.1 i hi
    have q' := (h'.at_ p rfl).2.1 i hi'
    have := q.symm.trans q'
    simp at this
    omega
theorem IsTr.uniq {w : World} : ∀ {t t' : Tr} {B : Nat}, IsTr w B t → IsTr w B t' → t.bytes = t'.bytes := by
  intro t
  induction t with
  | leaf bs =>
    intro t' B ⟨a, cap, h1, h2⟩ h'
    cases t' with
    | leaf bs' =>
      obtain ⟨a', cap', h1', h2'⟩ := h'
      have he := h1.symm.trans h1'
      simp at he
      obtain ⟨⟨e1, e2, e3⟩, _⟩ := he
      subst e1
      exact h2.uniq h2' e2
    | node l r =>
      obtain ⟨L, R, h1', _⟩ := h'
      have he := h1.symm.trans h1'
      simp at he
  | node l r il ir =>
    intro t' B ⟨L, R, h1, h2, h3, _⟩ h'
    cases t' with
    | leaf bs' =>
      obtain ⟨a', cap', h1', h2'⟩ := h'
      have he := h1.symm.trans h1'
      simp at he
    | node l' r' =>
      obtain ⟨L', R', h1', h2', h3', _⟩ := h'
      have he := h1.symm.trans h1'
      simp at he
      obtain ⟨e1, e2, _⟩ := he
      subst e1 e2
      show l.bytes ++ r.bytes = l'.bytes ++ r'.bytes
      rw [il h2 h2', ir h3 h3']

set_option maxHeartbeats 1000000 in
/-- The method 'bytes': the rope's bytes; what is known stays known. -/
theorem method_any (N B : Nat) (bs : List Nat) (w : World) (h : IsRope w B bs) (hN : N ≤ B) :
    Calls Try.prog 27 #[.pointer (some ⟨B, 0, none⟩)] w fun e w' => ∃ v, e = .returned v ∧ Reads w' v bs ∧ Kept N w w' := by
  have hmf : ∀ (fn : Fn) (first cap : Array Value) (w : World), (Instr.makeFunc fn first cap).run Try.prog w = .ok (.func fn first cap) w := fun _ _ _ _ => rfl
  have hlt := h.lt
  have hNs : N ≤ w.heap.size := by omega
  generalize hw1 : w.alloc (.cells #[.pointer (some ⟨B, 0, none⟩)] 24) = w1
  have hd1 : Below w.heap.size w w1 := by rw [← hw1]; exact below_new _ _
  have hk1 : Kept N w w1 := Kept.of hd1 hNs
  have hV : w1.cell? ⟨w.heap.size, 0, none⟩ = some (.pointer (some ⟨B, 0, none⟩)) := by rw [← hw1]; simp
  have hVl : w.heap.size < w1.heap.size := by rw [← hw1]; simp
  obtain ⟨J, t, d, all, n, h1, h2, h3, h4, h5, h6⟩ := hk1.rope _ _ h
  have hts : t.size ≤ 65536 := by unfold Tr.size; rw [h3]; omega
  have c5 : w1.cell? ⟨B, 5, none⟩ = some (.int .i64 n) := blk_cell h1 5
  have f5 : w1.frozen? ⟨B, 5, none⟩ = false := blk_frozen h1
  have hsl : ∃ a n cap, all = .slice a n cap := by
    rcases h6 with ⟨_, e⟩ | ⟨_, a, cap, e, _⟩
    · exact ⟨_, _, _, e⟩
    · exact ⟨_, _, _, e⟩
  have hset : ∀ s : Int, blk (w1.setCell ⟨B, 5, none⟩ (.int .i64 s)) B = some (RopeObj J d all s) := fun s => blk_set_same h1 _
  have hk2 : ∀ s : Int, Kept N w1 (w1.setCell ⟨B, 5, none⟩ (.int .i64 s)) := fun s =>
    Kept.step h1 (fun k _ hk => blk_set_other _ hk) (hset s) hsl ((Below.refl _ _).setCell (p := ⟨B, 5, none⟩) hN _) (fun t' ht' => by
      rcases h6 with ⟨e, e2⟩ | ⟨e, _⟩
      · exact .inl ⟨e, e2⟩
      · exact .inr ⟨e, .inl ⟨e, rfl⟩⟩)
  have hV2 : ∀ s : Int, (w1.setCell ⟨B, 5, none⟩ (.int .i64 s)).cell? ⟨w.heap.size, 0, none⟩ = some (.pointer (some ⟨B, 0, none⟩)) := fun s => (World.cell?_setCell_other _ _ _ _ (by simp)).trans hV
  have hK := Lib.hid (And.intro hk1 hk2)
  rcases h6 with ⟨rfl, rfl⟩ | ⟨rfl, hr⟩
  · have hT := Lib.hid (And.intro h2 h3)
    have hS := Lib.hid hset
    have hs1 : ∀ s : Int, w.heap.size < (w1.setCell ⟨B, 5, none⟩ (.int .i64 s)).heap.size := fun s => by simpa using hVl
    clear h h1 h2 h3 h4 h5 hk1 hk2 hsl hset hd1
    go_enter Try.func27, Try.ntmps27
    go_wp2_with (go_at_call 30; refine (add_any _ n _ (by assumption) (by assumption)).mono ?_; rintro e w2 ⟨s, rfl, rfl⟩)
    refine (do_first w.heap.size B J t s _ (hS.out s) (hV2 s) (hs1 s) ((hK.out.2 s).tr _ _ hT.out.1) hts).mono ?_
    rintro e w3 ⟨rfl, a, cap, hb3, g3, ho3, hd3⟩
    have hV3 : w3.cell? ⟨w.heap.size, 0, none⟩ = some (.pointer (some ⟨B, 0, none⟩)) := (World.cell?_of_block (w := w1.setCell ⟨B, 5, none⟩ (.int .i64 s)) (a := ⟨w.heap.size, 0, none⟩) (ho3 w.heap.size (hs1 s) (by omega))).trans (hV2 s)
    have c4 : w3.cell? ⟨B, 4, none⟩ = some (.slice a t.bytes.length cap) := blk_cell g3 4
    have hk3 : Kept N w w3 := (hK.out.1.trans (hK.out.2 s)).trans (Kept.step (hS.out s) ho3 g3 ⟨_, _, _, rfl⟩ (hd3 N hN (Nat.le_of_lt (Nat.lt_of_le_of_lt hNs (hs1 s)))) (fun t' ht' => .inr ⟨rfl, .inr ⟨a, cap, by rw [ht'.uniq ((hK.out.2 s).tr _ _ hT.out.1)], by rw [ht'.uniq ((hK.out.2 s).tr _ _ hT.out.1)]; exact hb3⟩⟩))
    have H := Lib.hid (And.intro hb3 hk3)
    clear hb3 g3 ho3 hd3 hk3
    go_wp2
    go_ret
    exact ⟨.slice a t.bytes.length cap, rfl, ⟨a, cap, by rw [hT.out.2], by rw [← hT.out.2]; exact H.out.1⟩, H.out.2⟩
  · obtain ⟨a, cap, rfl, hb⟩ := hr
    have hS := Lib.hid hset
    have hHB := Lib.hid hb
    clear h h1 h2 h3 h4 h5 hk1 hk2 hsl hset hd1 hb
    go_enter Try.func27, Try.ntmps27
    go_wp2_with (go_at_call 30; refine (add_any _ n _ (by assumption) (by assumption)).mono ?_; rintro e w2 ⟨s, rfl, rfl⟩)
    refine (do_done ⟨B, 1, none⟩ _ _ (blk_cell (hS.out s) 1) B rfl).mono ?_
    rintro e w3 ⟨rfl, rfl⟩
    have hV3 := hV2 s
    have c4 : (w1.setCell ⟨B, 5, none⟩ (.int .i64 s)).cell? ⟨B, 4, none⟩ = some (.slice a bs.length cap) := blk_cell (hS.out s) 4
    go_wp2
    go_ret
    exact ⟨_, rfl, ⟨a, cap, rfl, (hK.out.2 s).byt _ _ _ hHB.out⟩, hK.out.1.trans (hK.out.2 s)⟩

/-- The reasons. -/
def sliceErr (n : Nat) (i j : Int) : Bool := decide (i < 0) || decide (j < i) || decide ((n : Int) < j)

set_option maxHeartbeats 1000000 in
theorem slice_bad (B : Nat) (bs : List Nat) (i j : Int) (w : World) (h : IsRope w B bs) (hij : i < 0 ∨ j < i ∨ (bs.length : Int) < j) :
    Calls Try.prog 15 #[.pointer (some ⟨B, 0, none⟩), .int .i64 i, .int .i64 j] w fun e w' => e = .returned (.tuple #[.slice none 0 0, .int .i64 3]) ∧ w' = w := by
  by_cases h1 : i < 0
  · go_enter Try.func15, Try.ntmps15
    go_wp2
    go_ret2
    exact ⟨rfl, rfl⟩
  · by_cases h2 : j < i
    · go_enter Try.func15, Try.ntmps15
      go_wp2
      go_ret2
      exact ⟨rfl, rfl⟩
    · have h3 : (bs.length : Int) < j := by omega
      go_enter Try.func15, Try.ntmps15
      go_wp2_with (go_at_call 12; refine (len_any B bs _ h).mono ?_; rintro e w' ⟨rfl, rfl⟩)
      go_ret2
      exact ⟨rfl, rfl⟩

theorem clone_len (a : Option Addr) (cap n : Nat) (bs : List Nat) (w : World) (h : IsBytes w a cap bs) (hn : bs.length = n) (hl : n ≤ 140737488351232) :
    Calls Try.prog 26 #[.slice a n cap] w fun e w' => ∃ u, e = .returned u ∧ w'.ownsRow w.heap.size 5 1 u n (u8s bs) ∧ Below w.heap.size w w' := by
  subst hn; exact clone_any a cap bs w h hl

set_option maxHeartbeats 1000000 in
theorem slice_good (N B : Nat) (bs : List Nat) (i j : Nat) (w : World) (h : IsRope w B bs) (hN : N ≤ B) (hij : i ≤ j) (hj : j ≤ bs.length) :
    Calls Try.prog 15 #[.pointer (some ⟨B, 0, none⟩), .int .i64 (i : Int), .int .i64 (j : Int)] w fun e w' => ∃ a cap, e = .returned (.tuple #[.slice a (j - i) cap, .int .i64 0]) ∧ IsBytes w' a cap ((bs.take j).drop i) ∧ Kept N w w' := by
  have h1 : ¬ (i : Int) < 0 := by omega
  have h2 : ¬ (j : Int) < (i : Int) := by omega
  have h3 : ¬ (bs.length : Int) < (j : Int) := by omega
  have HR := Lib.hid h
  have hlen : ((bs.take j).drop i).length = j - i := by rw [List.length_drop, List.length_take]; omega
  have hlt : N ≤ w.heap.size := by have := h.lt; omega
  have hbs : bs.length ≤ 2048 := by obtain ⟨_, _, _, _, _, _, _, _, _, q, _⟩ := h; exact q
  clear h
  go_enter Try.func15, Try.ntmps15
  go_wp2_with (go_at_call 12; refine (len_any B bs _ HR.out).mono ?_; rintro e w' ⟨rfl, rfl⟩)
  refine (method_any N B bs _ HR.out hN).mono ?_
  rintro e w1 ⟨v, rfl, ⟨a, cap, rfl, hb⟩, hk⟩
  have hcp := hb.le
  have hcp1 : (bs.length : Int) ≤ (cap : Int) := by omega
  have hji : (j : Int) ≤ (cap : Int) := by omega
  have hlt1 : ∀ b ∈ (bs.take j).drop i, b < 256 := fun b hbm => hb.lt b (List.mem_of_mem_take (List.mem_of_mem_drop hbm))
  have HL := Lib.hid hlen
  have HLT := Lib.hid hlt1
  have HH := Lib.hid (And.intro hb hk)
  clear hb hk hlen hlt1
  cases a with
  | none =>
    have h0 := HH.out.1.nil rfl
    subst h0
    have ei : i = 0 := by omega
    have ej : j = 0 := by omega
    subst ei ej
    go_wp2_with fail
    refine (clone_len none 0 0 [] _ ⟨Nat.le_refl _, by decide, fun _ => rfl, fun p e => (by cases e), fun b hb => (by cases hb)⟩ rfl (by omega)).mono ?_
    rintro e w2 ⟨u, rfl, own, hb2⟩
    obtain ⟨a2, cap2, rfl, hbb⟩ := bytes_own (bs := []) own (fun b hb => (by cases hb))
    have H2 := Lib.hid (And.intro hbb (HH.out.2.trans (Kept.of hb2 (Nat.le_trans hlt HH.out.2.size))))
    clear own hb2 hbb
    go_wp2_with fail
    go_ret2
    exact ⟨a2, cap2, rfl, by simpa using H2.out.1, H2.out.2⟩
  | some p =>
    have hsp := (HH.out.1.at_ p rfl).1
    obtain ⟨b, off, spot⟩ := p
    have hsp' : spot = none := hsp
    subst hsp'
    by_cases hic : cap = i
    · subst hic
      have ez : (bs.take j).drop cap = [] := List.eq_nil_of_length_eq_zero (by rw [HL.out]; omega)
      have EZ := Lib.hid ez
      have hj0 : j - cap = 0 := by omega
      have hq : IsBytes w1 (some ⟨b, off, none⟩) 0 [] := ⟨Nat.le_refl _, by decide, fun _ => rfl, fun p e => ⟨(HH.out.1.at_ p e).1, fun i hi => absurd hi (by simp), (HH.out.1.at_ p e).2.2⟩, fun b hb => by cases hb⟩
      have HQ := Lib.hid hq
      clear ez hq
      go_wp2_with fail
      refine (clone_len (some ⟨b, off, none⟩) 0 0 [] _ HQ.out rfl (by omega)).mono ?_
      rintro e w2 ⟨u, rfl, own, hb2⟩
      obtain ⟨a2, cap2, rfl, hbb⟩ := bytes_own (bs := []) own (fun b hb => (by cases hb))
      have H2 := Lib.hid (And.intro hbb (HH.out.2.trans (Kept.of hb2 (Nat.le_trans hlt HH.out.2.size))))
      clear own hb2 hbb
      go_wp2_with fail
      go_ret2
      exact ⟨a2, cap2, by rw [hj0]; rfl, by rw [EZ.out]; exact H2.out.1, H2.out.2⟩
    · go_wp2_with fail
      refine (clone_len (some ⟨b, off + i, none⟩) (cap - i) (j - i) ((bs.take j).drop i) _ ((HH.out.1.take j hj).drop i (by rw [List.length_take]; omega)) HL.out (by omega)).mono ?_
      rintro e w2 ⟨u, rfl, own, hb2⟩
      rw [← HL.out] at own
      obtain ⟨a2, cap2, rfl, hbb⟩ := bytes_own own HLT.out
      have H2 := Lib.hid (And.intro hbb (HH.out.2.trans (Kept.of hb2 (Nat.le_trans hlt HH.out.2.size))))
      clear own hb2 hbb
      go_wp2_with fail
      go_ret2
      exact ⟨a2, cap2, rfl, H2.out.1, H2.out.2⟩
end Go.Proofs.Yteaciponojocbaa
