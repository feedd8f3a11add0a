/- Plain mathematics of groups and edges: rows as whole numbers with bits; which group the edges lead to; no Go and no memory in it. -/
namespace Go.Proofs.Ytkhillpjoklfgaa.Mat

/-- Is y tighter than x? -/
def T (N : Nat → Nat) (x y : Nat) : Bool := (N x).testBit y

/-- The rows behind an edge. -/
def edN (N : Nat → Nat) (g h x : Nat) : Nat := if x = g ∨ T N x g = true then N x ||| (N h ||| 2 ^ h) else N x

theorem T_edN (N : Nat → Nat) (g h x y : Nat) : T (edN N g h) x y = true ↔ T N x y = true ∨ ((x = g ∨ T N x g = true) ∧ (y = h ∨ T N h y = true)) := by
  show ((edN N g h x).testBit y = true) ↔ _
  unfold edN
  by_cases c : x = g ∨ T N x g = true
  · rw [if_pos c, Nat.testBit_or, Nat.testBit_or, Nat.testBit_two_pow]
    simp only [Bool.or_eq_true, decide_eq_true_eq]
    constructor
    · rintro (a | b | b)
      · exact .inl a
      · exact .inr ⟨c, .inr b⟩
      · exact .inr ⟨c, .inl b.symm⟩
    · rintro (a | ⟨_, b | b⟩)
      · exact .inl a
      · exact .inr (.inr b.symm)
      · exact .inr (.inl b)
  · rw [if_neg c]
    constructor
    · exact .inl
    · rintro (a | ⟨b, _⟩)
      · exact a
      · exact absurd b c

/-- Rows that may be: bits of groups 1 to 9 alone; nothing comes round; what is tighter than what is tighter is so. -/
structure Good (N : Nat → Nat) : Prop where
  lt : ∀ x, N x < 1024
  lo : ∀ x y, T N x y = true → (1 ≤ x ∧ x < 10) ∧ (1 ≤ y ∧ y < 10)
  ir : ∀ x, ¬ T N x x = true
  tr : ∀ x y z, T N x y = true → T N y z = true → T N x z = true

theorem or_lt {a b : Nat} (ha : a < 1024) (hb : b < 1024) : a ||| b < 1024 := Nat.or_lt_two_pow (n := 10) ha hb
theorem pow_lt {h : Nat} (hh : h < 10) : 2 ^ h < 1024 := Nat.pow_lt_pow_right (by decide) (show h < 10 from hh)

theorem Good.edge {N : Nat → Nat} (G : Good N) {g h : Nat} (hg : 1 ≤ g ∧ g < 10) (hh : 1 ≤ h ∧ h < 10) (hne : g ≠ h) (hn : ¬ T N h g = true) : Good (edN N g h) where
  lt x := by
    unfold edN
    split
    · exact or_lt (G.lt x) (or_lt (G.lt h) (pow_lt hh.2))
    · exact G.lt x
  lo x y t := by
    rcases (T_edN N g h x y).1 t with a | ⟨a, b⟩
    · exact G.lo x y a
    · refine ⟨?_, ?_⟩
      · rcases a with rfl | a
        · exact hg
        · exact (G.lo _ _ a).1
      · rcases b with rfl | b
        · exact hh
        · exact (G.lo _ _ b).2
  ir x t := by
    rcases (T_edN N g h x x).1 t with a | ⟨a, b⟩
    · exact G.ir x a
    · rcases a with rfl | a
      · rcases b with b | b
        · exact hne b
        · exact hn b
      · rcases b with rfl | b
        · exact hn a
        · exact hn (G.tr _ _ _ b a)
  tr x y z t u := by
    rw [T_edN] at t u ⊢
    rcases t with t | ⟨a, b⟩
    · rcases u with u | ⟨c, d⟩
      · exact .inl (G.tr _ _ _ t u)
      · refine .inr ⟨.inr ?_, d⟩
        rcases c with rfl | c
        · exact t
        · exact G.tr _ _ _ t c
    · rcases u with u | ⟨c, d⟩
      · refine .inr ⟨a, .inr ?_⟩
        rcases b with rfl | b
        · exact u
        · exact G.tr _ _ _ b u
      · exact .inr ⟨a, d⟩

/-- The ladder. -/
def startN : Nat → Nat := fun x => if 1 ≤ x ∧ x ≤ 5 then 2 ^ x - 2 else 0
theorem T_start_fin : ∀ x y : Fin 10, T startN x.val y.val = decide (1 ≤ x.val ∧ x.val ≤ 5 ∧ 1 ≤ y.val ∧ y.val < x.val) := by decide +kernel
theorem start_lt : ∀ x, startN x < 1024 := by
  intro x
  by_cases h : 1 ≤ x ∧ x ≤ 5
  · have : ∀ x : Fin 6, startN x.val < 1024 := by decide +kernel
    exact this ⟨x, by omega⟩
  · unfold startN; rw [if_neg h]; decide
theorem T_lt {N : Nat → Nat} (hl : ∀ x, N x < 1024) {x y : Nat} (t : T N x y = true) : y < 10 := by
  rcases Nat.lt_or_ge y 10 with h | h
  · exact h
  · have : (N x).testBit y = false := Nat.testBit_lt_two_pow (Nat.lt_of_lt_of_le (hl x) (Nat.pow_le_pow_right (n := 2) (by decide) h))
    unfold T at t
    rw [this] at t
    exact absurd t (by simp)
theorem T_start (x y : Nat) : T startN x y = true ↔ 1 ≤ x ∧ x ≤ 5 ∧ 1 ≤ y ∧ y < x := by
  by_cases hx : x < 10
  · by_cases hy : y < 10
    · have := T_start_fin ⟨x, hx⟩ ⟨y, hy⟩
      simp only at this
      rw [this, decide_eq_true_iff]
    · constructor
      · intro t; exact absurd (T_lt start_lt t) hy
      · intro h; omega
  · constructor
    · intro t
      unfold T startN at t
      rw [if_neg (by omega)] at t
      simp at t
    · intro h; omega
theorem Good.start : Good startN where
  lt := start_lt
  lo x y t := by rw [T_start] at t; omega
  ir x t := by rw [T_start] at t; omega
  tr x y z t u := by rw [T_start] at t u ⊢; omega

/-- Rows that are alike in all bits are the same. -/
theorem Good.ext {N M : Nat → Nat} (h : ∀ x y, T N x y = true ↔ T M x y = true) (x : Nat) : N x = M x := by
  apply Nat.eq_of_testBit_eq
  intro y
  rw [Bool.eq_iff_iff]
  exact h x y

/-- One edge laid: the rows, and the edges that were not refused. -/
def step (s : (Nat → Nat) × List (Nat × Nat)) (e : Nat × Nat) : (Nat → Nat) × List (Nat × Nat) :=
  if e.1 = e.2 ∨ T s.1 e.2 e.1 = true then s else (edN s.1 e.1 e.2, s.2 ++ [e])
def lay (l : List (Nat × Nat)) : (Nat → Nat) × List (Nat × Nat) := l.foldl step (startN, [])

/-- Rows that come of laying edges, none of which is refused. -/
inductive Laid : (Nat → Nat) → List (Nat × Nat) → Prop
  | nil : Laid startN []
  | snoc {N : Nat → Nat} {es : List (Nat × Nat)} {g h : Nat} : Laid N es → (1 ≤ g ∧ g < 10) → (1 ≤ h ∧ h < 10) → g ≠ h → ¬ T N h g = true → Laid (edN N g h) (es ++ [(g, h)])

theorem Laid.good {N : Nat → Nat} {es : List (Nat × Nat)} (L : Laid N es) : Good N := by
  induction L with
  | nil => exact Good.start
  | snoc _ hg hh hne hn ih => exact ih.edge hg hh hne hn

theorem Laid.range {N : Nat → Nat} {es : List (Nat × Nat)} (L : Laid N es) : ∀ e ∈ es, (1 ≤ e.1 ∧ e.1 < 10) ∧ (1 ≤ e.2 ∧ e.2 < 10) := by
  induction L with
  | nil => intro e he; cases he
  | snoc _ hg hh _ _ ih =>
    intro e he
    rcases List.mem_append.1 he with he | he
    · exact ih e he
    · rw [List.mem_singleton] at he; subst he; exact ⟨hg, hh⟩

theorem step_laid {s : (Nat → Nat) × List (Nat × Nat)} (L : Laid s.1 s.2) (e : Nat × Nat) (h1 : 1 ≤ e.1 ∧ e.1 < 10) (h2 : 1 ≤ e.2 ∧ e.2 < 10) : Laid (step s e).1 (step s e).2 := by
  unfold step
  split
  · exact L
  · rename_i c
    exact .snoc L h1 h2 (fun q => c (.inl q)) (fun q => c (.inr q))

theorem foldl_laid (l : List (Nat × Nat)) (hl : ∀ e ∈ l, (1 ≤ e.1 ∧ e.1 < 10) ∧ (1 ≤ e.2 ∧ e.2 < 10)) : ∀ s : (Nat → Nat) × List (Nat × Nat), Laid s.1 s.2 → Laid (l.foldl step s).1 (l.foldl step s).2 := by
  induction l with
  | nil => intro s L; exact L
  | cons e l ih =>
    intro s L
    exact ih (fun x hx => hl x (List.mem_cons_of_mem _ hx)) _ (step_laid L e (hl e (List.mem_cons_self)).1 (hl e (List.mem_cons_self)).2)
theorem lay_laid (l : List (Nat × Nat)) (hl : ∀ e ∈ l, (1 ≤ e.1 ∧ e.1 < 10) ∧ (1 ≤ e.2 ∧ e.2 < 10)) : Laid (lay l).1 (lay l).2 := foldl_laid l hl _ .nil

/-- An edge that was laid holds; what held holds. -/
theorem mono_edN (N : Nat → Nat) (g h x y : Nat) (t : T N x y = true) : T (edN N g h) x y = true := (T_edN N g h x y).2 (.inl t)
theorem Laid.holds {N : Nat → Nat} {es : List (Nat × Nat)} (L : Laid N es) : ∀ e ∈ es, T N e.1 e.2 = true := by
  induction L with
  | nil => intro e he; cases he
  | snoc _ _ _ _ _ ih =>
    intro e he
    rcases List.mem_append.1 he with he | he
    · exact mono_edN _ _ _ _ _ (ih e he)
    · rw [List.mem_singleton] at he; subst he
      exact (T_edN _ _ _ _ _).2 (.inr ⟨.inl rfl, .inl rfl⟩)
theorem Laid.ladder {N : Nat → Nat} {es : List (Nat × Nat)} (L : Laid N es) (x y : Nat) (h : 1 ≤ x ∧ x ≤ 5 ∧ 1 ≤ y ∧ y < x) : T N x y = true := by
  induction L with
  | nil => exact (T_start x y).2 h
  | snoc _ _ _ _ _ ih => exact mono_edN _ _ _ _ _ ih

/-- Whatever is closed under the ladder and the edges is closed under what is tighter. -/
theorem Laid.least {N : Nat → Nat} {es : List (Nat × Nat)} (L : Laid N es) (P : Nat → Prop) (hl : ∀ x y, 1 ≤ x ∧ x ≤ 5 ∧ 1 ≤ y ∧ y < x → P x → P y) (he : ∀ e ∈ es, P e.1 → P e.2) : ∀ x y, T N x y = true → P x → P y := by
  induction L with
  | nil => intro x y t; exact hl x y ((T_start x y).1 t)
  | @snoc N es g h _ _ _ _ _ ih =>
    have ih' := ih (fun e q => he e (List.mem_append_left _ q))
    intro x y t px
    rcases (T_edN N g h x y).1 t with a | ⟨a, b⟩
    · exact ih' x y a px
    · have pg : P g := by
        rcases a with rfl | a
        · exact px
        · exact ih' _ _ a px
      have ph : P h := he (g, h) (List.mem_append_right _ (List.mem_singleton.2 rfl)) pg
      rcases b with rfl | b
      · exact ph
      · exact ih' _ _ b ph

/-! ### Which group the ladder and the edges lead to, by rounds -/

/-- One pair: the second group is seen, if the first one is. -/
def relax (S : Nat → Bool) (p : Nat × Nat) : Nat → Bool := fun x => if x = p.2 then S p.2 || S p.1 else S x
def round (ps : List (Nat × Nat)) (S : Nat → Bool) : Nat → Bool := ps.foldl relax S
def rounds (ps : List (Nat × Nat)) : Nat → (Nat → Bool) → (Nat → Bool)
  | 0, S => S
  | n + 1, S => round ps (rounds ps n S)
def seed (g : Nat) : Nat → Bool := fun x => decide (x = g)

theorem relax_ge (S : Nat → Bool) (p : Nat × Nat) (x : Nat) (h : S x = true) : relax S p x = true := by
  unfold relax
  split
  · rename_i e; subst e; rw [h]; rfl
  · exact h
theorem round_ge (ps : List (Nat × Nat)) : ∀ (S : Nat → Bool) (x : Nat), S x = true → round ps S x = true := by
  induction ps with
  | nil => intro S x h; exact h
  | cons p ps ih => intro S x h; exact ih _ _ (relax_ge S p x h)
theorem rounds_ge (ps : List (Nat × Nat)) (n : Nat) (S : Nat → Bool) (x : Nat) (h : S x = true) : rounds ps n S x = true := by
  induction n with
  | zero => exact h
  | succ n ih => exact round_ge _ _ _ ih

/-- What is kept by each pair is kept by all rounds. -/
theorem relax_sound (P : Nat → Prop) (S : Nat → Bool) (p : Nat × Nat) (hp : P p.1 → P p.2) (hs : ∀ x, S x = true → P x) : ∀ x, relax S p x = true → P x := by
  intro x h
  unfold relax at h
  split at h
  · rename_i e; subst e
    rw [Bool.or_eq_true] at h
    rcases h with h | h
    · exact hs _ h
    · exact hp (hs _ h)
  · exact hs _ h
theorem round_sound (P : Nat → Prop) (ps : List (Nat × Nat)) : ∀ (S : Nat → Bool), (∀ p ∈ ps, P p.1 → P p.2) → (∀ x, S x = true → P x) → ∀ x, round ps S x = true → P x := by
  induction ps with
  | nil => intro S _ hs; exact hs
  | cons p ps ih => intro S hp hs; exact ih _ (fun q hq => hp q (List.mem_cons_of_mem _ hq)) (relax_sound P S p (hp p List.mem_cons_self) hs)
theorem rounds_sound (P : Nat → Prop) (ps : List (Nat × Nat)) (n : Nat) (S : Nat → Bool) (hp : ∀ p ∈ ps, P p.1 → P p.2) (hs : ∀ x, S x = true → P x) : ∀ x, rounds ps n S x = true → P x := by
  induction n with
  | zero => exact hs
  | succ n ih => exact round_sound P ps _ hp ih

/-- A round that brings nothing new leaves what is closed. -/
theorem round_closed (ps : List (Nat × Nat)) : ∀ (S : Nat → Bool), (∀ x, round ps S x = true → S x = true) → ∀ p ∈ ps, S p.1 = true → S p.2 = true := by
  induction ps with
  | nil => intro S _ p hp; cases hp
  | cons q ps ih =>
    intro S h p hp h1
    rcases List.mem_cons.1 hp with rfl | hp
    · refine h _ (round_ge ps _ _ ?_)
      unfold relax
      rw [if_pos rfl, h1, Bool.or_true]
    · have e : ∀ x, relax S q x = true → S x = true := fun x hx => h x (round_ge ps _ _ hx)
      have := ih (relax S q) (fun x hx => relax_ge S q x (h x hx)) p hp (relax_ge S q _ h1)
      exact e _ this

/-- How many are seen, of ten. -/
def count (S : Nat → Bool) : Nat := (List.range 10).countP fun x => S x
theorem count_le (S : Nat → Bool) : count S ≤ 10 := by
  have := List.countP_le_length (p := fun x => S x) (l := List.range 10)
  simpa [count] using this
theorem countP_lt {l : List Nat} {p q : Nat → Bool} (h : ∀ x ∈ l, p x = true → q x = true) (hx : ∃ x ∈ l, q x = true ∧ ¬ p x = true) : l.countP p < l.countP q := by
  induction l with
  | nil => obtain ⟨x, hx, _⟩ := hx; cases hx
  | cons a l ih =>
    have hle : l.countP p ≤ l.countP q := List.countP_mono_left (fun x hx => h x (List.mem_cons_of_mem _ hx))
    rw [List.countP_cons, List.countP_cons]
    obtain ⟨x, hm, h1, h2⟩ := hx
    rcases List.mem_cons.1 hm with rfl | hm
    · rw [if_pos h1, if_neg h2]; omega
    · have := ih (fun x hx => h x (List.mem_cons_of_mem _ hx)) ⟨x, hm, h1, h2⟩
      by_cases ha : p a = true
      · rw [if_pos ha, if_pos (h a List.mem_cons_self ha)]; omega
      · rw [if_neg ha]; split <;> omega

/-- Behind n rounds either nothing new comes, or n + 1 are seen. -/
theorem rounds_grow (ps : List (Nat × Nat)) (S : Nat → Bool) (h0 : 0 < count S) (hr : ∀ p ∈ ps, p.2 < 10) : ∀ n, (∀ x, round ps (rounds ps n S) x = true → rounds ps n S x = true) ∨ n < count (rounds ps n S) := by
  intro n
  induction n with
  | zero => exact .inr h0
  | succ n ih =>
    by_cases c : ∀ x, round ps (rounds ps (n + 1) S) x = true → rounds ps (n + 1) S x = true
    · exact .inl c
    · refine .inr ?_
      rcases ih with ih | ih
      · exfalso
        apply c
        have e : rounds ps (n + 1) S = rounds ps n S := by
          funext x
          rw [Bool.eq_iff_iff]
          exact ⟨ih x, round_ge _ _ _⟩
        rw [e]; exact ih
      · -- something new came at this round, else nothing would come at the next one
        have hm : ∀ x ∈ List.range 10, rounds ps n S x = true → rounds ps (n + 1) S x = true := fun x _ h => round_ge _ _ _ h
        have hx : ∃ x ∈ List.range 10, rounds ps (n + 1) S x = true ∧ ¬ rounds ps n S x = true := by
          refine Classical.byContradiction fun no => c ?_
          have old : ∀ x, x < 10 → rounds ps (n + 1) S x = true → rounds ps n S x = true := fun x hx h => by
            refine Classical.byContradiction fun q => no ⟨x, List.mem_range.2 hx, h, q⟩
          have far : ∀ x, ¬ x < 10 → rounds ps (n + 1) S x = true → rounds ps n S x = true := fun x hx h => by
            have : ∀ (qs : List (Nat × Nat)) (R : Nat → Bool), (∀ p ∈ qs, p.2 < 10) → round qs R x = R x := by
              intro qs
              induction qs with
              | nil => intro R _; rfl
              | cons q qs ih =>
                intro R hq
                show round qs (relax R q) x = R x
                rw [ih _ (fun p hp => hq p (List.mem_cons_of_mem _ hp))]
                unfold relax
                rw [if_neg]
                intro e
                have := hq q List.mem_cons_self
                omega
            have e : rounds ps (n + 1) S x = rounds ps n S x := this ps _ hr
            rwa [← e]
          have e : rounds ps (n + 1) S = rounds ps n S := by
            funext x
            rw [Bool.eq_iff_iff]
            refine ⟨fun h => ?_, round_ge _ _ _⟩
            by_cases hx : x < 10
            · exact old x hx h
            · exact far x hx h
          intro x h
          have h' : round ps (rounds ps n S) x = true := by rw [← e]; exact h
          rw [e]
          have : rounds ps (n + 1) S x = true := h'
          rw [← e]; exact this
        have hlt : count (rounds ps n S) < count (rounds ps (n + 1) S) := countP_lt hm hx
        omega

theorem rounds_closed (ps : List (Nat × Nat)) (g : Nat) (hg : g < 10) (hr : ∀ p ∈ ps, p.2 < 10) : ∀ p ∈ ps, rounds ps 10 (seed g) p.1 = true → rounds ps 10 (seed g) p.2 = true := by
  apply round_closed
  have h0 : 0 < count (seed g) := by
    unfold count
    rw [List.countP_pos_iff]
    exact ⟨g, List.mem_range.2 hg, by simp [seed]⟩
  rcases rounds_grow ps (seed g) h0 hr 10 with h | h
  · exact h
  · have := count_le (rounds ps 10 (seed g)); omega

/-- The ladder's pairs, in the order in which they are gone through. -/
def ladderPs : List (Nat × Nat) := (List.range 10).flatMap fun x => (List.range 10).filterMap fun y => if 1 ≤ x ∧ 1 ≤ y ∧ y < x ∧ x ≤ 5 then some (x, y) else none
theorem ladderPs_mem (x y : Nat) : (x, y) ∈ ladderPs ↔ 1 ≤ x ∧ x ≤ 5 ∧ 1 ≤ y ∧ y < x := by
  unfold ladderPs
  simp only [List.mem_flatMap, List.mem_range, List.mem_filterMap, Option.ite_none_right_eq_some, Option.some.injEq, Prod.mk.injEq]
  constructor
  · rintro ⟨a, _, b, _, h, rfl, rfl⟩; omega
  · intro h; exact ⟨x, by omega, y, by omega, by omega, rfl, rfl⟩

def leadsS (es : List (Nat × Nat)) (g h : Nat) : Bool := decide (g ≠ h) && rounds (ladderPs ++ es) 10 (seed g) h

theorem leads_iff {N : Nat → Nat} {es : List (Nat × Nat)} (L : Laid N es) (g h : Nat) (hg : g < 10) : leadsS es g h = true ↔ T N g h = true := by
  unfold leadsS
  rw [Bool.and_eq_true, decide_eq_true_eq]
  have G := L.good
  constructor
  · rintro ⟨hne, hr⟩
    have : h = g ∨ T N g h = true := by
      refine rounds_sound (fun y => y = g ∨ T N g y = true) (ladderPs ++ es) 10 (seed g) ?_ ?_ h hr
      · intro p hp a
        have tp : T N p.1 p.2 = true := by
          rcases List.mem_append.1 hp with hp | hp
          · exact L.ladder _ _ ((ladderPs_mem p.1 p.2).1 hp)
          · exact L.holds p hp
        rcases a with a | a
        · rw [a] at tp; exact .inr tp
        · exact .inr (G.tr _ _ _ a tp)
      · intro x hx; exact .inl (by simpa [seed] using hx)
    rcases this with e | t
    · exact absurd e.symm hne
    · exact t
  · intro t
    refine ⟨fun e => ?_, ?_⟩
    · subst e; exact G.ir _ t
    · have hc := rounds_closed (ladderPs ++ es) g hg (by
        intro p hp
        rcases List.mem_append.1 hp with hp | hp
        · have := (ladderPs_mem p.1 p.2).1 hp; omega
        · exact (L.range p hp).2.2)
      refine L.least (fun y => rounds (ladderPs ++ es) 10 (seed g) y = true) ?_ ?_ g h t (rounds_ge _ _ _ _ (by simp [seed]))
      · intro x y hxy; exact hc (x, y) (List.mem_append_left _ ((ladderPs_mem x y).2 hxy))
      · intro e he; exact hc e (List.mem_append_right _ he)
end Go.Proofs.Ytkhillpjoklfgaa.Mat
