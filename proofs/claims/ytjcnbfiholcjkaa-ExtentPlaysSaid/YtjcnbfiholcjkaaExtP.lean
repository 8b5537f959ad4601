/-
  Free runs that rise, with gaps between: what taking and giving back makes of them (no program in sight). No conditions.
-/
namespace Go.Proofs.Ytjcnbfiholcjkaa
set_option linter.unusedSimpArgs false
set_option linter.unusedVariables false

/-- Runs rise from lo on, with gaps between, and end by hi. -/
def CanL : Nat → Nat → List (Nat × Nat) → Prop
  | _, _, [] => True
  | lo, hi, x :: l => lo ≤ x.1 ∧ 1 ≤ x.2 ∧ x.1 + x.2 ≤ hi ∧ CanL (x.1 + x.2 + 1) hi l
theorem can_cons {lo hi : Nat} {x : Nat × Nat} {l : List (Nat × Nat)} : CanL lo hi (x :: l) ↔ lo ≤ x.1 ∧ 1 ≤ x.2 ∧ x.1 + x.2 ≤ hi ∧ CanL (x.1 + x.2 + 1) hi l := Iff.rfl
/-- Is a place in one of them? -/
def hasL (L : List (Nat × Nat)) (q : Nat) : Prop := ∃ x ∈ L, x.1 ≤ q ∧ q < x.1 + x.2
def sumL (L : List (Nat × Nat)) : Nat := (L.map (fun x => x.2)).sum
theorem hasL_nil (q : Nat) : ¬ hasL [] q := by rintro ⟨x, hx, _⟩; cases hx
theorem hasL_cons (x : Nat × Nat) (l : List (Nat × Nat)) (q : Nat) : hasL (x :: l) q ↔ (x.1 ≤ q ∧ q < x.1 + x.2) ∨ hasL l q := by
  constructor
  · rintro ⟨y, hy, h⟩
    rcases List.mem_cons.1 hy with rfl | hy
    · exact .inl h
    · exact .inr ⟨y, hy, h⟩
  · rintro (h | ⟨y, hy, h⟩)
    · exact ⟨x, List.mem_cons_self .., h⟩
    · exact ⟨y, List.mem_cons_of_mem _ hy, h⟩
theorem hasL_app (A B : List (Nat × Nat)) (q : Nat) : hasL (A ++ B) q ↔ hasL A q ∨ hasL B q := by
  induction A with
  | nil => simp [hasL_nil]
  | cons x A ih => rw [List.cons_append, hasL_cons, hasL_cons, ih, or_assoc]
theorem can_lo {lo lo' hi : Nat} : ∀ {L : List (Nat × Nat)}, CanL lo hi L → lo' ≤ lo → CanL lo' hi L
  | [], _, _ => trivial
  | x :: l, h, g => ⟨Nat.le_trans g h.1, h.2⟩
theorem can_has : ∀ {L : List (Nat × Nat)} {lo hi q : Nat}, CanL lo hi L → hasL L q → lo ≤ q ∧ q < hi
  | [], _, _, _, _, h => (hasL_nil _ h).elim
  | x :: l, lo, hi, q, ⟨h1, h2, h3, h4⟩, h => by
    rcases (hasL_cons x l q).1 h with h | h
    · omega
    · have := can_has h4 h; omega
theorem can_ext : ∀ {L M : List (Nat × Nat)} {lo hi lo' hi' : Nat}, CanL lo hi L → CanL lo' hi' M → (∀ q, hasL L q ↔ hasL M q) → L = M
  | [], [], _, _, _, _, _, _, _ => rfl
  | [], y :: M, _, _, _, _, _, g, h => ((hasL_nil y.1) ((h y.1).2 ((hasL_cons _ _ _).2 (.inl ⟨Nat.le_refl _, by have := g.2.1; omega⟩)))).elim
  | y :: M, [], _, _, _, _, g, _, h => ((hasL_nil y.1) ((h y.1).1 ((hasL_cons _ _ _).2 (.inl ⟨Nat.le_refl _, by have := g.2.1; omega⟩)))).elim
  | x :: L, y :: M, lo, hi, lo', hi', ⟨a1, a2, a3, a4⟩, ⟨b1, b2, b3, b4⟩, h => by
    have hx : ∀ q, ((x.1 ≤ q ∧ q < x.1 + x.2) ∨ hasL L q) ↔ ((y.1 ≤ q ∧ q < y.1 + y.2) ∨ hasL M q) := fun q => by rw [← hasL_cons, ← hasL_cons]; exact h q
    have e1 : x.1 = y.1 := by
      have p := (hx x.1).1 (.inl ⟨Nat.le_refl _, by omega⟩)
      have q := (hx y.1).2 (.inl ⟨Nat.le_refl _, by omega⟩)
      have p' : y.1 ≤ x.1 := by
        rcases p with p | p
        · exact p.1
        · have := can_has b4 p; omega
      have q' : x.1 ≤ y.1 := by
        rcases q with q | q
        · exact q.1
        · have := can_has a4 q; omega
      omega
    have e2 : x.2 = y.2 := by
      rcases Nat.lt_trichotomy x.2 y.2 with c | c | c
      · have p := (hx (x.1 + x.2)).2 (.inl ⟨by omega, by omega⟩)
        rcases p with p | p
        · omega
        · have := can_has a4 p; omega
      · exact c
      · have p := (hx (y.1 + y.2)).1 (.inl ⟨by omega, by omega⟩)
        rcases p with p | p
        · omega
        · have := can_has b4 p; omega
    have e : x = y := Prod.ext e1 e2
    subst e
    congr 1
    refine can_ext a4 b4 fun q => ⟨fun p => ?_, fun p => ?_⟩
    · have := can_has a4 p
      rcases (hx q).1 (.inr p) with r | r
      · omega
      · exact r
    · have := can_has b4 p
      rcases (hx q).2 (.inr p) with r | r
      · omega
      · exact r
theorem can_app {x : Nat × Nat} {B : List (Nat × Nat)} {hi : Nat} : ∀ {A : List (Nat × Nat)} {lo : Nat}, CanL lo hi (A ++ x :: B) ↔ CanL lo (x.1 - 1) A ∧ lo ≤ x.1 ∧ 1 ≤ x.2 ∧ x.1 + x.2 ≤ hi ∧ CanL (x.1 + x.2 + 1) hi B
  | [], lo => by simp [CanL]
  | y :: A, lo => by
    rw [List.cons_append, can_cons, can_cons, can_app (A := A)]
    constructor
    · rintro ⟨h1, h2, h3, h4, h5, h6, h7, h8⟩
      exact ⟨⟨h1, h2, by omega, h4⟩, by omega, h6, h7, h8⟩
    · rintro ⟨⟨h1, h2, h3, h4⟩, h5, h6, h7, h8⟩
      exact ⟨h1, h2, by omega, h4, by omega, h6, h7, h8⟩
theorem can_left {hi : Nat} {B : List (Nat × Nat)} : ∀ {A : List (Nat × Nat)} {lo : Nat}, CanL lo hi (A ++ B) → CanL lo hi A
  | [], _, _ => trivial
  | x :: A, lo, ⟨h1, h2, h3, h4⟩ => ⟨h1, h2, h3, can_left h4⟩
theorem can_right {hi : Nat} {B : List (Nat × Nat)} : ∀ {A : List (Nat × Nat)} {lo : Nat}, CanL lo hi (A ++ B) → CanL lo hi B
  | [], _, h => h
  | x :: A, lo, ⟨h1, h2, h3, h4⟩ => can_lo (can_right h4) (by omega)
theorem can_hi' {hi h' : Nat} : ∀ {A : List (Nat × Nat)} {lo : Nat}, CanL lo hi A → (∀ q, hasL A q → q < h') → CanL lo h' A
  | [], _, _, _ => trivial
  | x :: A, lo, ⟨h1, h2, h3, h4⟩, g => by
    have := g (x.1 + x.2 - 1) ((hasL_cons _ _ _).2 (.inl ⟨by omega, by omega⟩))
    exact ⟨h1, h2, by omega, can_hi' h4 (fun q hq => g q ((hasL_cons _ _ _).2 (.inr hq)))⟩
theorem can_lo' {lo lo' hi : Nat} {B : List (Nat × Nat)} (h : CanL lo hi B) (g : ∀ q, hasL B q → lo' ≤ q) : CanL lo' hi B := by
  cases B with
  | nil => trivial
  | cons x B =>
    obtain ⟨h1, h2, h3, h4⟩ := h
    exact ⟨g x.1 ((hasL_cons _ _ _).2 (.inl ⟨Nat.le_refl _, by omega⟩)), h2, h3, h4⟩
theorem can_mk {lo hi hi0 lo0 a n : Nat} {A B : List (Nat × Nat)} (hA : CanL lo hi0 A) (gA : ∀ q, hasL A q → q + 1 < a) (hB : CanL lo0 hi B) (gB : ∀ q, hasL B q → a + n < q) (h1 : lo ≤ a) (h2 : 1 ≤ n) (h3 : a + n ≤ hi) : CanL lo hi (A ++ (a, n) :: B) :=
  can_app.2 ⟨can_hi' hA (fun q hq => by have := gA q hq; simp only []; omega), h1, h2, h3, can_lo' hB (fun q hq => gB q hq)⟩
theorem can_len : ∀ {L : List (Nat × Nat)} {lo hi : Nat}, CanL lo hi L → L = [] ∨ lo + L.length ≤ hi
  | [], _, _, _ => .inl rfl
  | x :: l, lo, hi, ⟨h1, h2, h3, h4⟩ => by
    right
    rcases can_len h4 with rfl | h
    · simp; omega
    · simp; omega
theorem can_len' {L : List (Nat × Nat)} {lo hi : Nat} (h : CanL lo hi L) : L.length ≤ hi := by
  rcases can_len h with rfl | h
  · simp
  · omega
theorem can_mem : ∀ {L : List (Nat × Nat)} {lo hi : Nat}, CanL lo hi L → ∀ x ∈ L, lo ≤ x.1 ∧ 1 ≤ x.2 ∧ x.1 + x.2 ≤ hi
  | [], _, _, _, _, hx => by cases hx
  | y :: l, lo, hi, ⟨h1, h2, h3, h4⟩, x, hx => by
    rcases List.mem_cons.1 hx with rfl | hx
    · exact ⟨h1, h2, h3⟩
    · have := can_mem h4 x hx; omega
theorem sumL_cons (x : Nat × Nat) (l : List (Nat × Nat)) : sumL (x :: l) = x.2 + sumL l := by simp [sumL]
theorem sumL_app (A B : List (Nat × Nat)) : sumL (A ++ B) = sumL A + sumL B := by simp [sumL]
theorem can_sum : ∀ {L : List (Nat × Nat)} {lo hi : Nat}, CanL lo hi L → lo ≤ hi → lo + sumL L ≤ hi
  | [], _, _, _, h => by simpa [sumL] using h
  | x :: l, lo, hi, ⟨h1, h2, h3, h4⟩, h => by
    rw [sumL_cons]
    rcases Nat.lt_or_ge hi (x.1 + x.2 + 1) with c | c
    · cases l with
      | nil => simp [sumL]; omega
      | cons y l => have := h4.1; have := h4.2.2.1; omega
    · have := can_sum h4 c; omega

/-- What a take makes of the runs: where it lies, and the runs behind it. -/
def takeL (n : Nat) : List (Nat × Nat) → Option (Nat × List (Nat × Nat))
  | [] => none
  | x :: l => if n ≤ x.2 then some (x.1, if x.2 = n then l else (x.1 + n, x.2 - n) :: l) else (takeL n l).map (fun r => (r.1, x :: r.2))
theorem takeL_none {n : Nat} : ∀ {L : List (Nat × Nat)}, (∀ x ∈ L, ¬ n ≤ x.2) → takeL n L = none
  | [], _ => rfl
  | x :: l, h => by
    unfold takeL
    rw [if_neg (h x (List.mem_cons_self ..)), takeL_none (fun y hy => h y (List.mem_cons_of_mem _ hy))]
    rfl
theorem takeL_some {n : Nat} : ∀ {L : List (Nat × Nat)} (k : Nat) (hk : k < L.length), n ≤ L[k].2 → (∀ j (hj : j < k), ¬ n ≤ (L[j]'(by omega)).2) →
    takeL n L = some (L[k].1, if L[k].2 = n then L.eraseIdx k else L.set k (L[k].1 + n, L[k].2 - n))
  | [], k, hk, _, _ => by simp at hk
  | x :: l, 0, hk, h, _ => by
    unfold takeL
    simp at h
    simp [h]
  | x :: l, k + 1, hk, h, g => by
    unfold takeL
    have g0 : ¬ n ≤ x.2 := g 0 (by omega)
    rw [if_neg g0, takeL_some k (by simpa using hk) (by simpa using h) (fun j hj => by have := g (j + 1) (by omega); simpa using this)]
    simp
    split <;> rfl
theorem takeL_can {n : Nat} (hn : 1 ≤ n) : ∀ {L : List (Nat × Nat)} {lo hi a : Nat} {M : List (Nat × Nat)}, CanL lo hi L → takeL n L = some (a, M) →
    CanL lo hi M ∧ (∀ q, hasL M q ↔ hasL L q ∧ ¬ (a ≤ q ∧ q < a + n)) ∧ sumL M + n = sumL L ∧ lo ≤ a ∧ a + n ≤ hi ∧ (∀ q, a ≤ q → q < a + n → hasL L q) ∧ (∃ x ∈ L, x.1 = a ∧ n ≤ x.2)
  | [], _, _, _, _, _, h => by simp [takeL] at h
  | x :: l, lo, hi, a, M, ⟨h1, h2, h3, h4⟩, h => by
    unfold takeL at h
    by_cases c : n ≤ x.2
    · rw [if_pos c] at h
      simp at h
      obtain ⟨rfl, rfl⟩ := h
      have hq : ∀ q, hasL l q → x.1 + x.2 + 1 ≤ q := fun q hq => (can_has h4 hq).1
      by_cases e : x.2 = n
      · rw [if_pos e]
        refine ⟨can_lo h4 (by omega), fun q => ?_, by rw [sumL_cons]; omega, h1, by omega, fun q q1 q2 => (hasL_cons _ _ _).2 (.inl ⟨q1, by omega⟩), ⟨x, List.mem_cons_self .., rfl, c⟩⟩
        rw [hasL_cons]
        constructor
        · intro p
          have := hq q p
          exact ⟨.inr p, by omega⟩
        · rintro ⟨p | p, g⟩
          · omega
          · exact p
      · rw [if_neg e]
        refine ⟨⟨by simp only []; omega, by simp only []; omega, by simp only []; omega, can_lo h4 (by simp only []; omega)⟩, fun q => ?_, by rw [sumL_cons, sumL_cons]; simp only []; omega, h1, by omega, fun q q1 q2 => (hasL_cons _ _ _).2 (.inl ⟨q1, by omega⟩), ⟨x, List.mem_cons_self .., rfl, c⟩⟩
        rw [hasL_cons, hasL_cons]
        simp only []
        constructor
        · rintro (p | p)
          · exact ⟨.inl ⟨by omega, by omega⟩, by omega⟩
          · have := hq q p
            exact ⟨.inr p, by omega⟩
        · rintro ⟨p | p, g⟩
          · exact .inl ⟨by omega, by omega⟩
          · exact .inr p
    · rw [if_neg c] at h
      cases ht : takeL n l with
      | none => rw [ht] at h; simp at h
      | some r =>
        obtain ⟨a', M'⟩ := r
        rw [ht] at h
        simp at h
        obtain ⟨rfl, rfl⟩ := h
        obtain ⟨g1, g2, g3, g4, g5, g6, ⟨y, y1, y2, y3⟩⟩ := takeL_can hn h4 ht
        refine ⟨⟨h1, h2, h3, g1⟩, fun q => ?_, by rw [sumL_cons, sumL_cons]; omega, by omega, g5, fun q q1 q2 => (hasL_cons _ _ _).2 (.inr (g6 q q1 q2)), ⟨y, List.mem_cons_of_mem _ y1, y2, y3⟩⟩
        rw [hasL_cons, hasL_cons, g2]
        constructor
        · rintro (p | p)
          · exact ⟨.inl p, by omega⟩
          · exact ⟨.inr p.1, p.2⟩
        · rintro ⟨p | p, g⟩
          · exact .inl p
          · exact .inr ⟨p, g⟩

/-- Two neighbours, made one if nothing lies between. -/
def joinL (k : Nat) (L : List (Nat × Nat)) : List (Nat × Nat) := match L.drop k with
  | x :: y :: r => if x.1 + x.2 = y.1 then L.take k ++ (x.1, x.2 + y.2) :: r else L
  | _ => L
theorem joinL_at (A : List (Nat × Nat)) (x y : Nat × Nat) (r : List (Nat × Nat)) : joinL A.length (A ++ x :: y :: r) = if x.1 + x.2 = y.1 then A ++ (x.1, x.2 + y.2) :: r else A ++ x :: y :: r := by
  unfold joinL
  rw [List.drop_left, List.take_left]
theorem joinL_end (A : List (Nat × Nat)) (x : Nat × Nat) : joinL A.length (A ++ [x]) = A ++ [x] := by
  unfold joinL
  rw [List.drop_left]
/-- The join of a place that may be -1. -/
def joinI (k : Int) (L : List (Nat × Nat)) : List (Nat × Nat) := if k < 0 then L else joinL k.toNat L
/-- Where a run is to be laid. -/
def placeL (a : Nat) (L : List (Nat × Nat)) : Nat := (L.findIdx? (fun x => decide (a < x.1))).getD L.length
def insL (a n : Nat) (L : List (Nat × Nat)) : List (Nat × Nat) := L.take (placeL a L) ++ (a, n) :: L.drop (placeL a L)
def giveL (a n : Nat) (L : List (Nat × Nat)) : List (Nat × Nat) := joinI ((placeL a L : Int) - 1) (joinI (placeL a L) (insL a n L))
theorem placeL_split (a : Nat) (L : List (Nat × Nat)) : placeL a L ≤ L.length ∧ (∀ x ∈ L.take (placeL a L), x.1 ≤ a) ∧ (∀ y r, L.drop (placeL a L) = y :: r → a < y.1) := by
  unfold placeL
  cases h : L.findIdx? (fun x => decide (a < x.1)) with
  | none =>
    rw [List.findIdx?_eq_none_iff] at h
    refine ⟨Nat.le_refl _, fun x hx => ?_, fun y r e => by simp at e⟩
    have := h x (List.mem_of_mem_take hx)
    simpa using this
  | some k =>
    rw [List.findIdx?_eq_some_iff_getElem] at h
    obtain ⟨hk, h1, h2⟩ := h
    refine ⟨by simp; omega, fun x hx => ?_, fun y r e => ?_⟩
    · obtain ⟨j, hj, rfl⟩ := List.mem_iff_getElem.1 hx
      simp at hj ⊢
      have := h2 j (by omega)
      simpa using this
    · simp at e
      rw [List.drop_eq_getElem_cons hk] at e
      injection e with e _
      rw [← e]
      simpa using h1
theorem give_form {lo hi a n : Nat} {A B : List (Nat × Nat)} (hc : CanL lo hi (A ++ B)) (hA : ∀ x ∈ A, x.1 ≤ a) (hB : ∀ y r, B = y :: r → a < y.1) (hn : 1 ≤ n) (h1 : lo ≤ a) (h2 : a + n ≤ hi) (hf : ∀ q, a ≤ q → q < a + n → ¬ hasL (A ++ B) q) (D : List (Nat × Nat))
    (hD : D = joinI ((A.length : Int) - 1) (joinI A.length (A ++ (a, n) :: B))) : CanL lo hi D ∧ (∀ q, hasL D q ↔ hasL (A ++ B) q ∨ (a ≤ q ∧ q < a + n)) ∧ sumL D = sumL (A ++ B) + n := by
  have hAq : ∀ q, hasL A q → q < a := by
    rintro q ⟨x, hx, g1, g2⟩
    have := hA x hx
    have m := can_mem hc x (List.mem_append_left _ hx)
    rcases Nat.lt_or_ge (x.1 + x.2) (a + 1) with c | c
    · omega
    · exact (hf a (Nat.le_refl _) (by omega) ⟨x, List.mem_append_left _ hx, this, by omega⟩).elim
  have hBq : ∀ q, hasL B q → a + n ≤ q := by
    intro q hq
    cases hBe : B with
    | nil => rw [hBe] at hq; exact (hasL_nil _ hq).elim
    | cons y r =>
      have c1 := hB y r hBe
      rw [hBe] at hc hq hf
      have c2 : a + n ≤ y.1 := by
        rcases Nat.lt_or_ge y.1 (a + n) with c | c
        · have m := can_mem hc y (List.mem_append_right _ (List.mem_cons_self ..))
          exact (hf y.1 (by omega) c ⟨y, List.mem_append_right _ (List.mem_cons_self ..), Nat.le_refl _, by omega⟩).elim
        · exact c
      have m := can_right hc
      rcases (hasL_cons _ _ _).1 hq with p | p
      · omega
      · have := (can_has m.2.2.2 p).1; omega
  -- behind the first join
  obtain ⟨n1, B1, e1, b1, b2, b3, b4, b5, b6, b7⟩ : ∃ n1 B1, joinI A.length (A ++ (a, n) :: B) = A ++ (a, n1) :: B1 ∧ n ≤ n1 ∧ (∃ lo0, CanL lo0 hi B1) ∧ (∀ q, hasL B1 q → a + n1 < q) ∧ a + n1 ≤ hi ∧ (∀ q, (a ≤ q ∧ q < a + n1) ∨ hasL B1 q ↔ (a ≤ q ∧ q < a + n) ∨ hasL B q) ∧ n1 + sumL B1 = n + sumL B ∧ (∀ q, hasL B1 q → hasL B q) := by
    unfold joinI
    rw [if_neg (by omega), Int.toNat_natCast]
    cases hBe : B with
    | nil =>
      exact ⟨n, [], joinL_end A _, Nat.le_refl _, ⟨0, trivial⟩, fun q hq => (hasL_nil _ hq).elim, h2, fun q => Iff.rfl, rfl, fun q h => h⟩
    | cons y r =>
      rw [joinL_at]
      rw [hBe] at hc hBq
      have m := can_right hc
      have c2 := hBq y.1 ((hasL_cons _ _ _).2 (.inl ⟨Nat.le_refl _, by have := m.2.1; omega⟩))
      simp only []
      by_cases c : a + n = y.1
      · rw [if_pos c]
        refine ⟨n + y.2, r, rfl, by omega, ⟨_, m.2.2.2⟩, fun q hq => by have := (can_has m.2.2.2 hq).1; omega, by have := m.2.2.1; omega, fun q => ?_, by rw [sumL_cons]; omega, fun q h => (hasL_cons _ _ _).2 (.inr h)⟩
        rw [hasL_cons]
        constructor
        · rintro (p | p)
          · rcases Nat.lt_or_ge q (a + n) with d | d
            · exact .inl ⟨p.1, d⟩
            · exact .inr (.inl ⟨by omega, by omega⟩)
          · exact .inr (.inr p)
        · rintro (p | p | p)
          · exact .inl ⟨by omega, by omega⟩
          · exact .inl ⟨by omega, by omega⟩
          · exact .inr p
      · rw [if_neg c]
        refine ⟨n, y :: r, rfl, Nat.le_refl _, ⟨_, m⟩, fun q hq => ?_, h2, fun q => Iff.rfl, rfl, fun q h => h⟩
        rcases (hasL_cons _ _ _).1 hq with p | p
        · omega
        · have := (can_has m.2.2.2 p).1; omega
  rw [e1] at hD
  obtain ⟨lo0, b2⟩ := b2
  rcases List.eq_nil_or_concat A with rfl | ⟨A', z, rfl⟩
  · have : D = [] ++ (a, n1) :: B1 := by rw [hD]; unfold joinI; rw [if_pos (by simp)]
    rw [this]
    refine ⟨can_mk (A := []) (hi0 := 0) trivial (fun q hq => (hasL_nil _ hq).elim) b2 b3 h1 (by omega) b4, fun q => ?_, ?_⟩
    · rw [hasL_app, hasL_cons, hasL_app]
      have := b5 q
      simp only [hasL_nil, false_or]
      rw [this]
      exact or_comm
    · rw [sumL_app, sumL_cons, sumL_app]
      simp only []
      omega
  · rw [List.concat_eq_append] at *
    have hcA := can_left hc
    have hcz := can_app.1 hcA
    have hzq : ∀ q, hasL A' q → q + 1 < z.1 := fun q hq => by have := can_has hcz.1 hq; omega
    have hza : z.1 + z.2 ≤ a := by
      have := hAq (z.1 + z.2 - 1) ((hasL_app _ _ _).2 (.inr ((hasL_cons _ _ _).2 (.inl ⟨by omega, by omega⟩))))
      omega
    have hj : D = if z.1 + z.2 = a then A' ++ (z.1, z.2 + n1) :: B1 else A' ++ z :: (a, n1) :: B1 := by
      rw [hD]
      unfold joinI
      rw [if_neg (by simp), show (((A' ++ [z]).length : Int) - 1).toNat = A'.length by simp]
      rw [show A' ++ [z] ++ (a, n1) :: B1 = A' ++ z :: (a, n1) :: B1 by simp, joinL_at]
    by_cases c : z.1 + z.2 = a
    · rw [if_pos c] at hj
      rw [hj]
      refine ⟨can_mk hcz.1 hzq b2 (fun q hq => by have := b3 q hq; omega) hcz.2.1 (by omega) (by omega), fun q => ?_, ?_⟩
      · rw [hasL_app, hasL_cons, hasL_app, hasL_app, hasL_cons]
        simp only [hasL_nil, or_false]
        constructor
        · rintro (p | p | p)
          · exact .inl (.inl (.inl p))
          · rcases Nat.lt_or_ge q a with d | d
            · exact .inl (.inl (.inr ⟨p.1, by omega⟩))
            · rcases (b5 q).1 (.inl ⟨d, by omega⟩) with r | r
              · exact .inr r
              · exact .inl (.inr r)
          · rcases (b5 q).1 (.inr p) with r | r
            · exact .inr r
            · exact .inl (.inr r)
        · rintro (((p | p) | p) | p)
          · exact .inl p
          · exact .inr (.inl ⟨p.1, by omega⟩)
          · rcases (b5 q).2 (.inr p) with r | r
            · exact .inr (.inl ⟨by omega, by omega⟩)
            · exact .inr (.inr r)
          · rcases (b5 q).2 (.inl p) with r | r
            · exact .inr (.inl ⟨by omega, by omega⟩)
            · exact .inr (.inr r)
      · rw [sumL_app, sumL_cons, sumL_app, sumL_app, sumL_cons]
        simp [sumL] at b6 ⊢
        omega
    · rw [if_neg c] at hj
      have hj' : D = (A' ++ [z]) ++ (a, n1) :: B1 := by rw [hj]; simp
      rw [hj']
      refine ⟨can_mk hcA (fun q hq => ?_) b2 b3 h1 (by omega) b4, fun q => ?_, ?_⟩
      · rcases (hasL_app _ _ _).1 hq with p | p
        · have := hzq q p; omega
        · rcases (hasL_cons _ _ _).1 p with p | p
          · omega
          · exact (hasL_nil _ p).elim
      · rw [hasL_app, hasL_cons, hasL_app _ B]
        simp only []
        rw [b5 q]
        constructor
        · rintro (p | p | p)
          · exact .inl (.inl p)
          · exact .inr p
          · exact .inl (.inr p)
        · rintro ((p | p) | p)
          · exact .inl p
          · exact .inr (.inr p)
          · exact .inr (.inl p)
      · rw [sumL_app, sumL_cons, sumL_app _ B]
        simp only []
        omega
theorem give_can {lo hi a n : Nat} {L : List (Nat × Nat)} (hc : CanL lo hi L) (hn : 1 ≤ n) (h1 : lo ≤ a) (h2 : a + n ≤ hi) (hf : ∀ q, a ≤ q → q < a + n → ¬ hasL L q) :
    CanL lo hi (giveL a n L) ∧ (∀ q, hasL (giveL a n L) q ↔ hasL L q ∨ (a ≤ q ∧ q < a + n)) ∧ sumL (giveL a n L) = sumL L + n := by
  obtain ⟨p1, p2, p3⟩ := placeL_split a L
  have e : L = L.take (placeL a L) ++ L.drop (placeL a L) := (List.take_append_drop _ _).symm
  have hl : (L.take (placeL a L)).length = placeL a L := by rw [List.length_take]; omega
  have := give_form (D := giveL a n L) (A := L.take (placeL a L)) (B := L.drop (placeL a L)) (by rw [← e]; exact hc) p2 p3 hn h1 h2 (by rw [← e]; exact hf) (by rw [hl]; rfl)
  rw [← e] at this
  exact this
/-- The runs of free places. -/
def RefIs (f : Nat) (bs : List Bool) (i : Nat) (L : List (Nat × Nat)) : Prop := CanL f (f + i) L ∧ ∀ q, hasL L q ↔ (f ≤ q ∧ q < f + i ∧ bs.getD (q - f) false = true)
theorem RefIs.same {f : Nat} {bs : List Bool} {i : Nat} {L M : List (Nat × Nat)} (h : RefIs f bs i L) (g : RefIs f bs i M) : L = M := can_ext h.1 g.1 (fun q => (h.2 q).trans (g.2 q).symm)
end Go.Proofs.Ytjcnbfiholcjkaa
