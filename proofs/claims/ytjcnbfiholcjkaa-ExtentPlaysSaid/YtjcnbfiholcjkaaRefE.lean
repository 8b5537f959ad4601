/-
  Places one by one, and the runs that they make (no program in sight). No conditions.
-/
import Derived.Test.YtjcnbfiholcjkaaExtP
namespace Go.Proofs.Ytjcnbfiholcjkaa
set_option linter.unusedSimpArgs false
set_option linter.unusedVariables false

theorem can_hi {lo hi hi' : Nat} {L : List (Nat × Nat)} (h : CanL lo hi L) (g : hi ≤ hi') : CanL lo hi' L := can_hi' h (fun q hq => by have := can_has h hq; omega)
theorem RefIs.zero (f : Nat) (bs : List Bool) : RefIs f bs 0 [] := ⟨trivial, fun q => ⟨fun h => (hasL_nil q h).elim, fun ⟨_, h, _⟩ => by omega⟩⟩
theorem RefIs.skip {f i : Nat} {bs : List Bool} {L : List (Nat × Nat)} (h : RefIs f bs i L) (hb : bs.getD i false = false) : RefIs f bs (i + 1) L := by
  refine ⟨can_hi h.1 (by omega), fun q => ?_⟩
  rw [h.2]
  constructor
  · rintro ⟨a, b, c⟩; exact ⟨a, by omega, c⟩
  · rintro ⟨a, b, c⟩
    refine ⟨a, ?_, c⟩
    rcases Nat.lt_or_ge q (f + i) with g | g
    · exact g
    · obtain rfl : q = f + i := by omega
      rw [Nat.add_sub_cancel_left, hb] at c; cases c
theorem RefIs.new {f i : Nat} {bs : List Bool} {L : List (Nat × Nat)} (h : RefIs f bs i L) (hb : bs.getD i false = true) (hp : i = 0 ∨ bs.getD (i - 1) false = false) : RefIs f bs (i + 1) (L ++ [(f + i, 1)]) := by
  refine ⟨can_mk (hi0 := f + i) (lo0 := 0) h.1 (fun q hq => ?_) trivial (fun q hq => (hasL_nil q hq).elim) (by omega) (by omega) (by omega), fun q => ?_⟩
  · have h1 := can_has h.1 hq
    have h2 := (h.2 q).1 hq
    rcases Nat.lt_or_ge (q + 1) (f + i) with g | g
    · exact g
    · obtain ⟨j, rfl⟩ : ∃ j, i = j + 1 := ⟨i - 1, by omega⟩
      obtain rfl : q = f + j := by omega
      rw [Nat.add_sub_cancel_left] at h2
      rcases hp with hp | hp
      · omega
      · rw [Nat.add_sub_cancel, h2.2.2] at hp; cases hp
  · rw [hasL_app, hasL_cons, h.2]
    constructor
    · rintro (⟨a, b, c⟩ | ⟨a, b⟩ | a)
      · exact ⟨a, by omega, c⟩
      · simp only [] at a b
        obtain rfl : q = f + i := by omega
        exact ⟨by omega, by omega, by rw [Nat.add_sub_cancel_left]; exact hb⟩
      · exact (hasL_nil q a).elim
    · rintro ⟨a, b, c⟩
      rcases Nat.lt_or_ge q (f + i) with g | g
      · exact .inl ⟨a, g, c⟩
      · exact .inr (.inl ⟨by simp only []; omega, by simp only []; omega⟩)
theorem RefIs.grow {f i : Nat} {bs : List Bool} {L : List (Nat × Nat)} (h : RefIs f bs i L) (hb : bs.getD i false = true) (h0 : 0 < i) (hp : bs.getD (i - 1) false = true) :
    ∃ A a m, L = A ++ [(a, m)] ∧ a + m = f + i ∧ RefIs f bs (i + 1) (A ++ [(a, m + 1)]) := by
  have hq : hasL L (f + i - 1) := (h.2 _).2 ⟨by omega, by omega, by rw [show f + i - 1 - f = i - 1 by omega]; exact hp⟩
  rcases List.eq_nil_or_concat L with rfl | ⟨A, x, rfl⟩
  · exact (hasL_nil _ hq).elim
  · obtain ⟨a, m⟩ := x
    obtain ⟨c1, c2, c3, c4, c5⟩ := can_app.1 (by simpa using h.1)
    simp only [] at c1 c2 c3 c4 c5
    have hs : a + m = f + i := by
      rw [List.concat_eq_append, hasL_app, hasL_cons] at hq
      rcases hq with q | ⟨q1, q2⟩ | q
      · have := can_has c1 q; omega
      · simp only [] at q1 q2; omega
      · exact (hasL_nil _ q).elim
    refine ⟨A, a, m, by simp, hs, can_app.2 ⟨c1, c2, by simp only []; omega, by simp only []; omega, trivial⟩, fun q => ?_⟩
    have hh := h.2 q
    rw [List.concat_eq_append, hasL_app, hasL_cons] at hh
    rw [hasL_app, hasL_cons]
    simp only [] at hh ⊢
    constructor
    · rintro (a1 | ⟨a1, a2⟩ | a1)
      · have := hh.1 (.inl a1); exact ⟨this.1, by omega, this.2.2⟩
      · rcases Nat.lt_or_ge q (f + i) with g | g
        · have := hh.1 (.inr (.inl ⟨a1, by omega⟩)); exact ⟨this.1, by omega, this.2.2⟩
        · obtain rfl : q = f + i := by omega
          exact ⟨by omega, by omega, by rw [Nat.add_sub_cancel_left]; exact hb⟩
      · exact (hasL_nil q a1).elim
    · rintro ⟨a1, a2, a3⟩
      rcases Nat.lt_or_ge q (f + i) with g | g
      · rcases hh.2 ⟨a1, g, a3⟩ with r | ⟨r1, r2⟩ | r
        · exact .inl r
        · exact .inr (.inl ⟨r1, by omega⟩)
        · exact (hasL_nil q r).elim
      · exact .inr (.inl ⟨by omega, by omega⟩)
/-- How many of the first i are free. -/
def cntB (bs : List Bool) : Nat → Nat
  | 0 => 0
  | i + 1 => cntB bs i + (if bs.getD i false then 1 else 0)
theorem cntB_le (bs : List Bool) : ∀ i, cntB bs i ≤ i
  | 0 => Nat.le_refl _
  | i + 1 => by
    unfold cntB
    have := cntB_le bs i
    split <;> omega
theorem RefIs.build (f : Nat) (bs : List Bool) : ∀ i, ∃ L, RefIs f bs i L ∧ sumL L = cntB bs i
  | 0 => ⟨[], RefIs.zero f bs, rfl⟩
  | i + 1 => by
    obtain ⟨L, h, hs⟩ := RefIs.build f bs i
    unfold cntB
    cases hb : bs.getD i false with
    | false => exact ⟨L, h.skip hb, by simpa using hs⟩
    | true =>
      by_cases hp : i = 0 ∨ bs.getD (i - 1) false = false
      · exact ⟨_, h.new hb hp, by rw [sumL_app, hs]; simp [sumL]⟩
      · have h0 : 0 < i := by omega
        have hp' : bs.getD (i - 1) false = true := by
          cases hc : bs.getD (i - 1) false with
          | true => rfl
          | false => exact (hp (.inr hc)).elim
        obtain ⟨A, a, m, rfl, _, g⟩ := h.grow hb h0 hp'
        refine ⟨_, g, ?_⟩
        rw [sumL_app, sumL_cons] at hs ⊢
        simp only [if_true] at hs ⊢
        omega
theorem RefIs.cnt {f i : Nat} {bs : List Bool} {L : List (Nat × Nat)} (h : RefIs f bs i L) : sumL L = cntB bs i := by
  obtain ⟨M, g, e⟩ := RefIs.build f bs i
  rw [h.same g, e]
/-- So many places from one on are so. -/
def setR (bs : List Bool) (o : Nat) (b : Bool) : Nat → List Bool
  | 0 => bs
  | k + 1 => (setR bs o b k).set (o + k) b
theorem setR_len (bs : List Bool) (o : Nat) (b : Bool) : ∀ k, (setR bs o b k).length = bs.length
  | 0 => rfl
  | k + 1 => by unfold setR; rw [List.length_set, setR_len bs o b k]
theorem setR_get (bs : List Bool) (o : Nat) (b : Bool) (i : Nat) : ∀ k, o + k ≤ bs.length → (setR bs o b k).getD i false = if o ≤ i ∧ i < o + k then b else bs.getD i false
  | 0, _ => by rw [if_neg (by omega)]; rfl
  | k + 1, h => by
    have ih := setR_get bs o b i k (by omega)
    have hl := setR_len bs o b k
    unfold setR
    rw [List.getD_eq_getElem?_getD, List.getElem?_set]
    by_cases e : o + k = i
    · rw [if_pos e, if_pos (by omega), if_pos (by omega)]
      simp
    · rw [if_neg e, ← List.getD_eq_getElem?_getD, ih]
      by_cases c : o ≤ i ∧ i < o + k
      · rw [if_pos c, if_pos (by omega)]
      · rw [if_neg c, if_neg (by omega)]
theorem RefIs.take {f p n a : Nat} {bs : List Bool} {L M : List (Nat × Nat)} (h : RefIs f bs p L) (hl : bs.length = p) (hn : 1 ≤ n) (ht : takeL n L = some (a, M)) : f ≤ a ∧ a + n ≤ f + p ∧ RefIs f (setR bs (a - f) false n) p M := by
  obtain ⟨g1, g2, _, g4, g5, _, _⟩ := takeL_can hn h.1 ht
  refine ⟨g4, g5, g1, fun q => ?_⟩
  rw [g2, h.2, setR_get bs (a - f) false (q - f) n (by omega)]
  constructor
  · rintro ⟨⟨a1, a2, a3⟩, a4⟩
    exact ⟨a1, a2, by rw [if_neg (by omega)]; exact a3⟩
  · rintro ⟨a1, a2, a3⟩
    by_cases c : a - f ≤ q - f ∧ q - f < a - f + n
    · rw [if_pos c] at a3; cases a3
    · rw [if_neg c] at a3
      exact ⟨⟨a1, a2, a3⟩, by omega⟩
theorem RefIs.give {f p n a : Nat} {bs : List Bool} {L : List (Nat × Nat)} (h : RefIs f bs p L) (hl : bs.length = p) (hn : 1 ≤ n) (h1 : f ≤ a) (h2 : a + n ≤ f + p) (hf : ∀ k, k < n → bs.getD (a - f + k) false = false) :
    RefIs f (setR bs (a - f) true n) p (giveL a n L) ∧ ∀ q, a ≤ q → q < a + n → ¬ hasL L q := by
  have hf' : ∀ q, a ≤ q → q < a + n → ¬ hasL L q := fun q q1 q2 hq => by
    have := ((h.2 q).1 hq).2.2
    have g := hf (q - a) (by omega)
    rw [show a - f + (q - a) = q - f by omega, this] at g
    cases g
  obtain ⟨g1, g2, _⟩ := give_can h.1 hn h1 h2 hf'
  refine ⟨⟨g1, fun q => ?_⟩, hf'⟩
  rw [g2, h.2, setR_get bs (a - f) true (q - f) n (by omega)]
  constructor
  · rintro (⟨a1, a2, a3⟩ | ⟨a1, a2⟩)
    · refine ⟨a1, a2, ?_⟩
      split
      · rfl
      · exact a3
    · exact ⟨by omega, by omega, by rw [if_pos (by omega)]⟩
  · rintro ⟨a1, a2, a3⟩
    by_cases c : a - f ≤ q - f ∧ q - f < a - f + n
    · exact .inr (by omega)
    · rw [if_neg c] at a3
      exact .inl ⟨a1, a2, a3⟩
theorem getD_rep (n i : Nat) : (List.replicate n true).getD i false = decide (i < n) := by
  rw [List.getD_eq_getElem?_getD, List.getElem?_replicate]
  by_cases c : i < n
  · simp [c]
  · simp [c]
theorem RefIs.fresh (f p : Nat) : RefIs f (List.replicate p true) p (if p = 0 then [] else [(f, p)]) := by
  by_cases c : p = 0
  · subst c; exact RefIs.zero _ _
  · rw [if_neg c]
    refine ⟨⟨Nat.le_refl _, by simp only []; omega, Nat.le_refl _, trivial⟩, fun q => ?_⟩
    rw [hasL_cons, getD_rep]
    simp only []
    constructor
    · rintro (⟨a, b⟩ | a)
      · exact ⟨a, b, by simp; omega⟩
      · exact (hasL_nil q a).elim
    · rintro ⟨a, b, _⟩; exact .inl ⟨a, b⟩
end Go.Proofs.Ytjcnbfiholcjkaa
