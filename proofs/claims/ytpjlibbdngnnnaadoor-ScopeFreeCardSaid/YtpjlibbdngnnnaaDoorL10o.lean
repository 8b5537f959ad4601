/-
  The law ScopeOrder, walked (layer 10). Conditions: the listed variable errors.errorType.
-/
import Derived.Test.YtpjlibbdngnnnaaDoorL10
import Derived.Test.YtpjlibbdngnnnaaDoorSpO
import Derived.Deep.RegionHeld3
namespace Go.Proofs.YtpjlibbdngnnnaaDoor
set_option linter.unusedSimpArgs false
set_option linter.unusedVariables false
open Go.RowKit

/-- Cells of so many elements, from one on. -/
def flatB (cs : Nat → List Value) (a n : Nat) : List Value := ((List.range n).map (fun i => cs (a + i))).flatten
theorem flat_split {size : Nat} : ∀ {L : List (List Value)}, (∀ c ∈ L, c.length = size) → ∀ {j : Nat} {u : Value}, L.flatten[j]? = some u → ∃ (i r : Nat) (h : i < L.length), j = i * size + r ∧ r < size ∧ L[i][r]? = some u
  | [], _, j, u, h => by simp at h
  | c :: L, hl, j, u, h => by
    have hc := hl c (by simp)
    rw [List.flatten_cons] at h
    by_cases q : j < c.length
    · rw [List.getElem?_append_left q] at h
      exact ⟨0, j, by simp, by simp, by omega, h⟩
    · rw [List.getElem?_append_right (by omega)] at h
      obtain ⟨i, r, hi, e, hr, hu⟩ := flat_split (fun c hc => hl c (by simp [hc])) h
      refine ⟨i + 1, r, by simp; omega, by rw [Nat.add_mul]; omega, hr, by simpa using hu⟩
section
variable {w : World} {a : Option Addr} {n cap size : Nat} {cs : Nat → List Value}
theorem flatB_all (hl : ∀ i, i < n → (cs i).length = size) {t k : Nat} (h : t + k ≤ n) : ∀ c ∈ (List.range k).map (fun i => cs (t + i)), c.length = size := fun c hc => by
  obtain ⟨i, hi, rfl⟩ := List.mem_map.1 hc
  exact hl _ (by have := List.mem_range.1 hi; omega)
theorem flatB_len (hl : ∀ i, i < n → (cs i).length = size) {t : Nat} : ∀ {k : Nat}, t + k ≤ n → (flatB cs t k).length = k * size
  | 0, _ => by simp [flatB]
  | k + 1, h => by
    have ih := flatB_len hl (t := t) (k := k) (by omega)
    unfold flatB at ih ⊢
    rw [List.range_succ, List.map_append, List.flatten_append, List.length_append, ih]
    simp [hl (t + k) (by omega), Nat.add_mul]
theorem flatB_get (hl : ∀ i, i < n → (cs i).length = size) {t k i j : Nat} {u : Value} (h : t + k ≤ n) (hi : i < k) (hj : (cs (t + i))[j]? = some u) : (flatB cs t k)[i * size + j]? = some u := by
  have hlen : ((List.range k).map (fun i => cs (t + i))).length = k := by simp
  refine flat_at (flatB_all hl h) (i := i) (by rw [hlen]; exact hi) ?_
  simpa using hj
theorem RowC.lens {X : Nat → Prop} (h : RowC X w (.slice a n cap) n size cs) : ∀ i, i < n → (cs i).length = size := fun i hi => by
  obtain ⟨a1, cap1, e, _, _, hc⟩ := h
  obtain ⟨_, _, _, _, hl, _⟩ := hc i hi
  exact hl
theorem src_part {X : Nat → Prop} (h : RowC X w (.slice a n cap) n size cs) {t k : Nat} (htk : t + k ≤ n) (hk : 0 < k) : ∃ b off, a = some ⟨b, off, none⟩ ∧ Src w (some ⟨b, off + t * size, none⟩) k size (flatB cs t k) := by
  have hl := h.lens
  obtain ⟨b, off, rfl, _, _⟩ := h.at (i := t) (by omega)
  refine ⟨b, off, rfl, .inr ⟨_, rfl, flatB_len hl htk, fun j u hj => ?_⟩⟩
  obtain ⟨i, r, hi, e, hr, hu⟩ := flat_split (flatB_all hl htk) (show ((List.range k).map (fun i => cs (t + i))).flatten[j]? = some u from hj)
  have hik : i < k := by simpa using hi
  obtain ⟨b', off', e', _, hc⟩ := h.at (i := t + i) (by omega)
  cases e'
  rw [add_at, e, show off + t * size + (i * size + r) = off + (t + i) * size + r by rw [Nat.add_mul]; omega]
  exact hc r u (by simpa using hu)
theorem src_none {t : Nat} : Src w (none : Option Addr) 0 size (flatB cs t 0) := .inl ⟨rfl, rfl, by simp [flatB]⟩
theorem src_some {A : Addr} {t : Nat} : Src w (some A) 0 size (flatB cs t 0) := .inr ⟨A, rfl, by simp [flatB], fun j u hj => by simp [flatB] at hj⟩
theorem src_zero {A : Option Addr} {t : Nat} : Src w A 0 size (flatB cs t 0) := by
  cases A with
  | none => exact src_none
  | some A => exact src_some
theorem src_take {X : Nat → Prop} (h : RowC X w (.slice a n cap) n size cs) {k : Nat} (hk : k ≤ n) : Src w a k size (flatB cs 0 k) := by
  rcases Nat.eq_zero_or_pos k with q | q
  · subst q; exact src_zero
  · obtain ⟨b, off, rfl, hs⟩ := src_part h (t := 0) (k := k) (by omega) q
    rw [Nat.zero_mul, Nat.add_zero] at hs
    exact hs
theorem src_drop {X : Nat → Prop} (h : RowC X w (.slice a n cap) n size cs) {t : Nat} (ht : t ≤ n) : Src w (if cap = t then a else a.map (·.add (t * size))) (n - t) size (flatB cs t (n - t)) := by
  rcases Nat.eq_zero_or_pos (n - t) with q | q
  · rw [q]; exact src_zero
  · obtain ⟨b, off, rfl, hs⟩ := src_part h (t := t) (k := n - t) (by omega) q
    have hc : ¬ cap = t := by
      obtain ⟨a1, cap1, e, h1, _, _⟩ := h
      cases e
      omega
    rw [if_neg hc, Option.map_some, add_at]
    exact hs
end
theorem formB_one {c : List Value} (h : FormB c) : ∀ u ∈ c, u.oneCell' = true := by
  obtain ⟨bn, pa, pn, pc, k, nm, fl, bi, a0, n0, c0, a1, n1, c1, a2, n2, c2, a3, n3, c3, rfl⟩ := h
  intro u hu
  simp at hu
  rcases hu with rfl | rfl | rfl | rfl | rfl | rfl | rfl | rfl | rfl | rfl <;> rfl
theorem flatB_one {cs : Nat → List Value} {n t k : Nat} (h : ∀ i, i < n → FormB (cs i)) (htk : t + k ≤ n) : ∀ u ∈ flatB cs t k, u.oneCell' = true := fun u hu => by
  unfold flatB at hu
  obtain ⟨c, hc, huc⟩ := List.mem_flatten.1 hu
  obtain ⟨i, hi, rfl⟩ := List.mem_map.1 hc
  exact formB_one (h _ (by have := List.mem_range.1 hi; omega)) u huc
/-- Binds turned round. -/
theorem binds_turn {w w' : World} {base : Nat} {v : Value} {bs : List TB} {bc : Nat → List Value} {n t : Nat} (hn : bs.length = n) (hl : ∀ i, i < n → (bc i).length = 10) (hb : ∀ i (h : i < bs.length), BAt (fun _ => False) w (bc i) bs[i]) (ht : t ≤ n) (f : Fr Nil w w')
    (ho : w'.ownsRow base 42 10 v n (flatB bc t (n - t) ++ flatB bc 0 t)) : BindsAt (fun _ => False) w' v (bs.drop t ++ bs.take t) := by
  have hlen : (bs.drop t ++ bs.take t).length = n := by rw [List.length_append, List.length_drop, List.length_take]; omega
  have h1 := flatB_len hl (t := t) (k := n - t) (by omega)
  refine ⟨fun i => if i < n - t then bc (t + i) else bc (i - (n - t)), ?_, fun i hi => ?_⟩
  · rw [hlen]
    refine RowC.of_own ho (fun b q => q.elim) (fun i hi => ?_) (fun i hi j u hj => ?_)
    · by_cases q : i < n - t
      · simp only [if_pos q]; exact hl _ (by omega)
      · simp only [if_neg q]; exact hl _ (by omega)
    · by_cases q : i < n - t
      · simp only [if_pos q] at hj
        have hj9 : j < 10 := by
          have := (List.getElem?_eq_some_iff.1 hj).1
          rw [hl _ (by omega)] at this
          exact this
        rw [List.getElem?_append_left (by rw [h1]; have := Nat.mul_le_mul_right 10 (show i + 1 ≤ n - t by omega); rw [Nat.add_mul] at this; omega)]
        exact flatB_get hl (by omega) q hj
      · simp only [if_neg q] at hj
        rw [List.getElem?_append_right (by rw [h1]; have := Nat.mul_le_mul_right 10 (show n - t ≤ i by omega); omega), h1, show i * 10 + j - (n - t) * 10 = (i - (n - t)) * 10 + j by have := Nat.mul_le_mul_right 10 (show n - t ≤ i by omega); rw [Nat.sub_mul]; omega]
        exact flatB_get hl (t := 0) (k := t) (by omega) (by omega) (by rw [Nat.zero_add]; exact hj)
  · rw [hlen] at hi
    by_cases q : i < n - t
    · simp only [if_pos q]
      rw [List.getElem_append_left (by rw [List.length_drop]; omega), List.getElem_drop]
      exact (hb (t + i) (by omega)).frN f
    · simp only [if_neg q]
      have hd : (bs.drop t).length = n - t := by rw [List.length_drop]; omega
      rw [List.getElem_append_right (by omega), List.getElem_take]
      simp only [hd]
      exact (hb (i - (n - t)) (by omega)).frN f
end Go.Proofs.YtpjlibbdngnnnaaDoor
