/-
  Floats of 64 bits by their words: what they are worth, their order, what is exact. Plain laws. No conditions.
-/
import Derived.Laws.FloatArith
import Derived.Laws.Cover2
namespace Go.Proofs.YtcadbidccmiflaaDoor
set_option linter.unusedSimpArgs false
set_option linter.unusedVariables false
open Ieee

theorem dsw : double.signWeight = 2 ^ 63 := rfl
theorem dbi : double.binade = 2 ^ 52 := rfl
theorem dir : double.infRung = 2047 * 2 ^ 52 := rfl
theorem dlp : double.leastPlace = -1074 := rfl
theorem dfb : double.fractionBits = 52 := rfl

/-- What a rung is worth, in the least units. -/
def rungV (r : Nat) : Nat := if r < 2 ^ 52 then r else (2 ^ 52 + r % 2 ^ 52) * 2 ^ (r / 2 ^ 52 - 1)
theorem rungV_succ (r : Nat) : rungV r < rungV (r + 1) := by
  unfold rungV
  by_cases h1 : r + 1 < 2 ^ 52
  · rw [if_pos (by omega), if_pos h1]; omega
  · rw [if_neg h1]
    by_cases h2 : r < 2 ^ 52
    · rw [if_pos h2]
      obtain rfl : r = 2 ^ 52 - 1 := by omega
      decide
    · rw [if_neg h2]
      by_cases h3 : r % 2 ^ 52 + 1 < 2 ^ 52
      · have e1 : (r + 1) % 2 ^ 52 = r % 2 ^ 52 + 1 := by omega
        have e2 : (r + 1) / 2 ^ 52 = r / 2 ^ 52 := by omega
        rw [e1, e2]
        exact Nat.mul_lt_mul_of_pos_right (by omega) (Nat.two_pow_pos _)
      · have e1 : (r + 1) % 2 ^ 52 = 0 := by omega
        have e2 : (r + 1) / 2 ^ 52 - 1 = (r / 2 ^ 52 - 1) + 1 := by omega
        have e4 : 2 ^ (r / 2 ^ 52 - 1 + 1) = 2 ^ (r / 2 ^ 52 - 1) * 2 := Nat.pow_succ _ _
        rw [e1, e2, e4]
        have : 0 < 2 ^ (r / 2 ^ 52 - 1) := Nat.two_pow_pos _
        generalize 2 ^ (r / 2 ^ 52 - 1) = K at *
        have e3 : r % 2 ^ 52 = 2 ^ 52 - 1 := by omega
        rw [e3]
        omega
theorem rungV_lt {r s : Nat} (h : r < s) : rungV r < rungV s := by
  induction s with
  | zero => omega
  | succ s ih =>
    rcases Nat.lt_or_ge r s with g | g
    · exact Nat.lt_trans (ih g) (rungV_succ s)
    · obtain rfl : r = s := by omega
      exact rungV_succ r
theorem rungV_lt_iff {r s : Nat} : rungV r < rungV s ↔ r < s :=
  ⟨fun h => by
    rcases Nat.lt_or_ge r s with g | g
    · exact g
    · rcases Nat.lt_or_eq_of_le g with g | g
      · have := rungV_lt g; omega
      · subst g; omega, rungV_lt⟩
theorem rungV_zero : rungV 0 = 0 := rfl
theorem rungV_eq_iff {r s : Nat} : rungV r = rungV s ↔ r = s :=
  ⟨fun h => by
    rcases Nat.lt_trichotomy r s with g | g | g
    · have := rungV_lt g; omega
    · exact g
    · have := rungV_lt g; omega, fun h => by rw [h]⟩
/-- A word's sign and rung; what it is worth in the least units (an infinity: as if the rungs went on). -/
def sgn (b : Nat) : Bool := b / 2 ^ 63 % 2 == 1
def rung (b : Nat) : Nat := b % 2 ^ 63
def sval (b : Nat) : Int := if sgn b then -(rungV (rung b) : Int) else (rungV (rung b) : Int)
def nanB (b : Nat) : Bool := decide (2047 * 2 ^ 52 < rung b)
theorem read_fin (b : Nat) (h : rung b < 2047 * 2 ^ 52) : ∃ m i, double.read b = .number (sgn b) m i ∧ -1074 ≤ i ∧ m * 2 ^ (i + 1074).toNat = rungV (rung b) ∧ m < 2 ^ 53 ∧ i ≤ 971 := by
  unfold Format.read
  rw [dsw, dbi, dir, dlp]
  unfold rung at h ⊢
  unfold rungV sgn
  by_cases h1 : b % 2 ^ 63 < 2 ^ 52
  · refine ⟨b % 2 ^ 63, -1074, by simp only [if_pos h1], by omega, by rw [if_pos h1]; simp, by omega, by omega⟩
  · refine ⟨2 ^ 52 + b % 2 ^ 63 % 2 ^ 52, -1074 + ((b % 2 ^ 63 / 2 ^ 52 - 1 : Nat) : Int), by simp only [if_neg h1, if_pos h], by omega, ?_, by omega, by omega⟩
    rw [if_neg h1]
    congr 2
    omega
theorem read_inf (b : Nat) (h : rung b = 2047 * 2 ^ 52) : double.read b = .infinity (sgn b) := by
  unfold Format.read
  rw [dsw, dbi, dir, dlp]
  unfold rung at h
  unfold sgn
  simp only [h]
  rfl
theorem read_nan (b : Nat) (h : 2047 * 2 ^ 52 < rung b) : ∃ f, double.read b = .nan (sgn b) f := by
  unfold Format.read
  rw [dsw, dbi, dir, dlp]
  unfold rung at h
  unfold sgn
  exact ⟨_, by simp only []; rw [if_neg (by omega), if_neg (by omega), if_neg (by omega)]⟩

theorem cmp_eq {a b c d : Int} (h1 : a < b ↔ c < d) (h2 : a = b ↔ c = d) : compare a b = compare c d := by
  show compareOfLessAndEq a b = compareOfLessAndEq c d
  unfold compareOfLessAndEq
  simp only [h1, h2]
theorem mul_lt_iff {a b k : Int} (hk : 0 < k) : a < b ↔ a * k < b * k :=
  ⟨fun h => Int.mul_lt_mul_of_pos_right h hk, fun h => Int.lt_of_mul_lt_mul_right h (Int.le_of_lt hk)⟩
theorem mul_eq_iff {a b k : Int} (hk : 0 < k) : a = b ↔ a * k = b * k :=
  ⟨fun h => by rw [h], fun h => Int.eq_of_mul_eq_mul_right (by omega) h⟩
theorem two_pow_int (n : Nat) : (0 : Int) < (2 : Int) ^ n := Int.pow_pos (by omega)
theorem signed_mul (s : Bool) (m d e : Nat) : signed s m d * (2 : Int) ^ e = if s then -((m * 2 ^ (d + e) : Nat) : Int) else ((m * 2 ^ (d + e) : Nat) : Int) := by
  unfold signed
  rw [Nat.shiftLeft_eq, Nat.pow_add]
  cases s
  · simp [Int.mul_assoc]
  · simp [Int.neg_mul, Int.mul_assoc]
theorem order_sval (b c : Nat) (hb : rung b ≤ 2047 * 2 ^ 52) (hc : rung c ≤ 2047 * 2 ^ 52) : double.order b c = some (compare (sval b) (sval c)) := by
  unfold Format.order
  rcases Nat.lt_or_eq_of_le hb with hb | hb <;> rcases Nat.lt_or_eq_of_le hc with hc | hc
  · obtain ⟨m, i, e1, h1, v1, _⟩ := read_fin b hb
    obtain ⟨n, j, e2, h2, v2, _⟩ := read_fin c hc
    rw [e1, e2]
    simp only [Datum.order]
    congr 1
    have k := two_pow_int (min i j + 1074).toNat
    have q1 : signed (sgn b) m (i - min i j).toNat * (2 : Int) ^ (min i j + 1074).toNat = sval b := by
      rw [signed_mul, show (i - min i j).toNat + (min i j + 1074).toNat = (i + 1074).toNat by omega, v1]; rfl
    have q2 : signed (sgn c) n (j - min i j).toNat * (2 : Int) ^ (min i j + 1074).toNat = sval c := by
      rw [signed_mul, show (j - min i j).toNat + (min i j + 1074).toNat = (j + 1074).toNat by omega, v2]; rfl
    rw [← q1, ← q2]
    exact cmp_eq (mul_lt_iff k) (mul_eq_iff k)
  · obtain ⟨m, i, e1, h1, v1, _⟩ := read_fin b hb
    rw [e1, read_inf c hc]
    simp only [Datum.order]
    congr 1
    have hr := rungV_lt (hc ▸ hb)
    unfold sval
    cases sgn c <;> cases sgn b <;> simp only [if_true, if_false, Bool.false_eq_true]
    all_goals
      show _ = compareOfLessAndEq _ _
      unfold compareOfLessAndEq
      split <;> first | rfl | (exfalso; omega) | (split <;> first | rfl | (exfalso; omega))
  · obtain ⟨m, i, e1, h1, v1, _⟩ := read_fin c hc
    rw [e1, read_inf b hb]
    simp only [Datum.order]
    congr 1
    have hr := rungV_lt (hb ▸ hc)
    unfold sval
    cases sgn c <;> cases sgn b <;> simp only [if_true, if_false, Bool.false_eq_true]
    all_goals
      show _ = compareOfLessAndEq _ _
      unfold compareOfLessAndEq
      split <;> first | rfl | (exfalso; omega) | (split <;> first | rfl | (exfalso; omega))
  · rw [read_inf b hb, read_inf c hc]
    simp only [Datum.order]
    congr 1
    unfold sval
    rw [hb, hc]
    have hr : 0 < rungV (2047 * 2 ^ 52) := rungV_lt (show 0 < 2047 * 2 ^ 52 by omega)
    generalize rungV (2047 * 2 ^ 52) = K at hr
    cases sgn c <;> cases sgn b <;> simp only [if_true, if_false, Bool.false_eq_true]
    all_goals
      show _ = compareOfLessAndEq _ _
      unfold compareOfLessAndEq
      split <;> first | rfl | (exfalso; omega) | (split <;> first | rfl | (exfalso; omega))
theorem order_nan (b c : Nat) (h : 2047 * 2 ^ 52 < rung b ∨ 2047 * 2 ^ 52 < rung c) : double.order b c = none := by
  unfold Format.order
  rcases h with h | h
  · obtain ⟨f, e⟩ := read_nan b h
    rw [e]; rfl
  · obtain ⟨f, e⟩ := read_nan c h
    rw [e]
    cases double.read b <;> rfl
/-- A float's bits such that they rise as floats do. -/
def ordR (b : Nat) : Int := if 2 ^ 63 ≤ b then -((b - 2 ^ 63 : Nat) : Int) else (b : Int)
theorem sval_ord (b c : Nat) (hb : b < 2 ^ 64) (hc : c < 2 ^ 64) : compare (sval b) (sval c) = compare (ordR b) (ordR c) := by
  have key : ∀ x, x < 2 ^ 64 → (sgn x = true ∧ ordR x = -(rung x : Int)) ∨ (sgn x = false ∧ ordR x = (rung x : Int)) := by
    intro x hx
    unfold sgn ordR rung
    by_cases h : 2 ^ 63 ≤ x
    · left
      refine ⟨by simp; omega, by rw [if_pos h]; omega⟩
    · right
      refine ⟨by simp; omega, by rw [if_neg h]; omega⟩
  have z : ∀ r, rungV r = 0 ↔ r = 0 := fun r => by have := @rungV_eq_iff r 0; rwa [rungV_zero] at this
  have zz : ∀ r, 0 < rungV r ↔ 0 < r := fun r => by have := @rungV_lt_iff 0 r; rwa [rungV_zero] at this
  have l1 := @rungV_lt_iff (rung b) (rung c)
  have l2 := @rungV_lt_iff (rung c) (rung b)
  have l3 := @rungV_eq_iff (rung b) (rung c)
  have z1 := z (rung b)
  have z2 := z (rung c)
  have z3 := zz (rung b)
  have z4 := zz (rung c)
  unfold sval
  rcases key b hb with ⟨s1, e1⟩ | ⟨s1, e1⟩ <;> rcases key c hc with ⟨s2, e2⟩ | ⟨s2, e2⟩ <;> rw [s1, s2, e1, e2] <;> simp only [if_true, if_false, Bool.false_eq_true] <;> refine cmp_eq ?_ ?_ <;> omega
theorem order_ord (b c : Nat) (hb : b < 2 ^ 64) (hc : c < 2 ^ 64) (nb : nanB b = false) (nc : nanB c = false) : double.order b c = some (compare (ordR b) (ordR c)) := by
  unfold nanB at nb nc
  simp at nb nc
  rw [order_sval b c (by omega) (by omega), sval_ord b c hb hc]
theorem compare_self (x : Int) : compare x x = .eq := by
  show compareOfLessAndEq x x = _
  simp [compareOfLessAndEq]
theorem cmp_lt (x y : Int) : (some (compare x y) == some Ordering.lt) = decide (x < y) := by
  show (some (compareOfLessAndEq x y) == _) = _
  unfold compareOfLessAndEq
  split
  · simp_all
  · split <;> simp_all
theorem cmp_gt (x y : Int) : (some (compare x y) == some Ordering.gt) = decide (y < x) := by
  show (some (compareOfLessAndEq x y) == _) = _
  unfold compareOfLessAndEq
  split
  · simp; omega
  · split
    · simp; omega
    · simp; omega
theorem cmp_eqq (x y : Int) : (some (compare x y) == some Ordering.eq) = decide (x = y) := by
  show (some (compareOfLessAndEq x y) == _) = _
  unfold compareOfLessAndEq
  split
  · simp; omega
  · split <;> simp_all
theorem nan_order (b : Nat) : (double.order b b != some Ordering.eq) = nanB b := by
  cases h : nanB b
  · unfold nanB at h
    simp at h
    rw [order_sval b b (by omega) (by omega), compare_self]
    rfl
  · unfold nanB at h
    simp at h
    rw [order_nan b b (.inl (by omega))]
    rfl
end Go.Proofs.YtcadbidccmiflaaDoor
