/-
  Floats of 64 bits by their words: ints made floats, small sums and products, opposites. Plain laws. No conditions.
-/
import Derived.Test.YtcadbidccmiflaaDoorNumPlain
namespace Go.Proofs.YtcadbidccmiflaaDoor
set_option linter.unusedSimpArgs false
set_option linter.unusedVariables false
set_option linter.unusedSectionVars false
open Go.RowKit Ieee

/-- What a float is towards zero. -/
def trV (b : Nat) : Int := (sval b).tdiv (2 ^ 1074)
theorem trunc_any (b : Nat) (hb : b < 18446744073709551616) : outF b = true ∨ (outF b = false ∧ floatToIntVal .f64 b .i64 = some (trV b) ∧ -9223372036854775808 ≤ trV b ∧ trV b ≤ 9223372036854775807) := by
  have key : ∀ n, floatToIntVal .f64 b .i64 = some n → exR b < 2047 → floatToIntVal .f64 b .i64 = some (trV b) ∧ -9223372036854775808 ≤ trV b ∧ trV b ≤ 9223372036854775807 := by
    intro n h h2
    have e : (FloatKind.f64.decode b).toInt .zero = some (trV b) := toInt_fin b (fin_of b hb h2)
    unfold floatToIntVal at h ⊢
    rw [e] at h ⊢
    have e1 : IntKind.i64.min = -9223372036854775808 := rfl
    have e2 : IntKind.i64.max = 9223372036854775807 := rfl
    simp only [e1, e2] at h ⊢
    by_cases q : -9223372036854775808 ≤ trV b ∧ trV b ≤ 9223372036854775807
    · rw [if_pos q]; exact ⟨rfl, q⟩
    · rw [if_neg q] at h; cases h
  by_cases h1 : exR b < 1023
  · obtain ⟨p1, p2⟩ := plain_small b hb h1
    exact .inr ⟨p1, key _ p2 (by omega)⟩
  · by_cases h2 : exR b < 1086
    · obtain ⟨p1, p2⟩ := plain_in b hb (by omega) h2
      exact .inr ⟨p1, key _ p2 (by omega)⟩
    · by_cases h3 : 9223372036854775808 ≤ b ∧ exR b = 1086 ∧ mnR b = 4503599627370496
      · obtain ⟨p1, p2⟩ := plain_least b hb h3.1 h3.2.1 h3.2.2
        exact .inr ⟨p1, key _ p2 (by omega)⟩
      · exact .inl (plain_great b hb (by omega) (by omega))
theorem pow11 (a b k : Nat) (ha : a = 2 ^ 52) (hb : b = 11 + k) : a * 2 ^ b = 9223372036854775808 * 2 ^ k := by
  subst ha hb
  rw [Nat.pow_add, ← Nat.mul_assoc]
theorem mul2_lt (a b k : Nat) (h : a < b) : a * 2 ^ k < b * 2 ^ k := Nat.mul_lt_mul_of_pos_right h (Nat.two_pow_pos k)
theorem rungV_ge (r : Nat) (h : 2 ^ 52 ≤ r) : rungV r = (2 ^ 52 + r % 2 ^ 52) * 2 ^ (r / 2 ^ 52 - 1) := if_neg (by omega)
theorem rungV_edge' (r : Nat) (h : r = 1086 * 2 ^ 52) : rungV r = 9223372036854775808 * 2 ^ 1074 := (rungV_ge r (by omega)).trans (pow11 _ _ 1074 (by omega) (by omega))
theorem rungV_edge : rungV (1086 * 2 ^ 52) = 9223372036854775808 * 2 ^ 1074 := rungV_edge' _ rfl
/-- A word of a sign and a rung that is a number: whether it is out, and what it is. -/
theorem out_word (s : Bool) (r : Nat) (h : r < 1086 * 2 ^ 52 ∨ (s = true ∧ r = 1086 * 2 ^ 52)) : outF (double.word s r) = false ∧ nanB (double.word s r) = false := by
  obtain ⟨w1, w2, w3⟩ := word_sgn s r (by omega)
  have hn : nanB (double.word s r) = false := by unfold nanB; rw [w2]; simp; omega
  refine ⟨?_, hn⟩
  rw [outF_eq _ w3, hn, ordR_eq _ w3, w2]
  have hs := sgn_eq _ w3
  rw [w1] at hs
  cases s
  · rw [if_neg (by simpa using hs.symm)]
    simp at h ⊢; omega
  · rw [if_pos (by simpa using hs.symm)]
    simp at h ⊢; omega
theorem sval_word (s : Bool) (r : Nat) (h : r < 2 ^ 63) : sval (double.word s r) = if s then -(rungV r : Int) else (rungV r : Int) := by
  obtain ⟨w1, w2, w3⟩ := word_sgn s r h
  unfold sval
  rw [w1, w2]
/-- An exact number of few digits. -/
theorem rep_val (s : Bool) (n : Nat) (hl : n.log2 ≤ 63) (hd : 2 ^ (n.log2 - 52) ∣ n) (hn : n < 9223372036854775808 ∨ (s = true ∧ n = 9223372036854775808)) :
    sval (double.nearest s n 0) = (if s then -(n : Int) else (n : Int)) * 2 ^ 1074 ∧ outF (double.nearest s n 0) = false ∧ nanB (double.nearest s n 0) = false ∧ double.nearest s n 0 < 2 ^ 64 ∧ rung (double.nearest s n 0) < 2047 * 2 ^ 52 := by
  by_cases h0 : n = 0
  · subst h0
    have e : double.nearest s 0 0 = double.word s 0 := by simp [Format.nearest]
    rw [e]
    obtain ⟨o1, o2⟩ := out_word s 0 (.inl (by omega))
    refine ⟨?_, o1, o2, (word_sgn s 0 (by omega)).2.2, by rw [(word_sgn s 0 (by omega)).2.1]; omega⟩
    rw [sval_word s 0 (by omega), rungV_zero]
    generalize (2 : Int) ^ 1074 = U
    cases s <;> simp
  · obtain ⟨r, e, hr, hv⟩ := nearest_rep s n h0 (by omega) hd
    rw [e]
    have he : r < 1086 * 2 ^ 52 ∨ (s = true ∧ r = 1086 * 2 ^ 52) := by
      rcases hn with hn | ⟨hs, hn⟩
      · left
        rw [← rungV_lt_iff, hv, rungV_edge]
        exact mul2_lt n 9223372036854775808 1074 hn
      · right
        refine ⟨hs, ?_⟩
        rw [← rungV_eq_iff, hv, rungV_edge, hn]
    obtain ⟨o1, o2⟩ := out_word s r he
    refine ⟨?_, o1, o2, (word_sgn s r (by omega)).2.2, by rw [(word_sgn s r (by omega)).2.1]; exact hr⟩
    rw [sval_word s r (by omega), hv, pow_cast]
    generalize (2 ^ 1074 : Nat) = U
    cases s
    · simp
    · simp [Int.neg_mul]
theorem floatOfInt_eq (n : Int) : floatOfInt .f64 n = double.nearest (decide (n < 0)) n.natAbs 0 := rfl
theorem sval_trV (b : Nat) (n : Int) (h : sval b = n * 2 ^ 1074) : trV b = n := by
  unfold trV
  rw [h]
  exact Int.mul_tdiv_cancel _ (Int.ne_of_gt (two_pow_int 1074))
theorem sgn_abs (n : Int) : (if decide (n < 0) then -(n.natAbs : Int) else (n.natAbs : Int)) = n := by
  by_cases h : n < 0
  · rw [if_pos (by simpa using h)]; omega
  · rw [if_neg (by simpa using h)]; omega
theorem normF_id (b : Nat) (h : nanB b = false) : normF b = b := by
  unfold normF
  rw [isNan_nanB, h]; rfl
theorem log2_lt_of (n k : Nat) (h : n < 2 ^ (k + 1)) : n.log2 ≤ k := by
  by_cases h0 : n = 0
  · subst h0; simp
  · have := (Nat.log2_lt h0).2 h
    omega
/-- An int that a float can be. -/
def RepI (n : Int) : Prop := 2 ^ (n.natAbs.log2 - 52) ∣ n.natAbs
theorem rep_int (n : Int) (h0 : -9223372036854775808 ≤ n) (h1 : n ≤ 9223372036854775807) (hr : RepI n) :
    outF (normF (floatOfInt .f64 n)) = false ∧ trV (normF (floatOfInt .f64 n)) = n ∧ normF (floatOfInt .f64 n) < 2 ^ 64 := by
  rw [floatOfInt_eq]
  have hl : n.natAbs.log2 ≤ 63 := log2_lt_of _ _ (by omega)
  obtain ⟨v, o1, o2, o3, _⟩ := rep_val (decide (n < 0)) n.natAbs hl hr (by
    by_cases q : n < 0
    · by_cases q2 : n = -9223372036854775808
      · exact .inr ⟨by simpa using q, by omega⟩
      · exact .inl (by omega)
    · exact .inl (by omega))
  rw [normF_id _ o2]
  rw [sgn_abs] at v
  exact ⟨o1, sval_trV _ _ v, o3⟩
theorem rep_small (n : Int) (h0 : -9007199254740992 ≤ n) (h1 : n ≤ 9007199254740992) : RepI n := by
  unfold RepI
  by_cases h : n.natAbs < 2 ^ 53
  · have := log2_lt_of n.natAbs 52 h
    rw [show n.natAbs.log2 - 52 = 0 by omega]
    simp
  · rw [show n.natAbs = 2 ^ 53 by omega, Nat.log2_two_pow]
    decide
theorem rep_trunc (b : Nat) (hb : b < 18446744073709551616) (ho : outF b = false) : RepI (trV b) := by
  by_cases h1 : exR b < 1023
  · have p2 := (plain_small b hb h1).2
    rcases trunc_any b hb with q | ⟨_, q, _⟩
    · rw [q] at ho; cases ho
    · rw [q] at p2
      have : trV b = 0 := by simpa using p2
      rw [this]
      exact rep_small 0 (by omega) (by omega)
  · have h2 : exR b < 2047 := by
      rcases Nat.lt_or_ge (exR b) 2047 with q | q
      · exact q
      · rw [plain_great b hb (by omega) (by omega)] at ho; cases ho
    unfold trV RepI
    rw [tdiv_sval b hb (by omega) h2]
    have e : (truncS (decide (9223372036854775808 ≤ b)) b).natAbs = truncN b := by unfold truncS; split <;> omega
    rw [e]
    unfold truncN
    have hM1 : mnR b < 2 ^ 53 := by unfold mnR; omega
    have hM0 : 2 ^ 52 ≤ mnR b := by unfold mnR; omega
    generalize mnR b = M at *
    by_cases h3 : exR b < 1075
    · rw [if_pos h3]
      have hle : M / 2 ^ (1075 - exR b) ≤ M := Nat.div_le_self _ _
      generalize M / 2 ^ (1075 - exR b) = T at *
      have := log2_lt_of T 52 (by omega)
      rw [show T.log2 - 52 = 0 by omega]
      simp
    · rw [if_neg h3]
      have hl : M.log2 = 52 := (Nat.log2_eq_iff (by omega)).2 ⟨hM0, hM1⟩
      have := log2_shift M (exR b - 1075) (by omega)
      rw [Nat.shiftLeft_eq] at this
      rw [this, hl, Nat.add_sub_cancel_left]
      exact Nat.dvd_mul_left _ _
/-- Any int made a float is in an int's range, but the greatest. -/
theorem cut_le (s : Bool) (n d : Nat) (hd : d ≤ n.log2 + 2) : Toward.even.cut s n d ≤ n / 2 ^ d + 1 ∧ (2 * (n % 2 ^ d) < 2 ^ d → Toward.even.cut s n d = n / 2 ^ d) := by
  unfold Toward.cut
  rw [Nat.min_eq_left hd, Nat.shiftLeft_eq, Nat.one_mul]
  simp only []
  constructor
  · cases (decide (2 ^ d < 2 * (n % 2 ^ d)) || 2 ^ d == 2 * (n % 2 ^ d) && n / 2 ^ d % 2 == 1) <;> simp
  · intro h
    have e1 : decide (2 ^ d < 2 * (n % 2 ^ d)) = false := by simp; omega
    have e2 : (2 ^ d == 2 * (n % 2 ^ d)) = false := by simp; omega
    rw [e1, e2]
    simp
theorem nearest_int (s : Bool) (n : Nat) (hn : n ≤ 9223372036854775808) : ∃ r, double.nearest s n 0 = double.word s r ∧ r ≤ 1086 * 2 ^ 52 ∧ (n < 9223372036854775296 → r < 1086 * 2 ^ 52) := by
  by_cases h53 : n < 2 ^ 53 ∨ n = 9223372036854775808
  · have hd : 2 ^ (n.log2 - 52) ∣ n := by
      rcases h53 with h | h
      · have := log2_lt_of n 52 h
        rw [show n.log2 - 52 = 0 by omega]; simp
      · rw [show n = 2 ^ 63 by omega, Nat.log2_two_pow]; decide
    by_cases h0 : n = 0
    · subst h0
      exact ⟨0, by simp [Format.nearest], by omega, by omega⟩
    · obtain ⟨r, e, hr, hv⟩ := nearest_rep s n h0 (Nat.le_trans (log2_lt_of n 63 (by omega)) (by omega)) hd
      refine ⟨r, e, ?_, fun h => ?_⟩
      · rcases Nat.lt_or_ge (1086 * 2 ^ 52) r with q | q
        · rw [← rungV_lt_iff, hv, rungV_edge] at q
          have := Nat.lt_of_mul_lt_mul_right q
          omega
        · exact q
      · rw [← rungV_lt_iff, hv, rungV_edge]
        exact mul2_lt n 9223372036854775808 1074 (by omega)
  · have h0 : n ≠ 0 := by omega
    have hL1 : 53 ≤ n.log2 := by
      rcases Nat.lt_or_ge n.log2 53 with q | q
      · have := (Nat.log2_lt h0).1 q; omega
      · exact q
    have hL2 : n.log2 ≤ 62 := log2_lt_of n 62 (by omega)
    have g1 : 2 ^ n.log2 ≤ n := Nat.log2_self_le h0
    have g2 : n < 2 ^ (n.log2 + 1) := Nat.lt_log2_self
    unfold Format.nearest
    rw [if_neg h0, dfb, dlp, dbi, dir]
    obtain ⟨c1, c2⟩ := cut_le s n (n.log2 - 52) (by omega)
    have el : max (0 + (n.log2 : Int) - ((52 : Nat) : Int)) (-1074) = (n.log2 : Int) - 52 := by omega
    simp only [el]
    rw [show (0 - ((n.log2 : Int) - 52)).toNat = 0 by omega, show ((n.log2 : Int) - 52 - 0).toNat = n.log2 - 52 by omega, Nat.shiftLeft_zero, show ((n.log2 : Int) - 52 - -1074).toNat = n.log2 + 1022 by omega]
    generalize Toward.even.cut s n (n.log2 - 52) = K at *
    have hlow : n / 2 ^ (n.log2 - 52) < 2 ^ 53 := by
      rw [Nat.div_lt_iff_lt_mul (Nat.two_pow_pos _), ← Nat.pow_add, show 53 + (n.log2 - 52) = n.log2 + 1 by omega]
      exact g2
    refine ⟨_, rfl, ?_, fun h => ?_⟩
    · rw [Nat.min_eq_left (by omega)]; omega
    · rw [Nat.min_eq_left (by omega)]
      rcases Nat.lt_or_ge n.log2 62 with q | q
      · omega
      · have hL : n.log2 = 62 := by omega
        rw [hL] at c1 c2 hlow ⊢
        rcases Nat.lt_or_ge (n / 2 ^ (62 - 52)) (2 ^ 53 - 1) with q2 | q2
        · omega
        · have : K = n / 2 ^ (62 - 52) := c2 (by omega)
          omega
theorem int_in (n : Int) (h0 : -9223372036854775808 ≤ n) (h1 : n < 9223372036854775296) : outF (normF (floatOfInt .f64 n)) = false ∧ normF (floatOfInt .f64 n) < 2 ^ 64 := by
  rw [floatOfInt_eq]
  obtain ⟨r, e, r1, r2⟩ := nearest_int (decide (n < 0)) n.natAbs (by omega)
  rw [e]
  obtain ⟨o1, o2⟩ := out_word (decide (n < 0)) r (by
    by_cases q : n < 0
    · by_cases q2 : r = 1086 * 2 ^ 52
      · exact .inr ⟨by simpa using q, q2⟩
      · exact .inl (by omega)
    · exact .inl (r2 (by omega)))
  rw [normF_id _ o2]
  exact ⟨o1, (word_sgn _ r (by omega)).2.2⟩
theorem int_lt (n : Int) (h0 : -9223372036854775808 ≤ n) (h1 : n ≤ 9223372036854775807) : normF (floatOfInt .f64 n) < 18446744073709551616 := by
  rw [floatOfInt_eq]
  obtain ⟨r, e, r1, r2⟩ := nearest_int (decide (n < 0)) n.natAbs (by omega)
  rw [e]
  have w := (word_sgn (decide (n < 0)) r (by omega))
  unfold normF
  split
  · decide
  · exact w.2.2
/-- A number whose place is not above 0, as an int. -/
theorem read_low (b : Nat) (n U : Nat) (hU : U = 2 ^ 1074) (h : rung b < 2047 * 2 ^ 52) (hv : rungV (rung b) = n * U) (hn : n < 2 ^ 52) : ∃ m i, double.read b = .number (sgn b) m i ∧ -1074 ≤ i ∧ i ≤ 0 ∧ m = n <<< (-i).toNat := by
  rw [hU] at hv
  obtain ⟨m, i, e, h1, v1, hm, h2⟩ := read_fin b h
  have hi : i ≤ 0 := by
    rcases Int.lt_or_le 0 i with g | g
    · exfalso
      have e2 : double.read b = .number (sgn b) m i := e
      unfold Format.read at e2
      rw [dsw, dbi, dir, dlp] at e2
      simp only at e2
      split at e2
      · simp only [Datum.number.injEq] at e2; omega
      · split at e2
        · simp only [Datum.number.injEq] at e2
          have hm1 : 2 ^ 52 ≤ m := by omega
          rw [hv] at v1
          have e3 : (i + 1074).toNat = i.toNat + 1074 := by omega
          rw [e3, Nat.pow_add, ← Nat.mul_assoc] at v1
          have v2 : m * 2 ^ i.toNat = n := Nat.eq_of_mul_eq_mul_right (Nat.two_pow_pos 1074) v1
          have : m * 1 ≤ m * 2 ^ i.toNat := Nat.mul_le_mul_left _ (Nat.two_pow_pos _)
          omega
        · split at e2 <;> cases e2
    · exact g
  refine ⟨m, i, e, h1, hi, ?_⟩
  rw [hv] at v1
  have e3 : 1074 = (-i).toNat + (i + 1074).toNat := by omega
  have e4 : (2 : Nat) ^ 1074 = 2 ^ (-i).toNat * 2 ^ (i + 1074).toNat := by rw [← Nat.pow_add, ← e3]
  rw [e4, ← Nat.mul_assoc] at v1
  rw [Nat.shiftLeft_eq]
  exact Nat.eq_of_mul_eq_mul_right (Nat.two_pow_pos _) v1
theorem shl_shl (n : Nat) (i base : Int) (h : i ≤ 0) (hb : base ≤ i) : (n <<< (-i).toNat) <<< (i - base).toNat = n <<< (-base).toNat := by
  rw [← Nat.shiftLeft_add]; congr 1; omega
theorem signed_shl (s : Bool) (n d : Nat) : signed s n d = (if s then -(n : Int) else (n : Int)) * ((2 ^ d : Nat) : Int) := by
  unfold signed
  rw [Nat.shiftLeft_eq]
  cases s
  · simp
  · simp [Int.neg_mul]
/-- The sum of two of few digits. -/
theorem sum_low (s t : Bool) (m n : Nat) (i j : Int) (hi : i ≤ 0) (hj : j ≤ 0) (a b : Int) (ha : (if s then -(m : Int) else (m : Int)) = a) (hb : (if t then -(n : Int) else (n : Int)) = b) :
    ∃ q : Bool, (Datum.number s (m <<< (-i).toNat) i).sum (Datum.number t (n <<< (-j).toNat) j) = some (.number q ((a + b).natAbs <<< (-(min i j)).toNat) (min i j)) ∧ (a + b ≠ 0 → q = decide (a + b < 0)) := by
  simp only [Datum.sum]
  have e1 : signed s (m <<< (-i).toNat) (i - min i j).toNat = a * ((2 ^ (-(min i j)).toNat : Nat) : Int) := by
    have : signed s (m <<< (-i).toNat) (i - min i j).toNat = signed s m (-(min i j)).toNat := by
      unfold signed; rw [shl_shl m i (min i j) hi (by omega)]
    rw [this, signed_shl, ha]
  have e2 : signed t (n <<< (-j).toNat) (j - min i j).toNat = b * ((2 ^ (-(min i j)).toNat : Nat) : Int) := by
    have : signed t (n <<< (-j).toNat) (j - min i j).toNat = signed t n (-(min i j)).toNat := by
      unfold signed; rw [shl_shl n j (min i j) hj (by omega)]
    rw [this, signed_shl, hb]
  rw [e1, e2, ← Int.add_mul]
  have hp : (0 : Int) < ((2 ^ (-(min i j)).toNat : Nat) : Int) := by have := Nat.two_pow_pos (-(min i j)).toNat; omega
  refine ⟨_, by rw [Int.natAbs_mul, Int.natAbs_natCast, ← Nat.shiftLeft_eq], fun h => ?_⟩
  rw [if_neg (Int.mul_ne_zero h (by omega)), decide_eq_decide]
  have := @mul_lt_iff (a + b) 0 _ hp
  rw [Int.zero_mul] at this
  exact this.symm
theorem low_word (s : Bool) (n : Nat) (hn : n < 2 ^ 52) : ∃ i, double.read (double.nearest s n 0) = .number s (n <<< (-i).toNat) i ∧ i ≤ 0 ∧ nanB (double.nearest s n 0) = false := by
  by_cases h0 : n = 0
  · subst h0
    have e : double.nearest s 0 0 = double.word s 0 := by simp [Format.nearest]
    rw [e]
    obtain ⟨w1, w2, w3⟩ := word_sgn s 0 (by omega)
    obtain ⟨U, hU⟩ : ∃ U, U = 2 ^ 1074 := ⟨_, rfl⟩
    obtain ⟨m, i, e1, h1, h2, h3⟩ := read_low (double.word s 0) 0 U hU (by rw [w2]; omega) (by rw [w2, rungV_zero, Nat.zero_mul]) (by omega)
    rw [w1, h3] at e1
    exact ⟨i, e1, h2, (out_word s 0 (.inl (by omega))).2⟩
  · have hl := log2_lt_of n 51 hn
    obtain ⟨r, e, hr, hv⟩ := nearest_rep s n h0 (by omega) (by rw [show n.log2 - 52 = 0 by omega]; simp)
    rw [e]
    obtain ⟨w1, w2, w3⟩ := word_sgn s r (by omega)
    obtain ⟨m, i, e1, h1, h2, h3⟩ := read_low (double.word s r) n _ rfl (by rw [w2]; omega) (by rw [w2, hv]) hn
    rw [w1, h3] at e1
    refine ⟨i, e1, h2, ?_⟩
    unfold nanB
    rw [w2]
    simp
    omega
theorem low_res (q : Bool) (n : Nat) (base v : Int) (hb : base ≤ 0) (hn : n < 2 ^ 53) (hv : n ≠ 0 → (if q then -(n : Int) else (n : Int)) = v) (h0 : n = 0 → v = 0) :
    outF (normF (double.nearest q (n <<< (-base).toNat) base)) = false ∧ trV (normF (double.nearest q (n <<< (-base).toNat) base)) = v ∧ normF (double.nearest q (n <<< (-base).toNat) base) < 2 ^ 64 := by
  have e : double.nearest q (n <<< (-base).toNat) base = double.nearest q n 0 := by
    have := nearest_shift q n (-base).toNat 0
    rw [← this]; congr 1; omega
  rw [e]
  have hl := log2_lt_of n 52 hn
  obtain ⟨sv, o1, o2, o3, _⟩ := rep_val q n (by omega) (by rw [show n.log2 - 52 = 0 by omega]; simp) (.inl (by omega))
  rw [normF_id _ o2]
  refine ⟨o1, sval_trV _ _ ?_, o3⟩
  rw [sv]
  by_cases hz : n = 0
  · rw [h0 hz, hz]; cases q <;> rfl
  · rw [hv hz]
theorem low_int (a : Int) (h0 : -67108864 ≤ a) (h1 : a ≤ 67108864) : ∃ i, double.read (normF (floatOfInt .f64 a)) = .number (decide (a < 0)) (a.natAbs <<< (-i).toNat) i ∧ i ≤ 0 := by
  rw [floatOfInt_eq]
  obtain ⟨i, e, hi, hn⟩ := low_word (decide (a < 0)) a.natAbs (by omega)
  rw [normF_id _ hn]
  exact ⟨i, e, hi⟩
section
variable (a b : Int) (a0 : -67108864 ≤ a) (a1 : a ≤ 67108864) (b0 : -67108864 ≤ b) (b1 : b ≤ 67108864)
include a0 a1 b0 b1
theorem small_add : outF (fop .add (normF (floatOfInt .f64 a)) (normF (floatOfInt .f64 b))) = false ∧ trV (fop .add (normF (floatOfInt .f64 a)) (normF (floatOfInt .f64 b))) = a + b ∧ fop .add (normF (floatOfInt .f64 a)) (normF (floatOfInt .f64 b)) < 2 ^ 64 := by
  obtain ⟨i, ei, hi⟩ := low_int a a0 a1
  obtain ⟨j, ej, hj⟩ := low_int b b0 b1
  obtain ⟨q, es, hq⟩ := sum_low (decide (a < 0)) (decide (b < 0)) a.natAbs b.natAbs i j hi hj a b (sgn_abs a) (sgn_abs b)
  have ef : fop .add (normF (floatOfInt .f64 a)) (normF (floatOfInt .f64 b)) = normF (double.nearest q ((a + b).natAbs <<< (-(min i j)).toNat) (min i j)) := by
    unfold fop
    show (match ((double.read _).sum (double.read _)).map double.write with | some r => normF r | none => _) = _
    rw [ei, ej, es]
    rfl
  rw [ef]
  exact low_res q (a + b).natAbs (min i j) (a + b) (by omega) (by omega) (fun h => by rw [hq (by omega)]; exact sgn_abs _) (fun h => by omega)
theorem small_sub : outF (fop .sub (normF (floatOfInt .f64 a)) (normF (floatOfInt .f64 b))) = false ∧ trV (fop .sub (normF (floatOfInt .f64 a)) (normF (floatOfInt .f64 b))) = a - b ∧ fop .sub (normF (floatOfInt .f64 a)) (normF (floatOfInt .f64 b)) < 2 ^ 64 := by
  obtain ⟨i, ei, hi⟩ := low_int a a0 a1
  obtain ⟨j, ej, hj⟩ := low_int b b0 b1
  obtain ⟨q, es, hq⟩ := sum_low (decide (a < 0)) (!decide (b < 0)) a.natAbs b.natAbs i j hi hj a (-b) (sgn_abs a) (by
    by_cases h : b < 0
    · simp [h]; omega
    · simp [h]; omega)
  have ef : fop .sub (normF (floatOfInt .f64 a)) (normF (floatOfInt .f64 b)) = normF (double.nearest q ((a + -b).natAbs <<< (-(min i j)).toNat) (min i j)) := by
    unfold fop
    show (match ((double.read _).sum (double.read _).opposite).map double.write with | some r => normF r | none => _) = _
    rw [ei, ej]
    simp only [Datum.opposite]
    rw [es]
    rfl
  rw [ef]
  exact low_res q (a + -b).natAbs (min i j) (a - b) (by omega) (by omega) (fun h => by rw [hq (by omega), sgn_abs]; omega) (fun h => by omega)
theorem small_mul (c : a.natAbs * b.natAbs < 2 ^ 53) : outF (fop .mul (normF (floatOfInt .f64 a)) (normF (floatOfInt .f64 b))) = false ∧ trV (fop .mul (normF (floatOfInt .f64 a)) (normF (floatOfInt .f64 b))) = a * b ∧ fop .mul (normF (floatOfInt .f64 a)) (normF (floatOfInt .f64 b)) < 2 ^ 64 := by
  obtain ⟨i, ei, hi⟩ := low_int a a0 a1
  obtain ⟨j, ej, hj⟩ := low_int b b0 b1
  have ef : fop .mul (normF (floatOfInt .f64 a)) (normF (floatOfInt .f64 b)) = normF (double.nearest (decide (a < 0) ^^ decide (b < 0)) ((a.natAbs * b.natAbs) <<< (-(i + j)).toNat) (i + j)) := by
    unfold fop
    show (match ((double.read _).product (double.read _)).map double.write with | some r => normF r | none => _) = _
    rw [ei, ej]
    simp only [Datum.product, Option.map_some]
    show normF (double.nearest _ _ _) = _
    congr 2
    rw [Nat.shiftLeft_eq, Nat.shiftLeft_eq, Nat.shiftLeft_eq, show (-(i + j)).toNat = (-i).toNat + (-j).toNat by omega, Nat.pow_add]
    rw [Nat.mul_assoc, Nat.mul_left_comm (2 ^ (-i).toNat), ← Nat.mul_assoc]
  rw [ef]
  refine low_res _ (a.natAbs * b.natAbs) (i + j) (a * b) (by omega) c (fun h => ?_) (fun h => ?_)
  · have e1 := sgn_abs a
    have e2 := sgn_abs b
    rw [← e1, ← e2]
    generalize a.natAbs = m at *
    generalize b.natAbs = n at *
    rw [e1, e2]
    by_cases ha : a < 0 <;> by_cases hb : b < 0 <;> simp [ha, hb] at e1 e2 ⊢ <;> subst e1 e2 <;> simp [Int.neg_mul, Int.mul_neg]
  · have := Int.natAbs_eq_zero.1 ((Int.natAbs_mul a b).trans h)
    exact this
end
end Go.Proofs.YtcadbidccmiflaaDoor
