/-
  Floats of 64 bits by their words: towards zero; what is exact. Plain laws. No conditions.
-/
import Derived.Test.YtcadbidccmiflaaDoorIeee
namespace Go.Proofs.YtcadbidccmiflaaDoor
set_option linter.unusedSimpArgs false
set_option linter.unusedVariables false
open Ieee

theorem cut_zero (s : Bool) (n d : Nat) : Toward.zero.cut s n d = n / 2 ^ d := by
  unfold Toward.cut
  simp only [Bool.toNat_false, Nat.add_zero, Nat.shiftLeft_eq, Nat.one_mul]
  rcases Nat.lt_or_ge d (n.log2 + 2) with h | h
  · rw [Nat.min_eq_left (by omega)]
  · rw [Nat.min_eq_right h]
    have h1 : n < 2 ^ (n.log2 + 1) := Nat.lt_log2_self
    have h2 : 2 ^ (n.log2 + 1) ≤ 2 ^ (n.log2 + 2) := Nat.pow_le_pow_right (by omega) (by omega)
    have h3 : 2 ^ (n.log2 + 2) ≤ 2 ^ d := Nat.pow_le_pow_right (by omega) h
    rw [Nat.div_eq_of_lt (by omega), Nat.div_eq_of_lt (by omega)]
theorem pow_cast (n : Nat) : ((2 : Int) ^ n) = ((2 ^ n : Nat) : Int) := by rw [Int.natCast_pow]; rfl
theorem div_fit (m a b c : Nat) (h : c = b + a) : m * 2 ^ a / 2 ^ c = m / 2 ^ b := by
  rw [h, Nat.pow_add, Nat.mul_comm m, Nat.mul_comm (2 ^ b), Nat.mul_div_mul_left _ _ (Nat.two_pow_pos _)]
theorem div_fit' (m a b c : Nat) (h : a = b + c) : m * 2 ^ a / 2 ^ c = m * 2 ^ b := by
  rw [h, Nat.pow_add, ← Nat.mul_assoc, Nat.mul_div_cancel _ (Nat.two_pow_pos _)]
theorem cut_val (m : Nat) (i : Int) (K : Nat) (h : -(K : Int) ≤ i) : ((m <<< i.toNat) / 2 ^ (-i).toNat : Nat) = m * 2 ^ (i + (K : Int)).toNat / 2 ^ K := by
  rw [Nat.shiftLeft_eq]
  rcases Int.lt_or_le i 0 with g | g
  · rw [show i.toNat = 0 by omega, Nat.pow_zero, Nat.mul_one]
    exact (div_fit _ _ _ _ (by omega)).symm
  · rw [show (-i).toNat = 0 by omega, Nat.pow_zero, Nat.div_one]
    exact (div_fit' _ _ _ _ (by omega)).symm
/-- What is worth so many least units, towards zero. -/
theorem toInt_fin (b : Nat) (h : rung b < 2047 * 2 ^ 52) : (double.read b).toInt .zero = some ((sval b).tdiv (2 ^ 1074)) := by
  obtain ⟨m, i, e1, h1, v1, _⟩ := read_fin b h
  rw [e1]
  simp only [Datum.toInt, Datum.integral]
  rw [cut_zero]
  congr 1
  have q : ((m <<< i.toNat) / 2 ^ (-i).toNat : Nat) = rungV (rung b) / 2 ^ 1074 := by
    rw [← v1]; exact cut_val m i 1074 h1
  rw [q]
  rw [pow_cast]
  unfold signed sval
  rw [Nat.shiftLeft_zero]
  generalize (2 ^ 1074 : Nat) = U
  cases sgn b
  · simp only [if_false, Bool.false_eq_true]
    exact (Int.ofNat_tdiv _ _)
  · simp only [if_true]
    rw [Int.neg_tdiv]
    exact congrArg _ (Int.ofNat_tdiv _ _)
/-- More of the same: the place moves with the digits. -/
theorem log2_shift (n k : Nat) (hn : n ≠ 0) : (n <<< k).log2 = n.log2 + k := by
  rw [Nat.shiftLeft_eq]
  rw [Nat.log2_eq_iff (by have := Nat.two_pow_pos k; exact Nat.mul_ne_zero hn (by omega))]
  have h1 : 2 ^ n.log2 ≤ n := Nat.log2_self_le hn
  have h2 : n < 2 ^ (n.log2 + 1) := Nat.lt_log2_self
  constructor
  · rw [Nat.pow_add]; exact Nat.mul_le_mul_right _ h1
  · rw [show n.log2 + k + 1 = n.log2 + 1 + k by omega, Nat.pow_add]; exact Nat.mul_lt_mul_of_pos_right h2 (Nat.two_pow_pos _)
theorem cut_exact (s : Bool) (n d : Nat) (hn : n ≠ 0) (h : 2 ^ d ∣ n) : Toward.even.cut s n d = n / 2 ^ d := by
  have h1 : d ≤ n.log2 := by
    have := Nat.le_of_dvd (by omega) h
    exact (Nat.le_log2 hn).2 this
  unfold Toward.cut
  rw [Nat.min_eq_left (by omega), Nat.shiftLeft_eq, Nat.one_mul]
  simp only [Nat.mod_eq_zero_of_dvd h]
  have h2 := Nat.two_pow_pos d
  have e1 : decide (2 ^ d < 2 * 0) = false := by simp
  have e2 : (2 ^ d == 2 * 0) = false := by simp
  simp [e2]
theorem nearest_shift (s : Bool) (n k : Nat) (p : Int) : double.nearest s (n <<< k) (p - k) = double.nearest s n p := by
  by_cases hn : n = 0
  · subst hn; simp [Format.nearest]
  have hn' : n <<< k ≠ 0 := by rw [Nat.shiftLeft_eq]; have := Nat.two_pow_pos k; exact Nat.mul_ne_zero hn (by omega)
  unfold Format.nearest
  rw [if_neg hn, if_neg hn', log2_shift n k hn, dfb, dlp]
  have el : max (p - (k : Int) + ((n.log2 + k : Nat) : Int) - ((52 : Nat) : Int)) (-1074) = max (p + (n.log2 : Int) - ((52 : Nat) : Int)) (-1074) := by congr 1; omega
  simp only [el]
  generalize hlast : max (p + (n.log2 : Int) - ((52 : Nat) : Int)) (-1074) = last
  have hk : Toward.even.cut s ((n <<< k) <<< (p - (k : Int) - last).toNat) (last - (p - (k : Int))).toNat = Toward.even.cut s (n <<< (p - last).toNat) (last - p).toNat := by
    rcases Int.lt_or_le p last with g | g
    · rw [show (p - (k : Int) - last).toNat = 0 by omega, show (p - last).toNat = 0 by omega, Nat.shiftLeft_zero, Nat.shiftLeft_zero]
      rw [show (last - (p - (k : Int))).toNat = (last - p).toNat + k by omega]
      generalize (last - p).toNat = d
      unfold Toward.cut
      rw [log2_shift n k hn, show min (d + k) (n.log2 + k + 2) = min d (n.log2 + 2) + k by omega]
      generalize min d (n.log2 + 2) = e
      rw [Nat.shiftLeft_eq, Nat.shiftLeft_eq, Nat.shiftLeft_eq, Nat.one_mul, Nat.one_mul, Nat.pow_add]
      simp only [Nat.mul_div_mul_right _ _ (Nat.two_pow_pos k), Nat.mul_mod_mul_right]
      have hk := Nat.two_pow_pos k
      generalize 2 ^ k = K at hk
      generalize 2 ^ e = E
      have e1 : decide (E * K < 2 * (n % E * K)) = decide (E < 2 * (n % E)) := by
        rw [← Nat.mul_assoc]
        rw [Bool.eq_iff_iff]
        simp only [decide_eq_true_iff]
        exact ⟨fun h => Nat.lt_of_mul_lt_mul_right h, fun h => Nat.mul_lt_mul_of_pos_right h hk⟩
      have e2 : (E * K == 2 * (n % E * K)) = (E == 2 * (n % E)) := by
        rw [← Nat.mul_assoc]
        rw [Bool.eq_iff_iff]
        simp only [beq_iff_eq]
        exact ⟨fun h => Nat.eq_of_mul_eq_mul_right hk h, fun h => congrArg (· * K) h⟩
      simp only [e1, e2]
    · rw [show (last - p).toNat = 0 by omega]
      have hq : ∀ x : Nat, x ≠ 0 → Toward.even.cut s x 0 = x := fun x hx => by rw [cut_exact s x 0 hx (by simp)]; simp
      rw [hq _ (by rw [Nat.shiftLeft_eq]; have := Nat.two_pow_pos (p - last).toNat; exact Nat.mul_ne_zero hn (by omega))]
      rw [← Nat.shiftLeft_add]
      have hd : ((n <<< (k + (p - (k : Int) - last).toNat)) : Nat) ≠ 0 := by rw [Nat.shiftLeft_eq]; have := Nat.two_pow_pos (k + (p - (k : Int) - last).toNat); exact Nat.mul_ne_zero hn (by omega)
      rcases Int.lt_or_le (p - k) last with g2 | g2
      · rw [show (p - (k : Int) - last).toNat = 0 by omega, Nat.add_zero]
        rw [show (p - (k : Int) - last).toNat = 0 by omega, Nat.add_zero] at hd
        have hdv : 2 ^ (last - (p - (k : Int))).toNat ∣ n <<< k := by
          rw [Nat.shiftLeft_eq]
          exact Nat.dvd_trans (Nat.pow_dvd_pow 2 (by omega)) (Nat.dvd_mul_left _ _)
        rw [cut_exact s _ _ hd hdv, Nat.shiftLeft_eq, Nat.shiftLeft_eq]
        have e : 2 ^ k = 2 ^ (p - last).toNat * 2 ^ (last - (p - (k : Int))).toNat := by rw [← Nat.pow_add]; congr 1; omega
        rw [e, ← Nat.mul_assoc, Nat.mul_div_cancel _ (Nat.two_pow_pos _)]
      · rw [show (last - (p - (k : Int))).toNat = 0 by omega, hq _ hd]
        congr 1
        omega
  rw [hk]
theorem word_sgn (s : Bool) (r : Nat) (h : r < 2 ^ 63) : sgn (double.word s r) = s ∧ rung (double.word s r) = r ∧ double.word s r < 2 ^ 64 := by
  unfold Format.word sgn rung
  rw [dsw]
  cases s
  · simp only [if_false, Bool.false_eq_true]
    refine ⟨by simp; omega, by omega, by omega⟩
  · simp only [if_true]
    refine ⟨by simp; omega, by omega, by omega⟩
theorem nearest_lt (s : Bool) (m : Nat) (p : Int) : ∃ r, double.nearest s m p = double.word s r ∧ r ≤ 2047 * 2 ^ 52 := by
  unfold Format.nearest
  by_cases hm : m = 0
  · rw [if_pos hm]; exact ⟨0, rfl, by omega⟩
  · rw [if_neg hm]; exact ⟨_, rfl, by rw [dir]; exact Nat.min_le_right _ _⟩
/-- What the format has is written as it was. -/
theorem write_exact (s : Bool) (b : Nat) (h : rung b < 2047 * 2 ^ 52) : ∃ m i, double.read b = .number (sgn b) m i ∧ double.nearest s m i = double.word s (rung b) := by
  unfold Format.read
  rw [dsw, dbi, dir, dlp]
  unfold rung at h ⊢
  unfold sgn
  by_cases h1 : b % 2 ^ 63 < 2 ^ 52
  · refine ⟨b % 2 ^ 63, -1074, by simp only [if_pos h1], ?_⟩
    generalize b % 2 ^ 63 = r at *
    unfold Format.nearest
    by_cases hr : r = 0
    · rw [if_pos hr, hr]
    · rw [if_neg hr, dfb, dlp, dbi, dir]
      have hl : r.log2 < 52 := (Nat.log2_lt hr).2 h1
      have e : max (-1074 + (r.log2 : Int) - ((52 : Nat) : Int)) (-1074) = -1074 := by omega
      simp only [e]
      rw [show ((-1074 : Int) - -1074).toNat = 0 by omega, Nat.shiftLeft_zero, cut_exact s r 0 hr (by simp)]
      rw [Nat.pow_zero, Nat.div_one, Nat.zero_mul, Nat.zero_add, Nat.min_eq_left (by omega)]
  · refine ⟨2 ^ 52 + b % 2 ^ 63 % 2 ^ 52, -1074 + ((b % 2 ^ 63 / 2 ^ 52 - 1 : Nat) : Int), by simp only [if_neg h1, if_pos h], ?_⟩
    generalize b % 2 ^ 63 = r at *
    have hm : 2 ^ 52 + r % 2 ^ 52 ≠ 0 := by omega
    have hl : (2 ^ 52 + r % 2 ^ 52).log2 = 52 := (Nat.log2_eq_iff hm).2 ⟨by omega, by omega⟩
    unfold Format.nearest
    rw [if_neg hm, dfb, dlp, dbi, dir, hl]
    have e : max (-1074 + ((r / 2 ^ 52 - 1 : Nat) : Int) + ((52 : Nat) : Int) - ((52 : Nat) : Int)) (-1074) = -1074 + ((r / 2 ^ 52 - 1 : Nat) : Int) := by omega
    simp only [e]
    rw [show (-1074 + ((r / 2 ^ 52 - 1 : Nat) : Int) - (-1074 + ((r / 2 ^ 52 - 1 : Nat) : Int))).toNat = 0 by omega, Nat.shiftLeft_zero, cut_exact s _ 0 hm (by simp), Nat.pow_zero, Nat.div_one]
    rw [show (-1074 + ((r / 2 ^ 52 - 1 : Nat) : Int) - -1074).toNat = r / 2 ^ 52 - 1 by omega]
    congr 1
    rw [Nat.min_eq_left (by omega)]
    omega
/-- A number of few digits, whatever its size, is exact. -/
theorem nearest_rep (s : Bool) (n : Nat) (hn : n ≠ 0) (hl : n.log2 ≤ 1000) (hd : 2 ^ (n.log2 - 52) ∣ n) : ∃ r, double.nearest s n 0 = double.word s r ∧ r < 2047 * 2 ^ 52 ∧ rungV r = n * 2 ^ 1074 := by
  have h1 : 2 ^ n.log2 ≤ n := Nat.log2_self_le hn
  have h2 : n < 2 ^ (n.log2 + 1) := Nat.lt_log2_self
  unfold Format.nearest
  rw [if_neg hn, dfb, dlp, dbi, dir]
  generalize hL : n.log2 = L at *
  obtain ⟨K, hK0, hK1, hK⟩ : ∃ K, 2 ^ 52 ≤ K ∧ K < 2 ^ 53 ∧ K * 2 ^ (L + 1022) = n * 2 ^ 1074 ∧ Toward.even.cut s (n <<< (0 - (max (0 + (L : Int) - ((52 : Nat) : Int)) (-1074))).toNat) ((max (0 + (L : Int) - ((52 : Nat) : Int)) (-1074)) - 0).toNat = K := by
    rw [show max (0 + (L : Int) - ((52 : Nat) : Int)) (-1074) = (L : Int) - 52 by omega]
    rcases Nat.lt_or_ge L 52 with g | g
    · rw [show (0 - ((L : Int) - 52)).toNat = 52 - L by omega, show ((L : Int) - 52 - 0).toNat = 0 by omega]
      have hz : n <<< (52 - L) ≠ 0 := by rw [Nat.shiftLeft_eq]; have := Nat.two_pow_pos (52 - L); exact Nat.mul_ne_zero hn (by omega)
      refine ⟨n <<< (52 - L), ?_, ?_, ?_, by rw [cut_exact s _ 0 hz (by simp), Nat.pow_zero, Nat.div_one]⟩
      · rw [Nat.shiftLeft_eq]
        calc 2 ^ 52 = 2 ^ L * 2 ^ (52 - L) := by rw [← Nat.pow_add]; congr 1; omega
          _ ≤ _ := Nat.mul_le_mul_right _ h1
      · rw [Nat.shiftLeft_eq]
        calc n * 2 ^ (52 - L) < 2 ^ (L + 1) * 2 ^ (52 - L) := Nat.mul_lt_mul_of_pos_right h2 (Nat.two_pow_pos _)
          _ = 2 ^ 53 := by rw [← Nat.pow_add]; congr 1; omega
      · rw [Nat.shiftLeft_eq, Nat.mul_assoc, ← Nat.pow_add, show 52 - L + (L + 1022) = 1074 by omega]
    · rw [show (0 - ((L : Int) - 52)).toNat = 0 by omega, show ((L : Int) - 52 - 0).toNat = L - 52 by omega, Nat.shiftLeft_zero]
      obtain ⟨q, hq⟩ := hd
      have hp := Nat.two_pow_pos (L - 52)
      have eq : n / 2 ^ (L - 52) = q := Nat.div_eq_of_eq_mul_right hp hq
      refine ⟨q, ?_, ?_, ?_, by rw [cut_exact s _ _ hn ⟨q, hq⟩, eq]⟩
      · have : 2 ^ (L - 52) * 2 ^ 52 ≤ 2 ^ (L - 52) * q := by
          refine Nat.le_trans (Nat.le_of_eq ?_) (hq ▸ h1)
          rw [← Nat.pow_add]; congr 1; omega
        exact Nat.le_of_mul_le_mul_left this hp
      · have : 2 ^ (L - 52) * q < 2 ^ (L - 52) * 2 ^ 53 := by
          refine Nat.lt_of_lt_of_eq (hq ▸ h2) ?_
          rw [← Nat.pow_add]; congr 1; omega
        exact Nat.lt_of_mul_lt_mul_left this
      · rw [show L + 1022 = (L - 52) + 1074 by omega, Nat.pow_add, ← Nat.mul_assoc]
        congr 1
        rw [Nat.mul_comm]; exact hq.symm
  simp only [hK.2]
  refine ⟨_, rfl, ?_⟩
  rw [show (max (0 + (L : Int) - ((52 : Nat) : Int)) (-1074) - -1074).toNat = L + 1022 by omega]
  rw [Nat.min_eq_left (by omega)]
  refine ⟨by omega, ?_⟩
  rw [← hK.1]
  unfold rungV
  rw [if_neg (by omega)]
  rw [show ((L + 1022) * 2 ^ 52 + K) % 2 ^ 52 = K - 2 ^ 52 by omega, show ((L + 1022) * 2 ^ 52 + K) / 2 ^ 52 - 1 = L + 1022 by omega]
  rw [show 2 ^ 52 + (K - 2 ^ 52) = K by omega]
end Go.Proofs.YtcadbidccmiflaaDoor
