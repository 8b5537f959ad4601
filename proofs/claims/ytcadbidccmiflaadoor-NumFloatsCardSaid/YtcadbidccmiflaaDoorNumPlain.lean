/-
  Floats towards zero: the program's way and the document's. Plain laws. No conditions.
-/
import Derived.Test.YtcadbidccmiflaaDoorRef01d
namespace Go.Proofs.YtcadbidccmiflaaDoor
set_option linter.unusedSimpArgs false
set_option linter.unusedVariables false
set_option linter.unusedSectionVars false
open Go.RowKit

theorem div_small {n a b : Nat} (h : n < 2 ^ a) (hab : a ≤ b) : n / 2 ^ b = 0 := Nat.div_eq_of_lt (Nat.lt_of_lt_of_le h (Nat.pow_le_pow_right (by omega) hab))
theorem sgn_eq (b : Nat) (hb : b < 18446744073709551616) : sgn b = decide (9223372036854775808 ≤ b) := by
  unfold sgn
  rw [Bool.eq_iff_iff]
  simp
  omega
theorem exR_rung (b : Nat) : exR b = rung b / 2 ^ 52 := by unfold exR rung; omega
theorem mnR_rung (b : Nat) : mnR b = 2 ^ 52 + rung b % 2 ^ 52 := by unfold mnR rung; omega
theorem ordR_eq (b : Nat) (hb : b < 18446744073709551616) : ordR b = if 9223372036854775808 ≤ b then -(rung b : Int) else (rung b : Int) := by
  unfold ordR rung
  by_cases h : 9223372036854775808 ≤ b
  · rw [if_pos h, if_pos h]; omega
  · rw [if_neg h, if_neg h]; omega
theorem outF_eq (b : Nat) (hb : b < 18446744073709551616) : outF b = (nanB b || decide (4890909195324358656 ≤ ordR b) || decide (ordR b < -4890909195324358656)) := by
  unfold outF
  rw [isNan_nanB]
  cases hn : nanB b
  · have e1 : nanB edge = false := by decide
    have e2 : nanB edgeM = false := by decide
    have o1 : ordR edge = 4890909195324358656 := by decide
    have o2 : ordR edgeM = -4890909195324358656 := by decide
    unfold ordF
    show (false || (Ieee.double.order b edge == some .gt || Ieee.double.order b edge == some .eq) || Ieee.double.order b edgeM == some .lt) = _
    rw [order_ord b edge hb (by decide) hn e1, order_ord b edgeM hb (by decide) hn e2, cmp_gt, cmp_eqq, cmp_lt, o1, o2]
    rw [Bool.eq_iff_iff]
    simp
    omega
  · rfl
theorem rungV_trunc (b : Nat) (h : exR b < 2047) : rungV (rung b) / 2 ^ 1074 = if exR b < 1 then 0 else truncN b := by
  unfold rungV truncN
  rw [exR_rung] at h ⊢
  rw [mnR_rung]
  by_cases h0 : rung b < 2 ^ 52
  · rw [if_pos h0, if_pos (by omega)]
    rw [div_small (n := rung b) (a := 52) (b := 1074) h0 (by omega)]
  · rw [if_neg h0, if_neg (by omega)]
    have h1 : 1 ≤ rung b / 2 ^ 52 := by omega
    generalize rung b / 2 ^ 52 = E at *
    generalize 2 ^ 52 + rung b % 2 ^ 52 = M
    by_cases h2 : E < 1075
    · rw [if_pos h2]; rw [div_fit M (E - 1) (1075 - E) 1074 (by omega)]
    · rw [if_neg h2]; rw [div_fit' M (E - 1) (E - 1075) 1074 (by omega)]
theorem tdiv_sval (b : Nat) (hb : b < 18446744073709551616) (h : 1 ≤ exR b) (h' : exR b < 2047) : (sval b).tdiv (2 ^ 1074) = truncS (decide (9223372036854775808 ≤ b)) b := by
  have e := rungV_trunc b h'
  rw [if_neg (by omega)] at e
  unfold sval truncS
  rw [sgn_eq b hb, ← e, pow_cast]
  generalize (2 ^ 1074 : Nat) = U
  cases decide (9223372036854775808 ≤ b)
  · simp only [if_false, Bool.false_eq_true]
    exact (Int.ofNat_tdiv _ _).symm
  · simp only [if_true]
    rw [Int.neg_tdiv]
    exact congrArg _ (Int.ofNat_tdiv _ _).symm
theorem toInt_val (b : Nat) (n : Int) (h : (Ieee.double.read b).toInt .zero = some n) (h0 : -9223372036854775808 ≤ n) (h1 : n ≤ 9223372036854775807) : floatToIntVal .f64 b .i64 = some n := by
  unfold floatToIntVal
  have e : (FloatKind.f64.decode b).toInt .zero = some n := h
  rw [e]
  have e1 : IntKind.i64.min = -9223372036854775808 := rfl
  have e2 : IntKind.i64.max = 9223372036854775807 := rfl
  simp only [e1, e2]
  rw [if_pos ⟨h0, h1⟩]
section
variable (b : Nat) (hb : b < 18446744073709551616)
include hb
theorem fin_of (h : exR b < 2047) : rung b < 2047 * 2 ^ 52 := by rw [exR_rung] at h; omega
theorem nan_of_fin (h : exR b < 2047) : nanB b = false := by unfold nanB; have := fin_of b hb h; simp; omega
theorem truncN_small (h : exR b < 1023) : truncN b = 0 := by
  have hM1 : mnR b < 2 ^ 53 := by unfold mnR; omega
  unfold truncN
  rw [if_pos (by omega)]
  exact div_small hM1 (by omega)
theorem plain_small (h : exR b < 1023) : outF b = false ∧ floatToIntVal .f64 b .i64 = some 0 := by
  have hn := nan_of_fin b hb (by omega)
  have hf := fin_of b hb (by omega)
  have hr : rung b < 1023 * 2 ^ 52 := by rw [exR_rung] at h; omega
  refine ⟨?_, toInt_val b 0 ?_ (by omega) (by omega)⟩
  · rw [outF_eq b hb, hn, ordR_eq b hb]
    by_cases hs : 9223372036854775808 ≤ b
    · rw [if_pos hs]; simp; omega
    · rw [if_neg hs]; simp; omega
  · rw [toInt_fin b hf]
    have e := rungV_trunc b (by omega)
    have e0 : rungV (rung b) / 2 ^ 1074 = 0 := by
      rw [e]; split
      · rfl
      · exact truncN_small b hb h
    unfold sval
    rw [pow_cast]
    generalize (2 ^ 1074 : Nat) = U at *
    have q : ((rungV (rung b) : Nat) : Int).tdiv (U : Int) = 0 := by rw [← Int.ofNat_tdiv, e0]; rfl
    cases sgn b
    · simp only [if_false, Bool.false_eq_true]; rw [q]
    · simp only [if_true]; rw [Int.neg_tdiv, q]; rfl
theorem plain_in (h : 1023 ≤ exR b) (h' : exR b < 1086) : outF b = false ∧ floatToIntVal .f64 b .i64 = some (truncS (decide (9223372036854775808 ≤ b)) b) := by
  have hn := nan_of_fin b hb (by omega)
  have hf := fin_of b hb (by omega)
  have hr : rung b < 1086 * 2 ^ 52 := by rw [exR_rung] at h'; omega
  have hT := truncN_lt b h'
  refine ⟨?_, toInt_val b _ ?_ ?_ ?_⟩
  · rw [outF_eq b hb, hn, ordR_eq b hb]
    by_cases hs : 9223372036854775808 ≤ b
    · rw [if_pos hs]; simp; omega
    · rw [if_neg hs]; simp; omega
  · rw [toInt_fin b hf, tdiv_sval b hb (by omega) (by omega)]
  · unfold truncS; split <;> omega
  · unfold truncS; split <;> omega
theorem plain_least (hm : 9223372036854775808 ≤ b) (h : exR b = 1086) (hM : mnR b = 4503599627370496) : outF b = false ∧ floatToIntVal .f64 b .i64 = some (-9223372036854775808) := by
  have hn := nan_of_fin b hb (by omega)
  have hf := fin_of b hb (by omega)
  have hr : rung b = 1086 * 2 ^ 52 := by rw [exR_rung] at h; rw [mnR_rung] at hM; omega
  refine ⟨?_, toInt_val b _ ?_ (by omega) (by omega)⟩
  · rw [outF_eq b hb, hn, ordR_eq b hb, if_pos hm, hr]
    simp
  · rw [toInt_fin b hf, tdiv_sval b hb (by omega) (by omega)]
    unfold truncS truncN
    rw [h, hM]
    simp [hm]
theorem plain_great (h : 1086 ≤ exR b) (hn : b < 9223372036854775808 ∨ exR b ≠ 1086 ∨ mnR b ≠ 4503599627370496) : outF b = true := by
  rw [outF_eq b hb, ordR_eq b hb]
  rw [exR_rung] at h hn
  rw [mnR_rung] at hn
  by_cases hs : 9223372036854775808 ≤ b
  · rw [if_pos hs]
    simp
    omega
  · rw [if_neg hs]
    simp
    omega
end
end Go.Proofs.YtcadbidccmiflaaDoor
