/-
  Floats of 64 bits by their words: either way, none's kind, opposites. Plain laws. No conditions.
-/
import Derived.Test.YtcadbidccmiflaaDoorIeee3
import Derived.Test.YtcadbidccmiflaaDoorRef01e
namespace Go.Proofs.YtcadbidccmiflaaDoor
set_option linter.unusedSimpArgs false
set_option linter.unusedVariables false
open Go.RowKit Ieee

theorem sum_comm (d e : Datum) : d.sum e = e.sum d := by
  cases d <;> cases e <;> simp only [Datum.sum]
  · rename_i s m i t n j
    rw [Int.min_comm j i, Int.add_comm (signed t n _), Bool.and_comm t s]
  · rename_i s t
    by_cases h : s = t
    · subst h; rfl
    · rw [if_neg h, if_neg (fun q => h q.symm)]
theorem product_comm (d e : Datum) : d.product e = e.product d := by
  cases d <;> cases e <;> simp only [Datum.product]
  · rename_i s m i t n j
    rw [Bool.xor_comm, Nat.mul_comm, Int.add_comm]
  · rw [Bool.xor_comm]
theorem fop_add_comm (x y : Nat) : fop .add x y = fop .add y x := by
  unfold fop
  show (match ((double.read x).sum (double.read y)).map double.write with | some r => normF r | none => _) = (match ((double.read y).sum (double.read x)).map double.write with | some r => normF r | none => _)
  rw [sum_comm]
theorem fop_mul_comm (x y : Nat) : fop .mul x y = fop .mul y x := by
  unfold fop
  show (match ((double.read x).product (double.read y)).map double.write with | some r => normF r | none => _) = (match ((double.read y).product (double.read x)).map double.write with | some r => normF r | none => _)
  rw [product_comm]
theorem fop_nan (op : BinOp) (hop : op = .add ∨ op = .sub ∨ op = .mul ∨ op = .quo) (x y : Nat) (h : (nanB x || nanB y) = true) : fop op x y = 9221120237041090560 := by
  have hn : floatBits op .f64 x y = none := by
    simp [nanB] at h
    rcases h with h | h
    · obtain ⟨f, e⟩ := read_nan x h
      rcases hop with rfl | rfl | rfl | rfl
      · show ((double.read x).sum (double.read y)).map double.write = none
        rw [e]; rfl
      · show ((double.read x).sum (double.read y).opposite).map double.write = none
        rw [e]; rfl
      · show ((double.read x).product (double.read y)).map double.write = none
        rw [e]; rfl
      · show ((double.read x).quotient _ (double.read y)).map double.write = none
        rw [e]; rfl
    · obtain ⟨f, e⟩ := read_nan y h
      rcases hop with rfl | rfl | rfl | rfl
      · show ((double.read x).sum (double.read y)).map double.write = none
        rw [e]; cases double.read x <;> rfl
      · show ((double.read x).sum (double.read y).opposite).map double.write = none
        rw [e]; cases double.read x <;> rfl
      · show ((double.read x).product (double.read y)).map double.write = none
        rw [e]; cases double.read x <;> rfl
      · show ((double.read x).quotient _ (double.read y)).map double.write = none
        rw [e]; cases double.read x <;> rfl
  unfold fop
  rw [hn]
theorem nan_word (s : Bool) (r : Nat) (h : r ≤ 2047 * 2 ^ 52) : nanB (double.word s r) = false := by
  unfold nanB
  rw [(word_sgn s r (by omega)).2.1]
  simp; omega
theorem read_m1 : double.read 13830554455654793216 = .number true (2 ^ 52) (-52) := by decide
/-- A number times -1. -/
theorem fop_m1 (x : Nat) (h : nanB x = false) : fop .mul x 13830554455654793216 = double.word (!sgn x) (rung x) := by
  have hr : rung x ≤ 2047 * 2 ^ 52 := by simpa [nanB] using h
  have e : ((double.read x).product (double.read 13830554455654793216)).map double.write = some (double.word (!sgn x) (rung x)) := by
    rw [read_m1]
    rcases Nat.lt_or_eq_of_le hr with g | g
    · obtain ⟨m, i, e1, e2⟩ := write_exact (!sgn x) x g
      rw [e1]
      simp only [Datum.product, Option.map_some]
      congr 1
      show double.nearest (sgn x ^^ true) (m * 2 ^ 52) (i + -52) = _
      rw [Bool.xor_true, ← Nat.shiftLeft_eq, ← e2]
      exact nearest_shift (!sgn x) m 52 i
    · rw [read_inf x g, g]
      simp only [Datum.product]
      rw [if_neg (by decide), Option.map_some, Bool.xor_true]
      rfl
  unfold fop
  show (match ((double.read x).product (double.read 13830554455654793216)).map double.write with | some r => normF r | none => _) = _
  rw [e]
  exact normF_id _ (nan_word _ _ hr)
theorem word_self (x : Nat) (h : x < 18446744073709551616) : double.word (sgn x) (rung x) = x := by
  unfold Format.word sgn rung
  rw [dsw]
  by_cases g : 9223372036854775808 ≤ x
  · rw [if_pos (by simp; omega)]; omega
  · rw [if_neg (by simp; omega)]; omega
theorem fop_back (x : Nat) (hx : x < 18446744073709551616) (h : nanB x = false) : fop .mul (fop .mul x 13830554455654793216) 13830554455654793216 = x := by
  have hr : rung x ≤ 2047 * 2 ^ 52 := by simpa [nanB] using h
  obtain ⟨w1, w2, w3⟩ := word_sgn (!sgn x) (rung x) (by omega)
  rw [fop_m1 x h, fop_m1 _ (nan_word _ _ hr), w1, w2, Bool.not_not]
  exact word_self x hx
theorem tri (x y : Nat) (hx : nanB x = false) (hy : nanB y = false) : (flessR x y = true ∧ flessR y x = false ∧ feqR x y = false) ∨ (flessR x y = false ∧ flessR y x = true ∧ feqR x y = false) ∨ (flessR x y = false ∧ flessR y x = false ∧ feqR x y = true) := by
  unfold flessR feqR
  rw [hx, hy]
  simp
  omega
theorem tri_nan (x y : Nat) (h : (nanB x || nanB y) = true) : flessR x y = false ∧ flessR y x = false ∧ feqR x y = false := by
  unfold flessR feqR
  rw [Bool.or_comm (nanB y), h]
  simp
theorem feq_self (x : Nat) (hx : nanB x = false) : feqR x x = true := by
  unfold feqR
  rw [hx]
  simp
end Go.Proofs.YtcadbidccmiflaaDoor
