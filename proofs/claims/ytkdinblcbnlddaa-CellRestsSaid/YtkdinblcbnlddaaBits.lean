/-
  Small laws on the bits of int64 (no program in sight). No conditions.
-/
import Derived.WalkKit
import Derived.WalkLawsBesides
import Derived.Laws.Bits64b
namespace Go.Proofs.Ytkdinblcbnlddaa
set_option linter.unusedSimpArgs false
set_option linter.unusedVariables false
open Go.RowKit

theorem ofInt_nat (a : Nat) (ha : a < 9223372036854775808) : (BitVec.ofInt 64 (a : Int)).toNat = a := by
  rw [BitVec.ofInt_natCast, BitVec.toNat_ofNat]; exact Nat.mod_eq_of_lt (by omega)
theorem wrap_nat (a : Nat) (ha : a < 9223372036854775808) : IntKind.i64.wrap (a : Int) = (a : Int) := by
  rw [IntKind.wrap_i64]; omega
theorem or_i64 (a b : Nat) (ha : a < 9223372036854775808) (hb : b < 9223372036854775808) : bits .or .i64 (a : Int) (b : Int) = ((a ||| b : Nat) : Int) := by
  have hx : a ||| b < 2 ^ 63 := Nat.or_lt_two_pow (by omega) (by omega)
  show IntKind.i64.wrap ((BitVec.ofInt 64 (a : Int) ||| BitVec.ofInt 64 (b : Int)).toNat : Int) = _
  rw [BitVec.toNat_or, ofInt_nat a ha, ofInt_nat b hb, wrap_nat _ (by omega)]
theorem or_add (a b k : Nat) (ha : a < 2 ^ k) (hb : 2 ^ k * b < 9223372036854775808) (hk : k ≤ 62) : bits .or .i64 (a : Int) ((2 ^ k * b : Nat) : Int) = ((a + 2 ^ k * b : Nat) : Int) := by
  have h2 : 2 ^ k ≤ 2 ^ 62 := Nat.pow_le_pow_right (by decide) hk
  rw [or_i64 a _ (by omega) hb, Nat.or_comm, ← Nat.two_pow_add_eq_or_of_lt ha, Nat.add_comm]
theorem and_mask (x : Int) (k : Nat) (hk : k ≤ 62) : bits .and .i64 x ((2 ^ k - 1 : Nat) : Int) = x % ((2 ^ k : Nat) : Int) := by
  have h2 : 2 ^ k ≤ 2 ^ 62 := Nat.pow_le_pow_right (by decide) hk
  have hp : 0 < 2 ^ k := Nat.pow_pos (by decide)
  show IntKind.i64.wrap ((BitVec.ofInt 64 x &&& BitVec.ofInt 64 ((2 ^ k - 1 : Nat) : Int)).toNat : Int) = _
  rw [BitVec.toNat_and, ofInt_nat (2 ^ k - 1) (by omega), Nat.and_two_pow_sub_one_eq_mod, wrap_nat _ (Nat.lt_of_lt_of_le (Nat.mod_lt _ hp) (by omega)), BitVec.toNat_ofInt]
  have h0 : (0 : Int) ≤ x % ((2 ^ 64 : Nat) : Int) := Int.emod_nonneg _ (by decide)
  rw [Int.natCast_emod, Int.toNat_of_nonneg h0]
  refine Int.emod_emod_of_dvd _ ?_
  exact Int.natCast_dvd_natCast.2 (Nat.pow_dvd_pow 2 (by omega))
end Go.Proofs.Ytkdinblcbnlddaa
