/-
  What Print's contracts need ahead of them, where a round has the document's Print alone. No conditions.
-/
import Derived.Test.YtpjlibbdngnnnaaDoorBase01
import Derived.Deep.LoopGhost
import Derived.Laws.IdiomStrings
import Derived.Lib.ItoaNum
namespace Go.Proofs.YtpjlibbdngnnnaaDoor
set_option linter.unusedSimpArgs false
set_option linter.unusedVariables false
open Go.RowKit

def hexd (n : Nat) : UInt8 := if n < 10 then UInt8.ofNat (48 + n) else UInt8.ofNat (87 + n)
def hexL (n : Nat) : List UInt8 := if n < 16 then [hexd n] else hexL (n / 16) ++ [hexd (n % 16)]
termination_by n
decreasing_by omega
theorem hexL_lt {n : Nat} (h : n < 16) : hexL n = [hexd n] := by rw [hexL, if_pos h]
theorem hexL_ge {n : Nat} (h : 16 ≤ n) : hexL n = hexL (n / 16) ++ [hexd (n % 16)] := by rw [hexL, if_neg (by omega)]
theorem hex_at (k : Nat) (h : k < 16) (h' : k < (⟨#[48, 49, 50, 51, 52, 53, 54, 55, 56, 57, 97, 98, 99, 100, 101, 102, 103, 104, 105, 106, 107, 108, 109, 110, 111, 112, 113, 114, 115, 116, 117, 118, 119, 120, 121, 122]⟩ : ByteArray).size) : (⟨#[48, 49, 50, 51, 52, 53, 54, 55, 56, 57, 97, 98, 99, 100, 101, 102, 103, 104, 105, 106, 107, 108, 109, 110, 111, 112, 113, 114, 115, 116, 117, 118, 119, 120, 121, 122]⟩ : ByteArray)[k]'h' = hexd k := by
  match k, h with
  | 0, _ | 1, _ | 2, _ | 3, _ | 4, _ | 5, _ | 6, _ | 7, _ | 8, _ | 9, _ | 10, _ | 11, _ | 12, _ | 13, _ | 14, _ | 15, _ => rfl
  | k + 16, h => omega
theorem wrap_u64 (a : Nat) (ha : a < 18446744073709551616) : IntKind.u64.wrap (a : Int) = (a : Int) := by
  simp [IntKind.wrap, IntKind.signed, IntKind.bits]; omega
theorem and_15 (v : Nat) (h : v < 18446744073709551616) : bits BinOp.and IntKind.u64 (v : Int) 15 = ((v % 16 : Nat) : Int) := by
  show IntKind.u64.wrap ((BitVec.ofInt 64 (v : Int) &&& BitVec.ofInt 64 15).toNat : Int) = _
  have e : (BitVec.ofInt 64 (v : Int)).toNat = v := by rw [BitVec.ofInt_natCast, BitVec.toNat_ofNat]; exact Nat.mod_eq_of_lt (by omega)
  have e' : (BitVec.ofInt 64 15).toNat = 2 ^ 4 - 1 := by decide
  rw [BitVec.toNat_and, e, e', Nat.and_two_pow_sub_one_eq_mod, wrap_u64 _ (by omega)]
def printF (b : Nat) : List UInt8 := [48, 102] ++ List.replicate (16 - (hexL b).length) 48 ++ hexL b
theorem hexL_len (k : Nat) : ∀ n : Nat, 1 ≤ k → n < 16 ^ k → (hexL n).length ≤ k := by
  induction k with
  | zero => intro n h; omega
  | succ k ih =>
    intro n _ h
    by_cases h16 : n < 16
    · rw [hexL_lt h16]; simp
    · rw [hexL_ge (by omega)]
      have hk : 1 ≤ k := by
        rcases Nat.eq_zero_or_pos k with rfl | q
        · omega
        · exact q
      have := ih (n / 16) hk (by rw [Nat.pow_succ] at h; omega)
      simp; omega
end Go.Proofs.YtpjlibbdngnnnaaDoor
