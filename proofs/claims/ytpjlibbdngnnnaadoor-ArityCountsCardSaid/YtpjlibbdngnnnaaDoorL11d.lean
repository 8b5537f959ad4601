/-
  The law: arity counts (layer 11), for bytes as the row opens them. Conditions: the listed variable errors.errorType.
-/
import Derived.Test.YtpjlibbdngnnnaaDoorL11c
namespace Go.Proofs.YtpjlibbdngnnnaaDoor
open Go.RowKit

theorem byte_nat {n : Int} (h : (Lit.int .u8 n).wf = true) : ∃ k : Nat, n = (k : Int) ∧ k < 256 := by
  have h2 : 0 ≤ n ∧ n ≤ 255 := by
    have e1 : IntKind.u8.min = 0 := rfl
    have e2 : IntKind.u8.max = 255 := rfl
    simp [Lit.wf, e1, e2] at h
    omega
  exact ⟨n.toNat, by omega, by omega⟩
theorem counts_int (a b c : Int) (w : World) (hT : ErrT w) (ha : (Lit.int .u8 a).wf = true) (hb : (Lit.int .u8 b).wf = true) (hc : (Lit.int .u8 c).wf = true) :
    Calls Tryd.prog 7 #[.int .u8 a, .int .u8 b, .int .u8 c] w fun r w' => r = .returned (.bool true) ∧ Fr Nil w w' := by
  obtain ⟨x, rfl, hx⟩ := byte_nat ha
  obtain ⟨y, rfl, hy⟩ := byte_nat hb
  obtain ⟨z, rfl, hz⟩ := byte_nat hc
  exact counts_any x y z hx hy hz w hT
end Go.Proofs.YtpjlibbdngnnnaaDoor
