/-
  What the contracts of layer 1's parsing need, where the rest of layer 1 is not reached (rounds but r01). No conditions.
-/
import Derived.Test.YtlnmicddobgppaaGreatDoorRows
import Derived.Test.YtlnmicddobgppaaGreatDoorKit
import Derived.Deep.LoopGhost
import Derived.Deep.QuietTactic
import Derived.BigQuiet
import Derived.RegionTactic
import Derived.Laws.IdiomStrings
namespace Go.Proofs.YtlnmicddobgppaaGreatDoor
set_option linter.unusedSimpArgs false
set_option linter.unusedVariables false
open Go.RowKit

theorem u64m (n : Int) : IntKind.u64.wrap n = n % 18446744073709551616 := by
  simp [IntKind.wrap, IntKind.signed, IntKind.bits]
theorem cast_mod (x : Nat) : ((x % 18446744073709551616 : Nat) : Int) = (x : Int) % 18446744073709551616 := by omega
theorem agg_ret {a b : Int} {e : Int} {f : Bool} (h : a = b) : Ending.returned (.tuple #[.agg #[.bool f, .int .u64 a], .int .i64 e]) = .returned (.tuple #[.agg #[.bool f, .int .u64 b], .int .i64 e]) := by rw [h]
theorem wrapU (n : Nat) (h : n < 18446744073709551616) : IntKind.u64.wrap (n : Int) = (n : Int) := by rw [u64m]; omega
theorem Fr.ofBelow {w w1 : World} (h : Below w.heap.size w w1) : Fr Nil w w1 := Fr.of_below h (fun k hk q => by omega)
end Go.Proofs.YtlnmicddobgppaaGreatDoor
