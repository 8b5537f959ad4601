/-
  Contract of num.Int (for the rounds that have no other text of package num). No conditions.
-/
import Derived.Test.YtlnmicddobgppaaGreatDoorBase01
namespace Go.Proofs.YtlnmicddobgppaaGreatDoor
set_option linter.unusedSimpArgs false
set_option linter.unusedVariables false
open Go.RowKit

theorem int_any (n : Int) (w : World) :
    Calls Tryz.prog 114 #[.int .i64 n] w fun e w' => e = .returned (.agg #[.bool false, .int .u64 (IntKind.u64.wrap n)]) ∧ Fr Nil w w' := by
  go_enter Tryz.func114, Tryz.ntmps114
  go_wp2
  refine bodyPost_ret (v := .agg #[.bool false, .int .u64 (IntKind.u64.wrap n)]) (by simp [results, Tryz.results114, go_sem]) rfl ⟨rfl, ?_⟩
  (repeat (first | (with_reducible exact Fr.refl _ _) | (with_reducible assumption) | (with_reducible exact Fr.of_nil (by assumption)) | (with_reducible refine Fr.drew ?_) | (with_reducible refine Fr.drewN ?_ _) | (with_reducible refine Fr.alloc ?_ _) | (with_reducible refine Fr.set ?_ _ _ (by first | (intros; omega) | (simp; done) | (simp; omega))) | (with_reducible refine Fr.via ?_ (by assumption)) | (with_reducible refine Fr.comp ?_ (by assumption))))
end Go.Proofs.YtlnmicddobgppaaGreatDoor
