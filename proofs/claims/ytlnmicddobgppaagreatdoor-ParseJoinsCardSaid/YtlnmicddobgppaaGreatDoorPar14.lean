/-
  An expression (layer 8): what expr reads, at whatever depth. No conditions.
-/
import Derived.Test.YtlnmicddobgppaaGreatDoorPar13
namespace Go.Proofs.YtlnmicddobgppaaGreatDoor
set_option linter.unusedSimpArgs false
set_option linter.unusedVariables false
open Go.RowKit

theorem pexpr_all (pb : Nat) (vT : Value) (L : List TokV) : ∀ (d deep : Nat), deep + d = 201 → Reads pb vT L 61 (deep : Int) (exprF L d)
  | 0, deep, hd => fun w s h => by
    by_cases he : s.e = 0
    · have e : exprF L 0 s = (zeroE, faultF L 3 (if startsF L s = true then faultF L 12 s else s)) := by unfold exprF; rw [if_neg (by simpa using he)]
      rw [e]
      exact pexpr_deep h he (by omega)
    · have e : exprF L 0 s = (zeroE, s) := by unfold exprF; rw [if_pos he]
      rw [e]
      exact pexpr_err h he
  | d + 1, deep, hd => fun w s h => by
    have hex : Reads pb vT L 61 ((deep : Int) + 1) (exprF L d) := by
      have h := pexpr_all pb vT L d (deep + 1) (by omega)
      rw [show ((deep + 1 : Nat) : Int) = (deep : Int) + 1 by omega] at h
      exact h
    have hgo := expr_goes L d
    by_cases he : s.e = 0
    · have e0 : exprF L (d + 1) s = exprStep L (exprF L d) s := by conv => lhs; unfold exprF
      by_cases hl : seesF L [108, 101, 116] s = true
      · have e : exprF L (d + 1) s = letF L (exprF L d) s := by rw [e0]; unfold exprStep; rw [if_neg (by simpa using he), if_pos hl]
        rw [e]
        exact pexpr_let h he (by omega) hl hgo hex
      · by_cases hc : seesF L [99, 97, 115, 101] s = true
        · have e : exprF L (d + 1) s = choiceF L (exprF L d) s := by rw [e0]; unfold exprStep; rw [if_neg (by simpa using he), if_neg hl, if_pos hc]
          rw [e]
          exact pexpr_case h he (by omega) (by simpa using hl) hc hgo hex
        · by_cases hm : seesF L [92] s = true
          · have e : exprF L (d + 1) s = lamF L (exprF L d) s := by rw [e0]; unfold exprStep; rw [if_neg (by simpa using he), if_neg hl, if_neg hc, if_pos hm]
            rw [e]
            exact pexpr_lam h he (by omega) (by simpa using hl) (by simpa using hc) hm hex
          · have e : exprF L (d + 1) s = opF L (exprF L d) s := by rw [e0]; unfold exprStep; rw [if_neg (by simpa using he), if_neg hl, if_neg hc, if_neg hm]
            rw [e]
            exact pexpr_op h he (by omega) (by simpa using hl) (by simpa using hc) (by simpa using hm) hgo hex
    · have e : exprF L (d + 1) s = (zeroE, s) := by unfold exprF exprStep; rw [if_pos he]
      rw [e]
      exact pexpr_err h he
end Go.Proofs.YtlnmicddobgppaaGreatDoor
