/-
  From the listed variable errors.errorType to what the walks read; a world that meets the row's condition (turned from the worked example 'toyas'). No conditions.
-/
import Derived.Test.YtpjlibbdngnnnaaDoorSpAs
import Derived.Test.YtpjlibbdngnnnaaDoorRows
import Derived.ChangeSame
import Derived.ChangeVars
import Derived.JoinedOf
import Derived.RowKit
import Derived.RowKitTokens
import Derived.LaidLaws
import Derived.LaidHandle
import Derived.Stop.Joined
namespace Go.Proofs.YtpjlibbdngnnnaaDoor
open Go.ChangeShapes Go.WideShapes Go.RowKit

def laid10 : List (String × DataW Unit) := [("errors.errorType", Rows.laid_errors_errorType)]
theorem et10 : Tryd.prog.globalNamed "errors.errorType" = some 0 := by kernel_rfl
theorem rt10 : (Tryd.prog.cutTypes.find? (·.1 == "internal/reflectlite.rtype")).map (·.2) = some 155 := by kernel_rfl
theorem row10 : ((List.range 229).filter fun t => Tryd.prog.rowNamed t [101, 114, 114, 111, 114]) = [67] := by kernel_rfl
theorem size10 : Tryd.prog.types.size = 229 := by kernel_rfl
theorem errT_of {W : World} (h : laidMetH Tryd.prog laid10 W) : ErrT W := by
  have h' : laidMet Tryd.prog [] W ∧ handlesMet Tryd.prog laid10 W := h
  obtain ⟨name, u, ty, e1, e2, e3, e4, e5⟩ := h'.2 _ (List.mem_singleton.2 rfl)
  have en : name = [101, 114, 114, 111, 114] := (Option.some.inj e1).symm
  subst en
  obtain rfl := Option.some.inj (rt10.symm.trans e2)
  have hm : ty ∈ (List.range 229).filter fun t => Tryd.prog.rowNamed t [101, 114, 114, 111, 114] := List.mem_filter.2 ⟨List.mem_range.2 (by rw [← size10]; exact e3), e4⟩
  rw [row10] at hm
  obtain rfl := List.mem_singleton.1 hm
  have hh : typeHandle Tryd.prog 67 = .pointer (some ⟨5, 67, none⟩) := by kernel_rfl
  rw [hh] at e5
  unfold ErrT
  simpa using World.var?_cell et10 e5 0
/-- The settled world, the variable's cell laid. -/
noncomputable def laidWorld10 (os : Os) : World :=
  let w0 := World.holding Tryd.prog os ⟨#[], #[], []⟩
  { w0 with heap := w0.heap.modify 0 fun
      | .cells _ t frozen => .cells #[.iface 155 (.agg #[.pointer (some ⟨5, 67, none⟩)])] t frozen
      | o => o }
theorem laidWorld10_met (os : Os) (args : Array Value) : laidMetH Tryd.prog laid10 ((laidWorld10 os).forCall (fun _ _ => 0) ⟨#[], args, []⟩).memory :=
  laidMetH_of_parts (laidMet_nil _ _) (by kernel_rfl)
end Go.Proofs.YtpjlibbdngnnnaaDoor
