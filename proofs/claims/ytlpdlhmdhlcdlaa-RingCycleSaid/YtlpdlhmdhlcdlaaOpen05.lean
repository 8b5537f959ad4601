/-
  Layer 5: what a row's argument says. No conditions.
-/
import Derived.Test.YtlpdlhmdhlcdlaaOpen
import Derived.ProofKit
import Derived.OpenShut
namespace Go.Proofs.Ytlpdlhmdhlcdlaa
open Go.RowKit
theorem wf_u8 {a : Int} (h : (Lit.int .u8 a).wf = true) : 0 ≤ a ∧ a < 256 := by
  have e1 : IntKind.u8.min = 0 := rfl
  have e2 : IntKind.u8.max = 255 := rfl
  simp [Lit.wf, e1, e2] at h
  omega
end Go.Proofs.Ytlpdlhmdhlcdlaa
