/-
  A region's ways brought together: what its act is, and what holds of the world behind it. No conditions.
-/
import Derived.Test.YtlnmicddobgppaaGreatDoorKit
namespace Go.Proofs.YtlnmicddobgppaaGreatDoor
open Go.RowKit

/-- It goes on, with this act, in a world of which F holds. -/
def Via (A : Act) (F : World → Prop) : Exit → Act → World → Prop
  | .normal, b, V => b = A ∧ F V
  | _, _, _ => False
theorem Via.mk {A : Act} {F : World → Prop} {V : World} (h : F V) : Via A F .normal A V := ⟨rfl, h⟩
theorem wp_via {P : Program} {c : Code} {Q : Exit → Act → World → Prop} {a : Act} {w : World} (F : World → Prop) (A : Act) (h : c.wp P (Via A F) a w) (k : ∀ V, F V → Q .normal A V) : c.wp P Q a w :=
  Code.wp_mono (fun e b V hv => by
    cases e <;> simp only [Via] at hv
    obtain ⟨rfl, hF⟩ := hv
    exact k V hF) h
end Go.Proofs.YtlnmicddobgppaaGreatDoor
