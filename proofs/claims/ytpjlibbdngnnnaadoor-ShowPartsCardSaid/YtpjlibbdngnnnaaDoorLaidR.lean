/-
  From the tables that a row lists to what the walks read; a world that meets the row's condition. No conditions.
-/
import Derived.Test.YtpjlibbdngnnnaaDoorPrR
import Derived.Test.YtpjlibbdngnnnaaDoorRows
import Derived.ChangeSame
import Derived.ChangeVars
import Derived.JoinedOf
import Derived.RowKit
import Derived.RowKitTokens
import Derived.LaidLaws
import Derived.Shelf.Spec.TrailingZeros
namespace Go.Proofs.YtpjlibbdngnnnaaDoor
open Go.RowKit

def laid3 : List (String × DataW Unit) := [("math/bits.deBruijn32tab", Rows.laid_math_bits_deBruijn32tab), ("math/bits.deBruijn64tab", Rows.laid_math_bits_deBruijn64tab), ("internal/strconv.uint64pow10", Rows.laid_internal_strconv_uint64pow10)]
theorem tabs_of {rest : List (String × DataW Unit)} {W : World} (h : laidMet Tryd.prog (laid3 ++ rest) W) : Tabs W := by
  obtain ⟨ps, hl, _⟩ := h
  obtain ⟨g0, t0, cs0, fuel0, p0, q0, hg0, ht0, hvar0, hd0, hl, _⟩ := hl
  obtain ⟨g1, t1, cs1, fuel1, p1, q1, hg1, ht1, hvar1, hd1, hl, _⟩ := hl
  obtain ⟨g2, t2, cs2, fuel2, p2, q2, hg2, ht2, hvar2, hd2, hl, _⟩ := hl
  have G1 : Tryd.prog.globalNamed "math/bits.deBruijn64tab" = some 4 := by kernel_rfl
  have G2 : Tryd.prog.globalNamed "internal/strconv.uint64pow10" = some 1 := by kernel_rfl
  obtain rfl := Option.some.inj (G1.symm.trans hg1)
  obtain rfl := Option.some.inj (G2.symm.trans hg2)
  have T1 : (Tryd.prog.globals[4]?).map (·.type) = some 202 := by kernel_rfl
  have T2 : (Tryd.prog.globals[1]?).map (·.type) = some 196 := by kernel_rfl
  obtain rfl := Option.some.inj (T1.symm.trans ht1)
  obtain rfl := Option.some.inj (T2.symm.trans ht2)
  have e1 := Lib.cells_of_tab (zs := Lib.deBruijn64tab.map fun n : Nat => (n : Int)) (k := .u8) (n := 64) Tryd.underlying202 Tryd.underlying5 (by kernel_rfl) (by kernel_rfl) hd1
  have e2 := Lib.cells_of_tab (zs := Lib.pow10Tab) (k := .u64) (n := 20) Tryd.underlying196 Tryd.underlying34 (by kernel_rfl) (by kernel_rfl) hd2
  have P1 : Lib.TabIs Tryd.prog W "math/bits.deBruijn64tab" .u8 (Lib.deBruijn64tab.map fun n : Nat => (n : Int)) := by unfold Lib.TabIs; rw [hvar1, ← e1]
  refine ⟨by unfold Lib.TabIs; rw [hvar2, ← e2], ?_⟩
  exact P1.cell G1 15 (by decide)

/-- The settled world with the tables laid. -/
noncomputable def laidWorld (os : Os) : World :=
  let w0 := World.holding Tryd.prog os ⟨#[], #[], []⟩
  { w0 with heap := ((w0.heap.modify 3 fun
      | .cells _ t frozen => .cells (Lib.deBruijn32tab.map fun n : Nat => Value.int .u8 (n : Int)).toArray t frozen
      | o => o).modify 4 fun
      | .cells _ t frozen => .cells (Lib.deBruijn64tab.map fun n : Nat => Value.int .u8 (n : Int)).toArray t frozen
      | o => o).modify 1 fun
      | .cells _ t frozen => .cells (Lib.pow10Tab.map fun n => Value.int .u64 n).toArray t frozen
      | o => o }
set_option maxRecDepth 100000 in
theorem laidWorld_met (os : Os) (args : Array Value) : laidMet Tryd.prog laid3 ((laidWorld os).forCall (fun _ _ => 0) ⟨#[], args, []⟩).memory :=
  laidMet_of_run' 8 (by kernel_rfl) (by kernel_rfl)
end Go.Proofs.YtpjlibbdngnnnaaDoor
