/-
  From the tables that a row lists to what the walks read, with Go's errors; a world that meets the row's condition. No conditions.
-/
import Derived.Test.YtcadbidccmiflaaDoorLaid
import Derived.Test.YtcadbidccmiflaaDoorNumParse3
import GoSem.PinnedTables
namespace Go.Proofs.YtcadbidccmiflaaDoor
open Go.RowKit Go.ChangeShapes Go.WideShapes

structure Tabs7 (w : World) : Prop where
  tabs : Tabs w
  err : ErrV w
def laid7 : List (String × DataW Unit) := laid3 ++ [("unicode/utf8.acceptRanges", Rows.laid_unicode_utf8_acceptRanges), ("strconv.ErrRange", Rows.laid_strconv_ErrRange), ("strconv.ErrSyntax", Rows.laid_strconv_ErrSyntax), ("unicode/utf8.first", Rows.laid_unicode_utf8_first)]
theorem err_of {W : World} (h : laidMet Tryd.prog laid7 W) : ErrV W := by
  obtain ⟨ps, hl, _⟩ := h
  obtain ⟨g0, t0, cs0, fuel0, p0, q0, hg0, ht0, hvar0, hd0, hl, _⟩ := hl
  obtain ⟨g1, t1, cs1, fuel1, p1, q1, hg1, ht1, hvar1, hd1, hl, _⟩ := hl
  obtain ⟨g2, t2, cs2, fuel2, p2, q2, hg2, ht2, hvar2, hd2, hl, _⟩ := hl
  obtain ⟨g3, t3, cs3, fuel3, p3, q3, hg3, ht3, hvar3, hd3, hl, _⟩ := hl
  obtain ⟨g4, t4, cs4, fuel4, p4, q4, hg4, ht4, hvar4, hd4, hl, _⟩ := hl
  have G4 : Tryd.prog.globalNamed "strconv.ErrRange" = some 2 := by kernel_rfl
  obtain rfl := Option.some.inj (G4.symm.trans hg4)
  have T4 : (Tryd.prog.globals[2]?).map (·.type) = some 68 := by kernel_rfl
  obtain rfl := Option.some.inj (T4.symm.trans ht4)
  obtain ⟨l4⟩ := cs4
  obtain ⟨f1, u, v, rfl, _, _⟩ := iface_of_trod Tryd.underlying68 hd4
  exact ⟨.iface u v, by simpa using World.var?_cell G4 hvar4 0, .inr ⟨u, v, rfl⟩⟩
theorem tabs7_of {W : World} (h : laidMet Tryd.prog laid7 W) : Tabs7 W := ⟨tabs_of h, err_of h⟩

/-- Where the errors' texts lie. -/
noncomputable def low7 : Nat := (World.holding Tryd.prog default ⟨#[], #[], []⟩).heap.size
/-- The settled world with the tables and the errors laid. -/
noncomputable def laidWorld7 (os : Os) : World :=
  let w0 := World.holding Tryd.prog os ⟨#[.cells #[.string ⟨#[118, 97, 108, 117, 101, 32, 111, 117, 116, 32, 111, 102, 32, 114, 97, 110, 103, 101]⟩] 142, .cells #[.string ⟨#[105, 110, 118, 97, 108, 105, 100, 32, 115, 121, 110, 116, 97, 120]⟩] 142], #[], []⟩
  { w0 with heap := ((((((w0.heap.modify 7 fun
      | .cells _ t frozen => .cells (Lib.deBruijn32tab.map fun n : Nat => Value.int .u8 (n : Int)).toArray t frozen
      | o => o).modify 8 fun
      | .cells _ t frozen => .cells (Lib.deBruijn64tab.map fun n : Nat => Value.int .u8 (n : Int)).toArray t frozen
      | o => o).modify 3 fun
      | .cells _ t frozen => .cells (Lib.pow10Tab.map fun n => Value.int .u64 n).toArray t frozen
      | o => o).modify 6 fun
      | .cells _ t frozen => .cells (([128, 191, 160, 191, 128, 159, 144, 191, 128, 143] ++ List.replicate 22 0 : List Int).map fun n => Value.int .u8 n).toArray t frozen
      | o => o).modify 2 fun
      | .cells _ t frozen => .cells #[.iface 140 (.pointer (some ⟨low7, 0, none⟩))] t frozen
      | o => o).modify 1 fun
      | .cells _ t frozen => .cells #[.iface 140 (.pointer (some ⟨low7 + 1, 0, none⟩))] t frozen
      | o => o).modify 5 fun
      | .cells _ t frozen => .cells (Go.Pinned.utf8FirstZ.map fun n : Nat => Value.int .u8 (n : Int)).toArray t frozen
      | o => o }
set_option maxRecDepth 100000 in
theorem laidWorld7_met (os : Os) (args : Array Value) : laidMet Tryd.prog laid7 ((laidWorld7 os).forCall (fun _ _ => 0) ⟨#[], args, []⟩).memory :=
  laidMet_of_run' 8 (by kernel_rfl) (by kernel_rfl)
end Go.Proofs.YtcadbidccmiflaaDoor
