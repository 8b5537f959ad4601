/-
  From what a row lists to what the walks read, with Go's errors and the world's shape; a world that meets the row's condition. No conditions.
-/
import Derived.Test.YtlnmicddobgppaaGreatDoorLxC
import Derived.Test.YtlnmicddobgppaaGreatDoorRows
import Derived.LaidLaws
import Derived.Lib.ItoaNum
import Derived.Shelf.Spec.TrailingZeros
import Derived.Handed
import Derived.HandedShaped
import Derived.Shelf.Vars
import GoSem.PinnedTables
namespace Go.Proofs.YtlnmicddobgppaaGreatDoor
open Go.RowKit Go.ChangeShapes Go.WideShapes

def laid3 : List (String × DataW Unit) := [("math/bits.deBruijn32tab", Rows.laid_math_bits_deBruijn32tab), ("math/bits.deBruijn64tab", Rows.laid_math_bits_deBruijn64tab), ("internal/strconv.uint64pow10", Rows.laid_internal_strconv_uint64pow10)]
def laid7 : List (String × DataW Unit) := laid3 ++ [("unicode/utf8.acceptRanges", Rows.laid_unicode_utf8_acceptRanges), ("strconv.ErrRange", Rows.laid_strconv_ErrRange), ("strconv.ErrSyntax", Rows.laid_strconv_ErrSyntax), ("unicode/utf8.first", Rows.laid_unicode_utf8_first)]
theorem err_of {W : World} (h : laidMet Tryz.prog laid7 W) : ErrV W := by
  obtain ⟨ps, hl, _⟩ := h
  obtain ⟨g0, t0, cs0, fuel0, p0, q0, hg0, ht0, hvar0, hd0, hl, _⟩ := hl
  obtain ⟨g1, t1, cs1, fuel1, p1, q1, hg1, ht1, hvar1, hd1, hl, _⟩ := hl
  obtain ⟨g2, t2, cs2, fuel2, p2, q2, hg2, ht2, hvar2, hd2, hl, _⟩ := hl
  obtain ⟨g3, t3, cs3, fuel3, p3, q3, hg3, ht3, hvar3, hd3, hl, _⟩ := hl
  obtain ⟨g4, t4, cs4, fuel4, p4, q4, hg4, ht4, hvar4, hd4, hl, _⟩ := hl
  have G4 : Tryz.prog.globalNamed "strconv.ErrRange" = some 2 := by kernel_rfl
  obtain rfl := Option.some.inj (G4.symm.trans hg4)
  have T4 : (Tryz.prog.globals[2]?).map (·.type) = some 110 := by kernel_rfl
  obtain rfl := Option.some.inj (T4.symm.trans ht4)
  obtain ⟨l4⟩ := cs4
  obtain ⟨f1, u, v, rfl, _, _⟩ := iface_of_trod Tryz.underlying110 hd4
  exact ⟨.iface u v, by simpa using World.var?_cell G4 hvar4 0, .inr ⟨u, v, rfl⟩⟩
theorem libW_of {W : World} (h : laidMet Tryz.prog laid7 W) (hs : W.ShapedOpen Tryz.prog) : LibW W :=
  ⟨err_of h, cell_of_shapedOpen_int (P := Tryz.prog) (g := 0) (t := 3) (zero := #[.int .i64 0]) hs (of_decide_eq_true (by kernel_rfl)) (by kernel_rfl) rfl (by kernel_rfl) (by kernel_rfl) Tryz.underlying3⟩

/-- Where the errors' texts lie. -/
noncomputable def low7 : Nat := (World.holding Tryz.prog default ⟨#[], #[], []⟩).heap.size
/-- The settled world with the tables and the errors laid. -/
noncomputable def laidWorld7 (os : Os) : World :=
  let w0 := World.holding Tryz.prog os ⟨#[.cells #[.string ⟨#[118, 97, 108, 117, 101, 32, 111, 117, 116, 32, 111, 102, 32, 114, 97, 110, 103, 101]⟩] 201, .cells #[.string ⟨#[105, 110, 118, 97, 108, 105, 100, 32, 115, 121, 110, 116, 97, 120]⟩] 201], #[], []⟩
  { w0 with heap := ((((((w0.heap.modify 6 fun
      | .cells _ t frozen => .cells (Lib.deBruijn32tab.map fun n : Nat => Value.int .u8 (n : Int)).toArray t frozen
      | o => o).modify 7 fun
      | .cells _ t frozen => .cells (Lib.deBruijn64tab.map fun n : Nat => Value.int .u8 (n : Int)).toArray t frozen
      | o => o).modify 3 fun
      | .cells _ t frozen => .cells (Lib.pow10Tab.map fun n => Value.int .u64 n).toArray t frozen
      | o => o).modify 5 fun
      | .cells _ t frozen => .cells (([128, 191, 160, 191, 128, 159, 144, 191, 128, 143] ++ List.replicate 22 0 : List Int).map fun n => Value.int .u8 n).toArray t frozen
      | o => o).modify 2 fun
      | .cells _ t frozen => .cells #[.iface 199 (.pointer (some ⟨low7, 0, none⟩))] t frozen
      | o => o).modify 1 fun
      | .cells _ t frozen => .cells #[.iface 199 (.pointer (some ⟨low7 + 1, 0, none⟩))] t frozen
      | o => o).modify 4 fun
      | .cells _ t frozen => .cells (Go.Pinned.utf8FirstZ.map fun n : Nat => Value.int .u8 (n : Int)).toArray t frozen
      | o => o }
set_option maxRecDepth 100000 in
theorem laidWorld7_met (os : Os) (args : Array Value) : laidMet Tryz.prog laid7 ((laidWorld7 os).forCall (fun _ _ => 0) ⟨#[], args, []⟩).memory :=
  laidMet_of_run' 8 (by kernel_rfl) (by kernel_rfl)

/-- A row's lift that hands on both the row's laid variables and the world's shape. -/
theorem lift_shaped {H : Type} {enc : TypeId × Value → H} {a : Assume} {C : Checked} {os : Os} {f : FuncId} {fn : Func} {s : ChangeSpec} {conds : List PathCond} {apart fresh handsOn again : Bool} {X : World → Prop}
    (hX : ∀ w w' : World, w.heap = w'.heap → X w → X w')
    (own : ownKnob C.prog.godebug = none) (started : os.Started) (noInit : C.prog.inits.idxOf? f = none) (hfn : C.prog.funcs[f]? = some fn)
    (witness : ∃ (w : World) (tape : Tape) (i : Input), w.os = os ∧ (w.forCall tape i).Shaped C.prog ∧ i.vars = [] ∧ Input.okWide C.prog (w.forCall tape i) .any w.heap.size f i ∧
      ((s.pre enc C.prog fn conds apart (w.forCall tape i).memory i.args ∧ X (w.forCall tape i).memory) ∧ sizedMet enc C.prog fn (OpenSpec.ofChange s) apart (w.forCall tape i).memory i.args) ∧ a.holds C.prog (lone (Frame.enter C.prog f i.args .normal) [] (w.forCall tape i)))
    (law : ∀ (W : World) (base : Nat) (args : Array Value) (ds gs : List (DataW H)) (before : List MemPlace),
      (∀ (j : Nat) t v, fn.params[j]? = some t → args[j]? = some v → Value.okWide C.prog W .any base t v) →
      DataW.Whole enc C.prog fn.params.toList s.vars apart W args.toList ds gs before → X W → W.ShapedOpen C.prog →
      Calls C.prog f args W fun e W' => ∃ v, e = .returned v ∧ s.post enc C.prog fn apart fresh handsOn again W args v W') :
    ReturnsInHanded a C os f .any (fun w args => (s.pre enc C.prog fn conds apart w args ∧ X w) ∧ sizedMet enc C.prog fn (OpenSpec.ofChange s) apart w args) (s.post enc C.prog fn apart fresh handsOn again) := by
  refine returnsInHanded_of_calls own started noInit witness fun w tape i _ shaped _ okay met _ => ?_
  rcases okay with ⟨_, _, _, fn', there, _, _, _, _, values⟩
  cases Option.some.inj (there.symm.trans hfn)
  rcases met with ⟨⟨⟨ds, gs, before, whole, _⟩, x⟩, _⟩
  have c := law (w.forCall tape i) w.heap.size i.args ds gs before values (DataW.Whole.of_heap (w' := w.forCall tape i) (by rfl) whole) (hX _ _ (by rfl) x) shaped
  exact c.mono fun e W' h => by
    rcases h with ⟨v, rfl, post⟩
    exact ChangeSpec.post_blind post
end Go.Proofs.YtlnmicddobgppaaGreatDoor
