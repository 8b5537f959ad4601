/-
  How a number that came in by value is read.
-/
import Derived.Test.YtomcmelgioamlaaDoorOpen
import Derived.Lib.SmallJoins
namespace Go.Proofs.YtomcmelgioamlaaDoor
set_option linter.unusedSimpArgs false
set_option linter.unusedVariables false
open Go.ChangeShapes Go.WideShapes Go.ChangeAt Go.RowKit Go.Joins

theorem open_numv {H : Type} {enc : TypeId × Value → H} {P : Program} {W : World} {base : Nat} {t : TypeId} {f0 f1 : Field} {v : Value} {d : DataW H} {p : List MemPlace}
    (hs : P.underlying t = some (.struct #[f0, f1])) (hone : Go.Deep.oneCellFields P #[f0, f1] = true) (hC : P.cellsOf t = 2)
    (h0 : P.underlying f0.type = some .bool) (h1 : P.underlying f1.type = some (.int .u64))
    (hv : Value.okWide P W .any base t v) (h : DataW.Trod enc P W 0 (fun _ => true) true t v d p) : ∃ (f : Bool) (x : Nat), v = .agg #[.bool f, .int .u64 (x : Int)] ∧ x < 18446744073709551616 := by
  obtain ⟨v0, v1, y0, y1, n, rfl, _, _, e0, e1⟩ := open_agg2 hs hone hC hv h
  obtain ⟨b, q0, _⟩ := DataW.trod_bool h0 e0
  obtain ⟨a, q1, _, wf⟩ := DataW.trod_int h1 e1
  simp at q0 q1
  subst q0 q1
  have m1 : IntKind.u64.min = 0 := rfl
  have m2 : IntKind.u64.max = 18446744073709551615 := rfl
  simp [Lit.wf, m1, m2] at wf
  obtain ⟨x, rfl⟩ := Int.eq_ofNat_of_zero_le wf.1
  exact ⟨b, x, rfl, by omega⟩
end Go.Proofs.YtomcmelgioamlaaDoor
