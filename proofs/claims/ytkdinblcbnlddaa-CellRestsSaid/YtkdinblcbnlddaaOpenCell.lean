/-
  How an object that came in by value is read.
-/
import Derived.Test.YtkdinblcbnlddaaCell
import Derived.Test.YtkdinblcbnlddaaOpen
import Derived.Lib.SmallJoins
namespace Go.Proofs.Ytkdinblcbnlddaa
set_option linter.unusedSimpArgs false
set_option linter.unusedVariables false
open Go.ChangeShapes Go.WideShapes Go.ChangeAt Go.RowKit Go.Joins

theorem open_cellv {H : Type} {enc : TypeId × Value → H} {P : Program} {W : World} {base : Nat} {t : TypeId} {f0 f1 f2 f3 : Field} {v : Value} {d : DataW H} {p : List MemPlace}
    (hs : P.underlying t = some (.struct #[f0, f1, f2, f3])) (hone : Go.Deep.oneCellFields P #[f0, f1, f2, f3] = true) (hC : P.cellsOf t = 4)
    (h0 : P.underlying f0.type = some (.int .i64)) (h1 : P.underlying f1.type = some (.int .i64)) (h2 : P.underlying f2.type = some (.int .i64)) (h3 : P.underlying f3.type = some (.int .i64))
    (hv : Value.okWide P W .any base t v) (h : DataW.Trod enc P W 0 (fun _ => true) true t v d p) : ∃ c : CellV, v = .agg #[.int .i64 c.kind, .int .i64 c.size, .int .i64 c.aux, .int .i64 c.mark] := by
  obtain ⟨v0, v1, v2, v3, y0, y1, y2, y3, n, rfl, _, _, e0, e1, e2, e3⟩ := open_agg4 hs hone hC hv h
  obtain ⟨a0, q0, _, _⟩ := DataW.trod_int h0 e0
  obtain ⟨a1, q1, _, _⟩ := DataW.trod_int h1 e1
  obtain ⟨a2, q2, _, _⟩ := DataW.trod_int h2 e2
  obtain ⟨a3, q3, _, _⟩ := DataW.trod_int h3 e3
  simp at q0 q1 q2 q3
  subst q0 q1 q2 q3
  exact ⟨⟨a0, a1, a2, a3⟩, rfl⟩
end Go.Proofs.Ytkdinblcbnlddaa
