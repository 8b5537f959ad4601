/-
  How arguments are read: a slice of calls of two numbers. No conditions.
-/
import Derived.Test.YtlpdlhmdhlcdlaaOpen
namespace Go.Proofs.Ytlpdlhmdhlcdlaa
set_option linter.unusedSimpArgs false
set_option linter.unusedVariables false
open Go.ChangeShapes Go.WideShapes Go.ChangeAt Go.RowKit

/-- A call: what kind, of what. -/
structure Act2 where
  kind : Int
  n : Int
/-- A row of calls. -/
def RowActs2 (w : World) (v : Value) (l : List Act2) : Prop := ∃ a cap, v = .slice a l.length cap ∧ (0 < l.length → ∃ b off, a = some ⟨b, off, none⟩ ∧ ∀ i x, l[i]? = some x → w.cell? ⟨b, off + i * 2, none⟩ = some (.int .i64 x.kind) ∧ w.cell? ⟨b, off + i * 2 + 1, none⟩ = some (.int .i64 x.n))
theorem open_acts2 {H : Type} {enc : TypeId × Value → H} {P : Program} {W : World} {base : Nat} {t e : TypeId} {f0 f1 : Field} {v : Value} {d : DataW H} {p : List MemPlace}
    (ht : P.underlying t = some (.slice e)) (he : P.underlying e = some (.struct #[f0, f1])) (hc : P.cellsOf e = 2)
    (h0 : P.underlying f0.type = some (.int .i64) ∧ P.cellsOf f0.type = 1 ∧ f0.offset = 0) (h1 : P.underlying f1.type = some (.int .i64) ∧ P.cellsOf f1.type = 1 ∧ f1.offset = 1)
    (hv : Value.okWide P W .any base t v) (h : DataW.Trod enc P W 0 (fun _ => true) true t v d p) : ∃ l, RowActs2 W v l ∧ l.length ≤ 9223372036854775807 ∧ ∀ x ∈ l, IntKind.i64.wrap x.n = x.n := by
  obtain ⟨a, len, cap, rfl, hlen, hr⟩ := open_rowcells ht hc (by decide) hv h
  by_cases hpos : 0 < len
  · obtain ⟨b, off, rfl, hcells⟩ := hr hpos
    have each : ∀ i, i < len → ∃ x : Act2, W.cell? ⟨b, off + i * 2, none⟩ = some (.int .i64 x.kind) ∧ W.cell? ⟨b, off + i * 2 + 1, none⟩ = some (.int .i64 x.n) ∧ IntKind.i64.wrap x.n = x.n := by
      intro i hi
      obtain ⟨cs, n, y, hcell, hl, htr⟩ := hcells i hi
      obtain ⟨xs, n', rfl, _, _, hxl, hf⟩ := DataW.trod_struct he htr
      match cs, hl with
      | [u0, u1], _ =>
        match xs, hxl with
        | [y0, y1], _ =>
          have e0 := hf 0 f0 rfl
          have e1 := hf 1 f1 rfl
          rw [h0.2.2, h0.2.1] at e0
          rw [h1.2.2, h1.2.1] at e1
          obtain ⟨a0, q0, _, _⟩ := DataW.trod_int h0.1 e0
          obtain ⟨a1, q1, _, wf1⟩ := DataW.trod_int h1.1 e1
          have hw1 : IntKind.i64.wrap a1 = a1 := by have := wf64 wf1; rw [IntKind.wrap_i64]; omega
          simp at q0 q1
          subst q0 q1
          exact ⟨⟨a0, a1⟩, by simpa using hcell 0 (by omega), by simpa [Nat.add_assoc] using hcell 1 (by omega), hw1⟩
    haveI : Inhabited Act2 := ⟨⟨0, 0⟩⟩
    obtain ⟨l, hll, hl⟩ := list_of len _ each
    refine ⟨l, ⟨_, cap, by rw [hll], fun _ => ⟨b, off, rfl, fun i x hx => ?_⟩⟩, by omega, fun x hx => ?_⟩
    · have := hl i x hx; exact ⟨this.1, this.2.1⟩
    · obtain ⟨i, hi⟩ := List.getElem?_of_mem hx; exact (hl i x hi).2.2
  · obtain rfl : len = 0 := by omega
    exact ⟨[], ⟨a, cap, rfl, fun h => absurd h (by simp)⟩, by simp, by simp⟩
end Go.Proofs.Ytlpdlhmdhlcdlaa
