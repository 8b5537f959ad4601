/-
  How arguments are read: a slice of calls. No conditions.
-/
import Derived.Test.YtjcnbfiholcjkaaOpen
namespace Go.Proofs.Ytjcnbfiholcjkaa
set_option linter.unusedSimpArgs false
set_option linter.unusedVariables false
open Go.ChangeShapes Go.WideShapes Go.ChangeAt Go.RowKit

/-- A slice of calls whose numbers are machine numbers. -/
theorem open_actsW {H : Type} {enc : TypeId × Value → H} {P : Program} {W : World} {base : Nat} {t e : TypeId} {f0 f1 f2 : Field} {v : Value} {d : DataW H} {p : List MemPlace}
    (ht : P.underlying t = some (.slice e)) (he : P.underlying e = some (.struct #[f0, f1, f2])) (hc : P.cellsOf e = 3)
    (h0 : P.underlying f0.type = some (.int .i64) ∧ P.cellsOf f0.type = 1 ∧ f0.offset = 0) (h1 : P.underlying f1.type = some (.int .i64) ∧ P.cellsOf f1.type = 1 ∧ f1.offset = 1) (h2 : P.underlying f2.type = some (.int .i64) ∧ P.cellsOf f2.type = 1 ∧ f2.offset = 2)
    (hv : Value.okWide P W .any base t v) (h : DataW.Trod enc P W 0 (fun _ => true) true t v d p) : ∃ l, RowActs W v l ∧ l.length ≤ 9223372036854775807 ∧ ∀ x ∈ l, IntKind.i64.wrap x.at_ = x.at_ := by
  obtain ⟨a, len, cap, rfl, hlen, hr⟩ := open_rowcells ht hc (by decide) hv h
  by_cases hpos : 0 < len
  · obtain ⟨b, off, rfl, hcells⟩ := hr hpos
    have each : ∀ i, i < len → ∃ x : Act3, W.cell? ⟨b, off + i * 3, none⟩ = some (.int .i64 x.kind) ∧ W.cell? ⟨b, off + i * 3 + 1, none⟩ = some (.int .i64 x.at_) ∧ W.cell? ⟨b, off + i * 3 + 2, none⟩ = some (.int .i64 x.word) ∧ IntKind.i64.wrap x.at_ = x.at_ := by
      intro i hi
      obtain ⟨cs, n, y, hcell, hl, htr⟩ := hcells i hi
      obtain ⟨xs, n', rfl, _, _, hxl, hf⟩ := DataW.trod_struct he htr
      match cs, hl with
      | [u0, u1, u2], _ =>
        match xs, hxl with
        | [y0, y1, y2], _ =>
          have e0 := hf 0 f0 rfl
          have e1 := hf 1 f1 rfl
          have e2 := hf 2 f2 rfl
          rw [h0.2.2, h0.2.1] at e0
          rw [h1.2.2, h1.2.1] at e1
          rw [h2.2.2, h2.2.1] at e2
          obtain ⟨a0, q0, _, _⟩ := DataW.trod_int h0.1 e0
          obtain ⟨a1, q1, _, wf1⟩ := DataW.trod_int h1.1 e1
          have hw1 : IntKind.i64.wrap a1 = a1 := by have := wf64 wf1; rw [IntKind.wrap_i64]; omega
          obtain ⟨a2, q2, _, _⟩ := DataW.trod_int h2.1 e2
          simp at q0 q1 q2
          subst q0 q1 q2
          exact ⟨⟨a0, a1, a2⟩, by simpa using hcell 0 (by omega), by simpa [Nat.add_assoc] using hcell 1 (by omega), by simpa [Nat.add_assoc] using hcell 2 (by omega), hw1⟩
    haveI : Inhabited Act3 := ⟨⟨0, 0, 0⟩⟩
    obtain ⟨l, hll, hl⟩ := list_of len _ each
    refine ⟨l, ⟨_, cap, by rw [hll], fun _ => ⟨b, off, rfl, fun i x hx => ?_⟩⟩, by omega, fun x hx => ?_⟩
    · have := hl i x hx; exact ⟨this.1, this.2.1, this.2.2.1⟩
    · obtain ⟨i, hi⟩ := List.getElem?_of_mem hx; exact (hl i x hi).2.2.2
  · obtain rfl : len = 0 := by omega
    exact ⟨[], ⟨a, cap, rfl, fun h => absurd h (by simp)⟩, by simp, by simp⟩
end Go.Proofs.Ytjcnbfiholcjkaa
