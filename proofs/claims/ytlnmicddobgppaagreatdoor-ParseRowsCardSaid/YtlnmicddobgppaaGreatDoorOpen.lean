/-
  How arguments are read: a slice of numbers.
-/
import Derived.Test.YtlnmicddobgppaaGreatDoorKit
import Derived.ProofKit
import Derived.Deep.Slices
import Derived.Deep.Fields
import Derived.ChangeSame
namespace Go.Proofs.YtlnmicddobgppaaGreatDoor
set_option linter.unusedSimpArgs false
set_option linter.unusedVariables false
open Go.ChangeShapes Go.WideShapes Go.ChangeAt Go.RowKit

theorem open_rowints {H : Type} {enc : TypeId × Value → H} {P : Program} {W : World} {base : Nat} {t e : TypeId} {v : Value} {d : DataW H} {p : List MemPlace}
    (ht : P.underlying t = some (.slice e)) (he : P.underlying e = some (.int .i64)) (hc : P.cellsOf e = 1) (hv : Value.okWide P W .any base t v)
    (h : DataW.Trod enc P W 0 (fun _ => true) true t v d p) : ∃ zs, RowInts W v zs ∧ zs.length ≤ 9223372036854775807 ∧ ∀ n ∈ zs, (Lit.int .i64 n).wf = true := by
  obtain ⟨a0, len, cap, rfl⟩ := okWide_slice ht hv
  obtain ⟨fuel, hf⟩ := h
  rcases open_ints ht he hc hf with ⟨hcs, _⟩ | ⟨x, l, c, zs, hcs, _, hl, hm, hz, _, hcell, hwz⟩
  · simp [Value.cells] at hcs
    obtain ⟨rfl, rfl, rfl⟩ := hcs
    exact ⟨[], ⟨none, 0, rfl, fun h => absurd h (by simp)⟩, by simp, by simp⟩
  · simp [Value.cells] at hcs
    obtain ⟨rfl, rfl, rfl⟩ := hcs
    simp at hz
    have hlen : (zs.take len).length = len := by simp; omega
    refine ⟨zs.take len, ⟨some x, cap, by rw [hlen], fun hpos => ?_⟩, by rw [hlen]; unfold maxLen at hm; omega, fun n hn => hwz n (List.mem_of_mem_take hn)⟩
    rw [hlen] at hpos
    obtain ⟨b, off, spot⟩ := x
    have hspot : spot = none := by simpa [Addr.add] using World.cell?_spot (hcell 0 (by omega))
    subst hspot
    refine ⟨b, off, rfl, fun i hi => ?_⟩
    rw [hlen] at hi
    have := hcell i (by omega)
    rw [add_at] at this
    rw [this]
    simp [nth, hi]

theorem wf64 {a : Int} (h : (Lit.int .i64 a).wf = true) : -9223372036854775808 ≤ a ∧ a ≤ 9223372036854775807 := by
  simpa [Lit.wf, IntKind.min, IntKind.max, IntKind.signed, IntKind.bits] using h

/-- A slice whose elements are rows of cells, as they read. -/
theorem open_rowcells {H : Type} {enc : TypeId × Value → H} {P : Program} {W : World} {base sz : Nat} {t e : TypeId} {v : Value} {d : DataW H} {p : List MemPlace}
    (ht : P.underlying t = some (.slice e)) (hc : P.cellsOf e = sz) (hsz : 0 < sz) (hv : Value.okWide P W .any base t v)
    (h : DataW.Trod enc P W 0 (fun _ => true) true t v d p) :
    ∃ a len cap, v = .slice a len cap ∧ len ≤ 9223372036854775807 ∧ (0 < len → ∃ b off, a = some ⟨b, off, none⟩ ∧ ∀ i, i < len → ∃ cs n y, (∀ j, j < sz → W.cell? ⟨b, off + (i * sz + j), none⟩ = cs[j]?) ∧ cs.length = sz ∧ DataW.trod enc P W 0 (fun _ => true) true n e cs = some y) := by
  obtain ⟨a0, len, cap, rfl⟩ := okWide_slice ht hv
  obtain ⟨fuel, hf⟩ := h
  rcases Go.Deep.open_slice ht hf with ⟨hcs, _⟩ | ⟨x, l, c, m, n, D, Pl, hcs, _, hl, hm, hmm, _, hi⟩
  · simp [Value.cells] at hcs
    obtain ⟨rfl, rfl, rfl⟩ := hcs
    exact ⟨_, _, _, rfl, by omega, fun h => absurd h (by simp)⟩
  · simp [Value.cells] at hcs
    obtain ⟨rfl, rfl, rfl⟩ := hcs
    simp at hmm
    subst hmm
    unfold maxLen at hm
    refine ⟨_, _, _, rfl, by omega, fun hpos => ?_⟩
    have cells : ∀ i, i < m → ∃ cs n y, (∀ j, j < sz → W.cell? (x.add (i * sz + j)) = cs[j]?) ∧ cs.length = sz ∧ DataW.trod enc P W 0 (fun _ => true) true n e cs = some y := by
      intro i hi'
      obtain ⟨cs', hc', ht'⟩ := hi i hi'
      rw [hc] at hc'
      obtain ⟨_, hcl, hat⟩ := World.cells?_some hc'
      exact ⟨cs', n, _, fun j hj => by rw [← Go.Deep.add_add]; exact hat j hj, hcl, ht'⟩
    obtain ⟨b, off, spot⟩ := x
    obtain ⟨cs, _, _, h1, h2, _⟩ := cells 0 (by omega)
    have hspot : spot = none := by
      have hv : cs[0]? = some (cs[0]'(by omega)) := List.getElem?_eq_getElem (by omega)
      have := (h1 0 hsz).trans hv
      simpa [Addr.add] using World.cell?_spot this
    subst hspot
    refine ⟨b, off, rfl, fun i hi' => ?_⟩
    obtain ⟨cs, n', y, h1, h2, h3⟩ := cells i (by omega)
    exact ⟨cs, n', y, fun j hj => by rw [← add_at]; exact h1 j hj, h2, h3⟩

/-- Three numbers of an act. -/
structure Act3 where
  kind : Int
  at_ : Int
  word : Int
def RowActs (w : World) (v : Value) (l : List Act3) : Prop :=
  ∃ a cap, v = .slice a l.length cap ∧ (0 < l.length → ∃ b off, a = some ⟨b, off, none⟩ ∧ ∀ i x, l[i]? = some x →
    w.cell? ⟨b, off + i * 3, none⟩ = some (.int .i64 x.kind) ∧ w.cell? ⟨b, off + i * 3 + 1, none⟩ = some (.int .i64 x.at_) ∧ w.cell? ⟨b, off + i * 3 + 2, none⟩ = some (.int .i64 x.word))
theorem list_of {α : Type} [Inhabited α] (n : Nat) (R : Nat → α → Prop) (h : ∀ i, i < n → ∃ x, R i x) : ∃ l : List α, l.length = n ∧ ∀ i x, l[i]? = some x → R i x := by
  induction n with
  | zero => exact ⟨[], rfl, by simp⟩
  | succ n ih =>
    obtain ⟨l, h1, h2⟩ := ih fun i hi => h i (by omega)
    obtain ⟨x, hx⟩ := h n (by omega)
    refine ⟨l ++ [x], by simp [h1], fun i y hy => ?_⟩
    rcases Nat.lt_or_ge i n with g | g
    · rw [List.getElem?_append_left (by omega)] at hy
      exact h2 i y hy
    · have hi : i < n + 1 := by
        rcases Nat.lt_or_ge i (n + 1) with g' | g'
        · exact g'
        · rw [List.getElem?_eq_none (by simp [h1]; omega)] at hy; cases hy
      obtain rfl : i = n := by omega
      rw [List.getElem?_append_right (by omega)] at hy
      simp [h1] at hy
      subst hy; exact hx
theorem open_acts {H : Type} {enc : TypeId × Value → H} {P : Program} {W : World} {base : Nat} {t e : TypeId} {f0 f1 f2 : Field} {v : Value} {d : DataW H} {p : List MemPlace}
    (ht : P.underlying t = some (.slice e)) (he : P.underlying e = some (.struct #[f0, f1, f2])) (hc : P.cellsOf e = 3)
    (h0 : P.underlying f0.type = some (.int .i64) ∧ P.cellsOf f0.type = 1 ∧ f0.offset = 0) (h1 : P.underlying f1.type = some (.int .i64) ∧ P.cellsOf f1.type = 1 ∧ f1.offset = 1) (h2 : P.underlying f2.type = some (.int .i64) ∧ P.cellsOf f2.type = 1 ∧ f2.offset = 2)
    (hv : Value.okWide P W .any base t v) (h : DataW.Trod enc P W 0 (fun _ => true) true t v d p) : ∃ l, RowActs W v l ∧ l.length ≤ 9223372036854775807 := by
  obtain ⟨a, len, cap, rfl, hlen, hr⟩ := open_rowcells ht hc (by decide) hv h
  by_cases hpos : 0 < len
  · obtain ⟨b, off, rfl, hcells⟩ := hr hpos
    have each : ∀ i, i < len → ∃ x : Act3, W.cell? ⟨b, off + i * 3, none⟩ = some (.int .i64 x.kind) ∧ W.cell? ⟨b, off + i * 3 + 1, none⟩ = some (.int .i64 x.at_) ∧ W.cell? ⟨b, off + i * 3 + 2, none⟩ = some (.int .i64 x.word) := by
      intro i hi
      obtain ⟨cs, n, y, hcell, hl, htr⟩ := hcells i hi
      obtain ⟨xs, n', rfl, _, _, hxl, hf⟩ := DataW.trod_struct he htr
      match cs, hl with
      | [u0, u1, u2], _ =>
        match xs, hxl with
        | [y0, y1, y2], _ =>
          have e0 := hf 0 f0 rfl
          have e1 := hf 1 f1 rfl
          have e2 := hf 2 f2 rfl
          rw [h0.2.2, h0.2.1] at e0
          rw [h1.2.2, h1.2.1] at e1
          rw [h2.2.2, h2.2.1] at e2
          obtain ⟨a0, q0, _, _⟩ := DataW.trod_int h0.1 e0
          obtain ⟨a1, q1, _, _⟩ := DataW.trod_int h1.1 e1
          obtain ⟨a2, q2, _, _⟩ := DataW.trod_int h2.1 e2
          simp at q0 q1 q2
          subst q0 q1 q2
          exact ⟨⟨a0, a1, a2⟩, by simpa using hcell 0 (by omega), by simpa [Nat.add_assoc] using hcell 1 (by omega), by simpa [Nat.add_assoc] using hcell 2 (by omega)⟩
    haveI : Inhabited Act3 := ⟨⟨0, 0, 0⟩⟩
    obtain ⟨l, hll, hl⟩ := list_of len _ each
    exact ⟨l, ⟨_, cap, by rw [hll], fun _ => ⟨b, off, rfl, hl⟩⟩, by omega⟩
  · obtain rfl : len = 0 := by omega
    exact ⟨[], ⟨a, cap, rfl, fun h => absurd h (by simp)⟩, by simp⟩
end Go.Proofs.YtlnmicddobgppaaGreatDoor
