/-
  How arguments are read: a slice of strings. No conditions.
-/
import Derived.Test.YthpenpgcacikaaaOpen
import Derived.Test.YthpenpgcacikaaaVarA
import Derived.Deep.Strs
namespace Go.Proofs.Ythpenpgcacikaaa
set_option linter.unusedSimpArgs false
set_option linter.unusedVariables false
open Go.ChangeShapes Go.WideShapes Go.ChangeAt Go.RowKit

theorem open_rowstrs {H : Type} {enc : TypeId × Value → H} {P : Program} {W : World} {base : Nat} {t e : TypeId} {v : Value} {d : DataW H} {p : List MemPlace}
    (ht : P.underlying t = some (.slice e)) (he : P.underlying e = some .string) (hc : P.cellsOf e = 1) (hv : Value.okWide P W .any base t v)
    (h : DataW.Trod enc P W 0 (fun _ => true) true t v d p) : ∃ zs : List (List UInt8), RowS (fun _ => False) W v zs := by
  obtain ⟨a0, len, cap, rfl⟩ := okWide_slice ht hv
  obtain ⟨fuel, hf⟩ := h
  rcases Go.Deep.open_strs ht he hc hf with ⟨hcs, _⟩ | ⟨x, l, c, m, Sx, hcs, _, hl, hm, hmm, _, hi⟩
  · simp [Value.cells] at hcs
    obtain ⟨rfl, rfl, rfl⟩ := hcs
    exact ⟨[], RowC.nil⟩
  · simp [Value.cells] at hcs
    obtain ⟨rfl, rfl, rfl⟩ := hcs
    have hlm : len ≤ m := by rw [hmm]; split <;> omega
    refine ⟨(List.range len).map (fun i => (Sx i).data.toList), ?_⟩
    have hll : ((List.range len).map (fun i => (Sx i).data.toList)).length = len := by simp
    unfold RowS
    rw [hll]
    refine ⟨_, cap, rfl, hl, hm, fun i hil => ?_⟩
    obtain ⟨b, off, spot⟩ := x
    have hspot : spot = none := by
      have h0 := World.cell?_spot (hi 0 (by omega)).1
      simpa [Addr.add] using h0
    subst hspot
    refine ⟨b, off, rfl, fun q => q, rfl, fun j u hj => ?_⟩
    cases j with
    | succ j => simp at hj
    | zero =>
      simp [hil] at hj
      subst hj
      have := (hi i (by omega)).1
      rw [add_at] at this
      simpa using this
end Go.Proofs.Ythpenpgcacikaaa
