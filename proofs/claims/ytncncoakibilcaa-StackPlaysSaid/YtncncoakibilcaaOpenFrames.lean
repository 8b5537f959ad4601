/-
  How acts that hold frames are read.
-/
import Derived.Test.YtncncoakibilcaaOpen
import Derived.Test.YtncncoakibilcaaFrames
namespace Go.Proofs.Ytncncoakibilcaa
set_option linter.unusedSimpArgs false
set_option linter.unusedVariables false
open Go.ChangeShapes Go.WideShapes Go.ChangeAt Go.RowKit

theorem ints_of_trod {H : Type} {enc : TypeId × Value → H} {P : Program} {W : World} {t e : TypeId} {fuel : Nat} {cs : List Value} {x : DataW H × List MemPlace}
    (ht : P.underlying t = some (.slice e)) (he : P.underlying e = some (.int .i64)) (hc : P.cellsOf e = 1) (h : DataW.trod enc P W 0 (fun _ => true) true fuel t cs = some x) :
    ∃ v zs, cs = [v] ∧ RowInts W v zs ∧ zs.length ≤ 9223372036854775807 := by
  rcases open_ints ht he hc h with ⟨rfl, _⟩ | ⟨x, l, c, zs, rfl, _, hl, hm, hz, _, hcell, hwz⟩
  · exact ⟨_, [], rfl, ⟨none, 0, rfl, fun h => absurd h (by simp)⟩, by simp⟩
  · simp at hz
    have hlen : (zs.take l).length = l := by simp; omega
    refine ⟨_, zs.take l, rfl, ⟨some x, c, by rw [hlen], fun hpos => ?_⟩, by rw [hlen]; unfold maxLen at hm; omega⟩
    rw [hlen] at hpos
    obtain ⟨b, off, spot⟩ := x
    have hspot : spot = none := by simpa [Addr.add] using World.cell?_spot (hcell 0 (by omega))
    subst hspot
    refine ⟨b, off, rfl, fun i hi => ?_⟩
    rw [hlen] at hi
    have := hcell i (by omega)
    rw [add_at] at this
    rw [this]
    simp [nth, hi]

/-- A call: its kind, its frame. -/
structure ActF where
  kind : Int
  f : FrameV
/-- What an act's frame's words are: short enough. -/
def ActAt (w : World) (b o : Nat) (x : ActF) : Prop :=
  w.cell? ⟨b, o, none⟩ = some (.int .i64 x.kind) ∧ w.cell? ⟨b, o + 1, none⟩ = some (.int .i64 x.f.kind) ∧ w.cell? ⟨b, o + 2, none⟩ = some (.int .i64 x.f.node) ∧ x.f.words.length ≤ 9223372036854775807 ∧ ∃ u, w.cell? ⟨b, o + 3, none⟩ = some u ∧ RowInts w u x.f.words
def RowFrames (w : World) (v : Value) (l : List ActF) : Prop :=
  ∃ a cap, v = .slice a l.length cap ∧ (0 < l.length → ∃ b off, a = some ⟨b, off, none⟩ ∧ ∀ i x, l[i]? = some x → ActAt w b (off + i * 4) x)

theorem open_frames {H : Type} {enc : TypeId × Value → H} {P : Program} {W : World} {base : Nat} {t e ei : TypeId} {f0 f1 g0 g1 g2 : Field} {v : Value} {d : DataW H} {p : List MemPlace}
    (ht : P.underlying t = some (.slice e)) (he : P.underlying e = some (.struct #[f0, f1])) (hc : P.cellsOf e = 4)
    (h0 : P.underlying f0.type = some (.int .i64) ∧ P.cellsOf f0.type = 1 ∧ f0.offset = 0) (h1 : P.underlying f1.type = some (.struct #[g0, g1, g2]) ∧ P.cellsOf f1.type = 3 ∧ f1.offset = 1)
    (k0 : P.underlying g0.type = some (.int .i64) ∧ P.cellsOf g0.type = 1 ∧ g0.offset = 0) (k1 : P.underlying g1.type = some (.int .i64) ∧ P.cellsOf g1.type = 1 ∧ g1.offset = 1)
    (k2 : P.underlying g2.type = some (.slice ei) ∧ P.cellsOf g2.type = 1 ∧ g2.offset = 2) (ki : P.underlying ei = some (.int .i64) ∧ P.cellsOf ei = 1)
    (hv : Value.okWide P W .any base t v) (h : DataW.Trod enc P W 0 (fun _ => true) true t v d p) : ∃ l, RowFrames W v l ∧ l.length ≤ 9223372036854775807 := by
  obtain ⟨a, len, cap, rfl, hlen, hr⟩ := open_rowcells ht hc (by decide) hv h
  by_cases hpos : 0 < len
  · obtain ⟨b, off, rfl, hcells⟩ := hr hpos
    have each : ∀ i, i < len → ∃ x : ActF, ActAt W b (off + i * 4) x := by
      intro i hi
      obtain ⟨cs, n, y, hcell, hl, htr⟩ := hcells i hi
      obtain ⟨y0, y1, n', rfl, _, e0, e1⟩ := trod_struct2 he htr
      match cs, hl with
      | [u0, u1, u2, u3], _ =>
        rw [h0.2.2, h0.2.1] at e0
        rw [h1.2.2, h1.2.1] at e1
        obtain ⟨a0, q0, _, _⟩ := DataW.trod_int h0.1 e0
        simp at q0 e1
        subst q0
        obtain ⟨xs, n2, rfl, _, _, hxl, hf⟩ := DataW.trod_struct h1.1 e1
        match xs, hxl with
        | [z0, z1, z2], _ =>
          have i0 := hf 0 g0 rfl
          have i1 := hf 1 g1 rfl
          have i2 := hf 2 g2 rfl
          rw [k0.2.2, k0.2.1] at i0
          rw [k1.2.2, k1.2.1] at i1
          rw [k2.2.2, k2.2.1] at i2
          obtain ⟨b0, r0, _, _⟩ := DataW.trod_int k0.1 i0
          obtain ⟨b1, r1, _, _⟩ := DataW.trod_int k1.1 i1
          obtain ⟨vv, zs, r2, hrow, hzl⟩ := ints_of_trod k2.1 ki.1 ki.2 i2
          simp at r0 r1 r2
          subst r0 r1 r2
          refine ⟨⟨a0, ⟨b0, b1, zs⟩⟩, ?_, ?_, ?_, hzl, u3, ?_, hrow⟩
          · simpa using hcell 0 (by omega)
          · simpa [Nat.add_assoc] using hcell 1 (by omega)
          · simpa [Nat.add_assoc] using hcell 2 (by omega)
          · simpa [Nat.add_assoc] using hcell 3 (by omega)
    haveI : Inhabited ActF := ⟨⟨0, ⟨0, 0, []⟩⟩⟩
    obtain ⟨l, hll, hl⟩ := list_of len _ each
    exact ⟨l, ⟨_, cap, by rw [hll], fun _ => ⟨b, off, rfl, hl⟩⟩, by omega⟩
  · obtain rfl : len = 0 := by omega
    exact ⟨[], ⟨a, cap, rfl, fun h => absurd h (by simp)⟩, by simp⟩
end Go.Proofs.Ytncncoakibilcaa
