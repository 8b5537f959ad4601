/-
  Frames in memory: slices of numbers, slices of frames; what becomes of them while other blocks turn. No conditions.
-/
import Derived.Test.YtncncoakibilcaaKit
namespace Go.Proofs.Ytncncoakibilcaa
set_option linter.unusedSimpArgs false
set_option linter.unusedVariables false
open Go.RowKit

/-- A slice that reads as numbers, in a block that X does not name. -/
def IntsAt (X : Nat → Prop) (w : World) (v : Value) (l : List Int) : Prop :=
  ∃ a cap, v = .slice a l.length cap ∧ (0 < l.length → ∃ b off, a = some ⟨b, off, none⟩ ∧ ¬ X b ∧ ∀ i, i < l.length → w.cell? ⟨b, off + i, none⟩ = some (.int .i64 (nth l i)))
theorem IntsAt.fr {X S : Nat → Prop} {w w1 : World} {v : Value} {l : List Int} (h : IntsAt X w v l) (f : Fr S w w1) (hs : ∀ b, b < w.heap.size → S b → X b) : IntsAt X w1 v l := by
  obtain ⟨a, cap, rfl, hc⟩ := h
  refine ⟨a, cap, rfl, fun hp => ?_⟩
  obtain ⟨b, off, rfl, hx, hcell⟩ := hc hp
  exact ⟨b, off, rfl, hx, fun i hi => f.cell (hcell i hi) (fun q => hx (hs _ (World.block_lt_of_cell? _ _ (hcell i hi)) q))⟩
theorem IntsAt.mono {X Y : Nat → Prop} {w : World} {v : Value} {l : List Int} (h : IntsAt X w v l) (hs : ∀ b, b < w.heap.size → Y b → X b) : IntsAt Y w v l := by
  obtain ⟨a, cap, rfl, hc⟩ := h
  refine ⟨a, cap, rfl, fun hp => ?_⟩
  obtain ⟨b, off, rfl, hx, hcell⟩ := hc hp
  exact ⟨b, off, rfl, fun q => hx (hs _ (World.block_lt_of_cell? _ _ (hcell 0 hp)) q), hcell⟩
theorem IntsAt.nil (X : Nat → Prop) (w : World) : IntsAt X w (.slice none 0 0) [] := ⟨none, 0, rfl, fun h => absurd h (by simp)⟩
theorem IntsAt.of_row {X : Nat → Prop} {w : World} {v : Value} {l : List Int} (h : RowInts w v l) (hx : ∀ b, b < w.heap.size → ¬ X b) : IntsAt X w v l := by
  obtain ⟨a, cap, rfl, hc⟩ := h
  refine ⟨a, cap, rfl, fun hp => ?_⟩
  obtain ⟨b, off, rfl, hcell⟩ := hc hp
  exact ⟨b, off, rfl, hx b (World.block_lt_of_cell? _ _ (hcell 0 hp)), hcell⟩
theorem IntsAt.of_blk {X : Nat → Prop} {w : World} {b : Nat} {t : TypeId} {l : List Int} (h : Blk w b (ints l) t) (hx : ¬ X b) (cap : Nat) : IntsAt X w (.slice (some ⟨b, 0, none⟩) l.length cap) l :=
  ⟨_, cap, rfl, fun hp => ⟨b, 0, rfl, hx, fun i hi => by rw [Nat.zero_add]; exact (h.cell i).trans (ints_at l i hi)⟩⟩
theorem IntsAt.oneCell {X : Nat → Prop} {w : World} {v : Value} {l : List Int} (h : IntsAt X w v l) : v.oneCell' = true := by
  obtain ⟨a, cap, rfl, _⟩ := h
  rfl

/-- A frame. -/
structure FrameV where
  kind : Int
  node : Int
  words : List Int
/-- The cells of frames: so many of three each. -/
def Cells3 (X : Nat → Prop) (w : World) (cs : List Value) (l : List FrameV) : Prop :=
  cs.length = l.length * 3 ∧ ∀ i f, l[i]? = some f → cs[i * 3]? = some (.int .i64 f.kind) ∧ cs[i * 3 + 1]? = some (.int .i64 f.node) ∧ ∃ v, cs[i * 3 + 2]? = some v ∧ IntsAt X w v f.words
theorem Cells3.fr {X S : Nat → Prop} {w w1 : World} {cs : List Value} {l : List FrameV} (h : Cells3 X w cs l) (f : Fr S w w1) (hs : ∀ b, b < w.heap.size → S b → X b) : Cells3 X w1 cs l :=
  ⟨h.1, fun i g hg => by
    obtain ⟨h1, h2, v, h3, h4⟩ := h.2 i g hg
    exact ⟨h1, h2, v, h3, h4.fr f hs⟩⟩
theorem Cells3.mono {X Y : Nat → Prop} {w : World} {cs : List Value} {l : List FrameV} (h : Cells3 X w cs l) (hs : ∀ b, b < w.heap.size → Y b → X b) : Cells3 Y w cs l :=
  ⟨h.1, fun i g hg => by
    obtain ⟨h1, h2, v, h3, h4⟩ := h.2 i g hg
    exact ⟨h1, h2, v, h3, h4.mono hs⟩⟩
theorem Cells3.nil (X : Nat → Prop) (w : World) : Cells3 X w [] [] := ⟨rfl, fun i f h => by simp at h⟩
theorem Cells3.snoc {X : Nat → Prop} {w : World} {cs : List Value} {l : List FrameV} (h : Cells3 X w cs l) {f : FrameV} {v : Value} (hv : IntsAt X w v f.words) :
    Cells3 X w (cs ++ [.int .i64 f.kind, .int .i64 f.node, v]) (l ++ [f]) := by
  refine ⟨by simp [h.1]; omega, fun i g hg => ?_⟩
  rcases Nat.lt_or_ge i l.length with q | q
  · rw [List.getElem?_append_left q] at hg
    obtain ⟨h1, h2, v', h3, h4⟩ := h.2 i g hg
    have := h.1
    refine ⟨?_, ?_, v', ?_, h4⟩
    · rw [List.getElem?_append_left (by omega)]; exact h1
    · rw [List.getElem?_append_left (by omega)]; exact h2
    · rw [List.getElem?_append_left (by omega)]; exact h3
  · have hi : i = l.length := by
      rcases Nat.lt_or_ge i (l.length + 1) with r | r
      · omega
      · rw [List.getElem?_eq_none (by simp; omega)] at hg; cases hg
    subst hi
    simp at hg
    subst hg
    have := h.1
    refine ⟨?_, ?_, v, ?_, hv⟩
    · rw [List.getElem?_append_right (by omega), show l.length * 3 - cs.length = 0 by omega]; rfl
    · rw [List.getElem?_append_right (by omega), show l.length * 3 + 1 - cs.length = 1 by omega]; rfl
    · rw [List.getElem?_append_right (by omega), show l.length * 3 + 2 - cs.length = 2 by omega]; rfl
theorem Cells3.take {X : Nat → Prop} {w : World} {cs : List Value} {l : List FrameV} (h : Cells3 X w cs l) (k : Nat) (hk : k ≤ l.length) : Cells3 X w (cs.take (k * 3)) (l.take k) := by
  have hl := h.1
  refine ⟨by simp; omega, fun i g hg => ?_⟩
  rcases Nat.lt_or_ge i k with q | q
  · rw [List.getElem?_take_of_lt q] at hg
    obtain ⟨h1, h2, v', h3, h4⟩ := h.2 i g hg
    exact ⟨by rw [List.getElem?_take_of_lt (by omega)]; exact h1, by rw [List.getElem?_take_of_lt (by omega)]; exact h2, v', by rw [List.getElem?_take_of_lt (by omega)]; exact h3, h4⟩
  · rw [List.getElem?_eq_none (by simp; omega)] at hg; cases hg

/-- A slice that reads as frames: nil, or at the head of a block that X does not name. -/
def FramesAt (X : Nat → Prop) (w : World) (v : Value) (l : List FrameV) : Prop :=
  (v = .slice none 0 0 ∧ l = []) ∨ ∃ g cap cs, v = .slice (some ⟨g, 0, none⟩) l.length cap ∧ l.length ≤ cap ∧ g < w.heap.size ∧ ¬ X g ∧ (∀ j u, cs[j]? = some u → w.cell? ⟨g, j, none⟩ = some u) ∧ Cells3 X w cs l
theorem FramesAt.fr {X S : Nat → Prop} {w w1 : World} {v : Value} {l : List FrameV} (h : FramesAt X w v l) (f : Fr S w w1) (hs : ∀ b, b < w.heap.size → S b → X b) : FramesAt X w1 v l := by
  rcases h with h | ⟨g, cap, cs, h1, h2, h3, h4, h5, h6⟩
  · exact .inl h
  · exact .inr ⟨g, cap, cs, h1, h2, Nat.lt_of_lt_of_le h3 f.size, h4, fun j u hj => f.cell (h5 j u hj) (fun q => h4 (hs _ h3 q)), h6.fr f hs⟩
theorem FramesAt.mono {X Y : Nat → Prop} {w : World} {v : Value} {l : List FrameV} (h : FramesAt X w v l) (hs : ∀ b, b < w.heap.size → Y b → X b) : FramesAt Y w v l := by
  rcases h with h | ⟨g, cap, cs, h1, h2, h3, h4, h5, h6⟩
  · exact .inl h
  · exact .inr ⟨g, cap, cs, h1, h2, h3, fun q => h4 (hs _ h3 q), h5, h6.mono hs⟩
end Go.Proofs.Ytncncoakibilcaa
