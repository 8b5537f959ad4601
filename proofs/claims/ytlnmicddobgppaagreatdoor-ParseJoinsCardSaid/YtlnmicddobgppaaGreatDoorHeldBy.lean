/-
  A region that draws its order, walked by hand: the steps as laws; the condition may turn on the way. No conditions.
-/
import Derived.Test.YtlnmicddobgppaaGreatDoorChecked
import Derived.Test.YtlnmicddobgppaaGreatDoorKit
import Derived.Deep.RegionHeld3
namespace Go.Proofs.YtlnmicddobgppaaGreatDoor
open Go
section
variable {P : Program} {l : List Oper} {Q : Exit → Act → World → Prop} {S S' : World → Prop}

theorem drop_get {i : Nat} {o : Oper} {r : List Oper} (hd : l.drop i = o :: r) : l.toArray[i]? = some o := by
  have h : (l.drop i)[0]? = some o := by rw [hd]; rfl
  simpa [List.getElem?_drop] using h
/-- The condition may become a stronger one. -/
theorem held_turn {ops : Array Oper} {md : Region.Mode} (h : ∀ w, S' w → S w) : ∀ (fuel : Nat) (listed : Array Bool) (a : Act) (w : World), wpAnyH P md ops Q S' fuel listed a w → wpAnyH P md ops Q S fuel listed a w
  | 0, _, _, _, g => g
  | fuel + 1, _, _, _, g => ⟨g.1, fun i hi => wpOp_mono (fun a' w' h' => ⟨h w' h'.1, held_turn h fuel _ a' w' h'.2⟩) (g.2 i hi)⟩
/-- Number i first. -/
theorem held_take {i : Nat} {o : Oper} {r : List Oper} {v : Value} {fuel : Nat} {listed : Array Bool} {a : Act} {w : World} (hd : l.drop i = o :: r)
    (hs : Region.noSelect l.toArray = true) (hf : Region.free .any l.toArray listed i = true) (hr : (Region.ready .any l.toArray listed).contains i = true)
    (hQ : ∀ c a w, Q (.panic c) (a.put o.dst v) w → Q (.panic c) a w) (hw : Region.wanted o (yielded l.toArray a.tmps) = true) (hS : S w)
    (hy : ∀ w, S w → (execOp a.eval o).run P w = .ok (.value v) w)
    (h : wpAnyH P .any l.toArray Q S fuel (listed.setIfInBounds i true) (a.put o.dst v) w) : wpAnyH P .any l.toArray Q S (fuel + 1) listed a w :=
  wpAnyH_take (drop_get hd) hs hf hr hQ (.inl ⟨hw, hy⟩) hS h
/-- Number i alone may come up. -/
theorem held_one {i : Nat} {o : Oper} {r : List Oper} {fuel : Nat} {listed : Array Bool} {a : Act} {w : World} (hd : l.drop i = o :: r) (hr : Region.ready .any l.toArray listed = [i])
    (h : ∀ K' : Act → World → Prop, Shut (∀ a w, S w → (S w → wpAnyH P .any l.toArray Q S fuel (listed.setIfInBounds i true) a w) → K' a w) → if Region.wanted o (yielded l.toArray a.tmps) = true then Oper.wp P o a w K' Q else K' (a.put o.dst undef) w) :
    wpAnyH P .any l.toArray Q S (fuel + 1) listed a w :=
  wpAnyH_ready hr (by simp) (AllReadyH.cons (drop_get hd) h AllReadyH.nil)
/-- Either of two may come up. -/
theorem held_two {i j : Nat} {o o' : Oper} {r r' : List Oper} {fuel : Nat} {listed : Array Bool} {a : Act} {w : World} (hd : l.drop i = o :: r) (hd' : l.drop j = o' :: r') (hr : Region.ready .any l.toArray listed = [i, j])
    (h : ∀ K' : Act → World → Prop, Shut (∀ a w, S w → (S w → wpAnyH P .any l.toArray Q S fuel (listed.setIfInBounds i true) a w) → K' a w) → if Region.wanted o (yielded l.toArray a.tmps) = true then Oper.wp P o a w K' Q else K' (a.put o.dst undef) w)
    (h' : ∀ K' : Act → World → Prop, Shut (∀ a w, S w → (S w → wpAnyH P .any l.toArray Q S fuel (listed.setIfInBounds j true) a w) → K' a w) → if Region.wanted o' (yielded l.toArray a.tmps) = true then Oper.wp P o' a w K' Q else K' (a.put o'.dst undef) w) :
    wpAnyH P .any l.toArray Q S (fuel + 1) listed a w :=
  wpAnyH_ready hr (by simp) (AllReadyH.cons (drop_get hd) h (AllReadyH.cons (drop_get hd') h' AllReadyH.nil))
end
/-- Frames over a world written out: the steps are found where they are asked. -/
theorem frA {S : Nat → Prop} {w w' : World} (h : Fr S w w' := by (repeat (first | (with_reducible exact Fr.refl _ _) | (with_reducible assumption) | (with_reducible exact Fr.of_nil (by assumption)) | (with_reducible refine Fr.drew ?_) | (with_reducible refine Fr.drewN ?_ _) | (with_reducible refine Fr.alloc ?_ _) | (with_reducible refine Fr.set ?_ _ _ (by first | (intros; omega) | (simp; done) | (simp; omega))) | (with_reducible refine Fr.via ?_ (by assumption)) | (with_reducible refine Fr.comp ?_ (by assumption))))) : Fr S w w' := h
theorem frG {S : Nat → Prop} {w w' : World} (h : Fr S w w' := by (repeat (first | (with_reducible exact Fr.refl _ _) | (with_reducible assumption) | (with_reducible exact Fr.of_nil (by assumption)) | (with_reducible refine Fr.drew ?_) | (with_reducible refine Fr.drewN ?_ _) | (with_reducible refine Fr.alloc ?_ _) | (with_reducible refine Fr.set ?_ _ _ (by first | (intro _; exact rfl) | (intro _; exact .inl rfl) | (intro _; exact .inr rfl) | (intro q; exact absurd q (Nat.lt_irrefl _)) | (intro q; simp at q; omega))) | (with_reducible refine Fr.via ?_ (by assumption)) | (with_reducible refine Fr.comp ?_ (by assumption))))) : Fr S w w' := h
theorem frT {S : Nat → Prop} {w w' : World} (h : Fr S w w' := by (repeat (first | (with_reducible exact Fr.refl _ _) | (with_reducible assumption) | (with_reducible refine Fr.drew ?_) | (with_reducible refine Fr.alloc ?_ _) | (with_reducible refine Fr.set ?_ _ _ (fun _ => by simp [Value.ownBlock]))))) : Fr S w w' := h
end Go.Proofs.YtlnmicddobgppaaGreatDoor
