/-
  A range over an iterator that counts what it reads: one law, for a body that always goes on (no program in sight). No conditions.
-/
import Derived.Test.YtlpdlhmdhlcdlaaRing4
import Derived.RangeFuncNested
import Derived.RangeFuncBound
import Derived.RangeFuncCalls
import Derived.RangeFuncLeaves
import Derived.Shelf.Abstract
import Derived.OwnWalkIn
import Derived.TacticsInMore
import Derived.LoopNIn
import Derived.LoopIn
namespace Go.Proofs.Ytlpdlhmdhlcdlaa
set_option linter.unusedSimpArgs false
set_option linter.unusedVariables false
open Go.RowKit Go.Shelf

theorem fr_put {S : Nat → Prop} {w w1 : World} (h : Fr S w w1) (l : Nat) (o : Obj) (hl : l < w.heap.size → S l) : Fr S w (w1.putObj l o) :=
  ⟨h.os, h.tape, h.output, by rw [World.putObj_size]; exact h.size, fun k hk hn => by
    rw [World.putObj_heap_other (by rintro rfl; exact hn (hl hk))]
    exact h.block k hk hn⟩
/-- What the iterator owes to a body that goes on at each of xs: T: the blocks that it may turn; U: those that a round may turn. -/
def Walks {α : Type} (P : Program) (gf : Nat) (lb : Array Value) (encs : α → Array Value) (T U : Nat → Prop) (R : World → Prop) (xs : List α) (w0 : World) : Prop :=
  ∀ (l : Nat) (J : List α → World → Prop) (W : World), Fr Nil w0 W → (∀ pre A B, J pre A → Fr T A B → J pre B) →
    (∀ pre x rest W1, xs = pre ++ x :: rest → J pre W1 → YieldAt Fence.wide 5 P l (encs x) W1 fun e W' => e = .returned (.bool true) ∧ J (pre ++ [x]) W' ∧ Fr (fun k => U k ∨ w0.heap.size ≤ k) W1 W') →
    J [] W → CallsIn Fence.wide 6 P gf (#[.func (.yield l) #[] #[]] ++ lb) W fun e W' => (∃ v, e = .returned v) ∧ J xs W' ∧ R W'
theorem wp_range {α : Type} {P : Program} {g : Operand} {ps : Array Tmp} {assign body : Code} {Q : Exit → Act → World → Prop} {a : Act} {w : World} {gf : Nat} {lb : Array Value} {encs : α → Array Value} {T U : Nat → Prop} {R : World → Prop} {xs : List α}
    (hg : a.eval g = .func (.func gf) #[] lb) (eg : ∀ args w, (callFunc gf args).run P w = .ok (.enter gf args) w) (hps : ∀ x, (encs x).size = ps.size) (hT : ∀ k, T k → k < w.heap.size)
    (hiter : Walks P gf lb encs T U R xs w) (hR : ∀ A B, R A → Fr (fun k => k = w.heap.size + 1) A B → R B) (I : List α → World → Prop) (hI : ∀ pre A B, I pre A → Fr (fun k => T k ∨ k = w.heap.size ∨ k = w.heap.size + 1) A B → I pre B) (h0 : I [] w) (a₁ : α → Act)
    (hassign : ∀ (l : Nat) (x : α) (W : World) (K : Act → World → Prop), K (a₁ x) W → assign.wpIn (Fence.wide.inRound l) 5 P (Exit.then K (fun _ _ _ => False)) { tmps := (ps.zip (encs x)).foldl (fun t (p, v) => t.setIfInBounds p v) a.tmps, defers := [] } W)
    (hbody : ∀ (l : Nat) (pre : List α) (x : α) (rest : List α) (W : World), xs = pre ++ x :: rest → I pre W → w.heap.size + 2 ≤ W.heap.size →
      body.wpIn (Fence.wide.inRound l) 5 P (fun e _ W' => e = .normal ∧ I (pre ++ [x]) W' ∧ Fr (fun k => U k ∧ k ≠ w.heap.size ∧ k ≠ w.heap.size + 1) W W') (a₁ x) W)
    (hdone : ∀ (W : World), I xs W → R W → w.heap.size + 2 ≤ W.heap.size → W.heap[w.heap.size]? = some (.deferred (some [])) → Q .normal { a with defers := { target := .collected w.heap.size, args := #[] } :: a.defers } W) :
    (Code.rangeFunc g ps assign body).wp P Q a w := by
  refine (wpIn_wide (n := 7)).1 (wpIn_rangeFunc fun fn hfn => ?_)
  obtain ⟨D, hD⟩ : ∃ D, w.heap.size = D := ⟨_, rfl⟩
  rw [hD] at hI hbody hdone hT hR
  let lp : LoopState → Loop := fun st => { state := st, pending := none, fn, tmps := a.tmps, params := ps, assign, body, defers := D }
  have hsz : (w.alloc (.deferred (some []))).heap.size = D + 1 := by rw [World.size_alloc, hD]
  obtain ⟨W1, hW1⟩ : ∃ W1, (w.alloc (.deferred (some []))).alloc (.loop (lp .ready)) = W1 := ⟨_, rfl⟩
  have f1 : Fr Nil w W1 := by rw [← hW1]; exact ((Fr.refl _ _).alloc _).alloc _
  have L1 : W1.heap[D + 1]? = some (.loop (lp .ready)) := by rw [← hW1, ← hsz]; exact World.alloc_heap_new _ _
  have K1 : W1.heap[D]? = some (.deferred (some [])) := by
    rw [← hW1, Below.heap_alloc _ _ _ (by rw [hsz]; omega), ← hD]
    exact World.alloc_heap_new _ _
  have hent := run_enterLoop_outer (P := P) (w := w) fn a.tmps ps assign body
  rw [hD] at hent
  refine ⟨D + 1, _, W1, { target := .fn (.func gf) lb, args := #[.func (.yield (D + 1)) #[] #[]] }, W1, gf, #[.func (.yield (D + 1)) #[] #[]] ++ lb, W1, by rw [← hW1]; exact hent, by simp only [resolve, hg]; simp [go_sem], fun f' hf' => trivial, by simp [invoke, go_sem, eg], fun _ => by omega, ?_⟩
  let J : List α → World → Prop := fun pre W => I pre W ∧ W.heap[D + 1]? = some (.loop (lp .ready)) ∧ W.heap[D]? = some (.deferred (some []))
  refine (hiter (D + 1) J W1 f1 (fun pre A B hJ hf => ?_) (fun pre x rest W hxs hJ => ?_) ⟨hI _ _ _ h0 (f1.mono (fun _ _ q => q.elim)), L1, K1⟩).mono ?_
  · have e1 : ¬ T (D + 1) := fun q => by have := hT _ q; omega
    have e2 : ¬ T D := fun q => by have := hT _ q; omega
    exact ⟨hI _ _ _ hJ.1 (hf.mono (fun _ _ q => .inl q)), (hf.block _ (Array.getElem?_eq_some_iff.1 hJ.2.1).1 e1).trans hJ.2.1, (hf.block _ (Array.getElem?_eq_some_iff.1 hJ.2.2).1 e2).trans hJ.2.2⟩
  · obtain ⟨hi, hl, hk⟩ := hJ
    have hlt := (Array.getElem?_eq_some_iff.1 hl).1
    refine ⟨fn, _, assign, body, run_yield hl (hps x), roundIn_of_wpIn hfn (hassign _ x W _ ⟨_, run_beginRound hl rfl, ?_⟩)⟩
    have hl2 : (W.putObj (D + 1) (.loop (lp .busy))).heap[D + 1]? = some (.loop (lp .busy)) := World.putObj_heap_same hlt
    have fb : Fr (fun k => k = D + 1) W (W.putObj (D + 1) (.loop (lp .busy))) := fr_put (Fr.refl _ _) _ _ (fun _ => rfl)
    refine wpIn_mono (hbody (D + 1) pre x rest _ hxs (hI _ _ _ hi (fb.mono (fun _ _ q => .inr (.inr q)))) (by rw [World.putObj_size]; omega)) ?_
    rintro e a3 W3 ⟨rfl, hi3, f3⟩
    have hl3 : W3.heap[D + 1]? = some (.loop (lp .busy)) := (f3.block _ (by rw [World.putObj_size]; exact hlt) (fun q => q.2.2 rfl)).trans hl2
    have hk3 : W3.heap[D]? = some (.deferred (some [])) := (f3.block _ (by rw [World.putObj_size]; omega) (fun q => q.2.1 rfl)).trans ((World.putObj_heap_other (by omega)).trans hk)
    have hlt3 := (Array.getElem?_eq_some_iff.1 hl3).1
    have fe : Fr (fun k => k = D + 1) W3 (W3.putObj (D + 1) (.loop (lp .ready))) := fr_put (Fr.refl _ _) _ _ (fun _ => rfl)
    refine ⟨_, _, run_endRound none hl3, rfl, ⟨hI _ _ _ hi3 (fe.mono (fun _ _ q => .inr (.inr q))), World.putObj_heap_same hlt3, (World.putObj_heap_other (by omega)).trans hk3⟩, ?_⟩
    exact ((fb.mono (fun k _ q => .inr (by omega))).comp (f3.mono (fun k _ q => .inl q.1))).comp (fe.mono (fun k _ q => .inr (by omega)))
  · rintro e W2 ⟨⟨v, rfl⟩, ⟨hi, hl, hk⟩, hr⟩
    have fe : Fr (fun k => k = D + 1) W2 (W2.putObj (D + 1) (.loop (lp .exhausted))) := fr_put (Fr.refl _ _) _ _ (fun _ => rfl)
    have hlt := (Array.getElem?_eq_some_iff.1 hl).1
    exact ⟨none, _, run_endLoop hl (by simp [lp]), (hdone _ (hI _ _ _ hi (fe.mono (fun _ _ q => .inr (.inr q)))) (hR _ _ hr fe) (by rw [World.putObj_size]; omega) ((World.putObj_heap_other (by omega)).trans hk))⟩
end Go.Proofs.Ytlpdlhmdhlcdlaa
