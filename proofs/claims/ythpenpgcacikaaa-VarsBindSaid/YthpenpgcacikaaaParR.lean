/-
  Rows of trees that grow (layer 8): of expressions, of binds, of alternatives. No conditions.
-/
import Derived.Test.YthpenpgcacikaaaPar4
namespace Go.Proofs.Ythpenpgcacikaaa
set_option linter.unusedSimpArgs false
set_option linter.unusedVariables false
open Go.RowKit

/-- A bind as its ten cells lie. -/
def BAt (X : Nat → Prop) (w : World) (c : List Value) (t : TB) : Prop := ∃ (pn : Value) (cs : List Value), c = .string ⟨t.name.toArray⟩ :: pn :: cs ∧ RowS X w pn t.params ∧ EAt X w cs t.body
/-- An alternative as its thirteen cells lie. -/
def AAt (X : Nat → Prop) (w : World) (c : List Value) (t : TA) : Prop := ∃ (pn : Value) (cs : List Value), c = .int .i64 (t.kind : Int) :: .string ⟨t.name.toArray⟩ :: .bool t.flt :: .int .u64 (t.bits : Int) :: pn :: cs ∧ RowS X w pn t.names ∧ EAt X w cs t.body
/-- What a row's elements must keep. -/
structure ElemLaw {α : Type} (R : (Nat → Prop) → World → List Value → α → Prop) (size : Nat) : Prop where
  fr : ∀ {X S : Nat → Prop} {w w' : World} {c : List Value} {a : α}, R X w c a → Fr S w w' → (∀ b, S b → X b) → R X w' c a
  mono : ∀ {X Y : Nat → Prop} {w : World} {c : List Value} {a : α}, R X w c a → (∀ b, b < w.heap.size → Y b → X b) → R Y w c a
  len : ∀ {X : Nat → Prop} {w : World} {c : List Value} {a : α}, R X w c a → c.length = size
theorem lawE : ElemLaw EAt 8 := ⟨fun h f hs => h.fr f hs, fun h hs => h.mono hs, fun h => h.len⟩
theorem lawB : ElemLaw BAt 10 :=
  ⟨fun ⟨pn, cs, e, h1, h2⟩ f hs => ⟨pn, cs, e, RowS.fr h1 f hs, h2.fr f hs⟩, fun ⟨pn, cs, e, h1, h2⟩ hs => ⟨pn, cs, e, RowC.mono h1 (by decide) hs, h2.mono hs⟩, fun ⟨pn, cs, e, h1, h2⟩ => by rw [e]; simp [h2.len]⟩
theorem lawA : ElemLaw AAt 13 :=
  ⟨fun ⟨pn, cs, e, h1, h2⟩ f hs => ⟨pn, cs, e, RowS.fr h1 f hs, h2.fr f hs⟩, fun ⟨pn, cs, e, h1, h2⟩ hs => ⟨pn, cs, e, RowC.mono h1 (by decide) hs, h2.mono hs⟩, fun ⟨pn, cs, e, h1, h2⟩ => by rw [e]; simp [h2.len]⟩
/-- A row of the call's own, each of its elements a tree. -/
def RowsAt {α : Type} (R : (Nat → Prop) → World → List Value → α → Prop) (size : Nat) (t : TypeId) (base : Nat) (w : World) (v : Value) (acc : List α) : Prop :=
  ∃ cl : List (List Value), cl.length = acc.length ∧ (∀ i (h : i < cl.length) (h' : i < acc.length), R (fun b => b < base ∨ v.ownBlock = some b) w cl[i] acc[i]) ∧ w.ownsRow base t size v acc.length cl.flatten
section
variable {α : Type} {R : (Nat → Prop) → World → List Value → α → Prop} {size : Nat} {t : TypeId} {base : Nat} {w w' : World} {v : Value} {acc : List α}
theorem RowsAt.nil : RowsAt R size t base w (.slice none 0 0) ([] : List α) := ⟨[], rfl, fun i h _ => absurd h (Nat.not_lt_zero i), World.ownsRow_nil _ _ _ _⟩
theorem RowsAt.own (h : RowsAt R size t base w v acc) : ∀ k, v.ownBlock = some k → base ≤ k ∧ k < w.heap.size := by
  obtain ⟨cl, _, _, h⟩ := h
  exact h.lt
theorem RowsAt.shape (h : RowsAt R size t base w v acc) : ∃ a cap, v = .slice a acc.length cap := by
  obtain ⟨cl, _, _, h⟩ := h
  exact owns_shape h
theorem RowsAt.fr {S : Nat → Prop} (law : ElemLaw R size) (h : RowsAt R size t base w v acc) (f : Fr S w w') (hs : ∀ b, S b → b < base) : RowsAt R size t base w' v acc := by
  have ho := h.own
  obtain ⟨cl, h1, h2, h3⟩ := h
  exact ⟨cl, h1, fun i a b => law.fr (h2 i a b) f (fun b q => .inl (hs b q)), owns_frS h3 f (fun k q e => by have := (ho k q).1; have := hs k e; omega)⟩
theorem RowsAt.push {v' : Value} {w3 : World} {c : List Value} {a : α} (law : ElemLaw R size) (h : RowsAt R size t base w v acc) (hn : R (fun b => b < base ∨ v.ownBlock = some b) w c a) {cl : List Value} (hcl : w.ownsRow base t size v acc.length cl)
    (ho : w3.ownsRow base t size v' (acc.length + 1) (cl ++ c)) (f : Fr (fun k => v.ownBlock = some k) w w3) (hk : ∀ k, v'.ownBlock = some k → v.ownBlock = some k ∨ w.heap.size ≤ k) : RowsAt R size t base w3 v' (acc ++ [a]) := by
  obtain ⟨cl', h1, h2, h3⟩ := h
  have e : cl = cl'.flatten := by
    rcases h3.2 with ⟨q1, q2⟩ | ⟨g, cap, cur, q1, _, q3, _, _, _, q4⟩
    · have a1 := hcl.1
      have a2 := h3.1
      rw [q2, Nat.zero_mul] at a1 a2
      rw [List.eq_nil_of_length_eq_zero a1, List.eq_nil_of_length_eq_zero a2]
    · rcases hcl.2 with ⟨r1, r2⟩ | ⟨g', cap', cur', r1, _, r3, _, _, _, r4⟩
      · rw [q1] at r1; cases r1
      · rw [q1] at r1
        injection r1 with r1 r1' r1''
        injection r1 with r1
        injection r1 with r1
        subst r1
        rw [q3] at r3
        injection r3 with r3
        injection r3 with r3
        rw [← q4, ← r4, r3]
  have key : ∀ (c : List Value) (a : α), R (fun b => b < base ∨ v.ownBlock = some b) w c a → R (fun b => b < base ∨ v'.ownBlock = some b) w3 c a := fun c a hr =>
    law.mono (law.fr (law.mono (Y := fun b => b < base ∨ v.ownBlock = some b ∨ v'.ownBlock = some b) hr (fun b hb q => by
      rcases q with q | q | q
      · exact .inl q
      · exact .inr q
      · rcases hk b q with q | q
        · exact .inr q
        · omega)) f (fun b q => .inr (.inl q))) (fun b _ q => q.imp id .inr)
  refine ⟨cl' ++ [c], by simp [h1], fun i hi hi' => ?_, ?_⟩
  · by_cases q : i < cl'.length
    · rw [List.getElem_append_left q, List.getElem_append_left (by omega)]
      exact key _ _ (h2 i q (by omega))
    · have e1 : i = cl'.length := by simp at hi; omega
      subst e1
      rw [List.getElem_append_right (Nat.le_refl _), List.getElem_append_right (by omega)]
      simp only [Nat.sub_self, List.getElem_cons_zero, h1]
      exact key _ _ hn
  · rw [List.flatten_append, ← e, List.length_append]
    simpa using ho
theorem RowsAt.cells (h : RowsAt R size t base w v acc) : ∃ cl, w.ownsRow base t size v acc.length cl := by
  obtain ⟨cl, _, _, h⟩ := h
  exact ⟨_, h⟩
theorem flat_at {cl : List (List Value)} (hl : ∀ c ∈ cl, c.length = size) : ∀ {i j : Nat} {u : Value} (hi : i < cl.length), cl[i][j]? = some u → cl.flatten[i * size + j]? = some u := by
  induction cl with
  | nil => intro i j u hi; simp at hi
  | cons c r ih =>
    intro i j u hi hj
    have hc := hl c (by simp)
    cases i with
    | zero =>
      simp at hj ⊢
      rw [List.getElem?_append_left]
      · exact hj
      · exact (List.getElem?_eq_some_iff.1 hj).1
    | succ i =>
      simp only [List.getElem_cons_succ] at hj
      rw [List.flatten_cons, List.getElem?_append_right (by rw [hc, Nat.add_mul]; omega), hc, show (i + 1) * size + j - size = i * size + j by rw [Nat.add_mul]; omega]
      exact ih (fun c h => hl c (by simp [h])) (by simpa using hi) hj
/-- The row as it is read. -/
theorem RowsAt.row (law : ElemLaw R size) (h : RowsAt R size t base w v acc) : ∃ cs : Nat → List Value, RowC (fun b => b < base) w v acc.length size cs ∧ ∀ i (hi : i < acc.length), R (fun b => b < base) w (cs i) acc[i] := by
  obtain ⟨cl, h1, h2, h3⟩ := h
  have hl : ∀ c ∈ cl, c.length = size := fun c hc => by
    obtain ⟨i, hi, rfl⟩ := List.getElem_of_mem hc
    exact law.len (h2 i hi (by omega))
  refine ⟨fun i => cl.getD i [], RowC.of_own h3 (fun b q => q) (fun i hi => ?_) (fun i hi j u hj => ?_), fun i hi => ?_⟩
  · have e : cl.getD i [] = cl[i] := by simp [List.getD, show i < cl.length by omega]
    rw [e]
    exact hl _ (List.getElem_mem _)
  · have e : cl.getD i [] = cl[i] := by simp [List.getD, show i < cl.length by omega]
    rw [e] at hj
    exact flat_at hl (by omega) hj
  · have e : cl.getD i [] = cl[i] := by simp [List.getD, show i < cl.length by omega]
    simp only [e]
    exact law.mono (h2 i (by omega) hi) (fun b _ q => .inl q)
end
end Go.Proofs.Ythpenpgcacikaaa
