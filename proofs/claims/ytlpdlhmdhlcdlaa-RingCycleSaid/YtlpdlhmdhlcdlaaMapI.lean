/-
  Maps of int to int that a call makes: what each key tells, and which keys there are. No conditions.
-/
import Derived.Test.YtlpdlhmdhlcdlaaKit
import Derived.Test.YtlpdlhmdhlcdlaaChecked
import Derived.Maps.RangeWalk
import Derived.Maps.OwnOps
import Derived.Maps.OwnSet
namespace Go.Proofs.Ytlpdlhmdhlcdlaa
set_option linter.unusedSimpArgs false
set_option linter.unusedVariables false
open Go.RowKit Go.Maps

theorem intK : Keyed Try.prog 3 := int_keyed Try.underlying3
theorem zeroI (w : World) : (zeroValue 3).run Try.prog w = .ok (.int .i64 0) w := by kernel_rfl
/-- Block b is a map of at most n keys, those of ks, each once; a key tells f of it, nought where it isn't there. -/
def IMap (w : World) (b n : Nat) (ks : List Int) (f : Int → Int) : Prop :=
  ∃ D : DataW Unit, w.ownsMap Try.prog 3 (plainElem Try.prog 3) b n D ∧ (∀ c, (Lit.int .i64 c).wf = true → D.atKey (.int .i64 c) (.lit (.int .i64 0)) = .lit (.int .i64 (f c))) ∧
    (∀ c, has D (.int .i64 c) = decide (c ∈ ks)) ∧ Maps.size D = ks.length
theorem IMap.made (w : World) : IMap (w.alloc (.map #[] 0)) w.heap.size 0 [] (fun _ => 0) :=
  ⟨_, World.ownsMap_made w _ _ _, fun c _ => rfl, fun c => by simp [has_eq], rfl⟩
theorem IMap.lt {w : World} {b n : Nat} {ks : List Int} {f : Int → Int} (h : IMap w b n ks f) : b < w.heap.size := by
  obtain ⟨D, h, _⟩ := h
  exact h.lt
theorem IMap.mono {w : World} {b n m : Nat} {ks : List Int} {f : Int → Int} (h : IMap w b n ks f) (hn : n ≤ m) : IMap w b m ks f := by
  obtain ⟨D, h, r⟩ := h
  exact ⟨D, h.mono hn, r⟩
theorem owns_fr {S : Nat → Prop} {w w' : World} {P : Program} {k : TypeId} {R : Value → Option (DataW Unit × List MemPlace)} {b n : Nat} {D : DataW Unit} (h : w.ownsMap P k R b n D) (f : Fr S w w') (hs : ¬ S b) : w'.ownsMap P k R b n D := by
  have hl := h.lt
  obtain ⟨es, cl, hb, r⟩ := h
  exact ⟨es, cl, (f.block b hl hs).trans hb, r⟩
theorem ranges_fr {S : Nat → Prop} {w w' : World} {P : Program} {k : TypeId} {R : Value → Option (DataW Unit × List MemPlace)} {b r n cnt : Nat} {D : DataW Unit} {left : Lit → Bool} (h : w.ranges P k R b r n D left cnt) (f : Fr S w w') (hb : ¬ S b) (hr : ¬ S r) : w'.ranges P k R b r n D left cnt := by
  have h1 := h.owns.lt
  have h2 := h.lt
  obtain ⟨es, clock, since, seen, c0, e1, F, hs, hD, e2, rest⟩ := h
  exact ⟨es, clock, since, seen, c0, (f.block b h1 hb).trans e1, F, hs, hD, (f.block r h2 hr).trans e2, rest⟩
theorem IMap.fr {S : Nat → Prop} {w w' : World} {b n : Nat} {ks : List Int} {f : Int → Int} (h : IMap w b n ks f) (g : Fr S w w') (hs : ¬ S b) : IMap w' b n ks f := by
  obtain ⟨D, h, r⟩ := h
  exact ⟨D, owns_fr h g hs, r⟩
theorem IMap.nodup {w : World} {b n : Nat} {ks : List Int} {f : Int → Int} (h : IMap w b n ks f) : ks.length ≤ n := by
  obtain ⟨D, h, _, _, e⟩ := h
  rw [← e]
  exact h.size_le
/-- What a key that isn't there tells. -/
theorem IMap.none {w : World} {b n : Nat} {ks : List Int} {f : Int → Int} (h : IMap w b n ks f) {c : Int} (hw : (Lit.int .i64 c).wf = true) (hc : c ∉ ks) : f c = 0 := by
  obtain ⟨D, _, h1, h2, _⟩ := h
  have e := h1 c hw
  rw [atKey_of_not_has (by rw [h2]; simp [hc])] at e
  injection e with e
  injection e with _ e
  exact e.symm
/-- A look-up, as an equation on its run: where the operation is guarded. -/
theorem IMap.run {w : World} {b n : Nat} {ks : List Int} {f : Int → Int} (h : IMap w b n ks f) {c : Int} (hc : (Lit.int .i64 c).wf = true) :
    (Instr.lookup 42 (.map (some b)) (.int .i64 c) false).run Try.prog w = .ok (.int .i64 (f c)) w := by
  obtain ⟨D, h, h1, _, _⟩ := h
  obtain ⟨v, hrun, hv, _⟩ := h.lookup_int intK Try.underlying42 Try.underlying3 (zeroI _) (keyOf_int_mk Try.underlying3 hc)
  have e := (h1 c hc).symm.trans hv
  injection e with e
  injection e with _ e
  rw [hrun, ← e]
/-- How many keys there are, as an equation on the builtin's run. -/
theorem IMap.lenrun {w : World} {b n : Nat} {ks : List Int} {f : Int → Int} (h : IMap w b n ks f) (ty : TypeId) :
    (Builtin.len_ #[42] ty #[.map (some b)]).run Try.prog w = .ok (.int .i64 (ks.length : Int)) w := by
  obtain ⟨D, h, _, _, e⟩ := h
  rw [h.len Try.underlying42 ty, e]
section
variable {P : Program} (w : World) {ops : Array Oper} {rest : List Oper} {o : Oper} {a : Act} {Q : Exit → Act → World → Prop}
/-- in[c]. -/
theorem wp_look (hg : o.guard = none) (m x : Operand) (hop : o.op = Op.lookup 42 m x false) (b n : Nat) (ks : List Int) (f : Int → Int) (hm : a.eval m = .map (some b)) (h : IMap w b n ks f)
    (c : Int) (hx : a.eval x = .int .i64 c) (hc : (Lit.int .i64 c).wf = true) (hK : wpList Try.prog ops Q rest (a.put o.dst (.int .i64 (f c))) w) : wpList Try.prog ops Q (o :: rest) a w := by
  obtain ⟨D, h, h1, _, _⟩ := h
  refine wpList_lookup_own_int w hg m x _ hop 3 3 .i64 intK Try.underlying42 Try.underlying3 (zeroI _) b n D hm h _ _ hx (keyOf_int_mk Try.underlying3 hc) ?_
  intro v hv _
  have e := (h1 c hc).symm.trans hv
  injection e with e
  injection e with _ e
  rw [← e]
  exact hK
/-- in[c] = v. -/
theorem wp_put (hg : o.guard = none) (m x v : Operand) (hop : o.op = Op.mapUpdate 42 m x v) (b n : Nat) (ks : List Int) (f : Int → Int) (hm : a.eval m = .map (some b)) (h : IMap w b n ks f) (hn : n < 1000000)
    (c d : Int) (hx : a.eval x = .int .i64 c) (hv : a.eval v = .int .i64 d) (hc : (Lit.int .i64 c).wf = true) (hd : (Lit.int .i64 d).wf = true)
    (hK : ∀ w', IMap w' b (n + 1) (if c ∈ ks then ks else ks ++ [c]) (fun y => if y = c then d else f y) → Fr (fun x => x = b) w w' → w'.heap.size = w.heap.size → wpList Try.prog ops Q rest (a.put o.dst undef) w') : wpList Try.prog ops Q (o :: rest) a w := by
  obtain ⟨D, h, h1, h2, h3⟩ := h
  have hti := h.tidy intK
  refine wpList_mapUpdate_in w hg m x v _ hop 3 3 intK Try.underlying42 _ b n D hm h (by unfold maxLen; omega) _ _ _ hx hv (keyOf_int_mk Try.underlying3 hc) _ [] (plainElem_int Try.underlying3 hd) ?_
  intro w' g1 g2
  refine hK w' ⟨_, g1, ?_, ?_, ?_⟩ ?_ ?_
  · intro y hy
    by_cases e : y = c
    · subst e
      simp only [if_true]
      exact atKey_put_same hti.isMap (k := .int .i64 y) trivial _ _
    · simp only [if_neg e]
      rw [atKey_put_other (by simpa using e)]
      exact h1 y hy
  · intro y
    by_cases e : y = c
    · subst e
      rw [has_put_same hti.isMap (k := .int .i64 y) trivial]
      by_cases q : y ∈ ks <;> simp [q]
    · rw [has_put_other (by simpa using e), h2]
      by_cases q : c ∈ ks <;> simp [q, e]
  · rw [size_put hti, h2, h3]
    by_cases q : c ∈ ks <;> simp [q]
  · exact Fr.grown (Fr.refl _ _) g2.grown (fun k q _ => by cases q; rfl)
  · obtain ⟨es, cl, es', cl', _, rfl⟩ := g2
    simp [Go.ChangeMaps.setBlock]
end
end Go.Proofs.Ytlpdlhmdhlcdlaa
