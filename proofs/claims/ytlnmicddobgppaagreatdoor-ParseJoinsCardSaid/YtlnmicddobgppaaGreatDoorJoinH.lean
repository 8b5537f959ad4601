/-
  The drawn region of ParseJoins (layer 8): two rows, each made of two, and a module of both, whatever order is drawn: one law a state of the region. Conditions: what the two modules' rows are.
-/
import Derived.Test.YtlnmicddobgppaaGreatDoorHeldBy
import Derived.Test.YtlnmicddobgppaaGreatDoorPjZ
namespace Go.Proofs.YtlnmicddobgppaaGreatDoor
set_option linter.unusedSimpArgs false
set_option linter.unusedVariables false
open Go Go.RowKit

/-- Number i of the operations does this. -/
def OpIs (l : List Oper) (i : Nat) (op : Op) (dst : Option Tmp) : Prop := ∃ o, l[i]? = some o ∧ o.op = op ∧ o.dst = dst ∧ o.guard = none
section
variable {P : Program} {l : List Oper} {Q : Exit → Act → World → Prop} {K : Act → World → Prop} {i : Nat} {a : Act} {w w' : World} {op : Op} {d : Option Tmp}
theorem op_run (h : OpIs l i op d) {v : Value} (hr : ∀ o : Oper, o.op = op → (execOp a.eval o).run P w = .ok (.value v) w') (hK : K (a.put d v) w') : wpOp P l.toArray Q i K a w := by
  obtain ⟨o, h1, h2, h3, h4⟩ := h
  have e : l.toArray[i]? = some o := by simpa using h1
  have hw : Region.wanted o (yielded l.toArray a.tmps) = true := by simp [Region.wanted, h4]
  unfold wpOp
  rw [e]
  simp only [hw, if_true]
  refine .inl ?_
  unfold Oper.wp
  rw [hr o h2, Oper.upon_value, h3]
  exact hK
theorem op_skip (h : OpIs l i op none) (hr : ∀ o : Oper, o.op = op → (execOp a.eval o).run P w = .ok .skip w') (hK : K a w') : wpOp P l.toArray Q i K a w := by
  obtain ⟨o, h1, h2, h3, h4⟩ := h
  have e : l.toArray[i]? = some o := by simpa using h1
  have hw : Region.wanted o (yielded l.toArray a.tmps) = true := by simp [Region.wanted, h4]
  unfold wpOp
  rw [e]
  simp only [hw, if_true]
  refine .inl ?_
  unfold Oper.wp
  rw [hr o h2, Oper.upon_skip, h3]
  exact hK
theorem op_app {iX s x : Nat} {t : TypeId} (h : OpIs l iX (Op.call { callee := Callee.builtin Builtin.append, args := #[.tmp s, .tmp x], argTypes := #[t, t] }) d)
    (base : Nat) (e : TypeId) (i : TypeInfo) (z : Value) (size bytes : Nat) (h1 : P.underlying t = some (.slice e)) (h2 : P.info? e = some i) (h3 : i.zero = some z) (h4 : i.size = size) (h5 : i.bytes = bytes) (h6 : z.cells.size = size) (h7 : 0 < size)
    {v : Value} {n : Nat} {xs : List Value} (hs : a.eval (.tmp s) = v) (hown : w.ownsRow base e size v n xs)
    {A : Option Addr} {m c : Nat} {news : List Value} (hx : a.eval (.tmp x) = .slice A m c) (hn : Src w A m size news) (h1c : ∀ u ∈ news, u.oneCell' = true)
    (b1 : n + m ≤ maxLen) (b2 : (n + m) * bytes ≤ 140737488355328) (hbase : base ≤ w.heap.size)
    (hK : ∀ v' w', w'.ownsRow base e size v' (n + m) (xs ++ news) → w.grownBy w' v.ownBlock → K (a.put d v') w') : wpOp P l.toArray Q iX K a w := by
  obtain ⟨o, g1, g2, g3, g4⟩ := h
  have e : l.toArray[iX]? = some o := by simpa using g1
  have hw : Region.wanted o (yielded l.toArray a.tmps) = true := by simp [Region.wanted, g4]
  unfold wpOp
  rw [e]
  simp only [hw, if_true]
  refine .inl ?_
  have := step_append_src (P := P) (ops := l.toArray) (o := o) (a := a) (w := w) (K := K) (Q := Q) (E := True) g4 (.tmp s) (.tmp x) t g2 base _ i z size bytes h1 h2 h3 h4 h5 h6 h7 v n xs hs hown A m c news hx hn h1c b1 b2 hbase (fun v' w' r1 r2 _ => by rw [g3]; exact hK v' w' r1 r2)
  rw [if_pos hw] at this
  exact this
end
section
variable {l : List Oper} {Q : Exit → Act → World → Prop} {K : Act → World → Prop} {iX s x base : Nat} {a : Act} {w : World} {d : Option Tmp} {v : Value} {n m c : Nat} {xs news : List Value} {A : Option Addr}
theorem op_appA (h : OpIs l iX (Op.call { callee := Callee.builtin Builtin.append, args := #[.tmp s, .tmp x], argTypes := #[23, 23] }) d) (hs : a.eval (.tmp s) = v) (hown : w.ownsRow base 68 2 v n xs) (hx : a.eval (.tmp x) = .slice A m c) (hn : Src w A m 2 news) (h1c : ∀ u ∈ news, u.oneCell' = true)
    (b1 : n + m ≤ 8194) (hbase : base ≤ w.heap.size) (hK : ∀ v' w', w'.ownsRow base 68 2 v' (n + m) (xs ++ news) → w.grownBy w' v.ownBlock → K (a.put d v') w') : wpOp Tryz.prog l.toArray Q iX K a w := by
  obtain ⟨i, h2, h3, h4, h5⟩ := info_parts infoD
  exact op_app h base 68 i (.agg #[.string ⟨#[]⟩, .int .i64 0]) 2 24 Tryz.underlying23 h2 h3 h4 h5 rfl (by decide) hs hown hx hn h1c (by unfold maxLen; omega) (by omega) hbase hK
theorem op_appB (h : OpIs l iX (Op.call { callee := Callee.builtin Builtin.append, args := #[.tmp s, .tmp x], argTypes := #[24, 24] }) d) (hs : a.eval (.tmp s) = v) (hown : w.ownsRow base 51 10 v n xs) (hx : a.eval (.tmp x) = .slice A m c) (hn : Src w A m 10 news) (h1c : ∀ u ∈ news, u.oneCell' = true)
    (b1 : n + m ≤ 8194) (hbase : base ≤ w.heap.size) (hK : ∀ v' w', w'.ownsRow base 51 10 v' (n + m) (xs ++ news) → w.grownBy w' v.ownBlock → K (a.put d v') w') : wpOp Tryz.prog l.toArray Q iX K a w := by
  obtain ⟨i, h2, h3, h4, h5⟩ := info_parts infoB
  exact op_app h base 51 i (.agg #[.string ⟨#[]⟩, .slice none 0 0, .int .i64 0, .string ⟨#[]⟩, .bool false, .int .u64 0, .slice none 0 0, .slice none 0 0, .slice none 0 0, .slice none 0 0]) 10 176 Tryz.underlying24 h2 h3 h4 h5 rfl (by decide) hs hown hx hn h1c (by unfold maxLen; omega) (by omega) hbase hK
end
theorem eval_put (a : Act) (d : Nat) (v : Value) (t : Nat) (h0 : 120 ≤ a.tmps.size) (h1 : d < 120) : (a.put (some d) v).eval (.tmp t) = if d = t then v else a.eval (.tmp t) := by
  have h : d < a.tmps.size := by omega
  simp only [Act.put, Act.eval]
  by_cases q : d = t
  · subst q
    rw [if_pos rfl]
    simp [Array.getD_eq_getD_getElem?, h]
  · rw [if_neg q]
    simp [Array.getD_eq_getD_getElem?, Array.getElem?_setIfInBounds, q]
theorem size_put (a : Act) (d : Nat) (v : Value) : (a.put (some d) v).tmps.size = a.tmps.size := by simp [Act.put]
theorem put_swap (a : Act) {d e : Nat} (h : d ≠ e) (u v : Value) : (a.put (some d) u).put (some e) v = (a.put (some e) v).put (some d) u := by
  simp only [Act.put]
  rw [Array.setIfInBounds_comm _ _ h]
theorem grownJ_fr {w1 w2 : World} {row : Option Nat} (hg : w1.grownBy w2 row) : Fr (fun k => row = some k) w1 w2 := Fr.grown (Fr.refl _ _) hg (fun _ q _ => q)
theorem set_twoJ (w : World) (b : Nat) (v0 v1 : Value) : Fr (fun k => k = b) w ((w.setCell ⟨b, 0, none⟩ v0).setCell ⟨b, 1, none⟩ v1) := Fr.set (S := fun k => k = b) (Fr.set (S := fun k => k = b) (Fr.refl _ _) ⟨b, 0, none⟩ v0 (fun _ => rfl)) ⟨b, 1, none⟩ v1 (fun _ => rfl)
theorem run_newA {o : Oper} (ho : o.op = Op.buildSlice 23 0 #[]) (ρ : Operand → Value) (w : World) : (execOp ρ o).run Tryz.prog w = .ok (.value (.slice (some ⟨w.heap.size, 0, none⟩) 0 0)) (w.alloc (.cells #[] 68)) := by
  simp only [execOp, ho]
  go_simp
theorem run_newB {o : Oper} (ho : o.op = Op.buildSlice 24 0 #[]) (ρ : Operand → Value) (w : World) : (execOp ρ o).run Tryz.prog w = .ok (.value (.slice (some ⟨w.heap.size, 0, none⟩) 0 0)) (w.alloc (.cells #[] 51)) := by
  simp only [execOp, ho]
  go_simp
theorem run_newM {o : Oper} (ho : o.op = Op.alloc 26) (ρ : Operand → Value) (w : World) : (execOp ρ o).run Tryz.prog w = .ok (.value (.pointer (some ⟨w.heap.size, 0, none⟩))) (w.alloc (.cells #[.slice none 0 0, .slice none 0 0] 26)) := by
  simp only [execOp, ho]
  go_simp
theorem join_build {o : Oper} {ρ : Operand → Value} {u v : Value} {w : World} (ho : o.op = Op.build 26 #[(0, .tmp 111), (1, .tmp 118)]) (e1 : ρ (.tmp 111) = u) (e2 : ρ (.tmp 118) = v) (hu : ∃ a n c, u = .slice a n c) (hv : ∃ a n c, v = .slice a n c) : (execOp ρ o).run Tryz.prog w = .ok (.value (.agg #[u, v])) w := by
  obtain ⟨a, n, c, rfl⟩ := hu
  obtain ⟨a', n', c', rfl⟩ := hv
  simp only [execOp, ho, List.map_toArray, List.map_cons, List.map_nil, e1, e2]
  go_simp
theorem join_store {o : Oper} {ρ : Operand → Value} {u v : Value} {w : World} {b : Nat} (ho : o.op = Op.store 26 (.tmp 19) (.tmp 119)) (e1 : ρ (.tmp 19) = .pointer (some ⟨b, 0, none⟩)) (e2 : ρ (.tmp 119) = .agg #[u, v]) (hb : Blk w b #[.slice none 0 0, .slice none 0 0] 26) (hu : ∃ a n c, u = .slice a n c) (hv : ∃ a n c, v = .slice a n c) : (execOp ρ o).run Tryz.prog w = .ok .skip ((w.setCell ⟨b, 0, none⟩ u).setCell ⟨b, 1, none⟩ v) := by
  obtain ⟨a, n, c, rfl⟩ := hu
  obtain ⟨a', n', c', rfl⟩ := hv
  have m0 := hb.cell 0
  have m1 := hb.cell 1
  simp at m0 m1
  have mf := hb.free
  have ml := hb.lt
  simp only [execOp, ho, e1, e2]
  go_simp
theorem ownsJ_one {w : World} {base size n : Nat} {t : TypeId} {v : Value} {xs : List Value} (h : w.ownsRow base t size v n xs) : ∃ a n c, v = .slice a n c := by
  obtain ⟨x, y, rfl⟩ := owns_shape h
  exact ⟨_, _, _, rfl⟩
/-- What stands at a state of the region: the rows made so far, the module's block. -/
def JS (W w : World) (oa ob : Option (Value × Nat × List Value)) (om : Option Nat) : Prop :=
  Fr Nil W w ∧ (∀ x, oa = some x → w.ownsRow W.heap.size 68 2 x.1 x.2.1 x.2.2) ∧ (∀ x, ob = some x → w.ownsRow W.heap.size 51 10 x.1 x.2.1 x.2.2) ∧ (∀ b, om = some b → Blk w b #[.slice none 0 0, .slice none 0 0] 26 ∧ W.heap.size ≤ b)
section
variable {W w w' : World} {oa ob : Option (Value × Nat × List Value)} {om : Option Nat}
theorem fr_alloc (w : World) (o : Obj) : Fr Nil w (w.alloc o) := Fr.alloc (Fr.refl _ _) _
theorem JS.nil (h : JS W w oa ob om) (f : Fr Nil w w') : Fr Nil W w' ∧ (∀ x, oa = some x → w'.ownsRow W.heap.size 68 2 x.1 x.2.1 x.2.2) ∧ (∀ x, ob = some x → w'.ownsRow W.heap.size 51 10 x.1 x.2.1 x.2.2) ∧ (∀ b, om = some b → Blk w' b #[.slice none 0 0, .slice none 0 0] 26 ∧ W.heap.size ≤ b) :=
  ⟨h.1.comp f, fun x e => owns_frS (h.2.1 x e) f (fun _ _ q => q), fun x e => owns_frS (h.2.2.1 x e) f (fun _ _ q => q), fun b e => ⟨f.blk (h.2.2.2 b e).1 (fun q => q), (h.2.2.2 b e).2⟩⟩
theorem JS.newA (h : JS W w none ob om) : JS W (w.alloc (.cells #[] 68)) (some (.slice (some ⟨w.heap.size, 0, none⟩) 0 0, 0, [])) ob om := by
  obtain ⟨h1, h2, h3, h4⟩ := h.nil (fr_alloc w (.cells #[] 68))
  exact ⟨h1, fun x e => by cases e; exact zero_owns (Blk.new _ _ _) h.1.size, h3, h4⟩
theorem JS.newB (h : JS W w oa none om) : JS W (w.alloc (.cells #[] 51)) oa (some (.slice (some ⟨w.heap.size, 0, none⟩) 0 0, 0, [])) om := by
  obtain ⟨h1, h2, h3, h4⟩ := h.nil (fr_alloc w (.cells #[] 51))
  exact ⟨h1, h2, fun x e => by cases e; exact zero_owns (Blk.new _ _ _) h.1.size, h4⟩
theorem JS.newM (h : JS W w oa ob none) : JS W (w.alloc (.cells #[.slice none 0 0, .slice none 0 0] 26)) oa ob (some w.heap.size) := by
  obtain ⟨h1, h2, h3, h4⟩ := h.nil (fr_alloc w (.cells #[.slice none 0 0, .slice none 0 0] 26))
  exact ⟨h1, h2, h3, fun b e => by cases e; exact ⟨Blk.new _ _ _, h.1.size⟩⟩
theorem JS.appA {v v' : Value} {n n' : Nat} {xs xs' : List Value} (h : JS W w (some (v, n, xs)) ob om) (ho : w'.ownsRow W.heap.size 68 2 v' n' xs') (hg : w.grownBy w' v.ownBlock) : JS W w' (some (v', n', xs')) ob om := by
  have hz := h.2.1 _ rfl
  have F := grownJ_fr hg
  exact ⟨h.1.trans F (fun k hk q => by have := (hz.lt k q).1; omega), fun x e => by cases e; exact ho, fun x e => owns_frS (h.2.2.1 x e) F (fun k e' q => own_own_ne hz (h.2.2.1 x e) (by decide) k e' q), fun b e => ⟨F.blk (h.2.2.2 b e).1 (fun q => own_blk_ne hz (h.2.2.2 b e).1 (by decide) q), (h.2.2.2 b e).2⟩⟩
theorem JS.appB {v v' : Value} {n n' : Nat} {xs xs' : List Value} (h : JS W w oa (some (v, n, xs)) om) (ho : w'.ownsRow W.heap.size 51 10 v' n' xs') (hg : w.grownBy w' v.ownBlock) : JS W w' oa (some (v', n', xs')) om := by
  have hz := h.2.2.1 _ rfl
  have F := grownJ_fr hg
  exact ⟨h.1.trans F (fun k hk q => by have := (hz.lt k q).1; omega), fun x e => owns_frS (h.2.1 x e) F (fun k e' q => own_own_ne hz (h.2.1 x e) (by decide) k e' q), fun x e => by cases e; exact ho, fun b e => ⟨F.blk (h.2.2.2 b e).1 (fun q => own_blk_ne hz (h.2.2.2 b e).1 (by decide) q), (h.2.2.2 b e).2⟩⟩
end
/-- The region's operations. -/
structure JOps (l : List Oper) : Prop where
  o0 : OpIs l 0 (Op.buildSlice 23 0 #[]) (some 105)
  o3 : OpIs l 3 (Op.call { callee := Callee.builtin Builtin.append, args := #[.tmp 105, .tmp 107], argTypes := #[23, 23] }) (some 108)
  o6 : OpIs l 6 (Op.call { callee := Callee.builtin Builtin.append, args := #[.tmp 108, .tmp 110], argTypes := #[23, 23] }) (some 111)
  o7 : OpIs l 7 (Op.buildSlice 24 0 #[]) (some 112)
  o10 : OpIs l 10 (Op.call { callee := Callee.builtin Builtin.append, args := #[.tmp 112, .tmp 114], argTypes := #[24, 24] }) (some 115)
  o13 : OpIs l 13 (Op.call { callee := Callee.builtin Builtin.append, args := #[.tmp 115, .tmp 117], argTypes := #[24, 24] }) (some 118)
  o14 : OpIs l 14 (Op.build 26 #[(0, .tmp 111), (1, .tmp 118)]) (some 119)
  o15 : OpIs l 15 (Op.alloc 26) (some 19)
  o16 : OpIs l 16 (Op.store 26 (.tmp 19) (.tmp 119)) none
  r000 : Region.ready .any l.toArray #[false, true, true, false, true, true, false, false, true, true, false, true, true, false, false, false, false] = [0, 7, 15]
  r001 : Region.ready .any l.toArray #[false, true, true, false, true, true, false, false, true, true, false, true, true, false, false, true, false] = [0, 7]
  r010 : Region.ready .any l.toArray #[false, true, true, false, true, true, false, true, true, true, false, true, true, false, false, false, false] = [0, 15]
  r011 : Region.ready .any l.toArray #[false, true, true, false, true, true, false, true, true, true, false, true, true, false, false, true, false] = [0]
  r100 : Region.ready .any l.toArray #[true, true, true, false, true, true, false, false, true, true, false, true, true, false, false, false, false] = [3, 7, 15]
  r101 : Region.ready .any l.toArray #[true, true, true, false, true, true, false, false, true, true, false, true, true, false, false, true, false] = [3, 7]
  r110 : Region.ready .any l.toArray #[true, true, true, false, true, true, false, true, true, true, false, true, true, false, false, false, false] = [3, 15]
  r111 : Region.ready .any l.toArray #[true, true, true, false, true, true, false, true, true, true, false, true, true, false, false, true, false] = [3]
  r200 : Region.ready .any l.toArray #[true, true, true, true, true, true, false, false, true, true, false, true, true, false, false, false, false] = [6, 7, 15]
  r201 : Region.ready .any l.toArray #[true, true, true, true, true, true, false, false, true, true, false, true, true, false, false, true, false] = [6, 7]
  r210 : Region.ready .any l.toArray #[true, true, true, true, true, true, false, true, true, true, false, true, true, false, false, false, false] = [6, 15]
  r211 : Region.ready .any l.toArray #[true, true, true, true, true, true, false, true, true, true, false, true, true, false, false, true, false] = [6]
  r300 : Region.ready .any l.toArray #[true, true, true, true, true, true, true, false, true, true, false, true, true, false, false, false, false] = [7, 15]
  r301 : Region.ready .any l.toArray #[true, true, true, true, true, true, true, false, true, true, false, true, true, false, false, true, false] = [7]
  r310 : Region.ready .any l.toArray #[true, true, true, true, true, true, true, true, true, true, false, true, true, false, false, false, false] = [10, 15]
  r311 : Region.ready .any l.toArray #[true, true, true, true, true, true, true, true, true, true, false, true, true, false, false, true, false] = [10]
  r410 : Region.ready .any l.toArray #[true, true, true, true, true, true, true, true, true, true, true, true, true, false, false, false, false] = [13, 15]
  r411 : Region.ready .any l.toArray #[true, true, true, true, true, true, true, true, true, true, true, true, true, false, false, true, false] = [13]
  r510 : Region.ready .any l.toArray #[true, true, true, true, true, true, true, true, true, true, true, true, true, true, false, false, false] = [14, 15]
  r511 : Region.ready .any l.toArray #[true, true, true, true, true, true, true, true, true, true, true, true, true, true, false, true, false] = [14]
  r610 : Region.ready .any l.toArray #[true, true, true, true, true, true, true, true, true, true, true, true, true, true, true, false, false] = [15]
  r611 : Region.ready .any l.toArray #[true, true, true, true, true, true, true, true, true, true, true, true, true, true, true, true, false] = [16]
  r700 : Region.ready .any l.toArray #[true, true, true, true, true, true, true, true, true, true, true, true, true, true, true, true, true] = []
section
variable {l : List Oper} {Q : Exit → Act → World → Prop} {S : World → Prop} {W : World} {A : Act} {n1 n2 m1 m2 : Nat} {xA yA xB yB : List Value} {sA1 sA2 sB1 sB2 : Option Addr} {kA1 kA2 kB1 kB2 : Nat} {iB iD : TypeInfo}
/-- What the region reads, and what is asked of its end. -/
structure JC (l : List Oper) (Q : Exit → Act → World → Prop) (S : World → Prop) (W : World) (A : Act) (n1 n2 m1 m2 : Nat) (xA yA xB yB : List Value) (sA1 sA2 sB1 sB2 : Option Addr) (kA1 kA2 kB1 kB2 : Nat) : Prop where
  ops : JOps l
  sz : 120 ≤ A.tmps.size
  a1 : A.eval (.tmp 107) = .slice sA1 n1 kA1
  a2 : A.eval (.tmp 110) = .slice sA2 n2 kA2
  b1 : A.eval (.tmp 114) = .slice sB1 m1 kB1
  b2 : A.eval (.tmp 117) = .slice sB2 m2 kB2
  src : ∀ w', Fr Nil W w' → Src w' sA1 n1 2 xA ∧ Src w' sA2 n2 2 yA ∧ Src w' sB1 m1 10 xB ∧ Src w' sB2 m2 10 yB
  one : (∀ u ∈ xA, u.oneCell' = true) ∧ (∀ u ∈ yA, u.oneCell' = true) ∧ (∀ u ∈ xB, u.oneCell' = true) ∧ (∀ u ∈ yB, u.oneCell' = true)
  few : n1 + n2 ≤ 8194 ∧ m1 + m2 ≤ 8194
  keep : ∀ w', Fr Nil W w' → S w'
  fin : ∀ (vA0 vA1 vA2 vB0 vB1 vB2 : Value) (bM : Nat) (w wf : World), JS W w (some (vA2, n1 + n2, xA ++ yA)) (some (vB2, m1 + m2, xB ++ yB)) (some bM) → wf = (w.setCell ⟨bM, 0, none⟩ vA2).setCell ⟨bM, 1, none⟩ vB2 → Q .normal ((((((((A.put (some 112) vB0).put (some 19) (.pointer (some ⟨bM, 0, none⟩))).put (some 105) vA0).put (some 108) vA1).put (some 111) vA2).put (some 115) vB1).put (some 118) vB2).put (some 119) (.agg #[vA2, vB2])) wf
theorem jh_611 (H : JC l Q S W A n1 n2 m1 m2 xA yA xB yB sA1 sA2 sB1 sB2 kA1 kA2 kB1 kB2) (vA0 vA1 vA2 vB0 vB1 vB2 : Value) (bM : Nat) {w : World} (J : JS W w (some (vA2, n1 + n2, xA ++ yA)) (some (vB2, m1 + m2, xB ++ yB)) (some bM)) : wpAnyH Tryz.prog .any l.toArray Q S 1 #[true, true, true, true, true, true, true, true, true, true, true, true, true, true, true, true, false] ((((((((A.put (some 112) vB0).put (some 19) (.pointer (some ⟨bM, 0, none⟩))).put (some 105) vA0).put (some 108) vA1).put (some 111) vA2).put (some 115) vB1).put (some 118) vB2).put (some 119) (.agg #[vA2, vB2])) w := by
  refine wpAnyH_all H.ops.r611 (by simp) (fun i hi => ?_)
  obtain rfl : i = 16 := by simpa using hi
  have e1 : ((((((((A.put (some 112) vB0).put (some 19) (.pointer (some ⟨bM, 0, none⟩))).put (some 105) vA0).put (some 108) vA1).put (some 111) vA2).put (some 115) vB1).put (some 118) vB2).put (some 119) (.agg #[vA2, vB2])).eval (.tmp 19) = .pointer (some ⟨bM, 0, none⟩) := (by simp [eval_put, size_put, H.sz, H.a1, H.a2, H.b1, H.b2])
  have e2 : ((((((((A.put (some 112) vB0).put (some 19) (.pointer (some ⟨bM, 0, none⟩))).put (some 105) vA0).put (some 108) vA1).put (some 111) vA2).put (some 115) vB1).put (some 118) vB2).put (some 119) (.agg #[vA2, vB2])).eval (.tmp 119) = .agg #[vA2, vB2] := (by simp [eval_put, size_put, H.sz, H.a1, H.a2, H.b1, H.b2])
  obtain ⟨bk, hb⟩ := J.2.2.2 _ rfl
  refine op_skip H.ops.o16 (w' := (w.setCell ⟨bM, 0, none⟩ vA2).setCell ⟨bM, 1, none⟩ vB2) (fun o ho => join_store ho e1 e2 bk (ownsJ_one (J.2.1 _ rfl)) (ownsJ_one (J.2.2.1 _ rfl))) ⟨H.keep _ (J.1.trans (set_twoJ w bM vA2 vB2) (fun k hk q => by have q' : k = bM := q; omega)), ?_⟩
  exact wpAnyH_done H.ops.r700 (H.fin vA0 vA1 vA2 vB0 vB1 vB2 bM w _ J rfl) _
theorem jh_610 (H : JC l Q S W A n1 n2 m1 m2 xA yA xB yB sA1 sA2 sB1 sB2 kA1 kA2 kB1 kB2) (vA0 vA1 vA2 vB0 vB1 vB2 : Value) {w : World} (J : JS W w (some (vA2, n1 + n2, xA ++ yA)) (some (vB2, m1 + m2, xB ++ yB)) none) : wpAnyH Tryz.prog .any l.toArray Q S 2 #[true, true, true, true, true, true, true, true, true, true, true, true, true, true, true, false, false] (((((((A.put (some 112) vB0).put (some 105) vA0).put (some 108) vA1).put (some 111) vA2).put (some 115) vB1).put (some 118) vB2).put (some 119) (.agg #[vA2, vB2])) w := by
  refine wpAnyH_all H.ops.r610 (by simp) (fun i hi => ?_)
  obtain rfl : i = 15 := by simpa using hi
  refine op_run H.ops.o15 (v := .pointer (some ⟨w.heap.size, 0, none⟩)) (w' := w.alloc (.cells #[.slice none 0 0, .slice none 0 0] 26)) (fun o ho => run_newM ho _ _) ⟨H.keep _ J.newM.1, ?_⟩
  rw [put_swap (d := 119) (e := 19) _ (by decide), put_swap (d := 118) (e := 19) _ (by decide), put_swap (d := 115) (e := 19) _ (by decide), put_swap (d := 111) (e := 19) _ (by decide), put_swap (d := 108) (e := 19) _ (by decide), put_swap (d := 105) (e := 19) _ (by decide)]
  exact jh_611 H vA0 vA1 vA2 vB0 vB1 vB2 _ J.newM
theorem jh_511 (H : JC l Q S W A n1 n2 m1 m2 xA yA xB yB sA1 sA2 sB1 sB2 kA1 kA2 kB1 kB2) (vA0 vA1 vA2 vB0 vB1 vB2 : Value) (bM : Nat) {w : World} (J : JS W w (some (vA2, n1 + n2, xA ++ yA)) (some (vB2, m1 + m2, xB ++ yB)) (some bM)) : wpAnyH Tryz.prog .any l.toArray Q S 2 #[true, true, true, true, true, true, true, true, true, true, true, true, true, true, false, true, false] (((((((A.put (some 112) vB0).put (some 19) (.pointer (some ⟨bM, 0, none⟩))).put (some 105) vA0).put (some 108) vA1).put (some 111) vA2).put (some 115) vB1).put (some 118) vB2) w := by
  refine wpAnyH_all H.ops.r511 (by simp) (fun i hi => ?_)
  obtain rfl : i = 14 := by simpa using hi
  have e1 : (((((((A.put (some 112) vB0).put (some 19) (.pointer (some ⟨bM, 0, none⟩))).put (some 105) vA0).put (some 108) vA1).put (some 111) vA2).put (some 115) vB1).put (some 118) vB2).eval (.tmp 111) = vA2 := (by simp [eval_put, size_put, H.sz, H.a1, H.a2, H.b1, H.b2])
  have e2 : (((((((A.put (some 112) vB0).put (some 19) (.pointer (some ⟨bM, 0, none⟩))).put (some 105) vA0).put (some 108) vA1).put (some 111) vA2).put (some 115) vB1).put (some 118) vB2).eval (.tmp 118) = vB2 := (by simp [eval_put, size_put, H.sz, H.a1, H.a2, H.b1, H.b2])
  refine op_run H.ops.o14 (v := .agg #[vA2, vB2]) (w' := w) (fun o ho => join_build ho e1 e2 (ownsJ_one (J.2.1 _ rfl)) (ownsJ_one (J.2.2.1 _ rfl))) ⟨H.keep _ J.1, ?_⟩
  exact jh_611 H vA0 vA1 vA2 vB0 vB1 vB2 bM J
theorem jh_510 (H : JC l Q S W A n1 n2 m1 m2 xA yA xB yB sA1 sA2 sB1 sB2 kA1 kA2 kB1 kB2) (vA0 vA1 vA2 vB0 vB1 vB2 : Value) {w : World} (J : JS W w (some (vA2, n1 + n2, xA ++ yA)) (some (vB2, m1 + m2, xB ++ yB)) none) : wpAnyH Tryz.prog .any l.toArray Q S 3 #[true, true, true, true, true, true, true, true, true, true, true, true, true, true, false, false, false] ((((((A.put (some 112) vB0).put (some 105) vA0).put (some 108) vA1).put (some 111) vA2).put (some 115) vB1).put (some 118) vB2) w := by
  refine wpAnyH_all H.ops.r510 (by simp) (fun i hi => ?_)
  obtain rfl | rfl : i = 14 ∨ i = 15 := by simpa using hi
  · have e1 : ((((((A.put (some 112) vB0).put (some 105) vA0).put (some 108) vA1).put (some 111) vA2).put (some 115) vB1).put (some 118) vB2).eval (.tmp 111) = vA2 := (by simp [eval_put, size_put, H.sz, H.a1, H.a2, H.b1, H.b2])
    have e2 : ((((((A.put (some 112) vB0).put (some 105) vA0).put (some 108) vA1).put (some 111) vA2).put (some 115) vB1).put (some 118) vB2).eval (.tmp 118) = vB2 := (by simp [eval_put, size_put, H.sz, H.a1, H.a2, H.b1, H.b2])
    refine op_run H.ops.o14 (v := .agg #[vA2, vB2]) (w' := w) (fun o ho => join_build ho e1 e2 (ownsJ_one (J.2.1 _ rfl)) (ownsJ_one (J.2.2.1 _ rfl))) ⟨H.keep _ J.1, ?_⟩
    exact jh_610 H vA0 vA1 vA2 vB0 vB1 vB2 J
  · refine op_run H.ops.o15 (v := .pointer (some ⟨w.heap.size, 0, none⟩)) (w' := w.alloc (.cells #[.slice none 0 0, .slice none 0 0] 26)) (fun o ho => run_newM ho _ _) ⟨H.keep _ J.newM.1, ?_⟩
    rw [put_swap (d := 118) (e := 19) _ (by decide), put_swap (d := 115) (e := 19) _ (by decide), put_swap (d := 111) (e := 19) _ (by decide), put_swap (d := 108) (e := 19) _ (by decide), put_swap (d := 105) (e := 19) _ (by decide)]
    exact jh_511 H vA0 vA1 vA2 vB0 vB1 vB2 _ J.newM
theorem jh_411 (H : JC l Q S W A n1 n2 m1 m2 xA yA xB yB sA1 sA2 sB1 sB2 kA1 kA2 kB1 kB2) (vA0 vA1 vA2 vB0 vB1 : Value) (bM : Nat) {w : World} (J : JS W w (some (vA2, n1 + n2, xA ++ yA)) (some (vB1, m1, xB)) (some bM)) : wpAnyH Tryz.prog .any l.toArray Q S 3 #[true, true, true, true, true, true, true, true, true, true, true, true, true, false, false, true, false] ((((((A.put (some 112) vB0).put (some 19) (.pointer (some ⟨bM, 0, none⟩))).put (some 105) vA0).put (some 108) vA1).put (some 111) vA2).put (some 115) vB1) w := by
  refine wpAnyH_all H.ops.r411 (by simp) (fun i hi => ?_)
  obtain rfl : i = 13 := by simpa using hi
  have hf := H.few
  refine op_appB (v := vB1) (n := m1) (xs := xB) (c := kB2) H.ops.o13 (by simp [eval_put, size_put, H.sz, H.a1, H.a2, H.b1, H.b2]) (J.2.2.1 _ rfl) (by simp [eval_put, size_put, H.sz, H.a1, H.a2, H.b1, H.b2]) (H.src _ J.1).2.2.2 H.one.2.2.2 (by omega) J.1.size (fun v' w' ho hg => ?_)
  have J' := J.appB ho hg
  refine ⟨H.keep _ J'.1, ?_⟩
  exact jh_511 H vA0 vA1 vA2 vB0 vB1 v' bM J'
theorem jh_410 (H : JC l Q S W A n1 n2 m1 m2 xA yA xB yB sA1 sA2 sB1 sB2 kA1 kA2 kB1 kB2) (vA0 vA1 vA2 vB0 vB1 : Value) {w : World} (J : JS W w (some (vA2, n1 + n2, xA ++ yA)) (some (vB1, m1, xB)) none) : wpAnyH Tryz.prog .any l.toArray Q S 4 #[true, true, true, true, true, true, true, true, true, true, true, true, true, false, false, false, false] (((((A.put (some 112) vB0).put (some 105) vA0).put (some 108) vA1).put (some 111) vA2).put (some 115) vB1) w := by
  refine wpAnyH_all H.ops.r410 (by simp) (fun i hi => ?_)
  obtain rfl | rfl : i = 13 ∨ i = 15 := by simpa using hi
  · have hf := H.few
    refine op_appB (v := vB1) (n := m1) (xs := xB) (c := kB2) H.ops.o13 (by simp [eval_put, size_put, H.sz, H.a1, H.a2, H.b1, H.b2]) (J.2.2.1 _ rfl) (by simp [eval_put, size_put, H.sz, H.a1, H.a2, H.b1, H.b2]) (H.src _ J.1).2.2.2 H.one.2.2.2 (by omega) J.1.size (fun v' w' ho hg => ?_)
    have J' := J.appB ho hg
    refine ⟨H.keep _ J'.1, ?_⟩
    exact jh_510 H vA0 vA1 vA2 vB0 vB1 v' J'
  · refine op_run H.ops.o15 (v := .pointer (some ⟨w.heap.size, 0, none⟩)) (w' := w.alloc (.cells #[.slice none 0 0, .slice none 0 0] 26)) (fun o ho => run_newM ho _ _) ⟨H.keep _ J.newM.1, ?_⟩
    rw [put_swap (d := 115) (e := 19) _ (by decide), put_swap (d := 111) (e := 19) _ (by decide), put_swap (d := 108) (e := 19) _ (by decide), put_swap (d := 105) (e := 19) _ (by decide)]
    exact jh_411 H vA0 vA1 vA2 vB0 vB1 _ J.newM
theorem jh_311 (H : JC l Q S W A n1 n2 m1 m2 xA yA xB yB sA1 sA2 sB1 sB2 kA1 kA2 kB1 kB2) (vA0 vA1 vA2 vB0 : Value) (bM : Nat) {w : World} (J : JS W w (some (vA2, n1 + n2, xA ++ yA)) (some (vB0, 0, [])) (some bM)) : wpAnyH Tryz.prog .any l.toArray Q S 4 #[true, true, true, true, true, true, true, true, true, true, false, true, true, false, false, true, false] (((((A.put (some 112) vB0).put (some 19) (.pointer (some ⟨bM, 0, none⟩))).put (some 105) vA0).put (some 108) vA1).put (some 111) vA2) w := by
  refine wpAnyH_all H.ops.r311 (by simp) (fun i hi => ?_)
  obtain rfl : i = 10 := by simpa using hi
  have hf := H.few
  refine op_appB (v := vB0) (n := 0) (xs := []) (c := kB1) H.ops.o10 (by simp [eval_put, size_put, H.sz, H.a1, H.a2, H.b1, H.b2]) (J.2.2.1 _ rfl) (by simp [eval_put, size_put, H.sz, H.a1, H.a2, H.b1, H.b2]) (H.src _ J.1).2.2.1 H.one.2.2.1 (by omega) J.1.size (fun v' w' ho hg => ?_)
  rw [Nat.zero_add, List.nil_append] at ho
  have J' := J.appB ho hg
  refine ⟨H.keep _ J'.1, ?_⟩
  exact jh_411 H vA0 vA1 vA2 vB0 v' bM J'
theorem jh_310 (H : JC l Q S W A n1 n2 m1 m2 xA yA xB yB sA1 sA2 sB1 sB2 kA1 kA2 kB1 kB2) (vA0 vA1 vA2 vB0 : Value) {w : World} (J : JS W w (some (vA2, n1 + n2, xA ++ yA)) (some (vB0, 0, [])) none) : wpAnyH Tryz.prog .any l.toArray Q S 5 #[true, true, true, true, true, true, true, true, true, true, false, true, true, false, false, false, false] ((((A.put (some 112) vB0).put (some 105) vA0).put (some 108) vA1).put (some 111) vA2) w := by
  refine wpAnyH_all H.ops.r310 (by simp) (fun i hi => ?_)
  obtain rfl | rfl : i = 10 ∨ i = 15 := by simpa using hi
  · have hf := H.few
    refine op_appB (v := vB0) (n := 0) (xs := []) (c := kB1) H.ops.o10 (by simp [eval_put, size_put, H.sz, H.a1, H.a2, H.b1, H.b2]) (J.2.2.1 _ rfl) (by simp [eval_put, size_put, H.sz, H.a1, H.a2, H.b1, H.b2]) (H.src _ J.1).2.2.1 H.one.2.2.1 (by omega) J.1.size (fun v' w' ho hg => ?_)
    rw [Nat.zero_add, List.nil_append] at ho
    have J' := J.appB ho hg
    refine ⟨H.keep _ J'.1, ?_⟩
    exact jh_410 H vA0 vA1 vA2 vB0 v' J'
  · refine op_run H.ops.o15 (v := .pointer (some ⟨w.heap.size, 0, none⟩)) (w' := w.alloc (.cells #[.slice none 0 0, .slice none 0 0] 26)) (fun o ho => run_newM ho _ _) ⟨H.keep _ J.newM.1, ?_⟩
    rw [put_swap (d := 111) (e := 19) _ (by decide), put_swap (d := 108) (e := 19) _ (by decide), put_swap (d := 105) (e := 19) _ (by decide)]
    exact jh_311 H vA0 vA1 vA2 vB0 _ J.newM
theorem jh_301 (H : JC l Q S W A n1 n2 m1 m2 xA yA xB yB sA1 sA2 sB1 sB2 kA1 kA2 kB1 kB2) (vA0 vA1 vA2 : Value) (bM : Nat) {w : World} (J : JS W w (some (vA2, n1 + n2, xA ++ yA)) none (some bM)) : wpAnyH Tryz.prog .any l.toArray Q S 5 #[true, true, true, true, true, true, true, false, true, true, false, true, true, false, false, true, false] ((((A.put (some 19) (.pointer (some ⟨bM, 0, none⟩))).put (some 105) vA0).put (some 108) vA1).put (some 111) vA2) w := by
  refine wpAnyH_all H.ops.r301 (by simp) (fun i hi => ?_)
  obtain rfl : i = 7 := by simpa using hi
  refine op_run H.ops.o7 (v := .slice (some ⟨w.heap.size, 0, none⟩) 0 0) (w' := w.alloc (.cells #[] 51)) (fun o ho => run_newB ho _ _) ⟨H.keep _ J.newB.1, ?_⟩
  rw [put_swap (d := 111) (e := 112) _ (by decide), put_swap (d := 108) (e := 112) _ (by decide), put_swap (d := 105) (e := 112) _ (by decide), put_swap (d := 19) (e := 112) _ (by decide)]
  exact jh_311 H vA0 vA1 vA2 _ bM J.newB
theorem jh_300 (H : JC l Q S W A n1 n2 m1 m2 xA yA xB yB sA1 sA2 sB1 sB2 kA1 kA2 kB1 kB2) (vA0 vA1 vA2 : Value) {w : World} (J : JS W w (some (vA2, n1 + n2, xA ++ yA)) none none) : wpAnyH Tryz.prog .any l.toArray Q S 6 #[true, true, true, true, true, true, true, false, true, true, false, true, true, false, false, false, false] (((A.put (some 105) vA0).put (some 108) vA1).put (some 111) vA2) w := by
  refine wpAnyH_all H.ops.r300 (by simp) (fun i hi => ?_)
  obtain rfl | rfl : i = 7 ∨ i = 15 := by simpa using hi
  · refine op_run H.ops.o7 (v := .slice (some ⟨w.heap.size, 0, none⟩) 0 0) (w' := w.alloc (.cells #[] 51)) (fun o ho => run_newB ho _ _) ⟨H.keep _ J.newB.1, ?_⟩
    rw [put_swap (d := 111) (e := 112) _ (by decide), put_swap (d := 108) (e := 112) _ (by decide), put_swap (d := 105) (e := 112) _ (by decide)]
    exact jh_310 H vA0 vA1 vA2 _ J.newB
  · refine op_run H.ops.o15 (v := .pointer (some ⟨w.heap.size, 0, none⟩)) (w' := w.alloc (.cells #[.slice none 0 0, .slice none 0 0] 26)) (fun o ho => run_newM ho _ _) ⟨H.keep _ J.newM.1, ?_⟩
    rw [put_swap (d := 111) (e := 19) _ (by decide), put_swap (d := 108) (e := 19) _ (by decide), put_swap (d := 105) (e := 19) _ (by decide)]
    exact jh_301 H vA0 vA1 vA2 _ J.newM
theorem jh_211 (H : JC l Q S W A n1 n2 m1 m2 xA yA xB yB sA1 sA2 sB1 sB2 kA1 kA2 kB1 kB2) (vA0 vA1 vB0 : Value) (bM : Nat) {w : World} (J : JS W w (some (vA1, n1, xA)) (some (vB0, 0, [])) (some bM)) : wpAnyH Tryz.prog .any l.toArray Q S 5 #[true, true, true, true, true, true, false, true, true, true, false, true, true, false, false, true, false] ((((A.put (some 112) vB0).put (some 19) (.pointer (some ⟨bM, 0, none⟩))).put (some 105) vA0).put (some 108) vA1) w := by
  refine wpAnyH_all H.ops.r211 (by simp) (fun i hi => ?_)
  obtain rfl : i = 6 := by simpa using hi
  have hf := H.few
  refine op_appA (v := vA1) (n := n1) (xs := xA) (c := kA2) H.ops.o6 (by simp [eval_put, size_put, H.sz, H.a1, H.a2, H.b1, H.b2]) (J.2.1 _ rfl) (by simp [eval_put, size_put, H.sz, H.a1, H.a2, H.b1, H.b2]) (H.src _ J.1).2.1 H.one.2.1 (by omega) J.1.size (fun v' w' ho hg => ?_)
  have J' := J.appA ho hg
  refine ⟨H.keep _ J'.1, ?_⟩
  exact jh_311 H vA0 vA1 v' vB0 bM J'
theorem jh_210 (H : JC l Q S W A n1 n2 m1 m2 xA yA xB yB sA1 sA2 sB1 sB2 kA1 kA2 kB1 kB2) (vA0 vA1 vB0 : Value) {w : World} (J : JS W w (some (vA1, n1, xA)) (some (vB0, 0, [])) none) : wpAnyH Tryz.prog .any l.toArray Q S 6 #[true, true, true, true, true, true, false, true, true, true, false, true, true, false, false, false, false] (((A.put (some 112) vB0).put (some 105) vA0).put (some 108) vA1) w := by
  refine wpAnyH_all H.ops.r210 (by simp) (fun i hi => ?_)
  obtain rfl | rfl : i = 6 ∨ i = 15 := by simpa using hi
  · have hf := H.few
    refine op_appA (v := vA1) (n := n1) (xs := xA) (c := kA2) H.ops.o6 (by simp [eval_put, size_put, H.sz, H.a1, H.a2, H.b1, H.b2]) (J.2.1 _ rfl) (by simp [eval_put, size_put, H.sz, H.a1, H.a2, H.b1, H.b2]) (H.src _ J.1).2.1 H.one.2.1 (by omega) J.1.size (fun v' w' ho hg => ?_)
    have J' := J.appA ho hg
    refine ⟨H.keep _ J'.1, ?_⟩
    exact jh_310 H vA0 vA1 v' vB0 J'
  · refine op_run H.ops.o15 (v := .pointer (some ⟨w.heap.size, 0, none⟩)) (w' := w.alloc (.cells #[.slice none 0 0, .slice none 0 0] 26)) (fun o ho => run_newM ho _ _) ⟨H.keep _ J.newM.1, ?_⟩
    rw [put_swap (d := 108) (e := 19) _ (by decide), put_swap (d := 105) (e := 19) _ (by decide)]
    exact jh_211 H vA0 vA1 vB0 _ J.newM
theorem jh_201 (H : JC l Q S W A n1 n2 m1 m2 xA yA xB yB sA1 sA2 sB1 sB2 kA1 kA2 kB1 kB2) (vA0 vA1 : Value) (bM : Nat) {w : World} (J : JS W w (some (vA1, n1, xA)) none (some bM)) : wpAnyH Tryz.prog .any l.toArray Q S 6 #[true, true, true, true, true, true, false, false, true, true, false, true, true, false, false, true, false] (((A.put (some 19) (.pointer (some ⟨bM, 0, none⟩))).put (some 105) vA0).put (some 108) vA1) w := by
  refine wpAnyH_all H.ops.r201 (by simp) (fun i hi => ?_)
  obtain rfl | rfl : i = 6 ∨ i = 7 := by simpa using hi
  · have hf := H.few
    refine op_appA (v := vA1) (n := n1) (xs := xA) (c := kA2) H.ops.o6 (by simp [eval_put, size_put, H.sz, H.a1, H.a2, H.b1, H.b2]) (J.2.1 _ rfl) (by simp [eval_put, size_put, H.sz, H.a1, H.a2, H.b1, H.b2]) (H.src _ J.1).2.1 H.one.2.1 (by omega) J.1.size (fun v' w' ho hg => ?_)
    have J' := J.appA ho hg
    refine ⟨H.keep _ J'.1, ?_⟩
    exact jh_301 H vA0 vA1 v' bM J'
  · refine op_run H.ops.o7 (v := .slice (some ⟨w.heap.size, 0, none⟩) 0 0) (w' := w.alloc (.cells #[] 51)) (fun o ho => run_newB ho _ _) ⟨H.keep _ J.newB.1, ?_⟩
    rw [put_swap (d := 108) (e := 112) _ (by decide), put_swap (d := 105) (e := 112) _ (by decide), put_swap (d := 19) (e := 112) _ (by decide)]
    exact jh_211 H vA0 vA1 _ bM J.newB
theorem jh_200 (H : JC l Q S W A n1 n2 m1 m2 xA yA xB yB sA1 sA2 sB1 sB2 kA1 kA2 kB1 kB2) (vA0 vA1 : Value) {w : World} (J : JS W w (some (vA1, n1, xA)) none none) : wpAnyH Tryz.prog .any l.toArray Q S 7 #[true, true, true, true, true, true, false, false, true, true, false, true, true, false, false, false, false] ((A.put (some 105) vA0).put (some 108) vA1) w := by
  refine wpAnyH_all H.ops.r200 (by simp) (fun i hi => ?_)
  obtain rfl | rfl | rfl : i = 6 ∨ i = 7 ∨ i = 15 := by simpa using hi
  · have hf := H.few
    refine op_appA (v := vA1) (n := n1) (xs := xA) (c := kA2) H.ops.o6 (by simp [eval_put, size_put, H.sz, H.a1, H.a2, H.b1, H.b2]) (J.2.1 _ rfl) (by simp [eval_put, size_put, H.sz, H.a1, H.a2, H.b1, H.b2]) (H.src _ J.1).2.1 H.one.2.1 (by omega) J.1.size (fun v' w' ho hg => ?_)
    have J' := J.appA ho hg
    refine ⟨H.keep _ J'.1, ?_⟩
    exact jh_300 H vA0 vA1 v' J'
  · refine op_run H.ops.o7 (v := .slice (some ⟨w.heap.size, 0, none⟩) 0 0) (w' := w.alloc (.cells #[] 51)) (fun o ho => run_newB ho _ _) ⟨H.keep _ J.newB.1, ?_⟩
    rw [put_swap (d := 108) (e := 112) _ (by decide), put_swap (d := 105) (e := 112) _ (by decide)]
    exact jh_210 H vA0 vA1 _ J.newB
  · refine op_run H.ops.o15 (v := .pointer (some ⟨w.heap.size, 0, none⟩)) (w' := w.alloc (.cells #[.slice none 0 0, .slice none 0 0] 26)) (fun o ho => run_newM ho _ _) ⟨H.keep _ J.newM.1, ?_⟩
    rw [put_swap (d := 108) (e := 19) _ (by decide), put_swap (d := 105) (e := 19) _ (by decide)]
    exact jh_201 H vA0 vA1 _ J.newM
theorem jh_111 (H : JC l Q S W A n1 n2 m1 m2 xA yA xB yB sA1 sA2 sB1 sB2 kA1 kA2 kB1 kB2) (vA0 vB0 : Value) (bM : Nat) {w : World} (J : JS W w (some (vA0, 0, [])) (some (vB0, 0, [])) (some bM)) : wpAnyH Tryz.prog .any l.toArray Q S 6 #[true, true, true, false, true, true, false, true, true, true, false, true, true, false, false, true, false] (((A.put (some 112) vB0).put (some 19) (.pointer (some ⟨bM, 0, none⟩))).put (some 105) vA0) w := by
  refine wpAnyH_all H.ops.r111 (by simp) (fun i hi => ?_)
  obtain rfl : i = 3 := by simpa using hi
  have hf := H.few
  refine op_appA (v := vA0) (n := 0) (xs := []) (c := kA1) H.ops.o3 (by simp [eval_put, size_put, H.sz, H.a1, H.a2, H.b1, H.b2]) (J.2.1 _ rfl) (by simp [eval_put, size_put, H.sz, H.a1, H.a2, H.b1, H.b2]) (H.src _ J.1).1 H.one.1 (by omega) J.1.size (fun v' w' ho hg => ?_)
  rw [Nat.zero_add, List.nil_append] at ho
  have J' := J.appA ho hg
  refine ⟨H.keep _ J'.1, ?_⟩
  exact jh_211 H vA0 v' vB0 bM J'
theorem jh_110 (H : JC l Q S W A n1 n2 m1 m2 xA yA xB yB sA1 sA2 sB1 sB2 kA1 kA2 kB1 kB2) (vA0 vB0 : Value) {w : World} (J : JS W w (some (vA0, 0, [])) (some (vB0, 0, [])) none) : wpAnyH Tryz.prog .any l.toArray Q S 7 #[true, true, true, false, true, true, false, true, true, true, false, true, true, false, false, false, false] ((A.put (some 112) vB0).put (some 105) vA0) w := by
  refine wpAnyH_all H.ops.r110 (by simp) (fun i hi => ?_)
  obtain rfl | rfl : i = 3 ∨ i = 15 := by simpa using hi
  · have hf := H.few
    refine op_appA (v := vA0) (n := 0) (xs := []) (c := kA1) H.ops.o3 (by simp [eval_put, size_put, H.sz, H.a1, H.a2, H.b1, H.b2]) (J.2.1 _ rfl) (by simp [eval_put, size_put, H.sz, H.a1, H.a2, H.b1, H.b2]) (H.src _ J.1).1 H.one.1 (by omega) J.1.size (fun v' w' ho hg => ?_)
    rw [Nat.zero_add, List.nil_append] at ho
    have J' := J.appA ho hg
    refine ⟨H.keep _ J'.1, ?_⟩
    exact jh_210 H vA0 v' vB0 J'
  · refine op_run H.ops.o15 (v := .pointer (some ⟨w.heap.size, 0, none⟩)) (w' := w.alloc (.cells #[.slice none 0 0, .slice none 0 0] 26)) (fun o ho => run_newM ho _ _) ⟨H.keep _ J.newM.1, ?_⟩
    rw [put_swap (d := 105) (e := 19) _ (by decide)]
    exact jh_111 H vA0 vB0 _ J.newM
theorem jh_101 (H : JC l Q S W A n1 n2 m1 m2 xA yA xB yB sA1 sA2 sB1 sB2 kA1 kA2 kB1 kB2) (vA0 : Value) (bM : Nat) {w : World} (J : JS W w (some (vA0, 0, [])) none (some bM)) : wpAnyH Tryz.prog .any l.toArray Q S 7 #[true, true, true, false, true, true, false, false, true, true, false, true, true, false, false, true, false] ((A.put (some 19) (.pointer (some ⟨bM, 0, none⟩))).put (some 105) vA0) w := by
  refine wpAnyH_all H.ops.r101 (by simp) (fun i hi => ?_)
  obtain rfl | rfl : i = 3 ∨ i = 7 := by simpa using hi
  · have hf := H.few
    refine op_appA (v := vA0) (n := 0) (xs := []) (c := kA1) H.ops.o3 (by simp [eval_put, size_put, H.sz, H.a1, H.a2, H.b1, H.b2]) (J.2.1 _ rfl) (by simp [eval_put, size_put, H.sz, H.a1, H.a2, H.b1, H.b2]) (H.src _ J.1).1 H.one.1 (by omega) J.1.size (fun v' w' ho hg => ?_)
    rw [Nat.zero_add, List.nil_append] at ho
    have J' := J.appA ho hg
    refine ⟨H.keep _ J'.1, ?_⟩
    exact jh_201 H vA0 v' bM J'
  · refine op_run H.ops.o7 (v := .slice (some ⟨w.heap.size, 0, none⟩) 0 0) (w' := w.alloc (.cells #[] 51)) (fun o ho => run_newB ho _ _) ⟨H.keep _ J.newB.1, ?_⟩
    rw [put_swap (d := 105) (e := 112) _ (by decide), put_swap (d := 19) (e := 112) _ (by decide)]
    exact jh_111 H vA0 _ bM J.newB
theorem jh_100 (H : JC l Q S W A n1 n2 m1 m2 xA yA xB yB sA1 sA2 sB1 sB2 kA1 kA2 kB1 kB2) (vA0 : Value) {w : World} (J : JS W w (some (vA0, 0, [])) none none) : wpAnyH Tryz.prog .any l.toArray Q S 8 #[true, true, true, false, true, true, false, false, true, true, false, true, true, false, false, false, false] (A.put (some 105) vA0) w := by
  refine wpAnyH_all H.ops.r100 (by simp) (fun i hi => ?_)
  obtain rfl | rfl | rfl : i = 3 ∨ i = 7 ∨ i = 15 := by simpa using hi
  · have hf := H.few
    refine op_appA (v := vA0) (n := 0) (xs := []) (c := kA1) H.ops.o3 (by simp [eval_put, size_put, H.sz, H.a1, H.a2, H.b1, H.b2]) (J.2.1 _ rfl) (by simp [eval_put, size_put, H.sz, H.a1, H.a2, H.b1, H.b2]) (H.src _ J.1).1 H.one.1 (by omega) J.1.size (fun v' w' ho hg => ?_)
    rw [Nat.zero_add, List.nil_append] at ho
    have J' := J.appA ho hg
    refine ⟨H.keep _ J'.1, ?_⟩
    exact jh_200 H vA0 v' J'
  · refine op_run H.ops.o7 (v := .slice (some ⟨w.heap.size, 0, none⟩) 0 0) (w' := w.alloc (.cells #[] 51)) (fun o ho => run_newB ho _ _) ⟨H.keep _ J.newB.1, ?_⟩
    rw [put_swap (d := 105) (e := 112) _ (by decide)]
    exact jh_110 H vA0 _ J.newB
  · refine op_run H.ops.o15 (v := .pointer (some ⟨w.heap.size, 0, none⟩)) (w' := w.alloc (.cells #[.slice none 0 0, .slice none 0 0] 26)) (fun o ho => run_newM ho _ _) ⟨H.keep _ J.newM.1, ?_⟩
    rw [put_swap (d := 105) (e := 19) _ (by decide)]
    exact jh_101 H vA0 _ J.newM
theorem jh_011 (H : JC l Q S W A n1 n2 m1 m2 xA yA xB yB sA1 sA2 sB1 sB2 kA1 kA2 kB1 kB2) (vB0 : Value) (bM : Nat) {w : World} (J : JS W w none (some (vB0, 0, [])) (some bM)) : wpAnyH Tryz.prog .any l.toArray Q S 7 #[false, true, true, false, true, true, false, true, true, true, false, true, true, false, false, true, false] ((A.put (some 112) vB0).put (some 19) (.pointer (some ⟨bM, 0, none⟩))) w := by
  refine wpAnyH_all H.ops.r011 (by simp) (fun i hi => ?_)
  obtain rfl : i = 0 := by simpa using hi
  refine op_run H.ops.o0 (v := .slice (some ⟨w.heap.size, 0, none⟩) 0 0) (w' := w.alloc (.cells #[] 68)) (fun o ho => run_newA ho _ _) ⟨H.keep _ J.newA.1, ?_⟩
  exact jh_111 H _ vB0 bM J.newA
theorem jh_010 (H : JC l Q S W A n1 n2 m1 m2 xA yA xB yB sA1 sA2 sB1 sB2 kA1 kA2 kB1 kB2) (vB0 : Value) {w : World} (J : JS W w none (some (vB0, 0, [])) none) : wpAnyH Tryz.prog .any l.toArray Q S 8 #[false, true, true, false, true, true, false, true, true, true, false, true, true, false, false, false, false] (A.put (some 112) vB0) w := by
  refine wpAnyH_all H.ops.r010 (by simp) (fun i hi => ?_)
  obtain rfl | rfl : i = 0 ∨ i = 15 := by simpa using hi
  · refine op_run H.ops.o0 (v := .slice (some ⟨w.heap.size, 0, none⟩) 0 0) (w' := w.alloc (.cells #[] 68)) (fun o ho => run_newA ho _ _) ⟨H.keep _ J.newA.1, ?_⟩
    exact jh_110 H _ vB0 J.newA
  · refine op_run H.ops.o15 (v := .pointer (some ⟨w.heap.size, 0, none⟩)) (w' := w.alloc (.cells #[.slice none 0 0, .slice none 0 0] 26)) (fun o ho => run_newM ho _ _) ⟨H.keep _ J.newM.1, ?_⟩
    exact jh_011 H vB0 _ J.newM
theorem jh_001 (H : JC l Q S W A n1 n2 m1 m2 xA yA xB yB sA1 sA2 sB1 sB2 kA1 kA2 kB1 kB2) (bM : Nat) {w : World} (J : JS W w none none (some bM)) : wpAnyH Tryz.prog .any l.toArray Q S 8 #[false, true, true, false, true, true, false, false, true, true, false, true, true, false, false, true, false] (A.put (some 19) (.pointer (some ⟨bM, 0, none⟩))) w := by
  refine wpAnyH_all H.ops.r001 (by simp) (fun i hi => ?_)
  obtain rfl | rfl : i = 0 ∨ i = 7 := by simpa using hi
  · refine op_run H.ops.o0 (v := .slice (some ⟨w.heap.size, 0, none⟩) 0 0) (w' := w.alloc (.cells #[] 68)) (fun o ho => run_newA ho _ _) ⟨H.keep _ J.newA.1, ?_⟩
    exact jh_101 H _ bM J.newA
  · refine op_run H.ops.o7 (v := .slice (some ⟨w.heap.size, 0, none⟩) 0 0) (w' := w.alloc (.cells #[] 51)) (fun o ho => run_newB ho _ _) ⟨H.keep _ J.newB.1, ?_⟩
    rw [put_swap (d := 19) (e := 112) _ (by decide)]
    exact jh_011 H _ bM J.newB
theorem jh_000 (H : JC l Q S W A n1 n2 m1 m2 xA yA xB yB sA1 sA2 sB1 sB2 kA1 kA2 kB1 kB2) {w : World} (J : JS W w none none none) : wpAnyH Tryz.prog .any l.toArray Q S 9 #[false, true, true, false, true, true, false, false, true, true, false, true, true, false, false, false, false] A w := by
  refine wpAnyH_all H.ops.r000 (by simp) (fun i hi => ?_)
  obtain rfl | rfl | rfl : i = 0 ∨ i = 7 ∨ i = 15 := by simpa using hi
  · refine op_run H.ops.o0 (v := .slice (some ⟨w.heap.size, 0, none⟩) 0 0) (w' := w.alloc (.cells #[] 68)) (fun o ho => run_newA ho _ _) ⟨H.keep _ J.newA.1, ?_⟩
    exact jh_100 H _ J.newA
  · refine op_run H.ops.o7 (v := .slice (some ⟨w.heap.size, 0, none⟩) 0 0) (w' := w.alloc (.cells #[] 51)) (fun o ho => run_newB ho _ _) ⟨H.keep _ J.newB.1, ?_⟩
    exact jh_010 H _ J.newB
  · refine op_run H.ops.o15 (v := .pointer (some ⟨w.heap.size, 0, none⟩)) (w' := w.alloc (.cells #[.slice none 0 0, .slice none 0 0] 26)) (fun o ho => run_newM ho _ _) ⟨H.keep _ J.newM.1, ?_⟩
    exact jh_001 H _ J.newM
end
end Go.Proofs.YtlnmicddobgppaaGreatDoor
