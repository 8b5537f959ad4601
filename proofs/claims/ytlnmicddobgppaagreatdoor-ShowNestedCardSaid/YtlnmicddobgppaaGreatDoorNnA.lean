/-
  Small laws on blocks of memory and on what a call leaves as it was (no program in sight). No conditions.
-/
import Derived.WalkKit
import Derived.WalkSpells
import Derived.WalkLawsBesides
import Derived.Lib.Hide
import Derived.Test.YtlnmicddobgppaaGreatDoorChecked
import Derived.Deep.RegionHeld3
import Derived.Maps.AppendAt
import Derived.Deep.RegionLawGrows
namespace Go.Proofs.YtlnmicddobgppaaGreatDoor
set_option linter.unusedSimpArgs false
set_option linter.unusedVariables false
open Go.RowKit
def Blk (w : World) (b : Nat) (c : Array Value) (t : TypeId) : Prop := w.heap[b]? = some (.cells c t (0, 0))
section
variable {w : World} {b : Nat} {c : Array Value} {t : TypeId}
theorem Blk.lt (h : Blk w b c t) : b < w.heap.size := by
 unfold Blk at h
 rcases Nat.lt_or_ge b w.heap.size with g | g
 · exact g
 · rw [Array.getElem?_eq_none g] at h; cases h
theorem Blk.cell (h : Blk w b c t) (i : Nat) : w.cell? ⟨b, i, none⟩ = c[i]? := by
 unfold Blk at h
 simp [World.cell?, h]
theorem Blk.free (h : Blk w b c t) (i : Nat) : w.frozen? ⟨b, i, none⟩ = false := by
 unfold Blk at h
 simp [World.frozen?, h]
theorem Blk.alloc (h : Blk w b c t) (o : Obj) : Blk (w.alloc o) b c t := by
 have := h.lt
 unfold Blk at *
 rw [Below.heap_alloc _ _ _ this]; exact h
theorem Blk.drew (h : Blk w b c t) : Blk w.drew b c t := h
theorem Blk.drewN (h : Blk w b c t) (n : Nat) : Blk (w.drewN n) b c t := h
theorem Blk.store (h : Blk w b c t) (i : Nat) (v : Value) : Blk (w.setCell ⟨b, i, none⟩ v) b (c.setIfInBounds i v) t := by
 unfold Blk at *
 simp [World.setCell, Array.getElem?_modify, h]
theorem Blk.put (h : Blk w b c t) {i : Nat} {v : Value} {c' : Array Value} (hc : c.setIfInBounds i v = c') : Blk (w.setCell ⟨b, i, none⟩ v) b c' t := hc ▸ h.store i v
theorem Blk.new (w : World) (c : Array Value) (t : TypeId) : Blk (w.alloc (.cells c t)) w.heap.size c t := by
 unfold Blk
 show (w.heap.push _)[w.heap.size]? = _
 simp
theorem Blk.apart {b' : Nat} {c' : Array Value} {t' : TypeId} (h : Blk w b c t) (h' : Blk w b' c' t') (hne : t ≠ t') : b ≠ b' := by
 rintro rfl
 unfold Blk at h h'
 rw [h] at h'
 simp at h'
 exact hne h'.2
end
theorem add_at (b o j : Nat) : (⟨b, o, none⟩ : Addr).add j = ⟨b, o + j, none⟩ := by
 unfold Addr.add
 split <;> simp_all
theorem add_head (b j : Nat) : (⟨b, 0, none⟩ : Addr).add j = ⟨b, j, none⟩ := by rw [add_at, Nat.zero_add]
def updObj (i : Nat) (v : Value) : Obj → Obj
 | .cells c t f => .cells (c.setIfInBounds i v) t f
 | o => o
theorem hp_drew (w : World) (b : Nat) : w.drew.heap[b]? = w.heap[b]? := rfl
theorem hp_drewN (w : World) (n b : Nat) : (w.drewN n).heap[b]? = w.heap[b]? := rfl
theorem hp_alloc (w : World) (o : Obj) (b : Nat) (h : b < w.heap.size) : (w.alloc o).heap[b]? = w.heap[b]? := Below.heap_alloc _ _ _ h
theorem hp_new (w : World) (o : Obj) (b : Nat) (h : b = w.heap.size) : (w.alloc o).heap[b]? = some o := by
 subst h
 show (w.heap.push o)[w.heap.size]? = _
 simp
theorem hp_other (w : World) (a : Addr) (v : Value) (b : Nat) (h : b ≠ a.block) : (w.setCell a v).heap[b]? = w.heap[b]? := Below.heap_setCell _ _ _ _ h
theorem hp_same (w : World) (b i : Nat) (v : Value) : (w.setCell ⟨b, i, none⟩ v).heap[b]? = (w.heap[b]?).map (updObj i v) := by
 simp only [World.setCell, Array.getElem?_modify, if_true]
 cases w.heap[b]? with
 | none => rfl
 | some o => cases o <;> simp [updObj]
theorem upd_cells (i : Nat) (v : Value) (c : Array Value) (t : TypeId) (f : Nat × Nat) : updObj i v (.cells c t f) = .cells (c.setIfInBounds i v) t f := rfl
theorem Blk.eq {w : World} {b : Nat} {c : Array Value} {t : TypeId} (h : Blk w b c t) : w.heap[b]? = some (.cells c t (0, 0)) := h
theorem ret1_int {k : IntKind} {a b : Int} (h : a = b) : Ending.returned (.int k a) = .returned (.int k b) := by rw [h]
theorem ret1_bool {a b : Bool} (h : a = b) : Ending.returned (.bool a) = .returned (.bool b) := by rw [h]
structure Fr (S : Nat → Prop) (w w' : World) : Prop where
 os : w'.os = w.os
 tape : w'.tape = w.tape
 output : w'.output = w.output
 size : w.heap.size ≤ w'.heap.size
 block : ∀ k, k < w.heap.size → ¬ S k → w'.heap[k]? = w.heap[k]?
def Nil : Nat → Prop := fun _ => False
section
variable {S S' : Nat → Prop} {w w1 w2 : World}
theorem Fr.refl (S : Nat → Prop) (w : World) : Fr S w w := ⟨rfl, rfl, rfl, Nat.le_refl _, fun _ _ _ => rfl⟩
theorem Fr.trans (h : Fr S w w1) (g : Fr S' w1 w2) (hs : ∀ k, k < w.heap.size → S' k → S k) : Fr S w w2 :=
 ⟨g.os.trans h.os, g.tape.trans h.tape, g.output.trans h.output, Nat.le_trans h.size g.size, fun k hk hn => (g.block k (Nat.lt_of_lt_of_le hk h.size) (fun q => hn (hs k hk q))).trans (h.block k hk hn)⟩
theorem Fr.comp (h : Fr S w w1) (g : Fr S w1 w2) : Fr S w w2 := h.trans g fun _ _ q => q
theorem Fr.mono (h : Fr S w w1) (hs : ∀ k, k < w.heap.size → S k → S' k) : Fr S' w w1 :=
 ⟨h.os, h.tape, h.output, h.size, fun k hk hn => h.block k hk fun q => hn (hs k hk q)⟩
theorem Fr.of_nil (h : Fr Nil w w1) : Fr S w w1 := h.mono fun _ _ q => q.elim
theorem Fr.drew (h : Fr S w w1) : Fr S w w1.drew := ⟨h.os, h.tape, h.output, h.size, h.block⟩
theorem Fr.drewN (h : Fr S w w1) (n : Nat) : Fr S w (w1.drewN n) := h.trans (S' := Nil) ⟨rfl, rfl, rfl, Nat.le_refl _, fun _ _ _ => rfl⟩ fun _ _ q => q.elim
theorem Fr.alloc (h : Fr S w w1) (o : Obj) : Fr S w (w1.alloc o) :=
 h.trans (S' := Nil) ⟨rfl, rfl, rfl, by simp, fun k hk _ => Below.heap_alloc _ _ _ hk⟩ fun _ _ q => q.elim
theorem Fr.set (h : Fr S w w1) (a : Addr) (v : Value) (ha : a.block < w.heap.size → S a.block) : Fr S w (w1.setCell a v) :=
 ⟨h.os, h.tape, h.output, by simpa [World.setCell] using h.size, fun k hk hn => by
  rw [Below.heap_setCell _ _ _ _ (by rintro rfl; exact hn (ha hk))]; exact h.block k hk hn⟩
theorem Fr.cell {a : Addr} {v : Value} (h : Fr S w w1) (g : w.cell? a = some v) (hn : ¬ S a.block) : w1.cell? a = some v := by
 have hb : a.block < w.heap.size := by
  rcases Nat.lt_or_ge a.block w.heap.size with q | q
  · exact q
  · simp [World.cell?, Array.getElem?_eq_none q] at g
 rw [World.cell?_of_block (w := w) (h.block a.block hb hn)]; exact g
theorem Fr.blk {b : Nat} {c : Array Value} {t : TypeId} (h : Fr S w w1) (g : Blk w b c t) (hn : ¬ S b) : Blk w1 b c t := by
 have := h.block b g.lt hn
 unfold Blk at *
 rw [this]; exact g
theorem Fr.new {c : Array Value} {t : TypeId} (f : Fr Nil (w.alloc (.cells c t)) w1) : Blk w1 w.heap.size c t := f.blk (Blk.new w c t) (fun q => q)
theorem Fr.via (h : Fr S w w1) (g : Fr Nil w1 w2) : Fr S w w2 := h.trans g fun _ _ q => q.elim
theorem Fr.at (f : Fr Nil w w1) (b : Nat) (h : b < w.heap.size) : (∀ o, w1.cell? ⟨b, o, none⟩ = w.cell? ⟨b, o, none⟩) ∧ (∀ o, w1.frozen? ⟨b, o, none⟩ = w.frozen? ⟨b, o, none⟩) ∧ b < w1.heap.size :=
 ⟨fun o => by simp only [World.cell?, f.block b h (fun q => q)], fun o => by simp only [World.frozen?, f.block b h (fun q => q)], Nat.lt_of_lt_of_le h f.size⟩
theorem Fr.lt {b : Nat} (h : Fr S w w1) (g : b < w.heap.size) : b < w1.heap.size := Nat.lt_of_lt_of_le g h.size
theorem Fr.below (h : Fr S w w1) {B : Nat} (hB : B ≤ w.heap.size) (hs : ∀ k, k < B → ¬ S k) : Below B w w1 :=
 ⟨h.os, h.tape, h.output, h.size, fun k hk => h.block k (by omega) (hs k hk)⟩
theorem Fr.of_below {B : Nat} (h : Below B w w1) (hS : ∀ k, k < w.heap.size → B ≤ k → S k) : Fr S w w1 :=
 ⟨h.os, h.tape, h.output, h.size, fun k hk hn => h.block k (by
  rcases Nat.lt_or_ge k B with g | g
  · exact g
  · exact absurd (hS k hk g) hn)⟩
theorem Fr.grown {row : Option Nat} {w1 w2 : World} (h : Fr S w w1) (hg : w1.grownBy w2 row) (hr : ∀ k, row = some k → k < w.heap.size → S k) : Fr S w w2 :=
 h.trans (S' := fun k => row = some k) ⟨hg.os, hg.tape, hg.output, hg.size, fun k hk hn => hg.block k hk (fun q => hn q.symm)⟩ fun k hk q => hr k q hk
end
def ints (l : List Int) : Array Value := (l.map (Value.int .i64)).toArray
@[simp] theorem ints_size (l : List Int) : (ints l).size = l.length := by simp [ints]
def inR (n : Nat) (k : Int) : Bool := decide (0 ≤ k) && decide (k < n)
def hit (n : Nat) (k : Int) : Nat := if inR n k then 1 else 0
open Go
section
variable {P : Program} {l : List Oper} {Q : Exit → Act → World → Prop} {S S' : World → Prop}
theorem drop_get {i : Nat} {o : Oper} {r : List Oper} (hd : l.drop i = o :: r) : l.toArray[i]? = some o := by
 have h : (l.drop i)[0]? = some o := by rw [hd]; rfl
 simpa [List.getElem?_drop] using h
theorem held_turn {ops : Array Oper} {md : Region.Mode} (h : ∀ w, S' w → S w) : ∀ (fuel : Nat) (listed : Array Bool) (a : Act) (w : World), wpAnyH P md ops Q S' fuel listed a w → wpAnyH P md ops Q S fuel listed a w
 | 0, _, _, _, g => g
 | fuel + 1, _, _, _, g => ⟨g.1, fun i hi => wpOp_mono (fun a' w' h' => ⟨h w' h'.1, held_turn h fuel _ a' w' h'.2⟩) (g.2 i hi)⟩
theorem held_take {i : Nat} {o : Oper} {r : List Oper} {v : Value} {fuel : Nat} {listed : Array Bool} {a : Act} {w : World} (hd : l.drop i = o :: r)
 (hs : Region.noSelect l.toArray = true) (hf : Region.free .any l.toArray listed i = true) (hr : (Region.ready .any l.toArray listed).contains i = true)
 (hQ : ∀ c a w, Q (.panic c) (a.put o.dst v) w → Q (.panic c) a w) (hw : Region.wanted o (yielded l.toArray a.tmps) = true) (hS : S w)
 (hy : ∀ w, S w → (execOp a.eval o).run P w = .ok (.value v) w)
 (h : wpAnyH P .any l.toArray Q S fuel (listed.setIfInBounds i true) (a.put o.dst v) w) : wpAnyH P .any l.toArray Q S (fuel + 1) listed a w :=
 wpAnyH_take (drop_get hd) hs hf hr hQ (.inl ⟨hw, hy⟩) hS h
theorem held_one {i : Nat} {o : Oper} {r : List Oper} {fuel : Nat} {listed : Array Bool} {a : Act} {w : World} (hd : l.drop i = o :: r) (hr : Region.ready .any l.toArray listed = [i])
 (h : ∀ K' : Act → World → Prop, Shut (∀ a w, S w → (S w → wpAnyH P .any l.toArray Q S fuel (listed.setIfInBounds i true) a w) → K' a w) → if Region.wanted o (yielded l.toArray a.tmps) = true then Oper.wp P o a w K' Q else K' (a.put o.dst undef) w) :
 wpAnyH P .any l.toArray Q S (fuel + 1) listed a w :=
 wpAnyH_ready hr (by simp) (AllReadyH.cons (drop_get hd) h AllReadyH.nil)
theorem held_two {i j : Nat} {o o' : Oper} {r r' : List Oper} {fuel : Nat} {listed : Array Bool} {a : Act} {w : World} (hd : l.drop i = o :: r) (hd' : l.drop j = o' :: r') (hr : Region.ready .any l.toArray listed = [i, j])
 (h : ∀ K' : Act → World → Prop, Shut (∀ a w, S w → (S w → wpAnyH P .any l.toArray Q S fuel (listed.setIfInBounds i true) a w) → K' a w) → if Region.wanted o (yielded l.toArray a.tmps) = true then Oper.wp P o a w K' Q else K' (a.put o.dst undef) w)
 (h' : ∀ K' : Act → World → Prop, Shut (∀ a w, S w → (S w → wpAnyH P .any l.toArray Q S fuel (listed.setIfInBounds j true) a w) → K' a w) → if Region.wanted o' (yielded l.toArray a.tmps) = true then Oper.wp P o' a w K' Q else K' (a.put o'.dst undef) w) :
 wpAnyH P .any l.toArray Q S (fuel + 1) listed a w :=
 wpAnyH_ready hr (by simp) (AllReadyH.cons (drop_get hd) h (AllReadyH.cons (drop_get hd') h' AllReadyH.nil))
end
theorem frA {S : Nat → Prop} {w w' : World} (h : Fr S w w' := by (repeat (first | (with_reducible exact Fr.refl _ _) | (with_reducible assumption) | (with_reducible exact Fr.of_nil (by assumption)) | (with_reducible refine Fr.drew ?_) | (with_reducible refine Fr.drewN ?_ _) | (with_reducible refine Fr.alloc ?_ _) | (with_reducible refine Fr.set ?_ _ _ (by first | (intros; omega) | (simp; done) | (simp; omega))) | (with_reducible refine Fr.via ?_ (by assumption)) | (with_reducible refine Fr.comp ?_ (by assumption))))) : Fr S w w' := h
theorem frG {S : Nat → Prop} {w w' : World} (h : Fr S w w' := by (repeat (first | (with_reducible exact Fr.refl _ _) | (with_reducible assumption) | (with_reducible exact Fr.of_nil (by assumption)) | (with_reducible refine Fr.drew ?_) | (with_reducible refine Fr.drewN ?_ _) | (with_reducible refine Fr.alloc ?_ _) | (with_reducible refine Fr.set ?_ _ _ (by first | (intro _; exact rfl) | (intro _; exact .inl rfl) | (intro _; exact .inr rfl) | (intro q; exact absurd q (Nat.lt_irrefl _)) | (intro q; simp at q; omega))) | (with_reducible refine Fr.via ?_ (by assumption)) | (with_reducible refine Fr.comp ?_ (by assumption))))) : Fr S w w' := h
theorem frT {S : Nat → Prop} {w w' : World} (h : Fr S w w' := by (repeat (first | (with_reducible exact Fr.refl _ _) | (with_reducible assumption) | (with_reducible refine Fr.drew ?_) | (with_reducible refine Fr.alloc ?_ _) | (with_reducible refine Fr.set ?_ _ _ (fun _ => by simp [Value.ownBlock]))))) : Fr S w w' := h
theorem blk0  {w : World} {b : Nat} {c : Array Value} {t : TypeId}  (h : Blk w b c t := by (unfold Blk; simp (disch := first | omega | (simp; done) | (simp; omega)) only [hp_drew, hp_drewN, hp_alloc, hp_other, hp_same, hp_new, upd_cells, Option.map_some]; try simp)) : Blk w b c t := h
theorem blk1 {w1 : World} {b1 : Nat} {c1 : Array Value} {t1 : TypeId} {w : World} {b : Nat} {c : Array Value} {t : TypeId} (h1 : Blk w1 b1 c1 t1) (h : w1.heap[b1]? = some (.cells c1 t1 (0, 0)) → Blk w b c t := by (intro e1; unfold Blk; simp (disch := first | omega | (simp; done) | (simp; omega)) only [hp_drew, hp_drewN, hp_alloc, hp_other, hp_same, hp_new, upd_cells, Option.map_some, e1]; try simp)) : Blk w b c t := h h1.eq
theorem blk3 {w1 : World} {b1 : Nat} {c1 : Array Value} {t1 : TypeId} {w2 : World} {b2 : Nat} {c2 : Array Value} {t2 : TypeId} {w3 : World} {b3 : Nat} {c3 : Array Value} {t3 : TypeId} {w : World} {b : Nat} {c : Array Value} {t : TypeId} (h1 : Blk w1 b1 c1 t1) (h2 : Blk w2 b2 c2 t2) (h3 : Blk w3 b3 c3 t3) (h : w1.heap[b1]? = some (.cells c1 t1 (0, 0)) → w2.heap[b2]? = some (.cells c2 t2 (0, 0)) → w3.heap[b3]? = some (.cells c3 t3 (0, 0)) → Blk w b c t := by (intro e1 e2 e3; unfold Blk; simp (disch := first | omega | (simp; done) | (simp; omega)) only [hp_drew, hp_drewN, hp_alloc, hp_other, hp_same, hp_new, upd_cells, Option.map_some, e1, e2, e3]; try simp)) : Blk w b c t := h h1.eq h2.eq h3.eq
def Via (A : Act) (F : World → Prop) : Exit → Act → World → Prop
 | .normal, b, V => b = A ∧ F V
 | _, _, _ => False
theorem Via.mk {A : Act} {F : World → Prop} {V : World} (h : F V) : Via A F .normal A V := ⟨rfl, h⟩
def Src (w : World) (A : Option Addr) (m size : Nat) (news : List Value) : Prop :=
 (A = none ∧ m = 0 ∧ news = []) ∨ ∃ ad, A = some ad ∧ news.length = m * size ∧ ∀ j u, news[j]? = some u → w.cell? (ad.add j) = some u
section
variable {P : Program} (w : World)
theorem run_append_src (base : Nat) (t ty e : TypeId) (i : TypeInfo) (z : Value) (size bytes : Nat) (h1 : P.underlying t = some (.slice e)) (h2 : P.info? e = some i) (h3 : i.zero = some z) (h4 : i.size = size) (h5 : i.bytes = bytes) (h6 : z.cells.size = size) (h7 : 0 < size)
 (v : Value) (n : Nat) (xs : List Value) (hown : w.ownsRow base e size v n xs) (A : Option Addr) (m c : Nat) (news : List Value) (hs : Src w A m size news) (h1c : ∀ u ∈ news, u.oneCell' = true)
 (b1 : n + m ≤ maxLen) (b2 : (n + m) * bytes ≤ 140737488355328) (hbase : base ≤ w.heap.size) :
 ∃ v' w', (Builtin.append_ #[t, t] ty #[v, .slice A m c]).run P w = .ok v' w' ∧ w'.ownsRow base e size v' (n + m) (xs ++ news) ∧ w.grownBy w' v.ownBlock ∧ (v'.ownBlock = v.ownBlock ∨ v'.ownBlock = some w.heap.size) := by
 rcases hs with ⟨rfl, rfl, rfl⟩ | ⟨ad, rfl, hl, hc⟩
 · refine ⟨v, w, ?_, by simpa using hown, ⟨rfl, rfl, rfl, Nat.le_refl _, fun _ _ _ => rfl⟩, .inl rfl⟩
   rcases hown.2 with ⟨rfl, rfl⟩ | ⟨g, cap, cur, rfl, _, _, hnc, _⟩
   · simp [Builtin.append_, run_underlying h1, sizeOf, typeInfo, h2, Builtin.lenOf, Builtin.firstCells]
   · simp [Builtin.append_, run_underlying h1, sizeOf, typeInfo, h2, Builtin.lenOf, Builtin.firstCells, hnc, storeCells]
 · obtain ⟨v', w', hrun, r1, r2, _, r4⟩ := run_append_own_at (P := P) w base t ty e i z size bytes h1 h2 h3 h4 h5 h6 h7 v n xs hown ad m c news hl hc h1c b1 b2 hbase
   exact ⟨v', w', hrun, r1, r2, r4⟩
end
theorem step_append_src {P : Program} {ops : Array Oper} {o : Oper} {a : Act} {w : World} {K : Act → World → Prop} {Q : Exit → Act → World → Prop} {E : Prop}
 (hg : o.guard = none) (s x : Operand) (t : TypeId) (hop : o.op = Op.call { callee := Callee.builtin Builtin.append, args := #[s, x], argTypes := #[t, t] })
 (base : Nat) (e : TypeId) (i : TypeInfo) (z : Value) (size bytes : Nat) (h1 : P.underlying t = some (.slice e)) (h2 : P.info? e = some i) (h3 : i.zero = some z) (h4 : i.size = size) (h5 : i.bytes = bytes) (h6 : z.cells.size = size) (h7 : 0 < size)
 (v : Value) (n : Nat) (xs : List Value) (hs : a.eval s = v) (hown : w.ownsRow base e size v n xs)
 (A : Option Addr) (m c : Nat) (news : List Value) (hx : a.eval x = .slice A m c) (hn : Src w A m size news) (h1c : ∀ u ∈ news, u.oneCell' = true)
 (b1 : n + m ≤ maxLen) (b2 : (n + m) * bytes ≤ 140737488355328) (hbase : base ≤ w.heap.size)
 (hK : ∀ v' w', w'.ownsRow base e size v' (n + m) (xs ++ news) → w.grownBy w' v.ownBlock → (v'.ownBlock = v.ownBlock ∨ v'.ownBlock = some w.heap.size) → K (a.put o.dst v') w') :
 if Region.wanted o (yielded ops a.tmps) = true then Oper.wp P o a w K Q else E := by
 have hw : Region.wanted o (yielded ops a.tmps) = true := by simp [Region.wanted, hg]
 rw [if_pos hw]
 obtain ⟨v', w', hrun, r1, r2, r4⟩ := run_append_src (P := P) w base t o.type e i z size bytes h1 h2 h3 h4 h5 h6 h7 v n xs hown A m c news hn h1c b1 b2 hbase
 unfold Oper.wp
 simp [execOp, hop, resolve, invoke, builtin, hs, hx, hrun, Result.andThen]
 exact hK v' w' r1 r2 r4
theorem wpList_append_src {P : Program} {w : World} {ops : Array Oper} {rest : List Oper} {o : Oper} {a : Act} {Q : Exit → Act → World → Prop}
 (hg : o.guard = none) (s x : Operand) (t : TypeId) (hop : o.op = Op.call { callee := Callee.builtin Builtin.append, args := #[s, x], argTypes := #[t, t] })
 (base : Nat) (e : TypeId) (i : TypeInfo) (z : Value) (size bytes : Nat) (h1 : P.underlying t = some (.slice e)) (h2 : P.info? e = some i) (h3 : i.zero = some z) (h4 : i.size = size) (h5 : i.bytes = bytes) (h6 : z.cells.size = size) (h7 : 0 < size)
 (v : Value) (n : Nat) (xs : List Value) (hs : a.eval s = v) (hown : w.ownsRow base e size v n xs)
 (A : Option Addr) (m c : Nat) (news : List Value) (hx : a.eval x = .slice A m c) (hn : Src w A m size news) (h1c : ∀ u ∈ news, u.oneCell' = true)
 (b1 : n + m ≤ maxLen) (b2 : (n + m) * bytes ≤ 140737488355328) (hbase : base ≤ w.heap.size)
 (hK : ∀ v' w', w'.ownsRow base e size v' (n + m) (xs ++ news) → w.grownBy w' v.ownBlock → (v'.ownBlock = v.ownBlock ∨ v'.ownBlock = some w.heap.size) → wpList P ops Q rest (a.put o.dst v') w') : wpList P ops Q (o :: rest) a w := by
 refine wpList_plain hg fun K hK' => ?_
 obtain ⟨v', w', hrun, r1, r2, r4⟩ := run_append_src (P := P) w base t o.type e i z size bytes h1 h2 h3 h4 h5 h6 h7 v n xs hown A m c news hn h1c b1 b2 hbase
 unfold Oper.wp
 simp [execOp, hop, resolve, invoke, builtin, hs, hx, hrun, Result.andThen]
 exact hK' _ _ (hK v' w' r1 r2 r4)
end Go.Proofs.YtlnmicddobgppaaGreatDoor
