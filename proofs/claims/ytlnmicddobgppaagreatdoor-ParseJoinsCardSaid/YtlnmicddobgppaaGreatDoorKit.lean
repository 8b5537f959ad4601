/-
  Small laws on blocks of memory and on what a call leaves as it was (no program in sight). No conditions.
-/
import Derived.WalkKit
import Derived.WalkSpells
import Derived.WalkLawsBesides
import Derived.Lib.Hide
namespace Go.Proofs.YtlnmicddobgppaaGreatDoor
set_option linter.unusedSimpArgs false
set_option linter.unusedVariables false
open Go.RowKit

/-- A block of plain cells, none of them frozen. -/
def Blk (w : World) (b : Nat) (c : Array Value) (t : TypeId) : Prop := w.heap[b]? = some (.cells c t (0, 0))

section
variable {w : World} {b : Nat} {c : Array Value} {t : TypeId}
theorem Blk.lt (h : Blk w b c t) : b < w.heap.size := by
  unfold Blk at h
  rcases Nat.lt_or_ge b w.heap.size with g | g
  · exact g
  · rw [Array.getElem?_eq_none g] at h; cases h
theorem Blk.cell (h : Blk w b c t) (i : Nat) : w.cell? ⟨b, i, none⟩ = c[i]? := by
  unfold Blk at h
  simp [World.cell?, h]
theorem Blk.free (h : Blk w b c t) (i : Nat) : w.frozen? ⟨b, i, none⟩ = false := by
  unfold Blk at h
  simp [World.frozen?, h]
theorem Blk.alloc (h : Blk w b c t) (o : Obj) : Blk (w.alloc o) b c t := by
  have := h.lt
  unfold Blk at *
  rw [Below.heap_alloc _ _ _ this]; exact h
theorem Blk.drew (h : Blk w b c t) : Blk w.drew b c t := h
theorem Blk.drewN (h : Blk w b c t) (n : Nat) : Blk (w.drewN n) b c t := h
theorem Blk.other (h : Blk w b c t) {a : Addr} (hne : b ≠ a.block) (v : Value) : Blk (w.setCell a v) b c t := by
  unfold Blk at *
  rw [Below.heap_setCell _ _ _ _ hne]; exact h
theorem Blk.store (h : Blk w b c t) (i : Nat) (v : Value) : Blk (w.setCell ⟨b, i, none⟩ v) b (c.setIfInBounds i v) t := by
  unfold Blk at *
  simp [World.setCell, Array.getElem?_modify, h]
theorem Blk.put (h : Blk w b c t) {i : Nat} {v : Value} {c' : Array Value} (hc : c.setIfInBounds i v = c') : Blk (w.setCell ⟨b, i, none⟩ v) b c' t := hc ▸ h.store i v
theorem Blk.new (w : World) (c : Array Value) (t : TypeId) : Blk (w.alloc (.cells c t)) w.heap.size c t := by
  unfold Blk
  show (w.heap.push _)[w.heap.size]? = _
  simp
theorem Blk.apart {b' : Nat} {c' : Array Value} {t' : TypeId} (h : Blk w b c t) (h' : Blk w b' c' t') (hne : t ≠ t') : b ≠ b' := by
  rintro rfl
  unfold Blk at h h'
  rw [h] at h'
  simp at h'
  exact hne h'.2
theorem Blk.same {c' : Array Value} {t' : TypeId} (h : Blk w b c t) (h' : Blk w b c' t') : c = c' := by
  unfold Blk at h h'
  rw [h] at h'
  simp at h'
  exact h'.1
end

theorem add_at (b o j : Nat) : (⟨b, o, none⟩ : Addr).add j = ⟨b, o + j, none⟩ := by
  unfold Addr.add
  split <;> simp_all
theorem add_head (b j : Nat) : (⟨b, 0, none⟩ : Addr).add j = ⟨b, j, none⟩ := by rw [add_at, Nat.zero_add]

/-- What a store does to a block. -/
def updObj (i : Nat) (v : Value) : Obj → Obj
  | .cells c t f => .cells (c.setIfInBounds i v) t f
  | o => o
theorem hp_drew (w : World) (b : Nat) : w.drew.heap[b]? = w.heap[b]? := rfl
theorem hp_drewN (w : World) (n b : Nat) : (w.drewN n).heap[b]? = w.heap[b]? := rfl
theorem hp_alloc (w : World) (o : Obj) (b : Nat) (h : b < w.heap.size) : (w.alloc o).heap[b]? = w.heap[b]? := Below.heap_alloc _ _ _ h
theorem hp_new (w : World) (o : Obj) (b : Nat) (h : b = w.heap.size) : (w.alloc o).heap[b]? = some o := by
  subst h
  show (w.heap.push o)[w.heap.size]? = _
  simp
theorem hp_other (w : World) (a : Addr) (v : Value) (b : Nat) (h : b ≠ a.block) : (w.setCell a v).heap[b]? = w.heap[b]? := Below.heap_setCell _ _ _ _ h
theorem hp_same (w : World) (b i : Nat) (v : Value) : (w.setCell ⟨b, i, none⟩ v).heap[b]? = (w.heap[b]?).map (updObj i v) := by
  simp only [World.setCell, Array.getElem?_modify, if_true]
  cases w.heap[b]? with
  | none => rfl
  | some o => cases o <;> simp [updObj]
theorem upd_cells (i : Nat) (v : Value) (c : Array Value) (t : TypeId) (f : Nat × Nat) : updObj i v (.cells c t f) = .cells (c.setIfInBounds i v) t f := rfl
theorem Blk.eq {w : World} {b : Nat} {c : Array Value} {t : TypeId} (h : Blk w b c t) : w.heap[b]? = some (.cells c t (0, 0)) := h

theorem ret1_int {k : IntKind} {a b : Int} (h : a = b) : Ending.returned (.int k a) = .returned (.int k b) := by rw [h]
theorem ret2_int {k k' : IntKind} {a b c d : Int} (h : a = b) (g : c = d) : Ending.returned (.tuple #[.int k a, .int k' c]) = .returned (.tuple #[.int k b, .int k' d]) := by rw [h, g]
theorem ret1_bool {a b : Bool} (h : a = b) : Ending.returned (.bool a) = .returned (.bool b) := by rw [h]

/-- What was there before is as it was, but for the blocks that S names. -/
structure Fr (S : Nat → Prop) (w w' : World) : Prop where
  os : w'.os = w.os
  tape : w'.tape = w.tape
  output : w'.output = w.output
  size : w.heap.size ≤ w'.heap.size
  block : ∀ k, k < w.heap.size → ¬ S k → w'.heap[k]? = w.heap[k]?

def Nil : Nat → Prop := fun _ => False

section
variable {S S' : Nat → Prop} {w w1 w2 : World}
theorem Fr.refl (S : Nat → Prop) (w : World) : Fr S w w := ⟨rfl, rfl, rfl, Nat.le_refl _, fun _ _ _ => rfl⟩
theorem Fr.trans (h : Fr S w w1) (g : Fr S' w1 w2) (hs : ∀ k, k < w.heap.size → S' k → S k) : Fr S w w2 :=
  ⟨g.os.trans h.os, g.tape.trans h.tape, g.output.trans h.output, Nat.le_trans h.size g.size, fun k hk hn => (g.block k (Nat.lt_of_lt_of_le hk h.size) (fun q => hn (hs k hk q))).trans (h.block k hk hn)⟩
theorem Fr.comp (h : Fr S w w1) (g : Fr S w1 w2) : Fr S w w2 := h.trans g fun _ _ q => q
theorem Fr.mono (h : Fr S w w1) (hs : ∀ k, k < w.heap.size → S k → S' k) : Fr S' w w1 :=
  ⟨h.os, h.tape, h.output, h.size, fun k hk hn => h.block k hk fun q => hn (hs k hk q)⟩
theorem Fr.of_nil (h : Fr Nil w w1) : Fr S w w1 := h.mono fun _ _ q => q.elim
theorem Fr.drew (h : Fr S w w1) : Fr S w w1.drew := ⟨h.os, h.tape, h.output, h.size, h.block⟩
theorem Fr.drewN (h : Fr S w w1) (n : Nat) : Fr S w (w1.drewN n) := h.trans (S' := Nil) ⟨rfl, rfl, rfl, Nat.le_refl _, fun _ _ _ => rfl⟩ fun _ _ q => q.elim
theorem Fr.alloc (h : Fr S w w1) (o : Obj) : Fr S w (w1.alloc o) :=
  h.trans (S' := Nil) ⟨rfl, rfl, rfl, by simp, fun k hk _ => Below.heap_alloc _ _ _ hk⟩ fun _ _ q => q.elim
theorem Fr.set (h : Fr S w w1) (a : Addr) (v : Value) (ha : a.block < w.heap.size → S a.block) : Fr S w (w1.setCell a v) :=
  ⟨h.os, h.tape, h.output, by simpa [World.setCell] using h.size, fun k hk hn => by
    rw [Below.heap_setCell _ _ _ _ (by rintro rfl; exact hn (ha hk))]; exact h.block k hk hn⟩
theorem Fr.cell {a : Addr} {v : Value} (h : Fr S w w1) (g : w.cell? a = some v) (hn : ¬ S a.block) : w1.cell? a = some v := by
  have hb : a.block < w.heap.size := by
    rcases Nat.lt_or_ge a.block w.heap.size with q | q
    · exact q
    · simp [World.cell?, Array.getElem?_eq_none q] at g
  rw [World.cell?_of_block (w := w) (h.block a.block hb hn)]; exact g
theorem Fr.blk {b : Nat} {c : Array Value} {t : TypeId} (h : Fr S w w1) (g : Blk w b c t) (hn : ¬ S b) : Blk w1 b c t := by
  have := h.block b g.lt hn
  unfold Blk at *
  rw [this]; exact g
theorem Fr.new {c : Array Value} {t : TypeId} (f : Fr Nil (w.alloc (.cells c t)) w1) : Blk w1 w.heap.size c t := f.blk (Blk.new w c t) (fun q => q)
theorem Fr.via (h : Fr S w w1) (g : Fr Nil w1 w2) : Fr S w w2 := h.trans g fun _ _ q => q.elim
theorem Fr.at (f : Fr Nil w w1) (b : Nat) (h : b < w.heap.size) : (∀ o, w1.cell? ⟨b, o, none⟩ = w.cell? ⟨b, o, none⟩) ∧ (∀ o, w1.frozen? ⟨b, o, none⟩ = w.frozen? ⟨b, o, none⟩) ∧ b < w1.heap.size :=
  ⟨fun o => by simp only [World.cell?, f.block b h (fun q => q)], fun o => by simp only [World.frozen?, f.block b h (fun q => q)], Nat.lt_of_lt_of_le h f.size⟩
theorem Fr.atS (f : Fr S w w1) (b : Nat) (h : b < w.heap.size) (hn : ¬ S b) : (∀ o, w1.cell? ⟨b, o, none⟩ = w.cell? ⟨b, o, none⟩) ∧ (∀ o, w1.frozen? ⟨b, o, none⟩ = w.frozen? ⟨b, o, none⟩) ∧ b < w1.heap.size :=
  ⟨fun o => by simp only [World.cell?, f.block b h hn], fun o => by simp only [World.frozen?, f.block b h hn], Nat.lt_of_lt_of_le h f.size⟩
theorem Fr.rules (f : Fr Nil w w1) : (∀ b o, b < w.heap.size → w1.cell? ⟨b, o, none⟩ = w.cell? ⟨b, o, none⟩) ∧ (∀ b o, b < w.heap.size → w1.frozen? ⟨b, o, none⟩ = w.frozen? ⟨b, o, none⟩) ∧ w.heap.size ≤ w1.heap.size :=
  ⟨fun b o h => by simp only [World.cell?, f.block b h (fun q => q)], fun b o h => by simp only [World.frozen?, f.block b h (fun q => q)], f.size⟩
theorem Fr.lt {b : Nat} (h : Fr S w w1) (g : b < w.heap.size) : b < w1.heap.size := Nat.lt_of_lt_of_le g h.size
theorem Fr.below (h : Fr S w w1) {B : Nat} (hB : B ≤ w.heap.size) (hs : ∀ k, k < B → ¬ S k) : Below B w w1 :=
  ⟨h.os, h.tape, h.output, h.size, fun k hk => h.block k (by omega) (hs k hk)⟩
theorem Fr.of_below {B : Nat} (h : Below B w w1) (hS : ∀ k, k < w.heap.size → B ≤ k → S k) : Fr S w w1 :=
  ⟨h.os, h.tape, h.output, h.size, fun k hk hn => h.block k (by
    rcases Nat.lt_or_ge k B with g | g
    · exact g
    · exact absurd (hS k hk g) hn)⟩
theorem Fr.grown {row : Option Nat} {w1 w2 : World} (h : Fr S w w1) (hg : w1.grownBy w2 row) (hr : ∀ k, row = some k → k < w.heap.size → S k) : Fr S w w2 :=
  h.trans (S' := fun k => row = some k) ⟨hg.os, hg.tape, hg.output, hg.size, fun k hk hn => hg.block k hk (fun q => hn q.symm)⟩ fun k hk q => hr k q hk
end

theorem bounds_out {α : Type} {P : Program} (w : World) (k : IntKind) (x y : Int) (code : BoundsCode) :
    ∃ v w', (boundsPanic k x y code : Sem α).run P w = .halt (.panic (.iface P.rt.boundsError v)) w' ∧ (w' = w ∨ w' = w.drew) := by
  unfold boundsPanic
  split
  · simp [runtimePanic, goPanic, go_sem]
    first | exact ⟨_, _, ⟨rfl, rfl⟩, .inr rfl⟩ | exact ⟨_, _, ⟨rfl, rfl⟩, .inl rfl⟩
  · simp [runtimePanic, goPanic, go_sem]
    first | exact ⟨_, _, ⟨rfl, rfl⟩, .inr rfl⟩ | exact ⟨_, _, ⟨rfl, rfl⟩, .inl rfl⟩

/-- The numbers of a list, as cells. -/
def ints (l : List Int) : Array Value := (l.map (Value.int .i64)).toArray
/-- A number of a list, by its place. -/
def nth (l : List Int) (k : Nat) : Int := l.getD k 0
@[simp] theorem ints_size (l : List Int) : (ints l).size = l.length := by simp [ints]
theorem ints_at (l : List Int) (k : Nat) (h : k < l.length) : (ints l)[k]? = some (.int .i64 (nth l k)) := by
  simp [nth, ints, List.getElem?_map, List.getElem?_eq_getElem h, List.getD_eq_getElem?_getD]
theorem ints_none (l : List Int) (k : Nat) (h : l.length ≤ k) : (ints l)[k]? = none := by
  simp [ints, List.getElem?_map, List.getElem?_eq_none h]
theorem succ64 (u : Nat) (h : u < 4611686018427387904) : wrap64 ((u : Int) + 1) = ((u + 1 : Nat) : Int) := by
  rw [IntWalk.wrap64_in _ ⟨by omega, by omega⟩]; omega
theorem ints_set (l : List Int) (k : Nat) (x : Int) : (ints l).setIfInBounds k (.int .i64 x) = ints (l.set k x) := by
  simp [ints, List.setIfInBounds_toArray, List.map_set]
theorem made_one (z : Value) (m : Nat) : madeCells #[z] m = (List.replicate m z).toArray := by
  have h := toList_madeCells_one z m
  have := congrArg List.toArray h
  simpa using this
theorem made_ints (m : Nat) : madeCells #[.int .i64 0] m = ints (List.replicate m 0) := by
  rw [made_one]; simp [ints]
/-- 'make([]T, n)' of plain cells. -/
theorem run_make_ints {P : Program} (w : World) (t e : TypeId) (ht : P.underlying t = some (.slice e)) (he : (P.info? e).map (fun i => (i.zero, i.size, i.bytes)) = some (some (.int .i64 0), 1, 8))
    (m : Nat) (hm : m ≤ 1000000000) :
    (Instr.makeSlice t (.int .i64 m) (.int .i64 m)).run P w = .ok (.slice (some ⟨w.heap.size, 0, none⟩) m m) (w.alloc (.cells (ints (List.replicate m 0)) e)) := by
  obtain ⟨i0, hi, hz0, hz1, hz2⟩ := info_parts he
  have h := run_make (P := P) w t e i0 (.int .i64 0) ht hi hz0 .i64 .i64 (m : Int) (m : Int) (by omega) (Int.le_refl _) (by rw [hz2]; omega) (by omega)
  rw [Int.toNat_natCast, hz1, Nat.mul_one] at h
  rw [h]
  simp only [Value.cells, made_ints]

/-- A slice that reads as so many numbers. -/
def RowInts (w : World) (v : Value) (l : List Int) : Prop :=
  ∃ a cap, v = .slice a l.length cap ∧ (0 < l.length → ∃ b off, a = some ⟨b, off, none⟩ ∧ ∀ i, i < l.length → w.cell? ⟨b, off + i, none⟩ = some (.int .i64 (nth l i)))

/-- Is a number a place of a row of n? -/
def inR (n : Nat) (k : Int) : Bool := decide (0 ≤ k) && decide (k < n)
theorem inR_yes {n : Nat} {k : Int} (h : 0 ≤ k) (g : k < n) : inR n k = true := by simp [inR, h, g]
theorem inR_no {n : Nat} {k : Int} (h : k < 0 ∨ (n : Int) ≤ k) : inR n k = false := by
  simp [inR]; omega
theorem inR_iff {n : Nat} {k : Int} : inR n k = true ↔ 0 ≤ k ∧ k < n := by simp [inR]
/-- What a load tells; its error; what a store leaves; whether it is a use. -/
def ldv (l : List Int) (k : Int) : Int := if inR l.length k then nth l k.toNat else 0
def lde (n : Nat) (k : Int) : Int := if inR n k then 0 else 1
def stl (l : List Int) (k x : Int) : List Int := if inR l.length k then l.set k.toNat x else l
def hit (n : Nat) (k : Int) : Nat := if inR n k then 1 else 0
theorem stl_length (l : List Int) (k x : Int) : (stl l k x).length = l.length := by unfold stl; split <;> simp
theorem hit_le (n : Nat) (k : Int) : hit n k ≤ 1 := by unfold hit; split <;> omega
end Go.Proofs.YtlnmicddobgppaaGreatDoor
