/-
  A map literal with texts as keys and numbers as elements, made and asked once. No conditions.
-/
import Derived.Test.YtlnmicddobgppaaGreatDoorKit
import Derived.WideMake
namespace Go.Proofs.YtlnmicddobgppaaGreatDoor
set_option linter.unusedSimpArgs false
set_option linter.unusedVariables false
open Go.RowKit

/-- The entries of a map that was laid key by key. -/
def entsFrom : Nat → List (List UInt8 × Int) → List MapEntry
  | _, [] => []
  | i, (k, v) :: l => { key := .string ⟨k.toArray⟩, val := .int .i64 v, born := i } :: entsFrom (i + 1) l
def ents (l : List (List UInt8 × Int)) : Array MapEntry := (entsFrom 0 l).toArray
theorem entsFrom_snoc (l : List (List UInt8 × Int)) (k : List UInt8) (v : Int) : ∀ i, entsFrom i (l ++ [(k, v)]) = entsFrom i l ++ [{ key := .string ⟨k.toArray⟩, val := .int .i64 v, born := i + l.length }] := by
  induction l with
  | nil => intro i; rfl
  | cons p l ih =>
    intro i
    obtain ⟨a, b⟩ := p
    simp only [List.cons_append, entsFrom, ih, List.length_cons]
    rw [show i + 1 + l.length = i + (l.length + 1) by omega]
theorem ents_snoc (l : List (List UInt8 × Int)) (k : List UInt8) (v : Int) : ents (l ++ [(k, v)]) = (ents l).push { key := .string ⟨k.toArray⟩, val := .int .i64 v, born := l.length } := by
  unfold ents
  rw [entsFrom_snoc, Nat.zero_add]
  simp
/-- What a map literal answers. -/
def askL (l : List (List UInt8 × Int)) (s : List UInt8) : Option Int := (l.find? fun p => p.1 == s).map (·.2)
theorem same_str (a : ByteArray) (k : List UInt8) : Instr.sameNow .string (.string a) (.string ⟨k.toArray⟩) = some (k == a.data.toList) := by
  obtain ⟨x⟩ := a
  have h : Instr.sameNow .string (.string ⟨x⟩) (.string ⟨k.toArray⟩) = some (x == k.toArray) := rfl
  rw [h]
  congr 1
  rw [Bool.eq_iff_iff, beq_iff_eq, beq_iff_eq]
  constructor
  · intro e; rw [e]
  · intro e; rw [e]
theorem find_ents (s : ByteArray) (l : List (List UInt8 × Int)) : ∀ i j, ∃ n, Instr.findNow .string (.string s) (entsFrom i l) j = some ((askL l s.data.toList).map fun v => (n, .int .i64 v)) := by
  induction l with
  | nil => intro i j; exact ⟨0, rfl⟩
  | cons p l ih =>
    intro i j
    obtain ⟨k, v⟩ := p
    unfold entsFrom Instr.findNow
    simp only [same_str]
    cases hk : k == s.data.toList with
    | true => exact ⟨j, by simp [askL, hk]⟩
    | false =>
      obtain ⟨n, hn⟩ := ih (i + 1) (j + 1)
      exact ⟨n, by simp only [hn]; simp [askL, hk]⟩
theorem put_new (w : World) (o o' : Obj) : (w.alloc o).heap.setIfInBounds w.heap.size o' = (w.alloc o').heap := by
  show (w.heap.push o).setIfInBounds w.heap.size o' = w.heap.push o'
  apply Array.ext
  · simp
  · intro i h1 h2
    rw [Array.getElem_setIfInBounds]
    · by_cases e : w.heap.size = i
      · subst e; simp
      · rw [if_neg e]
        have hi : i < w.heap.size := by simp at h2; omega
        rw [Array.getElem_push_lt hi, Array.getElem_push_lt hi]
    · simpa using h1
section
variable {P : Program} (w : World) (mty kt et : TypeId) (hm : P.underlying mty = some (.map kt et)) (hk : P.underlying kt = some .string)
include hm hk
theorem run_ins (l : List (List UInt8 × Int)) (s : List UInt8) (v : Int) (hn : askL l s = none) (l' : List (List UInt8 × Int)) (hl : l' = l ++ [(s, v)]) (n : Nat) (hlen : n = l.length) :
    (Instr.mapUpdate mty (.map (some w.heap.size)) (.string ⟨s.toArray⟩) (.int .i64 v)).run P (w.alloc (.map (ents l) n)) = .ok () (w.alloc (.map (ents l') (n + 1))) := by
  subst hl hlen
  have hb : (w.alloc (.map (ents l) l.length)).heap[w.heap.size]? = some (.map (ents l) l.length) := heap_alloc_new w _
  obtain ⟨j, hj⟩ := find_ents ⟨s.toArray⟩ l 0 0
  have hf : Instr.findNow .string (.string ⟨s.toArray⟩) (ents l).toList 0 = some none := by
    show Instr.findNow .string (.string ⟨s.toArray⟩) (entsFrom 0 l) 0 = _
    rw [hj]
    simp only [hn]
    rfl
  have hc : (Instr.checkKey false 10000 kt (.string ⟨s.toArray⟩)).run P (w.alloc (.map (ents l) l.length)) = .ok () _ := MapKept.run_checkKey (k := .string ⟨s.toArray⟩) hk (by simp [MapKept.IsKey]) false 9999
  simp [Instr.mapUpdate, run_underlying hm, MapKept.run_getObj_map hb, hc, MapKept.run_findKey hk hf, MapKept.run_setObj_map _ hb, Result.andThen]
  rw [put_new, ents_snoc]
  rfl
theorem run_look (he : (zeroValue et).run P = fun w => .ok (.int .i64 0) w) (l : List (List UInt8 × Int)) (n : Nat) (s : ByteArray) :
    (Instr.lookup mty (.map (some w.heap.size)) (.string s) false).run P (w.alloc (.map (ents l) n)) = .ok (.int .i64 ((askL l s.data.toList).getD 0)) (w.alloc (.map (ents l) n)) := by
  have hb : (w.alloc (.map (ents l) n)).heap[w.heap.size]? = some (.map (ents l) n) := heap_alloc_new w _
  obtain ⟨j, hj⟩ := find_ents s l 0 0
  have hf : Instr.findNow .string (.string s) (ents l).toList 0 = some ((askL l s.data.toList).map fun v => (j, .int .i64 v)) := hj
  have hc : ∀ b, (Instr.checkKey b 10000 kt (.string s)).run P (w.alloc (.map (ents l) n)) = .ok () _ := fun b => MapKept.run_checkKey (k := .string s) hk (by simp [MapKept.IsKey]) b 9999
  have hz : ∀ w, (zeroValue et).run P w = .ok (.int .i64 0) w := fun w => congrFun he w
  cases ha : askL l s.data.toList with
  | none =>
    rw [ha] at hf
    simp [Instr.lookup, run_underlying hm, MapKept.run_getObj_map hb, hc, MapKept.run_findKey hk hf, Result.andThen, hz]
  | some v =>
    rw [ha] at hf
    simp [Instr.lookup, run_underlying hm, MapKept.run_getObj_map hb, hc, MapKept.run_findKey hk hf, Result.andThen, hz]
end
end Go.Proofs.YtlnmicddobgppaaGreatDoor
