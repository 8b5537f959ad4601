/-
  The law StackOnce: its note.
-/
import Derived.Test.YtncncoakibilcaaStack7
import Derived.BigQuiet
import Derived.Deep.LoopGhost
namespace Go.Proofs.Ytncncoakibilcaa
set_option linter.unusedSimpArgs false
set_option linter.unusedVariables false
open Go.RowKit

/-- How often each is told: the first k not yet. -/
def toldL (n k : Nat) : List Int := List.replicate k 0 ++ List.replicate (n - k) 1
theorem toldL_len {n k : Nat} (h : k ≤ n) : (toldL n k).length = n := by simp [toldL]; omega
theorem toldL_at {n k : Nat} (h : k < n) : nth (toldL n (k + 1)) k = 0 := by
  simp [nth, toldL, List.getElem?_append]
theorem toldL_set {n k : Nat} (h : k < n) : (toldL n (k + 1)).set k 1 = toldL n k := by
  apply List.ext_getElem?
  intro i
  simp [toldL, List.getElem?_set, List.getElem?_append, List.getElem?_replicate]
  split <;> (repeat' split) <;> first | rfl | omega | (simp; omega) | skip

/-- What the closure sees: the frames' numbers; how often each was told. -/
structure Notes (w : World) (bf bt tb : Nat) (a : Option Addr) (cap : Nat) (fr : List Int) (k : Nat) : Prop where
  fvar : Blk w bf #[.slice a fr.length cap] 30
  tvar : Blk w bt #[.slice (some ⟨tb, 0, none⟩) fr.length fr.length] 41
  told : Blk w tb (ints (toldL fr.length k)) 3
  nums : 0 < fr.length → ∃ bw off, a = some ⟨bw, off, none⟩ ∧ bw ≠ tb ∧ ∀ i, i < fr.length → w.cell? ⟨bw, off + i, none⟩ = some (.int .i64 (nth fr i))

theorem Notes.fr {w w1 : World} {bf bt tb : Nat} {a : Option Addr} {cap : Nat} {fr : List Int} {k : Nat} {S : Nat → Prop} (h : Notes w bf bt tb a cap fr k) (f : Fr S w w1) (hs : ∀ b, S b → b ≠ bf ∧ b ≠ bt ∧ b ≠ tb ∧ (0 < fr.length → ∀ x, a = some x → b ≠ x.block)) : Notes w1 bf bt tb a cap fr k := by
  obtain ⟨h1, h2, h3, h4⟩ := h
  refine ⟨f.blk h1 (fun q => (hs _ q).1 rfl), f.blk h2 (fun q => (hs _ q).2.1 rfl), f.blk h3 (fun q => (hs _ q).2.2.1 rfl), fun hp => ?_⟩
  obtain ⟨bw, off, rfl, h5, h6⟩ := h4 hp
  exact ⟨bw, off, rfl, h5, fun i hi => f.cell (h6 i hi) (fun q => (hs _ q).2.2.2 hp _ rfl rfl)⟩
theorem note_any (bf bt tb : Nat) (aw : Option Addr) (cap : Nat) (fr : List Int) (k : Nat) (v : Value) (X : Nat → Prop) (w : World) (h : Notes w bf bt tb aw cap fr (k + 1)) (hk : k < fr.length) (h60 : fr.length ≤ 60) (hv : IntsAt X w v [nth fr k]) :
    Calls Try.prog 17 #[.agg #[.int .i64 7, .int .i64 k, v], .pointer (some ⟨bf, 0, none⟩), .pointer (some ⟨bt, 0, none⟩)] w fun e w' =>
      e = .returned (.bool true) ∧ Notes w' bf bt tb aw cap fr k ∧ Fr (fun b => b = tb) w w' := by
  obtain ⟨h1, h2, h3, h4'⟩ := h
  obtain ⟨bw, off, rfl, h5, h4⟩ := h4' (by omega)
  clear h4'
  obtain ⟨a, cp, rfl, hc⟩ := hv
  obtain ⟨vb, vo, rfl, _, hcell⟩ := hc (by simp)
  have hv0 : w.cell? ⟨vb, vo, none⟩ = some (.int .i64 (nth fr k)) := hcell 0 (by simp)
  have hn := h4 k hk
  have ht := (h3.cell k).trans (ints_at _ k (by rw [toldL_len (by omega)]; exact hk))
  rw [toldL_at hk] at ht
  have hfr := h3.free k
  have c1 := h1.cell 0
  have c2 := h2.cell 0
  simp at c1 c2
  have n1 : bt ≠ tb := h2.apart h3 (by decide)
  have n2 : tb ≠ bt := fun q => n1 q.symm
  have n3 : bf ≠ tb := h1.apart h3 (by decide)
  have l1 := h1.lt
  have l2 := h2.lt
  have l3 := h3.lt
  have l4 : vb < w.heap.size := World.block_lt_of_cell? _ _ hv0
  have l5 : bw < w.heap.size := World.block_lt_of_cell? _ _ hn
  have b1 : (0 : Int) ≤ (k : Int) := by omega
  have b2 : (k : Int) < (fr.length : Int) := by omega
  have HN := Lib.hid (And.intro h1 (And.intro h2 (And.intro h3 h4)))
  clear hc hcell h4 h1 h2 h3
  go_enter Try.func17, Try.ntmps17
  go_wp2_with fail
  go_quiet (fail)
  go_wp2
  go_ret
  obtain ⟨h1, h2, h3, h4⟩ := HN.out
  refine ⟨rfl, ⟨?_, ?_, ?_, fun _ => ⟨bw, off, rfl, h5, fun i hi => ?_⟩⟩, ?_⟩
  · (unfold Blk; simp (disch := first | omega | (simp; done) | (simp; omega)) only [hp_drew, hp_drewN, hp_alloc, hp_other, hp_same, hp_new, upd_cells, Option.map_some, (h1).eq])
  · (unfold Blk; simp (disch := first | omega | (simp; done) | (simp; omega)) only [hp_drew, hp_drewN, hp_alloc, hp_other, hp_same, hp_new, upd_cells, Option.map_some, (h2).eq])
  · have hs : (ints (toldL fr.length (k + 1))).setIfInBounds k (.int .i64 1) = ints (toldL fr.length k) := by rw [ints_set, toldL_set hk]
    (unfold Blk; simp (disch := first | omega | (simp; done) | (simp; omega)) only [hp_drew, hp_drewN, hp_alloc, hp_other, hp_same, hp_new, upd_cells, Option.map_some, (h3).eq])
    rw [hs]
  · refine Fr.cell (S := fun b => b = tb) ?_ (h4 i hi) h5
    (repeat (first | (with_reducible exact Fr.refl _ _) | (with_reducible assumption) | (with_reducible exact Fr.of_nil (by assumption)) | (with_reducible refine Fr.drew ?_) | (with_reducible refine Fr.drewN ?_ _) | (with_reducible refine Fr.alloc ?_ _) | (with_reducible refine Fr.set ?_ _ _ (by first | (intros; omega) | (simp; done) | (simp; omega)))))
  · (repeat (first | (with_reducible exact Fr.refl _ _) | (with_reducible assumption) | (with_reducible exact Fr.of_nil (by assumption)) | (with_reducible refine Fr.drew ?_) | (with_reducible refine Fr.drewN ?_ _) | (with_reducible refine Fr.alloc ?_ _) | (with_reducible refine Fr.set ?_ _ _ (by first | (intros; omega) | (simp; done) | (simp; omega)))))
end Go.Proofs.Ytncncoakibilcaa
