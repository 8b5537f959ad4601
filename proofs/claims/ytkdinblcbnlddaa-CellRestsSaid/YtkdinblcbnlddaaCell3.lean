/-
  Contracts of package cell: Links; and of the document's functions.
-/
import Derived.Test.YtkdinblcbnlddaaCell2
import Derived.RegionTactic
namespace Go.Proofs.Ytkdinblcbnlddaa
set_option linter.unusedSimpArgs false
set_option linter.unusedVariables false
open Go.RowKit

/-- Where an object's links begin, and end. -/
def endF (k : Int) : Int := if k = 9 then 1 else if k = 10 then 2 else 0
def endT (k sz : Int) : Int := if 1 ≤ k ∧ k ≤ 4 then sz else if k = 5 then 1 else if k = 9 ∨ k = 10 then 4 else 0
def lnkT0 (c : CellV) : Int := if c.size < endT c.kind c.size then c.size else endT c.kind c.size
def lnkF (c : CellV) : Int := if c.err = 0 ∧ endF c.kind < lnkT0 c then endF c.kind else 0
def lnkT (c : CellV) : Int := if c.err = 0 ∧ endF c.kind < lnkT0 c then lnkT0 c else 0

theorem links_bad (c : CellV) (w : World) (h : c.err ≠ 0) :
    Calls Try.prog 9 #[.agg #[.int .i64 c.kind, .int .i64 c.size, .int .i64 c.aux, .int .i64 c.mark]] w fun e w' => e = .returned (.tuple #[.int .i64 (lnkF c), .int .i64 (lnkT c)]) ∧ Fr Nil w w' := by
  have h1 : lnkF c = 0 := by unfold lnkF; rw [if_neg (fun q => h q.1)]
  have h2 : lnkT c = 0 := by unfold lnkT; rw [if_neg (fun q => h q.1)]
  rw [h1, h2]
  clear h1 h2
  go_enter Try.func9, Try.ntmps9
  go_wp2_with fail
  refine (pack_any c _).mono ?_
  rintro e w1 ⟨rfl, f1⟩
  have hfr : Fr Nil w w1 := Fr.trans (by (repeat (first | (with_reducible exact Fr.refl _ _) | (with_reducible assumption) | (with_reducible refine Fr.drew ?_) | (with_reducible refine Fr.drewN ?_ _) | (with_reducible refine Fr.alloc ?_ _) | (with_reducible refine Fr.set ?_ _ _ (by first | (intros; omega) | (simp; done) | (simp; omega)))))) f1 (fun _ _ q => q)
  clear f1
  have hne : (c.err != 0) = true := by simpa using h
  generalize c.err = E at *
  generalize c.pack = P at *
  go_wp2
  go_ret2
  exact ⟨rfl, hfr⟩
theorem err_kind {c : CellV} (h : c.err = 0) : 0 ≤ c.kind ∧ c.kind ≤ 10 := by
  unfold CellV.err at h
  by_cases hk : c.kind < 0 ∨ 10 < c.kind
  · rw [if_pos hk] at h; omega
  · omega
theorem err_parts {c : CellV} (h : c.err = 0) : (0 ≤ c.mark ∧ c.mark < 2) ∧ (0 ≤ c.size ∧ c.size < 32) ∧ 0 ≤ c.aux ∧ c.aux < 16777216 := by
  have hk := err_kind h
  unfold CellV.err at h
  rw [if_neg (by omega)] at h
  by_cases hb : (fitB c.mark 2 && fitB c.size 32 && fitB c.aux 16777216) = true
  · simp only [Bool.and_eq_true] at hb
    exact ⟨fitB_iff.1 hb.1.1, fitB_iff.1 hb.1.2, fitB_iff.1 hb.2⟩
  · rw [if_neg hb] at h; omega
theorem tab_at (K : Nat) (hK : K ≤ 10) (sz : Int) (w : World) : (Instr.index 44 (.agg #[.int .i64 0, .int .i64 0, .int .i64 0, .int .i64 sz, .int .i64 0, .int .i64 sz, .int .i64 0, .int .i64 sz, .int .i64 0, .int .i64 sz, .int .i64 0, .int .i64 1, .int .i64 0, .int .i64 0, .int .i64 0, .int .i64 0, .int .i64 0, .int .i64 0, .int .i64 1, .int .i64 4, .int .i64 2, .int .i64 4]) (.int .i64 (K : Int))).run Try.prog w = .ok (.agg #[.int .i64 (endF K), .int .i64 (endT K sz)]) w := by
  rcases (by omega : K = 0 ∨ K = 1 ∨ K = 2 ∨ K = 3 ∨ K = 4 ∨ K = 5 ∨ K = 6 ∨ K = 7 ∨ K = 8 ∨ K = 9 ∨ K = 10) with rfl | rfl | rfl | rfl | rfl | rfl | rfl | rfl | rfl | rfl | rfl
  all_goals kernel_rfl
/-- The end of Links. -/
theorem lnk_of {c : CellV} (h : c.err = 0) : lnkF c = (if endF c.kind < lnkT0 c then endF c.kind else 0) ∧ lnkT c = (if endF c.kind < lnkT0 c then lnkT0 c else 0) := by
  constructor
  · unfold lnkF; simp [h]
  · unfold lnkT; simp [h]
set_option maxHeartbeats 2000000 in
theorem links_some (K : Nat) (hK0 : 1 ≤ K) (hK : K ≤ 10) (sz ax mk : Int) (w : World) (h : CellV.err ⟨K, sz, ax, mk⟩ = 0) :
    Calls Try.prog 9 #[.agg #[.int .i64 (K : Int), .int .i64 sz, .int .i64 ax, .int .i64 mk]] w fun e w' => e = .returned (.tuple #[.int .i64 (lnkF ⟨K, sz, ax, mk⟩), .int .i64 (lnkT ⟨K, sz, ax, mk⟩)]) ∧ Fr Nil w w' := by
  obtain ⟨_, ⟨hs0, hs1⟩, _⟩ := err_parts h
  simp only [] at hs0 hs1
  have hlnk := Lib.hid (lnk_of h)
  simp only [] at hlnk
  have hpk := pack_any ⟨K, sz, ax, mk⟩
  rw [h] at hpk
  have HP := Lib.hid hpk
  clear hpk h
  have hidx := fun w => tab_at K hK sz w
  go_enter Try.func9, Try.ntmps9
  go_wp2_with fail
  refine (HP.out _).mono ?_
  rintro e w1 ⟨rfl, f1⟩
  have g1 := f1.blk (b := w.heap.size) (c := #[.int .i64 K, .int .i64 sz, .int .i64 ax, .int .i64 mk]) (t := 23) (by (unfold Blk; simp (disch := first | omega | (simp; done) | (simp; omega)) only [hp_drew, hp_drewN, hp_alloc, hp_other, hp_same, hp_new, upd_cells, Option.map_some])) (by simp [Nil])
  have q0 := g1.cell 0
  have q1 := g1.cell 1
  have q2 := g1.cell 2
  have q3 := g1.cell 3
  simp at q0 q1 q2 q3
  have hfr : Fr Nil w w1 := Fr.trans (by (repeat (first | (with_reducible exact Fr.refl _ _) | (with_reducible assumption) | (with_reducible refine Fr.drew ?_) | (with_reducible refine Fr.drewN ?_ _) | (with_reducible refine Fr.alloc ?_ _) | (with_reducible refine Fr.set ?_ _ _ (by first | (intros; omega) | (simp; done) | (simp; omega)))))) f1 (fun _ _ q => q)
  have hsz := g1.lt
  clear f1
  generalize CellV.pack ⟨K, sz, ax, mk⟩ = P
  go_wp2_with fail
  go_region
  go_wp2
  all_goals
    go_ret2
    refine ⟨?_, by (repeat (first | (with_reducible exact Fr.refl _ _) | (with_reducible assumption) | (with_reducible refine Fr.drew ?_) | (with_reducible refine Fr.drewN ?_ _) | (with_reducible refine Fr.alloc ?_ _) | (with_reducible refine Fr.set ?_ _ _ (by first | (intros; omega) | (simp; done) | (simp; omega)))))⟩
    rw [hlnk.out.1, hlnk.out.2]
    refine ret2_int ?_ ?_
    all_goals (clear hlnk HP hidx q0 q1 q2 q3 g1; simp only [lnkT0]; (repeat' split) <;> omega)
set_option maxHeartbeats 2000000 in
theorem links_free (sz ax mk : Int) (w : World) (h : CellV.err ⟨0, sz, ax, mk⟩ = 0) :
    Calls Try.prog 9 #[.agg #[.int .i64 0, .int .i64 sz, .int .i64 ax, .int .i64 mk]] w fun e w' => e = .returned (.tuple #[.int .i64 0, .int .i64 0]) ∧ Fr Nil w w' := by
  obtain ⟨_, ⟨hs0, hs1⟩, _⟩ := err_parts h
  simp only [] at hs0 hs1
  have hpk := pack_any ⟨0, sz, ax, mk⟩
  rw [h] at hpk
  have HP := Lib.hid hpk
  clear hpk h
  have hidx : ∀ w, (Instr.index 44 (.agg #[.int .i64 0, .int .i64 0, .int .i64 0, .int .i64 sz, .int .i64 0, .int .i64 sz, .int .i64 0, .int .i64 sz, .int .i64 0, .int .i64 sz, .int .i64 0, .int .i64 1, .int .i64 0, .int .i64 0, .int .i64 0, .int .i64 0, .int .i64 0, .int .i64 0, .int .i64 1, .int .i64 4, .int .i64 2, .int .i64 4]) (.int .i64 0)).run Try.prog w = .ok (.agg #[.int .i64 0, .int .i64 0]) w := fun w => tab_at 0 (by decide) sz w
  go_enter Try.func9, Try.ntmps9
  go_wp2_with fail
  refine (HP.out _).mono ?_
  rintro e w1 ⟨rfl, f1⟩
  have g1 := f1.blk (b := w.heap.size) (c := #[.int .i64 0, .int .i64 sz, .int .i64 ax, .int .i64 mk]) (t := 23) (by (unfold Blk; simp (disch := first | omega | (simp; done) | (simp; omega)) only [hp_drew, hp_drewN, hp_alloc, hp_other, hp_same, hp_new, upd_cells, Option.map_some])) (by simp [Nil])
  have q0 := g1.cell 0
  have q1 := g1.cell 1
  have q2 := g1.cell 2
  have q3 := g1.cell 3
  simp at q0 q1 q2 q3
  have hfr : Fr Nil w w1 := Fr.trans (by (repeat (first | (with_reducible exact Fr.refl _ _) | (with_reducible assumption) | (with_reducible refine Fr.drew ?_) | (with_reducible refine Fr.drewN ?_ _) | (with_reducible refine Fr.alloc ?_ _) | (with_reducible refine Fr.set ?_ _ _ (by first | (intros; omega) | (simp; done) | (simp; omega)))))) f1 (fun _ _ q => q)
  have hsz := g1.lt
  clear f1
  generalize CellV.pack ⟨0, sz, ax, mk⟩ = P
  by_cases hz : sz = 0 ∧ ax = 0 ∧ mk = 0
  · obtain ⟨rfl, rfl, rfl⟩ := hz
    go_wp2
    go_ret2
    exact ⟨rfl, hfr⟩
  · have hc : sz ≠ 0 ∨ (sz = 0 ∧ ax ≠ 0) ∨ (sz = 0 ∧ ax = 0 ∧ mk ≠ 0) := by omega
    rcases hc with hn | ⟨rfl, hn⟩ | ⟨rfl, rfl, hn⟩
    all_goals
      have hn' := hn
      go_wp2_with fail
      go_region
      go_wp2
      go_ret2
      exact ⟨rfl, by (repeat (first | (with_reducible exact Fr.refl _ _) | (with_reducible assumption) | (with_reducible refine Fr.drew ?_) | (with_reducible refine Fr.drewN ?_ _) | (with_reducible refine Fr.alloc ?_ _) | (with_reducible refine Fr.set ?_ _ _ (by first | (intros; omega) | (simp; done) | (simp; omega)))))⟩
theorem links_any (c : CellV) (w : World) :
    Calls Try.prog 9 #[.agg #[.int .i64 c.kind, .int .i64 c.size, .int .i64 c.aux, .int .i64 c.mark]] w fun e w' => e = .returned (.tuple #[.int .i64 (lnkF c), .int .i64 (lnkT c)]) ∧ Fr Nil w w' := by
  by_cases h : c.err = 0
  · obtain ⟨k, sz, ax, mk⟩ := c
    obtain ⟨h0, h1⟩ := err_kind h
    simp only [] at h0 h1
    obtain ⟨K, rfl⟩ := Int.eq_ofNat_of_zero_le h0
    by_cases hK : K = 0
    · subst hK
      obtain ⟨_, ⟨hs0, hs1⟩, _⟩ := err_parts h
      simp only [] at hs0 hs1
      have hT : lnkT0 ⟨((0 : Nat) : Int), sz, ax, mk⟩ = 0 := by
        have : endT ((0 : Nat) : Int) sz = 0 := rfl
        simp only [lnkT0, this]; rw [if_neg (by omega)]
      have e1 : lnkF ⟨((0 : Nat) : Int), sz, ax, mk⟩ = 0 := by
        have : endF ((0 : Nat) : Int) = 0 := rfl
        rw [(lnk_of h).1, hT]
        show (if endF ((0 : Nat) : Int) < 0 then endF ((0 : Nat) : Int) else 0) = 0
        rw [this]; rfl
      have e2 : lnkT ⟨((0 : Nat) : Int), sz, ax, mk⟩ = 0 := by rw [(lnk_of h).2, hT]; simp
      rw [e1, e2]
      exact links_free sz ax mk w h
    · exact links_some K (by omega) (by omega) sz ax mk w h
  · exact links_bad c w h
end Go.Proofs.Ytkdinblcbnlddaa
