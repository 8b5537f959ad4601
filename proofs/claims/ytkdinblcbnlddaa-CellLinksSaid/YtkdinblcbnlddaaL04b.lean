/-
  The walks of the laws of layer 4: links, apart, rests.
-/
import Derived.Test.YtkdinblcbnlddaaL04
namespace Go.Proofs.Ytkdinblcbnlddaa
set_option linter.unusedSimpArgs false
set_option linter.unusedVariables false
open Go.RowKit

theorem lnk_bounds (c : CellV) : (c.err ≠ 0 → lnkF c = 0 ∧ lnkT c = 0) ∧ (c.err = 0 → 0 ≤ lnkF c ∧ lnkT c ≤ c.size ∧ (lnkF c < lnkT c ∨ (lnkF c = 0 ∧ lnkT c = 0))) := by
  constructor
  · intro h
    unfold lnkF lnkT
    rw [if_neg (fun q => h q.1), if_neg (fun q => h q.1)]
    exact ⟨rfl, rfl⟩
  · intro h
    obtain ⟨_, ⟨s0, s1⟩, _⟩ := err_parts h
    rw [(lnk_of h).1, (lnk_of h).2]
    have hf : 0 ≤ endF c.kind := by unfold endF; (repeat' split) <;> omega
    have ht : lnkT0 c ≤ c.size := by unfold lnkT0; split <;> omega
    by_cases hl : endF c.kind < lnkT0 c
    · rw [if_pos hl, if_pos hl]; exact ⟨hf, ht, .inl hl⟩
    · rw [if_neg hl, if_neg hl]; exact ⟨Int.le_refl _, s0, .inr ⟨rfl, rfl⟩⟩
theorem links_law (c : CellV) (k : Int) (w : World) :
    Calls Try.prog 3 #[.agg #[.int .i64 c.kind, .int .i64 c.size, .int .i64 c.aux, .int .i64 c.mark], .int .i64 k] w fun e w' => e = .returned (.bool true) ∧ Fr Nil w w' := by
  obtain ⟨hb1, hb2⟩ := lnk_bounds c
  have hlb : linkB c k = (decide (lnkF c ≤ k) && decide (k < lnkT c)) := rfl
  have HL := Lib.hid hlb
  clear hlb
  go_enter Try.func3, Try.ntmps3
  go_wp2_with fail
  refine (awake_any _).mono ?_
  rintro e w1 ⟨rfl, f1⟩
  have g1 := f1.blk (b := w.heap.size) (c := #[.int .i64 c.kind, .int .i64 c.size, .int .i64 c.aux, .int .i64 c.mark]) (t := 23) (by (unfold Blk; simp (disch := first | omega | (simp; done) | (simp; omega)) only [hp_drew, hp_drewN, hp_alloc, hp_other, hp_same, hp_new, upd_cells, Option.map_some])) (by simp [Nil])
  have hf1 : Fr Nil w w1 := Fr.trans (by (repeat (first | (with_reducible exact Fr.refl _ _) | (with_reducible assumption) | (with_reducible refine Fr.drew ?_) | (with_reducible refine Fr.drewN ?_ _) | (with_reducible refine Fr.alloc ?_ _) | (with_reducible refine Fr.set ?_ _ _ (by first | (intros; omega) | (simp; done) | (simp; omega)))))) f1 (fun _ _ q => q)
  have q0 := g1.cell 0
  have q1 := g1.cell 1
  have q2 := g1.cell 2
  have q3 := g1.cell 3
  simp at q0 q1 q2 q3
  clear f1
  go_wp2_with fail
  refine (links_any c _).mono ?_
  rintro e w2 ⟨rfl, f2⟩
  have g2 := f2.blk g1 (by simp [Nil])
  have hf2 : Fr Nil w w2 := Fr.trans hf1 f2 (fun _ _ q => q)
  clear f2 hf1 g1 q0 q1 q2 q3
  have q0 := g2.cell 0
  have q1 := g2.cell 1
  have q2 := g2.cell 2
  have q3 := g2.cell 3
  simp at q0 q1 q2 q3
  have hs := g2.lt
  generalize lnkF c = F at *
  generalize lnkT c = T at *
  by_cases hfk : F ≤ k
  · by_cases hkt : k < T
    · have hlk : linkB c k = true := by rw [HL.out]; simp [hfk, hkt]
      clear HL
      go_wp2_with fail
      refine (rlink_any c k _).mono ?_
      rintro e w3 ⟨rfl, f3⟩
      rw [hlk]
      have g3 := f3.blk (b := w.heap.size) (c := #[.int .i64 c.kind, .int .i64 c.size, .int .i64 c.aux, .int .i64 c.mark]) (t := 23) (by (unfold Blk; simp (disch := first | omega | (simp; done) | (simp; omega)) only [hp_drew, hp_drewN, hp_alloc, hp_other, hp_same, hp_new, upd_cells, Option.map_some, (g2).eq])) (by simp [Nil])
      have hf3 : Fr Nil w w3 := Fr.trans (by (repeat (first | (with_reducible exact Fr.refl _ _) | (with_reducible assumption) | (with_reducible refine Fr.drew ?_) | (with_reducible refine Fr.drewN ?_ _) | (with_reducible refine Fr.alloc ?_ _) | (with_reducible refine Fr.set ?_ _ _ (by first | (intros; omega) | (simp; done) | (simp; omega)))))) f3 (fun _ _ q => q)
      clear f3 hf2 g2 q0 q1 q2 q3 hlk hs
      have q0 := g3.cell 0
      have q1 := g3.cell 1
      have q2 := g3.cell 2
      have q3 := g3.cell 3
      simp at q0 q1 q2 q3
      have hs := g3.lt
      go_wp2_with fail
      refine (pack_any c _).mono ?_
      rintro e w4 ⟨rfl, f4⟩
      have g4 := f4.blk g3 (by simp [Nil])
      have hf4 : Fr Nil w w4 := Fr.trans hf3 f4 (fun _ _ q => q)
      clear f4 hf3 g3 q0 q1 q2 q3 hs
      have q0 := g4.cell 0
      have q1 := g4.cell 1
      have q2 := g4.cell 2
      have q3 := g4.cell 3
      simp at q0 q1 q2 q3
      by_cases he : c.err = 0
      · obtain ⟨x1, x2, x3⟩ := hb2 he
        rw [he]
        clear hb1 hb2 he
        rcases x3 with x3 | ⟨x3, x4⟩
        · go_wp2
          go_ret
          exact ⟨rfl, hf4⟩
        · subst x3 x4
          first | (exfalso; omega) | (go_wp2; go_ret; exact ⟨rfl, hf4⟩)
      · obtain ⟨y1, y2⟩ := hb1 he
        have hb : (c.err != 0) = true := by simpa using he
        clear hb1 hb2
        first
          | (exfalso; omega)
          | (subst y1 y2; generalize c.err = E at *; generalize c.pack = P at *; go_wp2; go_ret; exact ⟨rfl, hf4⟩)
    · have hlk : linkB c k = false := by rw [HL.out]; simp [hkt]
      clear HL
      go_wp2_with fail
      refine (rlink_any c k _).mono ?_
      rintro e w3 ⟨rfl, f3⟩
      rw [hlk]
      have g3 := f3.blk (b := w.heap.size) (c := #[.int .i64 c.kind, .int .i64 c.size, .int .i64 c.aux, .int .i64 c.mark]) (t := 23) (by (unfold Blk; simp (disch := first | omega | (simp; done) | (simp; omega)) only [hp_drew, hp_drewN, hp_alloc, hp_other, hp_same, hp_new, upd_cells, Option.map_some, (g2).eq])) (by simp [Nil])
      have hf3 : Fr Nil w w3 := Fr.trans (by (repeat (first | (with_reducible exact Fr.refl _ _) | (with_reducible assumption) | (with_reducible refine Fr.drew ?_) | (with_reducible refine Fr.drewN ?_ _) | (with_reducible refine Fr.alloc ?_ _) | (with_reducible refine Fr.set ?_ _ _ (by first | (intros; omega) | (simp; done) | (simp; omega)))))) f3 (fun _ _ q => q)
      clear f3 hf2 g2 q0 q1 q2 q3 hlk hs
      have q0 := g3.cell 0
      have q1 := g3.cell 1
      have q2 := g3.cell 2
      have q3 := g3.cell 3
      simp at q0 q1 q2 q3
      have hs := g3.lt
      go_wp2_with fail
      refine (pack_any c _).mono ?_
      rintro e w4 ⟨rfl, f4⟩
      have g4 := f4.blk g3 (by simp [Nil])
      have hf4 : Fr Nil w w4 := Fr.trans hf3 f4 (fun _ _ q => q)
      clear f4 hf3 g3 q0 q1 q2 q3 hs
      have q0 := g4.cell 0
      have q1 := g4.cell 1
      have q2 := g4.cell 2
      have q3 := g4.cell 3
      simp at q0 q1 q2 q3
      by_cases he : c.err = 0
      · obtain ⟨x1, x2, x3⟩ := hb2 he
        rw [he]
        clear hb1 hb2 he
        rcases x3 with x3 | ⟨x3, x4⟩
        · go_wp2
          go_ret
          exact ⟨rfl, hf4⟩
        · subst x3 x4
          first | (exfalso; omega) | (go_wp2; go_ret; exact ⟨rfl, hf4⟩)
      · obtain ⟨y1, y2⟩ := hb1 he
        have hb : (c.err != 0) = true := by simpa using he
        clear hb1 hb2
        first
          | (exfalso; omega)
          | (subst y1 y2; generalize c.err = E at *; generalize c.pack = P at *; go_wp2; go_ret; exact ⟨rfl, hf4⟩)
  · have hlk : linkB c k = false := by rw [HL.out]; simp [hfk]
    clear HL
    go_wp2_with fail
    refine (rlink_any c k _).mono ?_
    rintro e w3 ⟨rfl, f3⟩
    rw [hlk]
    have g3 := f3.blk (b := w.heap.size) (c := #[.int .i64 c.kind, .int .i64 c.size, .int .i64 c.aux, .int .i64 c.mark]) (t := 23) (by (unfold Blk; simp (disch := first | omega | (simp; done) | (simp; omega)) only [hp_drew, hp_drewN, hp_alloc, hp_other, hp_same, hp_new, upd_cells, Option.map_some, (g2).eq])) (by simp [Nil])
    have hf3 : Fr Nil w w3 := Fr.trans (by (repeat (first | (with_reducible exact Fr.refl _ _) | (with_reducible assumption) | (with_reducible refine Fr.drew ?_) | (with_reducible refine Fr.drewN ?_ _) | (with_reducible refine Fr.alloc ?_ _) | (with_reducible refine Fr.set ?_ _ _ (by first | (intros; omega) | (simp; done) | (simp; omega)))))) f3 (fun _ _ q => q)
    clear f3 hf2 g2 q0 q1 q2 q3 hlk hs
    have q0 := g3.cell 0
    have q1 := g3.cell 1
    have q2 := g3.cell 2
    have q3 := g3.cell 3
    simp at q0 q1 q2 q3
    have hs := g3.lt
    go_wp2_with fail
    refine (pack_any c _).mono ?_
    rintro e w4 ⟨rfl, f4⟩
    have g4 := f4.blk g3 (by simp [Nil])
    have hf4 : Fr Nil w w4 := Fr.trans hf3 f4 (fun _ _ q => q)
    clear f4 hf3 g3 q0 q1 q2 q3 hs
    have q0 := g4.cell 0
    have q1 := g4.cell 1
    have q2 := g4.cell 2
    have q3 := g4.cell 3
    simp at q0 q1 q2 q3
    by_cases he : c.err = 0
    · obtain ⟨x1, x2, x3⟩ := hb2 he
      rw [he]
      clear hb1 hb2 he
      rcases x3 with x3 | ⟨x3, x4⟩
      · go_wp2
        go_ret
        exact ⟨rfl, hf4⟩
      · subst x3 x4
        first | (exfalso; omega) | (go_wp2; go_ret; exact ⟨rfl, hf4⟩)
    · obtain ⟨y1, y2⟩ := hb1 he
      have hb : (c.err != 0) = true := by simpa using he
      clear hb1 hb2
      first
        | (exfalso; omega)
        | (subst y1 y2; generalize c.err = E at *; generalize c.pack = P at *; go_wp2; go_ret; exact ⟨rfl, hf4⟩)
end Go.Proofs.Ytkdinblcbnlddaa
