/-
  The walk of CellRests.
-/
import Derived.Test.YtkdinblcbnlddaaL04
namespace Go.Proofs.Ytkdinblcbnlddaa
set_option linter.unusedSimpArgs false
set_option linter.unusedVariables false
open Go.RowKit

theorem lnk_zero (k sz ax mk : Int) (h : endF k = 0) (g : endT k sz = 0) : lnkF ⟨k, sz, ax, mk⟩ = 0 ∧ lnkT ⟨k, sz, ax, mk⟩ = 0 := by
  have hn : ¬ (endF k < lnkT0 ⟨k, sz, ax, mk⟩) := by
    rw [h]; unfold lnkT0; simp only [g]; split <;> omega
  unfold lnkF lnkT
  rw [if_neg (fun q => hn q.2), if_neg (fun q => hn q.2)]
  exact ⟨rfl, rfl⟩
theorem err_other {k sz ax mk k' : Int} (h : CellV.err ⟨k, sz, ax, mk⟩ = 0) (h0 : 0 ≤ k') (h1 : k' ≤ 10) : CellV.err ⟨k', sz, ax, mk⟩ = 0 := by
  obtain ⟨⟨m0, m1⟩, ⟨s0, s1⟩, a0, a1⟩ := err_parts h
  simp only [] at m0 m1 s0 s1 a0 a1
  unfold CellV.err
  rw [if_neg (by simp only []; omega), if_pos]
  simp only [Bool.and_eq_true]
  exact ⟨⟨fitB_iff.2 (by omega), fitB_iff.2 (by omega)⟩, fitB_iff.2 (by omega)⟩
theorem lnk_ind {k sz ax mk : Int} (h : CellV.err ⟨k, sz, ax, mk⟩ = 0) : (0 < sz → lnkT ⟨5, sz, ax, mk⟩ = 1) ∧ (sz = 0 → lnkT ⟨5, sz, ax, mk⟩ = 0) := by
  have h5 := err_other h (k' := 5) (by decide) (by decide)
  rw [(lnk_of h5).2]
  have e1 : endF 5 = 0 := rfl
  have e2 : endT 5 sz = 1 := rfl
  simp only [lnkT0, e1, e2]
  constructor
  · intro q; (repeat' split) <;> omega
  · intro q; (repeat' split) <;> omega
theorem lnk_con {k sz ax mk : Int} (h : CellV.err ⟨k, sz, ax, mk⟩ = 0) : lnkF ⟨1, sz, ax, mk⟩ = 0 ∧ lnkT ⟨1, sz, ax, mk⟩ = sz := by
  have h5 := err_other h (k' := 1) (by decide) (by decide)
  obtain ⟨_, ⟨s0, s1⟩, _⟩ := err_parts h
  simp only [] at s0 s1
  rw [(lnk_of h5).1, (lnk_of h5).2]
  have e1 : endF 1 = 0 := rfl
  have e2 : endT 1 sz = sz := rfl
  simp only [lnkT0, e1, e2]
  constructor
  · (repeat' split) <;> omega
  · (repeat' split) <;> omega
set_option maxHeartbeats 2000000 in
theorem rests_any (c : CellV) (w : World) :
    Calls Try.prog 5 #[.agg #[.int .i64 c.kind, .int .i64 c.size, .int .i64 c.aux, .int .i64 c.mark]] w fun e w' => e = .returned (.bool true) ∧ Fr Nil w w' := by
  obtain ⟨kd, sz, ax, mk⟩ := c
  have i0 : ∀ w, (Instr.index 34 (.agg #[.int .i64 7, .int .i64 8, .int .i64 6, .int .i64 0]) (.int .i64 0)).run Try.prog w = .ok (.int .i64 7) w := fun _ => by kernel_rfl
  have i1 : ∀ w, (Instr.index 34 (.agg #[.int .i64 7, .int .i64 8, .int .i64 6, .int .i64 0]) (.int .i64 1)).run Try.prog w = .ok (.int .i64 8) w := fun _ => by kernel_rfl
  have i2 : ∀ w, (Instr.index 34 (.agg #[.int .i64 7, .int .i64 8, .int .i64 6, .int .i64 0]) (.int .i64 2)).run Try.prog w = .ok (.int .i64 6) w := fun _ => by kernel_rfl
  have i3 : ∀ w, (Instr.index 34 (.agg #[.int .i64 7, .int .i64 8, .int .i64 6, .int .i64 0]) (.int .i64 3)).run Try.prog w = .ok (.int .i64 0) w := fun _ => by kernel_rfl
  go_enter Try.func5, Try.ntmps5
  go_wp2_with fail
  refine (awake_any _).mono ?_
  rintro e w1 ⟨rfl, f1⟩
  have g1 := f1.blk (b := w.heap.size) (c := #[.int .i64 kd, .int .i64 sz, .int .i64 ax, .int .i64 mk]) (t := 23) (by (unfold Blk; simp (disch := first | omega | (simp; done) | (simp; omega)) only [hp_drew, hp_drewN, hp_alloc, hp_other, hp_same, hp_new, upd_cells, Option.map_some])) (by simp [Nil])
  have hf1 : Fr Nil w w1 := Fr.trans (by (repeat (first | (with_reducible exact Fr.refl _ _) | (with_reducible assumption) | (with_reducible refine Fr.drew ?_) | (with_reducible refine Fr.drewN ?_ _) | (with_reducible refine Fr.alloc ?_ _) | (with_reducible refine Fr.set ?_ _ _ (by first | (intros; omega) | (simp; done) | (simp; omega)))))) f1 (fun _ _ q => q)
  clear f1
  have q0 := g1.cell 0
  have q1 := g1.cell 1
  have q2 := g1.cell 2
  have q3 := g1.cell 3
  have z0 := g1.free 0
  simp at q0 q1 q2 q3
  have hs := g1.lt
  go_wp2_with fail
  refine (pack_any ⟨kd, sz, ax, mk⟩ _).mono ?_
  rintro e w2 ⟨rfl, f2⟩
  have g2 := f2.blk g1 (by simp [Nil])
  have hf2 : Fr Nil w w2 := Fr.trans hf1 f2 (fun _ _ q => q)
  clear f2 hf1 g1 q0 q1 q2 q3 z0 hs
  have q0 := g2.cell 0
  have q1 := g2.cell 1
  have q2 := g2.cell 2
  have q3 := g2.cell 3
  have z0 := g2.free 0
  simp at q0 q1 q2 q3
  have hs := g2.lt
  by_cases he : CellV.err ⟨kd, sz, ax, mk⟩ = 0
  · obtain ⟨_, ⟨s0, s1⟩, _⟩ := err_parts he
    simp only [] at s0 s1
    have hind := Lib.hid (lnk_ind he)
    have hcon := Lib.hid (lnk_con he)
    rw [he]
    clear he
    generalize CellV.pack ⟨kd, sz, ax, mk⟩ = P
    go_wp2_with fail
    refine wp_loop_rounds 5 ?_
    rw [rounds_succ]
    go_wp2_with fail
    refine (links_any ⟨7, sz, ax, mk⟩ _).mono ?_
    rintro e w3 ⟨rfl, f3⟩
    rw [(lnk_zero 7 sz ax mk rfl rfl).1, (lnk_zero 7 sz ax mk rfl rfl).2]
    have g3 := f3.blk (b := w.heap.size) (c := #[.int .i64 kd, .int .i64 sz, .int .i64 ax, .int .i64 mk]) (t := 23) (by (unfold Blk; simp (disch := first | omega | (simp; done) | (simp; omega)) only [hp_drew, hp_drewN, hp_alloc, hp_other, hp_same, hp_new, upd_cells, Option.map_some, (g2).eq])) (by simp [Nil])
    have hz2 := hf2.size
    have hf3 : Fr Nil w w3 := Fr.trans (S := Nil) (w1 := w2.alloc (.cells #[.int .i64 7, .int .i64 sz, .int .i64 ax, .int .i64 mk] 23)) (by (repeat (first | (with_reducible exact Fr.refl _ _) | (with_reducible assumption) | (with_reducible refine Fr.drew ?_) | (with_reducible refine Fr.drewN ?_ _) | (with_reducible refine Fr.alloc ?_ _) | (with_reducible refine Fr.set ?_ _ _ (by first | (intros; omega) | (simp; done) | (simp; omega)))))) f3 (fun _ _ q => q)
    clear f3 hf2 g2 q0 q1 q2 q3 z0 hs hz2
    have q0 := g3.cell 0
    have q1 := g3.cell 1
    have q2 := g3.cell 2
    have q3 := g3.cell 3
    have z0 := g3.free 0
    simp at q0 q1 q2 q3
    have hs := g3.lt
    go_wp2_with fail
    rw [rounds_succ]
    go_wp2_with fail
    refine (links_any ⟨8, sz, ax, mk⟩ _).mono ?_
    rintro e w4 ⟨rfl, f4⟩
    rw [(lnk_zero 8 sz ax mk rfl rfl).1, (lnk_zero 8 sz ax mk rfl rfl).2]
    have g4 := f4.blk (b := w.heap.size) (c := #[.int .i64 kd, .int .i64 sz, .int .i64 ax, .int .i64 mk]) (t := 23) (by (unfold Blk; simp (disch := first | omega | (simp; done) | (simp; omega)) only [hp_drew, hp_drewN, hp_alloc, hp_other, hp_same, hp_new, upd_cells, Option.map_some, (g3).eq])) (by simp [Nil])
    have hz3 := hf3.size
    have hf4 : Fr Nil w w4 := Fr.trans (S := Nil) (w1 := w3.alloc (.cells #[.int .i64 8, .int .i64 sz, .int .i64 ax, .int .i64 mk] 23)) (by (repeat (first | (with_reducible exact Fr.refl _ _) | (with_reducible assumption) | (with_reducible refine Fr.drew ?_) | (with_reducible refine Fr.drewN ?_ _) | (with_reducible refine Fr.alloc ?_ _) | (with_reducible refine Fr.set ?_ _ _ (by first | (intros; omega) | (simp; done) | (simp; omega)))))) f4 (fun _ _ q => q)
    clear f4 hf3 g3 q0 q1 q2 q3 z0 hs hz3
    have q0 := g4.cell 0
    have q1 := g4.cell 1
    have q2 := g4.cell 2
    have q3 := g4.cell 3
    have z0 := g4.free 0
    simp at q0 q1 q2 q3
    have hs := g4.lt
    go_wp2_with fail
    rw [rounds_succ]
    go_wp2_with fail
    refine (links_any ⟨6, sz, ax, mk⟩ _).mono ?_
    rintro e w5 ⟨rfl, f5⟩
    rw [(lnk_zero 6 sz ax mk rfl rfl).1, (lnk_zero 6 sz ax mk rfl rfl).2]
    have g5 := f5.blk (b := w.heap.size) (c := #[.int .i64 kd, .int .i64 sz, .int .i64 ax, .int .i64 mk]) (t := 23) (by (unfold Blk; simp (disch := first | omega | (simp; done) | (simp; omega)) only [hp_drew, hp_drewN, hp_alloc, hp_other, hp_same, hp_new, upd_cells, Option.map_some, (g4).eq])) (by simp [Nil])
    have hz4 := hf4.size
    have hf5 : Fr Nil w w5 := Fr.trans (S := Nil) (w1 := w4.alloc (.cells #[.int .i64 6, .int .i64 sz, .int .i64 ax, .int .i64 mk] 23)) (by (repeat (first | (with_reducible exact Fr.refl _ _) | (with_reducible assumption) | (with_reducible refine Fr.drew ?_) | (with_reducible refine Fr.drewN ?_ _) | (with_reducible refine Fr.alloc ?_ _) | (with_reducible refine Fr.set ?_ _ _ (by first | (intros; omega) | (simp; done) | (simp; omega)))))) f5 (fun _ _ q => q)
    clear f5 hf4 g4 q0 q1 q2 q3 z0 hs hz4
    have q0 := g5.cell 0
    have q1 := g5.cell 1
    have q2 := g5.cell 2
    have q3 := g5.cell 3
    have z0 := g5.free 0
    simp at q0 q1 q2 q3
    have hs := g5.lt
    go_wp2_with fail
    rw [rounds_succ]
    go_wp2_with fail
    refine (links_any ⟨0, sz, ax, mk⟩ _).mono ?_
    rintro e w6 ⟨rfl, f6⟩
    rw [(lnk_zero 0 sz ax mk rfl rfl).1, (lnk_zero 0 sz ax mk rfl rfl).2]
    have g6 := f6.blk (b := w.heap.size) (c := #[.int .i64 kd, .int .i64 sz, .int .i64 ax, .int .i64 mk]) (t := 23) (by (unfold Blk; simp (disch := first | omega | (simp; done) | (simp; omega)) only [hp_drew, hp_drewN, hp_alloc, hp_other, hp_same, hp_new, upd_cells, Option.map_some, (g5).eq])) (by simp [Nil])
    have hz5 := hf5.size
    have hf6 : Fr Nil w w6 := Fr.trans (S := Nil) (w1 := w5.alloc (.cells #[.int .i64 0, .int .i64 sz, .int .i64 ax, .int .i64 mk] 23)) (by (repeat (first | (with_reducible exact Fr.refl _ _) | (with_reducible assumption) | (with_reducible refine Fr.drew ?_) | (with_reducible refine Fr.drewN ?_ _) | (with_reducible refine Fr.alloc ?_ _) | (with_reducible refine Fr.set ?_ _ _ (by first | (intros; omega) | (simp; done) | (simp; omega)))))) f6 (fun _ _ q => q)
    clear f6 hf5 g5 q0 q1 q2 q3 z0 hs hz5
    have q0 := g6.cell 0
    have q1 := g6.cell 1
    have q2 := g6.cell 2
    have q3 := g6.cell 3
    have z0 := g6.free 0
    simp at q0 q1 q2 q3
    have hs := g6.lt
    go_wp2_with fail
    rw [rounds_succ]
    go_wp2_with fail
    refine (links_any ⟨5, sz, ax, mk⟩ _).mono ?_
    rintro e w7 ⟨rfl, f7⟩
    have g7 := f7.blk (b := w.heap.size) (c := #[.int .i64 5, .int .i64 sz, .int .i64 ax, .int .i64 mk]) (t := 23) (by (unfold Blk; simp (disch := first | omega | (simp; done) | (simp; omega)) only [hp_drew, hp_drewN, hp_alloc, hp_other, hp_same, hp_new, upd_cells, Option.map_some, (g6).eq]); simp) (by simp [Nil])
    have hf7 : Fr Nil w w7 := Fr.trans (S := Nil) (w1 := w6.setCell ⟨w.heap.size, 0, none⟩ (.int .i64 5)) (by (repeat (first | (with_reducible exact Fr.refl _ _) | (with_reducible assumption) | (with_reducible refine Fr.drew ?_) | (with_reducible refine Fr.drewN ?_ _) | (with_reducible refine Fr.alloc ?_ _) | (with_reducible refine Fr.set ?_ _ _ (by first | (intros; omega) | (simp; done) | (simp; omega)))))) f7 (fun _ _ q => q)
    clear f7 hf6 g6 q0 q1 q2 q3 z0 hs
    have q0 := g7.cell 0
    have q1 := g7.cell 1
    have q2 := g7.cell 2
    have q3 := g7.cell 3
    have z0 := g7.free 0
    simp at q0 q1 q2 q3
    have hs := g7.lt
    go_wp2_with fail
    refine (links_any ⟨1, sz, ax, mk⟩ _).mono ?_
    rintro e w8 ⟨rfl, f8⟩
    have g8 := f8.blk (b := w.heap.size) (c := #[.int .i64 1, .int .i64 sz, .int .i64 ax, .int .i64 mk]) (t := 23) (by (unfold Blk; simp (disch := first | omega | (simp; done) | (simp; omega)) only [hp_drew, hp_drewN, hp_alloc, hp_other, hp_same, hp_new, upd_cells, Option.map_some, (g7).eq]); simp) (by simp [Nil])
    have hf8 : Fr Nil w w8 := Fr.trans (S := Nil) (w1 := w7.setCell ⟨w.heap.size, 0, none⟩ (.int .i64 1)) (by (repeat (first | (with_reducible exact Fr.refl _ _) | (with_reducible assumption) | (with_reducible refine Fr.drew ?_) | (with_reducible refine Fr.drewN ?_ _) | (with_reducible refine Fr.alloc ?_ _) | (with_reducible refine Fr.set ?_ _ _ (by first | (intros; omega) | (simp; done) | (simp; omega)))))) f8 (fun _ _ q => q)
    clear f8 hf7 g7 q0 q1 q2 q3 z0 hs
    have q0 := g8.cell 0
    have q1 := g8.cell 1
    have q2 := g8.cell 2
    have q3 := g8.cell 3
    have z0 := g8.free 0
    simp at q0 q1 q2 q3
    have hs := g8.lt
    rw [hcon.out.1, hcon.out.2]
    by_cases hp : 0 < sz
    · rw [hind.out.1 hp]
      clear hind hcon
      generalize lnkF ⟨5, sz, ax, mk⟩ = F
      go_wp2
      go_ret
      exact ⟨rfl, hf8⟩
    · have hz : sz = 0 := by omega
      rw [hind.out.2 hz]
      clear hind hcon
      subst hz
      generalize lnkF ⟨5, 0, ax, mk⟩ = F
      go_wp2
      go_ret
      exact ⟨rfl, hf8⟩
  · have hb : (CellV.err ⟨kd, sz, ax, mk⟩ != 0) = true := by simpa using he
    generalize CellV.err ⟨kd, sz, ax, mk⟩ = E at *
    generalize CellV.pack ⟨kd, sz, ax, mk⟩ = P at *
    go_wp2
    go_ret
    exact ⟨rfl, hf2⟩
end Go.Proofs.Ytkdinblcbnlddaa
