/-
  The walk of CellApart.
-/
import Derived.Test.YtkdinblcbnlddaaL04
namespace Go.Proofs.Ytkdinblcbnlddaa
set_option linter.unusedSimpArgs false
set_option linter.unusedVariables false
open Go.RowKit

theorem word_inj {a b : CellV} (ha : a.err = 0) (hb : b.err = 0) (h : a.pack = b.pack) : a = b := by
  have h1 := (unp_of_word ha).1
  have h2 := (unp_of_word hb).1
  rw [h] at h1
  exact h1.symm.trans h2
theorem turned {a : CellV} (ha : a.err = 0) : CellV.err ⟨a.kind, a.size, a.aux, 1 - a.mark⟩ = 0 ∧ (CellV.pack ⟨a.kind, a.size, a.aux, 1 - a.mark⟩ - a.pack = 16 ∨ a.pack - CellV.pack ⟨a.kind, a.size, a.aux, 1 - a.mark⟩ = 16) ∧ (0 ≤ a.pack ∧ a.pack < 17179869184) ∧ (0 ≤ CellV.pack ⟨a.kind, a.size, a.aux, 1 - a.mark⟩ ∧ CellV.pack ⟨a.kind, a.size, a.aux, 1 - a.mark⟩ < 17179869184) := by
  obtain ⟨⟨m0, m1⟩, ⟨s0, s1⟩, a0, a1⟩ := err_parts ha
  obtain ⟨k0, k1⟩ := err_kind ha
  have he : CellV.err ⟨a.kind, a.size, a.aux, 1 - a.mark⟩ = 0 := by
    unfold CellV.err
    rw [if_neg (by simp only []; omega), if_pos]
    simp only [Bool.and_eq_true]
    exact ⟨⟨fitB_iff.2 (by omega), fitB_iff.2 (by omega)⟩, fitB_iff.2 (by omega)⟩
  have p1 : a.pack = a.kind + 16 * a.mark + 32 * a.size + 1024 * a.aux := by simp [CellV.pack, ha, CellV.word]
  have p2 : CellV.pack ⟨a.kind, a.size, a.aux, 1 - a.mark⟩ = a.kind + 16 * (1 - a.mark) + 32 * a.size + 1024 * a.aux := by simp [CellV.pack, he, CellV.word]
  refine ⟨he, ?_⟩
  rw [p1, p2]
  omega
set_option maxHeartbeats 2000000 in
theorem apart_any (a b : CellV) (w : World) :
    Calls Try.prog 4 #[.agg #[.int .i64 a.kind, .int .i64 a.size, .int .i64 a.aux, .int .i64 a.mark], .agg #[.int .i64 b.kind, .int .i64 b.size, .int .i64 b.aux, .int .i64 b.mark]] w fun e w' => e = .returned (.bool true) ∧ Fr Nil w w' := by
  obtain ⟨ak, as_, aa, am⟩ := a
  obtain ⟨bk, bs, ba, bm⟩ := b
  go_enter Try.func4, Try.ntmps4
  go_wp2_with fail
  refine (awake_any _).mono ?_
  rintro e w1 ⟨rfl, f1⟩
  have g1 := f1.blk (b := w.heap.size) (c := #[.int .i64 ak, .int .i64 as_, .int .i64 aa, .int .i64 am]) (t := 23) (by (unfold Blk; simp (disch := first | omega | (simp; done) | (simp; omega)) only [hp_drew, hp_drewN, hp_alloc, hp_other, hp_same, hp_new, upd_cells, Option.map_some])) (by simp [Nil])
  have k1 := f1.blk (b := w.heap.size + 1) (c := #[.int .i64 bk, .int .i64 bs, .int .i64 ba, .int .i64 bm]) (t := 23) (by (unfold Blk; simp (disch := first | omega | (simp; done) | (simp; omega)) only [hp_drew, hp_drewN, hp_alloc, hp_other, hp_same, hp_new, upd_cells, Option.map_some])) (by simp [Nil])
  have hf1 : Fr Nil w w1 := Fr.trans (by (repeat (first | (with_reducible exact Fr.refl _ _) | (with_reducible assumption) | (with_reducible refine Fr.drew ?_) | (with_reducible refine Fr.drewN ?_ _) | (with_reducible refine Fr.alloc ?_ _) | (with_reducible refine Fr.set ?_ _ _ (by first | (intros; omega) | (simp; done) | (simp; omega)))))) f1 (fun _ _ q => q)
  clear f1
  have q0 := g1.cell 0
  have q1 := g1.cell 1
  have q2 := g1.cell 2
  have q3 := g1.cell 3
  simp at q0 q1 q2 q3
  go_wp2_with fail
  refine (pack_any ⟨ak, as_, aa, am⟩ _).mono ?_
  rintro e w2 ⟨rfl, f2⟩
  have g2 := f2.blk g1 (by simp [Nil])
  have k2 := f2.blk k1 (by simp [Nil])
  have hf2 : Fr Nil w w2 := Fr.trans hf1 f2 (fun _ _ q => q)
  clear f2 hf1 g1 k1 q0 q1 q2 q3
  have q0 := k2.cell 0
  have q1 := k2.cell 1
  have q2 := k2.cell 2
  have q3 := k2.cell 3
  simp at q0 q1 q2 q3
  go_wp2_with fail
  refine (pack_any ⟨bk, bs, ba, bm⟩ _).mono ?_
  rintro e w3 ⟨rfl, f3⟩
  have g3 := f3.blk g2 (by simp [Nil])
  have k3 := f3.blk k2 (by simp [Nil])
  have hf3 : Fr Nil w w3 := Fr.trans hf2 f3 (fun _ _ q => q)
  clear f3 hf2 g2 k2 q0 q1 q2 q3
  have q0 := g3.cell 0
  have q1 := g3.cell 1
  have q2 := g3.cell 2
  have q3 := g3.cell 3
  have r0 := k3.cell 0
  have r1 := k3.cell 1
  have r2 := k3.cell 2
  have r3 := k3.cell 3
  have z3 := g3.free 3
  simp at q0 q1 q2 q3 r0 r1 r2 r3
  have hs := g3.lt
  by_cases hea : CellV.err ⟨ak, as_, aa, am⟩ = 0
  · obtain ⟨t1, t2, t3, t4⟩ := turned hea
    simp only [] at t1 t2 t3 t4
    obtain ⟨⟨m0, m1⟩, _⟩ := err_parts hea
    simp only [] at m0 m1
    by_cases heb : CellV.err ⟨bk, bs, ba, bm⟩ = 0
    · by_cases hab : (⟨ak, as_, aa, am⟩ : CellV) = ⟨bk, bs, ba, bm⟩
      · cases hab
        rw [hea]
        clear hea heb
        generalize CellV.pack ⟨ak, as_, aa, am⟩ = P at *
        go_wp2_with fail
        refine (pack_any ⟨ak, as_, aa, 1 - am⟩ _).mono ?_
        rintro e w4 ⟨rfl, f4⟩
        have hf4 : Fr Nil w w4 := Fr.trans (S := Nil) (w1 := w3.setCell ⟨w.heap.size, 3, none⟩ (.int .i64 (1 - am))) (by (repeat (first | (with_reducible exact Fr.refl _ _) | (with_reducible assumption) | (with_reducible refine Fr.drew ?_) | (with_reducible refine Fr.drewN ?_ _) | (with_reducible refine Fr.alloc ?_ _) | (with_reducible refine Fr.set ?_ _ _ (by first | (intros; omega) | (simp; done) | (simp; omega)))))) f4 (fun _ _ q => q)
        rw [t1]
        clear f4 hf3 g3 k3 q0 q1 q2 q3 r0 r1 r2 r3 hs t1
        generalize CellV.pack ⟨ak, as_, aa, 1 - am⟩ = Z at *
        rcases t2 with t2 | t2
        · go_wp2
          go_ret
          exact ⟨rfl, hf4⟩
        · go_wp2
          go_ret
          exact ⟨rfl, hf4⟩
      · have hpq : CellV.pack ⟨ak, as_, aa, am⟩ ≠ CellV.pack ⟨bk, bs, ba, bm⟩ := fun q => hab (word_inj hea heb q)
        have hc : ak ≠ bk ∨ (ak = bk ∧ as_ ≠ bs) ∨ (ak = bk ∧ as_ = bs ∧ aa ≠ ba) ∨ (ak = bk ∧ as_ = bs ∧ aa = ba ∧ am ≠ bm) := by
          simp only [CellV.mk.injEq] at hab; omega
        rw [hea, heb]
        clear hea heb hab
        generalize CellV.pack ⟨ak, as_, aa, am⟩ = P at *
        generalize CellV.pack ⟨bk, bs, ba, bm⟩ = Q at *
        rcases hc with hc | ⟨rfl, hc⟩ | ⟨rfl, rfl, hc⟩ | ⟨rfl, rfl, rfl, hc⟩
        · go_wp2_with fail
          refine (pack_any ⟨ak, as_, aa, 1 - am⟩ _).mono ?_
          rintro e w4 ⟨rfl, f4⟩
          have hf4 : Fr Nil w w4 := Fr.trans (S := Nil) (w1 := w3.setCell ⟨w.heap.size, 3, none⟩ (.int .i64 (1 - am))) (by (repeat (first | (with_reducible exact Fr.refl _ _) | (with_reducible assumption) | (with_reducible refine Fr.drew ?_) | (with_reducible refine Fr.drewN ?_ _) | (with_reducible refine Fr.alloc ?_ _) | (with_reducible refine Fr.set ?_ _ _ (by first | (intros; omega) | (simp; done) | (simp; omega)))))) f4 (fun _ _ q => q)
          rw [t1]
          clear f4 hf3 g3 k3 q0 q1 q2 q3 r0 r1 r2 r3 hs t1
          generalize CellV.pack ⟨ak, as_, aa, 1 - am⟩ = Z at *
          rcases t2 with t2 | t2
          · go_wp2
            go_ret
            exact ⟨rfl, hf4⟩
          · go_wp2
            go_ret
            exact ⟨rfl, hf4⟩
        · go_wp2_with fail
          refine (pack_any ⟨ak, as_, aa, 1 - am⟩ _).mono ?_
          rintro e w4 ⟨rfl, f4⟩
          have hf4 : Fr Nil w w4 := Fr.trans (S := Nil) (w1 := w3.setCell ⟨w.heap.size, 3, none⟩ (.int .i64 (1 - am))) (by (repeat (first | (with_reducible exact Fr.refl _ _) | (with_reducible assumption) | (with_reducible refine Fr.drew ?_) | (with_reducible refine Fr.drewN ?_ _) | (with_reducible refine Fr.alloc ?_ _) | (with_reducible refine Fr.set ?_ _ _ (by first | (intros; omega) | (simp; done) | (simp; omega)))))) f4 (fun _ _ q => q)
          rw [t1]
          clear f4 hf3 g3 k3 q0 q1 q2 q3 r0 r1 r2 r3 hs t1
          generalize CellV.pack ⟨ak, as_, aa, 1 - am⟩ = Z at *
          rcases t2 with t2 | t2
          · go_wp2
            go_ret
            exact ⟨rfl, hf4⟩
          · go_wp2
            go_ret
            exact ⟨rfl, hf4⟩
        · go_wp2_with fail
          refine (pack_any ⟨ak, as_, aa, 1 - am⟩ _).mono ?_
          rintro e w4 ⟨rfl, f4⟩
          have hf4 : Fr Nil w w4 := Fr.trans (S := Nil) (w1 := w3.setCell ⟨w.heap.size, 3, none⟩ (.int .i64 (1 - am))) (by (repeat (first | (with_reducible exact Fr.refl _ _) | (with_reducible assumption) | (with_reducible refine Fr.drew ?_) | (with_reducible refine Fr.drewN ?_ _) | (with_reducible refine Fr.alloc ?_ _) | (with_reducible refine Fr.set ?_ _ _ (by first | (intros; omega) | (simp; done) | (simp; omega)))))) f4 (fun _ _ q => q)
          rw [t1]
          clear f4 hf3 g3 k3 q0 q1 q2 q3 r0 r1 r2 r3 hs t1
          generalize CellV.pack ⟨ak, as_, aa, 1 - am⟩ = Z at *
          rcases t2 with t2 | t2
          · go_wp2
            go_ret
            exact ⟨rfl, hf4⟩
          · go_wp2
            go_ret
            exact ⟨rfl, hf4⟩
        · go_wp2_with fail
          refine (pack_any ⟨ak, as_, aa, 1 - am⟩ _).mono ?_
          rintro e w4 ⟨rfl, f4⟩
          have hf4 : Fr Nil w w4 := Fr.trans (S := Nil) (w1 := w3.setCell ⟨w.heap.size, 3, none⟩ (.int .i64 (1 - am))) (by (repeat (first | (with_reducible exact Fr.refl _ _) | (with_reducible assumption) | (with_reducible refine Fr.drew ?_) | (with_reducible refine Fr.drewN ?_ _) | (with_reducible refine Fr.alloc ?_ _) | (with_reducible refine Fr.set ?_ _ _ (by first | (intros; omega) | (simp; done) | (simp; omega)))))) f4 (fun _ _ q => q)
          rw [t1]
          clear f4 hf3 g3 k3 q0 q1 q2 q3 r0 r1 r2 r3 hs t1
          generalize CellV.pack ⟨ak, as_, aa, 1 - am⟩ = Z at *
          rcases t2 with t2 | t2
          · go_wp2
            go_ret
            exact ⟨rfl, hf4⟩
          · go_wp2
            go_ret
            exact ⟨rfl, hf4⟩
    · have hb : (CellV.err ⟨bk, bs, ba, bm⟩ == 0) = false := by simpa using heb
      rw [hea]
      clear hea
      generalize CellV.pack ⟨ak, as_, aa, am⟩ = P at *
      generalize CellV.pack ⟨bk, bs, ba, bm⟩ = Q at *
      generalize CellV.err ⟨bk, bs, ba, bm⟩ = E at *
      go_wp2_with fail
      refine (pack_any ⟨ak, as_, aa, 1 - am⟩ _).mono ?_
      rintro e w4 ⟨rfl, f4⟩
      have hf4 : Fr Nil w w4 := Fr.trans (S := Nil) (w1 := w3.setCell ⟨w.heap.size, 3, none⟩ (.int .i64 (1 - am))) (by (repeat (first | (with_reducible exact Fr.refl _ _) | (with_reducible assumption) | (with_reducible refine Fr.drew ?_) | (with_reducible refine Fr.drewN ?_ _) | (with_reducible refine Fr.alloc ?_ _) | (with_reducible refine Fr.set ?_ _ _ (by first | (intros; omega) | (simp; done) | (simp; omega)))))) f4 (fun _ _ q => q)
      rw [t1]
      clear f4 hf3 g3 k3 q0 q1 q2 q3 r0 r1 r2 r3 hs t1
      generalize CellV.pack ⟨ak, as_, aa, 1 - am⟩ = Z at *
      rcases t2 with t2 | t2
      · go_wp2
        go_ret
        exact ⟨rfl, hf4⟩
      · go_wp2
        go_ret
        exact ⟨rfl, hf4⟩
  · have hb : (CellV.err ⟨ak, as_, aa, am⟩ == 0) = false := by simpa using hea
    have hb' : (CellV.err ⟨ak, as_, aa, am⟩ != 0) = true := by simpa using hea
    generalize CellV.pack ⟨ak, as_, aa, am⟩ = P at *
    generalize CellV.err ⟨ak, as_, aa, am⟩ = F at *
    generalize CellV.pack ⟨bk, bs, ba, bm⟩ = Q at *
    generalize CellV.err ⟨bk, bs, ba, bm⟩ = E at *
    go_wp2
    go_ret
    exact ⟨rfl, hf3⟩
end Go.Proofs.Ytkdinblcbnlddaa
