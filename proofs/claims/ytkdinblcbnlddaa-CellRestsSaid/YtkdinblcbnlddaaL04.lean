/-
  The walks of the laws of layer 4.
-/
import Derived.Test.YtkdinblcbnlddaaCell4
namespace Go.Proofs.Ytkdinblcbnlddaa
set_option linter.unusedSimpArgs false
set_option linter.unusedVariables false
open Go.RowKit

theorem awake_any (w : World) : Calls Try.prog 8 #[] w fun e w' => e = .returned (.bool true) ∧ Fr Nil w w' := by
  have e1 : CellV.pack ⟨1, 2, 5, 1⟩ = 5201 := by decide
  have e2 : CellV.err ⟨1, 2, 5, 1⟩ = 0 := by decide
  have e3 : lnkF ⟨9, 4, 0, 0⟩ = 1 := by decide
  have e4 : lnkT ⟨9, 4, 0, 0⟩ = 4 := by decide
  go_enter Try.func8, Try.ntmps8
  go_wp2_with fail
  refine (pack_any ⟨1, 2, 5, 1⟩ _).mono ?_
  rintro e w1 ⟨rfl, f1⟩
  have hf1 : Fr Nil w w1 := Fr.trans (by (repeat (first | (with_reducible exact Fr.refl _ _) | (with_reducible assumption) | (with_reducible refine Fr.drew ?_) | (with_reducible refine Fr.drewN ?_ _) | (with_reducible refine Fr.alloc ?_ _) | (with_reducible refine Fr.set ?_ _ _ (by first | (intros; omega) | (simp; done) | (simp; omega)))))) f1 (fun _ _ q => q)
  clear f1
  go_wp2_with fail
  refine (links_any ⟨9, 4, 0, 0⟩ _).mono ?_
  rintro e w2 ⟨rfl, f2⟩
  have hf2 : Fr Nil w w2 := hf1.trans f2 (fun _ _ q => q)
  clear f2 hf1
  go_wp2
  go_ret
  exact ⟨rfl, hf2⟩

/-- What is packed is unpacked as it was. -/
theorem unp_of_word {c : CellV} (h : c.err = 0) : unpC c.pack = c ∧ unpE c.pack = 0 := by
  obtain ⟨⟨m0, m1⟩, ⟨s0, s1⟩, a0, a1⟩ := err_parts h
  obtain ⟨k0, k1⟩ := err_kind h
  have hp : c.pack = c.word := by simp [CellV.pack, h]
  have hw : c.word = c.kind + 16 * c.mark + 32 * c.size + 1024 * c.aux := rfl
  have hok : unpOk c.pack = true := by
    rw [hp, hw]; simp [unpOk]; omega
  constructor
  · unfold unpC
    rw [if_pos hok, hp]
    obtain ⟨kd, sz, ax, mk⟩ := c
    simp only [] at *
    simp only [unp, CellV.mk.injEq]
    rw [hw]
    omega
  · unfold unpE; rw [if_pos hok]
theorem packs_any (c : CellV) (w : World) :
    Calls Try.prog 6 #[.agg #[.int .i64 c.kind, .int .i64 c.size, .int .i64 c.aux, .int .i64 c.mark]] w fun e w' => e = .returned (.bool true) ∧ Fr Nil w w' := by
  go_enter Try.func6, Try.ntmps6
  go_wp2_with fail
  refine (awake_any _).mono ?_
  rintro e w1 ⟨rfl, f1⟩
  have g1 := f1.blk (b := w.heap.size) (c := #[.int .i64 c.kind, .int .i64 c.size, .int .i64 c.aux, .int .i64 c.mark]) (t := 23) (by (unfold Blk; simp (disch := first | omega | (simp; done) | (simp; omega)) only [hp_drew, hp_drewN, hp_alloc, hp_other, hp_same, hp_new, upd_cells, Option.map_some])) (by simp [Nil])
  have hf1 : Fr Nil w w1 := Fr.trans (by (repeat (first | (with_reducible exact Fr.refl _ _) | (with_reducible assumption) | (with_reducible refine Fr.drew ?_) | (with_reducible refine Fr.drewN ?_ _) | (with_reducible refine Fr.alloc ?_ _) | (with_reducible refine Fr.set ?_ _ _ (by first | (intros; omega) | (simp; done) | (simp; omega)))))) f1 (fun _ _ q => q)
  have q0 := g1.cell 0
  have q1 := g1.cell 1
  have q2 := g1.cell 2
  have q3 := g1.cell 3
  simp at q0 q1 q2 q3
  clear f1
  go_wp2_with fail
  refine (pack_any c _).mono ?_
  rintro e w2 ⟨rfl, f2⟩
  have g2 := f2.blk g1 (by simp [Nil])
  have hf2 : Fr Nil w w2 := Fr.trans hf1 f2 (fun _ _ q => q)
  clear f2 hf1 g1 q0 q1 q2 q3
  have q0 := g2.cell 0
  have q1 := g2.cell 1
  have q2 := g2.cell 2
  have q3 := g2.cell 3
  simp at q0 q1 q2 q3
  go_wp2_with fail
  refine (rpack_any c _).mono ?_
  rintro e w3 ⟨rfl, f3⟩
  have g3 := f3.blk (b := w.heap.size) (c := #[.int .i64 c.kind, .int .i64 c.size, .int .i64 c.aux, .int .i64 c.mark]) (t := 23) (by (unfold Blk; simp (disch := first | omega | (simp; done) | (simp; omega)) only [hp_drew, hp_drewN, hp_alloc, hp_other, hp_same, hp_new, upd_cells, Option.map_some, (g2).eq])) (by simp [Nil])
  have hf3 : Fr Nil w w3 := Fr.trans (by (repeat (first | (with_reducible exact Fr.refl _ _) | (with_reducible assumption) | (with_reducible refine Fr.drew ?_) | (with_reducible refine Fr.drewN ?_ _) | (with_reducible refine Fr.alloc ?_ _) | (with_reducible refine Fr.set ?_ _ _ (by first | (intros; omega) | (simp; done) | (simp; omega)))))) f3 (fun _ _ q => q)
  clear f3 hf2 g2 q0 q1 q2 q3
  have q0 := g3.cell 0
  have q1 := g3.cell 1
  have q2 := g3.cell 2
  have q3 := g3.cell 3
  simp at q0 q1 q2 q3
  by_cases he : c.err = 0
  · obtain ⟨u1, u2⟩ := unp_of_word he
    have HU := Lib.hid u1
    clear u1
    generalize c.pack = P at *
    rw [he] at *
    clear he
    go_wp2_with fail
    refine (unpack_walk P _).mono ?_
    rintro e w4 ⟨rfl, f4⟩
    rw [HU.out, u2]
    clear HU u2
    unfold CellV.val
    have g4 := f4.blk g3 (by simp [Nil])
    have hf4 : Fr Nil w w4 := Fr.trans hf3 f4 (fun _ _ q => q)
    clear f4 hf3 g3 q0 q1 q2 q3
    have q0 := g4.cell 0
    have q1 := g4.cell 1
    have q2 := g4.cell 2
    have q3 := g4.cell 3
    simp at q0 q1 q2 q3
    have hs := g4.lt
    go_wp2
    go_ret
    exact ⟨rfl, by (repeat (first | (with_reducible exact Fr.refl _ _) | (with_reducible assumption) | (with_reducible refine Fr.drew ?_) | (with_reducible refine Fr.drewN ?_ _) | (with_reducible refine Fr.alloc ?_ _) | (with_reducible refine Fr.set ?_ _ _ (by first | (intros; omega) | (simp; done) | (simp; omega)))))⟩
  · have hb : (c.err != 0) = true := by simpa using he
    generalize c.err = E at *
    generalize c.pack = P at *
    go_wp2
    go_ret
    exact ⟨rfl, hf3⟩

theorem unpacks_any (x : Int) (w : World) (h0 : -9223372036854775808 ≤ x) (h1 : x ≤ 9223372036854775807) :
    Calls Try.prog 7 #[.int .i64 x] w fun e w' => e = .returned (.bool true) ∧ Fr Nil w w' := by
  have hP := unp_cases x
  have hC : unpE x = 0 → unpOk x = true := by unfold unpE; intro q; by_cases r : unpOk x = true; exact r; rw [if_neg r] at q; omega
  have hU : unpOk x = true → (unpC x).pack = x ∧ (unpC x).err = 0 := by
    intro r
    rcases hP with ⟨a, b, _⟩ | ⟨_, _, c⟩ | ⟨_, c⟩
    · unfold unpC; rw [if_pos r]; exact ⟨b, a⟩
    · rw [r] at c; cases c
    · rw [r] at c; cases c
  have HU := Lib.hid (fun q => hU (hC q))
  clear hP hC hU
  go_enter Try.func7, Try.ntmps7
  go_wp2_with fail
  refine (awake_any _).mono ?_
  rintro e w1 ⟨rfl, f1⟩
  go_wp2_with fail
  refine (unpack_walk x _).mono ?_
  rintro e w2 ⟨rfl, f2⟩
  have hf2 : Fr Nil w w2 := f1.trans f2 (fun _ _ q => q)
  clear f1 f2
  obtain ⟨c, hc⟩ : ∃ c, c = unpC x := ⟨_, rfl⟩
  obtain ⟨E, hE⟩ : ∃ E, E = unpE x := ⟨_, rfl⟩
  rw [← hc, ← hE] at HU
  rw [← hc, ← hE]
  have HC := Lib.hid hc
  have HE := Lib.hid hE
  clear hc hE
  unfold CellV.val
  go_wp2_with fail
  refine (runpack_any x _ h1).mono ?_
  rintro e w3 ⟨rfl, f3⟩
  rw [← HC.out, ← HE.out]
  unfold CellV.val
  have hs2 := hf2.size
  have g3 := f3.blk (b := w2.heap.size) (c := #[.int .i64 c.kind, .int .i64 c.size, .int .i64 c.aux, .int .i64 c.mark]) (t := 23) (by (unfold Blk; simp (disch := first | omega | (simp; done) | (simp; omega)) only [hp_drew, hp_drewN, hp_alloc, hp_other, hp_same, hp_new, upd_cells, Option.map_some])) (by simp [Nil])
  have hf3 : Fr Nil w w3 := Fr.trans (S := Nil) (w1 := w2.alloc (.cells #[.int .i64 c.kind, .int .i64 c.size, .int .i64 c.aux, .int .i64 c.mark] 23)) (by (repeat (first | (with_reducible exact Fr.refl _ _) | (with_reducible assumption) | (with_reducible refine Fr.drew ?_) | (with_reducible refine Fr.drewN ?_ _) | (with_reducible refine Fr.alloc ?_ _) | (with_reducible refine Fr.set ?_ _ _ (by first | (intros; omega) | (simp; done) | (simp; omega)))))) f3 (fun _ _ q => q)
  clear f3 hf2
  have q0 := g3.cell 0
  have q1 := g3.cell 1
  have q2 := g3.cell 2
  have q3 := g3.cell 3
  simp at q0 q1 q2 q3
  have hs := g3.lt
  by_cases he : E = 0
  · subst he
    obtain ⟨u1, u2⟩ := HU.out rfl
    go_wp2_with fail
    refine (pack_any c _).mono ?_
    rintro e w4 ⟨rfl, f4⟩
    have hf4 : Fr Nil w w4 := Fr.trans (S := Nil) (w1 := w3.alloc (.cells #[.int .i64 c.kind, .int .i64 c.size, .int .i64 c.aux, .int .i64 c.mark] 28)) (by (repeat (first | (with_reducible exact Fr.refl _ _) | (with_reducible assumption) | (with_reducible refine Fr.drew ?_) | (with_reducible refine Fr.drewN ?_ _) | (with_reducible refine Fr.alloc ?_ _) | (with_reducible refine Fr.set ?_ _ _ (by first | (intros; omega) | (simp; done) | (simp; omega)))))) f4 (fun _ _ q => q)
    rw [u1, u2]
    clear u1 u2
    go_wp2
    go_ret
    exact ⟨rfl, hf4⟩
  · have hb : (E != 0) = true := by simpa using he
    go_wp2
    go_ret
    exact ⟨rfl, by (repeat (first | (with_reducible exact Fr.refl _ _) | (with_reducible assumption) | (with_reducible refine Fr.drew ?_) | (with_reducible refine Fr.drewN ?_ _) | (with_reducible refine Fr.alloc ?_ _) | (with_reducible refine Fr.set ?_ _ _ (by first | (intros; omega) | (simp; done) | (simp; omega)))))⟩
end Go.Proofs.Ytkdinblcbnlddaa
