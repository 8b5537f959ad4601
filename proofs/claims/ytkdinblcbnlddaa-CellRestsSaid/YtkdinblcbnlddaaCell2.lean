/-
  Contracts of package cell: Unpack, Links; and of the document's.
-/
import Derived.Test.YtkdinblcbnlddaaCell
namespace Go.Proofs.Ytkdinblcbnlddaa
set_option linter.unusedSimpArgs false
set_option linter.unusedVariables false
open Go.RowKit

/-- What a word tells. -/
def unp (x : Int) : CellV := ⟨x % 16, x / 16 / 2 % 32, x / 16 / 2 / 32 % 16777216, x / 16 % 2⟩
def unpOk (x : Int) : Bool := decide (0 ≤ x) && decide (x < 17179869184) && decide (x % 16 ≤ 10)

def unpC (x : Int) : CellV := if unpOk x then unp x else ⟨0, 0, 0, 0⟩
def unpE (x : Int) : Int := if unpOk x then 0 else 3
theorem unp_err (x : Int) : (unp x).err = if x % 16 ≤ 10 then 0 else 6 := by
  have h1 : fitB (x / 16 % 2) 2 = true := fitB_iff.2 (by omega)
  have h2 : fitB (x / 16 / 2 % 32) 32 = true := fitB_iff.2 (by omega)
  have h3 : fitB (x / 16 / 2 / 32 % 16777216) 16777216 = true := fitB_iff.2 (by omega)
  by_cases h : x % 16 ≤ 10
  · have : ¬ (x % 16 < 0 ∨ 10 < x % 16) := by omega
    simp only [CellV.err, unp, if_neg this, if_pos h, h1, h2, h3]
    rfl
  · have : x % 16 < 0 ∨ 10 < x % 16 := by omega
    unfold CellV.err
    rw [if_neg h]
    exact if_pos this
theorem unp_word (x : Int) (h : x % 16 ≤ 10) : ((unp x).pack = x) ↔ (0 ≤ x ∧ x < 17179869184) := by
  have he := unp_err x
  rw [if_pos h] at he
  unfold CellV.pack
  rw [if_pos he]
  simp only [CellV.word, unp]
  omega
theorem unp_cases (x : Int) : ((unp x).err = 0 ∧ (unp x).pack = x ∧ unpOk x = true) ∨ ((unp x).err = 0 ∧ (unp x).pack ≠ x ∧ unpOk x = false) ∨ ((unp x).err = 6 ∧ unpOk x = false) := by
  by_cases h : x % 16 ≤ 10
  · have he := unp_err x
    rw [if_pos h] at he
    by_cases hp : (unp x).pack = x
    · have := (unp_word x h).1 hp
      exact .inl ⟨he, hp, by simp [unpOk, this, h]⟩
    · refine .inr (.inl ⟨he, hp, ?_⟩)
      have : ¬ (0 ≤ x ∧ x < 17179869184) := fun q => hp ((unp_word x h).2 q)
      simp [unpOk]; omega
  · have he := unp_err x
    rw [if_neg h] at he
    exact .inr (.inr ⟨he, by simp [unpOk, h]⟩)
theorem unpack_walk (x : Int) (w : World) :
    Calls Try.prog 13 #[.int .i64 x] w fun e w' => e = .returned (.tuple #[(unpC x).val, .int .i64 (unpE x)]) ∧ Fr Nil w w' := by
  have i0 : ∀ w, (Instr.index 34 (.agg #[.int .i64 4, .int .i64 1, .int .i64 5, .int .i64 24]) (.int .i64 0)).run Try.prog w = .ok (.int .i64 4) w := fun _ => by kernel_rfl
  have i1 : ∀ w, (Instr.index 34 (.agg #[.int .i64 4, .int .i64 1, .int .i64 5, .int .i64 24]) (.int .i64 1)).run Try.prog w = .ok (.int .i64 1) w := fun _ => by kernel_rfl
  have i2 : ∀ w, (Instr.index 34 (.agg #[.int .i64 4, .int .i64 1, .int .i64 5, .int .i64 24]) (.int .i64 2)).run Try.prog w = .ok (.int .i64 5) w := fun _ => by kernel_rfl
  have i3 : ∀ w, (Instr.index 34 (.agg #[.int .i64 4, .int .i64 1, .int .i64 5, .int .i64 24]) (.int .i64 3)).run Try.prog w = .ok (.int .i64 24) w := fun _ => by kernel_rfl
  have a0 : bits BinOp.and IntKind.i64 x 15 = x % 16 := and_mask x 4 (by decide)
  have a1 : bits BinOp.and IntKind.i64 (x / 16) 1 = x / 16 % 2 := and_mask (x / 16) 1 (by decide)
  have a2 : bits BinOp.and IntKind.i64 (x / 16 / 2) 31 = x / 16 / 2 % 32 := and_mask (x / 16 / 2) 5 (by decide)
  have a3 : bits BinOp.and IntKind.i64 (x / 16 / 2 / 32) 16777215 = x / 16 / 2 / 32 % 16777216 := and_mask (x / 16 / 2 / 32) 24 (by decide)
  go_enter Try.func13, Try.ntmps13
  go_wp2_with fail
  refine (bits_any _).mono ?_
  rintro e w1 ⟨rfl, f1⟩
  have g1 := f1.blk (b := w.heap.size) (c := #[.int .i64 0, .int .i64 0, .int .i64 0, .int .i64 0]) (t := 23) (by (unfold Blk; simp (disch := first | omega | (simp; done) | (simp; omega)) only [hp_drew, hp_drewN, hp_alloc, hp_other, hp_same, hp_new, upd_cells, Option.map_some])) (by simp [Nil])
  have g2 := f1.blk (b := w.heap.size + 1) (c := #[.int .i64 0, .int .i64 0, .int .i64 0, .int .i64 0]) (t := 34) (by (unfold Blk; simp (disch := first | omega | (simp; done) | (simp; omega)) only [hp_drew, hp_drewN, hp_alloc, hp_other, hp_same, hp_new, upd_cells, Option.map_some])) (by simp [Nil])
  have hfr : Fr Nil w w1 := Fr.trans (by (repeat (first | (with_reducible exact Fr.refl _ _) | (with_reducible assumption) | (with_reducible refine Fr.drew ?_) | (with_reducible refine Fr.drewN ?_ _) | (with_reducible refine Fr.alloc ?_ _) | (with_reducible refine Fr.set ?_ _ _ (by first | (intros; omega) | (simp; done) | (simp; omega)))))) f1 (fun _ _ q => q)
  clear f1
  have hk0 := g2.cell 0
  have hk1 := g2.cell 1
  have hk2 := g2.cell 2
  have hk3 := g2.cell 3
  have hz0 := g2.free 0
  have hz1 := g2.free 1
  have hz2 := g2.free 2
  have hz3 := g2.free 3
  simp at hk0 hk1 hk2 hk3
  go_wp2_with fail
  refine wp_loop_rounds 5 ?_
  rw [rounds_succ]
  go_wp2_with fail
  rw [rounds_succ]
  go_wp2_with fail
  rw [rounds_succ]
  go_wp2_with fail
  rw [rounds_succ]
  go_wp2_with fail
  rw [rounds_succ]
  go_wp2_with fail
  refine (pack_any ⟨x % 16, x / 16 / 2 % 32, x / 16 / 2 / 32 % 16777216, x / 16 % 2⟩ _).mono ?_
  rintro e w2 ⟨rfl, f2⟩
  have hs1 := hfr.size
  have hs2 := g2.lt
  have k1 := f2.blk (b := w.heap.size) (c := #[.int .i64 0, .int .i64 0, .int .i64 0, .int .i64 0]) (t := 23) (by (unfold Blk; simp (disch := first | omega | (simp; done) | (simp; omega)) only [hp_drew, hp_drewN, hp_alloc, hp_other, hp_same, hp_new, upd_cells, Option.map_some, (g1).eq])) (by simp [Nil])
  have k2 := f2.blk (b := w1.heap.size) (c := #[.int .i64 (x % 16), .int .i64 (x / 16 / 2 % 32), .int .i64 (x / 16 / 2 / 32 % 16777216), .int .i64 (x / 16 % 2)]) (t := 23) (by (unfold Blk; simp (disch := first | omega | (simp; done) | (simp; omega)) only [hp_drew, hp_drewN, hp_alloc, hp_other, hp_same, hp_new, upd_cells, Option.map_some])) (by simp [Nil])
  have hfr2 : Fr Nil w w2 := Fr.trans (S := Nil) (w1 := (((((w1.setCell ⟨w.heap.size + 1, 0, none⟩ (.int .i64 (x % 16))).setCell ⟨w.heap.size + 1, 1, none⟩ (.int .i64 (x / 16 % 2))).setCell ⟨w.heap.size + 1, 2, none⟩ (.int .i64 (x / 16 / 2 % 32))).setCell ⟨w.heap.size + 1, 3, none⟩ (.int .i64 (x / 16 / 2 / 32 % 16777216))).alloc (.cells #[.int .i64 (x % 16), .int .i64 (x / 16 / 2 % 32), .int .i64 (x / 16 / 2 / 32 % 16777216), .int .i64 (x / 16 % 2)] 23))) (by (repeat (first | (with_reducible exact Fr.refl _ _) | (with_reducible assumption) | (with_reducible refine Fr.drew ?_) | (with_reducible refine Fr.drewN ?_ _) | (with_reducible refine Fr.alloc ?_ _) | (with_reducible refine Fr.set ?_ _ _ (by first | (intros; omega) | (simp; done) | (simp; omega)))))) f2 (fun _ _ q => q)
  have hcs := unp_cases x
  have hun : unp x = ⟨x % 16, x / 16 / 2 % 32, x / 16 / 2 / 32 % 16777216, x / 16 % 2⟩ := rfl
  rw [hun] at hcs
  generalize CellV.pack ⟨x % 16, x / 16 / 2 % 32, x / 16 / 2 / 32 % 16777216, x / 16 % 2⟩ = P at hcs ⊢
  generalize CellV.err ⟨x % 16, x / 16 / 2 % 32, x / 16 / 2 / 32 % 16777216, x / 16 % 2⟩ = E at hcs ⊢
  clear f2 i0 i1 i2 i3 hun hfr g1 g2 a0 a1 a2 a3 hk0 hk1 hk2 hk3 hz0 hz1 hz2 hz3
  have p0 := k1.cell 0
  have p1 := k1.cell 1
  have p2 := k1.cell 2
  have p3 := k1.cell 3
  have q0 := k2.cell 0
  have q1 := k2.cell 1
  have q2 := k2.cell 2
  have q3 := k2.cell 3
  have z0 := k1.free 0
  have z1 := k1.free 1
  have z2 := k1.free 2
  have z3 := k1.free 3
  simp at p0 p1 p2 p3 q0 q1 q2 q3
  rcases hcs with ⟨rfl, hpx, hok⟩ | ⟨rfl, hne, hok⟩ | ⟨rfl, hok⟩
  · obtain rfl := hpx.symm
    go_wp2
    refine bodyPost_ret (v := .tuple #[.agg #[.int .i64 (x % 16), .int .i64 (x / 16 / 2 % 32), .int .i64 (x / 16 / 2 / 32 % 16777216), .int .i64 (x / 16 % 2)], .int .i64 0]) (by simp [results, Try.results13, go_sem, p0, p1, p2, p3]) rfl ⟨?_, ?_⟩
    · rw [unpC, unpE, hok]; rfl
    · (repeat (first | (with_reducible exact Fr.refl _ _) | (with_reducible assumption) | (with_reducible refine Fr.drew ?_) | (with_reducible refine Fr.drewN ?_ _) | (with_reducible refine Fr.alloc ?_ _) | (with_reducible refine Fr.set ?_ _ _ (by first | (intros; omega) | (simp; done) | (simp; omega)))))
  · go_wp2
    refine bodyPost_ret (v := .tuple #[.agg #[.int .i64 0, .int .i64 0, .int .i64 0, .int .i64 0], .int .i64 3]) (by simp [results, Try.results13, go_sem, p0, p1, p2, p3]) rfl ⟨?_, ?_⟩
    · rw [unpC, unpE, hok]; rfl
    · (repeat (first | (with_reducible exact Fr.refl _ _) | (with_reducible assumption) | (with_reducible refine Fr.drew ?_) | (with_reducible refine Fr.drewN ?_ _) | (with_reducible refine Fr.alloc ?_ _) | (with_reducible refine Fr.set ?_ _ _ (by first | (intros; omega) | (simp; done) | (simp; omega)))))
  · go_wp2
    refine bodyPost_ret (v := .tuple #[.agg #[.int .i64 0, .int .i64 0, .int .i64 0, .int .i64 0], .int .i64 3]) (by simp [results, Try.results13, go_sem, p0, p1, p2, p3]) rfl ⟨?_, ?_⟩
    · rw [unpC, unpE, hok]; rfl
    · (repeat (first | (with_reducible exact Fr.refl _ _) | (with_reducible assumption) | (with_reducible refine Fr.drew ?_) | (with_reducible refine Fr.drewN ?_ _) | (with_reducible refine Fr.alloc ?_ _) | (with_reducible refine Fr.set ?_ _ _ (by first | (intros; omega) | (simp; done) | (simp; omega)))))
end Go.Proofs.Ytkdinblcbnlddaa
