/-
  Contracts of package num: Calc of ints, and its errors. No conditions.
-/
import Derived.Test.YtcadbidccmiflaaDoorNum
namespace Go.Proofs.YtcadbidccmiflaaDoor
set_option linter.unusedSimpArgs false
set_option linter.unusedVariables false
open Go.RowKit
theorem calc_add (x y : Int) (w : World) :
    Calls Tryd.prog 13 #[.int .i64 0, .agg #[.bool false, .int .u64 x], .agg #[.bool false, .int .u64 y]] w fun e w' => e = .returned (.tuple #[.agg #[.bool false, .int .u64 (IntKind.u64.wrap (wrap64 (wrap64 x + wrap64 y)))], .int .i64 0]) ∧ Fr Nil w w' := by
  go_enter Tryd.func13, Tryd.ntmps13
  go_wp2_with fail
  refine (kind2_any false false false x y _ 25 _ (by (unfold Blk; simp (disch := first | omega | (simp; done) | (simp; omega)) only [hp_drew, hp_drewN, hp_alloc, hp_other, hp_same, hp_new, upd_cells, Option.map_some]))).mono ?_
  rintro e w1 ⟨rfl, f1⟩
  obtain ⟨_, _, _⟩ := f1.at (w.heap.size) (by first | assumption | omega | (simp; done) | (simp; omega)); obtain ⟨_, _, _⟩ := f1.at (w.heap.size + 1) (by first | assumption | omega | (simp; done) | (simp; omega)); obtain ⟨_, _, _⟩ := f1.at (w.heap.size + 1 + 1) (by first | assumption | omega | (simp; done) | (simp; omega))
  go_wp2_with fail
  go_quiet (fail)
  go_wp2_with fail
  refine (int_any _ _).mono ?_
  rintro e w2 ⟨rfl, f2⟩
  obtain ⟨_, _, _⟩ := f2.at (w.heap.size) (by first | assumption | omega | (simp; done) | (simp; omega)); obtain ⟨_, _, _⟩ := f2.at (w.heap.size + 1) (by first | assumption | omega | (simp; done) | (simp; omega)); obtain ⟨_, _, _⟩ := f2.at (w.heap.size + 1 + 1) (by first | assumption | omega | (simp; done) | (simp; omega))
  go_wp2
  refine bodyPost_ret (v := .tuple #[.agg #[.bool false, .int .u64 (IntKind.u64.wrap (wrap64 (wrap64 x + wrap64 y)))], .int .i64 0]) (by simp [results, Tryd.results13, go_sem, *]) rfl ⟨rfl, ?_⟩
  (repeat (first | (with_reducible exact Fr.refl _ _) | (with_reducible assumption) | (with_reducible exact Fr.of_nil (by assumption)) | (with_reducible refine Fr.drew ?_) | (with_reducible refine Fr.drewN ?_ _) | (with_reducible refine Fr.alloc ?_ _) | (with_reducible refine Fr.set ?_ _ _ (by first | (intros; omega) | (simp; done) | (simp; omega))) | (with_reducible refine Fr.via ?_ (by assumption)) | (with_reducible refine Fr.comp ?_ (by assumption))))
theorem calc_sub (x y : Int) (w : World) :
    Calls Tryd.prog 13 #[.int .i64 1, .agg #[.bool false, .int .u64 x], .agg #[.bool false, .int .u64 y]] w fun e w' => e = .returned (.tuple #[.agg #[.bool false, .int .u64 (IntKind.u64.wrap (wrap64 (wrap64 x - wrap64 y)))], .int .i64 0]) ∧ Fr Nil w w' := by
  go_enter Tryd.func13, Tryd.ntmps13
  go_wp2_with fail
  refine (kind2_any false false false x y _ 25 _ (by (unfold Blk; simp (disch := first | omega | (simp; done) | (simp; omega)) only [hp_drew, hp_drewN, hp_alloc, hp_other, hp_same, hp_new, upd_cells, Option.map_some]))).mono ?_
  rintro e w1 ⟨rfl, f1⟩
  obtain ⟨_, _, _⟩ := f1.at (w.heap.size) (by first | assumption | omega | (simp; done) | (simp; omega)); obtain ⟨_, _, _⟩ := f1.at (w.heap.size + 1) (by first | assumption | omega | (simp; done) | (simp; omega)); obtain ⟨_, _, _⟩ := f1.at (w.heap.size + 1 + 1) (by first | assumption | omega | (simp; done) | (simp; omega))
  go_wp2_with fail
  go_quiet (fail)
  go_wp2_with fail
  refine (int_any _ _).mono ?_
  rintro e w2 ⟨rfl, f2⟩
  obtain ⟨_, _, _⟩ := f2.at (w.heap.size) (by first | assumption | omega | (simp; done) | (simp; omega)); obtain ⟨_, _, _⟩ := f2.at (w.heap.size + 1) (by first | assumption | omega | (simp; done) | (simp; omega)); obtain ⟨_, _, _⟩ := f2.at (w.heap.size + 1 + 1) (by first | assumption | omega | (simp; done) | (simp; omega))
  go_wp2
  refine bodyPost_ret (v := .tuple #[.agg #[.bool false, .int .u64 (IntKind.u64.wrap (wrap64 (wrap64 x - wrap64 y)))], .int .i64 0]) (by simp [results, Tryd.results13, go_sem, *]) rfl ⟨rfl, ?_⟩
  (repeat (first | (with_reducible exact Fr.refl _ _) | (with_reducible assumption) | (with_reducible exact Fr.of_nil (by assumption)) | (with_reducible refine Fr.drew ?_) | (with_reducible refine Fr.drewN ?_ _) | (with_reducible refine Fr.alloc ?_ _) | (with_reducible refine Fr.set ?_ _ _ (by first | (intros; omega) | (simp; done) | (simp; omega))) | (with_reducible refine Fr.via ?_ (by assumption)) | (with_reducible refine Fr.comp ?_ (by assumption))))
theorem calc_mul (x y : Int) (w : World) :
    Calls Tryd.prog 13 #[.int .i64 2, .agg #[.bool false, .int .u64 x], .agg #[.bool false, .int .u64 y]] w fun e w' => e = .returned (.tuple #[.agg #[.bool false, .int .u64 (IntKind.u64.wrap (wrap64 (wrap64 x * wrap64 y)))], .int .i64 0]) ∧ Fr Nil w w' := by
  go_enter Tryd.func13, Tryd.ntmps13
  go_wp2_with fail
  refine (kind2_any false false false x y _ 25 _ (by (unfold Blk; simp (disch := first | omega | (simp; done) | (simp; omega)) only [hp_drew, hp_drewN, hp_alloc, hp_other, hp_same, hp_new, upd_cells, Option.map_some]))).mono ?_
  rintro e w1 ⟨rfl, f1⟩
  obtain ⟨_, _, _⟩ := f1.at (w.heap.size) (by first | assumption | omega | (simp; done) | (simp; omega)); obtain ⟨_, _, _⟩ := f1.at (w.heap.size + 1) (by first | assumption | omega | (simp; done) | (simp; omega)); obtain ⟨_, _, _⟩ := f1.at (w.heap.size + 1 + 1) (by first | assumption | omega | (simp; done) | (simp; omega))
  go_wp2_with fail
  go_quiet (fail)
  go_wp2_with fail
  refine (int_any _ _).mono ?_
  rintro e w2 ⟨rfl, f2⟩
  obtain ⟨_, _, _⟩ := f2.at (w.heap.size) (by first | assumption | omega | (simp; done) | (simp; omega)); obtain ⟨_, _, _⟩ := f2.at (w.heap.size + 1) (by first | assumption | omega | (simp; done) | (simp; omega)); obtain ⟨_, _, _⟩ := f2.at (w.heap.size + 1 + 1) (by first | assumption | omega | (simp; done) | (simp; omega))
  go_wp2
  refine bodyPost_ret (v := .tuple #[.agg #[.bool false, .int .u64 (IntKind.u64.wrap (wrap64 (wrap64 x * wrap64 y)))], .int .i64 0]) (by simp [results, Tryd.results13, go_sem, *]) rfl ⟨rfl, ?_⟩
  (repeat (first | (with_reducible exact Fr.refl _ _) | (with_reducible assumption) | (with_reducible exact Fr.of_nil (by assumption)) | (with_reducible refine Fr.drew ?_) | (with_reducible refine Fr.drewN ?_ _) | (with_reducible refine Fr.alloc ?_ _) | (with_reducible refine Fr.set ?_ _ _ (by first | (intros; omega) | (simp; done) | (simp; omega))) | (with_reducible refine Fr.via ?_ (by assumption)) | (with_reducible refine Fr.comp ?_ (by assumption))))
theorem calc_div_zero (x y : Int) (w : World) (hy : wrap64 y = 0) :
    Calls Tryd.prog 13 #[.int .i64 3, .agg #[.bool false, .int .u64 x], .agg #[.bool false, .int .u64 y]] w fun e w' => e = .returned (.tuple #[.agg #[.bool false, .int .u64 0], .int .i64 7]) ∧ Fr Nil w w' := by
  go_enter Tryd.func13, Tryd.ntmps13
  go_wp2_with fail
  refine (kind2_any false false false x y _ 25 _ (by (unfold Blk; simp (disch := first | omega | (simp; done) | (simp; omega)) only [hp_drew, hp_drewN, hp_alloc, hp_other, hp_same, hp_new, upd_cells, Option.map_some]))).mono ?_
  rintro e w1 ⟨rfl, f1⟩
  obtain ⟨_, _, _⟩ := f1.at (w.heap.size) (by first | assumption | omega | (simp; done) | (simp; omega)); obtain ⟨_, _, _⟩ := f1.at (w.heap.size + 1) (by first | assumption | omega | (simp; done) | (simp; omega)); obtain ⟨_, _, _⟩ := f1.at (w.heap.size + 1 + 1) (by first | assumption | omega | (simp; done) | (simp; omega))
  go_wp2_with fail
  go_quiet (fail)
  go_wp2_with fail
  refine (whole_zero _ _ _).mono ?_
  rintro e w2 ⟨rfl, f2⟩
  obtain ⟨_, _, _⟩ := f2.at (w.heap.size) (by first | assumption | omega | (simp; done) | (simp; omega)); obtain ⟨_, _, _⟩ := f2.at (w.heap.size + 1) (by first | assumption | omega | (simp; done) | (simp; omega)); obtain ⟨_, _, _⟩ := f2.at (w.heap.size + 1 + 1) (by first | assumption | omega | (simp; done) | (simp; omega))
  go_wp2
  refine bodyPost_ret (v := .tuple #[.agg #[.bool false, .int .u64 0], .int .i64 7]) (by simp [results, Tryd.results13, go_sem, *]) rfl ⟨rfl, ?_⟩
  (repeat (first | (with_reducible exact Fr.refl _ _) | (with_reducible assumption) | (with_reducible exact Fr.of_nil (by assumption)) | (with_reducible refine Fr.drew ?_) | (with_reducible refine Fr.drewN ?_ _) | (with_reducible refine Fr.alloc ?_ _) | (with_reducible refine Fr.set ?_ _ _ (by first | (intros; omega) | (simp; done) | (simp; omega))) | (with_reducible refine Fr.via ?_ (by assumption)) | (with_reducible refine Fr.comp ?_ (by assumption))))
theorem calc_div_over (x y : Int) (w : World) (hx : wrap64 x = -9223372036854775808) (hy : wrap64 y = -1) :
    Calls Tryd.prog 13 #[.int .i64 3, .agg #[.bool false, .int .u64 x], .agg #[.bool false, .int .u64 y]] w fun e w' => e = .returned (.tuple #[.agg #[.bool false, .int .u64 0], .int .i64 8]) ∧ Fr Nil w w' := by
  go_enter Tryd.func13, Tryd.ntmps13
  go_wp2_with fail
  refine (kind2_any false false false x y _ 25 _ (by (unfold Blk; simp (disch := first | omega | (simp; done) | (simp; omega)) only [hp_drew, hp_drewN, hp_alloc, hp_other, hp_same, hp_new, upd_cells, Option.map_some]))).mono ?_
  rintro e w1 ⟨rfl, f1⟩
  obtain ⟨_, _, _⟩ := f1.at (w.heap.size) (by first | assumption | omega | (simp; done) | (simp; omega)); obtain ⟨_, _, _⟩ := f1.at (w.heap.size + 1) (by first | assumption | omega | (simp; done) | (simp; omega)); obtain ⟨_, _, _⟩ := f1.at (w.heap.size + 1 + 1) (by first | assumption | omega | (simp; done) | (simp; omega))
  go_wp2_with fail
  go_quiet (fail)
  go_wp2_with fail
  refine (whole_over _ _).mono ?_
  rintro e w2 ⟨rfl, f2⟩
  obtain ⟨_, _, _⟩ := f2.at (w.heap.size) (by first | assumption | omega | (simp; done) | (simp; omega)); obtain ⟨_, _, _⟩ := f2.at (w.heap.size + 1) (by first | assumption | omega | (simp; done) | (simp; omega)); obtain ⟨_, _, _⟩ := f2.at (w.heap.size + 1 + 1) (by first | assumption | omega | (simp; done) | (simp; omega))
  go_wp2
  refine bodyPost_ret (v := .tuple #[.agg #[.bool false, .int .u64 0], .int .i64 8]) (by simp [results, Tryd.results13, go_sem, *]) rfl ⟨rfl, ?_⟩
  (repeat (first | (with_reducible exact Fr.refl _ _) | (with_reducible assumption) | (with_reducible exact Fr.of_nil (by assumption)) | (with_reducible refine Fr.drew ?_) | (with_reducible refine Fr.drewN ?_ _) | (with_reducible refine Fr.alloc ?_ _) | (with_reducible refine Fr.set ?_ _ _ (by first | (intros; omega) | (simp; done) | (simp; omega))) | (with_reducible refine Fr.via ?_ (by assumption)) | (with_reducible refine Fr.comp ?_ (by assumption))))
theorem calc_div_in (x y : Int) (w : World) (hy : wrap64 y ≠ 0) (ho : wrap64 x ≠ -9223372036854775808 ∨ wrap64 y ≠ -1) :
    Calls Tryd.prog 13 #[.int .i64 3, .agg #[.bool false, .int .u64 x], .agg #[.bool false, .int .u64 y]] w fun e w' => e = .returned (.tuple #[.agg #[.bool false, .int .u64 (IntKind.u64.wrap (wrap64 ((wrap64 x).tdiv (wrap64 y))))], .int .i64 0]) ∧ Fr Nil w w' := by
  go_enter Tryd.func13, Tryd.ntmps13
  go_wp2_with fail
  refine (kind2_any false false false x y _ 25 _ (by (unfold Blk; simp (disch := first | omega | (simp; done) | (simp; omega)) only [hp_drew, hp_drewN, hp_alloc, hp_other, hp_same, hp_new, upd_cells, Option.map_some]))).mono ?_
  rintro e w1 ⟨rfl, f1⟩
  obtain ⟨_, _, _⟩ := f1.at (w.heap.size) (by first | assumption | omega | (simp; done) | (simp; omega)); obtain ⟨_, _, _⟩ := f1.at (w.heap.size + 1) (by first | assumption | omega | (simp; done) | (simp; omega)); obtain ⟨_, _, _⟩ := f1.at (w.heap.size + 1 + 1) (by first | assumption | omega | (simp; done) | (simp; omega))
  go_wp2_with fail
  go_quiet (fail)
  go_wp2_with fail
  refine (whole_quo _ _ _ hy ho).mono ?_
  rintro e w2 ⟨rfl, f2⟩
  obtain ⟨_, _, _⟩ := f2.at (w.heap.size) (by first | assumption | omega | (simp; done) | (simp; omega)); obtain ⟨_, _, _⟩ := f2.at (w.heap.size + 1) (by first | assumption | omega | (simp; done) | (simp; omega)); obtain ⟨_, _, _⟩ := f2.at (w.heap.size + 1 + 1) (by first | assumption | omega | (simp; done) | (simp; omega))
  go_wp2
  refine bodyPost_ret (v := .tuple #[.agg #[.bool false, .int .u64 (IntKind.u64.wrap (wrap64 ((wrap64 x).tdiv (wrap64 y))))], .int .i64 0]) (by simp [results, Tryd.results13, go_sem, *]) rfl ⟨rfl, ?_⟩
  (repeat (first | (with_reducible exact Fr.refl _ _) | (with_reducible assumption) | (with_reducible exact Fr.of_nil (by assumption)) | (with_reducible refine Fr.drew ?_) | (with_reducible refine Fr.drewN ?_ _) | (with_reducible refine Fr.alloc ?_ _) | (with_reducible refine Fr.set ?_ _ _ (by first | (intros; omega) | (simp; done) | (simp; omega))) | (with_reducible refine Fr.via ?_ (by assumption)) | (with_reducible refine Fr.comp ?_ (by assumption))))
theorem calc_rem_zero (x y : Int) (w : World) (hy : wrap64 y = 0) :
    Calls Tryd.prog 13 #[.int .i64 4, .agg #[.bool false, .int .u64 x], .agg #[.bool false, .int .u64 y]] w fun e w' => e = .returned (.tuple #[.agg #[.bool false, .int .u64 0], .int .i64 7]) ∧ Fr Nil w w' := by
  go_enter Tryd.func13, Tryd.ntmps13
  go_wp2_with fail
  refine (kind2_any false false false x y _ 25 _ (by (unfold Blk; simp (disch := first | omega | (simp; done) | (simp; omega)) only [hp_drew, hp_drewN, hp_alloc, hp_other, hp_same, hp_new, upd_cells, Option.map_some]))).mono ?_
  rintro e w1 ⟨rfl, f1⟩
  obtain ⟨_, _, _⟩ := f1.at (w.heap.size) (by first | assumption | omega | (simp; done) | (simp; omega)); obtain ⟨_, _, _⟩ := f1.at (w.heap.size + 1) (by first | assumption | omega | (simp; done) | (simp; omega)); obtain ⟨_, _, _⟩ := f1.at (w.heap.size + 1 + 1) (by first | assumption | omega | (simp; done) | (simp; omega))
  go_wp2_with fail
  go_quiet (fail)
  go_wp2_with fail
  refine (whole_zero _ _ _).mono ?_
  rintro e w2 ⟨rfl, f2⟩
  obtain ⟨_, _, _⟩ := f2.at (w.heap.size) (by first | assumption | omega | (simp; done) | (simp; omega)); obtain ⟨_, _, _⟩ := f2.at (w.heap.size + 1) (by first | assumption | omega | (simp; done) | (simp; omega)); obtain ⟨_, _, _⟩ := f2.at (w.heap.size + 1 + 1) (by first | assumption | omega | (simp; done) | (simp; omega))
  go_wp2
  refine bodyPost_ret (v := .tuple #[.agg #[.bool false, .int .u64 0], .int .i64 7]) (by simp [results, Tryd.results13, go_sem, *]) rfl ⟨rfl, ?_⟩
  (repeat (first | (with_reducible exact Fr.refl _ _) | (with_reducible assumption) | (with_reducible exact Fr.of_nil (by assumption)) | (with_reducible refine Fr.drew ?_) | (with_reducible refine Fr.drewN ?_ _) | (with_reducible refine Fr.alloc ?_ _) | (with_reducible refine Fr.set ?_ _ _ (by first | (intros; omega) | (simp; done) | (simp; omega))) | (with_reducible refine Fr.via ?_ (by assumption)) | (with_reducible refine Fr.comp ?_ (by assumption))))
theorem calc_rem_over (x y : Int) (w : World) (hx : wrap64 x = -9223372036854775808) (hy : wrap64 y = -1) :
    Calls Tryd.prog 13 #[.int .i64 4, .agg #[.bool false, .int .u64 x], .agg #[.bool false, .int .u64 y]] w fun e w' => e = .returned (.tuple #[.agg #[.bool false, .int .u64 0], .int .i64 8]) ∧ Fr Nil w w' := by
  go_enter Tryd.func13, Tryd.ntmps13
  go_wp2_with fail
  refine (kind2_any false false false x y _ 25 _ (by (unfold Blk; simp (disch := first | omega | (simp; done) | (simp; omega)) only [hp_drew, hp_drewN, hp_alloc, hp_other, hp_same, hp_new, upd_cells, Option.map_some]))).mono ?_
  rintro e w1 ⟨rfl, f1⟩
  obtain ⟨_, _, _⟩ := f1.at (w.heap.size) (by first | assumption | omega | (simp; done) | (simp; omega)); obtain ⟨_, _, _⟩ := f1.at (w.heap.size + 1) (by first | assumption | omega | (simp; done) | (simp; omega)); obtain ⟨_, _, _⟩ := f1.at (w.heap.size + 1 + 1) (by first | assumption | omega | (simp; done) | (simp; omega))
  go_wp2_with fail
  go_quiet (fail)
  go_wp2_with fail
  refine (whole_over _ _).mono ?_
  rintro e w2 ⟨rfl, f2⟩
  obtain ⟨_, _, _⟩ := f2.at (w.heap.size) (by first | assumption | omega | (simp; done) | (simp; omega)); obtain ⟨_, _, _⟩ := f2.at (w.heap.size + 1) (by first | assumption | omega | (simp; done) | (simp; omega)); obtain ⟨_, _, _⟩ := f2.at (w.heap.size + 1 + 1) (by first | assumption | omega | (simp; done) | (simp; omega))
  go_wp2
  refine bodyPost_ret (v := .tuple #[.agg #[.bool false, .int .u64 0], .int .i64 8]) (by simp [results, Tryd.results13, go_sem, *]) rfl ⟨rfl, ?_⟩
  (repeat (first | (with_reducible exact Fr.refl _ _) | (with_reducible assumption) | (with_reducible exact Fr.of_nil (by assumption)) | (with_reducible refine Fr.drew ?_) | (with_reducible refine Fr.drewN ?_ _) | (with_reducible refine Fr.alloc ?_ _) | (with_reducible refine Fr.set ?_ _ _ (by first | (intros; omega) | (simp; done) | (simp; omega))) | (with_reducible refine Fr.via ?_ (by assumption)) | (with_reducible refine Fr.comp ?_ (by assumption))))
theorem calc_rem_in (x y : Int) (w : World) (hy : wrap64 y ≠ 0) (ho : wrap64 x ≠ -9223372036854775808 ∨ wrap64 y ≠ -1) :
    Calls Tryd.prog 13 #[.int .i64 4, .agg #[.bool false, .int .u64 x], .agg #[.bool false, .int .u64 y]] w fun e w' => e = .returned (.tuple #[.agg #[.bool false, .int .u64 (IntKind.u64.wrap ((wrap64 x).tmod (wrap64 y)))], .int .i64 0]) ∧ Fr Nil w w' := by
  go_enter Tryd.func13, Tryd.ntmps13
  go_wp2_with fail
  refine (kind2_any false false false x y _ 25 _ (by (unfold Blk; simp (disch := first | omega | (simp; done) | (simp; omega)) only [hp_drew, hp_drewN, hp_alloc, hp_other, hp_same, hp_new, upd_cells, Option.map_some]))).mono ?_
  rintro e w1 ⟨rfl, f1⟩
  obtain ⟨_, _, _⟩ := f1.at (w.heap.size) (by first | assumption | omega | (simp; done) | (simp; omega)); obtain ⟨_, _, _⟩ := f1.at (w.heap.size + 1) (by first | assumption | omega | (simp; done) | (simp; omega)); obtain ⟨_, _, _⟩ := f1.at (w.heap.size + 1 + 1) (by first | assumption | omega | (simp; done) | (simp; omega))
  go_wp2_with fail
  go_quiet (fail)
  go_wp2_with fail
  refine (whole_rem _ _ _ hy ho).mono ?_
  rintro e w2 ⟨rfl, f2⟩
  obtain ⟨_, _, _⟩ := f2.at (w.heap.size) (by first | assumption | omega | (simp; done) | (simp; omega)); obtain ⟨_, _, _⟩ := f2.at (w.heap.size + 1) (by first | assumption | omega | (simp; done) | (simp; omega)); obtain ⟨_, _, _⟩ := f2.at (w.heap.size + 1 + 1) (by first | assumption | omega | (simp; done) | (simp; omega))
  go_wp2
  refine bodyPost_ret (v := .tuple #[.agg #[.bool false, .int .u64 (IntKind.u64.wrap ((wrap64 x).tmod (wrap64 y)))], .int .i64 0]) (by simp [results, Tryd.results13, go_sem, *]) rfl ⟨rfl, ?_⟩
  (repeat (first | (with_reducible exact Fr.refl _ _) | (with_reducible assumption) | (with_reducible exact Fr.of_nil (by assumption)) | (with_reducible refine Fr.drew ?_) | (with_reducible refine Fr.drewN ?_ _) | (with_reducible refine Fr.alloc ?_ _) | (with_reducible refine Fr.set ?_ _ _ (by first | (intros; omega) | (simp; done) | (simp; omega))) | (with_reducible refine Fr.via ?_ (by assumption)) | (with_reducible refine Fr.comp ?_ (by assumption))))
theorem calc_kind0 (f g : Bool) (x y : Int) (w : World) (hk : (f == false && g == false) = false) :
    Calls Tryd.prog 13 #[.int .i64 0, .agg #[.bool f, .int .u64 x], .agg #[.bool g, .int .u64 y]] w fun e w' => e = .returned (.tuple #[.agg #[.bool false, .int .u64 0], .int .i64 6]) ∧ Fr Nil w w' := by
  go_enter Tryd.func13, Tryd.ntmps13
  go_wp2_with fail
  refine (kind2_any false f g x y _ 25 _ (by (unfold Blk; simp (disch := first | omega | (simp; done) | (simp; omega)) only [hp_drew, hp_drewN, hp_alloc, hp_other, hp_same, hp_new, upd_cells, Option.map_some]))).mono ?_
  rintro e w1 ⟨rfl, f1⟩
  obtain ⟨_, _, _⟩ := f1.at (w.heap.size) (by first | assumption | omega | (simp; done) | (simp; omega)); obtain ⟨_, _, _⟩ := f1.at (w.heap.size + 1) (by first | assumption | omega | (simp; done) | (simp; omega)); obtain ⟨_, _, _⟩ := f1.at (w.heap.size + 1 + 1) (by first | assumption | omega | (simp; done) | (simp; omega))
  rw [hk]
  go_wp2
  refine bodyPost_ret (v := .tuple #[.agg #[.bool false, .int .u64 0], .int .i64 6]) (by simp [results, Tryd.results13, go_sem, *]) rfl ⟨rfl, ?_⟩
  (repeat (first | (with_reducible exact Fr.refl _ _) | (with_reducible assumption) | (with_reducible exact Fr.of_nil (by assumption)) | (with_reducible refine Fr.drew ?_) | (with_reducible refine Fr.drewN ?_ _) | (with_reducible refine Fr.alloc ?_ _) | (with_reducible refine Fr.set ?_ _ _ (by first | (intros; omega) | (simp; done) | (simp; omega))) | (with_reducible refine Fr.via ?_ (by assumption)) | (with_reducible refine Fr.comp ?_ (by assumption))))
theorem calc_kind1 (f g : Bool) (x y : Int) (w : World) (hk : (f == false && g == false) = false) :
    Calls Tryd.prog 13 #[.int .i64 1, .agg #[.bool f, .int .u64 x], .agg #[.bool g, .int .u64 y]] w fun e w' => e = .returned (.tuple #[.agg #[.bool false, .int .u64 0], .int .i64 6]) ∧ Fr Nil w w' := by
  go_enter Tryd.func13, Tryd.ntmps13
  go_wp2_with fail
  refine (kind2_any false f g x y _ 25 _ (by (unfold Blk; simp (disch := first | omega | (simp; done) | (simp; omega)) only [hp_drew, hp_drewN, hp_alloc, hp_other, hp_same, hp_new, upd_cells, Option.map_some]))).mono ?_
  rintro e w1 ⟨rfl, f1⟩
  obtain ⟨_, _, _⟩ := f1.at (w.heap.size) (by first | assumption | omega | (simp; done) | (simp; omega)); obtain ⟨_, _, _⟩ := f1.at (w.heap.size + 1) (by first | assumption | omega | (simp; done) | (simp; omega)); obtain ⟨_, _, _⟩ := f1.at (w.heap.size + 1 + 1) (by first | assumption | omega | (simp; done) | (simp; omega))
  rw [hk]
  go_wp2
  refine bodyPost_ret (v := .tuple #[.agg #[.bool false, .int .u64 0], .int .i64 6]) (by simp [results, Tryd.results13, go_sem, *]) rfl ⟨rfl, ?_⟩
  (repeat (first | (with_reducible exact Fr.refl _ _) | (with_reducible assumption) | (with_reducible exact Fr.of_nil (by assumption)) | (with_reducible refine Fr.drew ?_) | (with_reducible refine Fr.drewN ?_ _) | (with_reducible refine Fr.alloc ?_ _) | (with_reducible refine Fr.set ?_ _ _ (by first | (intros; omega) | (simp; done) | (simp; omega))) | (with_reducible refine Fr.via ?_ (by assumption)) | (with_reducible refine Fr.comp ?_ (by assumption))))
theorem calc_kind2 (f g : Bool) (x y : Int) (w : World) (hk : (f == false && g == false) = false) :
    Calls Tryd.prog 13 #[.int .i64 2, .agg #[.bool f, .int .u64 x], .agg #[.bool g, .int .u64 y]] w fun e w' => e = .returned (.tuple #[.agg #[.bool false, .int .u64 0], .int .i64 6]) ∧ Fr Nil w w' := by
  go_enter Tryd.func13, Tryd.ntmps13
  go_wp2_with fail
  refine (kind2_any false f g x y _ 25 _ (by (unfold Blk; simp (disch := first | omega | (simp; done) | (simp; omega)) only [hp_drew, hp_drewN, hp_alloc, hp_other, hp_same, hp_new, upd_cells, Option.map_some]))).mono ?_
  rintro e w1 ⟨rfl, f1⟩
  obtain ⟨_, _, _⟩ := f1.at (w.heap.size) (by first | assumption | omega | (simp; done) | (simp; omega)); obtain ⟨_, _, _⟩ := f1.at (w.heap.size + 1) (by first | assumption | omega | (simp; done) | (simp; omega)); obtain ⟨_, _, _⟩ := f1.at (w.heap.size + 1 + 1) (by first | assumption | omega | (simp; done) | (simp; omega))
  rw [hk]
  go_wp2
  refine bodyPost_ret (v := .tuple #[.agg #[.bool false, .int .u64 0], .int .i64 6]) (by simp [results, Tryd.results13, go_sem, *]) rfl ⟨rfl, ?_⟩
  (repeat (first | (with_reducible exact Fr.refl _ _) | (with_reducible assumption) | (with_reducible exact Fr.of_nil (by assumption)) | (with_reducible refine Fr.drew ?_) | (with_reducible refine Fr.drewN ?_ _) | (with_reducible refine Fr.alloc ?_ _) | (with_reducible refine Fr.set ?_ _ _ (by first | (intros; omega) | (simp; done) | (simp; omega))) | (with_reducible refine Fr.via ?_ (by assumption)) | (with_reducible refine Fr.comp ?_ (by assumption))))
theorem calc_kind3 (f g : Bool) (x y : Int) (w : World) (hk : (f == false && g == false) = false) :
    Calls Tryd.prog 13 #[.int .i64 3, .agg #[.bool f, .int .u64 x], .agg #[.bool g, .int .u64 y]] w fun e w' => e = .returned (.tuple #[.agg #[.bool false, .int .u64 0], .int .i64 6]) ∧ Fr Nil w w' := by
  go_enter Tryd.func13, Tryd.ntmps13
  go_wp2_with fail
  refine (kind2_any false f g x y _ 25 _ (by (unfold Blk; simp (disch := first | omega | (simp; done) | (simp; omega)) only [hp_drew, hp_drewN, hp_alloc, hp_other, hp_same, hp_new, upd_cells, Option.map_some]))).mono ?_
  rintro e w1 ⟨rfl, f1⟩
  obtain ⟨_, _, _⟩ := f1.at (w.heap.size) (by first | assumption | omega | (simp; done) | (simp; omega)); obtain ⟨_, _, _⟩ := f1.at (w.heap.size + 1) (by first | assumption | omega | (simp; done) | (simp; omega)); obtain ⟨_, _, _⟩ := f1.at (w.heap.size + 1 + 1) (by first | assumption | omega | (simp; done) | (simp; omega))
  rw [hk]
  go_wp2
  refine bodyPost_ret (v := .tuple #[.agg #[.bool false, .int .u64 0], .int .i64 6]) (by simp [results, Tryd.results13, go_sem, *]) rfl ⟨rfl, ?_⟩
  (repeat (first | (with_reducible exact Fr.refl _ _) | (with_reducible assumption) | (with_reducible exact Fr.of_nil (by assumption)) | (with_reducible refine Fr.drew ?_) | (with_reducible refine Fr.drewN ?_ _) | (with_reducible refine Fr.alloc ?_ _) | (with_reducible refine Fr.set ?_ _ _ (by first | (intros; omega) | (simp; done) | (simp; omega))) | (with_reducible refine Fr.via ?_ (by assumption)) | (with_reducible refine Fr.comp ?_ (by assumption))))
theorem calc_kind4 (f g : Bool) (x y : Int) (w : World) (hk : (f == false && g == false) = false) :
    Calls Tryd.prog 13 #[.int .i64 4, .agg #[.bool f, .int .u64 x], .agg #[.bool g, .int .u64 y]] w fun e w' => e = .returned (.tuple #[.agg #[.bool false, .int .u64 0], .int .i64 6]) ∧ Fr Nil w w' := by
  go_enter Tryd.func13, Tryd.ntmps13
  go_wp2_with fail
  refine (kind2_any false f g x y _ 25 _ (by (unfold Blk; simp (disch := first | omega | (simp; done) | (simp; omega)) only [hp_drew, hp_drewN, hp_alloc, hp_other, hp_same, hp_new, upd_cells, Option.map_some]))).mono ?_
  rintro e w1 ⟨rfl, f1⟩
  obtain ⟨_, _, _⟩ := f1.at (w.heap.size) (by first | assumption | omega | (simp; done) | (simp; omega)); obtain ⟨_, _, _⟩ := f1.at (w.heap.size + 1) (by first | assumption | omega | (simp; done) | (simp; omega)); obtain ⟨_, _, _⟩ := f1.at (w.heap.size + 1 + 1) (by first | assumption | omega | (simp; done) | (simp; omega))
  rw [hk]
  go_wp2
  refine bodyPost_ret (v := .tuple #[.agg #[.bool false, .int .u64 0], .int .i64 6]) (by simp [results, Tryd.results13, go_sem, *]) rfl ⟨rfl, ?_⟩
  (repeat (first | (with_reducible exact Fr.refl _ _) | (with_reducible assumption) | (with_reducible exact Fr.of_nil (by assumption)) | (with_reducible refine Fr.drew ?_) | (with_reducible refine Fr.drewN ?_ _) | (with_reducible refine Fr.alloc ?_ _) | (with_reducible refine Fr.set ?_ _ _ (by first | (intros; omega) | (simp; done) | (simp; omega))) | (with_reducible refine Fr.via ?_ (by assumption)) | (with_reducible refine Fr.comp ?_ (by assumption))))
theorem calc_kind7 (f g : Bool) (x y : Int) (w : World) (hk : (f == true && g == true) = false) :
    Calls Tryd.prog 13 #[.int .i64 7, .agg #[.bool f, .int .u64 x], .agg #[.bool g, .int .u64 y]] w fun e w' => e = .returned (.tuple #[.agg #[.bool false, .int .u64 0], .int .i64 6]) ∧ Fr Nil w w' := by
  go_enter Tryd.func13, Tryd.ntmps13
  go_wp2_with fail
  refine (kind2_any true f g x y _ 25 _ (by (unfold Blk; simp (disch := first | omega | (simp; done) | (simp; omega)) only [hp_drew, hp_drewN, hp_alloc, hp_other, hp_same, hp_new, upd_cells, Option.map_some]))).mono ?_
  rintro e w1 ⟨rfl, f1⟩
  obtain ⟨_, _, _⟩ := f1.at (w.heap.size) (by first | assumption | omega | (simp; done) | (simp; omega)); obtain ⟨_, _, _⟩ := f1.at (w.heap.size + 1) (by first | assumption | omega | (simp; done) | (simp; omega)); obtain ⟨_, _, _⟩ := f1.at (w.heap.size + 1 + 1) (by first | assumption | omega | (simp; done) | (simp; omega))
  rw [hk]
  go_wp2
  refine bodyPost_ret (v := .tuple #[.agg #[.bool false, .int .u64 0], .int .i64 6]) (by simp [results, Tryd.results13, go_sem, *]) rfl ⟨rfl, ?_⟩
  (repeat (first | (with_reducible exact Fr.refl _ _) | (with_reducible assumption) | (with_reducible exact Fr.of_nil (by assumption)) | (with_reducible refine Fr.drew ?_) | (with_reducible refine Fr.drewN ?_ _) | (with_reducible refine Fr.alloc ?_ _) | (with_reducible refine Fr.set ?_ _ _ (by first | (intros; omega) | (simp; done) | (simp; omega))) | (with_reducible refine Fr.via ?_ (by assumption)) | (with_reducible refine Fr.comp ?_ (by assumption))))
theorem calc_kind8 (f g : Bool) (x y : Int) (w : World) (hk : (f == true && g == true) = false) :
    Calls Tryd.prog 13 #[.int .i64 8, .agg #[.bool f, .int .u64 x], .agg #[.bool g, .int .u64 y]] w fun e w' => e = .returned (.tuple #[.agg #[.bool false, .int .u64 0], .int .i64 6]) ∧ Fr Nil w w' := by
  go_enter Tryd.func13, Tryd.ntmps13
  go_wp2_with fail
  refine (kind2_any true f g x y _ 25 _ (by (unfold Blk; simp (disch := first | omega | (simp; done) | (simp; omega)) only [hp_drew, hp_drewN, hp_alloc, hp_other, hp_same, hp_new, upd_cells, Option.map_some]))).mono ?_
  rintro e w1 ⟨rfl, f1⟩
  obtain ⟨_, _, _⟩ := f1.at (w.heap.size) (by first | assumption | omega | (simp; done) | (simp; omega)); obtain ⟨_, _, _⟩ := f1.at (w.heap.size + 1) (by first | assumption | omega | (simp; done) | (simp; omega)); obtain ⟨_, _, _⟩ := f1.at (w.heap.size + 1 + 1) (by first | assumption | omega | (simp; done) | (simp; omega))
  rw [hk]
  go_wp2
  refine bodyPost_ret (v := .tuple #[.agg #[.bool false, .int .u64 0], .int .i64 6]) (by simp [results, Tryd.results13, go_sem, *]) rfl ⟨rfl, ?_⟩
  (repeat (first | (with_reducible exact Fr.refl _ _) | (with_reducible assumption) | (with_reducible exact Fr.of_nil (by assumption)) | (with_reducible refine Fr.drew ?_) | (with_reducible refine Fr.drewN ?_ _) | (with_reducible refine Fr.alloc ?_ _) | (with_reducible refine Fr.set ?_ _ _ (by first | (intros; omega) | (simp; done) | (simp; omega))) | (with_reducible refine Fr.via ?_ (by assumption)) | (with_reducible refine Fr.comp ?_ (by assumption))))
theorem calc_kind9 (f g : Bool) (x y : Int) (w : World) (hk : (f == true && g == true) = false) :
    Calls Tryd.prog 13 #[.int .i64 9, .agg #[.bool f, .int .u64 x], .agg #[.bool g, .int .u64 y]] w fun e w' => e = .returned (.tuple #[.agg #[.bool false, .int .u64 0], .int .i64 6]) ∧ Fr Nil w w' := by
  go_enter Tryd.func13, Tryd.ntmps13
  go_wp2_with fail
  refine (kind2_any true f g x y _ 25 _ (by (unfold Blk; simp (disch := first | omega | (simp; done) | (simp; omega)) only [hp_drew, hp_drewN, hp_alloc, hp_other, hp_same, hp_new, upd_cells, Option.map_some]))).mono ?_
  rintro e w1 ⟨rfl, f1⟩
  obtain ⟨_, _, _⟩ := f1.at (w.heap.size) (by first | assumption | omega | (simp; done) | (simp; omega)); obtain ⟨_, _, _⟩ := f1.at (w.heap.size + 1) (by first | assumption | omega | (simp; done) | (simp; omega)); obtain ⟨_, _, _⟩ := f1.at (w.heap.size + 1 + 1) (by first | assumption | omega | (simp; done) | (simp; omega))
  rw [hk]
  go_wp2
  refine bodyPost_ret (v := .tuple #[.agg #[.bool false, .int .u64 0], .int .i64 6]) (by simp [results, Tryd.results13, go_sem, *]) rfl ⟨rfl, ?_⟩
  (repeat (first | (with_reducible exact Fr.refl _ _) | (with_reducible assumption) | (with_reducible exact Fr.of_nil (by assumption)) | (with_reducible refine Fr.drew ?_) | (with_reducible refine Fr.drewN ?_ _) | (with_reducible refine Fr.alloc ?_ _) | (with_reducible refine Fr.set ?_ _ _ (by first | (intros; omega) | (simp; done) | (simp; omega))) | (with_reducible refine Fr.via ?_ (by assumption)) | (with_reducible refine Fr.comp ?_ (by assumption))))
theorem calc_kind10 (f g : Bool) (x y : Int) (w : World) (hk : (f == true && g == true) = false) :
    Calls Tryd.prog 13 #[.int .i64 10, .agg #[.bool f, .int .u64 x], .agg #[.bool g, .int .u64 y]] w fun e w' => e = .returned (.tuple #[.agg #[.bool false, .int .u64 0], .int .i64 6]) ∧ Fr Nil w w' := by
  go_enter Tryd.func13, Tryd.ntmps13
  go_wp2_with fail
  refine (kind2_any true f g x y _ 25 _ (by (unfold Blk; simp (disch := first | omega | (simp; done) | (simp; omega)) only [hp_drew, hp_drewN, hp_alloc, hp_other, hp_same, hp_new, upd_cells, Option.map_some]))).mono ?_
  rintro e w1 ⟨rfl, f1⟩
  obtain ⟨_, _, _⟩ := f1.at (w.heap.size) (by first | assumption | omega | (simp; done) | (simp; omega)); obtain ⟨_, _, _⟩ := f1.at (w.heap.size + 1) (by first | assumption | omega | (simp; done) | (simp; omega)); obtain ⟨_, _, _⟩ := f1.at (w.heap.size + 1 + 1) (by first | assumption | omega | (simp; done) | (simp; omega))
  rw [hk]
  go_wp2
  refine bodyPost_ret (v := .tuple #[.agg #[.bool false, .int .u64 0], .int .i64 6]) (by simp [results, Tryd.results13, go_sem, *]) rfl ⟨rfl, ?_⟩
  (repeat (first | (with_reducible exact Fr.refl _ _) | (with_reducible assumption) | (with_reducible exact Fr.of_nil (by assumption)) | (with_reducible refine Fr.drew ?_) | (with_reducible refine Fr.drewN ?_ _) | (with_reducible refine Fr.alloc ?_ _) | (with_reducible refine Fr.set ?_ _ _ (by first | (intros; omega) | (simp; done) | (simp; omega))) | (with_reducible refine Fr.via ?_ (by assumption)) | (with_reducible refine Fr.comp ?_ (by assumption))))
theorem calc_kind13 (f g : Bool) (x y : Int) (w : World) (hk : (f == false) = false) :
    Calls Tryd.prog 13 #[.int .i64 13, .agg #[.bool f, .int .u64 x], .agg #[.bool g, .int .u64 y]] w fun e w' => e = .returned (.tuple #[.agg #[.bool false, .int .u64 0], .int .i64 6]) ∧ Fr Nil w w' := by
  go_enter Tryd.func13, Tryd.ntmps13
  go_wp2_with fail
  refine (kind1_any false f x _ 25 _ (by (unfold Blk; simp (disch := first | omega | (simp; done) | (simp; omega)) only [hp_drew, hp_drewN, hp_alloc, hp_other, hp_same, hp_new, upd_cells, Option.map_some]))).mono ?_
  rintro e w1 ⟨rfl, f1⟩
  obtain ⟨_, _, _⟩ := f1.at (w.heap.size) (by first | assumption | omega | (simp; done) | (simp; omega)); obtain ⟨_, _, _⟩ := f1.at (w.heap.size + 1) (by first | assumption | omega | (simp; done) | (simp; omega)); obtain ⟨_, _, _⟩ := f1.at (w.heap.size + 1 + 1) (by first | assumption | omega | (simp; done) | (simp; omega))
  rw [hk]
  go_wp2
  refine bodyPost_ret (v := .tuple #[.agg #[.bool false, .int .u64 0], .int .i64 6]) (by simp [results, Tryd.results13, go_sem, *]) rfl ⟨rfl, ?_⟩
  (repeat (first | (with_reducible exact Fr.refl _ _) | (with_reducible assumption) | (with_reducible exact Fr.of_nil (by assumption)) | (with_reducible refine Fr.drew ?_) | (with_reducible refine Fr.drewN ?_ _) | (with_reducible refine Fr.alloc ?_ _) | (with_reducible refine Fr.set ?_ _ _ (by first | (intros; omega) | (simp; done) | (simp; omega))) | (with_reducible refine Fr.via ?_ (by assumption)) | (with_reducible refine Fr.comp ?_ (by assumption))))
theorem calc_kind14 (f g : Bool) (x y : Int) (w : World) (hk : (f == true) = false) :
    Calls Tryd.prog 13 #[.int .i64 14, .agg #[.bool f, .int .u64 x], .agg #[.bool g, .int .u64 y]] w fun e w' => e = .returned (.tuple #[.agg #[.bool false, .int .u64 0], .int .i64 6]) ∧ Fr Nil w w' := by
  go_enter Tryd.func13, Tryd.ntmps13
  go_wp2_with fail
  refine (kind1_any true f x _ 25 _ (by (unfold Blk; simp (disch := first | omega | (simp; done) | (simp; omega)) only [hp_drew, hp_drewN, hp_alloc, hp_other, hp_same, hp_new, upd_cells, Option.map_some]))).mono ?_
  rintro e w1 ⟨rfl, f1⟩
  obtain ⟨_, _, _⟩ := f1.at (w.heap.size) (by first | assumption | omega | (simp; done) | (simp; omega)); obtain ⟨_, _, _⟩ := f1.at (w.heap.size + 1) (by first | assumption | omega | (simp; done) | (simp; omega)); obtain ⟨_, _, _⟩ := f1.at (w.heap.size + 1 + 1) (by first | assumption | omega | (simp; done) | (simp; omega))
  rw [hk]
  go_wp2
  refine bodyPost_ret (v := .tuple #[.agg #[.bool false, .int .u64 0], .int .i64 6]) (by simp [results, Tryd.results13, go_sem, *]) rfl ⟨rfl, ?_⟩
  (repeat (first | (with_reducible exact Fr.refl _ _) | (with_reducible assumption) | (with_reducible exact Fr.of_nil (by assumption)) | (with_reducible refine Fr.drew ?_) | (with_reducible refine Fr.drewN ?_ _) | (with_reducible refine Fr.alloc ?_ _) | (with_reducible refine Fr.set ?_ _ _ (by first | (intros; omega) | (simp; done) | (simp; omega))) | (with_reducible refine Fr.via ?_ (by assumption)) | (with_reducible refine Fr.comp ?_ (by assumption))))
theorem calc_range (op : Int) (f g : Bool) (x y : Int) (w : World) (h : op < 0 ∨ op = 5 ∨ op = 6 ∨ op = 11 ∨ op = 12 ∨ 14 < op) :
    Calls Tryd.prog 13 #[.int .i64 op, .agg #[.bool f, .int .u64 x], .agg #[.bool g, .int .u64 y]] w fun e w' => e = .returned (.tuple #[.agg #[.bool false, .int .u64 0], .int .i64 1]) ∧ Fr Nil w w' := by
  rcases h with h | rfl | rfl | rfl | rfl | h
  all_goals
    go_enter Tryd.func13, Tryd.ntmps13
    go_wp2
    refine bodyPost_ret (v := .tuple #[.agg #[.bool false, .int .u64 0], .int .i64 1]) (by simp [results, Tryd.results13, go_sem, *]) rfl ⟨rfl, ?_⟩
    (repeat (first | (with_reducible exact Fr.refl _ _) | (with_reducible assumption) | (with_reducible exact Fr.of_nil (by assumption)) | (with_reducible refine Fr.drew ?_) | (with_reducible refine Fr.drewN ?_ _) | (with_reducible refine Fr.alloc ?_ _) | (with_reducible refine Fr.set ?_ _ _ (by first | (intros; omega) | (simp; done) | (simp; omega))) | (with_reducible refine Fr.via ?_ (by assumption)) | (with_reducible refine Fr.comp ?_ (by assumption))))
end Go.Proofs.YtcadbidccmiflaaDoor
