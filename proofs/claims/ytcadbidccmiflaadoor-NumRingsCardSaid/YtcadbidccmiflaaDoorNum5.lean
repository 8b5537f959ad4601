/-
  Contracts of package num: Calc of floats. No conditions.
-/
import Derived.Test.YtcadbidccmiflaaDoorNum4
import Derived.Deep.RegionWith
import Derived.Deep.RegionHeld3
import Derived.StillTailTactics
namespace Go.Proofs.YtcadbidccmiflaaDoor
set_option linter.unusedSimpArgs false
set_option linter.unusedVariables false
open Go.RowKit

/-- 2 to the 63, and its opposite, as floats. -/
def edge : Nat := 4890909195324358656
def edgeM : Nat := 14114281232179134464
def ordF (x y : Nat) : Option Ordering := FloatKind.f64.format.order x y
/-- Is a float out of an int's range? -/
def outF (b : Nat) : Bool := isNan b || (ordF b edge == some .gt || ordF b edge == some .eq) || ordF b edgeM == some .lt

theorem trunc_out (b : Nat) (w : World) (h : outF b = true) :
    Calls Tryd.prog 29 #[.float .f64 b] w fun e w' => e = .returned (.tuple #[.agg #[.bool false, .int .u64 0], .int .i64 1]) ∧ Fr Nil w w' := by
  obtain ⟨p1, p2, p3, p4, e1, e2, e3, e4, hp⟩ : ∃ p1 p2 p3 p4 : Bool, (FloatKind.f64.format.order b b != some Ordering.eq) = p1 ∧ (FloatKind.f64.format.order b 4890909195324358656 == some Ordering.gt) = p2 ∧ (FloatKind.f64.format.order b 4890909195324358656 == some Ordering.eq) = p3 ∧ (FloatKind.f64.format.order b 14114281232179134464 == some Ordering.lt) = p4 ∧ (p1 || (p2 || p3) || p4) = true := ⟨_, _, _, _, rfl, rfl, rfl, rfl, h⟩
  clear h
  cases p1
  · by_cases hq : (p2 || p3) = true
    · go_enter Tryd.func29, Tryd.ntmps29
      go_wp2
      refine bodyPost_ret (v := .tuple #[.agg #[.bool false, .int .u64 0], .int .i64 1]) (by simp [results, Tryd.results29, go_sem]) rfl ⟨rfl, ?_⟩
      (repeat (first | (with_reducible exact Fr.refl _ _) | (with_reducible assumption) | (with_reducible exact Fr.of_nil (by assumption)) | (with_reducible refine Fr.drew ?_) | (with_reducible refine Fr.drewN ?_ _) | (with_reducible refine Fr.alloc ?_ _) | (with_reducible refine Fr.set ?_ _ _ (by first | (intros; omega) | (simp; done) | (simp; omega))) | (with_reducible refine Fr.via ?_ (by assumption)) | (with_reducible refine Fr.comp ?_ (by assumption))))
    · cases p2 <;> cases p3 <;> simp at hq hp
      subst hp
      go_enter Tryd.func29, Tryd.ntmps29
      go_wp2
      refine bodyPost_ret (v := .tuple #[.agg #[.bool false, .int .u64 0], .int .i64 1]) (by simp [results, Tryd.results29, go_sem]) rfl ⟨rfl, ?_⟩
      (repeat (first | (with_reducible exact Fr.refl _ _) | (with_reducible assumption) | (with_reducible exact Fr.of_nil (by assumption)) | (with_reducible refine Fr.drew ?_) | (with_reducible refine Fr.drewN ?_ _) | (with_reducible refine Fr.alloc ?_ _) | (with_reducible refine Fr.set ?_ _ _ (by first | (intros; omega) | (simp; done) | (simp; omega))) | (with_reducible refine Fr.via ?_ (by assumption)) | (with_reducible refine Fr.comp ?_ (by assumption))))
  · go_enter Tryd.func29, Tryd.ntmps29
    go_wp2
    refine bodyPost_ret (v := .tuple #[.agg #[.bool false, .int .u64 0], .int .i64 1]) (by simp [results, Tryd.results29, go_sem]) rfl ⟨rfl, ?_⟩
    (repeat (first | (with_reducible exact Fr.refl _ _) | (with_reducible assumption) | (with_reducible exact Fr.of_nil (by assumption)) | (with_reducible refine Fr.drew ?_) | (with_reducible refine Fr.drewN ?_ _) | (with_reducible refine Fr.alloc ?_ _) | (with_reducible refine Fr.set ?_ _ _ (by first | (intros; omega) | (simp; done) | (simp; omega))) | (with_reducible refine Fr.via ?_ (by assumption)) | (with_reducible refine Fr.comp ?_ (by assumption))))
theorem trunc_in (b : Nat) (n : Int) (w : World) (h : outF b = false) (hn : floatToIntVal .f64 b .i64 = some n) :
    Calls Tryd.prog 29 #[.float .f64 b] w fun e w' => e = .returned (.tuple #[.agg #[.bool false, .int .u64 (IntKind.u64.wrap n)], .int .i64 0]) ∧ Fr Nil w w' := by
  have hcv := fun w => run_convert_float_int (P := Tryd.prog) w 54 2 .f64 .i64 b n (by kernel_rfl) Tryd.underlying2 hn
  obtain ⟨p1, p2, p3, p4, e1, e2, e3, e4, hp⟩ : ∃ p1 p2 p3 p4 : Bool, (FloatKind.f64.format.order b b != some Ordering.eq) = p1 ∧ (FloatKind.f64.format.order b 4890909195324358656 == some Ordering.gt) = p2 ∧ (FloatKind.f64.format.order b 4890909195324358656 == some Ordering.eq) = p3 ∧ (FloatKind.f64.format.order b 14114281232179134464 == some Ordering.lt) = p4 ∧ (p1 || (p2 || p3) || p4) = false := ⟨_, _, _, _, rfl, rfl, rfl, rfl, h⟩
  clear h hn
  cases p1 <;> cases p2 <;> cases p3 <;> cases p4 <;> simp at hp
  go_enter Tryd.func29, Tryd.ntmps29
  go_wp2_with fail
  refine (int_any _ _).mono ?_
  rintro e w1 ⟨rfl, f1⟩
  obtain ⟨_, _, _⟩ := f1.at (w.heap.size) (by first | assumption | omega | (simp; done) | (simp; omega))
  go_wp2
  refine bodyPost_ret (v := .tuple #[.agg #[.bool false, .int .u64 (IntKind.u64.wrap n)], .int .i64 0]) (by simp [results, Tryd.results29, go_sem, *]) rfl ⟨rfl, ?_⟩
  (repeat (first | (with_reducible exact Fr.refl _ _) | (with_reducible assumption) | (with_reducible exact Fr.of_nil (by assumption)) | (with_reducible refine Fr.drew ?_) | (with_reducible refine Fr.drewN ?_ _) | (with_reducible refine Fr.alloc ?_ _) | (with_reducible refine Fr.set ?_ _ _ (by first | (intros; omega) | (simp; done) | (simp; omega))) | (with_reducible refine Fr.via ?_ (by assumption)) | (with_reducible refine Fr.comp ?_ (by assumption))))
theorem calc_trunc_out (x : Nat) (y : Int) (g : Bool) (w : World) (h : outF x = true) :
    Calls Tryd.prog 13 #[.int .i64 14, .agg #[.bool true, .int .u64 x], .agg #[.bool g, .int .u64 y]] w fun e w' => e = .returned (.tuple #[.agg #[.bool false, .int .u64 0], .int .i64 1]) ∧ Fr Nil w w' := by
  have hfb := fun w b => frombits_run w b
  go_enter Tryd.func13, Tryd.ntmps13
  go_wp2_with fail
  refine (kind1_any true true x _ 25 _ (by (unfold Blk; simp (disch := first | omega | (simp; done) | (simp; omega)) only [hp_drew, hp_drewN, hp_alloc, hp_other, hp_same, hp_new, upd_cells, Option.map_some]))).mono ?_
  rintro e w1 ⟨rfl, f1⟩
  obtain ⟨_, _, _⟩ := f1.at (w.heap.size) (by first | assumption | omega | (simp; done) | (simp; omega)); obtain ⟨_, _, _⟩ := f1.at (w.heap.size + 1) (by first | assumption | omega | (simp; done) | (simp; omega)); obtain ⟨_, _, _⟩ := f1.at (w.heap.size + 1 + 1) (by first | assumption | omega | (simp; done) | (simp; omega))
  go_wp2_with fail
  go_quiet (fail)
  go_wp2_with fail
  refine (trunc_out x _ h).mono ?_
  rintro e w2 ⟨rfl, f2⟩
  obtain ⟨_, _, _⟩ := f2.at (w.heap.size) (by first | assumption | omega | (simp; done) | (simp; omega)); obtain ⟨_, _, _⟩ := f2.at (w.heap.size + 1) (by first | assumption | omega | (simp; done) | (simp; omega)); obtain ⟨_, _, _⟩ := f2.at (w.heap.size + 1 + 1) (by first | assumption | omega | (simp; done) | (simp; omega))
  go_wp2
  refine bodyPost_ret (v := .tuple #[.agg #[.bool false, .int .u64 0], .int .i64 1]) (by simp [results, Tryd.results13, go_sem, *]) rfl ⟨rfl, ?_⟩
  (repeat (first | (with_reducible exact Fr.refl _ _) | (with_reducible assumption) | (with_reducible exact Fr.of_nil (by assumption)) | (with_reducible refine Fr.drew ?_) | (with_reducible refine Fr.drewN ?_ _) | (with_reducible refine Fr.alloc ?_ _) | (with_reducible refine Fr.set ?_ _ _ (by first | (intros; omega) | (simp; done) | (simp; omega))) | (with_reducible refine Fr.via ?_ (by assumption)) | (with_reducible refine Fr.comp ?_ (by assumption))))
theorem calc_trunc_in (x : Nat) (y : Int) (g : Bool) (n : Int) (w : World) (h : outF x = false) (hn : floatToIntVal .f64 x .i64 = some n) :
    Calls Tryd.prog 13 #[.int .i64 14, .agg #[.bool true, .int .u64 x], .agg #[.bool g, .int .u64 y]] w fun e w' => e = .returned (.tuple #[.agg #[.bool false, .int .u64 (IntKind.u64.wrap n)], .int .i64 0]) ∧ Fr Nil w w' := by
  have hfb := fun w b => frombits_run w b
  have HN := Lib.hid hn
  clear hn
  go_enter Tryd.func13, Tryd.ntmps13
  go_wp2_with fail
  refine (kind1_any true true x _ 25 _ (by (unfold Blk; simp (disch := first | omega | (simp; done) | (simp; omega)) only [hp_drew, hp_drewN, hp_alloc, hp_other, hp_same, hp_new, upd_cells, Option.map_some]))).mono ?_
  rintro e w1 ⟨rfl, f1⟩
  obtain ⟨_, _, _⟩ := f1.at (w.heap.size) (by first | assumption | omega | (simp; done) | (simp; omega)); obtain ⟨_, _, _⟩ := f1.at (w.heap.size + 1) (by first | assumption | omega | (simp; done) | (simp; omega)); obtain ⟨_, _, _⟩ := f1.at (w.heap.size + 1 + 1) (by first | assumption | omega | (simp; done) | (simp; omega))
  go_wp2_with fail
  go_quiet (fail)
  go_wp2_with fail
  refine (trunc_in x n _ h HN.out).mono ?_
  rintro e w2 ⟨rfl, f2⟩
  obtain ⟨_, _, _⟩ := f2.at (w.heap.size) (by first | assumption | omega | (simp; done) | (simp; omega)); obtain ⟨_, _, _⟩ := f2.at (w.heap.size + 1) (by first | assumption | omega | (simp; done) | (simp; omega)); obtain ⟨_, _, _⟩ := f2.at (w.heap.size + 1 + 1) (by first | assumption | omega | (simp; done) | (simp; omega))
  go_wp2
  refine bodyPost_ret (v := .tuple #[.agg #[.bool false, .int .u64 (IntKind.u64.wrap n)], .int .i64 0]) (by simp [results, Tryd.results13, go_sem, *]) rfl ⟨rfl, ?_⟩
  (repeat (first | (with_reducible exact Fr.refl _ _) | (with_reducible assumption) | (with_reducible exact Fr.of_nil (by assumption)) | (with_reducible refine Fr.drew ?_) | (with_reducible refine Fr.drewN ?_ _) | (with_reducible refine Fr.alloc ?_ _) | (with_reducible refine Fr.set ?_ _ _ (by first | (intros; omega) | (simp; done) | (simp; omega))) | (with_reducible refine Fr.via ?_ (by assumption)) | (with_reducible refine Fr.comp ?_ (by assumption))))
theorem calc_float (x : Nat) (y : Int) (g : Bool) (w : World) :
    Calls Tryd.prog 13 #[.int .i64 13, .agg #[.bool false, .int .u64 x], .agg #[.bool g, .int .u64 y]] w fun e w' => e = .returned (.tuple #[.agg #[.bool true, .int .u64 (normF (floatOfInt .f64 (wrap64 x)))], .int .i64 0]) ∧ Fr Nil w w' := by
  go_enter Tryd.func13, Tryd.ntmps13
  go_wp2_with fail
  refine (kind1_any false false x _ 25 _ (by (unfold Blk; simp (disch := first | omega | (simp; done) | (simp; omega)) only [hp_drew, hp_drewN, hp_alloc, hp_other, hp_same, hp_new, upd_cells, Option.map_some]))).mono ?_
  rintro e w1 ⟨rfl, f1⟩
  obtain ⟨_, _, _⟩ := f1.at (w.heap.size) (by first | assumption | omega | (simp; done) | (simp; omega)); obtain ⟨_, _, _⟩ := f1.at (w.heap.size + 1) (by first | assumption | omega | (simp; done) | (simp; omega)); obtain ⟨_, _, _⟩ := f1.at (w.heap.size + 1 + 1) (by first | assumption | omega | (simp; done) | (simp; omega))
  go_wp2_with fail
  go_quiet (fail)
  go_wp2_with fail
  refine (float_any _ _).mono ?_
  rintro e w2 ⟨rfl, f2⟩
  obtain ⟨_, _, _⟩ := f2.at (w.heap.size) (by first | assumption | omega | (simp; done) | (simp; omega)); obtain ⟨_, _, _⟩ := f2.at (w.heap.size + 1) (by first | assumption | omega | (simp; done) | (simp; omega)); obtain ⟨_, _, _⟩ := f2.at (w.heap.size + 1 + 1) (by first | assumption | omega | (simp; done) | (simp; omega))
  go_wp2
  refine bodyPost_ret (v := .tuple #[.agg #[.bool true, .int .u64 (normF (floatOfInt .f64 (wrap64 x)))], .int .i64 0]) (by simp [results, Tryd.results13, go_sem, *]) rfl ⟨rfl, ?_⟩
  (repeat (first | (with_reducible exact Fr.refl _ _) | (with_reducible assumption) | (with_reducible exact Fr.of_nil (by assumption)) | (with_reducible refine Fr.drew ?_) | (with_reducible refine Fr.drewN ?_ _) | (with_reducible refine Fr.alloc ?_ _) | (with_reducible refine Fr.set ?_ _ _ (by first | (intros; omega) | (simp; done) | (simp; omega))) | (with_reducible refine Fr.via ?_ (by assumption)) | (with_reducible refine Fr.comp ?_ (by assumption))))
theorem index_run0 (w : World) (a b c d : Value) : (Instr.index 58 (.agg #[a, b, c, d]) (.int .i64 0)).run Tryd.prog w = .ok a w := by kernel_rfl
theorem index_run1 (w : World) (a b c d : Value) : (Instr.index 58 (.agg #[a, b, c, d]) (.int .i64 1)).run Tryd.prog w = .ok b w := by kernel_rfl
theorem index_run2 (w : World) (a b c d : Value) : (Instr.index 58 (.agg #[a, b, c, d]) (.int .i64 2)).run Tryd.prog w = .ok c w := by kernel_rfl
theorem index_run3 (w : World) (a b c d : Value) : (Instr.index 58 (.agg #[a, b, c, d]) (.int .i64 3)).run Tryd.prog w = .ok d w := by kernel_rfl
set_option maxRecDepth 100000 in
theorem calc_fadd (x y : Nat) (w : World) :
    Calls Tryd.prog 13 #[.int .i64 7, .agg #[.bool true, .int .u64 x], .agg #[.bool true, .int .u64 y]] w fun e w' => e = .returned (.tuple #[.agg #[.bool true, .int .u64 (fop .add x y)], .int .i64 0]) ∧ Fr Nil w w' := by
  have hfb := fun w b => frombits_run w b
  have hix := fun w => index_run0 w (.func (.func 49) #[] #[]) (.func (.func 50) #[] #[]) (.func (.func 51) #[] #[]) (.func (.func 52) #[] #[])
  go_enter Tryd.func13, Tryd.ntmps13
  go_wp2_with fail
  refine (kind2_any true true true x y _ 25 _ (by (unfold Blk; simp (disch := first | omega | (simp; done) | (simp; omega)) only [hp_drew, hp_drewN, hp_alloc, hp_other, hp_same, hp_new, upd_cells, Option.map_some]))).mono ?_
  rintro e w1 ⟨rfl, f1⟩
  obtain ⟨_, _, _⟩ := f1.at (w.heap.size) (by first | assumption | omega | (simp; done) | (simp; omega)); obtain ⟨_, _, _⟩ := f1.at (w.heap.size + 1) (by first | assumption | omega | (simp; done) | (simp; omega)); obtain ⟨_, _, _⟩ := f1.at (w.heap.size + 1 + 1) (by first | assumption | omega | (simp; done) | (simp; omega))
  go_wp2_with fail
  go_quiet (fail)
  go_wp2_with fail
  refine (floats_any _).mono ?_
  rintro e w2 ⟨rfl, f2⟩
  obtain ⟨_, _, _⟩ := f2.at (w.heap.size) (by first | assumption | omega | (simp; done) | (simp; omega)); obtain ⟨_, _, _⟩ := f2.at (w.heap.size + 1) (by first | assumption | omega | (simp; done) | (simp; omega)); obtain ⟨_, _, _⟩ := f2.at (w.heap.size + 1 + 1) (by first | assumption | omega | (simp; done) | (simp; omega))
  go_wp2_with fail
  go_still_tail 7, (by kernel_rfl)
  change wpList _ _ _ _ _ w2.drew
  go_wp2_with fail
  refine (fl1_any _ _ _).mono ?_
  rintro e w3 ⟨r, rfl, hr, f3⟩
  obtain ⟨_, _, _⟩ := f3.at (w.heap.size) (by first | assumption | omega | (simp; done) | (simp; omega)); obtain ⟨_, _, _⟩ := f3.at (w.heap.size + 1) (by first | assumption | omega | (simp; done) | (simp; omega)); obtain ⟨_, _, _⟩ := f3.at (w.heap.size + 1 + 1) (by first | assumption | omega | (simp; done) | (simp; omega))
  go_wp2_with fail
  refine (float_any _ _).mono ?_
  rw [hr.norm]
  rintro e w4 ⟨rfl, f4⟩
  obtain ⟨_, _, _⟩ := f4.at (w.heap.size) (by first | assumption | omega | (simp; done) | (simp; omega)); obtain ⟨_, _, _⟩ := f4.at (w.heap.size + 1) (by first | assumption | omega | (simp; done) | (simp; omega)); obtain ⟨_, _, _⟩ := f4.at (w.heap.size + 1 + 1) (by first | assumption | omega | (simp; done) | (simp; omega))
  clear hr
  go_wp2
  refine bodyPost_ret (v := .tuple #[.agg #[.bool true, .int .u64 (fop .add x y)], .int .i64 0]) (by simp [results, Tryd.results13, go_sem, *]) rfl ⟨rfl, ?_⟩
  (repeat (first | (with_reducible exact Fr.refl _ _) | (with_reducible assumption) | (with_reducible exact Fr.of_nil (by assumption)) | (with_reducible refine Fr.drew ?_) | (with_reducible refine Fr.drewN ?_ _) | (with_reducible refine Fr.alloc ?_ _) | (with_reducible refine Fr.set ?_ _ _ (by first | (intros; omega) | (simp; done) | (simp; omega))) | (with_reducible refine Fr.via ?_ (by assumption)) | (with_reducible refine Fr.comp ?_ (by assumption))))
set_option maxRecDepth 100000 in
theorem calc_fsub (x y : Nat) (w : World) :
    Calls Tryd.prog 13 #[.int .i64 8, .agg #[.bool true, .int .u64 x], .agg #[.bool true, .int .u64 y]] w fun e w' => e = .returned (.tuple #[.agg #[.bool true, .int .u64 (fop .sub x y)], .int .i64 0]) ∧ Fr Nil w w' := by
  have hfb := fun w b => frombits_run w b
  have hix := fun w => index_run1 w (.func (.func 49) #[] #[]) (.func (.func 50) #[] #[]) (.func (.func 51) #[] #[]) (.func (.func 52) #[] #[])
  go_enter Tryd.func13, Tryd.ntmps13
  go_wp2_with fail
  refine (kind2_any true true true x y _ 25 _ (by (unfold Blk; simp (disch := first | omega | (simp; done) | (simp; omega)) only [hp_drew, hp_drewN, hp_alloc, hp_other, hp_same, hp_new, upd_cells, Option.map_some]))).mono ?_
  rintro e w1 ⟨rfl, f1⟩
  obtain ⟨_, _, _⟩ := f1.at (w.heap.size) (by first | assumption | omega | (simp; done) | (simp; omega)); obtain ⟨_, _, _⟩ := f1.at (w.heap.size + 1) (by first | assumption | omega | (simp; done) | (simp; omega)); obtain ⟨_, _, _⟩ := f1.at (w.heap.size + 1 + 1) (by first | assumption | omega | (simp; done) | (simp; omega))
  go_wp2_with fail
  go_quiet (fail)
  go_wp2_with fail
  refine (floats_any _).mono ?_
  rintro e w2 ⟨rfl, f2⟩
  obtain ⟨_, _, _⟩ := f2.at (w.heap.size) (by first | assumption | omega | (simp; done) | (simp; omega)); obtain ⟨_, _, _⟩ := f2.at (w.heap.size + 1) (by first | assumption | omega | (simp; done) | (simp; omega)); obtain ⟨_, _, _⟩ := f2.at (w.heap.size + 1 + 1) (by first | assumption | omega | (simp; done) | (simp; omega))
  go_wp2_with fail
  go_still_tail 7, (by kernel_rfl)
  change wpList _ _ _ _ _ w2.drew
  go_wp2_with fail
  refine (fl2_any _ _ _).mono ?_
  rintro e w3 ⟨r, rfl, hr, f3⟩
  obtain ⟨_, _, _⟩ := f3.at (w.heap.size) (by first | assumption | omega | (simp; done) | (simp; omega)); obtain ⟨_, _, _⟩ := f3.at (w.heap.size + 1) (by first | assumption | omega | (simp; done) | (simp; omega)); obtain ⟨_, _, _⟩ := f3.at (w.heap.size + 1 + 1) (by first | assumption | omega | (simp; done) | (simp; omega))
  go_wp2_with fail
  refine (float_any _ _).mono ?_
  rw [hr.norm]
  rintro e w4 ⟨rfl, f4⟩
  obtain ⟨_, _, _⟩ := f4.at (w.heap.size) (by first | assumption | omega | (simp; done) | (simp; omega)); obtain ⟨_, _, _⟩ := f4.at (w.heap.size + 1) (by first | assumption | omega | (simp; done) | (simp; omega)); obtain ⟨_, _, _⟩ := f4.at (w.heap.size + 1 + 1) (by first | assumption | omega | (simp; done) | (simp; omega))
  clear hr
  go_wp2
  refine bodyPost_ret (v := .tuple #[.agg #[.bool true, .int .u64 (fop .sub x y)], .int .i64 0]) (by simp [results, Tryd.results13, go_sem, *]) rfl ⟨rfl, ?_⟩
  (repeat (first | (with_reducible exact Fr.refl _ _) | (with_reducible assumption) | (with_reducible exact Fr.of_nil (by assumption)) | (with_reducible refine Fr.drew ?_) | (with_reducible refine Fr.drewN ?_ _) | (with_reducible refine Fr.alloc ?_ _) | (with_reducible refine Fr.set ?_ _ _ (by first | (intros; omega) | (simp; done) | (simp; omega))) | (with_reducible refine Fr.via ?_ (by assumption)) | (with_reducible refine Fr.comp ?_ (by assumption))))
set_option maxRecDepth 100000 in
theorem calc_fmul (x y : Nat) (w : World) :
    Calls Tryd.prog 13 #[.int .i64 9, .agg #[.bool true, .int .u64 x], .agg #[.bool true, .int .u64 y]] w fun e w' => e = .returned (.tuple #[.agg #[.bool true, .int .u64 (fop .mul x y)], .int .i64 0]) ∧ Fr Nil w w' := by
  have hfb := fun w b => frombits_run w b
  have hix := fun w => index_run2 w (.func (.func 49) #[] #[]) (.func (.func 50) #[] #[]) (.func (.func 51) #[] #[]) (.func (.func 52) #[] #[])
  go_enter Tryd.func13, Tryd.ntmps13
  go_wp2_with fail
  refine (kind2_any true true true x y _ 25 _ (by (unfold Blk; simp (disch := first | omega | (simp; done) | (simp; omega)) only [hp_drew, hp_drewN, hp_alloc, hp_other, hp_same, hp_new, upd_cells, Option.map_some]))).mono ?_
  rintro e w1 ⟨rfl, f1⟩
  obtain ⟨_, _, _⟩ := f1.at (w.heap.size) (by first | assumption | omega | (simp; done) | (simp; omega)); obtain ⟨_, _, _⟩ := f1.at (w.heap.size + 1) (by first | assumption | omega | (simp; done) | (simp; omega)); obtain ⟨_, _, _⟩ := f1.at (w.heap.size + 1 + 1) (by first | assumption | omega | (simp; done) | (simp; omega))
  go_wp2_with fail
  go_quiet (fail)
  go_wp2_with fail
  refine (floats_any _).mono ?_
  rintro e w2 ⟨rfl, f2⟩
  obtain ⟨_, _, _⟩ := f2.at (w.heap.size) (by first | assumption | omega | (simp; done) | (simp; omega)); obtain ⟨_, _, _⟩ := f2.at (w.heap.size + 1) (by first | assumption | omega | (simp; done) | (simp; omega)); obtain ⟨_, _, _⟩ := f2.at (w.heap.size + 1 + 1) (by first | assumption | omega | (simp; done) | (simp; omega))
  go_wp2_with fail
  go_still_tail 7, (by kernel_rfl)
  change wpList _ _ _ _ _ w2.drew
  go_wp2_with fail
  refine (fl3_any _ _ _).mono ?_
  rintro e w3 ⟨r, rfl, hr, f3⟩
  obtain ⟨_, _, _⟩ := f3.at (w.heap.size) (by first | assumption | omega | (simp; done) | (simp; omega)); obtain ⟨_, _, _⟩ := f3.at (w.heap.size + 1) (by first | assumption | omega | (simp; done) | (simp; omega)); obtain ⟨_, _, _⟩ := f3.at (w.heap.size + 1 + 1) (by first | assumption | omega | (simp; done) | (simp; omega))
  go_wp2_with fail
  refine (float_any _ _).mono ?_
  rw [hr.norm]
  rintro e w4 ⟨rfl, f4⟩
  obtain ⟨_, _, _⟩ := f4.at (w.heap.size) (by first | assumption | omega | (simp; done) | (simp; omega)); obtain ⟨_, _, _⟩ := f4.at (w.heap.size + 1) (by first | assumption | omega | (simp; done) | (simp; omega)); obtain ⟨_, _, _⟩ := f4.at (w.heap.size + 1 + 1) (by first | assumption | omega | (simp; done) | (simp; omega))
  clear hr
  go_wp2
  refine bodyPost_ret (v := .tuple #[.agg #[.bool true, .int .u64 (fop .mul x y)], .int .i64 0]) (by simp [results, Tryd.results13, go_sem, *]) rfl ⟨rfl, ?_⟩
  (repeat (first | (with_reducible exact Fr.refl _ _) | (with_reducible assumption) | (with_reducible exact Fr.of_nil (by assumption)) | (with_reducible refine Fr.drew ?_) | (with_reducible refine Fr.drewN ?_ _) | (with_reducible refine Fr.alloc ?_ _) | (with_reducible refine Fr.set ?_ _ _ (by first | (intros; omega) | (simp; done) | (simp; omega))) | (with_reducible refine Fr.via ?_ (by assumption)) | (with_reducible refine Fr.comp ?_ (by assumption))))
set_option maxRecDepth 100000 in
theorem calc_fdiv (x y : Nat) (w : World) :
    Calls Tryd.prog 13 #[.int .i64 10, .agg #[.bool true, .int .u64 x], .agg #[.bool true, .int .u64 y]] w fun e w' => e = .returned (.tuple #[.agg #[.bool true, .int .u64 (fop .quo x y)], .int .i64 0]) ∧ Fr Nil w w' := by
  have hfb := fun w b => frombits_run w b
  have hix := fun w => index_run3 w (.func (.func 49) #[] #[]) (.func (.func 50) #[] #[]) (.func (.func 51) #[] #[]) (.func (.func 52) #[] #[])
  go_enter Tryd.func13, Tryd.ntmps13
  go_wp2_with fail
  refine (kind2_any true true true x y _ 25 _ (by (unfold Blk; simp (disch := first | omega | (simp; done) | (simp; omega)) only [hp_drew, hp_drewN, hp_alloc, hp_other, hp_same, hp_new, upd_cells, Option.map_some]))).mono ?_
  rintro e w1 ⟨rfl, f1⟩
  obtain ⟨_, _, _⟩ := f1.at (w.heap.size) (by first | assumption | omega | (simp; done) | (simp; omega)); obtain ⟨_, _, _⟩ := f1.at (w.heap.size + 1) (by first | assumption | omega | (simp; done) | (simp; omega)); obtain ⟨_, _, _⟩ := f1.at (w.heap.size + 1 + 1) (by first | assumption | omega | (simp; done) | (simp; omega))
  go_wp2_with fail
  go_quiet (fail)
  go_wp2_with fail
  refine (floats_any _).mono ?_
  rintro e w2 ⟨rfl, f2⟩
  obtain ⟨_, _, _⟩ := f2.at (w.heap.size) (by first | assumption | omega | (simp; done) | (simp; omega)); obtain ⟨_, _, _⟩ := f2.at (w.heap.size + 1) (by first | assumption | omega | (simp; done) | (simp; omega)); obtain ⟨_, _, _⟩ := f2.at (w.heap.size + 1 + 1) (by first | assumption | omega | (simp; done) | (simp; omega))
  go_wp2_with fail
  go_still_tail 7, (by kernel_rfl)
  change wpList _ _ _ _ _ w2.drew
  go_wp2_with fail
  refine (fl4_any _ _ _).mono ?_
  rintro e w3 ⟨r, rfl, hr, f3⟩
  obtain ⟨_, _, _⟩ := f3.at (w.heap.size) (by first | assumption | omega | (simp; done) | (simp; omega)); obtain ⟨_, _, _⟩ := f3.at (w.heap.size + 1) (by first | assumption | omega | (simp; done) | (simp; omega)); obtain ⟨_, _, _⟩ := f3.at (w.heap.size + 1 + 1) (by first | assumption | omega | (simp; done) | (simp; omega))
  go_wp2_with fail
  refine (float_any _ _).mono ?_
  rw [hr.norm]
  rintro e w4 ⟨rfl, f4⟩
  obtain ⟨_, _, _⟩ := f4.at (w.heap.size) (by first | assumption | omega | (simp; done) | (simp; omega)); obtain ⟨_, _, _⟩ := f4.at (w.heap.size + 1) (by first | assumption | omega | (simp; done) | (simp; omega)); obtain ⟨_, _, _⟩ := f4.at (w.heap.size + 1 + 1) (by first | assumption | omega | (simp; done) | (simp; omega))
  clear hr
  go_wp2
  refine bodyPost_ret (v := .tuple #[.agg #[.bool true, .int .u64 (fop .quo x y)], .int .i64 0]) (by simp [results, Tryd.results13, go_sem, *]) rfl ⟨rfl, ?_⟩
  (repeat (first | (with_reducible exact Fr.refl _ _) | (with_reducible assumption) | (with_reducible exact Fr.of_nil (by assumption)) | (with_reducible refine Fr.drew ?_) | (with_reducible refine Fr.drewN ?_ _) | (with_reducible refine Fr.alloc ?_ _) | (with_reducible refine Fr.set ?_ _ _ (by first | (intros; omega) | (simp; done) | (simp; omega))) | (with_reducible refine Fr.via ?_ (by assumption)) | (with_reducible refine Fr.comp ?_ (by assumption))))
end Go.Proofs.YtcadbidccmiflaaDoor
