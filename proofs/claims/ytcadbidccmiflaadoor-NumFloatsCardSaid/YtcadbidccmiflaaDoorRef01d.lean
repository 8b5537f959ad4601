/-
  Contracts of the document's answer for layer 1: Calc, Test. No conditions.
-/
import Derived.Test.YtcadbidccmiflaaDoorRef01c
import Derived.Test.YtcadbidccmiflaaDoorNum5
namespace Go.Proofs.YtcadbidccmiflaaDoor
set_option linter.unusedSimpArgs false
set_option linter.unusedVariables false
open Go.RowKit

theorem isNan_nanB (b : Nat) : isNan b = nanB b := nan_order b
theorem normR_normF (b : Nat) : normR b = normF b := by
  unfold normR normF
  rw [isNan_nanB]
  unfold nanB rung
  by_cases h : 9218868437227405312 < b % 9223372036854775808
  · rw [if_pos h, if_pos (by simp; omega)]
  · rw [if_neg h, if_neg (by simp; omega)]
set_option maxRecDepth 100000 in
theorem rcalc_add (x y : Nat) (w : World) (hx : x < 18446744073709551616) (hy : y < 18446744073709551616) :
    Calls Tryd.prog 16 #[.int .i64 0, .agg #[.bool false, .int .u64 x], .agg #[.bool false, .int .u64 y]] w fun e w' => e = .returned (.tuple #[.agg #[.bool false, .int .u64 (IntKind.u64.wrap ((x : Int) + y))], .int .i64 0]) ∧ Fr Nil w w' := by
  have hfb := fun w b => frombits_run w b
  go_enter Tryd.func16, Tryd.ntmps16
  go_wp2_with fail
  go_quiet (fail)
  go_wp2_with fail
  refine (rints0 x y _ hx hy).mono ?_
  rintro e w1 ⟨rfl, f1⟩
  obtain ⟨_, _, _⟩ := f1.at (w.heap.size) (by first | assumption | omega | (simp; done) | (simp; omega)); obtain ⟨_, _, _⟩ := f1.at (w.heap.size + 1) (by first | assumption | omega | (simp; done) | (simp; omega)); obtain ⟨_, _, _⟩ := f1.at (w.heap.size + 1 + 1) (by first | assumption | omega | (simp; done) | (simp; omega))
  go_wp2
  refine bodyPost_ret (v := .tuple #[.agg #[.bool false, .int .u64 (IntKind.u64.wrap ((x : Int) + y))], .int .i64 0]) (by simp [results, Tryd.results16, go_sem, *]) rfl ⟨rfl, ?_⟩
  (repeat (first | (with_reducible exact Fr.refl _ _) | (with_reducible assumption) | (with_reducible exact Fr.of_nil (by assumption)) | (with_reducible refine Fr.drew ?_) | (with_reducible refine Fr.drewN ?_ _) | (with_reducible refine Fr.alloc ?_ _) | (with_reducible refine Fr.set ?_ _ _ (by first | (intros; omega) | (simp; done) | (simp; omega))) | (with_reducible refine Fr.via ?_ (by assumption)) | (with_reducible refine Fr.comp ?_ (by assumption))))
set_option maxRecDepth 100000 in
theorem rcalc_sub (x y : Nat) (w : World) (hx : x < 18446744073709551616) (hy : y < 18446744073709551616) :
    Calls Tryd.prog 16 #[.int .i64 1, .agg #[.bool false, .int .u64 x], .agg #[.bool false, .int .u64 y]] w fun e w' => e = .returned (.tuple #[.agg #[.bool false, .int .u64 (IntKind.u64.wrap ((x : Int) - y))], .int .i64 0]) ∧ Fr Nil w w' := by
  have hfb := fun w b => frombits_run w b
  go_enter Tryd.func16, Tryd.ntmps16
  go_wp2_with fail
  go_quiet (fail)
  go_wp2_with fail
  refine (rints1 x y _ hx hy).mono ?_
  rintro e w1 ⟨rfl, f1⟩
  obtain ⟨_, _, _⟩ := f1.at (w.heap.size) (by first | assumption | omega | (simp; done) | (simp; omega)); obtain ⟨_, _, _⟩ := f1.at (w.heap.size + 1) (by first | assumption | omega | (simp; done) | (simp; omega)); obtain ⟨_, _, _⟩ := f1.at (w.heap.size + 1 + 1) (by first | assumption | omega | (simp; done) | (simp; omega))
  go_wp2
  refine bodyPost_ret (v := .tuple #[.agg #[.bool false, .int .u64 (IntKind.u64.wrap ((x : Int) - y))], .int .i64 0]) (by simp [results, Tryd.results16, go_sem, *]) rfl ⟨rfl, ?_⟩
  (repeat (first | (with_reducible exact Fr.refl _ _) | (with_reducible assumption) | (with_reducible exact Fr.of_nil (by assumption)) | (with_reducible refine Fr.drew ?_) | (with_reducible refine Fr.drewN ?_ _) | (with_reducible refine Fr.alloc ?_ _) | (with_reducible refine Fr.set ?_ _ _ (by first | (intros; omega) | (simp; done) | (simp; omega))) | (with_reducible refine Fr.via ?_ (by assumption)) | (with_reducible refine Fr.comp ?_ (by assumption))))
set_option maxRecDepth 100000 in
theorem rcalc_mul (x y : Nat) (w : World) (hx : x < 18446744073709551616) (hy : y < 18446744073709551616) :
    Calls Tryd.prog 16 #[.int .i64 2, .agg #[.bool false, .int .u64 x], .agg #[.bool false, .int .u64 y]] w fun e w' => e = .returned (.tuple #[.agg #[.bool false, .int .u64 ((x : Int) * y % 18446744073709551616)], .int .i64 0]) ∧ Fr Nil w w' := by
  have hfb := fun w b => frombits_run w b
  go_enter Tryd.func16, Tryd.ntmps16
  go_wp2_with fail
  go_quiet (fail)
  go_wp2_with fail
  refine (rints2 x y _ hx hy).mono ?_
  rintro e w1 ⟨rfl, f1⟩
  obtain ⟨_, _, _⟩ := f1.at (w.heap.size) (by first | assumption | omega | (simp; done) | (simp; omega)); obtain ⟨_, _, _⟩ := f1.at (w.heap.size + 1) (by first | assumption | omega | (simp; done) | (simp; omega)); obtain ⟨_, _, _⟩ := f1.at (w.heap.size + 1 + 1) (by first | assumption | omega | (simp; done) | (simp; omega))
  go_wp2
  refine bodyPost_ret (v := .tuple #[.agg #[.bool false, .int .u64 ((x : Int) * y % 18446744073709551616)], .int .i64 0]) (by simp [results, Tryd.results16, go_sem, *]) rfl ⟨rfl, ?_⟩
  (repeat (first | (with_reducible exact Fr.refl _ _) | (with_reducible assumption) | (with_reducible exact Fr.of_nil (by assumption)) | (with_reducible refine Fr.drew ?_) | (with_reducible refine Fr.drewN ?_ _) | (with_reducible refine Fr.alloc ?_ _) | (with_reducible refine Fr.set ?_ _ _ (by first | (intros; omega) | (simp; done) | (simp; omega))) | (with_reducible refine Fr.via ?_ (by assumption)) | (with_reducible refine Fr.comp ?_ (by assumption))))
set_option maxRecDepth 100000 in
theorem rcalc_div_zero (x y : Nat) (w : World) (hx : x < 18446744073709551616) (hy : y < 18446744073709551616) (h : wrap64 (y : Int) = 0) :
    Calls Tryd.prog 16 #[.int .i64 3, .agg #[.bool false, .int .u64 x], .agg #[.bool false, .int .u64 y]] w fun e w' => e = .returned (.tuple #[.agg #[.bool false, .int .u64 0], .int .i64 7]) ∧ Fr Nil w w' := by
  have hfb := fun w b => frombits_run w b
  have H := Lib.hid h
  clear h
  go_enter Tryd.func16, Tryd.ntmps16
  go_wp2_with fail
  go_quiet (fail)
  go_wp2_with fail
  refine (rints3_zero x y _ hx hy H.out).mono ?_
  rintro e w1 ⟨rfl, f1⟩
  obtain ⟨_, _, _⟩ := f1.at (w.heap.size) (by first | assumption | omega | (simp; done) | (simp; omega)); obtain ⟨_, _, _⟩ := f1.at (w.heap.size + 1) (by first | assumption | omega | (simp; done) | (simp; omega)); obtain ⟨_, _, _⟩ := f1.at (w.heap.size + 1 + 1) (by first | assumption | omega | (simp; done) | (simp; omega))
  go_wp2
  refine bodyPost_ret (v := .tuple #[.agg #[.bool false, .int .u64 0], .int .i64 7]) (by simp [results, Tryd.results16, go_sem, *]) rfl ⟨rfl, ?_⟩
  (repeat (first | (with_reducible exact Fr.refl _ _) | (with_reducible assumption) | (with_reducible exact Fr.of_nil (by assumption)) | (with_reducible refine Fr.drew ?_) | (with_reducible refine Fr.drewN ?_ _) | (with_reducible refine Fr.alloc ?_ _) | (with_reducible refine Fr.set ?_ _ _ (by first | (intros; omega) | (simp; done) | (simp; omega))) | (with_reducible refine Fr.via ?_ (by assumption)) | (with_reducible refine Fr.comp ?_ (by assumption))))
set_option maxRecDepth 100000 in
theorem rcalc_div_over (x y : Nat) (w : World) (hx : x < 18446744073709551616) (hy : y < 18446744073709551616) (h : x = 9223372036854775808) (h' : wrap64 (y : Int) = -1) :
    Calls Tryd.prog 16 #[.int .i64 3, .agg #[.bool false, .int .u64 x], .agg #[.bool false, .int .u64 y]] w fun e w' => e = .returned (.tuple #[.agg #[.bool false, .int .u64 0], .int .i64 8]) ∧ Fr Nil w w' := by
  have hfb := fun w b => frombits_run w b
  have H := Lib.hid h
  clear h
  have H' := Lib.hid h'
  clear h'
  go_enter Tryd.func16, Tryd.ntmps16
  go_wp2_with fail
  go_quiet (fail)
  go_wp2_with fail
  refine (rints3_over x y _ hx hy H.out H'.out).mono ?_
  rintro e w1 ⟨rfl, f1⟩
  obtain ⟨_, _, _⟩ := f1.at (w.heap.size) (by first | assumption | omega | (simp; done) | (simp; omega)); obtain ⟨_, _, _⟩ := f1.at (w.heap.size + 1) (by first | assumption | omega | (simp; done) | (simp; omega)); obtain ⟨_, _, _⟩ := f1.at (w.heap.size + 1 + 1) (by first | assumption | omega | (simp; done) | (simp; omega))
  go_wp2
  refine bodyPost_ret (v := .tuple #[.agg #[.bool false, .int .u64 0], .int .i64 8]) (by simp [results, Tryd.results16, go_sem, *]) rfl ⟨rfl, ?_⟩
  (repeat (first | (with_reducible exact Fr.refl _ _) | (with_reducible assumption) | (with_reducible exact Fr.of_nil (by assumption)) | (with_reducible refine Fr.drew ?_) | (with_reducible refine Fr.drewN ?_ _) | (with_reducible refine Fr.alloc ?_ _) | (with_reducible refine Fr.set ?_ _ _ (by first | (intros; omega) | (simp; done) | (simp; omega))) | (with_reducible refine Fr.via ?_ (by assumption)) | (with_reducible refine Fr.comp ?_ (by assumption))))
set_option maxRecDepth 100000 in
theorem rcalc_div_in (x y : Nat) (w : World) (hx : x < 18446744073709551616) (hy : y < 18446744073709551616) (h : wrap64 (y : Int) ≠ 0) (h' : x ≠ 9223372036854775808 ∨ wrap64 (y : Int) ≠ -1) :
    Calls Tryd.prog 16 #[.int .i64 3, .agg #[.bool false, .int .u64 x], .agg #[.bool false, .int .u64 y]] w fun e w' => e = .returned (.tuple #[.agg #[.bool false, .int .u64 ((wrap64 (x : Int)).tdiv (wrap64 (y : Int)) % 18446744073709551616)], .int .i64 0]) ∧ Fr Nil w w' := by
  have hfb := fun w b => frombits_run w b
  have H := Lib.hid h
  clear h
  have H' := Lib.hid h'
  clear h'
  go_enter Tryd.func16, Tryd.ntmps16
  go_wp2_with fail
  go_quiet (fail)
  go_wp2_with fail
  refine (rints3_in x y _ hx hy H.out H'.out).mono ?_
  rintro e w1 ⟨rfl, f1⟩
  obtain ⟨_, _, _⟩ := f1.at (w.heap.size) (by first | assumption | omega | (simp; done) | (simp; omega)); obtain ⟨_, _, _⟩ := f1.at (w.heap.size + 1) (by first | assumption | omega | (simp; done) | (simp; omega)); obtain ⟨_, _, _⟩ := f1.at (w.heap.size + 1 + 1) (by first | assumption | omega | (simp; done) | (simp; omega))
  go_wp2
  refine bodyPost_ret (v := .tuple #[.agg #[.bool false, .int .u64 ((wrap64 (x : Int)).tdiv (wrap64 (y : Int)) % 18446744073709551616)], .int .i64 0]) (by simp [results, Tryd.results16, go_sem, *]) rfl ⟨rfl, ?_⟩
  (repeat (first | (with_reducible exact Fr.refl _ _) | (with_reducible assumption) | (with_reducible exact Fr.of_nil (by assumption)) | (with_reducible refine Fr.drew ?_) | (with_reducible refine Fr.drewN ?_ _) | (with_reducible refine Fr.alloc ?_ _) | (with_reducible refine Fr.set ?_ _ _ (by first | (intros; omega) | (simp; done) | (simp; omega))) | (with_reducible refine Fr.via ?_ (by assumption)) | (with_reducible refine Fr.comp ?_ (by assumption))))
set_option maxRecDepth 100000 in
theorem rcalc_rem_zero (x y : Nat) (w : World) (hx : x < 18446744073709551616) (hy : y < 18446744073709551616) (h : wrap64 (y : Int) = 0) :
    Calls Tryd.prog 16 #[.int .i64 4, .agg #[.bool false, .int .u64 x], .agg #[.bool false, .int .u64 y]] w fun e w' => e = .returned (.tuple #[.agg #[.bool false, .int .u64 0], .int .i64 7]) ∧ Fr Nil w w' := by
  have hfb := fun w b => frombits_run w b
  have H := Lib.hid h
  clear h
  go_enter Tryd.func16, Tryd.ntmps16
  go_wp2_with fail
  go_quiet (fail)
  go_wp2_with fail
  refine (rints4_zero x y _ hx hy H.out).mono ?_
  rintro e w1 ⟨rfl, f1⟩
  obtain ⟨_, _, _⟩ := f1.at (w.heap.size) (by first | assumption | omega | (simp; done) | (simp; omega)); obtain ⟨_, _, _⟩ := f1.at (w.heap.size + 1) (by first | assumption | omega | (simp; done) | (simp; omega)); obtain ⟨_, _, _⟩ := f1.at (w.heap.size + 1 + 1) (by first | assumption | omega | (simp; done) | (simp; omega))
  go_wp2
  refine bodyPost_ret (v := .tuple #[.agg #[.bool false, .int .u64 0], .int .i64 7]) (by simp [results, Tryd.results16, go_sem, *]) rfl ⟨rfl, ?_⟩
  (repeat (first | (with_reducible exact Fr.refl _ _) | (with_reducible assumption) | (with_reducible exact Fr.of_nil (by assumption)) | (with_reducible refine Fr.drew ?_) | (with_reducible refine Fr.drewN ?_ _) | (with_reducible refine Fr.alloc ?_ _) | (with_reducible refine Fr.set ?_ _ _ (by first | (intros; omega) | (simp; done) | (simp; omega))) | (with_reducible refine Fr.via ?_ (by assumption)) | (with_reducible refine Fr.comp ?_ (by assumption))))
set_option maxRecDepth 100000 in
theorem rcalc_rem_over (x y : Nat) (w : World) (hx : x < 18446744073709551616) (hy : y < 18446744073709551616) (h : x = 9223372036854775808) (h' : wrap64 (y : Int) = -1) :
    Calls Tryd.prog 16 #[.int .i64 4, .agg #[.bool false, .int .u64 x], .agg #[.bool false, .int .u64 y]] w fun e w' => e = .returned (.tuple #[.agg #[.bool false, .int .u64 0], .int .i64 8]) ∧ Fr Nil w w' := by
  have hfb := fun w b => frombits_run w b
  have H := Lib.hid h
  clear h
  have H' := Lib.hid h'
  clear h'
  go_enter Tryd.func16, Tryd.ntmps16
  go_wp2_with fail
  go_quiet (fail)
  go_wp2_with fail
  refine (rints4_over x y _ hx hy H.out H'.out).mono ?_
  rintro e w1 ⟨rfl, f1⟩
  obtain ⟨_, _, _⟩ := f1.at (w.heap.size) (by first | assumption | omega | (simp; done) | (simp; omega)); obtain ⟨_, _, _⟩ := f1.at (w.heap.size + 1) (by first | assumption | omega | (simp; done) | (simp; omega)); obtain ⟨_, _, _⟩ := f1.at (w.heap.size + 1 + 1) (by first | assumption | omega | (simp; done) | (simp; omega))
  go_wp2
  refine bodyPost_ret (v := .tuple #[.agg #[.bool false, .int .u64 0], .int .i64 8]) (by simp [results, Tryd.results16, go_sem, *]) rfl ⟨rfl, ?_⟩
  (repeat (first | (with_reducible exact Fr.refl _ _) | (with_reducible assumption) | (with_reducible exact Fr.of_nil (by assumption)) | (with_reducible refine Fr.drew ?_) | (with_reducible refine Fr.drewN ?_ _) | (with_reducible refine Fr.alloc ?_ _) | (with_reducible refine Fr.set ?_ _ _ (by first | (intros; omega) | (simp; done) | (simp; omega))) | (with_reducible refine Fr.via ?_ (by assumption)) | (with_reducible refine Fr.comp ?_ (by assumption))))
set_option maxRecDepth 100000 in
theorem rcalc_rem_in (x y : Nat) (w : World) (hx : x < 18446744073709551616) (hy : y < 18446744073709551616) (h : wrap64 (y : Int) ≠ 0) (h' : x ≠ 9223372036854775808 ∨ wrap64 (y : Int) ≠ -1) :
    Calls Tryd.prog 16 #[.int .i64 4, .agg #[.bool false, .int .u64 x], .agg #[.bool false, .int .u64 y]] w fun e w' => e = .returned (.tuple #[.agg #[.bool false, .int .u64 ((wrap64 (x : Int)).tmod (wrap64 (y : Int)) % 18446744073709551616)], .int .i64 0]) ∧ Fr Nil w w' := by
  have hfb := fun w b => frombits_run w b
  have H := Lib.hid h
  clear h
  have H' := Lib.hid h'
  clear h'
  go_enter Tryd.func16, Tryd.ntmps16
  go_wp2_with fail
  go_quiet (fail)
  go_wp2_with fail
  refine (rints4_in x y _ hx hy H.out H'.out).mono ?_
  rintro e w1 ⟨rfl, f1⟩
  obtain ⟨_, _, _⟩ := f1.at (w.heap.size) (by first | assumption | omega | (simp; done) | (simp; omega)); obtain ⟨_, _, _⟩ := f1.at (w.heap.size + 1) (by first | assumption | omega | (simp; done) | (simp; omega)); obtain ⟨_, _, _⟩ := f1.at (w.heap.size + 1 + 1) (by first | assumption | omega | (simp; done) | (simp; omega))
  go_wp2
  refine bodyPost_ret (v := .tuple #[.agg #[.bool false, .int .u64 ((wrap64 (x : Int)).tmod (wrap64 (y : Int)) % 18446744073709551616)], .int .i64 0]) (by simp [results, Tryd.results16, go_sem, *]) rfl ⟨rfl, ?_⟩
  (repeat (first | (with_reducible exact Fr.refl _ _) | (with_reducible assumption) | (with_reducible exact Fr.of_nil (by assumption)) | (with_reducible refine Fr.drew ?_) | (with_reducible refine Fr.drewN ?_ _) | (with_reducible refine Fr.alloc ?_ _) | (with_reducible refine Fr.set ?_ _ _ (by first | (intros; omega) | (simp; done) | (simp; omega))) | (with_reducible refine Fr.via ?_ (by assumption)) | (with_reducible refine Fr.comp ?_ (by assumption))))
set_option maxRecDepth 100000 in
theorem rcalc_fadd (x y : Nat) (w : World) :
    Calls Tryd.prog 16 #[.int .i64 7, .agg #[.bool true, .int .u64 x], .agg #[.bool true, .int .u64 y]] w fun e w' => e = .returned (.tuple #[.agg #[.bool true, .int .u64 (fop .add x y)], .int .i64 0]) ∧ Fr Nil w w' := by
  have hfb := fun w b => frombits_run w b
  go_enter Tryd.func16, Tryd.ntmps16
  go_wp2_with fail
  go_quiet (fail)
  obtain ⟨r, w1, hr, hf, hw⟩ := arith_run .add (by simp) 54 x y ((((w.alloc (.cells #[.bool true, .int .u64 x] 25)).alloc (.cells #[.bool true, .int .u64 y] 25)).alloc (.cells #[.bool false, .int .u64 0] 25)).drewN nq) Tryd.prog
  have f1 : Fr Nil ((((w.alloc (.cells #[.bool true, .int .u64 x] 25)).alloc (.cells #[.bool true, .int .u64 y] 25)).alloc (.cells #[.bool false, .int .u64 0] 25)).drewN nq) w1 := by rcases hw with rfl | rfl <;> (repeat (first | (with_reducible exact Fr.refl _ _) | (with_reducible assumption) | (with_reducible exact Fr.of_nil (by assumption)) | (with_reducible refine Fr.drew ?_) | (with_reducible refine Fr.drewN ?_ _) | (with_reducible refine Fr.alloc ?_ _) | (with_reducible refine Fr.set ?_ _ _ (by first | (intros; omega) | (simp; done) | (simp; omega))) | (with_reducible refine Fr.via ?_ (by assumption)) | (with_reducible refine Fr.comp ?_ (by assumption))))
  have HF := Lib.hid hf
  clear hf hw
  obtain ⟨_, _, _⟩ := f1.at (w.heap.size) (by first | assumption | omega | (simp; done) | (simp; omega)); obtain ⟨_, _, _⟩ := f1.at (w.heap.size + 1) (by first | assumption | omega | (simp; done) | (simp; omega)); obtain ⟨_, _, _⟩ := f1.at (w.heap.size + 1 + 1) (by first | assumption | omega | (simp; done) | (simp; omega))
  go_wp2_with fail
  refine (rflt_any _ _).mono ?_
  rw [normR_normF, HF.out.norm]
  rintro e w2 ⟨rfl, f2⟩
  obtain ⟨_, _, _⟩ := f2.at (w.heap.size) (by first | assumption | omega | (simp; done) | (simp; omega)); obtain ⟨_, _, _⟩ := f2.at (w.heap.size + 1) (by first | assumption | omega | (simp; done) | (simp; omega)); obtain ⟨_, _, _⟩ := f2.at (w.heap.size + 1 + 1) (by first | assumption | omega | (simp; done) | (simp; omega))
  clear hr
  go_wp2
  refine bodyPost_ret (v := .tuple #[.agg #[.bool true, .int .u64 (fop .add x y)], .int .i64 0]) (by simp [results, Tryd.results16, go_sem, *]) rfl ⟨rfl, ?_⟩
  (repeat (first | (with_reducible exact Fr.refl _ _) | (with_reducible assumption) | (with_reducible exact Fr.of_nil (by assumption)) | (with_reducible refine Fr.drew ?_) | (with_reducible refine Fr.drewN ?_ _) | (with_reducible refine Fr.alloc ?_ _) | (with_reducible refine Fr.set ?_ _ _ (by first | (intros; omega) | (simp; done) | (simp; omega))) | (with_reducible refine Fr.via ?_ (by assumption)) | (with_reducible refine Fr.comp ?_ (by assumption))))
set_option maxRecDepth 100000 in
theorem rcalc_fsub (x y : Nat) (w : World) :
    Calls Tryd.prog 16 #[.int .i64 8, .agg #[.bool true, .int .u64 x], .agg #[.bool true, .int .u64 y]] w fun e w' => e = .returned (.tuple #[.agg #[.bool true, .int .u64 (fop .sub x y)], .int .i64 0]) ∧ Fr Nil w w' := by
  have hfb := fun w b => frombits_run w b
  go_enter Tryd.func16, Tryd.ntmps16
  go_wp2_with fail
  go_quiet (fail)
  obtain ⟨r, w1, hr, hf, hw⟩ := arith_run .sub (by simp) 54 x y ((((w.alloc (.cells #[.bool true, .int .u64 x] 25)).alloc (.cells #[.bool true, .int .u64 y] 25)).alloc (.cells #[.bool false, .int .u64 0] 25)).drewN nq) Tryd.prog
  have f1 : Fr Nil ((((w.alloc (.cells #[.bool true, .int .u64 x] 25)).alloc (.cells #[.bool true, .int .u64 y] 25)).alloc (.cells #[.bool false, .int .u64 0] 25)).drewN nq) w1 := by rcases hw with rfl | rfl <;> (repeat (first | (with_reducible exact Fr.refl _ _) | (with_reducible assumption) | (with_reducible exact Fr.of_nil (by assumption)) | (with_reducible refine Fr.drew ?_) | (with_reducible refine Fr.drewN ?_ _) | (with_reducible refine Fr.alloc ?_ _) | (with_reducible refine Fr.set ?_ _ _ (by first | (intros; omega) | (simp; done) | (simp; omega))) | (with_reducible refine Fr.via ?_ (by assumption)) | (with_reducible refine Fr.comp ?_ (by assumption))))
  have HF := Lib.hid hf
  clear hf hw
  obtain ⟨_, _, _⟩ := f1.at (w.heap.size) (by first | assumption | omega | (simp; done) | (simp; omega)); obtain ⟨_, _, _⟩ := f1.at (w.heap.size + 1) (by first | assumption | omega | (simp; done) | (simp; omega)); obtain ⟨_, _, _⟩ := f1.at (w.heap.size + 1 + 1) (by first | assumption | omega | (simp; done) | (simp; omega))
  go_wp2_with fail
  refine (rflt_any _ _).mono ?_
  rw [normR_normF, HF.out.norm]
  rintro e w2 ⟨rfl, f2⟩
  obtain ⟨_, _, _⟩ := f2.at (w.heap.size) (by first | assumption | omega | (simp; done) | (simp; omega)); obtain ⟨_, _, _⟩ := f2.at (w.heap.size + 1) (by first | assumption | omega | (simp; done) | (simp; omega)); obtain ⟨_, _, _⟩ := f2.at (w.heap.size + 1 + 1) (by first | assumption | omega | (simp; done) | (simp; omega))
  clear hr
  go_wp2
  refine bodyPost_ret (v := .tuple #[.agg #[.bool true, .int .u64 (fop .sub x y)], .int .i64 0]) (by simp [results, Tryd.results16, go_sem, *]) rfl ⟨rfl, ?_⟩
  (repeat (first | (with_reducible exact Fr.refl _ _) | (with_reducible assumption) | (with_reducible exact Fr.of_nil (by assumption)) | (with_reducible refine Fr.drew ?_) | (with_reducible refine Fr.drewN ?_ _) | (with_reducible refine Fr.alloc ?_ _) | (with_reducible refine Fr.set ?_ _ _ (by first | (intros; omega) | (simp; done) | (simp; omega))) | (with_reducible refine Fr.via ?_ (by assumption)) | (with_reducible refine Fr.comp ?_ (by assumption))))
set_option maxRecDepth 100000 in
theorem rcalc_fmul (x y : Nat) (w : World) :
    Calls Tryd.prog 16 #[.int .i64 9, .agg #[.bool true, .int .u64 x], .agg #[.bool true, .int .u64 y]] w fun e w' => e = .returned (.tuple #[.agg #[.bool true, .int .u64 (fop .mul x y)], .int .i64 0]) ∧ Fr Nil w w' := by
  have hfb := fun w b => frombits_run w b
  go_enter Tryd.func16, Tryd.ntmps16
  go_wp2_with fail
  go_quiet (fail)
  obtain ⟨r, w1, hr, hf, hw⟩ := arith_run .mul (by simp) 54 x y ((((w.alloc (.cells #[.bool true, .int .u64 x] 25)).alloc (.cells #[.bool true, .int .u64 y] 25)).alloc (.cells #[.bool false, .int .u64 0] 25)).drewN nq) Tryd.prog
  have f1 : Fr Nil ((((w.alloc (.cells #[.bool true, .int .u64 x] 25)).alloc (.cells #[.bool true, .int .u64 y] 25)).alloc (.cells #[.bool false, .int .u64 0] 25)).drewN nq) w1 := by rcases hw with rfl | rfl <;> (repeat (first | (with_reducible exact Fr.refl _ _) | (with_reducible assumption) | (with_reducible exact Fr.of_nil (by assumption)) | (with_reducible refine Fr.drew ?_) | (with_reducible refine Fr.drewN ?_ _) | (with_reducible refine Fr.alloc ?_ _) | (with_reducible refine Fr.set ?_ _ _ (by first | (intros; omega) | (simp; done) | (simp; omega))) | (with_reducible refine Fr.via ?_ (by assumption)) | (with_reducible refine Fr.comp ?_ (by assumption))))
  have HF := Lib.hid hf
  clear hf hw
  obtain ⟨_, _, _⟩ := f1.at (w.heap.size) (by first | assumption | omega | (simp; done) | (simp; omega)); obtain ⟨_, _, _⟩ := f1.at (w.heap.size + 1) (by first | assumption | omega | (simp; done) | (simp; omega)); obtain ⟨_, _, _⟩ := f1.at (w.heap.size + 1 + 1) (by first | assumption | omega | (simp; done) | (simp; omega))
  go_wp2_with fail
  refine (rflt_any _ _).mono ?_
  rw [normR_normF, HF.out.norm]
  rintro e w2 ⟨rfl, f2⟩
  obtain ⟨_, _, _⟩ := f2.at (w.heap.size) (by first | assumption | omega | (simp; done) | (simp; omega)); obtain ⟨_, _, _⟩ := f2.at (w.heap.size + 1) (by first | assumption | omega | (simp; done) | (simp; omega)); obtain ⟨_, _, _⟩ := f2.at (w.heap.size + 1 + 1) (by first | assumption | omega | (simp; done) | (simp; omega))
  clear hr
  go_wp2
  refine bodyPost_ret (v := .tuple #[.agg #[.bool true, .int .u64 (fop .mul x y)], .int .i64 0]) (by simp [results, Tryd.results16, go_sem, *]) rfl ⟨rfl, ?_⟩
  (repeat (first | (with_reducible exact Fr.refl _ _) | (with_reducible assumption) | (with_reducible exact Fr.of_nil (by assumption)) | (with_reducible refine Fr.drew ?_) | (with_reducible refine Fr.drewN ?_ _) | (with_reducible refine Fr.alloc ?_ _) | (with_reducible refine Fr.set ?_ _ _ (by first | (intros; omega) | (simp; done) | (simp; omega))) | (with_reducible refine Fr.via ?_ (by assumption)) | (with_reducible refine Fr.comp ?_ (by assumption))))
set_option maxRecDepth 100000 in
theorem rcalc_fquo (x y : Nat) (w : World) :
    Calls Tryd.prog 16 #[.int .i64 10, .agg #[.bool true, .int .u64 x], .agg #[.bool true, .int .u64 y]] w fun e w' => e = .returned (.tuple #[.agg #[.bool true, .int .u64 (fop .quo x y)], .int .i64 0]) ∧ Fr Nil w w' := by
  have hfb := fun w b => frombits_run w b
  go_enter Tryd.func16, Tryd.ntmps16
  go_wp2_with fail
  go_quiet (fail)
  obtain ⟨r, w1, hr, hf, hw⟩ := arith_run .quo (by simp) 54 x y ((((w.alloc (.cells #[.bool true, .int .u64 x] 25)).alloc (.cells #[.bool true, .int .u64 y] 25)).alloc (.cells #[.bool false, .int .u64 0] 25)).drewN nq) Tryd.prog
  have f1 : Fr Nil ((((w.alloc (.cells #[.bool true, .int .u64 x] 25)).alloc (.cells #[.bool true, .int .u64 y] 25)).alloc (.cells #[.bool false, .int .u64 0] 25)).drewN nq) w1 := by rcases hw with rfl | rfl <;> (repeat (first | (with_reducible exact Fr.refl _ _) | (with_reducible assumption) | (with_reducible exact Fr.of_nil (by assumption)) | (with_reducible refine Fr.drew ?_) | (with_reducible refine Fr.drewN ?_ _) | (with_reducible refine Fr.alloc ?_ _) | (with_reducible refine Fr.set ?_ _ _ (by first | (intros; omega) | (simp; done) | (simp; omega))) | (with_reducible refine Fr.via ?_ (by assumption)) | (with_reducible refine Fr.comp ?_ (by assumption))))
  have HF := Lib.hid hf
  clear hf hw
  obtain ⟨_, _, _⟩ := f1.at (w.heap.size) (by first | assumption | omega | (simp; done) | (simp; omega)); obtain ⟨_, _, _⟩ := f1.at (w.heap.size + 1) (by first | assumption | omega | (simp; done) | (simp; omega)); obtain ⟨_, _, _⟩ := f1.at (w.heap.size + 1 + 1) (by first | assumption | omega | (simp; done) | (simp; omega))
  go_wp2_with fail
  refine (rflt_any _ _).mono ?_
  rw [normR_normF, HF.out.norm]
  rintro e w2 ⟨rfl, f2⟩
  obtain ⟨_, _, _⟩ := f2.at (w.heap.size) (by first | assumption | omega | (simp; done) | (simp; omega)); obtain ⟨_, _, _⟩ := f2.at (w.heap.size + 1) (by first | assumption | omega | (simp; done) | (simp; omega)); obtain ⟨_, _, _⟩ := f2.at (w.heap.size + 1 + 1) (by first | assumption | omega | (simp; done) | (simp; omega))
  clear hr
  go_wp2
  refine bodyPost_ret (v := .tuple #[.agg #[.bool true, .int .u64 (fop .quo x y)], .int .i64 0]) (by simp [results, Tryd.results16, go_sem, *]) rfl ⟨rfl, ?_⟩
  (repeat (first | (with_reducible exact Fr.refl _ _) | (with_reducible assumption) | (with_reducible exact Fr.of_nil (by assumption)) | (with_reducible refine Fr.drew ?_) | (with_reducible refine Fr.drewN ?_ _) | (with_reducible refine Fr.alloc ?_ _) | (with_reducible refine Fr.set ?_ _ _ (by first | (intros; omega) | (simp; done) | (simp; omega))) | (with_reducible refine Fr.via ?_ (by assumption)) | (with_reducible refine Fr.comp ?_ (by assumption))))
set_option maxRecDepth 100000 in
theorem rcalc_float (x y : Nat) (g : Bool) (w : World) :
    Calls Tryd.prog 16 #[.int .i64 13, .agg #[.bool false, .int .u64 x], .agg #[.bool g, .int .u64 y]] w fun e w' => e = .returned (.tuple #[.agg #[.bool true, .int .u64 (normF (floatOfInt .f64 (wrap64 x)))], .int .i64 0]) ∧ Fr Nil w w' := by
  have hfb := fun w b => frombits_run w b
  go_enter Tryd.func16, Tryd.ntmps16
  go_wp2_with fail
  go_quiet (fail)
  go_wp2_with fail
  refine (rflt_any _ _).mono ?_
  rw [normR_normF]
  rintro e w1 ⟨rfl, f1⟩
  obtain ⟨_, _, _⟩ := f1.at (w.heap.size) (by first | assumption | omega | (simp; done) | (simp; omega)); obtain ⟨_, _, _⟩ := f1.at (w.heap.size + 1) (by first | assumption | omega | (simp; done) | (simp; omega)); obtain ⟨_, _, _⟩ := f1.at (w.heap.size + 1 + 1) (by first | assumption | omega | (simp; done) | (simp; omega))
  go_wp2
  refine bodyPost_ret (v := .tuple #[.agg #[.bool true, .int .u64 (normF (floatOfInt .f64 (wrap64 x)))], .int .i64 0]) (by simp [results, Tryd.results16, go_sem, *]) rfl ⟨rfl, ?_⟩
  (repeat (first | (with_reducible exact Fr.refl _ _) | (with_reducible assumption) | (with_reducible exact Fr.of_nil (by assumption)) | (with_reducible refine Fr.drew ?_) | (with_reducible refine Fr.drewN ?_ _) | (with_reducible refine Fr.alloc ?_ _) | (with_reducible refine Fr.set ?_ _ _ (by first | (intros; omega) | (simp; done) | (simp; omega))) | (with_reducible refine Fr.via ?_ (by assumption)) | (with_reducible refine Fr.comp ?_ (by assumption))))
set_option maxRecDepth 100000 in
theorem rcalc_trunc_small (x y : Nat) (g : Bool) (w : World) (hx : x < 18446744073709551616) (h : exR x < 1023) :
    Calls Tryd.prog 16 #[.int .i64 14, .agg #[.bool true, .int .u64 x], .agg #[.bool g, .int .u64 y]] w fun e w' => e = .returned (.tuple #[.agg #[.bool false, .int .u64 0], .int .i64 0]) ∧ Fr Nil w w' := by
  have hfb := fun w b => frombits_run w b
  go_enter Tryd.func16, Tryd.ntmps16
  go_wp2_with fail
  go_quiet (fail)
  go_wp2_with fail
  refine (rtrunc_small x _ hx h).mono ?_
  rintro e w1 ⟨rfl, f1⟩
  obtain ⟨_, _, _⟩ := f1.at (w.heap.size) (by first | assumption | omega | (simp; done) | (simp; omega)); obtain ⟨_, _, _⟩ := f1.at (w.heap.size + 1) (by first | assumption | omega | (simp; done) | (simp; omega)); obtain ⟨_, _, _⟩ := f1.at (w.heap.size + 1 + 1) (by first | assumption | omega | (simp; done) | (simp; omega))
  go_wp2
  refine bodyPost_ret (v := .tuple #[.agg #[.bool false, .int .u64 0], .int .i64 0]) (by simp [results, Tryd.results16, go_sem, *]) rfl ⟨rfl, ?_⟩
  (repeat (first | (with_reducible exact Fr.refl _ _) | (with_reducible assumption) | (with_reducible exact Fr.of_nil (by assumption)) | (with_reducible refine Fr.drew ?_) | (with_reducible refine Fr.drewN ?_ _) | (with_reducible refine Fr.alloc ?_ _) | (with_reducible refine Fr.set ?_ _ _ (by first | (intros; omega) | (simp; done) | (simp; omega))) | (with_reducible refine Fr.via ?_ (by assumption)) | (with_reducible refine Fr.comp ?_ (by assumption))))
set_option maxRecDepth 100000 in
theorem rcalc_trunc_least (x y : Nat) (g : Bool) (w : World) (hx : x < 18446744073709551616) (hm : 9223372036854775808 ≤ x) (h : exR x = 1086) (hM4 : mnR x = 4503599627370496) :
    Calls Tryd.prog 16 #[.int .i64 14, .agg #[.bool true, .int .u64 x], .agg #[.bool g, .int .u64 y]] w fun e w' => e = .returned (.tuple #[.agg #[.bool false, .int .u64 9223372036854775808], .int .i64 0]) ∧ Fr Nil w w' := by
  have hfb := fun w b => frombits_run w b
  go_enter Tryd.func16, Tryd.ntmps16
  go_wp2_with fail
  go_quiet (fail)
  go_wp2_with fail
  refine (rtrunc_least x _ hx hm h hM4).mono ?_
  rintro e w1 ⟨rfl, f1⟩
  obtain ⟨_, _, _⟩ := f1.at (w.heap.size) (by first | assumption | omega | (simp; done) | (simp; omega)); obtain ⟨_, _, _⟩ := f1.at (w.heap.size + 1) (by first | assumption | omega | (simp; done) | (simp; omega)); obtain ⟨_, _, _⟩ := f1.at (w.heap.size + 1 + 1) (by first | assumption | omega | (simp; done) | (simp; omega))
  go_wp2
  refine bodyPost_ret (v := .tuple #[.agg #[.bool false, .int .u64 9223372036854775808], .int .i64 0]) (by simp [results, Tryd.results16, go_sem, *]) rfl ⟨rfl, ?_⟩
  (repeat (first | (with_reducible exact Fr.refl _ _) | (with_reducible assumption) | (with_reducible exact Fr.of_nil (by assumption)) | (with_reducible refine Fr.drew ?_) | (with_reducible refine Fr.drewN ?_ _) | (with_reducible refine Fr.alloc ?_ _) | (with_reducible refine Fr.set ?_ _ _ (by first | (intros; omega) | (simp; done) | (simp; omega))) | (with_reducible refine Fr.via ?_ (by assumption)) | (with_reducible refine Fr.comp ?_ (by assumption))))
set_option maxRecDepth 100000 in
theorem rcalc_trunc_great (x y : Nat) (g : Bool) (w : World) (hx : x < 18446744073709551616) (h : 1086 ≤ exR x) (hn : x < 9223372036854775808 ∨ exR x ≠ 1086 ∨ mnR x ≠ 4503599627370496) :
    Calls Tryd.prog 16 #[.int .i64 14, .agg #[.bool true, .int .u64 x], .agg #[.bool g, .int .u64 y]] w fun e w' => e = .returned (.tuple #[.agg #[.bool false, .int .u64 0], .int .i64 1]) ∧ Fr Nil w w' := by
  have hfb := fun w b => frombits_run w b
  go_enter Tryd.func16, Tryd.ntmps16
  go_wp2_with fail
  go_quiet (fail)
  go_wp2_with fail
  refine (rtrunc_great x _ hx h hn).mono ?_
  rintro e w1 ⟨rfl, f1⟩
  obtain ⟨_, _, _⟩ := f1.at (w.heap.size) (by first | assumption | omega | (simp; done) | (simp; omega)); obtain ⟨_, _, _⟩ := f1.at (w.heap.size + 1) (by first | assumption | omega | (simp; done) | (simp; omega)); obtain ⟨_, _, _⟩ := f1.at (w.heap.size + 1 + 1) (by first | assumption | omega | (simp; done) | (simp; omega))
  go_wp2
  refine bodyPost_ret (v := .tuple #[.agg #[.bool false, .int .u64 0], .int .i64 1]) (by simp [results, Tryd.results16, go_sem, *]) rfl ⟨rfl, ?_⟩
  (repeat (first | (with_reducible exact Fr.refl _ _) | (with_reducible assumption) | (with_reducible exact Fr.of_nil (by assumption)) | (with_reducible refine Fr.drew ?_) | (with_reducible refine Fr.drewN ?_ _) | (with_reducible refine Fr.alloc ?_ _) | (with_reducible refine Fr.set ?_ _ _ (by first | (intros; omega) | (simp; done) | (simp; omega))) | (with_reducible refine Fr.via ?_ (by assumption)) | (with_reducible refine Fr.comp ?_ (by assumption))))
set_option maxRecDepth 100000 in
theorem rcalc_trunc_in (x y : Nat) (g : Bool) (w : World) (hx : x < 18446744073709551616) (h : 1023 ≤ exR x) (h' : exR x < 1086) :
    Calls Tryd.prog 16 #[.int .i64 14, .agg #[.bool true, .int .u64 x], .agg #[.bool g, .int .u64 y]] w fun e w' => e = .returned (.tuple #[.agg #[.bool false, .int .u64 (IntKind.u64.wrap (truncS (decide (9223372036854775808 ≤ x)) x))], .int .i64 0]) ∧ Fr Nil w w' := by
  have hfb := fun w b => frombits_run w b
  go_enter Tryd.func16, Tryd.ntmps16
  go_wp2_with fail
  go_quiet (fail)
  go_wp2_with fail
  refine (rtrunc_in x _ hx h h').mono ?_
  rintro e w1 ⟨rfl, f1⟩
  obtain ⟨_, _, _⟩ := f1.at (w.heap.size) (by first | assumption | omega | (simp; done) | (simp; omega)); obtain ⟨_, _, _⟩ := f1.at (w.heap.size + 1) (by first | assumption | omega | (simp; done) | (simp; omega)); obtain ⟨_, _, _⟩ := f1.at (w.heap.size + 1 + 1) (by first | assumption | omega | (simp; done) | (simp; omega))
  go_wp2
  refine bodyPost_ret (v := .tuple #[.agg #[.bool false, .int .u64 (IntKind.u64.wrap (truncS (decide (9223372036854775808 ≤ x)) x))], .int .i64 0]) (by simp [results, Tryd.results16, go_sem, *]) rfl ⟨rfl, ?_⟩
  (repeat (first | (with_reducible exact Fr.refl _ _) | (with_reducible assumption) | (with_reducible exact Fr.of_nil (by assumption)) | (with_reducible refine Fr.drew ?_) | (with_reducible refine Fr.drewN ?_ _) | (with_reducible refine Fr.alloc ?_ _) | (with_reducible refine Fr.set ?_ _ _ (by first | (intros; omega) | (simp; done) | (simp; omega))) | (with_reducible refine Fr.via ?_ (by assumption)) | (with_reducible refine Fr.comp ?_ (by assumption))))
set_option maxRecDepth 100000 in
theorem rcalc_kind0 (f g : Bool) (x y : Int) (w : World) (hk : (f == false && g == false) = false) :
    Calls Tryd.prog 16 #[.int .i64 0, .agg #[.bool f, .int .u64 x], .agg #[.bool g, .int .u64 y]] w fun e w' => e = .returned (.tuple #[.agg #[.bool false, .int .u64 0], .int .i64 6]) ∧ Fr Nil w w' := by
  cases f <;> cases g <;> simp at hk
  all_goals
    go_enter Tryd.func16, Tryd.ntmps16
    go_wp2
    refine bodyPost_ret (v := .tuple #[.agg #[.bool false, .int .u64 0], .int .i64 6]) (by simp [results, Tryd.results16, go_sem, *]) rfl ⟨rfl, ?_⟩
    (repeat (first | (with_reducible exact Fr.refl _ _) | (with_reducible assumption) | (with_reducible exact Fr.of_nil (by assumption)) | (with_reducible refine Fr.drew ?_) | (with_reducible refine Fr.drewN ?_ _) | (with_reducible refine Fr.alloc ?_ _) | (with_reducible refine Fr.set ?_ _ _ (by first | (intros; omega) | (simp; done) | (simp; omega))) | (with_reducible refine Fr.via ?_ (by assumption)) | (with_reducible refine Fr.comp ?_ (by assumption))))
set_option maxRecDepth 100000 in
theorem rcalc_kind1 (f g : Bool) (x y : Int) (w : World) (hk : (f == false && g == false) = false) :
    Calls Tryd.prog 16 #[.int .i64 1, .agg #[.bool f, .int .u64 x], .agg #[.bool g, .int .u64 y]] w fun e w' => e = .returned (.tuple #[.agg #[.bool false, .int .u64 0], .int .i64 6]) ∧ Fr Nil w w' := by
  cases f <;> cases g <;> simp at hk
  all_goals
    go_enter Tryd.func16, Tryd.ntmps16
    go_wp2
    refine bodyPost_ret (v := .tuple #[.agg #[.bool false, .int .u64 0], .int .i64 6]) (by simp [results, Tryd.results16, go_sem, *]) rfl ⟨rfl, ?_⟩
    (repeat (first | (with_reducible exact Fr.refl _ _) | (with_reducible assumption) | (with_reducible exact Fr.of_nil (by assumption)) | (with_reducible refine Fr.drew ?_) | (with_reducible refine Fr.drewN ?_ _) | (with_reducible refine Fr.alloc ?_ _) | (with_reducible refine Fr.set ?_ _ _ (by first | (intros; omega) | (simp; done) | (simp; omega))) | (with_reducible refine Fr.via ?_ (by assumption)) | (with_reducible refine Fr.comp ?_ (by assumption))))
set_option maxRecDepth 100000 in
theorem rcalc_kind2 (f g : Bool) (x y : Int) (w : World) (hk : (f == false && g == false) = false) :
    Calls Tryd.prog 16 #[.int .i64 2, .agg #[.bool f, .int .u64 x], .agg #[.bool g, .int .u64 y]] w fun e w' => e = .returned (.tuple #[.agg #[.bool false, .int .u64 0], .int .i64 6]) ∧ Fr Nil w w' := by
  cases f <;> cases g <;> simp at hk
  all_goals
    go_enter Tryd.func16, Tryd.ntmps16
    go_wp2
    refine bodyPost_ret (v := .tuple #[.agg #[.bool false, .int .u64 0], .int .i64 6]) (by simp [results, Tryd.results16, go_sem, *]) rfl ⟨rfl, ?_⟩
    (repeat (first | (with_reducible exact Fr.refl _ _) | (with_reducible assumption) | (with_reducible exact Fr.of_nil (by assumption)) | (with_reducible refine Fr.drew ?_) | (with_reducible refine Fr.drewN ?_ _) | (with_reducible refine Fr.alloc ?_ _) | (with_reducible refine Fr.set ?_ _ _ (by first | (intros; omega) | (simp; done) | (simp; omega))) | (with_reducible refine Fr.via ?_ (by assumption)) | (with_reducible refine Fr.comp ?_ (by assumption))))
set_option maxRecDepth 100000 in
theorem rcalc_kind3 (f g : Bool) (x y : Int) (w : World) (hk : (f == false && g == false) = false) :
    Calls Tryd.prog 16 #[.int .i64 3, .agg #[.bool f, .int .u64 x], .agg #[.bool g, .int .u64 y]] w fun e w' => e = .returned (.tuple #[.agg #[.bool false, .int .u64 0], .int .i64 6]) ∧ Fr Nil w w' := by
  cases f <;> cases g <;> simp at hk
  all_goals
    go_enter Tryd.func16, Tryd.ntmps16
    go_wp2
    refine bodyPost_ret (v := .tuple #[.agg #[.bool false, .int .u64 0], .int .i64 6]) (by simp [results, Tryd.results16, go_sem, *]) rfl ⟨rfl, ?_⟩
    (repeat (first | (with_reducible exact Fr.refl _ _) | (with_reducible assumption) | (with_reducible exact Fr.of_nil (by assumption)) | (with_reducible refine Fr.drew ?_) | (with_reducible refine Fr.drewN ?_ _) | (with_reducible refine Fr.alloc ?_ _) | (with_reducible refine Fr.set ?_ _ _ (by first | (intros; omega) | (simp; done) | (simp; omega))) | (with_reducible refine Fr.via ?_ (by assumption)) | (with_reducible refine Fr.comp ?_ (by assumption))))
set_option maxRecDepth 100000 in
theorem rcalc_kind4 (f g : Bool) (x y : Int) (w : World) (hk : (f == false && g == false) = false) :
    Calls Tryd.prog 16 #[.int .i64 4, .agg #[.bool f, .int .u64 x], .agg #[.bool g, .int .u64 y]] w fun e w' => e = .returned (.tuple #[.agg #[.bool false, .int .u64 0], .int .i64 6]) ∧ Fr Nil w w' := by
  cases f <;> cases g <;> simp at hk
  all_goals
    go_enter Tryd.func16, Tryd.ntmps16
    go_wp2
    refine bodyPost_ret (v := .tuple #[.agg #[.bool false, .int .u64 0], .int .i64 6]) (by simp [results, Tryd.results16, go_sem, *]) rfl ⟨rfl, ?_⟩
    (repeat (first | (with_reducible exact Fr.refl _ _) | (with_reducible assumption) | (with_reducible exact Fr.of_nil (by assumption)) | (with_reducible refine Fr.drew ?_) | (with_reducible refine Fr.drewN ?_ _) | (with_reducible refine Fr.alloc ?_ _) | (with_reducible refine Fr.set ?_ _ _ (by first | (intros; omega) | (simp; done) | (simp; omega))) | (with_reducible refine Fr.via ?_ (by assumption)) | (with_reducible refine Fr.comp ?_ (by assumption))))
set_option maxRecDepth 100000 in
theorem rcalc_kind7 (f g : Bool) (x y : Int) (w : World) (hk : (f == true && g == true) = false) :
    Calls Tryd.prog 16 #[.int .i64 7, .agg #[.bool f, .int .u64 x], .agg #[.bool g, .int .u64 y]] w fun e w' => e = .returned (.tuple #[.agg #[.bool false, .int .u64 0], .int .i64 6]) ∧ Fr Nil w w' := by
  cases f <;> cases g <;> simp at hk
  all_goals
    go_enter Tryd.func16, Tryd.ntmps16
    go_wp2
    refine bodyPost_ret (v := .tuple #[.agg #[.bool false, .int .u64 0], .int .i64 6]) (by simp [results, Tryd.results16, go_sem, *]) rfl ⟨rfl, ?_⟩
    (repeat (first | (with_reducible exact Fr.refl _ _) | (with_reducible assumption) | (with_reducible exact Fr.of_nil (by assumption)) | (with_reducible refine Fr.drew ?_) | (with_reducible refine Fr.drewN ?_ _) | (with_reducible refine Fr.alloc ?_ _) | (with_reducible refine Fr.set ?_ _ _ (by first | (intros; omega) | (simp; done) | (simp; omega))) | (with_reducible refine Fr.via ?_ (by assumption)) | (with_reducible refine Fr.comp ?_ (by assumption))))
set_option maxRecDepth 100000 in
theorem rcalc_kind8 (f g : Bool) (x y : Int) (w : World) (hk : (f == true && g == true) = false) :
    Calls Tryd.prog 16 #[.int .i64 8, .agg #[.bool f, .int .u64 x], .agg #[.bool g, .int .u64 y]] w fun e w' => e = .returned (.tuple #[.agg #[.bool false, .int .u64 0], .int .i64 6]) ∧ Fr Nil w w' := by
  cases f <;> cases g <;> simp at hk
  all_goals
    go_enter Tryd.func16, Tryd.ntmps16
    go_wp2
    refine bodyPost_ret (v := .tuple #[.agg #[.bool false, .int .u64 0], .int .i64 6]) (by simp [results, Tryd.results16, go_sem, *]) rfl ⟨rfl, ?_⟩
    (repeat (first | (with_reducible exact Fr.refl _ _) | (with_reducible assumption) | (with_reducible exact Fr.of_nil (by assumption)) | (with_reducible refine Fr.drew ?_) | (with_reducible refine Fr.drewN ?_ _) | (with_reducible refine Fr.alloc ?_ _) | (with_reducible refine Fr.set ?_ _ _ (by first | (intros; omega) | (simp; done) | (simp; omega))) | (with_reducible refine Fr.via ?_ (by assumption)) | (with_reducible refine Fr.comp ?_ (by assumption))))
set_option maxRecDepth 100000 in
theorem rcalc_kind9 (f g : Bool) (x y : Int) (w : World) (hk : (f == true && g == true) = false) :
    Calls Tryd.prog 16 #[.int .i64 9, .agg #[.bool f, .int .u64 x], .agg #[.bool g, .int .u64 y]] w fun e w' => e = .returned (.tuple #[.agg #[.bool false, .int .u64 0], .int .i64 6]) ∧ Fr Nil w w' := by
  cases f <;> cases g <;> simp at hk
  all_goals
    go_enter Tryd.func16, Tryd.ntmps16
    go_wp2
    refine bodyPost_ret (v := .tuple #[.agg #[.bool false, .int .u64 0], .int .i64 6]) (by simp [results, Tryd.results16, go_sem, *]) rfl ⟨rfl, ?_⟩
    (repeat (first | (with_reducible exact Fr.refl _ _) | (with_reducible assumption) | (with_reducible exact Fr.of_nil (by assumption)) | (with_reducible refine Fr.drew ?_) | (with_reducible refine Fr.drewN ?_ _) | (with_reducible refine Fr.alloc ?_ _) | (with_reducible refine Fr.set ?_ _ _ (by first | (intros; omega) | (simp; done) | (simp; omega))) | (with_reducible refine Fr.via ?_ (by assumption)) | (with_reducible refine Fr.comp ?_ (by assumption))))
set_option maxRecDepth 100000 in
theorem rcalc_kind10 (f g : Bool) (x y : Int) (w : World) (hk : (f == true && g == true) = false) :
    Calls Tryd.prog 16 #[.int .i64 10, .agg #[.bool f, .int .u64 x], .agg #[.bool g, .int .u64 y]] w fun e w' => e = .returned (.tuple #[.agg #[.bool false, .int .u64 0], .int .i64 6]) ∧ Fr Nil w w' := by
  cases f <;> cases g <;> simp at hk
  all_goals
    go_enter Tryd.func16, Tryd.ntmps16
    go_wp2
    refine bodyPost_ret (v := .tuple #[.agg #[.bool false, .int .u64 0], .int .i64 6]) (by simp [results, Tryd.results16, go_sem, *]) rfl ⟨rfl, ?_⟩
    (repeat (first | (with_reducible exact Fr.refl _ _) | (with_reducible assumption) | (with_reducible exact Fr.of_nil (by assumption)) | (with_reducible refine Fr.drew ?_) | (with_reducible refine Fr.drewN ?_ _) | (with_reducible refine Fr.alloc ?_ _) | (with_reducible refine Fr.set ?_ _ _ (by first | (intros; omega) | (simp; done) | (simp; omega))) | (with_reducible refine Fr.via ?_ (by assumption)) | (with_reducible refine Fr.comp ?_ (by assumption))))
set_option maxRecDepth 100000 in
theorem rcalc_kind13 (f g : Bool) (x y : Int) (w : World) (hk : (f == false) = false) :
    Calls Tryd.prog 16 #[.int .i64 13, .agg #[.bool f, .int .u64 x], .agg #[.bool g, .int .u64 y]] w fun e w' => e = .returned (.tuple #[.agg #[.bool false, .int .u64 0], .int .i64 6]) ∧ Fr Nil w w' := by
  cases f <;> cases g <;> simp at hk
  all_goals
    go_enter Tryd.func16, Tryd.ntmps16
    go_wp2
    refine bodyPost_ret (v := .tuple #[.agg #[.bool false, .int .u64 0], .int .i64 6]) (by simp [results, Tryd.results16, go_sem, *]) rfl ⟨rfl, ?_⟩
    (repeat (first | (with_reducible exact Fr.refl _ _) | (with_reducible assumption) | (with_reducible exact Fr.of_nil (by assumption)) | (with_reducible refine Fr.drew ?_) | (with_reducible refine Fr.drewN ?_ _) | (with_reducible refine Fr.alloc ?_ _) | (with_reducible refine Fr.set ?_ _ _ (by first | (intros; omega) | (simp; done) | (simp; omega))) | (with_reducible refine Fr.via ?_ (by assumption)) | (with_reducible refine Fr.comp ?_ (by assumption))))
set_option maxRecDepth 100000 in
theorem rcalc_kind14 (f g : Bool) (x y : Int) (w : World) (hk : (f == true) = false) :
    Calls Tryd.prog 16 #[.int .i64 14, .agg #[.bool f, .int .u64 x], .agg #[.bool g, .int .u64 y]] w fun e w' => e = .returned (.tuple #[.agg #[.bool false, .int .u64 0], .int .i64 6]) ∧ Fr Nil w w' := by
  cases f <;> cases g <;> simp at hk
  all_goals
    go_enter Tryd.func16, Tryd.ntmps16
    go_wp2
    refine bodyPost_ret (v := .tuple #[.agg #[.bool false, .int .u64 0], .int .i64 6]) (by simp [results, Tryd.results16, go_sem, *]) rfl ⟨rfl, ?_⟩
    (repeat (first | (with_reducible exact Fr.refl _ _) | (with_reducible assumption) | (with_reducible exact Fr.of_nil (by assumption)) | (with_reducible refine Fr.drew ?_) | (with_reducible refine Fr.drewN ?_ _) | (with_reducible refine Fr.alloc ?_ _) | (with_reducible refine Fr.set ?_ _ _ (by first | (intros; omega) | (simp; done) | (simp; omega))) | (with_reducible refine Fr.via ?_ (by assumption)) | (with_reducible refine Fr.comp ?_ (by assumption))))
set_option maxRecDepth 100000 in
theorem rcalc_range (op : Int) (f g : Bool) (x y : Int) (w : World) (h : op < 0 ∨ op = 5 ∨ op = 6 ∨ op = 11 ∨ op = 12 ∨ 14 < op) :
    Calls Tryd.prog 16 #[.int .i64 op, .agg #[.bool f, .int .u64 x], .agg #[.bool g, .int .u64 y]] w fun e w' => e = .returned (.tuple #[.agg #[.bool false, .int .u64 0], .int .i64 1]) ∧ Fr Nil w w' := by
  rcases h with h | rfl | rfl | rfl | rfl | h
  all_goals
    (try have h1 : ¬ (op < 0) := by omega)
    (try have h2 : (op == 13) = false := by simp; omega)
    (try have h3 : (op == 14) = false := by simp; omega)
    go_enter Tryd.func16, Tryd.ntmps16
    go_wp2
    refine bodyPost_ret (v := .tuple #[.agg #[.bool false, .int .u64 0], .int .i64 1]) (by simp [results, Tryd.results16, go_sem, *]) rfl ⟨rfl, ?_⟩
    (repeat (first | (with_reducible exact Fr.refl _ _) | (with_reducible assumption) | (with_reducible exact Fr.of_nil (by assumption)) | (with_reducible refine Fr.drew ?_) | (with_reducible refine Fr.drewN ?_ _) | (with_reducible refine Fr.alloc ?_ _) | (with_reducible refine Fr.set ?_ _ _ (by first | (intros; omega) | (simp; done) | (simp; omega))) | (with_reducible refine Fr.via ?_ (by assumption)) | (with_reducible refine Fr.comp ?_ (by assumption))))
end Go.Proofs.YtcadbidccmiflaaDoor
