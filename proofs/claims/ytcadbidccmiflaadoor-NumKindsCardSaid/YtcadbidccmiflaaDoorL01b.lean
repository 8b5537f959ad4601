/-
  The law NumKinds. No conditions but the tables of Go's library.
-/
import Derived.Test.YtcadbidccmiflaaDoorL01a
namespace Go.Proofs.YtcadbidccmiflaaDoor
set_option linter.unusedSimpArgs false
set_option linter.unusedVariables false
open Go.RowKit

set_option maxRecDepth 100000 in
theorem kinds0 (a : Int) (b : Nat) (w : World) (hT : Tabs w) (a0 : -9223372036854775808 ≤ a) (a1 : a ≤ 9223372036854775807) :
    Calls Tryd.prog 9 #[.int .i64 0, .int .i64 a, .int .u64 b] w fun e w' => e = .returned (.bool true) ∧ Fr Nil w w' := by
  obtain ⟨x, lx, ux, wx⟩ := u64nat a a0 a1
  have UX := Lib.hid ux
  clear ux wx
  go_enter Tryd.func9, Tryd.ntmps9
  go_wp2_with fail
  refine (awake_any _ hT).mono ?_
  rintro e w1 ⟨rfl, f1⟩
  go_wp2_with fail
  refine (int_any _ _).mono ?_
  rw [UX.out]
  rintro e w2 ⟨rfl, f2⟩
  go_wp2_with fail
  refine (flt_any _ _).mono ?_
  rintro e w3 ⟨rfl, f3⟩
  go_wp2_with fail
  refine (calc_kind0 false true x b _ rfl).mono ?_
  rintro e w4 ⟨rfl, f4⟩
  obtain ⟨_, _, _⟩ := f4.at (w3.heap.size) (by first | assumption | omega | (simp; done) | (simp; omega)); obtain ⟨_, _, _⟩ := f4.at (w3.heap.size + 1) (by first | assumption | omega | (simp; done) | (simp; omega))
  go_wp2_with fail
  refine (calc_kind0 true false b x _ rfl).mono ?_
  rintro e w5 ⟨rfl, f5⟩
  obtain ⟨_, _, _⟩ := f5.at (w3.heap.size) (by first | assumption | omega | (simp; done) | (simp; omega)); obtain ⟨_, _, _⟩ := f5.at (w3.heap.size + 1) (by first | assumption | omega | (simp; done) | (simp; omega)); obtain ⟨_, _, _⟩ := f5.at (w4.heap.size) (by first | assumption | omega | (simp; done) | (simp; omega))
  go_wp2
  go_ret
  exact ⟨rfl, by (repeat (first | (with_reducible exact Fr.refl _ _) | (with_reducible assumption) | (with_reducible exact Fr.of_nil (by assumption)) | (with_reducible refine Fr.drew ?_) | (with_reducible refine Fr.drewN ?_ _) | (with_reducible refine Fr.alloc ?_ _) | (with_reducible refine Fr.set ?_ _ _ (by first | (intros; omega) | (simp; done) | (simp; omega))) | (with_reducible refine Fr.via ?_ (by assumption)) | (with_reducible refine Fr.comp ?_ (by assumption))))⟩
set_option maxRecDepth 100000 in
theorem kinds1 (a : Int) (b : Nat) (w : World) (hT : Tabs w) (a0 : -9223372036854775808 ≤ a) (a1 : a ≤ 9223372036854775807) :
    Calls Tryd.prog 9 #[.int .i64 1, .int .i64 a, .int .u64 b] w fun e w' => e = .returned (.bool true) ∧ Fr Nil w w' := by
  obtain ⟨x, lx, ux, wx⟩ := u64nat a a0 a1
  have UX := Lib.hid ux
  clear ux wx
  go_enter Tryd.func9, Tryd.ntmps9
  go_wp2_with fail
  refine (awake_any _ hT).mono ?_
  rintro e w1 ⟨rfl, f1⟩
  go_wp2_with fail
  refine (int_any _ _).mono ?_
  rw [UX.out]
  rintro e w2 ⟨rfl, f2⟩
  go_wp2_with fail
  refine (flt_any _ _).mono ?_
  rintro e w3 ⟨rfl, f3⟩
  go_wp2_with fail
  refine (calc_kind1 false true x b _ rfl).mono ?_
  rintro e w4 ⟨rfl, f4⟩
  obtain ⟨_, _, _⟩ := f4.at (w3.heap.size) (by first | assumption | omega | (simp; done) | (simp; omega)); obtain ⟨_, _, _⟩ := f4.at (w3.heap.size + 1) (by first | assumption | omega | (simp; done) | (simp; omega))
  go_wp2_with fail
  refine (calc_kind1 true false b x _ rfl).mono ?_
  rintro e w5 ⟨rfl, f5⟩
  obtain ⟨_, _, _⟩ := f5.at (w3.heap.size) (by first | assumption | omega | (simp; done) | (simp; omega)); obtain ⟨_, _, _⟩ := f5.at (w3.heap.size + 1) (by first | assumption | omega | (simp; done) | (simp; omega)); obtain ⟨_, _, _⟩ := f5.at (w4.heap.size) (by first | assumption | omega | (simp; done) | (simp; omega))
  go_wp2
  go_ret
  exact ⟨rfl, by (repeat (first | (with_reducible exact Fr.refl _ _) | (with_reducible assumption) | (with_reducible exact Fr.of_nil (by assumption)) | (with_reducible refine Fr.drew ?_) | (with_reducible refine Fr.drewN ?_ _) | (with_reducible refine Fr.alloc ?_ _) | (with_reducible refine Fr.set ?_ _ _ (by first | (intros; omega) | (simp; done) | (simp; omega))) | (with_reducible refine Fr.via ?_ (by assumption)) | (with_reducible refine Fr.comp ?_ (by assumption))))⟩
set_option maxRecDepth 100000 in
theorem kinds2 (a : Int) (b : Nat) (w : World) (hT : Tabs w) (a0 : -9223372036854775808 ≤ a) (a1 : a ≤ 9223372036854775807) :
    Calls Tryd.prog 9 #[.int .i64 2, .int .i64 a, .int .u64 b] w fun e w' => e = .returned (.bool true) ∧ Fr Nil w w' := by
  obtain ⟨x, lx, ux, wx⟩ := u64nat a a0 a1
  have UX := Lib.hid ux
  clear ux wx
  go_enter Tryd.func9, Tryd.ntmps9
  go_wp2_with fail
  refine (awake_any _ hT).mono ?_
  rintro e w1 ⟨rfl, f1⟩
  go_wp2_with fail
  refine (int_any _ _).mono ?_
  rw [UX.out]
  rintro e w2 ⟨rfl, f2⟩
  go_wp2_with fail
  refine (flt_any _ _).mono ?_
  rintro e w3 ⟨rfl, f3⟩
  go_wp2_with fail
  refine (calc_kind2 false true x b _ rfl).mono ?_
  rintro e w4 ⟨rfl, f4⟩
  obtain ⟨_, _, _⟩ := f4.at (w3.heap.size) (by first | assumption | omega | (simp; done) | (simp; omega)); obtain ⟨_, _, _⟩ := f4.at (w3.heap.size + 1) (by first | assumption | omega | (simp; done) | (simp; omega))
  go_wp2_with fail
  refine (calc_kind2 true false b x _ rfl).mono ?_
  rintro e w5 ⟨rfl, f5⟩
  obtain ⟨_, _, _⟩ := f5.at (w3.heap.size) (by first | assumption | omega | (simp; done) | (simp; omega)); obtain ⟨_, _, _⟩ := f5.at (w3.heap.size + 1) (by first | assumption | omega | (simp; done) | (simp; omega)); obtain ⟨_, _, _⟩ := f5.at (w4.heap.size) (by first | assumption | omega | (simp; done) | (simp; omega))
  go_wp2
  go_ret
  exact ⟨rfl, by (repeat (first | (with_reducible exact Fr.refl _ _) | (with_reducible assumption) | (with_reducible exact Fr.of_nil (by assumption)) | (with_reducible refine Fr.drew ?_) | (with_reducible refine Fr.drewN ?_ _) | (with_reducible refine Fr.alloc ?_ _) | (with_reducible refine Fr.set ?_ _ _ (by first | (intros; omega) | (simp; done) | (simp; omega))) | (with_reducible refine Fr.via ?_ (by assumption)) | (with_reducible refine Fr.comp ?_ (by assumption))))⟩
set_option maxRecDepth 100000 in
theorem kinds3 (a : Int) (b : Nat) (w : World) (hT : Tabs w) (a0 : -9223372036854775808 ≤ a) (a1 : a ≤ 9223372036854775807) :
    Calls Tryd.prog 9 #[.int .i64 3, .int .i64 a, .int .u64 b] w fun e w' => e = .returned (.bool true) ∧ Fr Nil w w' := by
  obtain ⟨x, lx, ux, wx⟩ := u64nat a a0 a1
  have UX := Lib.hid ux
  clear ux wx
  go_enter Tryd.func9, Tryd.ntmps9
  go_wp2_with fail
  refine (awake_any _ hT).mono ?_
  rintro e w1 ⟨rfl, f1⟩
  go_wp2_with fail
  refine (int_any _ _).mono ?_
  rw [UX.out]
  rintro e w2 ⟨rfl, f2⟩
  go_wp2_with fail
  refine (flt_any _ _).mono ?_
  rintro e w3 ⟨rfl, f3⟩
  go_wp2_with fail
  refine (calc_kind3 false true x b _ rfl).mono ?_
  rintro e w4 ⟨rfl, f4⟩
  obtain ⟨_, _, _⟩ := f4.at (w3.heap.size) (by first | assumption | omega | (simp; done) | (simp; omega)); obtain ⟨_, _, _⟩ := f4.at (w3.heap.size + 1) (by first | assumption | omega | (simp; done) | (simp; omega))
  go_wp2_with fail
  refine (calc_kind3 true false b x _ rfl).mono ?_
  rintro e w5 ⟨rfl, f5⟩
  obtain ⟨_, _, _⟩ := f5.at (w3.heap.size) (by first | assumption | omega | (simp; done) | (simp; omega)); obtain ⟨_, _, _⟩ := f5.at (w3.heap.size + 1) (by first | assumption | omega | (simp; done) | (simp; omega)); obtain ⟨_, _, _⟩ := f5.at (w4.heap.size) (by first | assumption | omega | (simp; done) | (simp; omega))
  go_wp2
  go_ret
  exact ⟨rfl, by (repeat (first | (with_reducible exact Fr.refl _ _) | (with_reducible assumption) | (with_reducible exact Fr.of_nil (by assumption)) | (with_reducible refine Fr.drew ?_) | (with_reducible refine Fr.drewN ?_ _) | (with_reducible refine Fr.alloc ?_ _) | (with_reducible refine Fr.set ?_ _ _ (by first | (intros; omega) | (simp; done) | (simp; omega))) | (with_reducible refine Fr.via ?_ (by assumption)) | (with_reducible refine Fr.comp ?_ (by assumption))))⟩
set_option maxRecDepth 100000 in
theorem kinds4 (a : Int) (b : Nat) (w : World) (hT : Tabs w) (a0 : -9223372036854775808 ≤ a) (a1 : a ≤ 9223372036854775807) :
    Calls Tryd.prog 9 #[.int .i64 4, .int .i64 a, .int .u64 b] w fun e w' => e = .returned (.bool true) ∧ Fr Nil w w' := by
  obtain ⟨x, lx, ux, wx⟩ := u64nat a a0 a1
  have UX := Lib.hid ux
  clear ux wx
  go_enter Tryd.func9, Tryd.ntmps9
  go_wp2_with fail
  refine (awake_any _ hT).mono ?_
  rintro e w1 ⟨rfl, f1⟩
  go_wp2_with fail
  refine (int_any _ _).mono ?_
  rw [UX.out]
  rintro e w2 ⟨rfl, f2⟩
  go_wp2_with fail
  refine (flt_any _ _).mono ?_
  rintro e w3 ⟨rfl, f3⟩
  go_wp2_with fail
  refine (calc_kind4 false true x b _ rfl).mono ?_
  rintro e w4 ⟨rfl, f4⟩
  obtain ⟨_, _, _⟩ := f4.at (w3.heap.size) (by first | assumption | omega | (simp; done) | (simp; omega)); obtain ⟨_, _, _⟩ := f4.at (w3.heap.size + 1) (by first | assumption | omega | (simp; done) | (simp; omega))
  go_wp2_with fail
  refine (calc_kind4 true false b x _ rfl).mono ?_
  rintro e w5 ⟨rfl, f5⟩
  obtain ⟨_, _, _⟩ := f5.at (w3.heap.size) (by first | assumption | omega | (simp; done) | (simp; omega)); obtain ⟨_, _, _⟩ := f5.at (w3.heap.size + 1) (by first | assumption | omega | (simp; done) | (simp; omega)); obtain ⟨_, _, _⟩ := f5.at (w4.heap.size) (by first | assumption | omega | (simp; done) | (simp; omega))
  go_wp2
  go_ret
  exact ⟨rfl, by (repeat (first | (with_reducible exact Fr.refl _ _) | (with_reducible assumption) | (with_reducible exact Fr.of_nil (by assumption)) | (with_reducible refine Fr.drew ?_) | (with_reducible refine Fr.drewN ?_ _) | (with_reducible refine Fr.alloc ?_ _) | (with_reducible refine Fr.set ?_ _ _ (by first | (intros; omega) | (simp; done) | (simp; omega))) | (with_reducible refine Fr.via ?_ (by assumption)) | (with_reducible refine Fr.comp ?_ (by assumption))))⟩
set_option maxRecDepth 100000 in
theorem kinds5 (a : Int) (b : Nat) (w : World) (hT : Tabs w) (a0 : -9223372036854775808 ≤ a) (a1 : a ≤ 9223372036854775807) :
    Calls Tryd.prog 9 #[.int .i64 5, .int .i64 a, .int .u64 b] w fun e w' => e = .returned (.bool true) ∧ Fr Nil w w' := by
  obtain ⟨x, lx, ux, wx⟩ := u64nat a a0 a1
  have UX := Lib.hid ux
  clear ux wx
  go_enter Tryd.func9, Tryd.ntmps9
  go_wp2_with fail
  refine (awake_any _ hT).mono ?_
  rintro e w1 ⟨rfl, f1⟩
  go_wp2_with fail
  refine (int_any _ _).mono ?_
  rw [UX.out]
  rintro e w2 ⟨rfl, f2⟩
  go_wp2_with fail
  refine (flt_any _ _).mono ?_
  rintro e w3 ⟨rfl, f3⟩
  go_wp2_with fail
  refine (test_kind5 false true x b _ rfl).mono ?_
  rintro e w4 ⟨rfl, f4⟩
  obtain ⟨_, _, _⟩ := f4.at (w3.heap.size) (by first | assumption | omega | (simp; done) | (simp; omega)); obtain ⟨_, _, _⟩ := f4.at (w3.heap.size + 1) (by first | assumption | omega | (simp; done) | (simp; omega))
  go_wp2_with fail
  refine (test_kind5 true false b x _ rfl).mono ?_
  rintro e w5 ⟨rfl, f5⟩
  obtain ⟨_, _, _⟩ := f5.at (w3.heap.size) (by first | assumption | omega | (simp; done) | (simp; omega)); obtain ⟨_, _, _⟩ := f5.at (w3.heap.size + 1) (by first | assumption | omega | (simp; done) | (simp; omega))
  go_wp2
  go_ret
  exact ⟨rfl, by (repeat (first | (with_reducible exact Fr.refl _ _) | (with_reducible assumption) | (with_reducible exact Fr.of_nil (by assumption)) | (with_reducible refine Fr.drew ?_) | (with_reducible refine Fr.drewN ?_ _) | (with_reducible refine Fr.alloc ?_ _) | (with_reducible refine Fr.set ?_ _ _ (by first | (intros; omega) | (simp; done) | (simp; omega))) | (with_reducible refine Fr.via ?_ (by assumption)) | (with_reducible refine Fr.comp ?_ (by assumption))))⟩
set_option maxRecDepth 100000 in
theorem kinds6 (a : Int) (b : Nat) (w : World) (hT : Tabs w) (a0 : -9223372036854775808 ≤ a) (a1 : a ≤ 9223372036854775807) :
    Calls Tryd.prog 9 #[.int .i64 6, .int .i64 a, .int .u64 b] w fun e w' => e = .returned (.bool true) ∧ Fr Nil w w' := by
  obtain ⟨x, lx, ux, wx⟩ := u64nat a a0 a1
  have UX := Lib.hid ux
  clear ux wx
  go_enter Tryd.func9, Tryd.ntmps9
  go_wp2_with fail
  refine (awake_any _ hT).mono ?_
  rintro e w1 ⟨rfl, f1⟩
  go_wp2_with fail
  refine (int_any _ _).mono ?_
  rw [UX.out]
  rintro e w2 ⟨rfl, f2⟩
  go_wp2_with fail
  refine (flt_any _ _).mono ?_
  rintro e w3 ⟨rfl, f3⟩
  go_wp2_with fail
  refine (test_kind6 false true x b _ rfl).mono ?_
  rintro e w4 ⟨rfl, f4⟩
  obtain ⟨_, _, _⟩ := f4.at (w3.heap.size) (by first | assumption | omega | (simp; done) | (simp; omega)); obtain ⟨_, _, _⟩ := f4.at (w3.heap.size + 1) (by first | assumption | omega | (simp; done) | (simp; omega))
  go_wp2_with fail
  refine (test_kind6 true false b x _ rfl).mono ?_
  rintro e w5 ⟨rfl, f5⟩
  obtain ⟨_, _, _⟩ := f5.at (w3.heap.size) (by first | assumption | omega | (simp; done) | (simp; omega)); obtain ⟨_, _, _⟩ := f5.at (w3.heap.size + 1) (by first | assumption | omega | (simp; done) | (simp; omega))
  go_wp2
  go_ret
  exact ⟨rfl, by (repeat (first | (with_reducible exact Fr.refl _ _) | (with_reducible assumption) | (with_reducible exact Fr.of_nil (by assumption)) | (with_reducible refine Fr.drew ?_) | (with_reducible refine Fr.drewN ?_ _) | (with_reducible refine Fr.alloc ?_ _) | (with_reducible refine Fr.set ?_ _ _ (by first | (intros; omega) | (simp; done) | (simp; omega))) | (with_reducible refine Fr.via ?_ (by assumption)) | (with_reducible refine Fr.comp ?_ (by assumption))))⟩
set_option maxRecDepth 100000 in
theorem kinds7 (a : Int) (b : Nat) (w : World) (hT : Tabs w) (a0 : -9223372036854775808 ≤ a) (a1 : a ≤ 9223372036854775807) :
    Calls Tryd.prog 9 #[.int .i64 7, .int .i64 a, .int .u64 b] w fun e w' => e = .returned (.bool true) ∧ Fr Nil w w' := by
  obtain ⟨x, lx, ux, wx⟩ := u64nat a a0 a1
  have UX := Lib.hid ux
  clear ux wx
  go_enter Tryd.func9, Tryd.ntmps9
  go_wp2_with fail
  refine (awake_any _ hT).mono ?_
  rintro e w1 ⟨rfl, f1⟩
  go_wp2_with fail
  refine (int_any _ _).mono ?_
  rw [UX.out]
  rintro e w2 ⟨rfl, f2⟩
  go_wp2_with fail
  refine (flt_any _ _).mono ?_
  rintro e w3 ⟨rfl, f3⟩
  go_wp2_with fail
  refine (calc_kind7 false true x b _ rfl).mono ?_
  rintro e w4 ⟨rfl, f4⟩
  obtain ⟨_, _, _⟩ := f4.at (w3.heap.size) (by first | assumption | omega | (simp; done) | (simp; omega)); obtain ⟨_, _, _⟩ := f4.at (w3.heap.size + 1) (by first | assumption | omega | (simp; done) | (simp; omega))
  go_wp2_with fail
  refine (calc_kind7 true false b x _ rfl).mono ?_
  rintro e w5 ⟨rfl, f5⟩
  obtain ⟨_, _, _⟩ := f5.at (w3.heap.size) (by first | assumption | omega | (simp; done) | (simp; omega)); obtain ⟨_, _, _⟩ := f5.at (w3.heap.size + 1) (by first | assumption | omega | (simp; done) | (simp; omega)); obtain ⟨_, _, _⟩ := f5.at (w4.heap.size) (by first | assumption | omega | (simp; done) | (simp; omega))
  go_wp2
  go_ret
  exact ⟨rfl, by (repeat (first | (with_reducible exact Fr.refl _ _) | (with_reducible assumption) | (with_reducible exact Fr.of_nil (by assumption)) | (with_reducible refine Fr.drew ?_) | (with_reducible refine Fr.drewN ?_ _) | (with_reducible refine Fr.alloc ?_ _) | (with_reducible refine Fr.set ?_ _ _ (by first | (intros; omega) | (simp; done) | (simp; omega))) | (with_reducible refine Fr.via ?_ (by assumption)) | (with_reducible refine Fr.comp ?_ (by assumption))))⟩
set_option maxRecDepth 100000 in
theorem kinds8 (a : Int) (b : Nat) (w : World) (hT : Tabs w) (a0 : -9223372036854775808 ≤ a) (a1 : a ≤ 9223372036854775807) :
    Calls Tryd.prog 9 #[.int .i64 8, .int .i64 a, .int .u64 b] w fun e w' => e = .returned (.bool true) ∧ Fr Nil w w' := by
  obtain ⟨x, lx, ux, wx⟩ := u64nat a a0 a1
  have UX := Lib.hid ux
  clear ux wx
  go_enter Tryd.func9, Tryd.ntmps9
  go_wp2_with fail
  refine (awake_any _ hT).mono ?_
  rintro e w1 ⟨rfl, f1⟩
  go_wp2_with fail
  refine (int_any _ _).mono ?_
  rw [UX.out]
  rintro e w2 ⟨rfl, f2⟩
  go_wp2_with fail
  refine (flt_any _ _).mono ?_
  rintro e w3 ⟨rfl, f3⟩
  go_wp2_with fail
  refine (calc_kind8 false true x b _ rfl).mono ?_
  rintro e w4 ⟨rfl, f4⟩
  obtain ⟨_, _, _⟩ := f4.at (w3.heap.size) (by first | assumption | omega | (simp; done) | (simp; omega)); obtain ⟨_, _, _⟩ := f4.at (w3.heap.size + 1) (by first | assumption | omega | (simp; done) | (simp; omega))
  go_wp2_with fail
  refine (calc_kind8 true false b x _ rfl).mono ?_
  rintro e w5 ⟨rfl, f5⟩
  obtain ⟨_, _, _⟩ := f5.at (w3.heap.size) (by first | assumption | omega | (simp; done) | (simp; omega)); obtain ⟨_, _, _⟩ := f5.at (w3.heap.size + 1) (by first | assumption | omega | (simp; done) | (simp; omega)); obtain ⟨_, _, _⟩ := f5.at (w4.heap.size) (by first | assumption | omega | (simp; done) | (simp; omega))
  go_wp2
  go_ret
  exact ⟨rfl, by (repeat (first | (with_reducible exact Fr.refl _ _) | (with_reducible assumption) | (with_reducible exact Fr.of_nil (by assumption)) | (with_reducible refine Fr.drew ?_) | (with_reducible refine Fr.drewN ?_ _) | (with_reducible refine Fr.alloc ?_ _) | (with_reducible refine Fr.set ?_ _ _ (by first | (intros; omega) | (simp; done) | (simp; omega))) | (with_reducible refine Fr.via ?_ (by assumption)) | (with_reducible refine Fr.comp ?_ (by assumption))))⟩
set_option maxRecDepth 100000 in
theorem kinds9 (a : Int) (b : Nat) (w : World) (hT : Tabs w) (a0 : -9223372036854775808 ≤ a) (a1 : a ≤ 9223372036854775807) :
    Calls Tryd.prog 9 #[.int .i64 9, .int .i64 a, .int .u64 b] w fun e w' => e = .returned (.bool true) ∧ Fr Nil w w' := by
  obtain ⟨x, lx, ux, wx⟩ := u64nat a a0 a1
  have UX := Lib.hid ux
  clear ux wx
  go_enter Tryd.func9, Tryd.ntmps9
  go_wp2_with fail
  refine (awake_any _ hT).mono ?_
  rintro e w1 ⟨rfl, f1⟩
  go_wp2_with fail
  refine (int_any _ _).mono ?_
  rw [UX.out]
  rintro e w2 ⟨rfl, f2⟩
  go_wp2_with fail
  refine (flt_any _ _).mono ?_
  rintro e w3 ⟨rfl, f3⟩
  go_wp2_with fail
  refine (calc_kind9 false true x b _ rfl).mono ?_
  rintro e w4 ⟨rfl, f4⟩
  obtain ⟨_, _, _⟩ := f4.at (w3.heap.size) (by first | assumption | omega | (simp; done) | (simp; omega)); obtain ⟨_, _, _⟩ := f4.at (w3.heap.size + 1) (by first | assumption | omega | (simp; done) | (simp; omega))
  go_wp2_with fail
  refine (calc_kind9 true false b x _ rfl).mono ?_
  rintro e w5 ⟨rfl, f5⟩
  obtain ⟨_, _, _⟩ := f5.at (w3.heap.size) (by first | assumption | omega | (simp; done) | (simp; omega)); obtain ⟨_, _, _⟩ := f5.at (w3.heap.size + 1) (by first | assumption | omega | (simp; done) | (simp; omega)); obtain ⟨_, _, _⟩ := f5.at (w4.heap.size) (by first | assumption | omega | (simp; done) | (simp; omega))
  go_wp2
  go_ret
  exact ⟨rfl, by (repeat (first | (with_reducible exact Fr.refl _ _) | (with_reducible assumption) | (with_reducible exact Fr.of_nil (by assumption)) | (with_reducible refine Fr.drew ?_) | (with_reducible refine Fr.drewN ?_ _) | (with_reducible refine Fr.alloc ?_ _) | (with_reducible refine Fr.set ?_ _ _ (by first | (intros; omega) | (simp; done) | (simp; omega))) | (with_reducible refine Fr.via ?_ (by assumption)) | (with_reducible refine Fr.comp ?_ (by assumption))))⟩
set_option maxRecDepth 100000 in
theorem kinds10 (a : Int) (b : Nat) (w : World) (hT : Tabs w) (a0 : -9223372036854775808 ≤ a) (a1 : a ≤ 9223372036854775807) :
    Calls Tryd.prog 9 #[.int .i64 10, .int .i64 a, .int .u64 b] w fun e w' => e = .returned (.bool true) ∧ Fr Nil w w' := by
  obtain ⟨x, lx, ux, wx⟩ := u64nat a a0 a1
  have UX := Lib.hid ux
  clear ux wx
  go_enter Tryd.func9, Tryd.ntmps9
  go_wp2_with fail
  refine (awake_any _ hT).mono ?_
  rintro e w1 ⟨rfl, f1⟩
  go_wp2_with fail
  refine (int_any _ _).mono ?_
  rw [UX.out]
  rintro e w2 ⟨rfl, f2⟩
  go_wp2_with fail
  refine (flt_any _ _).mono ?_
  rintro e w3 ⟨rfl, f3⟩
  go_wp2_with fail
  refine (calc_kind10 false true x b _ rfl).mono ?_
  rintro e w4 ⟨rfl, f4⟩
  obtain ⟨_, _, _⟩ := f4.at (w3.heap.size) (by first | assumption | omega | (simp; done) | (simp; omega)); obtain ⟨_, _, _⟩ := f4.at (w3.heap.size + 1) (by first | assumption | omega | (simp; done) | (simp; omega))
  go_wp2_with fail
  refine (calc_kind10 true false b x _ rfl).mono ?_
  rintro e w5 ⟨rfl, f5⟩
  obtain ⟨_, _, _⟩ := f5.at (w3.heap.size) (by first | assumption | omega | (simp; done) | (simp; omega)); obtain ⟨_, _, _⟩ := f5.at (w3.heap.size + 1) (by first | assumption | omega | (simp; done) | (simp; omega)); obtain ⟨_, _, _⟩ := f5.at (w4.heap.size) (by first | assumption | omega | (simp; done) | (simp; omega))
  go_wp2
  go_ret
  exact ⟨rfl, by (repeat (first | (with_reducible exact Fr.refl _ _) | (with_reducible assumption) | (with_reducible exact Fr.of_nil (by assumption)) | (with_reducible refine Fr.drew ?_) | (with_reducible refine Fr.drewN ?_ _) | (with_reducible refine Fr.alloc ?_ _) | (with_reducible refine Fr.set ?_ _ _ (by first | (intros; omega) | (simp; done) | (simp; omega))) | (with_reducible refine Fr.via ?_ (by assumption)) | (with_reducible refine Fr.comp ?_ (by assumption))))⟩
set_option maxRecDepth 100000 in
theorem kinds11 (a : Int) (b : Nat) (w : World) (hT : Tabs w) (a0 : -9223372036854775808 ≤ a) (a1 : a ≤ 9223372036854775807) :
    Calls Tryd.prog 9 #[.int .i64 11, .int .i64 a, .int .u64 b] w fun e w' => e = .returned (.bool true) ∧ Fr Nil w w' := by
  obtain ⟨x, lx, ux, wx⟩ := u64nat a a0 a1
  have UX := Lib.hid ux
  clear ux wx
  go_enter Tryd.func9, Tryd.ntmps9
  go_wp2_with fail
  refine (awake_any _ hT).mono ?_
  rintro e w1 ⟨rfl, f1⟩
  go_wp2_with fail
  refine (int_any _ _).mono ?_
  rw [UX.out]
  rintro e w2 ⟨rfl, f2⟩
  go_wp2_with fail
  refine (flt_any _ _).mono ?_
  rintro e w3 ⟨rfl, f3⟩
  go_wp2_with fail
  refine (test_kind11 false true x b _ rfl).mono ?_
  rintro e w4 ⟨rfl, f4⟩
  obtain ⟨_, _, _⟩ := f4.at (w3.heap.size) (by first | assumption | omega | (simp; done) | (simp; omega)); obtain ⟨_, _, _⟩ := f4.at (w3.heap.size + 1) (by first | assumption | omega | (simp; done) | (simp; omega))
  go_wp2_with fail
  refine (test_kind11 true false b x _ rfl).mono ?_
  rintro e w5 ⟨rfl, f5⟩
  obtain ⟨_, _, _⟩ := f5.at (w3.heap.size) (by first | assumption | omega | (simp; done) | (simp; omega)); obtain ⟨_, _, _⟩ := f5.at (w3.heap.size + 1) (by first | assumption | omega | (simp; done) | (simp; omega))
  go_wp2
  go_ret
  exact ⟨rfl, by (repeat (first | (with_reducible exact Fr.refl _ _) | (with_reducible assumption) | (with_reducible exact Fr.of_nil (by assumption)) | (with_reducible refine Fr.drew ?_) | (with_reducible refine Fr.drewN ?_ _) | (with_reducible refine Fr.alloc ?_ _) | (with_reducible refine Fr.set ?_ _ _ (by first | (intros; omega) | (simp; done) | (simp; omega))) | (with_reducible refine Fr.via ?_ (by assumption)) | (with_reducible refine Fr.comp ?_ (by assumption))))⟩
set_option maxRecDepth 100000 in
theorem kinds12 (a : Int) (b : Nat) (w : World) (hT : Tabs w) (a0 : -9223372036854775808 ≤ a) (a1 : a ≤ 9223372036854775807) :
    Calls Tryd.prog 9 #[.int .i64 12, .int .i64 a, .int .u64 b] w fun e w' => e = .returned (.bool true) ∧ Fr Nil w w' := by
  obtain ⟨x, lx, ux, wx⟩ := u64nat a a0 a1
  have UX := Lib.hid ux
  clear ux wx
  go_enter Tryd.func9, Tryd.ntmps9
  go_wp2_with fail
  refine (awake_any _ hT).mono ?_
  rintro e w1 ⟨rfl, f1⟩
  go_wp2_with fail
  refine (int_any _ _).mono ?_
  rw [UX.out]
  rintro e w2 ⟨rfl, f2⟩
  go_wp2_with fail
  refine (flt_any _ _).mono ?_
  rintro e w3 ⟨rfl, f3⟩
  go_wp2_with fail
  refine (test_kind12 false true x b _ rfl).mono ?_
  rintro e w4 ⟨rfl, f4⟩
  obtain ⟨_, _, _⟩ := f4.at (w3.heap.size) (by first | assumption | omega | (simp; done) | (simp; omega)); obtain ⟨_, _, _⟩ := f4.at (w3.heap.size + 1) (by first | assumption | omega | (simp; done) | (simp; omega))
  go_wp2_with fail
  refine (test_kind12 true false b x _ rfl).mono ?_
  rintro e w5 ⟨rfl, f5⟩
  obtain ⟨_, _, _⟩ := f5.at (w3.heap.size) (by first | assumption | omega | (simp; done) | (simp; omega)); obtain ⟨_, _, _⟩ := f5.at (w3.heap.size + 1) (by first | assumption | omega | (simp; done) | (simp; omega))
  go_wp2
  go_ret
  exact ⟨rfl, by (repeat (first | (with_reducible exact Fr.refl _ _) | (with_reducible assumption) | (with_reducible exact Fr.of_nil (by assumption)) | (with_reducible refine Fr.drew ?_) | (with_reducible refine Fr.drewN ?_ _) | (with_reducible refine Fr.alloc ?_ _) | (with_reducible refine Fr.set ?_ _ _ (by first | (intros; omega) | (simp; done) | (simp; omega))) | (with_reducible refine Fr.via ?_ (by assumption)) | (with_reducible refine Fr.comp ?_ (by assumption))))⟩
set_option maxRecDepth 100000 in
theorem kindsOut (op : Int) (a : Int) (b : Nat) (w : World) (hT : Tabs w) (a0 : -9223372036854775808 ≤ a) (a1 : a ≤ 9223372036854775807) (h : op < 0 ∨ 12 < op) :
    Calls Tryd.prog 9 #[.int .i64 op, .int .i64 a, .int .u64 b] w fun e w' => e = .returned (.bool true) ∧ Fr Nil w w' := by
  rcases h with h | h
  all_goals
    obtain ⟨x, lx, ux, wx⟩ := u64nat a a0 a1
    have UX := Lib.hid ux
    clear ux wx
    obtain ⟨n, hn⟩ : ∃ n, normF (floatOfInt .f64 (wrap64 x)) = n := ⟨_, rfl⟩
    have HN := Lib.hid hn
    clear hn
    go_enter Tryd.func9, Tryd.ntmps9
    go_wp2_with fail
    refine (awake_any _ hT).mono ?_
    rintro e w1 ⟨rfl, f1⟩
    go_wp2_with fail
    refine (int_any _ _).mono ?_
    rw [UX.out]
    rintro e w2 ⟨rfl, f2⟩
    go_wp2_with fail
    refine (flt_any _ _).mono ?_
    rintro e w3 ⟨rfl, f3⟩
    go_wp2_with fail
    refine (calc_float x b true _).mono ?_
    rw [HN.out]
    rintro e w4 ⟨rfl, f4⟩
    obtain ⟨_, _, _⟩ := f4.at (w3.heap.size) (by first | assumption | omega | (simp; done) | (simp; omega)); obtain ⟨_, _, _⟩ := f4.at (w3.heap.size + 1) (by first | assumption | omega | (simp; done) | (simp; omega))
    go_wp2_with fail
    refine (calc_float x x false _).mono ?_
    rw [HN.out]
    rintro e w5 ⟨rfl, f5⟩
    obtain ⟨_, _, _⟩ := f5.at (w3.heap.size) (by first | assumption | omega | (simp; done) | (simp; omega)); obtain ⟨_, _, _⟩ := f5.at (w3.heap.size + 1) (by first | assumption | omega | (simp; done) | (simp; omega)); obtain ⟨_, _, _⟩ := f5.at (w4.heap.size) (by first | assumption | omega | (simp; done) | (simp; omega))
    go_wp2_with fail
    refine (calc_kind14 false true x b _ rfl).mono ?_
    rintro e w6 ⟨rfl, f6⟩
    obtain ⟨_, _, _⟩ := f6.at (w3.heap.size) (by first | assumption | omega | (simp; done) | (simp; omega)); obtain ⟨_, _, _⟩ := f6.at (w3.heap.size + 1) (by first | assumption | omega | (simp; done) | (simp; omega)); obtain ⟨_, _, _⟩ := f6.at (w4.heap.size) (by first | assumption | omega | (simp; done) | (simp; omega)); obtain ⟨_, _, _⟩ := f6.at (w5.heap.size) (by first | assumption | omega | (simp; done) | (simp; omega))
    go_wp2
    go_ret
    exact ⟨rfl, by (repeat (first | (with_reducible exact Fr.refl _ _) | (with_reducible assumption) | (with_reducible exact Fr.of_nil (by assumption)) | (with_reducible refine Fr.drew ?_) | (with_reducible refine Fr.drewN ?_ _) | (with_reducible refine Fr.alloc ?_ _) | (with_reducible refine Fr.set ?_ _ _ (by first | (intros; omega) | (simp; done) | (simp; omega))) | (with_reducible refine Fr.via ?_ (by assumption)) | (with_reducible refine Fr.comp ?_ (by assumption))))⟩
theorem kinds_any (op a b : Int) (w : World) (hT : Tabs w) (a0 : -9223372036854775808 ≤ a) (a1 : a ≤ 9223372036854775807) (b0 : 0 ≤ b) :
    Calls Tryd.prog 9 #[.int .i64 op, .int .i64 a, .int .u64 b] w fun e w' => e = .returned (.bool true) ∧ Fr Nil w w' := by
  obtain ⟨b, rfl⟩ := Int.eq_ofNat_of_zero_le b0
  by_cases h : op < 0 ∨ 12 < op
  · exact kindsOut op a b w hT a0 a1 h
  · have h' : op = 0 ∨ op = 1 ∨ op = 2 ∨ op = 3 ∨ op = 4 ∨ op = 5 ∨ op = 6 ∨ op = 7 ∨ op = 8 ∨ op = 9 ∨ op = 10 ∨ op = 11 ∨ op = 12 := by omega
    rcases h' with rfl | rfl | rfl | rfl | rfl | rfl | rfl | rfl | rfl | rfl | rfl | rfl | rfl
    · exact kinds0 a b w hT a0 a1
    · exact kinds1 a b w hT a0 a1
    · exact kinds2 a b w hT a0 a1
    · exact kinds3 a b w hT a0 a1
    · exact kinds4 a b w hT a0 a1
    · exact kinds5 a b w hT a0 a1
    · exact kinds6 a b w hT a0 a1
    · exact kinds7 a b w hT a0 a1
    · exact kinds8 a b w hT a0 a1
    · exact kinds9 a b w hT a0 a1
    · exact kinds10 a b w hT a0 a1
    · exact kinds11 a b w hT a0 a1
    · exact kinds12 a b w hT a0 a1
end Go.Proofs.YtcadbidccmiflaaDoor
