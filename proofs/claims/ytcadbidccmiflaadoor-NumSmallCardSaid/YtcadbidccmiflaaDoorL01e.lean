/-
  The law NumSmall. No conditions but the tables of Go's library.
-/
import Derived.Test.YtcadbidccmiflaaDoorL01a
import Derived.Test.YtcadbidccmiflaaDoorIeee3
namespace Go.Proofs.YtcadbidccmiflaaDoor
set_option linter.unusedSimpArgs false
set_option linter.unusedVariables false
open Go.RowKit

set_option maxRecDepth 100000 in
theorem small0 (a b : Int) (w : World) (hT : Tabs w) (a0 : -33554432 ≤ a) (a1 : a ≤ 33554432) (b0 : -33554432 ≤ b) (b1 : b ≤ 33554432) :
    Calls Tryd.prog 5 #[.int .i64 0, .int .i32 a, .int .i32 b] w fun e w' => e = .returned (.bool true) ∧ Fr Nil w w' := by
  obtain ⟨x, lx, ux, wx⟩ := u64nat a (by omega) (by omega)
  obtain ⟨y, ly, uy, wy⟩ := u64nat b (by omega) (by omega)
  obtain ⟨o1, o2, o3⟩ := small_add a b (by omega) (by omega) (by omega) (by omega)
  have hm : -9223372036854775808 ≤ a + b ∧ a + b ≤ 9223372036854775807 := by
    omega
  obtain ⟨v, hv⟩ : ∃ v, a + b = v := ⟨_, rfl⟩
  obtain ⟨X, hX⟩ : ∃ X, normF (floatOfInt .f64 a) = X := ⟨_, rfl⟩
  obtain ⟨Y, hY⟩ : ∃ Y, normF (floatOfInt .f64 b) = Y := ⟨_, rfl⟩
  rw [hX, hY] at o1 o2 o3
  obtain ⟨Z, hZ⟩ : ∃ Z, fop .add X Y = Z := ⟨_, rfl⟩
  rw [hZ] at o1 o2 o3
  rw [hv] at o2 hm
  have ft : floatToIntVal .f64 Z .i64 = some v := by
    rcases trunc_any Z o3 with q | ⟨_, q, _⟩
    · rw [q] at o1; cases o1
    · rw [q, o2]
  have UX := Lib.hid ux
  have UY := Lib.hid uy
  have WX := Lib.hid wx
  have WY := Lib.hid wy
  have HV := Lib.hid hv
  have HX := Lib.hid hX
  have HY := Lib.hid hY
  have HZ := Lib.hid hZ
  have O1 := Lib.hid o1
  have FT := Lib.hid ft
  have HW : Hid (wrap64 v = v) := Lib.hid (by unfold wrap64; omega)
  clear ux uy wx wy hv hX hY hZ o1 o2 o3 ft hm
  go_enter Tryd.func5, Tryd.ntmps5
  go_wp2_with fail
  refine (awake_any _ hT).mono ?_
  rintro e w1 ⟨rfl, f1⟩
  go_wp2_with fail
  refine (int_any _ _).mono ?_
  rw [UX.out]
  rintro e w2 ⟨rfl, f2⟩
  go_wp2_with fail
  refine (calc_float x 0 false _).mono ?_
  rw [WX.out, HX.out]
  rintro e w3 ⟨rfl, f3⟩
  go_wp2_with fail
  refine (int_any _ _).mono ?_
  rw [UY.out]
  rintro e w4 ⟨rfl, f4⟩
  obtain ⟨_, _, _⟩ := f4.at (w3.heap.size) (by first | assumption | omega | (simp; done) | (simp; omega))
  go_wp2_with fail
  refine (calc_float y 0 false _).mono ?_
  rw [WY.out, HY.out]
  rintro e w5 ⟨rfl, f5⟩
  obtain ⟨_, _, _⟩ := f5.at (w3.heap.size) (by first | assumption | omega | (simp; done) | (simp; omega))
  go_wp2_with fail
  refine (calc_fadd X Y _).mono ?_
  rw [HZ.out]
  rintro e w6 ⟨rfl, f6⟩
  obtain ⟨_, _, _⟩ := f6.at (w3.heap.size) (by first | assumption | omega | (simp; done) | (simp; omega)); obtain ⟨_, _, _⟩ := f6.at (w5.heap.size) (by first | assumption | omega | (simp; done) | (simp; omega))
  go_wp2_with fail
  refine (int_any _ _).mono ?_
  rw [UX.out]
  rintro e w7 ⟨rfl, f7⟩
  obtain ⟨_, _, _⟩ := f7.at (w3.heap.size) (by first | assumption | omega | (simp; done) | (simp; omega)); obtain ⟨_, _, _⟩ := f7.at (w5.heap.size) (by first | assumption | omega | (simp; done) | (simp; omega)); obtain ⟨_, _, _⟩ := f7.at (w6.heap.size) (by first | assumption | omega | (simp; done) | (simp; omega))
  go_wp2_with fail
  refine (int_any _ _).mono ?_
  rw [UY.out]
  rintro e w8 ⟨rfl, f8⟩
  obtain ⟨_, _, _⟩ := f8.at (w3.heap.size) (by first | assumption | omega | (simp; done) | (simp; omega)); obtain ⟨_, _, _⟩ := f8.at (w5.heap.size) (by first | assumption | omega | (simp; done) | (simp; omega)); obtain ⟨_, _, _⟩ := f8.at (w6.heap.size) (by first | assumption | omega | (simp; done) | (simp; omega))
  go_wp2_with fail
  refine (calc_add x y _).mono ?_
  rw [WX.out, WY.out, HV.out, HW.out]
  rintro e w9 ⟨rfl, f9⟩
  obtain ⟨_, _, _⟩ := f9.at (w3.heap.size) (by first | assumption | omega | (simp; done) | (simp; omega)); obtain ⟨_, _, _⟩ := f9.at (w5.heap.size) (by first | assumption | omega | (simp; done) | (simp; omega)); obtain ⟨_, _, _⟩ := f9.at (w6.heap.size) (by first | assumption | omega | (simp; done) | (simp; omega))
  go_wp2_with fail
  refine (calc_trunc_in Z 0 false v _ O1.out FT.out).mono ?_
  rintro e w10 ⟨rfl, f10⟩
  obtain ⟨_, _, _⟩ := f10.at (w3.heap.size) (by first | assumption | omega | (simp; done) | (simp; omega)); obtain ⟨_, _, _⟩ := f10.at (w5.heap.size) (by first | assumption | omega | (simp; done) | (simp; omega)); obtain ⟨_, _, _⟩ := f10.at (w6.heap.size) (by first | assumption | omega | (simp; done) | (simp; omega)); obtain ⟨_, _, _⟩ := f10.at (w9.heap.size) (by first | assumption | omega | (simp; done) | (simp; omega))
  go_wp2
  go_ret
  exact ⟨rfl, by (repeat (first | (with_reducible exact Fr.refl _ _) | (with_reducible assumption) | (with_reducible exact Fr.of_nil (by assumption)) | (with_reducible refine Fr.drew ?_) | (with_reducible refine Fr.drewN ?_ _) | (with_reducible refine Fr.alloc ?_ _) | (with_reducible refine Fr.set ?_ _ _ (by first | (intros; omega) | (simp; done) | (simp; omega))) | (with_reducible refine Fr.via ?_ (by assumption)) | (with_reducible refine Fr.comp ?_ (by assumption))))⟩
set_option maxRecDepth 100000 in
theorem small1 (a b : Int) (w : World) (hT : Tabs w) (a0 : -33554432 ≤ a) (a1 : a ≤ 33554432) (b0 : -33554432 ≤ b) (b1 : b ≤ 33554432) :
    Calls Tryd.prog 5 #[.int .i64 1, .int .i32 a, .int .i32 b] w fun e w' => e = .returned (.bool true) ∧ Fr Nil w w' := by
  obtain ⟨x, lx, ux, wx⟩ := u64nat a (by omega) (by omega)
  obtain ⟨y, ly, uy, wy⟩ := u64nat b (by omega) (by omega)
  obtain ⟨o1, o2, o3⟩ := small_sub a b (by omega) (by omega) (by omega) (by omega)
  have hm : -9223372036854775808 ≤ a - b ∧ a - b ≤ 9223372036854775807 := by
    omega
  obtain ⟨v, hv⟩ : ∃ v, a - b = v := ⟨_, rfl⟩
  obtain ⟨X, hX⟩ : ∃ X, normF (floatOfInt .f64 a) = X := ⟨_, rfl⟩
  obtain ⟨Y, hY⟩ : ∃ Y, normF (floatOfInt .f64 b) = Y := ⟨_, rfl⟩
  rw [hX, hY] at o1 o2 o3
  obtain ⟨Z, hZ⟩ : ∃ Z, fop .sub X Y = Z := ⟨_, rfl⟩
  rw [hZ] at o1 o2 o3
  rw [hv] at o2 hm
  have ft : floatToIntVal .f64 Z .i64 = some v := by
    rcases trunc_any Z o3 with q | ⟨_, q, _⟩
    · rw [q] at o1; cases o1
    · rw [q, o2]
  have UX := Lib.hid ux
  have UY := Lib.hid uy
  have WX := Lib.hid wx
  have WY := Lib.hid wy
  have HV := Lib.hid hv
  have HX := Lib.hid hX
  have HY := Lib.hid hY
  have HZ := Lib.hid hZ
  have O1 := Lib.hid o1
  have FT := Lib.hid ft
  have HW : Hid (wrap64 v = v) := Lib.hid (by unfold wrap64; omega)
  clear ux uy wx wy hv hX hY hZ o1 o2 o3 ft hm
  go_enter Tryd.func5, Tryd.ntmps5
  go_wp2_with fail
  refine (awake_any _ hT).mono ?_
  rintro e w1 ⟨rfl, f1⟩
  go_wp2_with fail
  refine (int_any _ _).mono ?_
  rw [UX.out]
  rintro e w2 ⟨rfl, f2⟩
  go_wp2_with fail
  refine (calc_float x 0 false _).mono ?_
  rw [WX.out, HX.out]
  rintro e w3 ⟨rfl, f3⟩
  go_wp2_with fail
  refine (int_any _ _).mono ?_
  rw [UY.out]
  rintro e w4 ⟨rfl, f4⟩
  obtain ⟨_, _, _⟩ := f4.at (w3.heap.size) (by first | assumption | omega | (simp; done) | (simp; omega))
  go_wp2_with fail
  refine (calc_float y 0 false _).mono ?_
  rw [WY.out, HY.out]
  rintro e w5 ⟨rfl, f5⟩
  obtain ⟨_, _, _⟩ := f5.at (w3.heap.size) (by first | assumption | omega | (simp; done) | (simp; omega))
  go_wp2_with fail
  refine (calc_fsub X Y _).mono ?_
  rw [HZ.out]
  rintro e w6 ⟨rfl, f6⟩
  obtain ⟨_, _, _⟩ := f6.at (w3.heap.size) (by first | assumption | omega | (simp; done) | (simp; omega)); obtain ⟨_, _, _⟩ := f6.at (w5.heap.size) (by first | assumption | omega | (simp; done) | (simp; omega))
  go_wp2_with fail
  refine (int_any _ _).mono ?_
  rw [UX.out]
  rintro e w7 ⟨rfl, f7⟩
  obtain ⟨_, _, _⟩ := f7.at (w3.heap.size) (by first | assumption | omega | (simp; done) | (simp; omega)); obtain ⟨_, _, _⟩ := f7.at (w5.heap.size) (by first | assumption | omega | (simp; done) | (simp; omega)); obtain ⟨_, _, _⟩ := f7.at (w6.heap.size) (by first | assumption | omega | (simp; done) | (simp; omega))
  go_wp2_with fail
  refine (int_any _ _).mono ?_
  rw [UY.out]
  rintro e w8 ⟨rfl, f8⟩
  obtain ⟨_, _, _⟩ := f8.at (w3.heap.size) (by first | assumption | omega | (simp; done) | (simp; omega)); obtain ⟨_, _, _⟩ := f8.at (w5.heap.size) (by first | assumption | omega | (simp; done) | (simp; omega)); obtain ⟨_, _, _⟩ := f8.at (w6.heap.size) (by first | assumption | omega | (simp; done) | (simp; omega))
  go_wp2_with fail
  refine (calc_sub x y _).mono ?_
  rw [WX.out, WY.out, HV.out, HW.out]
  rintro e w9 ⟨rfl, f9⟩
  obtain ⟨_, _, _⟩ := f9.at (w3.heap.size) (by first | assumption | omega | (simp; done) | (simp; omega)); obtain ⟨_, _, _⟩ := f9.at (w5.heap.size) (by first | assumption | omega | (simp; done) | (simp; omega)); obtain ⟨_, _, _⟩ := f9.at (w6.heap.size) (by first | assumption | omega | (simp; done) | (simp; omega))
  go_wp2_with fail
  refine (calc_trunc_in Z 0 false v _ O1.out FT.out).mono ?_
  rintro e w10 ⟨rfl, f10⟩
  obtain ⟨_, _, _⟩ := f10.at (w3.heap.size) (by first | assumption | omega | (simp; done) | (simp; omega)); obtain ⟨_, _, _⟩ := f10.at (w5.heap.size) (by first | assumption | omega | (simp; done) | (simp; omega)); obtain ⟨_, _, _⟩ := f10.at (w6.heap.size) (by first | assumption | omega | (simp; done) | (simp; omega)); obtain ⟨_, _, _⟩ := f10.at (w9.heap.size) (by first | assumption | omega | (simp; done) | (simp; omega))
  go_wp2
  go_ret
  exact ⟨rfl, by (repeat (first | (with_reducible exact Fr.refl _ _) | (with_reducible assumption) | (with_reducible exact Fr.of_nil (by assumption)) | (with_reducible refine Fr.drew ?_) | (with_reducible refine Fr.drewN ?_ _) | (with_reducible refine Fr.alloc ?_ _) | (with_reducible refine Fr.set ?_ _ _ (by first | (intros; omega) | (simp; done) | (simp; omega))) | (with_reducible refine Fr.via ?_ (by assumption)) | (with_reducible refine Fr.comp ?_ (by assumption))))⟩
set_option maxRecDepth 100000 in
theorem small2 (a b : Int) (w : World) (hT : Tabs w) (a0 : -33554432 ≤ a) (a1 : a ≤ 33554432) (b0 : -33554432 ≤ b) (b1 : b ≤ 33554432) :
    Calls Tryd.prog 5 #[.int .i64 2, .int .i32 a, .int .i32 b] w fun e w' => e = .returned (.bool true) ∧ Fr Nil w w' := by
  obtain ⟨x, lx, ux, wx⟩ := u64nat a (by omega) (by omega)
  obtain ⟨y, ly, uy, wy⟩ := u64nat b (by omega) (by omega)
  obtain ⟨o1, o2, o3⟩ := small_mul a b (by omega) (by omega) (by omega) (by omega) (by have := Nat.mul_le_mul (show a.natAbs ≤ 33554432 by omega) (show b.natAbs ≤ 33554432 by omega); omega)
  have hm : -9223372036854775808 ≤ a * b ∧ a * b ≤ 9223372036854775807 := by
    have h := Nat.mul_le_mul (show a.natAbs ≤ 33554432 by omega) (show b.natAbs ≤ 33554432 by omega)
    rw [← Int.natAbs_mul] at h
    omega
  obtain ⟨v, hv⟩ : ∃ v, a * b = v := ⟨_, rfl⟩
  obtain ⟨X, hX⟩ : ∃ X, normF (floatOfInt .f64 a) = X := ⟨_, rfl⟩
  obtain ⟨Y, hY⟩ : ∃ Y, normF (floatOfInt .f64 b) = Y := ⟨_, rfl⟩
  rw [hX, hY] at o1 o2 o3
  obtain ⟨Z, hZ⟩ : ∃ Z, fop .mul X Y = Z := ⟨_, rfl⟩
  rw [hZ] at o1 o2 o3
  rw [hv] at o2 hm
  have ft : floatToIntVal .f64 Z .i64 = some v := by
    rcases trunc_any Z o3 with q | ⟨_, q, _⟩
    · rw [q] at o1; cases o1
    · rw [q, o2]
  have UX := Lib.hid ux
  have UY := Lib.hid uy
  have WX := Lib.hid wx
  have WY := Lib.hid wy
  have HV := Lib.hid hv
  have HX := Lib.hid hX
  have HY := Lib.hid hY
  have HZ := Lib.hid hZ
  have O1 := Lib.hid o1
  have FT := Lib.hid ft
  have HW : Hid (wrap64 v = v) := Lib.hid (by unfold wrap64; omega)
  clear ux uy wx wy hv hX hY hZ o1 o2 o3 ft hm
  go_enter Tryd.func5, Tryd.ntmps5
  go_wp2_with fail
  refine (awake_any _ hT).mono ?_
  rintro e w1 ⟨rfl, f1⟩
  go_wp2_with fail
  refine (int_any _ _).mono ?_
  rw [UX.out]
  rintro e w2 ⟨rfl, f2⟩
  go_wp2_with fail
  refine (calc_float x 0 false _).mono ?_
  rw [WX.out, HX.out]
  rintro e w3 ⟨rfl, f3⟩
  go_wp2_with fail
  refine (int_any _ _).mono ?_
  rw [UY.out]
  rintro e w4 ⟨rfl, f4⟩
  obtain ⟨_, _, _⟩ := f4.at (w3.heap.size) (by first | assumption | omega | (simp; done) | (simp; omega))
  go_wp2_with fail
  refine (calc_float y 0 false _).mono ?_
  rw [WY.out, HY.out]
  rintro e w5 ⟨rfl, f5⟩
  obtain ⟨_, _, _⟩ := f5.at (w3.heap.size) (by first | assumption | omega | (simp; done) | (simp; omega))
  go_wp2_with fail
  refine (calc_fmul X Y _).mono ?_
  rw [HZ.out]
  rintro e w6 ⟨rfl, f6⟩
  obtain ⟨_, _, _⟩ := f6.at (w3.heap.size) (by first | assumption | omega | (simp; done) | (simp; omega)); obtain ⟨_, _, _⟩ := f6.at (w5.heap.size) (by first | assumption | omega | (simp; done) | (simp; omega))
  go_wp2_with fail
  refine (int_any _ _).mono ?_
  rw [UX.out]
  rintro e w7 ⟨rfl, f7⟩
  obtain ⟨_, _, _⟩ := f7.at (w3.heap.size) (by first | assumption | omega | (simp; done) | (simp; omega)); obtain ⟨_, _, _⟩ := f7.at (w5.heap.size) (by first | assumption | omega | (simp; done) | (simp; omega)); obtain ⟨_, _, _⟩ := f7.at (w6.heap.size) (by first | assumption | omega | (simp; done) | (simp; omega))
  go_wp2_with fail
  refine (int_any _ _).mono ?_
  rw [UY.out]
  rintro e w8 ⟨rfl, f8⟩
  obtain ⟨_, _, _⟩ := f8.at (w3.heap.size) (by first | assumption | omega | (simp; done) | (simp; omega)); obtain ⟨_, _, _⟩ := f8.at (w5.heap.size) (by first | assumption | omega | (simp; done) | (simp; omega)); obtain ⟨_, _, _⟩ := f8.at (w6.heap.size) (by first | assumption | omega | (simp; done) | (simp; omega))
  go_wp2_with fail
  refine (calc_mul x y _).mono ?_
  rw [WX.out, WY.out, HV.out, HW.out]
  rintro e w9 ⟨rfl, f9⟩
  obtain ⟨_, _, _⟩ := f9.at (w3.heap.size) (by first | assumption | omega | (simp; done) | (simp; omega)); obtain ⟨_, _, _⟩ := f9.at (w5.heap.size) (by first | assumption | omega | (simp; done) | (simp; omega)); obtain ⟨_, _, _⟩ := f9.at (w6.heap.size) (by first | assumption | omega | (simp; done) | (simp; omega))
  go_wp2_with fail
  refine (calc_trunc_in Z 0 false v _ O1.out FT.out).mono ?_
  rintro e w10 ⟨rfl, f10⟩
  obtain ⟨_, _, _⟩ := f10.at (w3.heap.size) (by first | assumption | omega | (simp; done) | (simp; omega)); obtain ⟨_, _, _⟩ := f10.at (w5.heap.size) (by first | assumption | omega | (simp; done) | (simp; omega)); obtain ⟨_, _, _⟩ := f10.at (w6.heap.size) (by first | assumption | omega | (simp; done) | (simp; omega)); obtain ⟨_, _, _⟩ := f10.at (w9.heap.size) (by first | assumption | omega | (simp; done) | (simp; omega))
  go_wp2
  go_ret
  exact ⟨rfl, by (repeat (first | (with_reducible exact Fr.refl _ _) | (with_reducible assumption) | (with_reducible exact Fr.of_nil (by assumption)) | (with_reducible refine Fr.drew ?_) | (with_reducible refine Fr.drewN ?_ _) | (with_reducible refine Fr.alloc ?_ _) | (with_reducible refine Fr.set ?_ _ _ (by first | (intros; omega) | (simp; done) | (simp; omega))) | (with_reducible refine Fr.via ?_ (by assumption)) | (with_reducible refine Fr.comp ?_ (by assumption))))⟩
theorem small_out (op a b : Int) (w : World) (hT : Tabs w) (h : op < 0 ∨ 2 < op ∨ 33554432 < a ∨ a < -33554432 ∨ 33554432 < b ∨ b < -33554432) :
    Calls Tryd.prog 5 #[.int .i64 op, .int .i32 a, .int .i32 b] w fun e w' => e = .returned (.bool true) ∧ Fr Nil w w' := by
  have hb : (((((decide (op < 0) || decide (2 < op)) || decide (33554432 < a)) || decide (a < -33554432)) || decide (33554432 < b)) || decide (b < -33554432)) = true := by simp; omega
  clear h
  go_enter Tryd.func5, Tryd.ntmps5
  go_wp2_with fail
  refine (awake_any _ hT).mono ?_
  rintro e w1 ⟨rfl, f1⟩
  go_wp2
  all_goals first
    | (go_ret; exact ⟨rfl, f1⟩)
    | (exfalso; simp at *; omega)
theorem small_any (op a b : Int) (w : World) (hT : Tabs w) :
    Calls Tryd.prog 5 #[.int .i64 op, .int .i32 a, .int .i32 b] w fun e w' => e = .returned (.bool true) ∧ Fr Nil w w' := by
  by_cases h : op < 0 ∨ 2 < op ∨ 33554432 < a ∨ a < -33554432 ∨ 33554432 < b ∨ b < -33554432
  · exact small_out op a b w hT h
  · obtain rfl | rfl | rfl : op = 0 ∨ op = 1 ∨ op = 2 := by omega
    · exact small0 a b w hT (by omega) (by omega) (by omega) (by omega)
    · exact small1 a b w hT (by omega) (by omega) (by omega) (by omega)
    · exact small2 a b w hT (by omega) (by omega) (by omega) (by omega)
end Go.Proofs.YtcadbidccmiflaaDoor
