/-
  The law NumTrunc. No conditions but the tables of Go's library.
-/
import Derived.Test.YtcadbidccmiflaaDoorL01a
import Derived.Test.YtcadbidccmiflaaDoorIeee3
import Derived.Test.YtcadbidccmiflaaDoorVia
import Derived.Deep.RegionHeld3
namespace Go.Proofs.YtcadbidccmiflaaDoor
set_option linter.unusedSimpArgs false
set_option linter.unusedVariables false
open Go.RowKit

set_option maxRecDepth 100000 in
theorem truncAo (n : Int) (b : Nat) (w : World) (hT : Tabs w) (a0 : -9223372036854775808 ≤ n) (a1 : n ≤ 9223372036854775807) (hb : b < 18446744073709551616) (hn : 9223372036854775296 ≤ n) (hF : outF (normF (floatOfInt .f64 n)) = true) (hO : outF b = true) :
    Calls Tryd.prog 4 #[.int .i64 n, .int .u64 (b : Int)] w fun e w' => e = .returned (.bool true) ∧ Fr Nil w w' := by
  obtain ⟨x, lx, ux, wx⟩ := u64nat n a0 a1
  obtain ⟨X, hX⟩ : ∃ X, normF (floatOfInt .f64 n) = X := ⟨_, rfl⟩
  rw [hX] at hF
  have HF := Lib.hid hF
  have HX := Lib.hid hX
  have UX := Lib.hid ux
  have WX := Lib.hid wx
  have HO := Lib.hid hO
  clear hX ux wx hF hO
  have d1 : decide (n < 9223372036854775296) = false := by simp; omega
  have d2 : decide (n ≤ 9007199254740992) = false := by simp; omega
  go_enter Tryd.func4, Tryd.ntmps4
  go_wp2_with fail
  refine (awake_any _ hT).mono ?_
  rintro e w1 ⟨rfl, f1⟩
  go_wp2_with fail
  refine (int_any _ _).mono ?_
  rw [UX.out]
  rintro e w2 ⟨rfl, f2⟩
  go_wp2_with fail
  refine (calc_float x 0 false _).mono ?_
  rw [WX.out, HX.out]
  rintro e w3 ⟨rfl, f3⟩
  go_wp2_with fail
  refine (calc_trunc_out X 0 false _ HF.out).mono ?_
  rintro e w4 ⟨rfl, f4⟩
  obtain ⟨_, _, _⟩ := f4.at (w3.heap.size) (by first | assumption | omega | (simp; done) | (simp; omega))
  go_wp2_with fail
  go_quiet (fail)
  go_wp2_with fail
  refine (flt_any _ _).mono ?_
  rintro e w5 ⟨rfl, f5⟩
  obtain ⟨_, _, _⟩ := f5.at (w3.heap.size) (by first | assumption | omega | (simp; done) | (simp; omega)); obtain ⟨_, _, _⟩ := f5.at (w4.heap.size) (by first | assumption | omega | (simp; done) | (simp; omega))
  go_wp2_with fail
  refine (calc_trunc_out b 0 false _ HO.out).mono ?_
  rintro e w6 ⟨rfl, f6⟩
  obtain ⟨_, _, _⟩ := f6.at (w3.heap.size) (by first | assumption | omega | (simp; done) | (simp; omega)); obtain ⟨_, _, _⟩ := f6.at (w4.heap.size) (by first | assumption | omega | (simp; done) | (simp; omega))
  go_wp2
  go_ret
  exact ⟨rfl, by (repeat (first | (with_reducible exact Fr.refl _ _) | (with_reducible assumption) | (with_reducible exact Fr.of_nil (by assumption)) | (with_reducible refine Fr.drew ?_) | (with_reducible refine Fr.drewN ?_ _) | (with_reducible refine Fr.alloc ?_ _) | (with_reducible refine Fr.set ?_ _ _ (by first | (intros; omega) | (simp; done) | (simp; omega))) | (with_reducible refine Fr.via ?_ (by assumption)) | (with_reducible refine Fr.comp ?_ (by assumption))))⟩
set_option maxRecDepth 100000 in
theorem truncAi (n : Int) (b : Nat) (w : World) (hT : Tabs w) (a0 : -9223372036854775808 ≤ n) (a1 : n ≤ 9223372036854775807) (hb : b < 18446744073709551616) (hn : 9223372036854775296 ≤ n) (hF : outF (normF (floatOfInt .f64 n)) = true) (hO : outF b = false) :
    Calls Tryd.prog 4 #[.int .i64 n, .int .u64 (b : Int)] w fun e w' => e = .returned (.bool true) ∧ Fr Nil w w' := by
  obtain ⟨x, lx, ux, wx⟩ := u64nat n a0 a1
  obtain ⟨X, hX⟩ : ∃ X, normF (floatOfInt .f64 n) = X := ⟨_, rfl⟩
  rw [hX] at hF
  have HF := Lib.hid hF
  have HX := Lib.hid hX
  have UX := Lib.hid ux
  have WX := Lib.hid wx
  obtain ⟨i, hi, i0, i1, fi⟩ : ∃ i, trV b = i ∧ -9223372036854775808 ≤ i ∧ i ≤ 9223372036854775807 ∧ floatToIntVal .f64 b .i64 = some i := by
    rcases trunc_any b hb with q | ⟨_, q, q0, q1⟩
    · rw [q] at hO; cases hO
    · exact ⟨_, rfl, q0, q1, q⟩
  have hr := rep_trunc b hb hO
  rw [hi] at hr
  obtain ⟨r1, r2, r3⟩ := rep_int i i0 i1 hr
  obtain ⟨K, hK⟩ : ∃ K, normF (floatOfInt .f64 i) = K := ⟨_, rfl⟩
  rw [hK] at r1 r2 r3
  have fK : floatToIntVal .f64 K .i64 = some i := by
    rcases trunc_any K r3 with q | ⟨_, q, _⟩
    · rw [q] at r1; cases r1
    · rw [q, r2]
  obtain ⟨y, ly, uy, wy⟩ := u64nat i i0 i1
  have FI := Lib.hid fi
  have R1 := Lib.hid r1
  have FK := Lib.hid fK
  have HK := Lib.hid hK
  have UY := Lib.hid uy
  have WY := Lib.hid wy
  clear hi fi hr r1 r2 r3 hK fK uy wy i0 i1
  have HO := Lib.hid hO
  clear hX ux wx hF hO
  have d1 : decide (n < 9223372036854775296) = false := by simp; omega
  have d2 : decide (n ≤ 9007199254740992) = false := by simp; omega
  go_enter Tryd.func4, Tryd.ntmps4
  go_wp2_with fail
  refine (awake_any _ hT).mono ?_
  rintro e w1 ⟨rfl, f1⟩
  go_wp2_with fail
  refine (int_any _ _).mono ?_
  rw [UX.out]
  rintro e w2 ⟨rfl, f2⟩
  go_wp2_with fail
  refine (calc_float x 0 false _).mono ?_
  rw [WX.out, HX.out]
  rintro e w3 ⟨rfl, f3⟩
  go_wp2_with fail
  refine (calc_trunc_out X 0 false _ HF.out).mono ?_
  rintro e w4 ⟨rfl, f4⟩
  obtain ⟨_, _, _⟩ := f4.at (w3.heap.size) (by first | assumption | omega | (simp; done) | (simp; omega))
  go_wp2_with fail
  go_quiet (fail)
  go_wp2_with fail
  refine (flt_any _ _).mono ?_
  rintro e w5 ⟨rfl, f5⟩
  obtain ⟨_, _, _⟩ := f5.at (w3.heap.size) (by first | assumption | omega | (simp; done) | (simp; omega)); obtain ⟨_, _, _⟩ := f5.at (w4.heap.size) (by first | assumption | omega | (simp; done) | (simp; omega))
  go_wp2_with fail
  refine (calc_trunc_in b 0 false i _ HO.out FI.out).mono ?_
  rw [UY.out]
  rintro e w6 ⟨rfl, f6⟩
  obtain ⟨_, _, _⟩ := f6.at (w3.heap.size) (by first | assumption | omega | (simp; done) | (simp; omega)); obtain ⟨_, _, _⟩ := f6.at (w4.heap.size) (by first | assumption | omega | (simp; done) | (simp; omega))
  go_wp2_with fail
  refine (calc_float y 0 false _).mono ?_
  rw [WY.out, HK.out]
  rintro e w7 ⟨rfl, f7⟩
  obtain ⟨_, _, _⟩ := f7.at (w3.heap.size) (by first | assumption | omega | (simp; done) | (simp; omega)); obtain ⟨_, _, _⟩ := f7.at (w4.heap.size) (by first | assumption | omega | (simp; done) | (simp; omega)); obtain ⟨_, _, _⟩ := f7.at (w6.heap.size) (by first | assumption | omega | (simp; done) | (simp; omega))
  go_wp2_with fail
  refine (calc_trunc_in K 0 false i _ R1.out FK.out).mono ?_
  rw [UY.out]
  rintro e w8 ⟨rfl, f8⟩
  obtain ⟨_, _, _⟩ := f8.at (w3.heap.size) (by first | assumption | omega | (simp; done) | (simp; omega)); obtain ⟨_, _, _⟩ := f8.at (w4.heap.size) (by first | assumption | omega | (simp; done) | (simp; omega)); obtain ⟨_, _, _⟩ := f8.at (w6.heap.size) (by first | assumption | omega | (simp; done) | (simp; omega)); obtain ⟨_, _, _⟩ := f8.at (w7.heap.size) (by first | assumption | omega | (simp; done) | (simp; omega))
  go_wp2
  go_ret
  exact ⟨rfl, by (repeat (first | (with_reducible exact Fr.refl _ _) | (with_reducible assumption) | (with_reducible exact Fr.of_nil (by assumption)) | (with_reducible refine Fr.drew ?_) | (with_reducible refine Fr.drewN ?_ _) | (with_reducible refine Fr.alloc ?_ _) | (with_reducible refine Fr.set ?_ _ _ (by first | (intros; omega) | (simp; done) | (simp; omega))) | (with_reducible refine Fr.via ?_ (by assumption)) | (with_reducible refine Fr.comp ?_ (by assumption))))⟩
set_option maxRecDepth 100000 in
theorem truncBo (n : Int) (b : Nat) (w : World) (hT : Tabs w) (a0 : -9223372036854775808 ≤ n) (a1 : n ≤ 9223372036854775807) (hb : b < 18446744073709551616) (hF : outF (normF (floatOfInt .f64 n)) = false) (s0 : -9007199254740992 ≤ n) (s1 : n ≤ 9007199254740992) (hO : outF b = true) :
    Calls Tryd.prog 4 #[.int .i64 n, .int .u64 (b : Int)] w fun e w' => e = .returned (.bool true) ∧ Fr Nil w w' := by
  obtain ⟨x, lx, ux, wx⟩ := u64nat n a0 a1
  obtain ⟨X, hX⟩ : ∃ X, normF (floatOfInt .f64 n) = X := ⟨_, rfl⟩
  have l1 := int_lt n a0 a1
  obtain ⟨t, ht, ft⟩ : ∃ t, trV (normF (floatOfInt .f64 n)) = t ∧ floatToIntVal .f64 (normF (floatOfInt .f64 n)) .i64 = some t := by
    rcases trunc_any _ l1 with q | ⟨_, q, _⟩
    · rw [q] at hF; cases hF
    · exact ⟨_, rfl, q⟩
  obtain rfl : t = n := ht.symm.trans (rep_int n a0 a1 (rep_small n s0 s1)).2.1
  rw [hX] at ft hF
  have FT := Lib.hid ft
  clear ft ht l1
  have HF := Lib.hid hF
  have HX := Lib.hid hX
  have UX := Lib.hid ux
  have WX := Lib.hid wx
  have HO := Lib.hid hO
  clear hX ux wx hF hO
  have d2 : decide (t ≤ 9007199254740992) = true := by simp; omega
  have d3 : decide (-9007199254740992 ≤ t) = true := by simp; omega
  go_enter Tryd.func4, Tryd.ntmps4
  go_wp2_with fail
  refine (awake_any _ hT).mono ?_
  rintro e w1 ⟨rfl, f1⟩
  go_wp2_with fail
  refine (int_any _ _).mono ?_
  rw [UX.out]
  rintro e w2 ⟨rfl, f2⟩
  go_wp2_with fail
  refine (calc_float x 0 false _).mono ?_
  rw [WX.out, HX.out]
  rintro e w3 ⟨rfl, f3⟩
  go_wp2_with fail
  refine (calc_trunc_in X 0 false t _ HF.out FT.out).mono ?_
  rw [UX.out]
  rintro e w4 ⟨rfl, f4⟩
  obtain ⟨_, _, _⟩ := f4.at (w3.heap.size) (by first | assumption | omega | (simp; done) | (simp; omega))
  go_wp2_with fail
  apply wp_via (F := fun V => Fr Nil (w4.alloc (.cells #[.bool false, .int .u64 x] 25)) V)
  · go_region_held3 (fun w' => w'.cell? ⟨w4.heap.size, 0, none⟩ = some (.bool false) ∧ w'.cell? ⟨w4.heap.size, 1, none⟩ = some (.int .u64 x)) (first | go_keep | exact ⟨q0, q1⟩) (first
      | (go_at_call 14; refine (int_any _ _).mono ?_; rw [UX.out]; rintro e wa ⟨rfl, fa⟩; have ba := fa.blk (Blk.drew (Blk.new w4 #[.bool false, .int .u64 x] 25)) (fun q => q); have q0 := ba.cell 0; have q1 := ba.cell 1; simp at q0 q1))
    all_goals (refine Via.mk ?_; (repeat (first | (with_reducible exact Fr.refl _ _) | (with_reducible assumption) | (with_reducible exact Fr.of_nil (by assumption)) | (with_reducible refine Fr.drew ?_) | (with_reducible refine Fr.drewN ?_ _) | (with_reducible refine Fr.alloc ?_ _) | (with_reducible refine Fr.set ?_ _ _ (by first | (intros; omega) | (simp; done) | (simp; omega))) | (with_reducible refine Fr.via ?_ (by assumption)) | (with_reducible refine Fr.comp ?_ (by assumption)))))
  rintro w5 f5
  obtain ⟨_, _, _⟩ := f5.at (w3.heap.size) (by first | assumption | omega | (simp; done) | (simp; omega)); obtain ⟨_, _, _⟩ := f5.at (w4.heap.size) (by first | assumption | omega | (simp; done) | (simp; omega))
  go_wp2_with fail
  refine (flt_any _ _).mono ?_
  rintro e w6 ⟨rfl, f6⟩
  obtain ⟨_, _, _⟩ := f6.at (w3.heap.size) (by first | assumption | omega | (simp; done) | (simp; omega)); obtain ⟨_, _, _⟩ := f6.at (w4.heap.size) (by first | assumption | omega | (simp; done) | (simp; omega))
  go_wp2_with fail
  refine (calc_trunc_out b 0 false _ HO.out).mono ?_
  rintro e w7 ⟨rfl, f7⟩
  obtain ⟨_, _, _⟩ := f7.at (w3.heap.size) (by first | assumption | omega | (simp; done) | (simp; omega)); obtain ⟨_, _, _⟩ := f7.at (w4.heap.size) (by first | assumption | omega | (simp; done) | (simp; omega))
  go_wp2
  go_ret
  exact ⟨rfl, by (repeat (first | (with_reducible exact Fr.refl _ _) | (with_reducible assumption) | (with_reducible exact Fr.of_nil (by assumption)) | (with_reducible refine Fr.drew ?_) | (with_reducible refine Fr.drewN ?_ _) | (with_reducible refine Fr.alloc ?_ _) | (with_reducible refine Fr.set ?_ _ _ (by first | (intros; omega) | (simp; done) | (simp; omega))) | (with_reducible refine Fr.via ?_ (by assumption)) | (with_reducible refine Fr.comp ?_ (by assumption))))⟩
set_option maxRecDepth 100000 in
theorem truncBi (n : Int) (b : Nat) (w : World) (hT : Tabs w) (a0 : -9223372036854775808 ≤ n) (a1 : n ≤ 9223372036854775807) (hb : b < 18446744073709551616) (hF : outF (normF (floatOfInt .f64 n)) = false) (s0 : -9007199254740992 ≤ n) (s1 : n ≤ 9007199254740992) (hO : outF b = false) :
    Calls Tryd.prog 4 #[.int .i64 n, .int .u64 (b : Int)] w fun e w' => e = .returned (.bool true) ∧ Fr Nil w w' := by
  obtain ⟨x, lx, ux, wx⟩ := u64nat n a0 a1
  obtain ⟨X, hX⟩ : ∃ X, normF (floatOfInt .f64 n) = X := ⟨_, rfl⟩
  have l1 := int_lt n a0 a1
  obtain ⟨t, ht, ft⟩ : ∃ t, trV (normF (floatOfInt .f64 n)) = t ∧ floatToIntVal .f64 (normF (floatOfInt .f64 n)) .i64 = some t := by
    rcases trunc_any _ l1 with q | ⟨_, q, _⟩
    · rw [q] at hF; cases hF
    · exact ⟨_, rfl, q⟩
  obtain rfl : t = n := ht.symm.trans (rep_int n a0 a1 (rep_small n s0 s1)).2.1
  rw [hX] at ft hF
  have FT := Lib.hid ft
  clear ft ht l1
  have HF := Lib.hid hF
  have HX := Lib.hid hX
  have UX := Lib.hid ux
  have WX := Lib.hid wx
  obtain ⟨i, hi, i0, i1, fi⟩ : ∃ i, trV b = i ∧ -9223372036854775808 ≤ i ∧ i ≤ 9223372036854775807 ∧ floatToIntVal .f64 b .i64 = some i := by
    rcases trunc_any b hb with q | ⟨_, q, q0, q1⟩
    · rw [q] at hO; cases hO
    · exact ⟨_, rfl, q0, q1, q⟩
  have hr := rep_trunc b hb hO
  rw [hi] at hr
  obtain ⟨r1, r2, r3⟩ := rep_int i i0 i1 hr
  obtain ⟨K, hK⟩ : ∃ K, normF (floatOfInt .f64 i) = K := ⟨_, rfl⟩
  rw [hK] at r1 r2 r3
  have fK : floatToIntVal .f64 K .i64 = some i := by
    rcases trunc_any K r3 with q | ⟨_, q, _⟩
    · rw [q] at r1; cases r1
    · rw [q, r2]
  obtain ⟨y, ly, uy, wy⟩ := u64nat i i0 i1
  have FI := Lib.hid fi
  have R1 := Lib.hid r1
  have FK := Lib.hid fK
  have HK := Lib.hid hK
  have UY := Lib.hid uy
  have WY := Lib.hid wy
  clear hi fi hr r1 r2 r3 hK fK uy wy i0 i1
  have HO := Lib.hid hO
  clear hX ux wx hF hO
  have d2 : decide (t ≤ 9007199254740992) = true := by simp; omega
  have d3 : decide (-9007199254740992 ≤ t) = true := by simp; omega
  go_enter Tryd.func4, Tryd.ntmps4
  go_wp2_with fail
  refine (awake_any _ hT).mono ?_
  rintro e w1 ⟨rfl, f1⟩
  go_wp2_with fail
  refine (int_any _ _).mono ?_
  rw [UX.out]
  rintro e w2 ⟨rfl, f2⟩
  go_wp2_with fail
  refine (calc_float x 0 false _).mono ?_
  rw [WX.out, HX.out]
  rintro e w3 ⟨rfl, f3⟩
  go_wp2_with fail
  refine (calc_trunc_in X 0 false t _ HF.out FT.out).mono ?_
  rw [UX.out]
  rintro e w4 ⟨rfl, f4⟩
  obtain ⟨_, _, _⟩ := f4.at (w3.heap.size) (by first | assumption | omega | (simp; done) | (simp; omega))
  go_wp2_with fail
  apply wp_via (F := fun V => Fr Nil (w4.alloc (.cells #[.bool false, .int .u64 x] 25)) V)
  · go_region_held3 (fun w' => w'.cell? ⟨w4.heap.size, 0, none⟩ = some (.bool false) ∧ w'.cell? ⟨w4.heap.size, 1, none⟩ = some (.int .u64 x)) (first | go_keep | exact ⟨q0, q1⟩) (first
      | (go_at_call 14; refine (int_any _ _).mono ?_; rw [UX.out]; rintro e wa ⟨rfl, fa⟩; have ba := fa.blk (Blk.drew (Blk.new w4 #[.bool false, .int .u64 x] 25)) (fun q => q); have q0 := ba.cell 0; have q1 := ba.cell 1; simp at q0 q1))
    all_goals (refine Via.mk ?_; (repeat (first | (with_reducible exact Fr.refl _ _) | (with_reducible assumption) | (with_reducible exact Fr.of_nil (by assumption)) | (with_reducible refine Fr.drew ?_) | (with_reducible refine Fr.drewN ?_ _) | (with_reducible refine Fr.alloc ?_ _) | (with_reducible refine Fr.set ?_ _ _ (by first | (intros; omega) | (simp; done) | (simp; omega))) | (with_reducible refine Fr.via ?_ (by assumption)) | (with_reducible refine Fr.comp ?_ (by assumption)))))
  rintro w5 f5
  obtain ⟨_, _, _⟩ := f5.at (w3.heap.size) (by first | assumption | omega | (simp; done) | (simp; omega)); obtain ⟨_, _, _⟩ := f5.at (w4.heap.size) (by first | assumption | omega | (simp; done) | (simp; omega))
  go_wp2_with fail
  refine (flt_any _ _).mono ?_
  rintro e w6 ⟨rfl, f6⟩
  obtain ⟨_, _, _⟩ := f6.at (w3.heap.size) (by first | assumption | omega | (simp; done) | (simp; omega)); obtain ⟨_, _, _⟩ := f6.at (w4.heap.size) (by first | assumption | omega | (simp; done) | (simp; omega))
  go_wp2_with fail
  refine (calc_trunc_in b 0 false i _ HO.out FI.out).mono ?_
  rw [UY.out]
  rintro e w7 ⟨rfl, f7⟩
  obtain ⟨_, _, _⟩ := f7.at (w3.heap.size) (by first | assumption | omega | (simp; done) | (simp; omega)); obtain ⟨_, _, _⟩ := f7.at (w4.heap.size) (by first | assumption | omega | (simp; done) | (simp; omega))
  go_wp2_with fail
  refine (calc_float y 0 false _).mono ?_
  rw [WY.out, HK.out]
  rintro e w8 ⟨rfl, f8⟩
  obtain ⟨_, _, _⟩ := f8.at (w3.heap.size) (by first | assumption | omega | (simp; done) | (simp; omega)); obtain ⟨_, _, _⟩ := f8.at (w4.heap.size) (by first | assumption | omega | (simp; done) | (simp; omega)); obtain ⟨_, _, _⟩ := f8.at (w7.heap.size) (by first | assumption | omega | (simp; done) | (simp; omega))
  go_wp2_with fail
  refine (calc_trunc_in K 0 false i _ R1.out FK.out).mono ?_
  rw [UY.out]
  rintro e w9 ⟨rfl, f9⟩
  obtain ⟨_, _, _⟩ := f9.at (w3.heap.size) (by first | assumption | omega | (simp; done) | (simp; omega)); obtain ⟨_, _, _⟩ := f9.at (w4.heap.size) (by first | assumption | omega | (simp; done) | (simp; omega)); obtain ⟨_, _, _⟩ := f9.at (w7.heap.size) (by first | assumption | omega | (simp; done) | (simp; omega)); obtain ⟨_, _, _⟩ := f9.at (w8.heap.size) (by first | assumption | omega | (simp; done) | (simp; omega))
  go_wp2
  go_ret
  exact ⟨rfl, by (repeat (first | (with_reducible exact Fr.refl _ _) | (with_reducible assumption) | (with_reducible exact Fr.of_nil (by assumption)) | (with_reducible refine Fr.drew ?_) | (with_reducible refine Fr.drewN ?_ _) | (with_reducible refine Fr.alloc ?_ _) | (with_reducible refine Fr.set ?_ _ _ (by first | (intros; omega) | (simp; done) | (simp; omega))) | (with_reducible refine Fr.via ?_ (by assumption)) | (with_reducible refine Fr.comp ?_ (by assumption))))⟩
set_option maxRecDepth 100000 in
theorem truncCo (n : Int) (b : Nat) (w : World) (hT : Tabs w) (a0 : -9223372036854775808 ≤ n) (a1 : n ≤ 9223372036854775807) (hb : b < 18446744073709551616) (hF : outF (normF (floatOfInt .f64 n)) = false) (sn : n < -9007199254740992 ∨ 9007199254740992 < n) (hO : outF b = true) :
    Calls Tryd.prog 4 #[.int .i64 n, .int .u64 (b : Int)] w fun e w' => e = .returned (.bool true) ∧ Fr Nil w w' := by
  obtain ⟨x, lx, ux, wx⟩ := u64nat n a0 a1
  obtain ⟨X, hX⟩ : ∃ X, normF (floatOfInt .f64 n) = X := ⟨_, rfl⟩
  have l1 := int_lt n a0 a1
  obtain ⟨t, ht, ft⟩ : ∃ t, trV (normF (floatOfInt .f64 n)) = t ∧ floatToIntVal .f64 (normF (floatOfInt .f64 n)) .i64 = some t := by
    rcases trunc_any _ l1 with q | ⟨_, q, _⟩
    · rw [q] at hF; cases hF
    · exact ⟨_, rfl, q⟩
  rw [hX] at ft hF
  have FT := Lib.hid ft
  clear ft ht l1
  have HF := Lib.hid hF
  have HX := Lib.hid hX
  have UX := Lib.hid ux
  have WX := Lib.hid wx
  have HO := Lib.hid hO
  clear hX ux wx hF hO
  obtain ⟨p1, p2, d2, d3, hp⟩ : ∃ p1 p2 : Bool, decide (n ≤ 9007199254740992) = p1 ∧ decide (-9007199254740992 ≤ n) = p2 ∧ (p1 = false ∨ p2 = false) := ⟨_, _, rfl, rfl, sn.elim (fun h => .inr (by simp; omega)) (fun h => .inl (by simp; omega))⟩
  clear sn
  cases p1 <;> cases p2 <;> simp at hp
  all_goals
    go_enter Tryd.func4, Tryd.ntmps4
    go_wp2_with fail
    refine (awake_any _ hT).mono ?_
    rintro e w1 ⟨rfl, f1⟩
    go_wp2_with fail
    refine (int_any _ _).mono ?_
    rw [UX.out]
    rintro e w2 ⟨rfl, f2⟩
    go_wp2_with fail
    refine (calc_float x 0 false _).mono ?_
    rw [WX.out, HX.out]
    rintro e w3 ⟨rfl, f3⟩
    go_wp2_with fail
    refine (calc_trunc_in X 0 false t _ HF.out FT.out).mono ?_
    rintro e w4 ⟨rfl, f4⟩
    obtain ⟨_, _, _⟩ := f4.at (w3.heap.size) (by first | assumption | omega | (simp; done) | (simp; omega))
    go_wp2_with fail
    go_quiet (fail)
    go_wp2_with fail
    refine (flt_any _ _).mono ?_
    rintro e w5 ⟨rfl, f5⟩
    obtain ⟨_, _, _⟩ := f5.at (w3.heap.size) (by first | assumption | omega | (simp; done) | (simp; omega)); obtain ⟨_, _, _⟩ := f5.at (w4.heap.size) (by first | assumption | omega | (simp; done) | (simp; omega))
    go_wp2_with fail
    refine (calc_trunc_out b 0 false _ HO.out).mono ?_
    rintro e w6 ⟨rfl, f6⟩
    obtain ⟨_, _, _⟩ := f6.at (w3.heap.size) (by first | assumption | omega | (simp; done) | (simp; omega)); obtain ⟨_, _, _⟩ := f6.at (w4.heap.size) (by first | assumption | omega | (simp; done) | (simp; omega))
    go_wp2
    go_ret
    exact ⟨rfl, by (repeat (first | (with_reducible exact Fr.refl _ _) | (with_reducible assumption) | (with_reducible exact Fr.of_nil (by assumption)) | (with_reducible refine Fr.drew ?_) | (with_reducible refine Fr.drewN ?_ _) | (with_reducible refine Fr.alloc ?_ _) | (with_reducible refine Fr.set ?_ _ _ (by first | (intros; omega) | (simp; done) | (simp; omega))) | (with_reducible refine Fr.via ?_ (by assumption)) | (with_reducible refine Fr.comp ?_ (by assumption))))⟩
set_option maxRecDepth 100000 in
theorem truncCi (n : Int) (b : Nat) (w : World) (hT : Tabs w) (a0 : -9223372036854775808 ≤ n) (a1 : n ≤ 9223372036854775807) (hb : b < 18446744073709551616) (hF : outF (normF (floatOfInt .f64 n)) = false) (sn : n < -9007199254740992 ∨ 9007199254740992 < n) (hO : outF b = false) :
    Calls Tryd.prog 4 #[.int .i64 n, .int .u64 (b : Int)] w fun e w' => e = .returned (.bool true) ∧ Fr Nil w w' := by
  obtain ⟨x, lx, ux, wx⟩ := u64nat n a0 a1
  obtain ⟨X, hX⟩ : ∃ X, normF (floatOfInt .f64 n) = X := ⟨_, rfl⟩
  have l1 := int_lt n a0 a1
  obtain ⟨t, ht, ft⟩ : ∃ t, trV (normF (floatOfInt .f64 n)) = t ∧ floatToIntVal .f64 (normF (floatOfInt .f64 n)) .i64 = some t := by
    rcases trunc_any _ l1 with q | ⟨_, q, _⟩
    · rw [q] at hF; cases hF
    · exact ⟨_, rfl, q⟩
  rw [hX] at ft hF
  have FT := Lib.hid ft
  clear ft ht l1
  have HF := Lib.hid hF
  have HX := Lib.hid hX
  have UX := Lib.hid ux
  have WX := Lib.hid wx
  obtain ⟨i, hi, i0, i1, fi⟩ : ∃ i, trV b = i ∧ -9223372036854775808 ≤ i ∧ i ≤ 9223372036854775807 ∧ floatToIntVal .f64 b .i64 = some i := by
    rcases trunc_any b hb with q | ⟨_, q, q0, q1⟩
    · rw [q] at hO; cases hO
    · exact ⟨_, rfl, q0, q1, q⟩
  have hr := rep_trunc b hb hO
  rw [hi] at hr
  obtain ⟨r1, r2, r3⟩ := rep_int i i0 i1 hr
  obtain ⟨K, hK⟩ : ∃ K, normF (floatOfInt .f64 i) = K := ⟨_, rfl⟩
  rw [hK] at r1 r2 r3
  have fK : floatToIntVal .f64 K .i64 = some i := by
    rcases trunc_any K r3 with q | ⟨_, q, _⟩
    · rw [q] at r1; cases r1
    · rw [q, r2]
  obtain ⟨y, ly, uy, wy⟩ := u64nat i i0 i1
  have FI := Lib.hid fi
  have R1 := Lib.hid r1
  have FK := Lib.hid fK
  have HK := Lib.hid hK
  have UY := Lib.hid uy
  have WY := Lib.hid wy
  clear hi fi hr r1 r2 r3 hK fK uy wy i0 i1
  have HO := Lib.hid hO
  clear hX ux wx hF hO
  obtain ⟨p1, p2, d2, d3, hp⟩ : ∃ p1 p2 : Bool, decide (n ≤ 9007199254740992) = p1 ∧ decide (-9007199254740992 ≤ n) = p2 ∧ (p1 = false ∨ p2 = false) := ⟨_, _, rfl, rfl, sn.elim (fun h => .inr (by simp; omega)) (fun h => .inl (by simp; omega))⟩
  clear sn
  cases p1 <;> cases p2 <;> simp at hp
  all_goals
    go_enter Tryd.func4, Tryd.ntmps4
    go_wp2_with fail
    refine (awake_any _ hT).mono ?_
    rintro e w1 ⟨rfl, f1⟩
    go_wp2_with fail
    refine (int_any _ _).mono ?_
    rw [UX.out]
    rintro e w2 ⟨rfl, f2⟩
    go_wp2_with fail
    refine (calc_float x 0 false _).mono ?_
    rw [WX.out, HX.out]
    rintro e w3 ⟨rfl, f3⟩
    go_wp2_with fail
    refine (calc_trunc_in X 0 false t _ HF.out FT.out).mono ?_
    rintro e w4 ⟨rfl, f4⟩
    obtain ⟨_, _, _⟩ := f4.at (w3.heap.size) (by first | assumption | omega | (simp; done) | (simp; omega))
    go_wp2_with fail
    go_quiet (fail)
    go_wp2_with fail
    refine (flt_any _ _).mono ?_
    rintro e w5 ⟨rfl, f5⟩
    obtain ⟨_, _, _⟩ := f5.at (w3.heap.size) (by first | assumption | omega | (simp; done) | (simp; omega)); obtain ⟨_, _, _⟩ := f5.at (w4.heap.size) (by first | assumption | omega | (simp; done) | (simp; omega))
    go_wp2_with fail
    refine (calc_trunc_in b 0 false i _ HO.out FI.out).mono ?_
    rw [UY.out]
    rintro e w6 ⟨rfl, f6⟩
    obtain ⟨_, _, _⟩ := f6.at (w3.heap.size) (by first | assumption | omega | (simp; done) | (simp; omega)); obtain ⟨_, _, _⟩ := f6.at (w4.heap.size) (by first | assumption | omega | (simp; done) | (simp; omega))
    go_wp2_with fail
    refine (calc_float y 0 false _).mono ?_
    rw [WY.out, HK.out]
    rintro e w7 ⟨rfl, f7⟩
    obtain ⟨_, _, _⟩ := f7.at (w3.heap.size) (by first | assumption | omega | (simp; done) | (simp; omega)); obtain ⟨_, _, _⟩ := f7.at (w4.heap.size) (by first | assumption | omega | (simp; done) | (simp; omega)); obtain ⟨_, _, _⟩ := f7.at (w6.heap.size) (by first | assumption | omega | (simp; done) | (simp; omega))
    go_wp2_with fail
    refine (calc_trunc_in K 0 false i _ R1.out FK.out).mono ?_
    rw [UY.out]
    rintro e w8 ⟨rfl, f8⟩
    obtain ⟨_, _, _⟩ := f8.at (w3.heap.size) (by first | assumption | omega | (simp; done) | (simp; omega)); obtain ⟨_, _, _⟩ := f8.at (w4.heap.size) (by first | assumption | omega | (simp; done) | (simp; omega)); obtain ⟨_, _, _⟩ := f8.at (w6.heap.size) (by first | assumption | omega | (simp; done) | (simp; omega)); obtain ⟨_, _, _⟩ := f8.at (w7.heap.size) (by first | assumption | omega | (simp; done) | (simp; omega))
    go_wp2
    go_ret
    exact ⟨rfl, by (repeat (first | (with_reducible exact Fr.refl _ _) | (with_reducible assumption) | (with_reducible exact Fr.of_nil (by assumption)) | (with_reducible refine Fr.drew ?_) | (with_reducible refine Fr.drewN ?_ _) | (with_reducible refine Fr.alloc ?_ _) | (with_reducible refine Fr.set ?_ _ _ (by first | (intros; omega) | (simp; done) | (simp; omega))) | (with_reducible refine Fr.via ?_ (by assumption)) | (with_reducible refine Fr.comp ?_ (by assumption))))⟩
theorem truncs_any (n : Int) (b : Nat) (w : World) (hT : Tabs w) (a0 : -9223372036854775808 ≤ n) (a1 : n ≤ 9223372036854775807) (hb : b < 18446744073709551616) :
    Calls Tryd.prog 4 #[.int .i64 n, .int .u64 (b : Int)] w fun e w' => e = .returned (.bool true) ∧ Fr Nil w w' := by
  cases hO : outF b <;> cases hF : outF (normF (floatOfInt .f64 n))
  · by_cases s : -9007199254740992 ≤ n ∧ n ≤ 9007199254740992
    · exact truncBi n b w hT a0 a1 hb hF s.1 s.2 hO
    · exact truncCi n b w hT a0 a1 hb hF (by omega) hO
  · by_cases hn : 9223372036854775296 ≤ n
    · exact truncAi n b w hT a0 a1 hb hn hF hO
    · rw [(int_in n a0 (by omega)).1] at hF; cases hF
  · by_cases s : -9007199254740992 ≤ n ∧ n ≤ 9007199254740992
    · exact truncBo n b w hT a0 a1 hb hF s.1 s.2 hO
    · exact truncCo n b w hT a0 a1 hb hF (by omega) hO
  · by_cases hn : 9223372036854775296 ≤ n
    · exact truncAo n b w hT a0 a1 hb hn hF hO
    · rw [(int_in n a0 (by omega)).1] at hF; cases hF
theorem truncs_int (n b : Int) (w : World) (hT : Tabs w) (hn : -9223372036854775808 ≤ n ∧ n ≤ 9223372036854775807) (hb : 0 ≤ b ∧ b < 18446744073709551616) :
    Calls Tryd.prog 4 #[.int .i64 n, .int .u64 b] w fun e w' => e = .returned (.bool true) ∧ Fr Nil w w' := by
  obtain ⟨c, rfl⟩ := Int.eq_ofNat_of_zero_le hb.1
  exact truncs_any n c w hT hn.1 hn.2 (by omega)
end Go.Proofs.YtcadbidccmiflaaDoor
