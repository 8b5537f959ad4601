/-
  The laws of layer 1: what they all begin with. No conditions but the tables of Go's library.
-/
import Derived.Test.YtcadbidccmiflaaDoorPrint
import Derived.Test.YtcadbidccmiflaaDoorNum2
import Derived.Test.YtcadbidccmiflaaDoorNum3
import Derived.Test.YtcadbidccmiflaaDoorNum5
namespace Go.Proofs.YtcadbidccmiflaaDoor
set_option linter.unusedSimpArgs false
set_option linter.unusedVariables false
open Go.RowKit

theorem flt_any (b : Int) (w : World) :
    Calls Tryd.prog 15 #[.int .u64 b] w fun e w' => e = .returned (.agg #[.bool true, .int .u64 b]) ∧ Fr Nil w w' := by
  go_enter Tryd.func15, Tryd.ntmps15
  go_wp2
  refine bodyPost_ret (v := .agg #[.bool true, .int .u64 b]) (by simp [results, Tryd.results15, go_sem]) rfl ⟨rfl, ?_⟩
  (repeat (first | (with_reducible exact Fr.refl _ _) | (with_reducible assumption) | (with_reducible exact Fr.of_nil (by assumption)) | (with_reducible refine Fr.drew ?_) | (with_reducible refine Fr.drewN ?_ _) | (with_reducible refine Fr.alloc ?_ _) | (with_reducible refine Fr.set ?_ _ _ (by first | (intros; omega) | (simp; done) | (simp; omega))) | (with_reducible refine Fr.via ?_ (by assumption)) | (with_reducible refine Fr.comp ?_ (by assumption))))
theorem aw1 : fop .quo 4607182418800017408 9223372036854775808 = 18442240474082181120 := by decide +kernel
theorem aw2 : printF 18442240474082181120 = [48, 102, 102, 102, 102, 48, 48, 48, 48, 48, 48, 48, 48, 48, 48, 48, 48, 48] := by decide +kernel
theorem aw3 : Lib.itoa (wrap64 (IntKind.u64.wrap (wrap64 ((wrap64 7).tdiv (wrap64 (IntKind.u64.wrap (-2))))))) = [45, 51] := by decide +kernel
theorem aw4 : Lib.itoa (wrap64 (IntKind.u64.wrap ((wrap64 7).tmod (wrap64 (IntKind.u64.wrap (-2)))))) = [49] := by decide +kernel
set_option maxRecDepth 100000 in
theorem awake_any (w : World) (hT : Tabs w) :
    Calls Tryd.prog 12 #[] w fun e w' => e = .returned (.bool true) ∧ Fr Nil w w' := by
  go_enter Tryd.func12, Tryd.ntmps12
  go_wp2_with fail
  refine (flt_any _ _).mono ?_
  rintro e w1 ⟨rfl, f1⟩
  go_wp2_with fail
  refine (flt_any _ _).mono ?_
  rintro e w2 ⟨rfl, f2⟩
  go_wp2_with fail
  refine (calc_fdiv 4607182418800017408 9223372036854775808 _).mono ?_
  rw [aw1]
  rintro e w3 ⟨rfl, f3⟩
  go_wp2_with fail
  refine (int_any _ _).mono ?_
  rintro e w4 ⟨rfl, f4⟩
  obtain ⟨_, _, _⟩ := f4.at (w3.heap.size) (by first | assumption | omega | (simp; done) | (simp; omega))
  go_wp2_with fail
  refine (int_any _ _).mono ?_
  rintro e w5 ⟨rfl, f5⟩
  obtain ⟨_, _, _⟩ := f5.at (w3.heap.size) (by first | assumption | omega | (simp; done) | (simp; omega))
  go_wp2_with fail
  refine (calc_div_in _ _ _ (by decide +kernel) (.inl (by decide +kernel))).mono ?_
  rintro e w6 ⟨rfl, f6⟩
  obtain ⟨_, _, _⟩ := f6.at (w3.heap.size) (by first | assumption | omega | (simp; done) | (simp; omega))
  go_wp2_with fail
  refine (int_any _ _).mono ?_
  rintro e w7 ⟨rfl, f7⟩
  obtain ⟨_, _, _⟩ := f7.at (w3.heap.size) (by first | assumption | omega | (simp; done) | (simp; omega)); obtain ⟨_, _, _⟩ := f7.at (w6.heap.size) (by first | assumption | omega | (simp; done) | (simp; omega))
  go_wp2_with fail
  refine (int_any _ _).mono ?_
  rintro e w8 ⟨rfl, f8⟩
  obtain ⟨_, _, _⟩ := f8.at (w3.heap.size) (by first | assumption | omega | (simp; done) | (simp; omega)); obtain ⟨_, _, _⟩ := f8.at (w6.heap.size) (by first | assumption | omega | (simp; done) | (simp; omega))
  go_wp2_with fail
  refine (calc_rem_in _ _ _ (by decide +kernel) (.inl (by decide +kernel))).mono ?_
  rintro e w9 ⟨rfl, f9⟩
  obtain ⟨_, _, _⟩ := f9.at (w3.heap.size) (by first | assumption | omega | (simp; done) | (simp; omega)); obtain ⟨_, _, _⟩ := f9.at (w6.heap.size) (by first | assumption | omega | (simp; done) | (simp; omega))
  go_wp2_with fail
  refine (print_flt 18442240474082181120 _ (by omega) (hT.fr (by (repeat (first | (with_reducible exact Fr.refl _ _) | (with_reducible assumption) | (with_reducible exact Fr.of_nil (by assumption)) | (with_reducible refine Fr.drew ?_) | (with_reducible refine Fr.drewN ?_ _) | (with_reducible refine Fr.alloc ?_ _) | (with_reducible refine Fr.set ?_ _ _ (by first | (intros; omega) | (simp; done) | (simp; omega))) | (with_reducible refine Fr.via ?_ (by assumption)) | (with_reducible refine Fr.comp ?_ (by assumption))))))).mono ?_
  rw [aw2]
  rintro e w10 ⟨rfl, f10⟩
  obtain ⟨_, _, _⟩ := f10.at (w3.heap.size) (by first | assumption | omega | (simp; done) | (simp; omega)); obtain ⟨_, _, _⟩ := f10.at (w6.heap.size) (by first | assumption | omega | (simp; done) | (simp; omega)); obtain ⟨_, _, _⟩ := f10.at (w9.heap.size) (by first | assumption | omega | (simp; done) | (simp; omega))
  go_wp2_with fail
  refine (print_int _ _ (hT.fr (by (repeat (first | (with_reducible exact Fr.refl _ _) | (with_reducible assumption) | (with_reducible exact Fr.of_nil (by assumption)) | (with_reducible refine Fr.drew ?_) | (with_reducible refine Fr.drewN ?_ _) | (with_reducible refine Fr.alloc ?_ _) | (with_reducible refine Fr.set ?_ _ _ (by first | (intros; omega) | (simp; done) | (simp; omega))) | (with_reducible refine Fr.via ?_ (by assumption)) | (with_reducible refine Fr.comp ?_ (by assumption))))))).mono ?_
  rw [aw3]
  rintro e w11 ⟨rfl, f11⟩
  obtain ⟨_, _, _⟩ := f11.at (w3.heap.size) (by first | assumption | omega | (simp; done) | (simp; omega)); obtain ⟨_, _, _⟩ := f11.at (w6.heap.size) (by first | assumption | omega | (simp; done) | (simp; omega)); obtain ⟨_, _, _⟩ := f11.at (w9.heap.size) (by first | assumption | omega | (simp; done) | (simp; omega))
  go_wp2_with fail
  refine (print_int _ _ (hT.fr (by (repeat (first | (with_reducible exact Fr.refl _ _) | (with_reducible assumption) | (with_reducible exact Fr.of_nil (by assumption)) | (with_reducible refine Fr.drew ?_) | (with_reducible refine Fr.drewN ?_ _) | (with_reducible refine Fr.alloc ?_ _) | (with_reducible refine Fr.set ?_ _ _ (by first | (intros; omega) | (simp; done) | (simp; omega))) | (with_reducible refine Fr.via ?_ (by assumption)) | (with_reducible refine Fr.comp ?_ (by assumption))))))).mono ?_
  rw [aw4]
  rintro e w12 ⟨rfl, f12⟩
  obtain ⟨_, _, _⟩ := f12.at (w3.heap.size) (by first | assumption | omega | (simp; done) | (simp; omega)); obtain ⟨_, _, _⟩ := f12.at (w6.heap.size) (by first | assumption | omega | (simp; done) | (simp; omega)); obtain ⟨_, _, _⟩ := f12.at (w9.heap.size) (by first | assumption | omega | (simp; done) | (simp; omega))
  go_wp2
  go_ret
  exact ⟨rfl, by (repeat (first | (with_reducible exact Fr.refl _ _) | (with_reducible assumption) | (with_reducible exact Fr.of_nil (by assumption)) | (with_reducible refine Fr.drew ?_) | (with_reducible refine Fr.drewN ?_ _) | (with_reducible refine Fr.alloc ?_ _) | (with_reducible refine Fr.set ?_ _ _ (by first | (intros; omega) | (simp; done) | (simp; omega))) | (with_reducible refine Fr.via ?_ (by assumption)) | (with_reducible refine Fr.comp ?_ (by assumption))))⟩
end Go.Proofs.YtcadbidccmiflaaDoor
