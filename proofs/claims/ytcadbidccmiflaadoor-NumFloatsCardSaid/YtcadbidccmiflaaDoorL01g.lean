/-
  The law NumFloats. No conditions but the tables of Go's library.
-/
import Derived.Test.YtcadbidccmiflaaDoorL01a
import Derived.Test.YtcadbidccmiflaaDoorIeee4
import Derived.Test.YtcadbidccmiflaaDoorVia
import Derived.Deep.RegionHeld3
import Derived.Deep.DeepCutAuto
namespace Go.Proofs.YtcadbidccmiflaaDoor
set_option linter.unusedSimpArgs false
set_option linter.unusedVariables false
open Go.RowKit

theorem none_any (x : Nat) (w : World) (hx : x = 9221120237041090560) :
    Calls Tryd.prog 19 #[.agg #[.bool true, .int .u64 (x : Int)]] w fun e w' => e = .returned (.bool true) ∧ Fr Nil w w' := by
  have hx' : (x : Int) = 9221120237041090560 := by omega
  rw [hx']
  clear hx hx'
  go_enter Tryd.func19, Tryd.ntmps19
  go_wp2_with fail
  apply wp_via (F := fun V => Fr Nil w V)
  · go_region_held3 (fun w' => w'.cell? ⟨w.heap.size, 0, none⟩ = some (.bool true) ∧ w'.cell? ⟨w.heap.size, 1, none⟩ = some (.int .u64 9221120237041090560)) (first | go_keep | exact ⟨q0, q1⟩) (first
      | (go_at_call 15; refine (flt_any _ _).mono ?_; rintro e wa ⟨rfl, fa⟩; have ba := fa.blk (Blk.drew (Blk.new w #[.bool true, .int .u64 9221120237041090560] 25)) (fun q => q); have q0 := ba.cell 0; have q1 := ba.cell 1; simp at q0 q1))
    all_goals (refine Via.mk ?_; (repeat (first | (with_reducible exact Fr.refl _ _) | (with_reducible assumption) | (with_reducible exact Fr.of_nil (by assumption)) | (with_reducible refine Fr.drew ?_) | (with_reducible refine Fr.drewN ?_ _) | (with_reducible refine Fr.alloc ?_ _) | (with_reducible refine Fr.set ?_ _ _ (by first | (intros; omega) | (simp; done) | (simp; omega))) | (with_reducible refine Fr.via ?_ (by assumption)) | (with_reducible refine Fr.comp ?_ (by assumption)))))
  rintro V fV
  go_wp2
  go_ret
  exact ⟨rfl, fV⟩
theorem nan_int (b : Nat) : decide ((9218868437227405312 : Int) < (b : Int) % 9223372036854775808) = nanB b := by
  unfold nanB rung
  rw [decide_eq_decide]; omega
theorem ix0 (w : World) (a b c : Value) : (Instr.index 43 (.agg #[a, b, c]) (.int .i64 0)).run Tryd.prog w = .ok a w := by kernel_rfl
theorem ix1 (w : World) (a b c : Value) : (Instr.index 43 (.agg #[a, b, c]) (.int .i64 1)).run Tryd.prog w = .ok b w := by kernel_rfl
theorem ix2 (w : World) (a b c : Value) : (Instr.index 43 (.agg #[a, b, c]) (.int .i64 2)).run Tryd.prog w = .ok c w := by kernel_rfl
set_option maxRecDepth 100000 in
set_option maxHeartbeats 1000000 in
theorem floats_nan (a b : Nat) (w : World) (hT : Tabs w) (ha : a < 18446744073709551616) (hb : b < 18446744073709551616) (hn : (nanB a || nanB b) = true) :
    Calls Tryd.prog 7 #[.int .u64 (a : Int), .int .u64 (b : Int)] w fun e w' => e = .returned (.bool true) ∧ Fr Nil w w' := by
  have Hadd : Hid (fop .add a b = 9221120237041090560) := Lib.hid (fop_nan _ (by simp) a b hn)
  have Gadd : Hid (fop .add b a = 9221120237041090560) := Lib.hid (fop_nan _ (by simp) b a (by rw [Bool.or_comm]; exact hn))
  have Hsub : Hid (fop .sub a b = 9221120237041090560) := Lib.hid (fop_nan _ (by simp) a b hn)
  have Gsub : Hid (fop .sub b a = 9221120237041090560) := Lib.hid (fop_nan _ (by simp) b a (by rw [Bool.or_comm]; exact hn))
  have Hmul : Hid (fop .mul a b = 9221120237041090560) := Lib.hid (fop_nan _ (by simp) a b hn)
  have Gmul : Hid (fop .mul b a = 9221120237041090560) := Lib.hid (fop_nan _ (by simp) b a (by rw [Bool.or_comm]; exact hn))
  have Hdiv : Hid (fop .quo a b = 9221120237041090560) := Lib.hid (fop_nan _ (by simp) a b hn)
  have Gdiv : Hid (fop .quo b a = 9221120237041090560) := Lib.hid (fop_nan _ (by simp) b a (by rw [Bool.or_comm]; exact hn))
  obtain ⟨l1, l2, l3⟩ := tri_nan a b hn
  have HL := Lib.hid l1
  have HM := Lib.hid l2
  have HS := Lib.hid l3
  obtain ⟨p, q, hp, hq, hpq⟩ : ∃ p q : Bool, decide ((9218868437227405312 : Int) < (a : Int) % 9223372036854775808) = p ∧ decide ((9218868437227405312 : Int) < (b : Int) % 9223372036854775808) = q ∧ (p || q) = true := by
    exact ⟨_, _, nan_int a, nan_int b, hn⟩
  clear l1 l2 l3 hn
  cases p
  · obtain rfl : q = true := by simpa using hpq
    clear hpq
    go_enter Tryd.func7, Tryd.ntmps7
    go_wp2_with fail
    refine (awake_any _ hT).mono ?_
    rintro e w1 ⟨rfl, f1⟩
    go_wp2_with fail
    refine wp_loop_rounds 5 ?_
    rw [rounds_succ]
    go_wp2_with fail
    refine (flt_any _ _).mono ?_
    rintro e w2 ⟨rfl, f2⟩
    go_wp2_with fail
    refine (flt_any _ _).mono ?_
    rintro e w3 ⟨rfl, f3⟩
    go_wp2_with fail
    refine (calc_fadd a b _).mono ?_
    rw [Hadd.out]
    rintro e w4 ⟨rfl, f4⟩
    go_wp2_with fail
    refine (flt_any _ _).mono ?_
    rintro e w5 ⟨rfl, f5⟩
    obtain ⟨_, _, _⟩ := f5.at (w4.heap.size) (by first | assumption | omega | (simp; done) | (simp; omega))
    go_wp2_with fail
    refine (flt_any _ _).mono ?_
    rintro e w6 ⟨rfl, f6⟩
    obtain ⟨_, _, _⟩ := f6.at (w4.heap.size) (by first | assumption | omega | (simp; done) | (simp; omega))
    go_wp2_with fail
    refine (calc_fadd b a _).mono ?_
    rw [Gadd.out]
    rintro e w7 ⟨rfl, f7⟩
    obtain ⟨_, _, _⟩ := f7.at (w4.heap.size) (by first | assumption | omega | (simp; done) | (simp; omega))
    go_wp2_with fail
    refine (none_any 9221120237041090560 _ rfl).mono ?_
    rintro e w8 ⟨rfl, f8⟩
    obtain ⟨_, _, _⟩ := f8.at (w4.heap.size) (by first | assumption | omega | (simp; done) | (simp; omega)); obtain ⟨_, _, _⟩ := f8.at (w7.heap.size) (by first | assumption | omega | (simp; done) | (simp; omega))
    go_wp2_with fail
    rw [rounds_succ]
    go_wp2_with fail
    refine (flt_any _ _).mono ?_
    rintro e w9 ⟨rfl, f9⟩
    go_wp2_with fail
    refine (flt_any _ _).mono ?_
    rintro e w10 ⟨rfl, f10⟩
    go_wp2_with fail
    refine (calc_fsub a b _).mono ?_
    rw [Hsub.out]
    rintro e w11 ⟨rfl, f11⟩
    go_wp2_with fail
    refine (flt_any _ _).mono ?_
    rintro e w12 ⟨rfl, f12⟩
    obtain ⟨_, _, _⟩ := f12.at (w11.heap.size) (by first | assumption | omega | (simp; done) | (simp; omega))
    go_wp2_with fail
    refine (flt_any _ _).mono ?_
    rintro e w13 ⟨rfl, f13⟩
    obtain ⟨_, _, _⟩ := f13.at (w11.heap.size) (by first | assumption | omega | (simp; done) | (simp; omega))
    go_wp2_with fail
    refine (calc_fsub b a _).mono ?_
    rw [Gsub.out]
    rintro e w14 ⟨rfl, f14⟩
    obtain ⟨_, _, _⟩ := f14.at (w11.heap.size) (by first | assumption | omega | (simp; done) | (simp; omega))
    go_wp2_with fail
    refine (none_any 9221120237041090560 _ rfl).mono ?_
    rintro e w15 ⟨rfl, f15⟩
    obtain ⟨_, _, _⟩ := f15.at (w11.heap.size) (by first | assumption | omega | (simp; done) | (simp; omega)); obtain ⟨_, _, _⟩ := f15.at (w14.heap.size) (by first | assumption | omega | (simp; done) | (simp; omega))
    go_wp2_with fail
    rw [rounds_succ]
    go_wp2_with fail
    refine (flt_any _ _).mono ?_
    rintro e w16 ⟨rfl, f16⟩
    go_wp2_with fail
    refine (flt_any _ _).mono ?_
    rintro e w17 ⟨rfl, f17⟩
    go_wp2_with fail
    refine (calc_fmul a b _).mono ?_
    rw [Hmul.out]
    rintro e w18 ⟨rfl, f18⟩
    go_wp2_with fail
    refine (flt_any _ _).mono ?_
    rintro e w19 ⟨rfl, f19⟩
    obtain ⟨_, _, _⟩ := f19.at (w18.heap.size) (by first | assumption | omega | (simp; done) | (simp; omega))
    go_wp2_with fail
    refine (flt_any _ _).mono ?_
    rintro e w20 ⟨rfl, f20⟩
    obtain ⟨_, _, _⟩ := f20.at (w18.heap.size) (by first | assumption | omega | (simp; done) | (simp; omega))
    go_wp2_with fail
    refine (calc_fmul b a _).mono ?_
    rw [Gmul.out]
    rintro e w21 ⟨rfl, f21⟩
    obtain ⟨_, _, _⟩ := f21.at (w18.heap.size) (by first | assumption | omega | (simp; done) | (simp; omega))
    go_wp2_with fail
    refine (none_any 9221120237041090560 _ rfl).mono ?_
    rintro e w22 ⟨rfl, f22⟩
    obtain ⟨_, _, _⟩ := f22.at (w18.heap.size) (by first | assumption | omega | (simp; done) | (simp; omega)); obtain ⟨_, _, _⟩ := f22.at (w21.heap.size) (by first | assumption | omega | (simp; done) | (simp; omega))
    go_wp2_with fail
    rw [rounds_succ]
    go_wp2_with fail
    refine (flt_any _ _).mono ?_
    rintro e w23 ⟨rfl, f23⟩
    go_wp2_with fail
    refine (flt_any _ _).mono ?_
    rintro e w24 ⟨rfl, f24⟩
    go_wp2_with fail
    refine (calc_fdiv a b _).mono ?_
    rw [Hdiv.out]
    rintro e w25 ⟨rfl, f25⟩
    go_wp2_with fail
    refine (flt_any _ _).mono ?_
    rintro e w26 ⟨rfl, f26⟩
    obtain ⟨_, _, _⟩ := f26.at (w25.heap.size) (by first | assumption | omega | (simp; done) | (simp; omega))
    go_wp2_with fail
    refine (flt_any _ _).mono ?_
    rintro e w27 ⟨rfl, f27⟩
    obtain ⟨_, _, _⟩ := f27.at (w25.heap.size) (by first | assumption | omega | (simp; done) | (simp; omega))
    go_wp2_with fail
    refine (calc_fdiv b a _).mono ?_
    rw [Gdiv.out]
    rintro e w28 ⟨rfl, f28⟩
    obtain ⟨_, _, _⟩ := f28.at (w25.heap.size) (by first | assumption | omega | (simp; done) | (simp; omega))
    go_wp2_with fail
    refine (none_any 9221120237041090560 _ rfl).mono ?_
    rintro e w29 ⟨rfl, f29⟩
    obtain ⟨_, _, _⟩ := f29.at (w25.heap.size) (by first | assumption | omega | (simp; done) | (simp; omega)); obtain ⟨_, _, _⟩ := f29.at (w28.heap.size) (by first | assumption | omega | (simp; done) | (simp; omega))
    go_wp2_with fail
    rw [rounds_succ]
    go_wp2_with fail
    refine (flt_any _ _).mono ?_
    rintro e w30 ⟨rfl, f30⟩
    go_wp2_with fail
    refine (flt_any _ _).mono ?_
    rintro e w31 ⟨rfl, f31⟩
    go_wp2_with fail
    refine (test_fless a b _).mono ?_
    rw [order_fless a b ha hb, HL.out]
    rintro e w32 ⟨rfl, f32⟩
    go_wp2_with fail
    refine (flt_any _ _).mono ?_
    rintro e w33 ⟨rfl, f33⟩
    go_wp2_with fail
    refine (flt_any _ _).mono ?_
    rintro e w34 ⟨rfl, f34⟩
    go_wp2_with fail
    refine (test_fless b a _).mono ?_
    rw [order_fless b a hb ha, HM.out]
    rintro e w35 ⟨rfl, f35⟩
    go_wp2_with fail
    refine (flt_any _ _).mono ?_
    rintro e w36 ⟨rfl, f36⟩
    go_wp2_with fail
    refine (flt_any _ _).mono ?_
    rintro e w37 ⟨rfl, f37⟩
    go_wp2_with fail
    refine (test_feq a b _).mono ?_
    rw [order_feq a b ha hb, HS.out]
    rintro e w38 ⟨rfl, f38⟩
    go_wp2
    go_ret
    exact ⟨rfl, by (repeat (first | (with_reducible exact Fr.refl _ _) | (with_reducible assumption) | (with_reducible exact Fr.of_nil (by assumption)) | (with_reducible refine Fr.drew ?_) | (with_reducible refine Fr.drewN ?_ _) | (with_reducible refine Fr.alloc ?_ _) | (with_reducible refine Fr.set ?_ _ _ (by first | (intros; omega) | (simp; done) | (simp; omega))) | (with_reducible refine Fr.via ?_ (by assumption)) | (with_reducible refine Fr.comp ?_ (by assumption))))⟩
  · clear hpq
    go_enter Tryd.func7, Tryd.ntmps7
    go_wp2_with fail
    refine (awake_any _ hT).mono ?_
    rintro e w1 ⟨rfl, f1⟩
    go_wp2_with fail
    refine wp_loop_rounds 5 ?_
    rw [rounds_succ]
    go_wp2_with fail
    refine (flt_any _ _).mono ?_
    rintro e w2 ⟨rfl, f2⟩
    go_wp2_with fail
    refine (flt_any _ _).mono ?_
    rintro e w3 ⟨rfl, f3⟩
    go_wp2_with fail
    refine (calc_fadd a b _).mono ?_
    rw [Hadd.out]
    rintro e w4 ⟨rfl, f4⟩
    go_wp2_with fail
    refine (flt_any _ _).mono ?_
    rintro e w5 ⟨rfl, f5⟩
    obtain ⟨_, _, _⟩ := f5.at (w4.heap.size) (by first | assumption | omega | (simp; done) | (simp; omega))
    go_wp2_with fail
    refine (flt_any _ _).mono ?_
    rintro e w6 ⟨rfl, f6⟩
    obtain ⟨_, _, _⟩ := f6.at (w4.heap.size) (by first | assumption | omega | (simp; done) | (simp; omega))
    go_wp2_with fail
    refine (calc_fadd b a _).mono ?_
    rw [Gadd.out]
    rintro e w7 ⟨rfl, f7⟩
    obtain ⟨_, _, _⟩ := f7.at (w4.heap.size) (by first | assumption | omega | (simp; done) | (simp; omega))
    go_wp2_with fail
    refine (none_any 9221120237041090560 _ rfl).mono ?_
    rintro e w8 ⟨rfl, f8⟩
    obtain ⟨_, _, _⟩ := f8.at (w4.heap.size) (by first | assumption | omega | (simp; done) | (simp; omega)); obtain ⟨_, _, _⟩ := f8.at (w7.heap.size) (by first | assumption | omega | (simp; done) | (simp; omega))
    go_wp2_with fail
    rw [rounds_succ]
    go_wp2_with fail
    refine (flt_any _ _).mono ?_
    rintro e w9 ⟨rfl, f9⟩
    go_wp2_with fail
    refine (flt_any _ _).mono ?_
    rintro e w10 ⟨rfl, f10⟩
    go_wp2_with fail
    refine (calc_fsub a b _).mono ?_
    rw [Hsub.out]
    rintro e w11 ⟨rfl, f11⟩
    go_wp2_with fail
    refine (flt_any _ _).mono ?_
    rintro e w12 ⟨rfl, f12⟩
    obtain ⟨_, _, _⟩ := f12.at (w11.heap.size) (by first | assumption | omega | (simp; done) | (simp; omega))
    go_wp2_with fail
    refine (flt_any _ _).mono ?_
    rintro e w13 ⟨rfl, f13⟩
    obtain ⟨_, _, _⟩ := f13.at (w11.heap.size) (by first | assumption | omega | (simp; done) | (simp; omega))
    go_wp2_with fail
    refine (calc_fsub b a _).mono ?_
    rw [Gsub.out]
    rintro e w14 ⟨rfl, f14⟩
    obtain ⟨_, _, _⟩ := f14.at (w11.heap.size) (by first | assumption | omega | (simp; done) | (simp; omega))
    go_wp2_with fail
    refine (none_any 9221120237041090560 _ rfl).mono ?_
    rintro e w15 ⟨rfl, f15⟩
    obtain ⟨_, _, _⟩ := f15.at (w11.heap.size) (by first | assumption | omega | (simp; done) | (simp; omega)); obtain ⟨_, _, _⟩ := f15.at (w14.heap.size) (by first | assumption | omega | (simp; done) | (simp; omega))
    go_wp2_with fail
    rw [rounds_succ]
    go_wp2_with fail
    refine (flt_any _ _).mono ?_
    rintro e w16 ⟨rfl, f16⟩
    go_wp2_with fail
    refine (flt_any _ _).mono ?_
    rintro e w17 ⟨rfl, f17⟩
    go_wp2_with fail
    refine (calc_fmul a b _).mono ?_
    rw [Hmul.out]
    rintro e w18 ⟨rfl, f18⟩
    go_wp2_with fail
    refine (flt_any _ _).mono ?_
    rintro e w19 ⟨rfl, f19⟩
    obtain ⟨_, _, _⟩ := f19.at (w18.heap.size) (by first | assumption | omega | (simp; done) | (simp; omega))
    go_wp2_with fail
    refine (flt_any _ _).mono ?_
    rintro e w20 ⟨rfl, f20⟩
    obtain ⟨_, _, _⟩ := f20.at (w18.heap.size) (by first | assumption | omega | (simp; done) | (simp; omega))
    go_wp2_with fail
    refine (calc_fmul b a _).mono ?_
    rw [Gmul.out]
    rintro e w21 ⟨rfl, f21⟩
    obtain ⟨_, _, _⟩ := f21.at (w18.heap.size) (by first | assumption | omega | (simp; done) | (simp; omega))
    go_wp2_with fail
    refine (none_any 9221120237041090560 _ rfl).mono ?_
    rintro e w22 ⟨rfl, f22⟩
    obtain ⟨_, _, _⟩ := f22.at (w18.heap.size) (by first | assumption | omega | (simp; done) | (simp; omega)); obtain ⟨_, _, _⟩ := f22.at (w21.heap.size) (by first | assumption | omega | (simp; done) | (simp; omega))
    go_wp2_with fail
    rw [rounds_succ]
    go_wp2_with fail
    refine (flt_any _ _).mono ?_
    rintro e w23 ⟨rfl, f23⟩
    go_wp2_with fail
    refine (flt_any _ _).mono ?_
    rintro e w24 ⟨rfl, f24⟩
    go_wp2_with fail
    refine (calc_fdiv a b _).mono ?_
    rw [Hdiv.out]
    rintro e w25 ⟨rfl, f25⟩
    go_wp2_with fail
    refine (flt_any _ _).mono ?_
    rintro e w26 ⟨rfl, f26⟩
    obtain ⟨_, _, _⟩ := f26.at (w25.heap.size) (by first | assumption | omega | (simp; done) | (simp; omega))
    go_wp2_with fail
    refine (flt_any _ _).mono ?_
    rintro e w27 ⟨rfl, f27⟩
    obtain ⟨_, _, _⟩ := f27.at (w25.heap.size) (by first | assumption | omega | (simp; done) | (simp; omega))
    go_wp2_with fail
    refine (calc_fdiv b a _).mono ?_
    rw [Gdiv.out]
    rintro e w28 ⟨rfl, f28⟩
    obtain ⟨_, _, _⟩ := f28.at (w25.heap.size) (by first | assumption | omega | (simp; done) | (simp; omega))
    go_wp2_with fail
    refine (none_any 9221120237041090560 _ rfl).mono ?_
    rintro e w29 ⟨rfl, f29⟩
    obtain ⟨_, _, _⟩ := f29.at (w25.heap.size) (by first | assumption | omega | (simp; done) | (simp; omega)); obtain ⟨_, _, _⟩ := f29.at (w28.heap.size) (by first | assumption | omega | (simp; done) | (simp; omega))
    go_wp2_with fail
    rw [rounds_succ]
    go_wp2_with fail
    refine (flt_any _ _).mono ?_
    rintro e w30 ⟨rfl, f30⟩
    go_wp2_with fail
    refine (flt_any _ _).mono ?_
    rintro e w31 ⟨rfl, f31⟩
    go_wp2_with fail
    refine (test_fless a b _).mono ?_
    rw [order_fless a b ha hb, HL.out]
    rintro e w32 ⟨rfl, f32⟩
    go_wp2_with fail
    refine (flt_any _ _).mono ?_
    rintro e w33 ⟨rfl, f33⟩
    go_wp2_with fail
    refine (flt_any _ _).mono ?_
    rintro e w34 ⟨rfl, f34⟩
    go_wp2_with fail
    refine (test_fless b a _).mono ?_
    rw [order_fless b a hb ha, HM.out]
    rintro e w35 ⟨rfl, f35⟩
    go_wp2_with fail
    refine (flt_any _ _).mono ?_
    rintro e w36 ⟨rfl, f36⟩
    go_wp2_with fail
    refine (flt_any _ _).mono ?_
    rintro e w37 ⟨rfl, f37⟩
    go_wp2_with fail
    refine (test_feq a b _).mono ?_
    rw [order_feq a b ha hb, HS.out]
    rintro e w38 ⟨rfl, f38⟩
    go_wp2
    go_ret
    exact ⟨rfl, by (repeat (first | (with_reducible exact Fr.refl _ _) | (with_reducible assumption) | (with_reducible exact Fr.of_nil (by assumption)) | (with_reducible refine Fr.drew ?_) | (with_reducible refine Fr.drewN ?_ _) | (with_reducible refine Fr.alloc ?_ _) | (with_reducible refine Fr.set ?_ _ _ (by first | (intros; omega) | (simp; done) | (simp; omega))) | (with_reducible refine Fr.via ?_ (by assumption)) | (with_reducible refine Fr.comp ?_ (by assumption))))⟩
set_option maxRecDepth 100000 in
set_option maxHeartbeats 1000000 in
theorem floats_lt (a b : Nat) (w : World) (hT : Tabs w) (ha : a < 18446744073709551616) (hb : b < 18446744073709551616) (hn : (nanB a || nanB b) = false) (hl : flessR a b = true) (hm : flessR b a = false) (hs : feqR a b = false) :
    Calls Tryd.prog 7 #[.int .u64 (a : Int), .int .u64 (b : Int)] w fun e w' => e = .returned (.bool true) ∧ Fr Nil w w' := by
  have na : nanB a = false := by cases h : nanB a <;> simp_all
  have nb : nanB b = false := by cases h : nanB b <;> simp_all
  have HE := Lib.hid (feq_self a na)
  have hback := fop_back a ha na
  obtain ⟨p, hp⟩ : ∃ p, fop .mul a 13830554455654793216 = p := ⟨_, rfl⟩
  rw [hp] at hback
  have HB := Lib.hid hback
  have HP := Lib.hid hp
  obtain ⟨vadd, hvadd⟩ : ∃ v, fop .add a b = v := ⟨_, rfl⟩
  have Hadd := Lib.hid hvadd
  have Gadd : Hid (fop .add b a = vadd) := Lib.hid (by rw [← hvadd]; exact fop_add_comm b a)
  obtain ⟨vsub, hvsub⟩ : ∃ v, fop .sub a b = v := ⟨_, rfl⟩
  have Hsub := Lib.hid hvsub
  obtain ⟨usub, husub⟩ : ∃ u, fop .sub b a = u := ⟨_, rfl⟩
  have Gsub := Lib.hid husub
  clear husub
  obtain ⟨vmul, hvmul⟩ : ∃ v, fop .mul a b = v := ⟨_, rfl⟩
  have Hmul := Lib.hid hvmul
  have Gmul : Hid (fop .mul b a = vmul) := Lib.hid (by rw [← hvmul]; exact fop_mul_comm b a)
  obtain ⟨vdiv, hvdiv⟩ : ∃ v, fop .quo a b = v := ⟨_, rfl⟩
  have Hdiv := Lib.hid hvdiv
  obtain ⟨udiv, hudiv⟩ : ∃ u, fop .quo b a = u := ⟨_, rfl⟩
  have Gdiv := Lib.hid hudiv
  clear hudiv
  have d1 := (nan_int a).trans na
  have d2 := (nan_int b).trans nb
  clear na nb hback hp hvadd hvsub hvmul hvdiv hn
  have HL := Lib.hid hl
  have HM := Lib.hid hm
  have HS := Lib.hid hs
  clear hl hm hs
  have i0 := fun w a b c => ix0 w a b c
  have i1 := fun w a b c => ix1 w a b c
  have i2 := fun w a b c => ix2 w a b c
  go_enter Tryd.func7, Tryd.ntmps7
  go_wp2_with fail
  refine (awake_any _ hT).mono ?_
  rintro e w1 ⟨rfl, f1⟩
  go_wp2_with fail
  refine wp_loop_rounds 5 ?_
  rw [rounds_succ]
  go_wp2_with fail
  refine (flt_any _ _).mono ?_
  rintro e w2 ⟨rfl, f2⟩
  go_wp2_with fail
  refine (flt_any _ _).mono ?_
  rintro e w3 ⟨rfl, f3⟩
  go_wp2_with fail
  refine (calc_fadd a b _).mono ?_
  rw [Hadd.out]
  rintro e w4 ⟨rfl, f4⟩
  go_wp2_with fail
  refine (flt_any _ _).mono ?_
  rintro e w5 ⟨rfl, f5⟩
  obtain ⟨_, _, _⟩ := f5.at (w4.heap.size) (by first | assumption | omega | (simp; done) | (simp; omega))
  go_wp2_with fail
  refine (flt_any _ _).mono ?_
  rintro e w6 ⟨rfl, f6⟩
  obtain ⟨_, _, _⟩ := f6.at (w4.heap.size) (by first | assumption | omega | (simp; done) | (simp; omega))
  go_wp2_with fail
  refine (calc_fadd b a _).mono ?_
  rw [Gadd.out]
  rintro e w7 ⟨rfl, f7⟩
  obtain ⟨_, _, _⟩ := f7.at (w4.heap.size) (by first | assumption | omega | (simp; done) | (simp; omega))
  go_wp2_with fail
  rw [rounds_succ]
  go_wp2_with fail
  refine (flt_any _ _).mono ?_
  rintro e w8 ⟨rfl, f8⟩
  go_wp2_with fail
  refine (flt_any _ _).mono ?_
  rintro e w9 ⟨rfl, f9⟩
  go_wp2_with fail
  refine (calc_fsub a b _).mono ?_
  rw [Hsub.out]
  rintro e w10 ⟨rfl, f10⟩
  go_wp2_with fail
  refine (flt_any _ _).mono ?_
  rintro e w11 ⟨rfl, f11⟩
  obtain ⟨_, _, _⟩ := f11.at (w10.heap.size) (by first | assumption | omega | (simp; done) | (simp; omega))
  go_wp2_with fail
  refine (flt_any _ _).mono ?_
  rintro e w12 ⟨rfl, f12⟩
  obtain ⟨_, _, _⟩ := f12.at (w10.heap.size) (by first | assumption | omega | (simp; done) | (simp; omega))
  go_wp2_with fail
  refine (calc_fsub b a _).mono ?_
  rw [Gsub.out]
  rintro e w13 ⟨rfl, f13⟩
  obtain ⟨_, _, _⟩ := f13.at (w10.heap.size) (by first | assumption | omega | (simp; done) | (simp; omega))
  go_wp2_with fail
  rw [rounds_succ]
  go_wp2_with fail
  refine (flt_any _ _).mono ?_
  rintro e w14 ⟨rfl, f14⟩
  go_wp2_with fail
  refine (flt_any _ _).mono ?_
  rintro e w15 ⟨rfl, f15⟩
  go_wp2_with fail
  refine (calc_fmul a b _).mono ?_
  rw [Hmul.out]
  rintro e w16 ⟨rfl, f16⟩
  go_wp2_with fail
  refine (flt_any _ _).mono ?_
  rintro e w17 ⟨rfl, f17⟩
  obtain ⟨_, _, _⟩ := f17.at (w16.heap.size) (by first | assumption | omega | (simp; done) | (simp; omega))
  go_wp2_with fail
  refine (flt_any _ _).mono ?_
  rintro e w18 ⟨rfl, f18⟩
  obtain ⟨_, _, _⟩ := f18.at (w16.heap.size) (by first | assumption | omega | (simp; done) | (simp; omega))
  go_wp2_with fail
  refine (calc_fmul b a _).mono ?_
  rw [Gmul.out]
  rintro e w19 ⟨rfl, f19⟩
  obtain ⟨_, _, _⟩ := f19.at (w16.heap.size) (by first | assumption | omega | (simp; done) | (simp; omega))
  go_wp2_with fail
  rw [rounds_succ]
  go_wp2_with fail
  refine (flt_any _ _).mono ?_
  rintro e w20 ⟨rfl, f20⟩
  go_wp2_with fail
  refine (flt_any _ _).mono ?_
  rintro e w21 ⟨rfl, f21⟩
  go_wp2_with fail
  refine (calc_fdiv a b _).mono ?_
  rw [Hdiv.out]
  rintro e w22 ⟨rfl, f22⟩
  go_wp2_with fail
  refine (flt_any _ _).mono ?_
  rintro e w23 ⟨rfl, f23⟩
  obtain ⟨_, _, _⟩ := f23.at (w22.heap.size) (by first | assumption | omega | (simp; done) | (simp; omega))
  go_wp2_with fail
  refine (flt_any _ _).mono ?_
  rintro e w24 ⟨rfl, f24⟩
  obtain ⟨_, _, _⟩ := f24.at (w22.heap.size) (by first | assumption | omega | (simp; done) | (simp; omega))
  go_wp2_with fail
  refine (calc_fdiv b a _).mono ?_
  rw [Gdiv.out]
  rintro e w25 ⟨rfl, f25⟩
  obtain ⟨_, _, _⟩ := f25.at (w22.heap.size) (by first | assumption | omega | (simp; done) | (simp; omega))
  go_wp2_with fail
  rw [rounds_succ]
  go_wp2_with fail
  refine (flt_any _ _).mono ?_
  rintro e w26 ⟨rfl, f26⟩
  go_wp2_with fail
  refine (flt_any _ _).mono ?_
  rintro e w27 ⟨rfl, f27⟩
  go_wp2_with fail
  refine (test_fless a b _).mono ?_
  rw [order_fless a b ha hb, HL.out]
  rintro e w28 ⟨rfl, f28⟩
  go_wp2_with fail
  refine (flt_any _ _).mono ?_
  rintro e w29 ⟨rfl, f29⟩
  go_wp2_with fail
  refine (flt_any _ _).mono ?_
  rintro e w30 ⟨rfl, f30⟩
  go_wp2_with fail
  refine (test_fless b a _).mono ?_
  rw [order_fless b a hb ha, HM.out]
  rintro e w31 ⟨rfl, f31⟩
  go_wp2_with fail
  refine (flt_any _ _).mono ?_
  rintro e w32 ⟨rfl, f32⟩
  go_wp2_with fail
  refine (flt_any _ _).mono ?_
  rintro e w33 ⟨rfl, f33⟩
  go_wp2_with fail
  refine (test_feq a b _).mono ?_
  rw [order_feq a b ha hb, HS.out]
  rintro e w34 ⟨rfl, f34⟩
  go_wp2_with fail
  refine (flt_any _ _).mono ?_
  rintro e w35 ⟨rfl, f35⟩
  go_wp2_with fail
  refine (flt_any _ _).mono ?_
  rintro e w36 ⟨rfl, f36⟩
  go_wp2_with fail
  refine (test_feq a a _).mono ?_
  rw [order_feq a a ha ha, HE.out]
  rintro e w37 ⟨rfl, f37⟩
  go_wp2_with fail
  refine wp_loop_rounds 4 ?_
  rw [rounds_succ]
  go_wp2_with fail
  rw [rounds_succ]
  go_wp2_with fail
  rw [rounds_succ]
  go_wp2_with fail
  rw [rounds_succ]
  go_wp2_with fail
  refine (flt_any _ _).mono ?_
  rintro e w38 ⟨rfl, f38⟩
  go_wp2_with fail
  refine (flt_any _ _).mono ?_
  rintro e w39 ⟨rfl, f39⟩
  go_wp2_with fail
  refine (calc_fmul a 13830554455654793216 _).mono ?_
  rw [HP.out]
  rintro e w40 ⟨rfl, f40⟩
  go_upto_region 26 with fail
  obtain ⟨W, hW⟩ : ∃ V, V = w40.alloc (.cells #[.bool true, .int .u64 (p : Int)] 25) := ⟨_, rfl⟩
  rw [← hW]
  have F0 : Fr Nil w W := by rw [hW]; (repeat (first | (with_reducible exact Fr.refl _ _) | (with_reducible assumption) | (with_reducible exact Fr.of_nil (by assumption)) | (with_reducible refine Fr.drew ?_) | (with_reducible refine Fr.drewN ?_ _) | (with_reducible refine Fr.alloc ?_ _) | (with_reducible refine Fr.set ?_ _ _ (by first | (intros; omega) | (simp; done) | (simp; omega))) | (with_reducible refine Fr.via ?_ (by assumption)) | (with_reducible refine Fr.comp ?_ (by assumption))))
  have b0 : Blk W w40.heap.size #[.bool true, .int .u64 (p : Int)] 25 := by rw [hW]; (unfold Blk; simp (disch := first | omega | (simp; done) | (simp; omega)) only [hp_drew, hp_drewN, hp_alloc, hp_other, hp_same, hp_new, upd_cells, Option.map_some])
  clear hW
  have l0 := b0.lt
  have y0 := F0.size
  have p0 := b0.cell 0
  have p1 := b0.cell 1
  simp at p0 p1
  go_cut [25] (fun sv wx => ∃ g : Nat, sv = .pointer (some ⟨g, 0, none⟩) ∧ Blk wx g #[.bool true, .int .u64 (a : Int)] 25 ∧ Fr Nil w wx)
  case first =>
    go_region_held3 (fun w' => w'.cell? ⟨w40.heap.size, 0, none⟩ = some (.bool true) ∧ w'.cell? ⟨w40.heap.size, 1, none⟩ = some (.int .u64 p)) (first | go_keep | exact ⟨p0, p1⟩ | exact ⟨p2, p3⟩ | exact ⟨p4, p5⟩ | exact ⟨((bb.other (a := ⟨wa.heap.size, 0, none⟩) ne1 _).other (a := ⟨wa.heap.size, 1, none⟩) ne1 _).cell 0, ((bb.other (a := ⟨wa.heap.size, 0, none⟩) ne1 _).other (a := ⟨wa.heap.size, 1, none⟩) ne1 _).cell 1⟩ | exact ⟨((bb.other (a := ⟨W.heap.size, 0, none⟩) ne2 _).other (a := ⟨W.heap.size, 1, none⟩) ne2 _).cell 0, ((bb.other (a := ⟨W.heap.size, 0, none⟩) ne2 _).other (a := ⟨W.heap.size, 1, none⟩) ne2 _).cell 1⟩) (first
      | (go_at_call 15; refine (flt_any _ _).mono ?_; rintro e wa ⟨rfl, fa⟩; have za : W.heap.size ≤ wa.heap.size := (by have := fa.size; (try simp at this); omega); have ba := fa.blk (by first | exact b0.drew | exact (b0.drew).alloc _) (by simp [Nil]); have lba := ba.lt; have p2 := ba.cell 0; have p3 := ba.cell 1; simp at p2 p3)
      | (go_at_call 13; refine (calc_fmul p 13830554455654793216 _).mono ?_; rw [HB.out]; rintro e wb ⟨rfl, fb⟩; have zb : wa.heap.size ≤ wb.heap.size := (by have := fb.size; (try simp at this); omega); have bb := fb.blk (by first | exact ba | exact (ba).alloc _) (by simp [Nil]); have lbb := bb.lt; have p4 := bb.cell 0; have p5 := bb.cell 1; simp at p4 p5; (first | (have nb := Fr.new fb; have n1 := nb.cell; have n2 := nb.free; have n3 := nb.lt) | (have nb := fb.blk (Fr.new (Fr.comp (Fr.drew (Fr.refl Nil _)) fa)) (fun q => q); have n1 : ∀ i, wb.cell? ⟨W.heap.size, i, none⟩ = (#[.bool false, .int .u64 0] : Array Value)[i]? := nb.cell; have n2 : ∀ i, wb.frozen? ⟨W.heap.size, i, none⟩ = false := nb.free; have n3 : W.heap.size < wb.heap.size := nb.lt) | skip); have ne1 := Nat.ne_of_lt ba.lt; have ne2 := Nat.ne_of_lt b0.lt))
    all_goals (go_wp2_with fail; go_meet; refine ⟨_, rfl, ?_, ?_⟩)
    all_goals first
      | (show Fr _ _ _; (repeat (first | (with_reducible exact Fr.refl _ _) | (with_reducible assumption) | (with_reducible exact Fr.of_nil (by assumption)) | (with_reducible refine Fr.drew ?_) | (with_reducible refine Fr.drewN ?_ _) | (with_reducible refine Fr.alloc ?_ _) | (with_reducible refine Fr.set ?_ _ _ (by first | (intros; omega) | (simp; done) | (simp; omega))) | (with_reducible refine Fr.via ?_ (by assumption)) | (with_reducible refine Fr.comp ?_ (by assumption)))); done)
      | ((unfold Blk; simp (disch := first | omega | (simp; done) | (simp; omega)) only [hp_drew, hp_drewN, hp_alloc, hp_other, hp_same, hp_new, upd_cells, Option.map_some]); done)
      | ((unfold Blk; simp (disch := first | omega | (simp; done) | (simp; omega)) only [hp_drew, hp_drewN, hp_alloc, hp_other, hp_same, hp_new, upd_cells, Option.map_some, (nb).eq]) <;> simp; done)
  case rest =>
  obtain ⟨g, rfl, bg, Fg⟩ := hcut
  have q0 := bg.cell 0
  have q1 := bg.cell 1
  have lg := bg.lt
  simp at q0 q1
  go_wp2_with fail
  apply wp_via (F := fun V => Fr Nil w V)
  · go_region_held3 (fun w' => w'.cell? ⟨g, 0, none⟩ = some (.bool true) ∧ w'.cell? ⟨g, 1, none⟩ = some (.int .u64 a)) (first | go_keep | exact ⟨q0, q1⟩ | exact ⟨q2, q3⟩) (first
      | (go_at_call 15; refine (flt_any _ _).mono ?_; rintro e wd ⟨rfl, fd⟩; have bd := fd.blk bg.drew (fun q => q); have q2 := bd.cell 0; have q3 := bd.cell 1; simp at q2 q3))
    all_goals (refine Via.mk ?_; (repeat (first | (with_reducible exact Fr.refl _ _) | (with_reducible assumption) | (with_reducible exact Fr.of_nil (by assumption)) | (with_reducible refine Fr.drew ?_) | (with_reducible refine Fr.drewN ?_ _) | (with_reducible refine Fr.alloc ?_ _) | (with_reducible refine Fr.set ?_ _ _ (by first | (intros; omega) | (simp; done) | (simp; omega))) | (with_reducible refine Fr.via ?_ (by assumption)) | (with_reducible refine Fr.comp ?_ (by assumption)))))
  rintro V fV
  go_wp2
  go_ret
  exact ⟨rfl, fV⟩
set_option maxRecDepth 100000 in
set_option maxHeartbeats 1000000 in
theorem floats_gt (a b : Nat) (w : World) (hT : Tabs w) (ha : a < 18446744073709551616) (hb : b < 18446744073709551616) (hn : (nanB a || nanB b) = false) (hl : flessR a b = false) (hm : flessR b a = true) (hs : feqR a b = false) :
    Calls Tryd.prog 7 #[.int .u64 (a : Int), .int .u64 (b : Int)] w fun e w' => e = .returned (.bool true) ∧ Fr Nil w w' := by
  have na : nanB a = false := by cases h : nanB a <;> simp_all
  have nb : nanB b = false := by cases h : nanB b <;> simp_all
  have HE := Lib.hid (feq_self a na)
  have hback := fop_back a ha na
  obtain ⟨p, hp⟩ : ∃ p, fop .mul a 13830554455654793216 = p := ⟨_, rfl⟩
  rw [hp] at hback
  have HB := Lib.hid hback
  have HP := Lib.hid hp
  obtain ⟨vadd, hvadd⟩ : ∃ v, fop .add a b = v := ⟨_, rfl⟩
  have Hadd := Lib.hid hvadd
  have Gadd : Hid (fop .add b a = vadd) := Lib.hid (by rw [← hvadd]; exact fop_add_comm b a)
  obtain ⟨vsub, hvsub⟩ : ∃ v, fop .sub a b = v := ⟨_, rfl⟩
  have Hsub := Lib.hid hvsub
  obtain ⟨usub, husub⟩ : ∃ u, fop .sub b a = u := ⟨_, rfl⟩
  have Gsub := Lib.hid husub
  clear husub
  obtain ⟨vmul, hvmul⟩ : ∃ v, fop .mul a b = v := ⟨_, rfl⟩
  have Hmul := Lib.hid hvmul
  have Gmul : Hid (fop .mul b a = vmul) := Lib.hid (by rw [← hvmul]; exact fop_mul_comm b a)
  obtain ⟨vdiv, hvdiv⟩ : ∃ v, fop .quo a b = v := ⟨_, rfl⟩
  have Hdiv := Lib.hid hvdiv
  obtain ⟨udiv, hudiv⟩ : ∃ u, fop .quo b a = u := ⟨_, rfl⟩
  have Gdiv := Lib.hid hudiv
  clear hudiv
  have d1 := (nan_int a).trans na
  have d2 := (nan_int b).trans nb
  clear na nb hback hp hvadd hvsub hvmul hvdiv hn
  have HL := Lib.hid hl
  have HM := Lib.hid hm
  have HS := Lib.hid hs
  clear hl hm hs
  have i0 := fun w a b c => ix0 w a b c
  have i1 := fun w a b c => ix1 w a b c
  have i2 := fun w a b c => ix2 w a b c
  go_enter Tryd.func7, Tryd.ntmps7
  go_wp2_with fail
  refine (awake_any _ hT).mono ?_
  rintro e w1 ⟨rfl, f1⟩
  go_wp2_with fail
  refine wp_loop_rounds 5 ?_
  rw [rounds_succ]
  go_wp2_with fail
  refine (flt_any _ _).mono ?_
  rintro e w2 ⟨rfl, f2⟩
  go_wp2_with fail
  refine (flt_any _ _).mono ?_
  rintro e w3 ⟨rfl, f3⟩
  go_wp2_with fail
  refine (calc_fadd a b _).mono ?_
  rw [Hadd.out]
  rintro e w4 ⟨rfl, f4⟩
  go_wp2_with fail
  refine (flt_any _ _).mono ?_
  rintro e w5 ⟨rfl, f5⟩
  obtain ⟨_, _, _⟩ := f5.at (w4.heap.size) (by first | assumption | omega | (simp; done) | (simp; omega))
  go_wp2_with fail
  refine (flt_any _ _).mono ?_
  rintro e w6 ⟨rfl, f6⟩
  obtain ⟨_, _, _⟩ := f6.at (w4.heap.size) (by first | assumption | omega | (simp; done) | (simp; omega))
  go_wp2_with fail
  refine (calc_fadd b a _).mono ?_
  rw [Gadd.out]
  rintro e w7 ⟨rfl, f7⟩
  obtain ⟨_, _, _⟩ := f7.at (w4.heap.size) (by first | assumption | omega | (simp; done) | (simp; omega))
  go_wp2_with fail
  rw [rounds_succ]
  go_wp2_with fail
  refine (flt_any _ _).mono ?_
  rintro e w8 ⟨rfl, f8⟩
  go_wp2_with fail
  refine (flt_any _ _).mono ?_
  rintro e w9 ⟨rfl, f9⟩
  go_wp2_with fail
  refine (calc_fsub a b _).mono ?_
  rw [Hsub.out]
  rintro e w10 ⟨rfl, f10⟩
  go_wp2_with fail
  refine (flt_any _ _).mono ?_
  rintro e w11 ⟨rfl, f11⟩
  obtain ⟨_, _, _⟩ := f11.at (w10.heap.size) (by first | assumption | omega | (simp; done) | (simp; omega))
  go_wp2_with fail
  refine (flt_any _ _).mono ?_
  rintro e w12 ⟨rfl, f12⟩
  obtain ⟨_, _, _⟩ := f12.at (w10.heap.size) (by first | assumption | omega | (simp; done) | (simp; omega))
  go_wp2_with fail
  refine (calc_fsub b a _).mono ?_
  rw [Gsub.out]
  rintro e w13 ⟨rfl, f13⟩
  obtain ⟨_, _, _⟩ := f13.at (w10.heap.size) (by first | assumption | omega | (simp; done) | (simp; omega))
  go_wp2_with fail
  rw [rounds_succ]
  go_wp2_with fail
  refine (flt_any _ _).mono ?_
  rintro e w14 ⟨rfl, f14⟩
  go_wp2_with fail
  refine (flt_any _ _).mono ?_
  rintro e w15 ⟨rfl, f15⟩
  go_wp2_with fail
  refine (calc_fmul a b _).mono ?_
  rw [Hmul.out]
  rintro e w16 ⟨rfl, f16⟩
  go_wp2_with fail
  refine (flt_any _ _).mono ?_
  rintro e w17 ⟨rfl, f17⟩
  obtain ⟨_, _, _⟩ := f17.at (w16.heap.size) (by first | assumption | omega | (simp; done) | (simp; omega))
  go_wp2_with fail
  refine (flt_any _ _).mono ?_
  rintro e w18 ⟨rfl, f18⟩
  obtain ⟨_, _, _⟩ := f18.at (w16.heap.size) (by first | assumption | omega | (simp; done) | (simp; omega))
  go_wp2_with fail
  refine (calc_fmul b a _).mono ?_
  rw [Gmul.out]
  rintro e w19 ⟨rfl, f19⟩
  obtain ⟨_, _, _⟩ := f19.at (w16.heap.size) (by first | assumption | omega | (simp; done) | (simp; omega))
  go_wp2_with fail
  rw [rounds_succ]
  go_wp2_with fail
  refine (flt_any _ _).mono ?_
  rintro e w20 ⟨rfl, f20⟩
  go_wp2_with fail
  refine (flt_any _ _).mono ?_
  rintro e w21 ⟨rfl, f21⟩
  go_wp2_with fail
  refine (calc_fdiv a b _).mono ?_
  rw [Hdiv.out]
  rintro e w22 ⟨rfl, f22⟩
  go_wp2_with fail
  refine (flt_any _ _).mono ?_
  rintro e w23 ⟨rfl, f23⟩
  obtain ⟨_, _, _⟩ := f23.at (w22.heap.size) (by first | assumption | omega | (simp; done) | (simp; omega))
  go_wp2_with fail
  refine (flt_any _ _).mono ?_
  rintro e w24 ⟨rfl, f24⟩
  obtain ⟨_, _, _⟩ := f24.at (w22.heap.size) (by first | assumption | omega | (simp; done) | (simp; omega))
  go_wp2_with fail
  refine (calc_fdiv b a _).mono ?_
  rw [Gdiv.out]
  rintro e w25 ⟨rfl, f25⟩
  obtain ⟨_, _, _⟩ := f25.at (w22.heap.size) (by first | assumption | omega | (simp; done) | (simp; omega))
  go_wp2_with fail
  rw [rounds_succ]
  go_wp2_with fail
  refine (flt_any _ _).mono ?_
  rintro e w26 ⟨rfl, f26⟩
  go_wp2_with fail
  refine (flt_any _ _).mono ?_
  rintro e w27 ⟨rfl, f27⟩
  go_wp2_with fail
  refine (test_fless a b _).mono ?_
  rw [order_fless a b ha hb, HL.out]
  rintro e w28 ⟨rfl, f28⟩
  go_wp2_with fail
  refine (flt_any _ _).mono ?_
  rintro e w29 ⟨rfl, f29⟩
  go_wp2_with fail
  refine (flt_any _ _).mono ?_
  rintro e w30 ⟨rfl, f30⟩
  go_wp2_with fail
  refine (test_fless b a _).mono ?_
  rw [order_fless b a hb ha, HM.out]
  rintro e w31 ⟨rfl, f31⟩
  go_wp2_with fail
  refine (flt_any _ _).mono ?_
  rintro e w32 ⟨rfl, f32⟩
  go_wp2_with fail
  refine (flt_any _ _).mono ?_
  rintro e w33 ⟨rfl, f33⟩
  go_wp2_with fail
  refine (test_feq a b _).mono ?_
  rw [order_feq a b ha hb, HS.out]
  rintro e w34 ⟨rfl, f34⟩
  go_wp2_with fail
  refine (flt_any _ _).mono ?_
  rintro e w35 ⟨rfl, f35⟩
  go_wp2_with fail
  refine (flt_any _ _).mono ?_
  rintro e w36 ⟨rfl, f36⟩
  go_wp2_with fail
  refine (test_feq a a _).mono ?_
  rw [order_feq a a ha ha, HE.out]
  rintro e w37 ⟨rfl, f37⟩
  go_wp2_with fail
  refine wp_loop_rounds 4 ?_
  rw [rounds_succ]
  go_wp2_with fail
  rw [rounds_succ]
  go_wp2_with fail
  rw [rounds_succ]
  go_wp2_with fail
  rw [rounds_succ]
  go_wp2_with fail
  refine (flt_any _ _).mono ?_
  rintro e w38 ⟨rfl, f38⟩
  go_wp2_with fail
  refine (flt_any _ _).mono ?_
  rintro e w39 ⟨rfl, f39⟩
  go_wp2_with fail
  refine (calc_fmul a 13830554455654793216 _).mono ?_
  rw [HP.out]
  rintro e w40 ⟨rfl, f40⟩
  go_upto_region 26 with fail
  obtain ⟨W, hW⟩ : ∃ V, V = w40.alloc (.cells #[.bool true, .int .u64 (p : Int)] 25) := ⟨_, rfl⟩
  rw [← hW]
  have F0 : Fr Nil w W := by rw [hW]; (repeat (first | (with_reducible exact Fr.refl _ _) | (with_reducible assumption) | (with_reducible exact Fr.of_nil (by assumption)) | (with_reducible refine Fr.drew ?_) | (with_reducible refine Fr.drewN ?_ _) | (with_reducible refine Fr.alloc ?_ _) | (with_reducible refine Fr.set ?_ _ _ (by first | (intros; omega) | (simp; done) | (simp; omega))) | (with_reducible refine Fr.via ?_ (by assumption)) | (with_reducible refine Fr.comp ?_ (by assumption))))
  have b0 : Blk W w40.heap.size #[.bool true, .int .u64 (p : Int)] 25 := by rw [hW]; (unfold Blk; simp (disch := first | omega | (simp; done) | (simp; omega)) only [hp_drew, hp_drewN, hp_alloc, hp_other, hp_same, hp_new, upd_cells, Option.map_some])
  clear hW
  have l0 := b0.lt
  have y0 := F0.size
  have p0 := b0.cell 0
  have p1 := b0.cell 1
  simp at p0 p1
  go_cut [25] (fun sv wx => ∃ g : Nat, sv = .pointer (some ⟨g, 0, none⟩) ∧ Blk wx g #[.bool true, .int .u64 (a : Int)] 25 ∧ Fr Nil w wx)
  case first =>
    go_region_held3 (fun w' => w'.cell? ⟨w40.heap.size, 0, none⟩ = some (.bool true) ∧ w'.cell? ⟨w40.heap.size, 1, none⟩ = some (.int .u64 p)) (first | go_keep | exact ⟨p0, p1⟩ | exact ⟨p2, p3⟩ | exact ⟨p4, p5⟩ | exact ⟨((bb.other (a := ⟨wa.heap.size, 0, none⟩) ne1 _).other (a := ⟨wa.heap.size, 1, none⟩) ne1 _).cell 0, ((bb.other (a := ⟨wa.heap.size, 0, none⟩) ne1 _).other (a := ⟨wa.heap.size, 1, none⟩) ne1 _).cell 1⟩ | exact ⟨((bb.other (a := ⟨W.heap.size, 0, none⟩) ne2 _).other (a := ⟨W.heap.size, 1, none⟩) ne2 _).cell 0, ((bb.other (a := ⟨W.heap.size, 0, none⟩) ne2 _).other (a := ⟨W.heap.size, 1, none⟩) ne2 _).cell 1⟩) (first
      | (go_at_call 15; refine (flt_any _ _).mono ?_; rintro e wa ⟨rfl, fa⟩; have za : W.heap.size ≤ wa.heap.size := (by have := fa.size; (try simp at this); omega); have ba := fa.blk (by first | exact b0.drew | exact (b0.drew).alloc _) (by simp [Nil]); have lba := ba.lt; have p2 := ba.cell 0; have p3 := ba.cell 1; simp at p2 p3)
      | (go_at_call 13; refine (calc_fmul p 13830554455654793216 _).mono ?_; rw [HB.out]; rintro e wb ⟨rfl, fb⟩; have zb : wa.heap.size ≤ wb.heap.size := (by have := fb.size; (try simp at this); omega); have bb := fb.blk (by first | exact ba | exact (ba).alloc _) (by simp [Nil]); have lbb := bb.lt; have p4 := bb.cell 0; have p5 := bb.cell 1; simp at p4 p5; (first | (have nb := Fr.new fb; have n1 := nb.cell; have n2 := nb.free; have n3 := nb.lt) | (have nb := fb.blk (Fr.new (Fr.comp (Fr.drew (Fr.refl Nil _)) fa)) (fun q => q); have n1 : ∀ i, wb.cell? ⟨W.heap.size, i, none⟩ = (#[.bool false, .int .u64 0] : Array Value)[i]? := nb.cell; have n2 : ∀ i, wb.frozen? ⟨W.heap.size, i, none⟩ = false := nb.free; have n3 : W.heap.size < wb.heap.size := nb.lt) | skip); have ne1 := Nat.ne_of_lt ba.lt; have ne2 := Nat.ne_of_lt b0.lt))
    all_goals (go_wp2_with fail; go_meet; refine ⟨_, rfl, ?_, ?_⟩)
    all_goals first
      | (show Fr _ _ _; (repeat (first | (with_reducible exact Fr.refl _ _) | (with_reducible assumption) | (with_reducible exact Fr.of_nil (by assumption)) | (with_reducible refine Fr.drew ?_) | (with_reducible refine Fr.drewN ?_ _) | (with_reducible refine Fr.alloc ?_ _) | (with_reducible refine Fr.set ?_ _ _ (by first | (intros; omega) | (simp; done) | (simp; omega))) | (with_reducible refine Fr.via ?_ (by assumption)) | (with_reducible refine Fr.comp ?_ (by assumption)))); done)
      | ((unfold Blk; simp (disch := first | omega | (simp; done) | (simp; omega)) only [hp_drew, hp_drewN, hp_alloc, hp_other, hp_same, hp_new, upd_cells, Option.map_some]); done)
      | ((unfold Blk; simp (disch := first | omega | (simp; done) | (simp; omega)) only [hp_drew, hp_drewN, hp_alloc, hp_other, hp_same, hp_new, upd_cells, Option.map_some, (nb).eq]) <;> simp; done)
  case rest =>
  obtain ⟨g, rfl, bg, Fg⟩ := hcut
  have q0 := bg.cell 0
  have q1 := bg.cell 1
  have lg := bg.lt
  simp at q0 q1
  go_wp2_with fail
  apply wp_via (F := fun V => Fr Nil w V)
  · go_region_held3 (fun w' => w'.cell? ⟨g, 0, none⟩ = some (.bool true) ∧ w'.cell? ⟨g, 1, none⟩ = some (.int .u64 a)) (first | go_keep | exact ⟨q0, q1⟩ | exact ⟨q2, q3⟩) (first
      | (go_at_call 15; refine (flt_any _ _).mono ?_; rintro e wd ⟨rfl, fd⟩; have bd := fd.blk bg.drew (fun q => q); have q2 := bd.cell 0; have q3 := bd.cell 1; simp at q2 q3))
    all_goals (refine Via.mk ?_; (repeat (first | (with_reducible exact Fr.refl _ _) | (with_reducible assumption) | (with_reducible exact Fr.of_nil (by assumption)) | (with_reducible refine Fr.drew ?_) | (with_reducible refine Fr.drewN ?_ _) | (with_reducible refine Fr.alloc ?_ _) | (with_reducible refine Fr.set ?_ _ _ (by first | (intros; omega) | (simp; done) | (simp; omega))) | (with_reducible refine Fr.via ?_ (by assumption)) | (with_reducible refine Fr.comp ?_ (by assumption)))))
  rintro V fV
  go_wp2
  go_ret
  exact ⟨rfl, fV⟩
set_option maxRecDepth 100000 in
set_option maxHeartbeats 1000000 in
theorem floats_eq (a b : Nat) (w : World) (hT : Tabs w) (ha : a < 18446744073709551616) (hb : b < 18446744073709551616) (hn : (nanB a || nanB b) = false) (hl : flessR a b = false) (hm : flessR b a = false) (hs : feqR a b = true) :
    Calls Tryd.prog 7 #[.int .u64 (a : Int), .int .u64 (b : Int)] w fun e w' => e = .returned (.bool true) ∧ Fr Nil w w' := by
  have na : nanB a = false := by cases h : nanB a <;> simp_all
  have nb : nanB b = false := by cases h : nanB b <;> simp_all
  have HE := Lib.hid (feq_self a na)
  have hback := fop_back a ha na
  obtain ⟨p, hp⟩ : ∃ p, fop .mul a 13830554455654793216 = p := ⟨_, rfl⟩
  rw [hp] at hback
  have HB := Lib.hid hback
  have HP := Lib.hid hp
  obtain ⟨vadd, hvadd⟩ : ∃ v, fop .add a b = v := ⟨_, rfl⟩
  have Hadd := Lib.hid hvadd
  have Gadd : Hid (fop .add b a = vadd) := Lib.hid (by rw [← hvadd]; exact fop_add_comm b a)
  obtain ⟨vsub, hvsub⟩ : ∃ v, fop .sub a b = v := ⟨_, rfl⟩
  have Hsub := Lib.hid hvsub
  obtain ⟨usub, husub⟩ : ∃ u, fop .sub b a = u := ⟨_, rfl⟩
  have Gsub := Lib.hid husub
  clear husub
  obtain ⟨vmul, hvmul⟩ : ∃ v, fop .mul a b = v := ⟨_, rfl⟩
  have Hmul := Lib.hid hvmul
  have Gmul : Hid (fop .mul b a = vmul) := Lib.hid (by rw [← hvmul]; exact fop_mul_comm b a)
  obtain ⟨vdiv, hvdiv⟩ : ∃ v, fop .quo a b = v := ⟨_, rfl⟩
  have Hdiv := Lib.hid hvdiv
  obtain ⟨udiv, hudiv⟩ : ∃ u, fop .quo b a = u := ⟨_, rfl⟩
  have Gdiv := Lib.hid hudiv
  clear hudiv
  have d1 := (nan_int a).trans na
  have d2 := (nan_int b).trans nb
  clear na nb hback hp hvadd hvsub hvmul hvdiv hn
  have HL := Lib.hid hl
  have HM := Lib.hid hm
  have HS := Lib.hid hs
  clear hl hm hs
  have i0 := fun w a b c => ix0 w a b c
  have i1 := fun w a b c => ix1 w a b c
  have i2 := fun w a b c => ix2 w a b c
  go_enter Tryd.func7, Tryd.ntmps7
  go_wp2_with fail
  refine (awake_any _ hT).mono ?_
  rintro e w1 ⟨rfl, f1⟩
  go_wp2_with fail
  refine wp_loop_rounds 5 ?_
  rw [rounds_succ]
  go_wp2_with fail
  refine (flt_any _ _).mono ?_
  rintro e w2 ⟨rfl, f2⟩
  go_wp2_with fail
  refine (flt_any _ _).mono ?_
  rintro e w3 ⟨rfl, f3⟩
  go_wp2_with fail
  refine (calc_fadd a b _).mono ?_
  rw [Hadd.out]
  rintro e w4 ⟨rfl, f4⟩
  go_wp2_with fail
  refine (flt_any _ _).mono ?_
  rintro e w5 ⟨rfl, f5⟩
  obtain ⟨_, _, _⟩ := f5.at (w4.heap.size) (by first | assumption | omega | (simp; done) | (simp; omega))
  go_wp2_with fail
  refine (flt_any _ _).mono ?_
  rintro e w6 ⟨rfl, f6⟩
  obtain ⟨_, _, _⟩ := f6.at (w4.heap.size) (by first | assumption | omega | (simp; done) | (simp; omega))
  go_wp2_with fail
  refine (calc_fadd b a _).mono ?_
  rw [Gadd.out]
  rintro e w7 ⟨rfl, f7⟩
  obtain ⟨_, _, _⟩ := f7.at (w4.heap.size) (by first | assumption | omega | (simp; done) | (simp; omega))
  go_wp2_with fail
  rw [rounds_succ]
  go_wp2_with fail
  refine (flt_any _ _).mono ?_
  rintro e w8 ⟨rfl, f8⟩
  go_wp2_with fail
  refine (flt_any _ _).mono ?_
  rintro e w9 ⟨rfl, f9⟩
  go_wp2_with fail
  refine (calc_fsub a b _).mono ?_
  rw [Hsub.out]
  rintro e w10 ⟨rfl, f10⟩
  go_wp2_with fail
  refine (flt_any _ _).mono ?_
  rintro e w11 ⟨rfl, f11⟩
  obtain ⟨_, _, _⟩ := f11.at (w10.heap.size) (by first | assumption | omega | (simp; done) | (simp; omega))
  go_wp2_with fail
  refine (flt_any _ _).mono ?_
  rintro e w12 ⟨rfl, f12⟩
  obtain ⟨_, _, _⟩ := f12.at (w10.heap.size) (by first | assumption | omega | (simp; done) | (simp; omega))
  go_wp2_with fail
  refine (calc_fsub b a _).mono ?_
  rw [Gsub.out]
  rintro e w13 ⟨rfl, f13⟩
  obtain ⟨_, _, _⟩ := f13.at (w10.heap.size) (by first | assumption | omega | (simp; done) | (simp; omega))
  go_wp2_with fail
  rw [rounds_succ]
  go_wp2_with fail
  refine (flt_any _ _).mono ?_
  rintro e w14 ⟨rfl, f14⟩
  go_wp2_with fail
  refine (flt_any _ _).mono ?_
  rintro e w15 ⟨rfl, f15⟩
  go_wp2_with fail
  refine (calc_fmul a b _).mono ?_
  rw [Hmul.out]
  rintro e w16 ⟨rfl, f16⟩
  go_wp2_with fail
  refine (flt_any _ _).mono ?_
  rintro e w17 ⟨rfl, f17⟩
  obtain ⟨_, _, _⟩ := f17.at (w16.heap.size) (by first | assumption | omega | (simp; done) | (simp; omega))
  go_wp2_with fail
  refine (flt_any _ _).mono ?_
  rintro e w18 ⟨rfl, f18⟩
  obtain ⟨_, _, _⟩ := f18.at (w16.heap.size) (by first | assumption | omega | (simp; done) | (simp; omega))
  go_wp2_with fail
  refine (calc_fmul b a _).mono ?_
  rw [Gmul.out]
  rintro e w19 ⟨rfl, f19⟩
  obtain ⟨_, _, _⟩ := f19.at (w16.heap.size) (by first | assumption | omega | (simp; done) | (simp; omega))
  go_wp2_with fail
  rw [rounds_succ]
  go_wp2_with fail
  refine (flt_any _ _).mono ?_
  rintro e w20 ⟨rfl, f20⟩
  go_wp2_with fail
  refine (flt_any _ _).mono ?_
  rintro e w21 ⟨rfl, f21⟩
  go_wp2_with fail
  refine (calc_fdiv a b _).mono ?_
  rw [Hdiv.out]
  rintro e w22 ⟨rfl, f22⟩
  go_wp2_with fail
  refine (flt_any _ _).mono ?_
  rintro e w23 ⟨rfl, f23⟩
  obtain ⟨_, _, _⟩ := f23.at (w22.heap.size) (by first | assumption | omega | (simp; done) | (simp; omega))
  go_wp2_with fail
  refine (flt_any _ _).mono ?_
  rintro e w24 ⟨rfl, f24⟩
  obtain ⟨_, _, _⟩ := f24.at (w22.heap.size) (by first | assumption | omega | (simp; done) | (simp; omega))
  go_wp2_with fail
  refine (calc_fdiv b a _).mono ?_
  rw [Gdiv.out]
  rintro e w25 ⟨rfl, f25⟩
  obtain ⟨_, _, _⟩ := f25.at (w22.heap.size) (by first | assumption | omega | (simp; done) | (simp; omega))
  go_wp2_with fail
  rw [rounds_succ]
  go_wp2_with fail
  refine (flt_any _ _).mono ?_
  rintro e w26 ⟨rfl, f26⟩
  go_wp2_with fail
  refine (flt_any _ _).mono ?_
  rintro e w27 ⟨rfl, f27⟩
  go_wp2_with fail
  refine (test_fless a b _).mono ?_
  rw [order_fless a b ha hb, HL.out]
  rintro e w28 ⟨rfl, f28⟩
  go_wp2_with fail
  refine (flt_any _ _).mono ?_
  rintro e w29 ⟨rfl, f29⟩
  go_wp2_with fail
  refine (flt_any _ _).mono ?_
  rintro e w30 ⟨rfl, f30⟩
  go_wp2_with fail
  refine (test_fless b a _).mono ?_
  rw [order_fless b a hb ha, HM.out]
  rintro e w31 ⟨rfl, f31⟩
  go_wp2_with fail
  refine (flt_any _ _).mono ?_
  rintro e w32 ⟨rfl, f32⟩
  go_wp2_with fail
  refine (flt_any _ _).mono ?_
  rintro e w33 ⟨rfl, f33⟩
  go_wp2_with fail
  refine (test_feq a b _).mono ?_
  rw [order_feq a b ha hb, HS.out]
  rintro e w34 ⟨rfl, f34⟩
  go_wp2_with fail
  refine (flt_any _ _).mono ?_
  rintro e w35 ⟨rfl, f35⟩
  go_wp2_with fail
  refine (flt_any _ _).mono ?_
  rintro e w36 ⟨rfl, f36⟩
  go_wp2_with fail
  refine (test_feq a a _).mono ?_
  rw [order_feq a a ha ha, HE.out]
  rintro e w37 ⟨rfl, f37⟩
  go_wp2_with fail
  refine wp_loop_rounds 4 ?_
  rw [rounds_succ]
  go_wp2_with fail
  rw [rounds_succ]
  go_wp2_with fail
  rw [rounds_succ]
  go_wp2_with fail
  rw [rounds_succ]
  go_wp2_with fail
  refine (flt_any _ _).mono ?_
  rintro e w38 ⟨rfl, f38⟩
  go_wp2_with fail
  refine (flt_any _ _).mono ?_
  rintro e w39 ⟨rfl, f39⟩
  go_wp2_with fail
  refine (calc_fmul a 13830554455654793216 _).mono ?_
  rw [HP.out]
  rintro e w40 ⟨rfl, f40⟩
  go_upto_region 26 with fail
  obtain ⟨W, hW⟩ : ∃ V, V = w40.alloc (.cells #[.bool true, .int .u64 (p : Int)] 25) := ⟨_, rfl⟩
  rw [← hW]
  have F0 : Fr Nil w W := by rw [hW]; (repeat (first | (with_reducible exact Fr.refl _ _) | (with_reducible assumption) | (with_reducible exact Fr.of_nil (by assumption)) | (with_reducible refine Fr.drew ?_) | (with_reducible refine Fr.drewN ?_ _) | (with_reducible refine Fr.alloc ?_ _) | (with_reducible refine Fr.set ?_ _ _ (by first | (intros; omega) | (simp; done) | (simp; omega))) | (with_reducible refine Fr.via ?_ (by assumption)) | (with_reducible refine Fr.comp ?_ (by assumption))))
  have b0 : Blk W w40.heap.size #[.bool true, .int .u64 (p : Int)] 25 := by rw [hW]; (unfold Blk; simp (disch := first | omega | (simp; done) | (simp; omega)) only [hp_drew, hp_drewN, hp_alloc, hp_other, hp_same, hp_new, upd_cells, Option.map_some])
  clear hW
  have l0 := b0.lt
  have y0 := F0.size
  have p0 := b0.cell 0
  have p1 := b0.cell 1
  simp at p0 p1
  go_cut [25] (fun sv wx => ∃ g : Nat, sv = .pointer (some ⟨g, 0, none⟩) ∧ Blk wx g #[.bool true, .int .u64 (a : Int)] 25 ∧ Fr Nil w wx)
  case first =>
    go_region_held3 (fun w' => w'.cell? ⟨w40.heap.size, 0, none⟩ = some (.bool true) ∧ w'.cell? ⟨w40.heap.size, 1, none⟩ = some (.int .u64 p)) (first | go_keep | exact ⟨p0, p1⟩ | exact ⟨p2, p3⟩ | exact ⟨p4, p5⟩ | exact ⟨((bb.other (a := ⟨wa.heap.size, 0, none⟩) ne1 _).other (a := ⟨wa.heap.size, 1, none⟩) ne1 _).cell 0, ((bb.other (a := ⟨wa.heap.size, 0, none⟩) ne1 _).other (a := ⟨wa.heap.size, 1, none⟩) ne1 _).cell 1⟩ | exact ⟨((bb.other (a := ⟨W.heap.size, 0, none⟩) ne2 _).other (a := ⟨W.heap.size, 1, none⟩) ne2 _).cell 0, ((bb.other (a := ⟨W.heap.size, 0, none⟩) ne2 _).other (a := ⟨W.heap.size, 1, none⟩) ne2 _).cell 1⟩) (first
      | (go_at_call 15; refine (flt_any _ _).mono ?_; rintro e wa ⟨rfl, fa⟩; have za : W.heap.size ≤ wa.heap.size := (by have := fa.size; (try simp at this); omega); have ba := fa.blk (by first | exact b0.drew | exact (b0.drew).alloc _) (by simp [Nil]); have lba := ba.lt; have p2 := ba.cell 0; have p3 := ba.cell 1; simp at p2 p3)
      | (go_at_call 13; refine (calc_fmul p 13830554455654793216 _).mono ?_; rw [HB.out]; rintro e wb ⟨rfl, fb⟩; have zb : wa.heap.size ≤ wb.heap.size := (by have := fb.size; (try simp at this); omega); have bb := fb.blk (by first | exact ba | exact (ba).alloc _) (by simp [Nil]); have lbb := bb.lt; have p4 := bb.cell 0; have p5 := bb.cell 1; simp at p4 p5; (first | (have nb := Fr.new fb; have n1 := nb.cell; have n2 := nb.free; have n3 := nb.lt) | (have nb := fb.blk (Fr.new (Fr.comp (Fr.drew (Fr.refl Nil _)) fa)) (fun q => q); have n1 : ∀ i, wb.cell? ⟨W.heap.size, i, none⟩ = (#[.bool false, .int .u64 0] : Array Value)[i]? := nb.cell; have n2 : ∀ i, wb.frozen? ⟨W.heap.size, i, none⟩ = false := nb.free; have n3 : W.heap.size < wb.heap.size := nb.lt) | skip); have ne1 := Nat.ne_of_lt ba.lt; have ne2 := Nat.ne_of_lt b0.lt))
    all_goals (go_wp2_with fail; go_meet; refine ⟨_, rfl, ?_, ?_⟩)
    all_goals first
      | (show Fr _ _ _; (repeat (first | (with_reducible exact Fr.refl _ _) | (with_reducible assumption) | (with_reducible exact Fr.of_nil (by assumption)) | (with_reducible refine Fr.drew ?_) | (with_reducible refine Fr.drewN ?_ _) | (with_reducible refine Fr.alloc ?_ _) | (with_reducible refine Fr.set ?_ _ _ (by first | (intros; omega) | (simp; done) | (simp; omega))) | (with_reducible refine Fr.via ?_ (by assumption)) | (with_reducible refine Fr.comp ?_ (by assumption)))); done)
      | ((unfold Blk; simp (disch := first | omega | (simp; done) | (simp; omega)) only [hp_drew, hp_drewN, hp_alloc, hp_other, hp_same, hp_new, upd_cells, Option.map_some]); done)
      | ((unfold Blk; simp (disch := first | omega | (simp; done) | (simp; omega)) only [hp_drew, hp_drewN, hp_alloc, hp_other, hp_same, hp_new, upd_cells, Option.map_some, (nb).eq]) <;> simp; done)
  case rest =>
  obtain ⟨g, rfl, bg, Fg⟩ := hcut
  have q0 := bg.cell 0
  have q1 := bg.cell 1
  have lg := bg.lt
  simp at q0 q1
  go_wp2_with fail
  apply wp_via (F := fun V => Fr Nil w V)
  · go_region_held3 (fun w' => w'.cell? ⟨g, 0, none⟩ = some (.bool true) ∧ w'.cell? ⟨g, 1, none⟩ = some (.int .u64 a)) (first | go_keep | exact ⟨q0, q1⟩ | exact ⟨q2, q3⟩) (first
      | (go_at_call 15; refine (flt_any _ _).mono ?_; rintro e wd ⟨rfl, fd⟩; have bd := fd.blk bg.drew (fun q => q); have q2 := bd.cell 0; have q3 := bd.cell 1; simp at q2 q3))
    all_goals (refine Via.mk ?_; (repeat (first | (with_reducible exact Fr.refl _ _) | (with_reducible assumption) | (with_reducible exact Fr.of_nil (by assumption)) | (with_reducible refine Fr.drew ?_) | (with_reducible refine Fr.drewN ?_ _) | (with_reducible refine Fr.alloc ?_ _) | (with_reducible refine Fr.set ?_ _ _ (by first | (intros; omega) | (simp; done) | (simp; omega))) | (with_reducible refine Fr.via ?_ (by assumption)) | (with_reducible refine Fr.comp ?_ (by assumption)))))
  rintro V fV
  go_wp2
  go_ret
  exact ⟨rfl, fV⟩
theorem floats_law (a b : Nat) (w : World) (hT : Tabs w) (ha : a < 18446744073709551616) (hb : b < 18446744073709551616) :
    Calls Tryd.prog 7 #[.int .u64 (a : Int), .int .u64 (b : Int)] w fun e w' => e = .returned (.bool true) ∧ Fr Nil w w' := by
  cases hn : (nanB a || nanB b)
  · have h := hn
    simp at h
    rcases tri a b h.1 h.2 with ⟨h1, h2, h3⟩ | ⟨h1, h2, h3⟩ | ⟨h1, h2, h3⟩
    · exact floats_lt a b w hT ha hb hn h1 h2 h3
    · exact floats_gt a b w hT ha hb hn h1 h2 h3
    · exact floats_eq a b w hT ha hb hn h1 h2 h3
  · exact floats_nan a b w hT ha hb hn
theorem floats_int (a b : Int) (w : World) (hT : Tabs w) (ha : 0 ≤ a ∧ a < 18446744073709551616) (hb : 0 ≤ b ∧ b < 18446744073709551616) :
    Calls Tryd.prog 7 #[.int .u64 a, .int .u64 b] w fun e w' => e = .returned (.bool true) ∧ Fr Nil w w' := by
  obtain ⟨c, rfl⟩ := Int.eq_ofNat_of_zero_le ha.1
  obtain ⟨d, rfl⟩ := Int.eq_ofNat_of_zero_le hb.1
  exact floats_law c d w hT (by omega) (by omega)
end Go.Proofs.YtcadbidccmiflaaDoor
