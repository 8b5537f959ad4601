/-
  Contracts of the document's answer for layer 1: Test. No conditions.
-/
import Derived.Test.YtcadbidccmiflaaDoorRef01d
namespace Go.Proofs.YtcadbidccmiflaaDoor
set_option linter.unusedSimpArgs false
set_option linter.unusedVariables false
open Go.RowKit

theorem ret2_b {a b : Bool} {e : Int} (h : a = b) : Ending.returned (.tuple #[.bool a, .int .i64 e]) = .returned (.tuple #[.bool b, .int .i64 e]) := by rw [h]
theorem top_less (x y : Nat) (hx : x < 18446744073709551616) (hy : y < 18446744073709551616) : decide (bits BinOp.xor IntKind.u64 (x : Int) 9223372036854775808 < bits BinOp.xor IntKind.u64 (y : Int) 9223372036854775808) = decide (wrap64 (x : Int) < wrap64 (y : Int)) := by
  rw [u64_top x hx, u64_top y hy, decide_eq_decide]
  unfold topX wrap64
  split <;> split <;> omega
/-- Which of two floats is how to the other: none's kind stands in no order. -/
def feqR (x y : Nat) : Bool := !(nanB x || nanB y) && decide (ordR x = ordR y)
def flessR (x y : Nat) : Bool := !(nanB x || nanB y) && decide (ordR x < ordR y)
theorem order_feq (x y : Nat) (hx : x < 18446744073709551616) (hy : y < 18446744073709551616) : (FloatKind.f64.format.order x y == some Ordering.eq) = feqR x y := by
  show (Ieee.double.order x y == some Ordering.eq) = _
  unfold feqR
  cases hn : nanB x || nanB y
  · simp at hn
    rw [order_ord x y hx hy hn.1 hn.2, cmp_eqq]; rfl
  · rw [order_nan x y (by simpa [nanB] using hn)]; rfl
theorem order_fless (x y : Nat) (hx : x < 18446744073709551616) (hy : y < 18446744073709551616) : (FloatKind.f64.format.order x y == some Ordering.lt) = flessR x y := by
  show (Ieee.double.order x y == some Ordering.lt) = _
  unfold flessR
  cases hn : nanB x || nanB y
  · simp at hn
    rw [order_ord x y hx hy hn.1 hn.2, cmp_lt]; rfl
  · rw [order_nan x y (by simpa [nanB] using hn)]; rfl
set_option maxRecDepth 100000 in
theorem rtest_eq (x y : Nat) (w : World) (hx : x < 18446744073709551616) (hy : y < 18446744073709551616) :
    Calls Tryd.prog 18 #[.int .i64 5, .agg #[.bool false, .int .u64 x], .agg #[.bool false, .int .u64 y]] w fun e w' => e = .returned (.tuple #[.bool ((x : Int) == (y : Int)), .int .i64 0]) ∧ Fr Nil w w' := by
  go_enter Tryd.func18, Tryd.ntmps18
  go_wp2
  go_ret2
  exact ⟨rfl, by (repeat (first | (with_reducible exact Fr.refl _ _) | (with_reducible assumption) | (with_reducible exact Fr.of_nil (by assumption)) | (with_reducible refine Fr.drew ?_) | (with_reducible refine Fr.drewN ?_ _) | (with_reducible refine Fr.alloc ?_ _) | (with_reducible refine Fr.set ?_ _ _ (by first | (intros; omega) | (simp; done) | (simp; omega))) | (with_reducible refine Fr.via ?_ (by assumption)) | (with_reducible refine Fr.comp ?_ (by assumption))))⟩
set_option maxRecDepth 100000 in
theorem rtest_less (x y : Nat) (w : World) (hx : x < 18446744073709551616) (hy : y < 18446744073709551616) :
    Calls Tryd.prog 18 #[.int .i64 6, .agg #[.bool false, .int .u64 x], .agg #[.bool false, .int .u64 y]] w fun e w' => e = .returned (.tuple #[.bool (decide (wrap64 (x : Int) < wrap64 (y : Int))), .int .i64 0]) ∧ Fr Nil w w' := by
  rw [← top_less x y hx hy]
  go_enter Tryd.func18, Tryd.ntmps18
  go_wp2
  go_ret2
  exact ⟨rfl, by (repeat (first | (with_reducible exact Fr.refl _ _) | (with_reducible assumption) | (with_reducible exact Fr.of_nil (by assumption)) | (with_reducible refine Fr.drew ?_) | (with_reducible refine Fr.drewN ?_ _) | (with_reducible refine Fr.alloc ?_ _) | (with_reducible refine Fr.set ?_ _ _ (by first | (intros; omega) | (simp; done) | (simp; omega))) | (with_reducible refine Fr.via ?_ (by assumption)) | (with_reducible refine Fr.comp ?_ (by assumption))))⟩
set_option maxRecDepth 100000 in
theorem rtest_feq (x y : Nat) (w : World) (hx : x < 18446744073709551616) (hy : y < 18446744073709551616) :
    Calls Tryd.prog 18 #[.int .i64 11, .agg #[.bool true, .int .u64 x], .agg #[.bool true, .int .u64 y]] w fun e w' => e = .returned (.tuple #[.bool (feqR x y), .int .i64 0]) ∧ Fr Nil w w' := by
  unfold feqR
  obtain ⟨p, hp⟩ : ∃ p, nanB x = p := ⟨_, rfl⟩
  obtain ⟨q, hq⟩ : ∃ q, nanB y = q := ⟨_, rfl⟩
  obtain ⟨a, ha⟩ : ∃ a, ordR x = a := ⟨_, rfl⟩
  obtain ⟨b, hb⟩ : ∃ b, ordR y = b := ⟨_, rfl⟩
  rw [hp, hq, ha, hb]
  have HP := Lib.hid hp
  have HQ := Lib.hid hq
  have rx := fun w => rorder_any x w hx
  have ry := fun w => rorder_any y w hy
  rw [ha] at rx
  rw [hb] at ry
  clear hp hq ha hb
  cases p <;> cases q
  all_goals
    go_enter Tryd.func18, Tryd.ntmps18
    go_wp2_with (first
      | (go_at_call 35; refine (rnan_any _ _).mono ?_; (first | rw [HP.out] | rw [HQ.out]); rintro e w1 ⟨rfl, rfl⟩))
  · go_quiet ((go_at_call 36; (first | (with_reducible exact Calls.quiet_of_same (rx _)) | (with_reducible exact Calls.quiet_of_same (ry _)))))
    clear rx ry
    go_wp2
    go_ret2
    exact ⟨ret2_b (by first | (simp; done) | (simp; rfl)), by (repeat (first | (with_reducible exact Fr.refl _ _) | (with_reducible assumption) | (with_reducible exact Fr.of_nil (by assumption)) | (with_reducible refine Fr.drew ?_) | (with_reducible refine Fr.drewN ?_ _) | (with_reducible refine Fr.alloc ?_ _) | (with_reducible refine Fr.set ?_ _ _ (by first | (intros; omega) | (simp; done) | (simp; omega))) | (with_reducible refine Fr.via ?_ (by assumption)) | (with_reducible refine Fr.comp ?_ (by assumption))))⟩
  all_goals
    clear rx ry
    go_ret2
    exact ⟨ret2_b (by first | (simp; done) | (simp; rfl)), by (repeat (first | (with_reducible exact Fr.refl _ _) | (with_reducible assumption) | (with_reducible exact Fr.of_nil (by assumption)) | (with_reducible refine Fr.drew ?_) | (with_reducible refine Fr.drewN ?_ _) | (with_reducible refine Fr.alloc ?_ _) | (with_reducible refine Fr.set ?_ _ _ (by first | (intros; omega) | (simp; done) | (simp; omega))) | (with_reducible refine Fr.via ?_ (by assumption)) | (with_reducible refine Fr.comp ?_ (by assumption))))⟩
set_option maxRecDepth 100000 in
theorem rtest_fless (x y : Nat) (w : World) (hx : x < 18446744073709551616) (hy : y < 18446744073709551616) :
    Calls Tryd.prog 18 #[.int .i64 12, .agg #[.bool true, .int .u64 x], .agg #[.bool true, .int .u64 y]] w fun e w' => e = .returned (.tuple #[.bool (flessR x y), .int .i64 0]) ∧ Fr Nil w w' := by
  unfold flessR
  obtain ⟨p, hp⟩ : ∃ p, nanB x = p := ⟨_, rfl⟩
  obtain ⟨q, hq⟩ : ∃ q, nanB y = q := ⟨_, rfl⟩
  obtain ⟨a, ha⟩ : ∃ a, ordR x = a := ⟨_, rfl⟩
  obtain ⟨b, hb⟩ : ∃ b, ordR y = b := ⟨_, rfl⟩
  rw [hp, hq, ha, hb]
  have HP := Lib.hid hp
  have HQ := Lib.hid hq
  have rx := fun w => rorder_any x w hx
  have ry := fun w => rorder_any y w hy
  rw [ha] at rx
  rw [hb] at ry
  clear hp hq ha hb
  cases p <;> cases q
  all_goals
    go_enter Tryd.func18, Tryd.ntmps18
    go_wp2_with (first
      | (go_at_call 35; refine (rnan_any _ _).mono ?_; (first | rw [HP.out] | rw [HQ.out]); rintro e w1 ⟨rfl, rfl⟩))
  · go_quiet ((go_at_call 36; (first | (with_reducible exact Calls.quiet_of_same (rx _)) | (with_reducible exact Calls.quiet_of_same (ry _)))))
    clear rx ry
    go_wp2
    go_ret2
    exact ⟨ret2_b (by first | (simp; done) | (simp; rfl)), by (repeat (first | (with_reducible exact Fr.refl _ _) | (with_reducible assumption) | (with_reducible exact Fr.of_nil (by assumption)) | (with_reducible refine Fr.drew ?_) | (with_reducible refine Fr.drewN ?_ _) | (with_reducible refine Fr.alloc ?_ _) | (with_reducible refine Fr.set ?_ _ _ (by first | (intros; omega) | (simp; done) | (simp; omega))) | (with_reducible refine Fr.via ?_ (by assumption)) | (with_reducible refine Fr.comp ?_ (by assumption))))⟩
  all_goals
    clear rx ry
    go_ret2
    exact ⟨ret2_b (by first | (simp; done) | (simp; rfl)), by (repeat (first | (with_reducible exact Fr.refl _ _) | (with_reducible assumption) | (with_reducible exact Fr.of_nil (by assumption)) | (with_reducible refine Fr.drew ?_) | (with_reducible refine Fr.drewN ?_ _) | (with_reducible refine Fr.alloc ?_ _) | (with_reducible refine Fr.set ?_ _ _ (by first | (intros; omega) | (simp; done) | (simp; omega))) | (with_reducible refine Fr.via ?_ (by assumption)) | (with_reducible refine Fr.comp ?_ (by assumption))))⟩
set_option maxRecDepth 100000 in
theorem rtest_kind5 (f g : Bool) (x y : Int) (w : World) (hk : (f == false && g == false) = false) :
    Calls Tryd.prog 18 #[.int .i64 5, .agg #[.bool f, .int .u64 x], .agg #[.bool g, .int .u64 y]] w fun e w' => e = .returned (.tuple #[.bool false, .int .i64 6]) ∧ Fr Nil w w' := by
  cases f <;> cases g <;> simp at hk
  all_goals
    go_enter Tryd.func18, Tryd.ntmps18
    go_wp2
    go_ret2
    exact ⟨rfl, by (repeat (first | (with_reducible exact Fr.refl _ _) | (with_reducible assumption) | (with_reducible exact Fr.of_nil (by assumption)) | (with_reducible refine Fr.drew ?_) | (with_reducible refine Fr.drewN ?_ _) | (with_reducible refine Fr.alloc ?_ _) | (with_reducible refine Fr.set ?_ _ _ (by first | (intros; omega) | (simp; done) | (simp; omega))) | (with_reducible refine Fr.via ?_ (by assumption)) | (with_reducible refine Fr.comp ?_ (by assumption))))⟩
set_option maxRecDepth 100000 in
theorem rtest_kind6 (f g : Bool) (x y : Int) (w : World) (hk : (f == false && g == false) = false) :
    Calls Tryd.prog 18 #[.int .i64 6, .agg #[.bool f, .int .u64 x], .agg #[.bool g, .int .u64 y]] w fun e w' => e = .returned (.tuple #[.bool false, .int .i64 6]) ∧ Fr Nil w w' := by
  cases f <;> cases g <;> simp at hk
  all_goals
    go_enter Tryd.func18, Tryd.ntmps18
    go_wp2
    go_ret2
    exact ⟨rfl, by (repeat (first | (with_reducible exact Fr.refl _ _) | (with_reducible assumption) | (with_reducible exact Fr.of_nil (by assumption)) | (with_reducible refine Fr.drew ?_) | (with_reducible refine Fr.drewN ?_ _) | (with_reducible refine Fr.alloc ?_ _) | (with_reducible refine Fr.set ?_ _ _ (by first | (intros; omega) | (simp; done) | (simp; omega))) | (with_reducible refine Fr.via ?_ (by assumption)) | (with_reducible refine Fr.comp ?_ (by assumption))))⟩
set_option maxRecDepth 100000 in
theorem rtest_kind11 (f g : Bool) (x y : Int) (w : World) (hk : (f == true && g == true) = false) :
    Calls Tryd.prog 18 #[.int .i64 11, .agg #[.bool f, .int .u64 x], .agg #[.bool g, .int .u64 y]] w fun e w' => e = .returned (.tuple #[.bool false, .int .i64 6]) ∧ Fr Nil w w' := by
  cases f <;> cases g <;> simp at hk
  all_goals
    go_enter Tryd.func18, Tryd.ntmps18
    go_wp2
    go_ret2
    exact ⟨rfl, by (repeat (first | (with_reducible exact Fr.refl _ _) | (with_reducible assumption) | (with_reducible exact Fr.of_nil (by assumption)) | (with_reducible refine Fr.drew ?_) | (with_reducible refine Fr.drewN ?_ _) | (with_reducible refine Fr.alloc ?_ _) | (with_reducible refine Fr.set ?_ _ _ (by first | (intros; omega) | (simp; done) | (simp; omega))) | (with_reducible refine Fr.via ?_ (by assumption)) | (with_reducible refine Fr.comp ?_ (by assumption))))⟩
set_option maxRecDepth 100000 in
theorem rtest_kind12 (f g : Bool) (x y : Int) (w : World) (hk : (f == true && g == true) = false) :
    Calls Tryd.prog 18 #[.int .i64 12, .agg #[.bool f, .int .u64 x], .agg #[.bool g, .int .u64 y]] w fun e w' => e = .returned (.tuple #[.bool false, .int .i64 6]) ∧ Fr Nil w w' := by
  cases f <;> cases g <;> simp at hk
  all_goals
    go_enter Tryd.func18, Tryd.ntmps18
    go_wp2
    go_ret2
    exact ⟨rfl, by (repeat (first | (with_reducible exact Fr.refl _ _) | (with_reducible assumption) | (with_reducible exact Fr.of_nil (by assumption)) | (with_reducible refine Fr.drew ?_) | (with_reducible refine Fr.drewN ?_ _) | (with_reducible refine Fr.alloc ?_ _) | (with_reducible refine Fr.set ?_ _ _ (by first | (intros; omega) | (simp; done) | (simp; omega))) | (with_reducible refine Fr.via ?_ (by assumption)) | (with_reducible refine Fr.comp ?_ (by assumption))))⟩
set_option maxRecDepth 100000 in
theorem rtest_range (op : Int) (f g : Bool) (x y : Int) (w : World) (h5 : op ≠ 5) (h6 : op ≠ 6) (h11 : op ≠ 11) (h12 : op ≠ 12) :
    Calls Tryd.prog 18 #[.int .i64 op, .agg #[.bool f, .int .u64 x], .agg #[.bool g, .int .u64 y]] w fun e w' => e = .returned (.tuple #[.bool false, .int .i64 1]) ∧ Fr Nil w w' := by
  have k5 : (op != 5) = true := by simpa using h5
  have k6 : (op != 6) = true := by simpa using h6
  have k11 : (op != 11) = true := by simpa using h11
  have k12 : (op != 12) = true := by simpa using h12
  clear h5 h6 h11 h12
  go_enter Tryd.func18, Tryd.ntmps18
  go_wp2
  go_ret2
  exact ⟨rfl, by (repeat (first | (with_reducible exact Fr.refl _ _) | (with_reducible assumption) | (with_reducible exact Fr.of_nil (by assumption)) | (with_reducible refine Fr.drew ?_) | (with_reducible refine Fr.drewN ?_ _) | (with_reducible refine Fr.alloc ?_ _) | (with_reducible refine Fr.set ?_ _ _ (by first | (intros; omega) | (simp; done) | (simp; omega))) | (with_reducible refine Fr.via ?_ (by assumption)) | (with_reducible refine Fr.comp ?_ (by assumption))))⟩
end Go.Proofs.YtcadbidccmiflaaDoor
