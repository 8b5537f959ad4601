/-
  The law NumOrders. No conditions but the tables of Go's library.
-/
import Derived.Test.YtcadbidccmiflaaDoorL01
namespace Go.Proofs.YtcadbidccmiflaaDoor
set_option linter.unusedSimpArgs false
set_option linter.unusedVariables false
open Go.RowKit

theorem wf_u64 {a : Int} (h : (Lit.int .u64 a).wf = true) : 0 ≤ a ∧ a < 18446744073709551616 := by
  have e1 : IntKind.u64.min = 0 := rfl
  have e2 : IntKind.u64.max = 18446744073709551615 := rfl
  simp [Lit.wf, e1, e2] at h
  omega
theorem u64nat (a : Int) (h0 : -9223372036854775808 ≤ a) (h1 : a ≤ 9223372036854775807) : ∃ x : Nat, x < 18446744073709551616 ∧ IntKind.u64.wrap a = (x : Int) ∧ wrap64 (x : Int) = a := by
  refine ⟨(a % 18446744073709551616).toNat, by omega, ?_, by unfold wrap64; omega⟩
  simp [IntKind.wrap, IntKind.signed, IntKind.bits]; omega
theorem u64_inj {a b : Int} {x y : Nat} (hx : wrap64 (x : Int) = a) (hy : wrap64 (y : Int) = b) (lx : x < 18446744073709551616) (ly : y < 18446744073709551616) : ((x : Int) == (y : Int)) = decide (a = b) := by
  subst hx hy
  rw [Bool.eq_iff_iff]
  simp
  constructor
  · intro h; rw [h]
  · intro h; unfold wrap64 at h; omega
set_option maxRecDepth 100000 in
theorem orders_any (a b c : Int) (w : World) (hT : Tabs w) (a0 : -9223372036854775808 ≤ a) (a1 : a ≤ 9223372036854775807) (b0 : -9223372036854775808 ≤ b) (b1 : b ≤ 9223372036854775807) (c0 : -9223372036854775808 ≤ c) (c1 : c ≤ 9223372036854775807) :
    Calls Tryd.prog 8 #[.int .i64 a, .int .i64 b, .int .i64 c] w fun e w' => e = .returned (.bool true) ∧ Fr Nil w w' := by
  obtain ⟨x, lx, ux, wx⟩ := u64nat a a0 a1
  obtain ⟨y, ly, uy, wy⟩ := u64nat b b0 b1
  obtain ⟨z, lz, uz, wz⟩ := u64nat c c0 c1
  have exy := u64_inj wx wy lx ly
  have WX := Lib.hid wx
  have WY := Lib.hid wy
  have WZ := Lib.hid wz
  have EXY := Lib.hid exy
  have UX := Lib.hid ux
  have UY := Lib.hid uy
  have UZ := Lib.hid uz
  clear wx wy wz exy ux uy uz
  go_enter Tryd.func8, Tryd.ntmps8
  go_wp2_with (first
    | (go_at_call 12; refine (awake_any _ hT).mono ?_; rintro e w1 ⟨rfl, f1⟩)
    | (go_at_call 14; refine (int_any _ _).mono ?_; (first | rw [UX.out] | rw [UY.out] | rw [UZ.out]); rintro e w1 ⟨rfl, f1⟩)
    | (go_at_call 17; (first | with_reducible refine (test_less _ _ _).mono ?_ | with_reducible refine (test_eq _ _ _).mono ?_); (first | rw [EXY.out] | (rw [WX.out, WY.out]) | (rw [WY.out, WX.out]) | (rw [WY.out, WZ.out]) | (rw [WX.out, WZ.out])); rintro e w1 ⟨rfl, f1⟩))
  all_goals first
    | (go_ret; exact ⟨rfl, by (repeat (first | (with_reducible exact Fr.refl _ _) | (with_reducible assumption) | (with_reducible exact Fr.of_nil (by assumption)) | (with_reducible refine Fr.drew ?_) | (with_reducible refine Fr.drewN ?_ _) | (with_reducible refine Fr.alloc ?_ _) | (with_reducible refine Fr.set ?_ _ _ (by first | (intros; omega) | (simp; done) | (simp; omega))) | (with_reducible refine Fr.via ?_ (by assumption)) | (with_reducible refine Fr.comp ?_ (by assumption))))⟩)
    | (exfalso; clear WX WY WZ EXY UX UY UZ hT; simp at *; omega)
    | (exfalso; rename_i h; rw [← Bool.decide_or, decide_eq_decide] at h; omega)
end Go.Proofs.YtcadbidccmiflaaDoor
