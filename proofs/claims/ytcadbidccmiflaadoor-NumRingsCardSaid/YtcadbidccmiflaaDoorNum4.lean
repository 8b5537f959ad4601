/-
  Contracts of package num: what it does to floats. No conditions.
-/
import Derived.Test.YtcadbidccmiflaaDoorNum
import Derived.Test.YtcadbidccmiflaaDoorVia
import Derived.Laws.EntriesVeiled
namespace Go.Proofs.YtcadbidccmiflaaDoor
set_option linter.unusedSimpArgs false
set_option linter.unusedVariables false
open Go.RowKit

/-- What an operation of two floats may come to: its bits; or any of the kind that is none. -/
def FRes (op : BinOp) (x y r : Nat) : Prop := floatBits op .f64 x y = some r ∨ (floatBits op .f64 x y = none ∧ isNan r = true)
def fop (op : BinOp) (x y : Nat) : Nat := match floatBits op .f64 x y with | some r => normF r | none => 9221120237041090560
theorem FRes.norm {op : BinOp} {x y r : Nat} (h : FRes op x y r) : normF r = fop op x y := by
  unfold fop
  rcases h with h | ⟨h, g⟩
  · rw [h]
  · rw [h]; simp [normF, g]
theorem nan_of (s m : Nat) (hs : s < 2) (hm : m < 2 ^ 52 - 1) : isNan (s * 2 ^ 63 + 0x7ff0000000000000 + 1 + m) = true := by
  have h : ∃ b f, FloatKind.f64.format.read (s * 2 ^ 63 + 0x7ff0000000000000 + 1 + m) = .nan b f := by
    unfold Ieee.Format.read
    have e1 : FloatKind.f64.format.signWeight = 2 ^ 63 := rfl
    have e2 : FloatKind.f64.format.binade = 2 ^ 52 := rfl
    have e3 : FloatKind.f64.format.infRung = 0x7ff0000000000000 := rfl
    rw [e1, e2, e3]
    have e : (s * 2 ^ 63 + 0x7ff0000000000000 + 1 + m) % 2 ^ 63 = 0x7ff0000000000000 + 1 + m := by omega
    simp only [e]
    rw [if_neg (by omega), if_neg (by omega), if_neg (by omega)]
    exact ⟨_, _, rfl⟩
  obtain ⟨b, f, h⟩ := h
  unfold isNan Ieee.Format.order
  rw [h]
  rfl
theorem arith_run (op : BinOp) (hop : op = .add ∨ op = .sub ∨ op = .mul ∨ op = .quo) (t : TypeId) (x y : Nat) (w : World) (P : Program) :
    ∃ r w', (binOp op t (.float .f64 x) (.float .f64 y)).run P w = .ok (.float .f64 r) w' ∧ FRes op x y r ∧ (w' = w ∨ w' = w.drew) := by
  cases hf : floatBits op .f64 x y with
  | some r => exact ⟨r, w, run_float_arith w op t .f64 x y r hf, .inl hf, .inl rfl⟩
  | none =>
    refine ⟨(Question.nanBits .f64 x y).cut (w.tape w.drawn (.nanBits .f64 x y)), w.drew, ?_, .inr ⟨hf, ?_⟩, .inr rfl⟩
    · unfold floatBits at hf
      rcases hop with rfl | rfl | rfl | rfl <;> simp only at hf <;> (simp [binOp, Op.floatArith, hf, choose, go_sem, Question.forced]; rfl)
    · exact nan_of _ _ (Nat.mod_lt _ (by omega)) (Nat.mod_lt _ (by omega))
theorem fl1_any (x y : Nat) (w : World) :
    Calls Tryd.prog 49 #[.float .f64 x, .float .f64 y] w fun e w' => ∃ r, e = .returned (.float .f64 r) ∧ FRes .add x y r ∧ Fr Nil w w' := by
  obtain ⟨r, w1, hr, hf, hw⟩ := arith_run .add (by simp) 54 x y w Tryd.prog
  have hfr : Fr Nil w w1 := by rcases hw with rfl | rfl <;> (repeat (first | (with_reducible exact Fr.refl _ _) | (with_reducible assumption) | (with_reducible exact Fr.of_nil (by assumption)) | (with_reducible refine Fr.drew ?_) | (with_reducible refine Fr.drewN ?_ _) | (with_reducible refine Fr.alloc ?_ _) | (with_reducible refine Fr.set ?_ _ _ (by first | (intros; omega) | (simp; done) | (simp; omega))) | (with_reducible refine Fr.via ?_ (by assumption)) | (with_reducible refine Fr.comp ?_ (by assumption))))
  have HF := Lib.hid hf
  clear hf hw
  go_enter Tryd.func49, Tryd.ntmps49
  go_wp2
  go_ret
  exact ⟨r, rfl, HF.out, hfr⟩
theorem fl2_any (x y : Nat) (w : World) :
    Calls Tryd.prog 50 #[.float .f64 x, .float .f64 y] w fun e w' => ∃ r, e = .returned (.float .f64 r) ∧ FRes .sub x y r ∧ Fr Nil w w' := by
  obtain ⟨r, w1, hr, hf, hw⟩ := arith_run .sub (by simp) 54 x y w Tryd.prog
  have hfr : Fr Nil w w1 := by rcases hw with rfl | rfl <;> (repeat (first | (with_reducible exact Fr.refl _ _) | (with_reducible assumption) | (with_reducible exact Fr.of_nil (by assumption)) | (with_reducible refine Fr.drew ?_) | (with_reducible refine Fr.drewN ?_ _) | (with_reducible refine Fr.alloc ?_ _) | (with_reducible refine Fr.set ?_ _ _ (by first | (intros; omega) | (simp; done) | (simp; omega))) | (with_reducible refine Fr.via ?_ (by assumption)) | (with_reducible refine Fr.comp ?_ (by assumption))))
  have HF := Lib.hid hf
  clear hf hw
  go_enter Tryd.func50, Tryd.ntmps50
  go_wp2
  go_ret
  exact ⟨r, rfl, HF.out, hfr⟩
theorem fl3_any (x y : Nat) (w : World) :
    Calls Tryd.prog 51 #[.float .f64 x, .float .f64 y] w fun e w' => ∃ r, e = .returned (.float .f64 r) ∧ FRes .mul x y r ∧ Fr Nil w w' := by
  obtain ⟨r, w1, hr, hf, hw⟩ := arith_run .mul (by simp) 54 x y w Tryd.prog
  have hfr : Fr Nil w w1 := by rcases hw with rfl | rfl <;> (repeat (first | (with_reducible exact Fr.refl _ _) | (with_reducible assumption) | (with_reducible exact Fr.of_nil (by assumption)) | (with_reducible refine Fr.drew ?_) | (with_reducible refine Fr.drewN ?_ _) | (with_reducible refine Fr.alloc ?_ _) | (with_reducible refine Fr.set ?_ _ _ (by first | (intros; omega) | (simp; done) | (simp; omega))) | (with_reducible refine Fr.via ?_ (by assumption)) | (with_reducible refine Fr.comp ?_ (by assumption))))
  have HF := Lib.hid hf
  clear hf hw
  go_enter Tryd.func51, Tryd.ntmps51
  go_wp2
  go_ret
  exact ⟨r, rfl, HF.out, hfr⟩
theorem fl4_any (x y : Nat) (w : World) :
    Calls Tryd.prog 52 #[.float .f64 x, .float .f64 y] w fun e w' => ∃ r, e = .returned (.float .f64 r) ∧ FRes .quo x y r ∧ Fr Nil w w' := by
  obtain ⟨r, w1, hr, hf, hw⟩ := arith_run .quo (by simp) 54 x y w Tryd.prog
  have hfr : Fr Nil w w1 := by rcases hw with rfl | rfl <;> (repeat (first | (with_reducible exact Fr.refl _ _) | (with_reducible assumption) | (with_reducible exact Fr.of_nil (by assumption)) | (with_reducible refine Fr.drew ?_) | (with_reducible refine Fr.drewN ?_ _) | (with_reducible refine Fr.alloc ?_ _) | (with_reducible refine Fr.set ?_ _ _ (by first | (intros; omega) | (simp; done) | (simp; omega))) | (with_reducible refine Fr.via ?_ (by assumption)) | (with_reducible refine Fr.comp ?_ (by assumption))))
  have HF := Lib.hid hf
  clear hf hw
  go_enter Tryd.func52, Tryd.ntmps52
  go_wp2
  go_ret
  exact ⟨r, rfl, HF.out, hfr⟩
theorem floats_any (w : World) :
    Calls Tryd.prog 31 #[] w fun e w' => e = .returned (.agg #[.func (.func 49) #[] #[], .func (.func 50) #[] #[], .func (.func 51) #[] #[], .func (.func 52) #[] #[]]) ∧ Fr Nil w w' := by
  go_enter Tryd.func31, Tryd.ntmps31
  go_wp2
  refine bodyPost_ret (v := .agg #[.func (.func 49) #[] #[], .func (.func 50) #[] #[], .func (.func 51) #[] #[], .func (.func 52) #[] #[]]) (by simp [results, Tryd.results31, go_sem]) rfl ⟨rfl, ?_⟩
  (repeat (first | (with_reducible exact Fr.refl _ _) | (with_reducible assumption) | (with_reducible exact Fr.of_nil (by assumption)) | (with_reducible refine Fr.drew ?_) | (with_reducible refine Fr.drewN ?_ _) | (with_reducible refine Fr.alloc ?_ _) | (with_reducible refine Fr.set ?_ _ _ (by first | (intros; omega) | (simp; done) | (simp; omega))) | (with_reducible refine Fr.via ?_ (by assumption)) | (with_reducible refine Fr.comp ?_ (by assumption))))
end Go.Proofs.YtcadbidccmiflaaDoor
