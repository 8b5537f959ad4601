/-
  The law NumCalcs. No conditions but the tables of Go's library.
-/
import Derived.Test.YtcadbidccmiflaaDoorL01a
import Derived.Test.YtcadbidccmiflaaDoorRef01e
import Derived.Test.YtcadbidccmiflaaDoorNumPlain
namespace Go.Proofs.YtcadbidccmiflaaDoor
set_option linter.unusedSimpArgs false
set_option linter.unusedVariables false
set_option linter.unusedSectionVars false
open Go.RowKit

/-- The arguments of an operation; what it answers. -/
def cargs (op : Int) (f g : Bool) (x y : Nat) : Array Value := #[.int .i64 op, .agg #[.bool f, .int .u64 (x : Int)], .agg #[.bool g, .int .u64 (y : Int)]]
theorem beq_self_num (a : Value) : True := trivial
set_option maxRecDepth 100000 in
theorem calcs_of (op : Int) (f g : Bool) (x y : Nat) (cf : Bool) (cb : Nat) (ce : Int) (tb : Bool) (te : Int) (w : World) (hT : Tabs w)
    (hp : ∀ w, Calls Tryd.prog 13 #[.int .i64 op, .agg #[.bool f, .int .u64 x], .agg #[.bool g, .int .u64 y]] w fun e w' => e = .returned (.tuple #[.agg #[.bool cf, .int .u64 (cb : Int)], .int .i64 ce]) ∧ Fr Nil w w')
    (hr : ∀ w, Calls Tryd.prog 16 #[.int .i64 op, .agg #[.bool f, .int .u64 x], .agg #[.bool g, .int .u64 y]] w fun e w' => e = .returned (.tuple #[.agg #[.bool cf, .int .u64 (cb : Int)], .int .i64 ce]) ∧ Fr Nil w w')
    (tp : ∀ w, Calls Tryd.prog 17 #[.int .i64 op, .agg #[.bool f, .int .u64 x], .agg #[.bool g, .int .u64 y]] w fun e w' => e = .returned (.tuple #[.bool tb, .int .i64 te]) ∧ Fr Nil w w')
    (tr : ∀ w, Calls Tryd.prog 18 #[.int .i64 op, .agg #[.bool f, .int .u64 x], .agg #[.bool g, .int .u64 y]] w fun e w' => e = .returned (.tuple #[.bool tb, .int .i64 te]) ∧ Fr Nil w w') :
    Calls Tryd.prog 6 #[.int .i64 op, .agg #[.bool f, .int .u64 x], .agg #[.bool g, .int .u64 y]] w fun e w' => e = .returned (.bool true) ∧ Fr Nil w w' := by
  go_enter Tryd.func6, Tryd.ntmps6
  go_wp2_with fail
  refine (awake_any _ (hT.fr (by (repeat (first | (with_reducible exact Fr.refl _ _) | (with_reducible assumption) | (with_reducible exact Fr.of_nil (by assumption)) | (with_reducible refine Fr.drew ?_) | (with_reducible refine Fr.drewN ?_ _) | (with_reducible refine Fr.alloc ?_ _) | (with_reducible refine Fr.set ?_ _ _ (by first | (intros; omega) | (simp; done) | (simp; omega))) | (with_reducible refine Fr.via ?_ (by assumption)) | (with_reducible refine Fr.comp ?_ (by assumption))))))).mono ?_
  rintro e w1 ⟨rfl, f1⟩
  obtain ⟨_, _, _⟩ := f1.at (w.heap.size) (by first | assumption | omega | (simp; done) | (simp; omega)); obtain ⟨_, _, _⟩ := f1.at (w.heap.size + 1) (by first | assumption | omega | (simp; done) | (simp; omega))
  go_wp2_with fail
  refine (hp _).mono ?_
  rintro e w2 ⟨rfl, f2⟩
  obtain ⟨_, _, _⟩ := f2.at (w.heap.size) (by first | assumption | omega | (simp; done) | (simp; omega)); obtain ⟨_, _, _⟩ := f2.at (w.heap.size + 1) (by first | assumption | omega | (simp; done) | (simp; omega))
  go_wp2_with fail
  refine (hr _).mono ?_
  rintro e w3 ⟨rfl, f3⟩
  obtain ⟨_, _, _⟩ := f3.at (w.heap.size) (by first | assumption | omega | (simp; done) | (simp; omega)); obtain ⟨_, _, _⟩ := f3.at (w.heap.size + 1) (by first | assumption | omega | (simp; done) | (simp; omega)); obtain ⟨_, _, _⟩ := f3.at (w2.heap.size) (by first | assumption | omega | (simp; done) | (simp; omega))
  go_wp2_with fail
  refine (tp _).mono ?_
  rintro e w4 ⟨rfl, f4⟩
  obtain ⟨_, _, _⟩ := f4.at (w.heap.size) (by first | assumption | omega | (simp; done) | (simp; omega)); obtain ⟨_, _, _⟩ := f4.at (w.heap.size + 1) (by first | assumption | omega | (simp; done) | (simp; omega)); obtain ⟨_, _, _⟩ := f4.at (w2.heap.size) (by first | assumption | omega | (simp; done) | (simp; omega)); obtain ⟨_, _, _⟩ := f4.at (w3.heap.size) (by first | assumption | omega | (simp; done) | (simp; omega))
  go_wp2_with fail
  refine (tr _).mono ?_
  rintro e w5 ⟨rfl, f5⟩
  obtain ⟨_, _, _⟩ := f5.at (w.heap.size) (by first | assumption | omega | (simp; done) | (simp; omega)); obtain ⟨_, _, _⟩ := f5.at (w.heap.size + 1) (by first | assumption | omega | (simp; done) | (simp; omega)); obtain ⟨_, _, _⟩ := f5.at (w2.heap.size) (by first | assumption | omega | (simp; done) | (simp; omega)); obtain ⟨_, _, _⟩ := f5.at (w3.heap.size) (by first | assumption | omega | (simp; done) | (simp; omega))
  go_wp2
  go_ret
  exact ⟨rfl, by (repeat (first | (with_reducible exact Fr.refl _ _) | (with_reducible assumption) | (with_reducible exact Fr.of_nil (by assumption)) | (with_reducible refine Fr.drew ?_) | (with_reducible refine Fr.drewN ?_ _) | (with_reducible refine Fr.alloc ?_ _) | (with_reducible refine Fr.set ?_ _ _ (by first | (intros; omega) | (simp; done) | (simp; omega))) | (with_reducible refine Fr.via ?_ (by assumption)) | (with_reducible refine Fr.comp ?_ (by assumption))))⟩
-- CASES
theorem calls_eq {P : Program} {fn : FuncId} {args : Array Value} {w : World} {r r' : Ending} (h : r = r') (H : Calls P fn args w fun e w' => e = r ∧ Fr Nil w w') : Calls P fn args w fun e w' => e = r' ∧ Fr Nil w w' := h ▸ H
theorem wmul (a b : Int) : wrap64 a * wrap64 b % 18446744073709551616 = a * b % 18446744073709551616 := by
  have e : ∀ n : Int, wrap64 n % 18446744073709551616 = n % 18446744073709551616 := fun n => by unfold wrap64; omega
  rw [Int.mul_emod, e, e, ← Int.mul_emod]
theorem uw64 (n : Int) : IntKind.u64.wrap (wrap64 n) = n % 18446744073709551616 := by rw [u64m]; unfold wrap64; omega
theorem toNat_mod (n : Int) : ((n % 18446744073709551616).toNat : Int) = n % 18446744073709551616 := by omega
section
variable (f g : Bool) (x y : Nat) (w : World) (hT : Tabs w) (hx : x < 18446744073709551616) (hy : y < 18446744073709551616)
include hT hx hy
theorem calcs0 : Calls Tryd.prog 6 #[.int .i64 0, .agg #[.bool f, .int .u64 x], .agg #[.bool g, .int .u64 y]] w fun e w' => e = .returned (.bool true) ∧ Fr Nil w w' := by
  cases hk : (f == false && g == false)
  · exact calcs_of 0 f g x y false 0 6 false 1 w hT (fun w => calc_kind0 f g x y w hk) (fun w => rcalc_kind0 f g x y w hk) (fun w => test_range 0 f g x y w (by omega) (by omega) (by omega) (by omega)) (fun w => rtest_range 0 f g x y w (by omega) (by omega) (by omega) (by omega))
  · obtain ⟨rfl, rfl⟩ : f = false ∧ g = false := by simpa using hk
    exact calcs_of 0 false false x y false ((x + y) % 18446744073709551616) 0 false 1 w hT (fun w => calls_eq (agg_ret (by simp only [u64m]; unfold wrap64; omega)) (calc_add x y w)) (fun w => calls_eq (agg_ret (by simp only [u64m]; omega)) (rcalc_add x y w hx hy)) (fun w => test_range 0 false false x y w (by omega) (by omega) (by omega) (by omega)) (fun w => rtest_range 0 false false x y w (by omega) (by omega) (by omega) (by omega))
theorem calcs1 : Calls Tryd.prog 6 #[.int .i64 1, .agg #[.bool f, .int .u64 x], .agg #[.bool g, .int .u64 y]] w fun e w' => e = .returned (.bool true) ∧ Fr Nil w w' := by
  cases hk : (f == false && g == false)
  · exact calcs_of 1 f g x y false 0 6 false 1 w hT (fun w => calc_kind1 f g x y w hk) (fun w => rcalc_kind1 f g x y w hk) (fun w => test_range 1 f g x y w (by omega) (by omega) (by omega) (by omega)) (fun w => rtest_range 1 f g x y w (by omega) (by omega) (by omega) (by omega))
  · obtain ⟨rfl, rfl⟩ : f = false ∧ g = false := by simpa using hk
    exact calcs_of 1 false false x y false ((x + 18446744073709551616 - y) % 18446744073709551616) 0 false 1 w hT (fun w => calls_eq (agg_ret (by simp only [u64m]; unfold wrap64; omega)) (calc_sub x y w)) (fun w => calls_eq (agg_ret (by simp only [u64m]; omega)) (rcalc_sub x y w hx hy)) (fun w => test_range 1 false false x y w (by omega) (by omega) (by omega) (by omega)) (fun w => rtest_range 1 false false x y w (by omega) (by omega) (by omega) (by omega))
theorem calcs2 : Calls Tryd.prog 6 #[.int .i64 2, .agg #[.bool f, .int .u64 x], .agg #[.bool g, .int .u64 y]] w fun e w' => e = .returned (.bool true) ∧ Fr Nil w w' := by
  cases hk : (f == false && g == false)
  · exact calcs_of 2 f g x y false 0 6 false 1 w hT (fun w => calc_kind2 f g x y w hk) (fun w => rcalc_kind2 f g x y w hk) (fun w => test_range 2 f g x y w (by omega) (by omega) (by omega) (by omega)) (fun w => rtest_range 2 f g x y w (by omega) (by omega) (by omega) (by omega))
  · obtain ⟨rfl, rfl⟩ : f = false ∧ g = false := by simpa using hk
    exact calcs_of 2 false false x y false ((x * y) % 18446744073709551616) 0 false 1 w hT (fun w => calls_eq (agg_ret (by rw [uw64, wmul]; rfl)) (calc_mul x y w)) (fun w => calls_eq (agg_ret (by rfl)) (rcalc_mul x y w hx hy)) (fun w => test_range 2 false false x y w (by omega) (by omega) (by omega) (by omega)) (fun w => rtest_range 2 false false x y w (by omega) (by omega) (by omega) (by omega))
theorem calcs3 : Calls Tryd.prog 6 #[.int .i64 3, .agg #[.bool f, .int .u64 x], .agg #[.bool g, .int .u64 y]] w fun e w' => e = .returned (.bool true) ∧ Fr Nil w w' := by
  cases hk : (f == false && g == false)
  · exact calcs_of 3 f g x y false 0 6 false 1 w hT (fun w => calc_kind3 f g x y w hk) (fun w => rcalc_kind3 f g x y w hk) (fun w => test_range 3 f g x y w (by omega) (by omega) (by omega) (by omega)) (fun w => rtest_range 3 f g x y w (by omega) (by omega) (by omega) (by omega))
  · obtain ⟨rfl, rfl⟩ : f = false ∧ g = false := by simpa using hk
    by_cases hz : wrap64 (y : Int) = 0
    · exact calcs_of 3 false false x y false 0 7 false 1 w hT (fun w => calls_eq (agg_ret (rfl)) (calc_div_zero x y w hz)) (fun w => calls_eq (agg_ret (rfl)) (rcalc_div_zero x y w hx hy hz)) (fun w => test_range 3 false false x y w (by omega) (by omega) (by omega) (by omega)) (fun w => rtest_range 3 false false x y w (by omega) (by omega) (by omega) (by omega))
    · by_cases ho : x = 9223372036854775808 ∧ wrap64 (y : Int) = -1
      · exact calcs_of 3 false false x y false 0 8 false 1 w hT (fun w => calls_eq (agg_ret (rfl)) (calc_div_over x y w (by unfold wrap64; omega) ho.2)) (fun w => calls_eq (agg_ret (rfl)) (rcalc_div_over x y w hx hy ho.1 ho.2)) (fun w => test_range 3 false false x y w (by omega) (by omega) (by omega) (by omega)) (fun w => rtest_range 3 false false x y w (by omega) (by omega) (by omega) (by omega))
      · have ho' : x ≠ 9223372036854775808 ∨ wrap64 (y : Int) ≠ -1 := by omega
        have ho2 : wrap64 (x : Int) ≠ -9223372036854775808 ∨ wrap64 (y : Int) ≠ -1 := ho'.elim (fun h => .inl (by unfold wrap64; omega)) .inr
        exact calcs_of 3 false false x y false ((wrap64 (x : Int)).tdiv (wrap64 (y : Int)) % 18446744073709551616).toNat 0 false 1 w hT (fun w => calls_eq (agg_ret (by rw [toNat_mod]; rw [uw64])) (calc_div_in x y w hz ho2)) (fun w => calls_eq (agg_ret (by rw [toNat_mod])) (rcalc_div_in x y w hx hy hz ho')) (fun w => test_range 3 false false x y w (by omega) (by omega) (by omega) (by omega)) (fun w => rtest_range 3 false false x y w (by omega) (by omega) (by omega) (by omega))
theorem calcs4 : Calls Tryd.prog 6 #[.int .i64 4, .agg #[.bool f, .int .u64 x], .agg #[.bool g, .int .u64 y]] w fun e w' => e = .returned (.bool true) ∧ Fr Nil w w' := by
  cases hk : (f == false && g == false)
  · exact calcs_of 4 f g x y false 0 6 false 1 w hT (fun w => calc_kind4 f g x y w hk) (fun w => rcalc_kind4 f g x y w hk) (fun w => test_range 4 f g x y w (by omega) (by omega) (by omega) (by omega)) (fun w => rtest_range 4 f g x y w (by omega) (by omega) (by omega) (by omega))
  · obtain ⟨rfl, rfl⟩ : f = false ∧ g = false := by simpa using hk
    by_cases hz : wrap64 (y : Int) = 0
    · exact calcs_of 4 false false x y false 0 7 false 1 w hT (fun w => calls_eq (agg_ret (rfl)) (calc_rem_zero x y w hz)) (fun w => calls_eq (agg_ret (rfl)) (rcalc_rem_zero x y w hx hy hz)) (fun w => test_range 4 false false x y w (by omega) (by omega) (by omega) (by omega)) (fun w => rtest_range 4 false false x y w (by omega) (by omega) (by omega) (by omega))
    · by_cases ho : x = 9223372036854775808 ∧ wrap64 (y : Int) = -1
      · exact calcs_of 4 false false x y false 0 8 false 1 w hT (fun w => calls_eq (agg_ret (rfl)) (calc_rem_over x y w (by unfold wrap64; omega) ho.2)) (fun w => calls_eq (agg_ret (rfl)) (rcalc_rem_over x y w hx hy ho.1 ho.2)) (fun w => test_range 4 false false x y w (by omega) (by omega) (by omega) (by omega)) (fun w => rtest_range 4 false false x y w (by omega) (by omega) (by omega) (by omega))
      · have ho' : x ≠ 9223372036854775808 ∨ wrap64 (y : Int) ≠ -1 := by omega
        have ho2 : wrap64 (x : Int) ≠ -9223372036854775808 ∨ wrap64 (y : Int) ≠ -1 := ho'.elim (fun h => .inl (by unfold wrap64; omega)) .inr
        exact calcs_of 4 false false x y false ((wrap64 (x : Int)).tmod (wrap64 (y : Int)) % 18446744073709551616).toNat 0 false 1 w hT (fun w => calls_eq (agg_ret (by rw [toNat_mod]; rw [u64m])) (calc_rem_in x y w hz ho2)) (fun w => calls_eq (agg_ret (by rw [toNat_mod])) (rcalc_rem_in x y w hx hy hz ho')) (fun w => test_range 4 false false x y w (by omega) (by omega) (by omega) (by omega)) (fun w => rtest_range 4 false false x y w (by omega) (by omega) (by omega) (by omega))
theorem calcs7 : Calls Tryd.prog 6 #[.int .i64 7, .agg #[.bool f, .int .u64 x], .agg #[.bool g, .int .u64 y]] w fun e w' => e = .returned (.bool true) ∧ Fr Nil w w' := by
  cases hk : (f == true && g == true)
  · exact calcs_of 7 f g x y false 0 6 false 1 w hT (fun w => calc_kind7 f g x y w hk) (fun w => rcalc_kind7 f g x y w hk) (fun w => test_range 7 f g x y w (by omega) (by omega) (by omega) (by omega)) (fun w => rtest_range 7 f g x y w (by omega) (by omega) (by omega) (by omega))
  · obtain ⟨rfl, rfl⟩ : f = true ∧ g = true := by simpa using hk
    exact calcs_of 7 true true x y true (fop .add x y) 0 false 1 w hT (fun w => calls_eq (agg_ret (rfl)) (calc_fadd x y w)) (fun w => calls_eq (agg_ret (rfl)) (rcalc_fadd x y w)) (fun w => test_range 7 true true x y w (by omega) (by omega) (by omega) (by omega)) (fun w => rtest_range 7 true true x y w (by omega) (by omega) (by omega) (by omega))
theorem calcs8 : Calls Tryd.prog 6 #[.int .i64 8, .agg #[.bool f, .int .u64 x], .agg #[.bool g, .int .u64 y]] w fun e w' => e = .returned (.bool true) ∧ Fr Nil w w' := by
  cases hk : (f == true && g == true)
  · exact calcs_of 8 f g x y false 0 6 false 1 w hT (fun w => calc_kind8 f g x y w hk) (fun w => rcalc_kind8 f g x y w hk) (fun w => test_range 8 f g x y w (by omega) (by omega) (by omega) (by omega)) (fun w => rtest_range 8 f g x y w (by omega) (by omega) (by omega) (by omega))
  · obtain ⟨rfl, rfl⟩ : f = true ∧ g = true := by simpa using hk
    exact calcs_of 8 true true x y true (fop .sub x y) 0 false 1 w hT (fun w => calls_eq (agg_ret (rfl)) (calc_fsub x y w)) (fun w => calls_eq (agg_ret (rfl)) (rcalc_fsub x y w)) (fun w => test_range 8 true true x y w (by omega) (by omega) (by omega) (by omega)) (fun w => rtest_range 8 true true x y w (by omega) (by omega) (by omega) (by omega))
theorem calcs9 : Calls Tryd.prog 6 #[.int .i64 9, .agg #[.bool f, .int .u64 x], .agg #[.bool g, .int .u64 y]] w fun e w' => e = .returned (.bool true) ∧ Fr Nil w w' := by
  cases hk : (f == true && g == true)
  · exact calcs_of 9 f g x y false 0 6 false 1 w hT (fun w => calc_kind9 f g x y w hk) (fun w => rcalc_kind9 f g x y w hk) (fun w => test_range 9 f g x y w (by omega) (by omega) (by omega) (by omega)) (fun w => rtest_range 9 f g x y w (by omega) (by omega) (by omega) (by omega))
  · obtain ⟨rfl, rfl⟩ : f = true ∧ g = true := by simpa using hk
    exact calcs_of 9 true true x y true (fop .mul x y) 0 false 1 w hT (fun w => calls_eq (agg_ret (rfl)) (calc_fmul x y w)) (fun w => calls_eq (agg_ret (rfl)) (rcalc_fmul x y w)) (fun w => test_range 9 true true x y w (by omega) (by omega) (by omega) (by omega)) (fun w => rtest_range 9 true true x y w (by omega) (by omega) (by omega) (by omega))
theorem calcs10 : Calls Tryd.prog 6 #[.int .i64 10, .agg #[.bool f, .int .u64 x], .agg #[.bool g, .int .u64 y]] w fun e w' => e = .returned (.bool true) ∧ Fr Nil w w' := by
  cases hk : (f == true && g == true)
  · exact calcs_of 10 f g x y false 0 6 false 1 w hT (fun w => calc_kind10 f g x y w hk) (fun w => rcalc_kind10 f g x y w hk) (fun w => test_range 10 f g x y w (by omega) (by omega) (by omega) (by omega)) (fun w => rtest_range 10 f g x y w (by omega) (by omega) (by omega) (by omega))
  · obtain ⟨rfl, rfl⟩ : f = true ∧ g = true := by simpa using hk
    exact calcs_of 10 true true x y true (fop .quo x y) 0 false 1 w hT (fun w => calls_eq (agg_ret (rfl)) (calc_fdiv x y w)) (fun w => calls_eq (agg_ret (rfl)) (rcalc_fquo x y w)) (fun w => test_range 10 true true x y w (by omega) (by omega) (by omega) (by omega)) (fun w => rtest_range 10 true true x y w (by omega) (by omega) (by omega) (by omega))
theorem calcs13 : Calls Tryd.prog 6 #[.int .i64 13, .agg #[.bool f, .int .u64 x], .agg #[.bool g, .int .u64 y]] w fun e w' => e = .returned (.bool true) ∧ Fr Nil w w' := by
  cases hk : (f == false)
  · exact calcs_of 13 f g x y false 0 6 false 1 w hT (fun w => calc_kind13 f g x y w hk) (fun w => rcalc_kind13 f g x y w hk) (fun w => test_range 13 f g x y w (by omega) (by omega) (by omega) (by omega)) (fun w => rtest_range 13 f g x y w (by omega) (by omega) (by omega) (by omega))
  · obtain rfl : f = false := by simpa using hk
    exact calcs_of 13 false g x y true (normF (floatOfInt .f64 (wrap64 x))) 0 false 1 w hT (fun w => calls_eq (agg_ret (rfl)) (calc_float x y g w)) (fun w => calls_eq (agg_ret (rfl)) (rcalc_float x y g w)) (fun w => test_range 13 false g x y w (by omega) (by omega) (by omega) (by omega)) (fun w => rtest_range 13 false g x y w (by omega) (by omega) (by omega) (by omega))
theorem calcs14 : Calls Tryd.prog 6 #[.int .i64 14, .agg #[.bool f, .int .u64 x], .agg #[.bool g, .int .u64 y]] w fun e w' => e = .returned (.bool true) ∧ Fr Nil w w' := by
  cases hk : (f == true)
  · exact calcs_of 14 f g x y false 0 6 false 1 w hT (fun w => calc_kind14 f g x y w hk) (fun w => rcalc_kind14 f g x y w hk) (fun w => test_range 14 f g x y w (by omega) (by omega) (by omega) (by omega)) (fun w => rtest_range 14 f g x y w (by omega) (by omega) (by omega) (by omega))
  · obtain rfl : f = true := by simpa using hk
    by_cases h1 : exR x < 1023
    · obtain ⟨p1, p2⟩ := plain_small x hx h1
      exact calcs_of 14 true g x y false 0 0 false 1 w hT (fun w => calls_eq (agg_ret (by rfl)) (calc_trunc_in x y g 0 w p1 p2)) (fun w => calls_eq (agg_ret (rfl)) (rcalc_trunc_small x y g w hx h1)) (fun w => test_range 14 true g x y w (by omega) (by omega) (by omega) (by omega)) (fun w => rtest_range 14 true g x y w (by omega) (by omega) (by omega) (by omega))
    · by_cases h2 : exR x < 1086
      · obtain ⟨p1, p2⟩ := plain_in x hx (by omega) h2
        exact calcs_of 14 true g x y false (truncS (decide (9223372036854775808 ≤ x)) x % 18446744073709551616).toNat 0 false 1 w hT (fun w => calls_eq (agg_ret (by rw [toNat_mod, u64m])) (calc_trunc_in x y g _ w p1 p2)) (fun w => calls_eq (agg_ret (by rw [toNat_mod, u64m])) (rcalc_trunc_in x y g w hx (by omega) h2)) (fun w => test_range 14 true g x y w (by omega) (by omega) (by omega) (by omega)) (fun w => rtest_range 14 true g x y w (by omega) (by omega) (by omega) (by omega))
      · by_cases h3 : 9223372036854775808 ≤ x ∧ exR x = 1086 ∧ mnR x = 4503599627370496
        · obtain ⟨p1, p2⟩ := plain_least x hx h3.1 h3.2.1 h3.2.2
          exact calcs_of 14 true g x y false 9223372036854775808 0 false 1 w hT (fun w => calls_eq (agg_ret (by rfl)) (calc_trunc_in x y g _ w p1 p2)) (fun w => calls_eq (agg_ret (rfl)) (rcalc_trunc_least x y g w hx h3.1 h3.2.1 h3.2.2)) (fun w => test_range 14 true g x y w (by omega) (by omega) (by omega) (by omega)) (fun w => rtest_range 14 true g x y w (by omega) (by omega) (by omega) (by omega))
        · have h4 : x < 9223372036854775808 ∨ exR x ≠ 1086 ∨ mnR x ≠ 4503599627370496 := by omega
          have p1 := plain_great x hx (by omega) h4
          exact calcs_of 14 true g x y false 0 1 false 1 w hT (fun w => calls_eq (agg_ret (by rfl)) (calc_trunc_out x y g w p1)) (fun w => calls_eq (agg_ret (rfl)) (rcalc_trunc_great x y g w hx (by omega) h4)) (fun w => test_range 14 true g x y w (by omega) (by omega) (by omega) (by omega)) (fun w => rtest_range 14 true g x y w (by omega) (by omega) (by omega) (by omega))
theorem calcs5 : Calls Tryd.prog 6 #[.int .i64 5, .agg #[.bool f, .int .u64 x], .agg #[.bool g, .int .u64 y]] w fun e w' => e = .returned (.bool true) ∧ Fr Nil w w' := by
  cases hk : (f == false && g == false)
  · exact calcs_of 5 f g x y false 0 1 false 6 w hT (fun w => calc_range 5 f g x y w (by omega)) (fun w => rcalc_range 5 f g x y w (by omega)) (fun w => test_kind5 f g x y w hk) (fun w => rtest_kind5 f g x y w hk)
  · obtain ⟨rfl, rfl⟩ : f = false ∧ g = false := by simpa using hk
    exact calcs_of 5 false false x y false 0 1 ((x : Int) == (y : Int)) 0 w hT (fun w => calc_range 5 false false x y w (by omega)) (fun w => rcalc_range 5 false false x y w (by omega)) (fun w => calls_eq (ret2_b (rfl)) (test_eq x y w)) (fun w => rtest_eq x y w hx hy)
theorem calcs6 : Calls Tryd.prog 6 #[.int .i64 6, .agg #[.bool f, .int .u64 x], .agg #[.bool g, .int .u64 y]] w fun e w' => e = .returned (.bool true) ∧ Fr Nil w w' := by
  cases hk : (f == false && g == false)
  · exact calcs_of 6 f g x y false 0 1 false 6 w hT (fun w => calc_range 6 f g x y w (by omega)) (fun w => rcalc_range 6 f g x y w (by omega)) (fun w => test_kind6 f g x y w hk) (fun w => rtest_kind6 f g x y w hk)
  · obtain ⟨rfl, rfl⟩ : f = false ∧ g = false := by simpa using hk
    exact calcs_of 6 false false x y false 0 1 (decide (wrap64 (x : Int) < wrap64 (y : Int))) 0 w hT (fun w => calc_range 6 false false x y w (by omega)) (fun w => rcalc_range 6 false false x y w (by omega)) (fun w => calls_eq (ret2_b (rfl)) (test_less x y w)) (fun w => rtest_less x y w hx hy)
theorem calcs11 : Calls Tryd.prog 6 #[.int .i64 11, .agg #[.bool f, .int .u64 x], .agg #[.bool g, .int .u64 y]] w fun e w' => e = .returned (.bool true) ∧ Fr Nil w w' := by
  cases hk : (f == true && g == true)
  · exact calcs_of 11 f g x y false 0 1 false 6 w hT (fun w => calc_range 11 f g x y w (by omega)) (fun w => rcalc_range 11 f g x y w (by omega)) (fun w => test_kind11 f g x y w hk) (fun w => rtest_kind11 f g x y w hk)
  · obtain ⟨rfl, rfl⟩ : f = true ∧ g = true := by simpa using hk
    exact calcs_of 11 true true x y false 0 1 (feqR x y) 0 w hT (fun w => calc_range 11 true true x y w (by omega)) (fun w => rcalc_range 11 true true x y w (by omega)) (fun w => calls_eq (ret2_b (order_feq x y hx hy)) (test_feq x y w)) (fun w => rtest_feq x y w hx hy)
theorem calcs12 : Calls Tryd.prog 6 #[.int .i64 12, .agg #[.bool f, .int .u64 x], .agg #[.bool g, .int .u64 y]] w fun e w' => e = .returned (.bool true) ∧ Fr Nil w w' := by
  cases hk : (f == true && g == true)
  · exact calcs_of 12 f g x y false 0 1 false 6 w hT (fun w => calc_range 12 f g x y w (by omega)) (fun w => rcalc_range 12 f g x y w (by omega)) (fun w => test_kind12 f g x y w hk) (fun w => rtest_kind12 f g x y w hk)
  · obtain ⟨rfl, rfl⟩ : f = true ∧ g = true := by simpa using hk
    exact calcs_of 12 true true x y false 0 1 (flessR x y) 0 w hT (fun w => calc_range 12 true true x y w (by omega)) (fun w => rcalc_range 12 true true x y w (by omega)) (fun w => calls_eq (ret2_b (order_fless x y hx hy)) (test_fless x y w)) (fun w => rtest_fless x y w hx hy)
theorem calcs_any (op : Int) : Calls Tryd.prog 6 #[.int .i64 op, .agg #[.bool f, .int .u64 x], .agg #[.bool g, .int .u64 y]] w fun e w' => e = .returned (.bool true) ∧ Fr Nil w w' := by
  by_cases h : op < 0 ∨ 14 < op
  · exact calcs_of op f g x y false 0 1 false 1 w hT (fun w => calc_range op f g x y w (by omega)) (fun w => rcalc_range op f g x y w (by omega)) (fun w => test_range op f g x y w (by omega) (by omega) (by omega) (by omega)) (fun w => rtest_range op f g x y w (by omega) (by omega) (by omega) (by omega))
  · obtain rfl | rfl | rfl | rfl | rfl | rfl | rfl | rfl | rfl | rfl | rfl | rfl | rfl | rfl | rfl : op = 0 ∨ op = 1 ∨ op = 2 ∨ op = 3 ∨ op = 4 ∨ op = 5 ∨ op = 6 ∨ op = 7 ∨ op = 8 ∨ op = 9 ∨ op = 10 ∨ op = 11 ∨ op = 12 ∨ op = 13 ∨ op = 14 := by omega
    · exact calcs0 f g x y w hT hx hy
    · exact calcs1 f g x y w hT hx hy
    · exact calcs2 f g x y w hT hx hy
    · exact calcs3 f g x y w hT hx hy
    · exact calcs4 f g x y w hT hx hy
    · exact calcs5 f g x y w hT hx hy
    · exact calcs6 f g x y w hT hx hy
    · exact calcs7 f g x y w hT hx hy
    · exact calcs8 f g x y w hT hx hy
    · exact calcs9 f g x y w hT hx hy
    · exact calcs10 f g x y w hT hx hy
    · exact calcs11 f g x y w hT hx hy
    · exact calcs12 f g x y w hT hx hy
    · exact calcs13 f g x y w hT hx hy
    · exact calcs14 f g x y w hT hx hy
end
end Go.Proofs.YtcadbidccmiflaaDoor
