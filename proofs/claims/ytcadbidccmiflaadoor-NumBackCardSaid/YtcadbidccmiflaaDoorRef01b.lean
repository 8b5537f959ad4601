/-
  Contracts of the document's answer for layer 1: ints, nan, order. No conditions.
-/
import Derived.Test.YtcadbidccmiflaaDoorRef01
import Derived.Test.YtcadbidccmiflaaDoorIeee2
namespace Go.Proofs.YtcadbidccmiflaaDoor
set_option linter.unusedSimpArgs false
set_option linter.unusedVariables false
open Go.RowKit

theorem agg_ret {a b : Int} {e : Int} {f : Bool} (h : a = b) : Ending.returned (.tuple #[.agg #[.bool f, .int .u64 a], .int .i64 e]) = .returned (.tuple #[.agg #[.bool f, .int .u64 b], .int .i64 e]) := by rw [h]
theorem wrapU (n : Nat) (h : n < 18446744073709551616) : IntKind.u64.wrap (n : Int) = (n : Int) := by rw [u64m]; omega
theorem u64_not (y : Nat) (hy : y < 18446744073709551616) : bits BinOp.xor IntKind.u64 IntKind.u64.max (y : Int) = ((18446744073709551615 - y : Nat) : Int) := by
  show IntKind.u64.wrap ((BitVec.ofInt 64 18446744073709551615 ^^^ BitVec.ofInt 64 (y : Int)).toNat : Int) = _
  have e1 : BitVec.ofInt 64 18446744073709551615 = BitVec.allOnes 64 := by decide
  rw [e1, BitVec.allOnes_xor, BitVec.toNat_not, BitVec.ofInt_natCast, BitVec.toNat_ofNat, Nat.mod_eq_of_lt (by omega), wrapU _ (by omega)]
theorem nat_top (x : Nat) (h : x < 2 ^ 63) : x ^^^ 2 ^ 63 = 2 ^ 63 + x := by
  apply Nat.eq_of_testBit_eq
  intro i
  rw [Nat.testBit_xor, Nat.testBit_two_pow]
  rcases Nat.lt_trichotomy i 63 with g | g | g
  · rw [Nat.testBit_two_pow_add_gt g]
    have : decide (63 = i) = false := by simp; omega
    rw [this, Bool.xor_false]
  · subst g
    rw [Nat.testBit_two_pow_add_eq, Nat.testBit_lt_two_pow h]
    rfl
  · have e1 : x.testBit i = false := Nat.testBit_lt_two_pow (Nat.lt_of_lt_of_le h (Nat.pow_le_pow_right (by omega) (by omega)))
    have e2 : (2 ^ 63 + x).testBit i = false := Nat.testBit_lt_two_pow (Nat.lt_of_lt_of_le (show 2 ^ 63 + x < 2 ^ 64 by omega) (Nat.pow_le_pow_right (by omega) (by omega)))
    have : decide (63 = i) = false := by simp; omega
    rw [e1, e2, this]
    rfl
def topX (x : Nat) : Nat := if x < 9223372036854775808 then x + 9223372036854775808 else x - 9223372036854775808
theorem u64_top (x : Nat) (hx : x < 18446744073709551616) : bits BinOp.xor IntKind.u64 (x : Int) 9223372036854775808 = (topX x : Int) := by
  show IntKind.u64.wrap ((BitVec.ofInt 64 (x : Int) ^^^ BitVec.ofInt 64 9223372036854775808).toNat : Int) = _
  have e1 : (BitVec.ofInt 64 9223372036854775808).toNat = 2 ^ 63 := by decide
  rw [BitVec.toNat_xor, e1, BitVec.ofInt_natCast, BitVec.toNat_ofNat, Nat.mod_eq_of_lt (by omega)]
  have e2 : x ^^^ 2 ^ 63 = topX x := by
    unfold topX
    by_cases h : x < 9223372036854775808
    · rw [if_pos h, nat_top x h]; omega
    · rw [if_neg h]
      have e : x = (x - 9223372036854775808) ^^^ 2 ^ 63 := by rw [nat_top _ (by omega)]; omega
      conv => lhs; rw [e]
      rw [Nat.xor_assoc, Nat.xor_self, Nat.xor_zero]
  rw [e2]
  exact wrapU _ (by unfold topX; split <;> omega)
set_option maxRecDepth 100000 in
theorem rints0 (x y : Nat) (w : World) (hx : x < 18446744073709551616) (hy : y < 18446744073709551616) :
    Calls Tryd.prog 34 #[.int .i64 0, .int .u64 x, .int .u64 y] w fun e w' => e = .returned (.tuple #[.agg #[.bool false, .int .u64 (IntKind.u64.wrap ((x : Int) + y))], .int .i64 0]) ∧ Fr Nil w w' := by
  go_enter Tryd.func34, Tryd.ntmps34
  go_wp2
  refine bodyPost_ret (v := .tuple #[.agg #[.bool false, .int .u64 (IntKind.u64.wrap ((x : Int) + y))], .int .i64 0]) (by simp [results, Tryd.results34, go_sem, *]) rfl ⟨rfl, ?_⟩
  (repeat (first | (with_reducible exact Fr.refl _ _) | (with_reducible assumption) | (with_reducible exact Fr.of_nil (by assumption)) | (with_reducible refine Fr.drew ?_) | (with_reducible refine Fr.drewN ?_ _) | (with_reducible refine Fr.alloc ?_ _) | (with_reducible refine Fr.set ?_ _ _ (by first | (intros; omega) | (simp; done) | (simp; omega))) | (with_reducible refine Fr.via ?_ (by assumption)) | (with_reducible refine Fr.comp ?_ (by assumption))))
set_option maxRecDepth 100000 in
theorem rints2 (x y : Nat) (w : World) (hx : x < 18446744073709551616) (hy : y < 18446744073709551616) :
    Calls Tryd.prog 34 #[.int .i64 2, .int .u64 x, .int .u64 y] w fun e w' => e = .returned (.tuple #[.agg #[.bool false, .int .u64 ((x : Int) * y % 18446744073709551616)], .int .i64 0]) ∧ Fr Nil w w' := by
  go_enter Tryd.func34, Tryd.ntmps34
  go_wp2_with fail
  refine (rproduct_any x y _ hx hy).mono ?_
  rintro e w1 ⟨rfl, rfl⟩
  go_wp2
  refine bodyPost_ret (v := .tuple #[.agg #[.bool false, .int .u64 ((x : Int) * y % 18446744073709551616)], .int .i64 0]) (by simp [results, Tryd.results34, go_sem, *]) rfl ⟨rfl, ?_⟩
  (repeat (first | (with_reducible exact Fr.refl _ _) | (with_reducible assumption) | (with_reducible exact Fr.of_nil (by assumption)) | (with_reducible refine Fr.drew ?_) | (with_reducible refine Fr.drewN ?_ _) | (with_reducible refine Fr.alloc ?_ _) | (with_reducible refine Fr.set ?_ _ _ (by first | (intros; omega) | (simp; done) | (simp; omega))) | (with_reducible refine Fr.via ?_ (by assumption)) | (with_reducible refine Fr.comp ?_ (by assumption))))
set_option maxRecDepth 100000 in
theorem rints1 (x y : Nat) (w : World) (hx : x < 18446744073709551616) (hy : y < 18446744073709551616) :
    Calls Tryd.prog 34 #[.int .i64 1, .int .u64 x, .int .u64 y] w fun e w' => e = .returned (.tuple #[.agg #[.bool false, .int .u64 (IntKind.u64.wrap ((x : Int) - y))], .int .i64 0]) ∧ Fr Nil w w' := by
  go_enter Tryd.func34, Tryd.ntmps34
  go_wp2
  refine bodyPost_ret (v := .tuple #[.agg #[.bool false, .int .u64 (IntKind.u64.wrap ((x : Int) + IntKind.u64.wrap (bits BinOp.xor IntKind.u64 IntKind.u64.max (y : Int) + 1)))], .int .i64 0]) (by simp [results, Tryd.results34, go_sem, *]) rfl ⟨agg_ret (by rw [u64_not y hy]; simp only [u64m]; omega), ?_⟩
  (repeat (first | (with_reducible exact Fr.refl _ _) | (with_reducible assumption) | (with_reducible exact Fr.of_nil (by assumption)) | (with_reducible refine Fr.drew ?_) | (with_reducible refine Fr.drewN ?_ _) | (with_reducible refine Fr.alloc ?_ _) | (with_reducible refine Fr.set ?_ _ _ (by first | (intros; omega) | (simp; done) | (simp; omega))) | (with_reducible refine Fr.via ?_ (by assumption)) | (with_reducible refine Fr.comp ?_ (by assumption))))
set_option maxRecDepth 100000 in
theorem rints3_zero (x y : Nat) (w : World) (hx : x < 18446744073709551616) (hy : y < 18446744073709551616) (h : wrap64 (y : Int) = 0) :
    Calls Tryd.prog 34 #[.int .i64 3, .int .u64 x, .int .u64 y] w fun e w' => e = .returned (.tuple #[.agg #[.bool false, .int .u64 0], .int .i64 7]) ∧ Fr Nil w w' := by
  go_enter Tryd.func34, Tryd.ntmps34
  go_wp2
  refine bodyPost_ret (v := .tuple #[.agg #[.bool false, .int .u64 0], .int .i64 7]) (by simp [results, Tryd.results34, go_sem, *]) rfl ⟨rfl, ?_⟩
  (repeat (first | (with_reducible exact Fr.refl _ _) | (with_reducible assumption) | (with_reducible exact Fr.of_nil (by assumption)) | (with_reducible refine Fr.drew ?_) | (with_reducible refine Fr.drewN ?_ _) | (with_reducible refine Fr.alloc ?_ _) | (with_reducible refine Fr.set ?_ _ _ (by first | (intros; omega) | (simp; done) | (simp; omega))) | (with_reducible refine Fr.via ?_ (by assumption)) | (with_reducible refine Fr.comp ?_ (by assumption))))
set_option maxRecDepth 100000 in
theorem rints3_over (x y : Nat) (w : World) (hx : x < 18446744073709551616) (hy : y < 18446744073709551616) (h : x = 9223372036854775808) (h' : wrap64 (y : Int) = -1) :
    Calls Tryd.prog 34 #[.int .i64 3, .int .u64 x, .int .u64 y] w fun e w' => e = .returned (.tuple #[.agg #[.bool false, .int .u64 0], .int .i64 8]) ∧ Fr Nil w w' := by
  subst h
  go_enter Tryd.func34, Tryd.ntmps34
  go_wp2
  refine bodyPost_ret (v := .tuple #[.agg #[.bool false, .int .u64 0], .int .i64 8]) (by simp [results, Tryd.results34, go_sem, *]) rfl ⟨rfl, ?_⟩
  (repeat (first | (with_reducible exact Fr.refl _ _) | (with_reducible assumption) | (with_reducible exact Fr.of_nil (by assumption)) | (with_reducible refine Fr.drew ?_) | (with_reducible refine Fr.drewN ?_ _) | (with_reducible refine Fr.alloc ?_ _) | (with_reducible refine Fr.set ?_ _ _ (by first | (intros; omega) | (simp; done) | (simp; omega))) | (with_reducible refine Fr.via ?_ (by assumption)) | (with_reducible refine Fr.comp ?_ (by assumption))))
set_option maxRecDepth 100000 in
theorem rints3_in (x y : Nat) (w : World) (hx : x < 18446744073709551616) (hy : y < 18446744073709551616) (h : wrap64 (y : Int) ≠ 0) (h' : x ≠ 9223372036854775808 ∨ wrap64 (y : Int) ≠ -1) :
    Calls Tryd.prog 34 #[.int .i64 3, .int .u64 x, .int .u64 y] w fun e w' => e = .returned (.tuple #[.agg #[.bool false, .int .u64 ((wrap64 (x : Int)).tdiv (wrap64 (y : Int)) % 18446744073709551616)], .int .i64 0]) ∧ Fr Nil w w' := by
  have h0 : (wrap64 (y : Int) == 0) = false := by simpa using h
  obtain ⟨q1, q2, d2, d3, hq⟩ : ∃ q1 q2 : Bool, ((x : Int) == 9223372036854775808) = q1 ∧ (wrap64 (y : Int) == -1) = q2 ∧ (q1 = false ∨ q2 = false) :=
    ⟨_, _, rfl, rfl, h'.elim (fun h => .inl (by simp; omega)) (fun h => .inr (by simpa using h))⟩
  clear h'
  cases q1 <;> cases q2 <;> simp at hq
  all_goals
    go_enter Tryd.func34, Tryd.ntmps34
    go_wp2_with fail
    refine (rquotient_any (wrap64 (x : Int)) (wrap64 (y : Int)) _ (by unfold wrap64; omega) (by unfold wrap64; omega) (by unfold wrap64; omega) (by unfold wrap64; omega) h).mono ?_
    rintro e w1 ⟨rfl, f1⟩
    obtain ⟨_, _, _⟩ := f1.at (w.heap.size) (by first | assumption | omega | (simp; done) | (simp; omega))
    go_wp2
    refine bodyPost_ret (v := .tuple #[.agg #[.bool false, .int .u64 ((wrap64 (x : Int)).tdiv (wrap64 (y : Int)) % 18446744073709551616)], .int .i64 0]) (by simp [results, Tryd.results34, go_sem, *]) rfl ⟨rfl, ?_⟩
    (repeat (first | (with_reducible exact Fr.refl _ _) | (with_reducible assumption) | (with_reducible exact Fr.of_nil (by assumption)) | (with_reducible refine Fr.drew ?_) | (with_reducible refine Fr.drewN ?_ _) | (with_reducible refine Fr.alloc ?_ _) | (with_reducible refine Fr.set ?_ _ _ (by first | (intros; omega) | (simp; done) | (simp; omega))) | (with_reducible refine Fr.via ?_ (by assumption)) | (with_reducible refine Fr.comp ?_ (by assumption))))
set_option maxRecDepth 100000 in
theorem rints4_zero (x y : Nat) (w : World) (hx : x < 18446744073709551616) (hy : y < 18446744073709551616) (h : wrap64 (y : Int) = 0) :
    Calls Tryd.prog 34 #[.int .i64 4, .int .u64 x, .int .u64 y] w fun e w' => e = .returned (.tuple #[.agg #[.bool false, .int .u64 0], .int .i64 7]) ∧ Fr Nil w w' := by
  go_enter Tryd.func34, Tryd.ntmps34
  go_wp2
  refine bodyPost_ret (v := .tuple #[.agg #[.bool false, .int .u64 0], .int .i64 7]) (by simp [results, Tryd.results34, go_sem, *]) rfl ⟨rfl, ?_⟩
  (repeat (first | (with_reducible exact Fr.refl _ _) | (with_reducible assumption) | (with_reducible exact Fr.of_nil (by assumption)) | (with_reducible refine Fr.drew ?_) | (with_reducible refine Fr.drewN ?_ _) | (with_reducible refine Fr.alloc ?_ _) | (with_reducible refine Fr.set ?_ _ _ (by first | (intros; omega) | (simp; done) | (simp; omega))) | (with_reducible refine Fr.via ?_ (by assumption)) | (with_reducible refine Fr.comp ?_ (by assumption))))
set_option maxRecDepth 100000 in
theorem rints4_over (x y : Nat) (w : World) (hx : x < 18446744073709551616) (hy : y < 18446744073709551616) (h : x = 9223372036854775808) (h' : wrap64 (y : Int) = -1) :
    Calls Tryd.prog 34 #[.int .i64 4, .int .u64 x, .int .u64 y] w fun e w' => e = .returned (.tuple #[.agg #[.bool false, .int .u64 0], .int .i64 8]) ∧ Fr Nil w w' := by
  subst h
  go_enter Tryd.func34, Tryd.ntmps34
  go_wp2
  refine bodyPost_ret (v := .tuple #[.agg #[.bool false, .int .u64 0], .int .i64 8]) (by simp [results, Tryd.results34, go_sem, *]) rfl ⟨rfl, ?_⟩
  (repeat (first | (with_reducible exact Fr.refl _ _) | (with_reducible assumption) | (with_reducible exact Fr.of_nil (by assumption)) | (with_reducible refine Fr.drew ?_) | (with_reducible refine Fr.drewN ?_ _) | (with_reducible refine Fr.alloc ?_ _) | (with_reducible refine Fr.set ?_ _ _ (by first | (intros; omega) | (simp; done) | (simp; omega))) | (with_reducible refine Fr.via ?_ (by assumption)) | (with_reducible refine Fr.comp ?_ (by assumption))))
set_option maxRecDepth 100000 in
theorem rints4_in (x y : Nat) (w : World) (hx : x < 18446744073709551616) (hy : y < 18446744073709551616) (h : wrap64 (y : Int) ≠ 0) (h' : x ≠ 9223372036854775808 ∨ wrap64 (y : Int) ≠ -1) :
    Calls Tryd.prog 34 #[.int .i64 4, .int .u64 x, .int .u64 y] w fun e w' => e = .returned (.tuple #[.agg #[.bool false, .int .u64 ((wrap64 (x : Int)).tmod (wrap64 (y : Int)) % 18446744073709551616)], .int .i64 0]) ∧ Fr Nil w w' := by
  have h0 : (wrap64 (y : Int) == 0) = false := by simpa using h
  obtain ⟨q1, q2, d2, d3, hq⟩ : ∃ q1 q2 : Bool, ((x : Int) == 9223372036854775808) = q1 ∧ (wrap64 (y : Int) == -1) = q2 ∧ (q1 = false ∨ q2 = false) :=
    ⟨_, _, rfl, rfl, h'.elim (fun h => .inl (by simp; omega)) (fun h => .inr (by simpa using h))⟩
  clear h'
  cases q1 <;> cases q2 <;> simp at hq
  all_goals
    go_enter Tryd.func34, Tryd.ntmps34
    go_wp2_with fail
    refine (rquotient_any (wrap64 (x : Int)) (wrap64 (y : Int)) _ (by unfold wrap64; omega) (by unfold wrap64; omega) (by unfold wrap64; omega) (by unfold wrap64; omega) h).mono ?_
    rintro e w1 ⟨rfl, f1⟩
    obtain ⟨_, _, _⟩ := f1.at (w.heap.size) (by first | assumption | omega | (simp; done) | (simp; omega))
    go_wp2
    refine bodyPost_ret (v := .tuple #[.agg #[.bool false, .int .u64 ((wrap64 (x : Int)).tmod (wrap64 (y : Int)) % 18446744073709551616)], .int .i64 0]) (by simp [results, Tryd.results34, go_sem, *]) rfl ⟨rfl, ?_⟩
    (repeat (first | (with_reducible exact Fr.refl _ _) | (with_reducible assumption) | (with_reducible exact Fr.of_nil (by assumption)) | (with_reducible refine Fr.drew ?_) | (with_reducible refine Fr.drewN ?_ _) | (with_reducible refine Fr.alloc ?_ _) | (with_reducible refine Fr.set ?_ _ _ (by first | (intros; omega) | (simp; done) | (simp; omega))) | (with_reducible refine Fr.via ?_ (by assumption)) | (with_reducible refine Fr.comp ?_ (by assumption))))
theorem rnan_any (b : Nat) (w : World) :
    Calls Tryd.prog 35 #[.int .u64 b] w fun e w' => e = .returned (.bool (nanB b)) ∧ w' = w := by
  have e : nanB b = decide (9218868437227405312 < (b : Int) % 9223372036854775808) := by
    unfold nanB rung
    rw [decide_eq_decide]; omega
  rw [e]
  clear e
  go_enter Tryd.func35, Tryd.ntmps35
  go_wp2
  go_ret
  exact ⟨rfl, rfl⟩
theorem rorder_any (b : Nat) (w : World) (hb : b < 18446744073709551616) :
    Calls Tryd.prog 36 #[.int .u64 b] w fun e w' => e = .returned (.int .i64 (ordR b)) ∧ w' = w := by
  by_cases h : 9223372036854775808 ≤ b
  · have e : ordR b = -((b - 2 ^ 63 : Nat) : Int) := by unfold ordR; rw [if_pos h]
    rw [e]
    have h1 : (9223372036854775808 : Int) ≤ (b : Int) := by omega
    clear e
    go_enter Tryd.func36, Tryd.ntmps36
    go_wp2
    go_ret
    exact ⟨ret1_int (by (try simp only [u64m]); (try unfold wrap64); try omega), rfl⟩
  · have e : ordR b = (b : Int) := by unfold ordR; rw [if_neg h]
    rw [e]
    have h1 : ¬ (9223372036854775808 : Int) ≤ (b : Int) := by omega
    clear e
    go_enter Tryd.func36, Tryd.ntmps36
    go_wp2
    go_ret
    exact ⟨ret1_int (by (try simp only [u64m]); (try unfold wrap64); try omega), rfl⟩
end Go.Proofs.YtcadbidccmiflaaDoor
