/-
  Contracts of the document's answer for layer 1: Flt, product, size, quotient. No conditions.
-/
import Derived.Test.YtcadbidccmiflaaDoorNum4
import Derived.Deep.LoopGhost
namespace Go.Proofs.YtcadbidccmiflaaDoor
set_option linter.unusedSimpArgs false
set_option linter.unusedVariables false
open Go.RowKit

/-- By bits: is a float's word none's? -/
def normR (b : Nat) : Nat := if 9218868437227405312 < b % 9223372036854775808 then 9221120237041090560 else b
set_option maxRecDepth 100000 in
theorem rflt_any (b : Nat) (w : World) :
    Calls Tryd.prog 32 #[.float .f64 b] w fun e w' => e = .returned (.agg #[.bool true, .int .u64 (normR b)]) ∧ Fr Nil w w' := by
  have hb := fun w => bits_run w b
  by_cases h : 9218868437227405312 < b % 9223372036854775808
  · have hn : normR b = 9221120237041090560 := by simp [normR, h]
    rw [hn]
    have h' : (9218868437227405312 : Int) < (b : Int) % 9223372036854775808 := by omega
    clear hn
    go_enter Tryd.func32, Tryd.ntmps32
    go_wp2
    refine bodyPost_ret (v := .agg #[.bool true, .int .u64 9221120237041090560]) (by simp [results, Tryd.results32, go_sem]) rfl ⟨rfl, ?_⟩
    (repeat (first | (with_reducible exact Fr.refl _ _) | (with_reducible assumption) | (with_reducible exact Fr.of_nil (by assumption)) | (with_reducible refine Fr.drew ?_) | (with_reducible refine Fr.drewN ?_ _) | (with_reducible refine Fr.alloc ?_ _) | (with_reducible refine Fr.set ?_ _ _ (by first | (intros; omega) | (simp; done) | (simp; omega))) | (with_reducible refine Fr.via ?_ (by assumption)) | (with_reducible refine Fr.comp ?_ (by assumption))))
  · have hn : normR b = b := by simp [normR, h]
    rw [hn]
    have h' : ¬ (9218868437227405312 : Int) < (b : Int) % 9223372036854775808 := by omega
    clear hn
    go_enter Tryd.func32, Tryd.ntmps32
    go_wp2
    refine bodyPost_ret (v := .agg #[.bool true, .int .u64 b]) (by simp [results, Tryd.results32, go_sem]) rfl ⟨rfl, ?_⟩
    (repeat (first | (with_reducible exact Fr.refl _ _) | (with_reducible assumption) | (with_reducible exact Fr.of_nil (by assumption)) | (with_reducible refine Fr.drew ?_) | (with_reducible refine Fr.drewN ?_ _) | (with_reducible refine Fr.alloc ?_ _) | (with_reducible refine Fr.set ?_ _ _ (by first | (intros; omega) | (simp; done) | (simp; omega))) | (with_reducible refine Fr.via ?_ (by assumption)) | (with_reducible refine Fr.comp ?_ (by assumption))))
/-- A number without its sign. -/
theorem rsize_any (n : Int) (w : World) (h0 : -9223372036854775808 ≤ n) (h1 : n ≤ 9223372036854775807) :
    Calls Tryd.prog 69 #[.int .i64 n] w fun e w' => e = .returned (.int .u64 n.natAbs) ∧ w = w' := by
  go_enter Tryd.func69, Tryd.ntmps69
  go_wp2
  all_goals
    go_ret
    exact ⟨ret1_int (by omega), rfl⟩
theorem u64m (n : Int) : IntKind.u64.wrap n = n % 18446744073709551616 := by
  simp [IntKind.wrap, IntKind.signed, IntKind.bits]
theorem cast_mod (x : Nat) : ((x % 18446744073709551616 : Nat) : Int) = (x : Int) % 18446744073709551616 := by omega
theorem cast_half (x : Nat) : ((x / 2 : Nat) : Int) = (x : Int) / 2 := by omega
/-- A product, by doubling. -/
theorem product_step (a b : Int) (h : 0 < b) : (a + a) % 18446744073709551616 * (b / 2) % 18446744073709551616 = (a * b - a * (b % 2)) % 18446744073709551616 := by
  rw [Int.mul_emod, Int.emod_emod_of_dvd _ (Int.dvd_refl _), ← Int.mul_emod]
  congr 1
  have e : b = 2 * (b / 2) + b % 2 := by omega
  have e2 : a * b = a * (2 * (b / 2) + b % 2) := by rw [← e]
  rw [e2, Int.mul_add, Int.add_mul]
  have e3 : a * (2 * (b / 2)) = a * (b / 2) + a * (b / 2) := by rw [← Int.mul_assoc, Int.mul_comm a 2, Int.mul_assoc]; omega
  omega
set_option maxRecDepth 100000 in
theorem rproduct_any (a b : Nat) (w : World) (ha : a < 18446744073709551616) (hb : b < 18446744073709551616) :
    Calls Tryd.prog 53 #[.int .u64 a, .int .u64 b] w fun e w' => e = .returned (.int .u64 ((a : Int) * b % 18446744073709551616)) ∧ w = w' := by
  go_enter Tryd.func53, Tryd.ntmps53
  go_wp2
  go_loop [0, 1, 5] (fun s0 s1 s5 => ∃ p q r : Nat, p < 18446744073709551616 ∧ q < 18446744073709551616 ∧ r < 18446744073709551616 ∧ s0 = .int .u64 p ∧ s1 = .int .u64 q ∧ s5 = .int .u64 r ∧ ((r : Int) + p * q) % 18446744073709551616 = (a : Int) * b % 18446744073709551616) (fun _ s1 _ => (intOf s1).toNat)
  case atStart => exact ⟨a, b, 0, ha, hb, by omega, rfl, rfl, rfl, by simp⟩
  case round =>
    obtain ⟨p, q, r, hp, hq, hr, rfl, rfl, rfl, he⟩ := hrel
    have HE := Lib.hid he
    clear he
    by_cases hz : 0 < q
    · have hs := product_step (p : Int) (q : Int) (by omega)
      have HS := Lib.hid hs
      clear hs
      have c1 : decide ((0 : Int) < (q : Int)) = true := by simp; omega
      by_cases h1 : q % 2 = 1
      · have c2 : (((q : Int) % 2) == 1) = true := by simp; omega
        go_wp2
        refine ⟨⟨(p + p) % 18446744073709551616, q / 2, (r + p) % 18446744073709551616, by omega, by omega, by omega, by rw [u64m]; simp, by simp, by rw [u64m]; simp, ?_⟩, by simp [intOf]; omega⟩
        have hs := HS.out
        rw [← HE.out]
        rw [show (q : Int) % 2 = 1 by omega, Int.mul_one] at hs
        rw [cast_mod, cast_half, Int.natCast_add, cast_mod, Int.natCast_add]
        generalize ((p : Int) + p) % 18446744073709551616 * ((q : Int) / 2) = X at *
        generalize (p : Int) * q = Y at *
        omega
      · have c2 : (((q : Int) % 2) == 1) = false := by simp; omega
        go_wp2
        refine ⟨⟨(p + p) % 18446744073709551616, q / 2, r, by omega, by omega, by omega, by rw [u64m]; simp, by simp, rfl, ?_⟩, by simp [intOf]; omega⟩
        have hs := HS.out
        rw [← HE.out]
        rw [show (q : Int) % 2 = 0 by omega, Int.mul_zero] at hs
        rw [cast_mod, cast_half, Int.natCast_add]
        generalize ((p : Int) + p) % 18446744073709551616 * ((q : Int) / 2) = X at *
        generalize (p : Int) * q = Y at *
        omega
    · obtain rfl : q = 0 := by omega
      go_wp2
      go_ret
      have he := HE.out
      exact ⟨ret1_int (by simp at he; omega), rfl⟩
theorem abs_key (a b : Int) (hb : b ≠ 0) : a.tdiv b = (if decide (a < 0) = decide (b < 0) then ((a.natAbs / b.natAbs : Nat) : Int) else -((a.natAbs / b.natAbs : Nat) : Int)) ∧ a.tmod b = (if a < 0 then -((a.natAbs % b.natAbs : Nat) : Int) else ((a.natAbs % b.natAbs : Nat) : Int)) := by
  rcases Int.natAbs_eq a with ha | ha <;> rcases Int.natAbs_eq b with hb' | hb'
  all_goals
    generalize a.natAbs = m at *
    generalize b.natAbs = n at *
    subst ha hb'
    simp only [Int.tdiv_neg, Int.neg_tdiv, Int.tmod_neg, Int.neg_tmod, ← Int.ofNat_tdiv, ← Int.ofNat_tmod, Int.neg_neg]
    rcases Nat.eq_zero_or_pos m with rfl | hm
    · simp
    · have hn : 0 < n := by omega
      constructor
      · split <;> simp_all <;> omega
      · split <;> simp_all <;> omega
theorem rsize_same (n : Int) (w : World) (h0 : -9223372036854775808 ≤ n) (h1 : n ≤ 9223372036854775807) :
    Calls Tryd.prog 69 #[.int .i64 n] w fun e w' => e = .returned (.int .u64 n.natAbs) ∧ w' = w := (rsize_any n w h0 h1).mono fun _ _ h => ⟨h.1, h.2.symm⟩
set_option maxRecDepth 100000 in
theorem rquotient_any (a b : Int) (w : World) (a0 : -9223372036854775808 ≤ a) (a1 : a ≤ 9223372036854775807) (b0 : -9223372036854775808 ≤ b) (b1 : b ≤ 9223372036854775807) (hb : b ≠ 0) :
    Calls Tryd.prog 54 #[.int .i64 a, .int .i64 b] w fun e w' => e = .returned (.tuple #[.int .u64 (a.tdiv b % 18446744073709551616), .int .u64 (a.tmod b % 18446744073709551616)]) ∧ Fr Nil w w' := by
  have hn : ((b.natAbs : Int) == 0) = false := by simp; omega
  go_enter Tryd.func54, Tryd.ntmps54
  go_wp2_with fail
  go_quiet ((go_at_call 69; refine Calls.quiet_of_same (rsize_same _ _ ?_ ?_) <;> assumption))
  obtain ⟨k1, k2⟩ := abs_key a b hb
  have e1 : ((a.natAbs / b.natAbs : Nat) : Int) = (a.natAbs : Int) / (b.natAbs : Int) := Int.natCast_ediv _ _
  have e2 : ((a.natAbs % b.natAbs : Nat) : Int) = (a.natAbs : Int) % (b.natAbs : Int) := Int.natCast_emod _ _
  have HK := Lib.hid (And.intro k1 (And.intro k2 (And.intro e1 e2)))
  clear k1 k2 e1 e2
  go_wp2
  all_goals
    go_ret2
    obtain ⟨k1, k2, e1, e2⟩ := HK.out
    refine ⟨ret2_int ?_ ?_, by (repeat (first | (with_reducible exact Fr.refl _ _) | (with_reducible assumption) | (with_reducible exact Fr.of_nil (by assumption)) | (with_reducible refine Fr.drew ?_) | (with_reducible refine Fr.drewN ?_ _) | (with_reducible refine Fr.alloc ?_ _) | (with_reducible refine Fr.set ?_ _ _ (by first | (intros; omega) | (simp; done) | (simp; omega))) | (with_reducible refine Fr.via ?_ (by assumption)) | (with_reducible refine Fr.comp ?_ (by assumption))))⟩
    · rw [k1]
      simp only [u64m, ← e1]
      clear HK k1 k2 e1 e2
      generalize ((a.natAbs / b.natAbs : Nat) : Int) = Q
      by_cases ha : a < 0 <;> by_cases hb' : b < 0 <;> simp_all <;> omega
    · rw [k2]
      simp only [u64m, ← e2]
      clear HK k1 k2 e1 e2
      have hle : a.natAbs % b.natAbs ≤ a.natAbs := Nat.mod_le _ _
      have hQ : ((a.natAbs % b.natAbs : Nat) : Int) ≤ 9223372036854775808 := by omega
      have hQ0 : (0 : Int) ≤ ((a.natAbs % b.natAbs : Nat) : Int) := by omega
      clear hle
      generalize ((a.natAbs % b.natAbs : Nat) : Int) = Q at *
      by_cases ha : a < 0
      · rw [if_pos ha]; try omega
      · rw [if_neg ha]; try omega
end Go.Proofs.YtcadbidccmiflaaDoor
