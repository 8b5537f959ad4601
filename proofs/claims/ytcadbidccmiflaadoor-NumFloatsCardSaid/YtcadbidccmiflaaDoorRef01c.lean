/-
  Contracts of the document's answer for layer 1: trunc. No conditions.
-/
import Derived.Test.YtcadbidccmiflaaDoorRef01b
namespace Go.Proofs.YtcadbidccmiflaaDoor
set_option linter.unusedSimpArgs false
set_option linter.unusedVariables false
open Go.RowKit

/-- A float's exponent and digits; what it is towards zero, without its sign. -/
def exR (b : Nat) : Nat := b / 4503599627370496 % 2048
def mnR (b : Nat) : Nat := b % 4503599627370496 + 4503599627370496
def truncN (b : Nat) : Nat := if exR b < 1075 then mnR b / 2 ^ (1075 - exR b) else mnR b * 2 ^ (exR b - 1075)
def truncS (m : Bool) (b : Nat) : Int := if m then -(truncN b : Int) else (truncN b : Int)
theorem truncN_lt (b : Nat) (h : exR b < 1086) : truncN b < 9223372036854775808 := by
  have hM1 : mnR b < 9007199254740992 := by unfold mnR; omega
  unfold truncN
  split
  · exact Nat.lt_of_le_of_lt (Nat.div_le_self _ _) (by omega)
  · have h1 : 2 ^ (exR b - 1075) ≤ 2 ^ 10 := Nat.pow_le_pow_right (by omega) (by omega)
    have h2 : mnR b * 2 ^ (exR b - 1075) ≤ mnR b * 2 ^ 10 := Nat.mul_le_mul_left _ h1
    omega
theorem half_pow (M k : Nat) : M / 2 ^ k / 2 = M / 2 ^ (k + 1) := by rw [Nat.div_div_eq_div_mul, ← Nat.pow_succ]
theorem half_tdiv (n m : Nat) (h : n < 9007199254740992) : IntKind.u64.wrap ((n : Int).tdiv 2) = ((n / 2 : Nat) : Int) := by
  rw [show (2 : Int) = ((2 : Nat) : Int) from rfl, ← Int.ofNat_tdiv, wrapU _ (by omega)]
theorem dbl_pow (M k : Nat) : M * 2 ^ k * 2 = M * 2 ^ (k + 1) := by rw [Nat.mul_assoc, ← Nat.pow_succ]
section
variable (b : Nat) (w : World) (hb : b < 18446744073709551616)
include hb
set_option maxRecDepth 100000 in
theorem rtrunc_small (h : exR b < 1023) :
    Calls Tryd.prog 33 #[.int .u64 b] w fun e w' => e = .returned (.tuple #[.agg #[.bool false, .int .u64 0], .int .i64 0]) ∧ Fr Nil w w' := by
  have hE : (b : Int) / 4503599627370496 % 2048 = ((exR b : Nat) : Int) := by unfold exR; omega
  have hM : (b : Int) % 4503599627370496 + 4503599627370496 = ((mnR b : Nat) : Int) := by unfold mnR; omega
  have h1 : ((exR b : Nat) : Int) < 1023 := by omega
  have h0 : (0 : Int) ≤ ((exR b : Nat) : Int) := by omega
  generalize exR b = E at *
  generalize mnR b = M at *
  go_enter Tryd.func33, Tryd.ntmps33
  go_wp2
  refine bodyPost_ret (v := .tuple #[.agg #[.bool false, .int .u64 0], .int .i64 0]) (by simp [results, Tryd.results33, go_sem, *]) rfl ⟨rfl, ?_⟩
  (repeat (first | (with_reducible exact Fr.refl _ _) | (with_reducible assumption) | (with_reducible exact Fr.of_nil (by assumption)) | (with_reducible refine Fr.drew ?_) | (with_reducible refine Fr.drewN ?_ _) | (with_reducible refine Fr.alloc ?_ _) | (with_reducible refine Fr.set ?_ _ _ (by first | (intros; omega) | (simp; done) | (simp; omega))) | (with_reducible refine Fr.via ?_ (by assumption)) | (with_reducible refine Fr.comp ?_ (by assumption))))
theorem rtrunc_least (hm : 9223372036854775808 ≤ b) (h : exR b = 1086) (hM4 : mnR b = 4503599627370496) :
    Calls Tryd.prog 33 #[.int .u64 b] w fun e w' => e = .returned (.tuple #[.agg #[.bool false, .int .u64 9223372036854775808], .int .i64 0]) ∧ Fr Nil w w' := by
  have hE : (b : Int) / 4503599627370496 % 2048 = 1086 := by unfold exR at h; omega
  have hM : (b : Int) % 4503599627370496 = 0 := by unfold mnR at hM4; omega
  have hb1 : (9223372036854775808 : Int) ≤ (b : Int) := by omega
  clear h hM4 hm
  go_enter Tryd.func33, Tryd.ntmps33
  go_wp2
  refine bodyPost_ret (v := .tuple #[.agg #[.bool false, .int .u64 9223372036854775808], .int .i64 0]) (by simp [results, Tryd.results33, go_sem, *]) rfl ⟨rfl, ?_⟩
  (repeat (first | (with_reducible exact Fr.refl _ _) | (with_reducible assumption) | (with_reducible exact Fr.of_nil (by assumption)) | (with_reducible refine Fr.drew ?_) | (with_reducible refine Fr.drewN ?_ _) | (with_reducible refine Fr.alloc ?_ _) | (with_reducible refine Fr.set ?_ _ _ (by first | (intros; omega) | (simp; done) | (simp; omega))) | (with_reducible refine Fr.via ?_ (by assumption)) | (with_reducible refine Fr.comp ?_ (by assumption))))
set_option maxRecDepth 100000 in
theorem rtrunc_great (h : 1086 ≤ exR b) (hn : b < 9223372036854775808 ∨ exR b ≠ 1086 ∨ mnR b ≠ 4503599627370496) :
    Calls Tryd.prog 33 #[.int .u64 b] w fun e w' => e = .returned (.tuple #[.agg #[.bool false, .int .u64 0], .int .i64 1]) ∧ Fr Nil w w' := by
  have hE : (b : Int) / 4503599627370496 % 2048 = ((exR b : Nat) : Int) := by unfold exR; omega
  have hM : (b : Int) % 4503599627370496 + 4503599627370496 = ((mnR b : Nat) : Int) := by unfold mnR; omega
  have hE1 : exR b < 2048 := by unfold exR; omega
  have hM1 : mnR b < 9007199254740992 := by unfold mnR; omega
  generalize exR b = E at *
  generalize mnR b = M at *
  have h1 : (1086 : Int) ≤ (E : Int) := by omega
  obtain ⟨q1, q2, q3, d1, d2, d3, hq⟩ : ∃ q1 q2 q3 : Bool, decide ((9223372036854775808 : Int) ≤ (b : Int)) = q1 ∧ ((E : Int) == 1086) = q2 ∧ ((M : Int) == 4503599627370496) = q3 ∧ (q1 = false ∨ q2 = false ∨ q3 = false) :=
    ⟨_, _, _, rfl, rfl, rfl, by
      rcases hn with hn | hn | hn
      · exact .inl (by simp; omega)
      · exact .inr (.inl (by simp; omega))
      · exact .inr (.inr (by simp; omega))⟩
  clear hn
  cases q1 <;> cases q2 <;> cases q3 <;> simp at hq
  all_goals
    go_enter Tryd.func33, Tryd.ntmps33
    go_wp2
    refine bodyPost_ret (v := .tuple #[.agg #[.bool false, .int .u64 0], .int .i64 1]) (by simp [results, Tryd.results33, go_sem, *]) rfl ⟨rfl, ?_⟩
    (repeat (first | (with_reducible exact Fr.refl _ _) | (with_reducible assumption) | (with_reducible exact Fr.of_nil (by assumption)) | (with_reducible refine Fr.drew ?_) | (with_reducible refine Fr.drewN ?_ _) | (with_reducible refine Fr.alloc ?_ _) | (with_reducible refine Fr.set ?_ _ _ (by first | (intros; omega) | (simp; done) | (simp; omega))) | (with_reducible refine Fr.via ?_ (by assumption)) | (with_reducible refine Fr.comp ?_ (by assumption))))
set_option maxRecDepth 100000 in
set_option maxHeartbeats 1000000 in
theorem rtrunc_in (h : 1023 ≤ exR b) (h' : exR b < 1086) :
    Calls Tryd.prog 33 #[.int .u64 b] w fun e w' => e = .returned (.tuple #[.agg #[.bool false, .int .u64 (IntKind.u64.wrap (truncS (decide (9223372036854775808 ≤ b)) b))], .int .i64 0]) ∧ Fr Nil w w' := by
  have hE : (b : Int) / 4503599627370496 % 2048 = ((exR b : Nat) : Int) := by unfold exR; omega
  have hM : (b : Int) % 4503599627370496 + 4503599627370496 = ((mnR b : Nat) : Int) := by unfold mnR; omega
  have hE1 : exR b < 2048 := by unfold exR; omega
  have hM1 : mnR b < 9007199254740992 := by unfold mnR; omega
  obtain ⟨E, hEx⟩ : ∃ E, exR b = E := ⟨_, rfl⟩
  obtain ⟨M, hMx⟩ : ∃ M, mnR b = M := ⟨_, rfl⟩
  have HX := Lib.hid (And.intro hEx hMx)
  rw [hEx] at hE hE1 h h'
  rw [hMx] at hM hM1
  clear hEx hMx
  have h1 : ¬ (E : Int) < 1023 := by omega
  have h2 : ¬ (1086 : Int) ≤ (E : Int) := by omega
  have h3 : ((E : Int) == 1086) = false := by simp; omega
  obtain ⟨q, hq⟩ : ∃ q, decide (9223372036854775808 ≤ b) = q := ⟨_, rfl⟩
  have hq2 : decide ((9223372036854775808 : Int) ≤ (b : Int)) = q := by rw [← hq, decide_eq_decide]; omega
  rw [hq]
  clear hq
  have h4 : (E : Int) ≤ 1085 := by omega
  have h5 : (1023 : Int) ≤ (E : Int) := by omega
  go_enter Tryd.func33, Tryd.ntmps33
  go_wp2
  go_loop [7, 8] (fun n e => ∃ k : Nat, (E + k ≤ 1075 ∨ k = 0) ∧ e = .int .i64 (E + k : Nat) ∧ n = .int .u64 ((M / 2 ^ k : Nat) : Int)) (fun _ e => (1075 - intOf e).toNat)
  case atStart => exact ⟨0, .inr rfl, rfl, by simp⟩
  case round =>
    obtain ⟨k, hk, rfl, rfl⟩ := hrel
    have HP := Lib.hid (half_pow M k)
    have hle : M / 2 ^ k ≤ M := Nat.div_le_self _ _
    obtain ⟨D, hD⟩ : ∃ D, M / 2 ^ k = D := ⟨_, rfl⟩
    rw [hD] at hle HP
    rw [hD]
    have HD := Lib.hid hD
    clear hD
    obtain ⟨e, he⟩ : ∃ e, E + k = e := ⟨_, rfl⟩
    rw [he]
    have HE := Lib.hid he
    clear he
    by_cases hlt : e < 1075
    · have c1 : (e : Int) < 1075 := by omega
      have hk1 : E + k < 1075 := by rw [HE.out]; exact hlt
      have HK1 := Lib.hid hk1
      clear hk1 hk
      go_wp2
      go_round
      case rel => exact ⟨k + 1, by have := HK1.out; omega, by rw [← Nat.add_assoc, HE.out]; go_num, by rw [← HP.out]; first | rfl | exact congrArg _ (half_tdiv _ _ (by omega))⟩
      case measure => simp [intOf]; omega
    · have c1 : ¬ (e : Int) < 1075 := by omega
      have HK : Hid (k = 1075 - E) := Lib.hid (by have := HE.out; omega)
      clear hk HP
      go_wp2
      go_loop [7, 9] (fun n e => ∃ j : Nat, (j + 1075 ≤ E ∨ j = 0) ∧ e = .int .i64 ((E : Int) - j) ∧ n = .int .u64 ((D * 2 ^ j : Nat) : Int)) (fun _ e => (intOf e - 1075).toNat)
      case atStart => exact ⟨0, .inr rfl, by simp, by simp⟩
      case round =>
        obtain ⟨j, hj, rfl, rfl⟩ := hrel
        have HP := Lib.hid (dbl_pow D j)
        obtain ⟨T, hT⟩ : ∃ T, D * 2 ^ j = T := ⟨_, rfl⟩
        rw [hT] at HP
        rw [hT]
        by_cases hgt : j + 1075 < E
        · have c2 : (1075 : Int) < (E : Int) - j := by omega
          have hbd : T * 2 < 18446744073709551616 := by
            rw [HP.out]
            have : 2 ^ (j + 1) ≤ 2 ^ 10 := Nat.pow_le_pow_right (by omega) (by omega)
            have : D * 2 ^ (j + 1) ≤ D * 2 ^ 10 := Nat.mul_le_mul_left _ this
            omega
          have hbi : (T : Int) * 2 < 18446744073709551616 := by omega
          have HB := Lib.hid hbd
          clear hbd hT
          go_wp2
          go_round
          case rel => exact ⟨j + 1, by omega, by go_num, by rw [← HP.out]; first | rfl | (simp; done) | (rw [wrapU _ HB.out]) | (simp; rw [u64m]; omega)⟩
          case measure => simp [intOf]; omega
        · have c2 : ¬ (1075 : Int) < (E : Int) - j := by omega
          have hj' : j = E - 1075 := by omega
          have HT : Hid (truncN b = T) := Lib.hid (by
            unfold truncN
            rw [HX.out.1, HX.out.2, ← hT, ← HD.out, hj', HK.out]
            split
            · rw [show E - 1075 = 0 by omega]; simp
            · rw [show 1075 - E = 0 by omega]; simp)
          clear hT hj' hj HP
          cases q
          · go_wp2
            refine bodyPost_ret (v := .tuple #[.agg #[.bool false, .int .u64 T], .int .i64 0]) (by simp [results, Tryd.results33, go_sem, *]) rfl ⟨agg_ret ?_, ?_⟩
            · unfold truncS
              rw [HT.out]
              simp only [Bool.false_eq_true, if_false]
              have := truncN_lt b (by rw [HX.out.1]; omega)
              rw [HT.out] at this
              exact (wrapU _ (by omega)).symm
            (repeat (first | (with_reducible exact Fr.refl _ _) | (with_reducible assumption) | (with_reducible exact Fr.of_nil (by assumption)) | (with_reducible refine Fr.drew ?_) | (with_reducible refine Fr.drewN ?_ _) | (with_reducible refine Fr.alloc ?_ _) | (with_reducible refine Fr.set ?_ _ _ (by first | (intros; omega) | (simp; done) | (simp; omega))) | (with_reducible refine Fr.via ?_ (by assumption)) | (with_reducible refine Fr.comp ?_ (by assumption))))
          · go_wp2
            refine bodyPost_ret (v := .tuple #[.agg #[.bool false, .int .u64 (IntKind.u64.wrap (-(T : Int)))], .int .i64 0]) (by simp [results, Tryd.results33, go_sem, *]) rfl ⟨agg_ret ?_, ?_⟩
            · unfold truncS
              rw [HT.out]
              simp only [if_true]
            (repeat (first | (with_reducible exact Fr.refl _ _) | (with_reducible assumption) | (with_reducible exact Fr.of_nil (by assumption)) | (with_reducible refine Fr.drew ?_) | (with_reducible refine Fr.drewN ?_ _) | (with_reducible refine Fr.alloc ?_ _) | (with_reducible refine Fr.set ?_ _ _ (by first | (intros; omega) | (simp; done) | (simp; omega))) | (with_reducible refine Fr.via ?_ (by assumption)) | (with_reducible refine Fr.comp ?_ (by assumption))))
end
end Go.Proofs.YtcadbidccmiflaaDoor
