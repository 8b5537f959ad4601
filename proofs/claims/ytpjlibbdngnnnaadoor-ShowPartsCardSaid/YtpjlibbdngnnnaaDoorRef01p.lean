/-
  Contracts of the document's answer for layer 1: Digits, Print. No conditions.
-/
import Derived.Test.YtpjlibbdngnnnaaDoorBase01
import Derived.Test.YtpjlibbdngnnnaaDoorBaseP
import Derived.BigQuiet
import Derived.Deep.QuietTactic
namespace Go.Proofs.YtpjlibbdngnnnaaDoor
set_option linter.unusedSimpArgs false
set_option linter.unusedVariables false
open Go.RowKit

theorem ret1_str {a b : List UInt8} (h : a = b) : Ending.returned (.string ⟨a.toArray⟩) = .returned (.string ⟨b.toArray⟩) := by rw [h]
/-- A number's digits to a base. -/
def digL (b n : Nat) : List UInt8 := if h : n < b ∨ b < 2 then [hexd (n % b)] else digL b (n / b) ++ [hexd (n % b)]
termination_by n
decreasing_by exact Nat.div_lt_self (by omega) (by omega)
theorem digL_lt {b n : Nat} (h : n < b) : digL b n = [hexd n] := by rw [digL, dif_pos (.inl h), Nat.mod_eq_of_lt h]
theorem digL_ge {b n : Nat} (hb : 2 ≤ b) (h : b ≤ n) : digL b n = digL b (n / b) ++ [hexd (n % b)] := by rw [digL, dif_neg (by omega)]
/-- What is done, of digits that are still to come. -/
def digAcc (b m : Nat) (L : List UInt8) : List UInt8 := if m = 0 then L else digL b m ++ L
theorem digAcc_zero (b : Nat) (L : List UInt8) : digAcc b 0 L = L := rfl
theorem digAcc_step {b m : Nat} (hb : 2 ≤ b) (hm : 0 < m) (L : List UInt8) : digAcc b (m / b) (hexd (m % b) :: L) = digAcc b m L := by
  unfold digAcc
  rw [if_neg (by omega : ¬ m = 0)]
  by_cases h : m < b
  · rw [digL_lt h, Nat.div_eq_of_lt h, if_pos rfl, Nat.mod_eq_of_lt h]; rfl
  · rw [digL_ge (n := m) hb (by omega), if_neg (by have := Nat.div_pos (Nat.le_of_not_lt h) (by omega : 0 < b); omega)]
    simp
theorem digAcc_start {b n : Nat} (hb : 2 ≤ b) : digAcc b (n / b) [hexd (n % b)] = digL b n := by
  rcases Nat.eq_zero_or_pos n with rfl | h
  · rw [Nat.zero_div, Nat.zero_mod, digL_lt (by omega)]; rfl
  · rw [digAcc_step hb h]
    unfold digAcc
    rw [if_neg (by omega), List.append_nil]
theorem digL_len (b k : Nat) (hb : 2 ≤ b) : ∀ n : Nat, 1 ≤ k → n < b ^ k → (digL b n).length ≤ k := by
  induction k with
  | zero => intro n h; omega
  | succ k ih =>
    intro n _ h
    by_cases hn : n < b
    · rw [digL_lt hn]; simp
    · rw [digL_ge hb (by omega)]
      have hk : 1 ≤ k := by
        rcases Nat.eq_zero_or_pos k with rfl | q
        · simp at h; omega
        · exact q
      have := ih (n / b) hk (by rw [Nat.pow_succ] at h; exact (Nat.div_lt_iff_lt_mul (by omega)).2 h)
      simp; omega
theorem hex_ext (k : Nat) (h : k < 16) : (⟨#[48, 49, 50, 51, 52, 53, 54, 55, 56, 57, 97, 98, 99, 100, 101, 102]⟩ : ByteArray).extract k (k + 1) = ⟨#[hexd k]⟩ := by
  match k, h with
  | 0, _ | 1, _ | 2, _ | 3, _ | 4, _ | 5, _ | 6, _ | 7, _ | 8, _ | 9, _ | 10, _ | 11, _ | 12, _ | 13, _ | 14, _ | 15, _ => rfl
  | k + 16, h => omega
set_option maxRecDepth 100000 in
theorem rdigits16 (n : Nat) (w : World) (hn : n < 18446744073709551616) :
    Calls Tryd.prog 56 #[.int .u64 n, .int .u64 16] w fun e w' => e = .returned (.string ⟨(digL 16 n).toArray⟩) ∧ Fr Nil w w' := by
  obtain ⟨k, hk⟩ : ∃ k, n % 16 = k := ⟨_, rfl⟩
  have hk16 : k < 16 := by omega
  have hki : (n : Int) % 16 = (k : Int) := by omega
  have hki2 : (k : Int) < 16 := by omega
  have hx := hex_ext k hk16
  have HS := Lib.hid (digAcc_start (b := 16) (n := n) (by omega))
  rw [hk] at HS
  clear hk
  go_enter Tryd.func56, Tryd.ntmps56
  go_wp2
  go_quiet (fail)
  go_wp2
  go_loopw [0, 6] (fun s0 s6 wr => ∃ (m : Nat) (L : List UInt8), m < 2 ^ (64 - L.length) ∧ L.length ≤ 64 ∧ s0 = .int .u64 m ∧ s6 = .string ⟨L.toArray⟩ ∧ digAcc 16 m L = digL 16 n ∧ Fr Nil w wr) (fun s0 _ _ => (intOf s0).toNat)
  case atStart => exact ⟨n / 16, [hexd k], by simp; omega, by simp, by simp, rfl, HS.out, by (repeat (first | (with_reducible exact Fr.refl _ _) | (with_reducible assumption) | (with_reducible exact Fr.of_nil (by assumption)) | (with_reducible refine Fr.drew ?_) | (with_reducible refine Fr.drewN ?_ _) | (with_reducible refine Fr.alloc ?_ _) | (with_reducible refine Fr.set ?_ _ _ (by first | (intros; omega) | (simp; done) | (simp; omega))) | (with_reducible refine Fr.via ?_ (by assumption)) | (with_reducible refine Fr.comp ?_ (by assumption))))⟩
  case round =>
    obtain ⟨m, L, hm, hL, rfl, rfl, hacc, hf⟩ := hrel
    have hm64 : m < 18446744073709551616 := Nat.lt_of_lt_of_le hm (Nat.pow_le_pow_right (by omega : 0 < 2) (by omega : 64 - L.length ≤ 64))
    have HA := Lib.hid hacc
    clear hacc hx hki hki2 hk16 HS
    by_cases hz : 0 < m
    · have hl63 : L.length ≤ 63 := by
        rcases Nat.lt_or_ge L.length 64 with q | q
        · omega
        · rw [show 64 - L.length = 0 by omega] at hm; omega
      have hm2 : m / 16 < 2 ^ (64 - (L.length + 1)) := by
        have e : 2 ^ (64 - L.length) = 2 ^ (64 - (L.length + 1)) * 2 := by rw [← Nat.pow_succ]; congr 1; omega
        rw [e] at hm
        omega
      have HM := Lib.hid hm2
      have hzi : (0 : Int) < (m : Int) := by omega
      obtain ⟨j, hj⟩ : ∃ j, m % 16 = j := ⟨_, rfl⟩
      have hj16 : j < 16 := by omega
      have hji : (m : Int) % 16 = (j : Int) := by omega
      have hji2 : (j : Int) < 16 := by omega
      have hy := hex_ext j hj16
      have HS := Lib.hid (digAcc_step (b := 16) (m := m) (by omega) hz L)
      rw [hj] at HS
      have sa : ∀ w, (Op.stringOp .add ⟨#[hexd j]⟩ ⟨L.toArray⟩).run Tryd.prog w = .ok (.string ⟨(hexd j :: L).toArray⟩) w := fun w => run_string_add_lists w [hexd j] L (by simp) (by omega)
      clear hj hm hm2
      go_wp2
      go_quiet (fail)
      go_wp2
      go_roundw
      case rel => exact ⟨m / 16, hexd j :: L, HM.out, by simp; omega, by simp, rfl, by rw [HS.out]; exact HA.out, by (repeat (first | (with_reducible exact Fr.refl _ _) | (with_reducible assumption) | (with_reducible exact Fr.of_nil (by assumption)) | (with_reducible refine Fr.drew ?_) | (with_reducible refine Fr.drewN ?_ _) | (with_reducible refine Fr.alloc ?_ _) | (with_reducible refine Fr.set ?_ _ _ (by first | (intros; omega) | (simp; done) | (simp; omega))) | (with_reducible refine Fr.via ?_ (by assumption)) | (with_reducible refine Fr.comp ?_ (by assumption))))⟩
      case measure => simp [intOf]; omega
    · obtain rfl : m = 0 := by omega
      have he : L = digL 16 n := HA.out
      have HE := Lib.hid he
      clear he
      go_wp2
      go_ret
      exact ⟨ret1_str HE.out, hf⟩
set_option maxRecDepth 100000 in
theorem rdigits10 (n : Nat) (w : World) (hn : n < 18446744073709551616) :
    Calls Tryd.prog 56 #[.int .u64 n, .int .u64 10] w fun e w' => e = .returned (.string ⟨(digL 10 n).toArray⟩) ∧ Fr Nil w w' := by
  obtain ⟨k, hk⟩ : ∃ k, n % 10 = k := ⟨_, rfl⟩
  have hk16 : k < 16 := by omega
  have hki : (n : Int) % 10 = (k : Int) := by omega
  have hki2 : (k : Int) < 16 := by omega
  have hx := hex_ext k hk16
  have HS := Lib.hid (digAcc_start (b := 10) (n := n) (by omega))
  rw [hk] at HS
  clear hk
  go_enter Tryd.func56, Tryd.ntmps56
  go_wp2
  go_quiet (fail)
  go_wp2
  go_loopw [0, 6] (fun s0 s6 wr => ∃ (m : Nat) (L : List UInt8), m < 2 ^ (64 - L.length) ∧ L.length ≤ 64 ∧ s0 = .int .u64 m ∧ s6 = .string ⟨L.toArray⟩ ∧ digAcc 10 m L = digL 10 n ∧ Fr Nil w wr) (fun s0 _ _ => (intOf s0).toNat)
  case atStart => exact ⟨n / 10, [hexd k], by simp; omega, by simp, by simp, rfl, HS.out, by (repeat (first | (with_reducible exact Fr.refl _ _) | (with_reducible assumption) | (with_reducible exact Fr.of_nil (by assumption)) | (with_reducible refine Fr.drew ?_) | (with_reducible refine Fr.drewN ?_ _) | (with_reducible refine Fr.alloc ?_ _) | (with_reducible refine Fr.set ?_ _ _ (by first | (intros; omega) | (simp; done) | (simp; omega))) | (with_reducible refine Fr.via ?_ (by assumption)) | (with_reducible refine Fr.comp ?_ (by assumption))))⟩
  case round =>
    obtain ⟨m, L, hm, hL, rfl, rfl, hacc, hf⟩ := hrel
    have hm64 : m < 18446744073709551616 := Nat.lt_of_lt_of_le hm (Nat.pow_le_pow_right (by omega : 0 < 2) (by omega : 64 - L.length ≤ 64))
    have HA := Lib.hid hacc
    clear hacc hx hki hki2 hk16 HS
    by_cases hz : 0 < m
    · have hl63 : L.length ≤ 63 := by
        rcases Nat.lt_or_ge L.length 64 with q | q
        · omega
        · rw [show 64 - L.length = 0 by omega] at hm; omega
      have hm2 : m / 10 < 2 ^ (64 - (L.length + 1)) := by
        have e : 2 ^ (64 - L.length) = 2 ^ (64 - (L.length + 1)) * 2 := by rw [← Nat.pow_succ]; congr 1; omega
        rw [e] at hm
        omega
      have HM := Lib.hid hm2
      have hzi : (0 : Int) < (m : Int) := by omega
      obtain ⟨j, hj⟩ : ∃ j, m % 10 = j := ⟨_, rfl⟩
      have hj16 : j < 16 := by omega
      have hji : (m : Int) % 10 = (j : Int) := by omega
      have hji2 : (j : Int) < 16 := by omega
      have hy := hex_ext j hj16
      have HS := Lib.hid (digAcc_step (b := 10) (m := m) (by omega) hz L)
      rw [hj] at HS
      have sa : ∀ w, (Op.stringOp .add ⟨#[hexd j]⟩ ⟨L.toArray⟩).run Tryd.prog w = .ok (.string ⟨(hexd j :: L).toArray⟩) w := fun w => run_string_add_lists w [hexd j] L (by simp) (by omega)
      clear hj hm hm2
      go_wp2
      go_quiet (fail)
      go_wp2
      go_roundw
      case rel => exact ⟨m / 10, hexd j :: L, HM.out, by simp; omega, by simp, rfl, by rw [HS.out]; exact HA.out, by (repeat (first | (with_reducible exact Fr.refl _ _) | (with_reducible assumption) | (with_reducible exact Fr.of_nil (by assumption)) | (with_reducible refine Fr.drew ?_) | (with_reducible refine Fr.drewN ?_ _) | (with_reducible refine Fr.alloc ?_ _) | (with_reducible refine Fr.set ?_ _ _ (by first | (intros; omega) | (simp; done) | (simp; omega))) | (with_reducible refine Fr.via ?_ (by assumption)) | (with_reducible refine Fr.comp ?_ (by assumption))))⟩
      case measure => simp [intOf]; omega
    · obtain rfl : m = 0 := by omega
      have he : L = digL 10 n := HA.out
      have HE := Lib.hid he
      clear he
      go_wp2
      go_ret
      exact ⟨ret1_str HE.out, hf⟩
theorem digL16 (n : Nat) : digL 16 n = hexL n := by
  induction n using Nat.strongRecOn with
  | _ n ih =>
    by_cases h : n < 16
    · rw [digL_lt h, hexL_lt h]
    · rw [digL_ge (by omega) (by omega), hexL_ge (by omega), ih (n / 16) (by omega)]
theorem hexd_dec (k : Nat) (h : k < 10) : hexd k = UInt8.ofNat (48 + k) := by unfold hexd; rw [if_pos h]
theorem digL10 (n : Nat) : digL 10 n = Lib.decDigits n := by
  induction n using Nat.strongRecOn with
  | _ n ih =>
    rw [Lib.decDigits]
    by_cases h : n < 10
    · rw [digL_lt h, dif_pos h, hexd_dec n h]
    · rw [digL_ge (by omega) (by omega), dif_neg h, ih (n / 10) (by omega), hexd_dec _ (by omega)]
set_option maxRecDepth 100000 in
theorem rprint_flt (b : Nat) (w : World) (hb : b < 18446744073709551616) :
    Calls Tryd.prog 83 #[.agg #[.bool true, .int .u64 b]] w fun e w' => e = .returned (.string ⟨(printF b).toArray⟩) ∧ Fr Nil w w' := by
  have hl := hexL_len 16 b (by omega) (by simpa using hb)
  obtain ⟨H, hH⟩ : ∃ H, hexL b = H := ⟨_, rfl⟩
  have hP : printF b = [48, 102] ++ List.replicate (16 - H.length) 48 ++ H := by unfold printF; rw [hH]
  rw [hH] at hl
  obtain ⟨R, hR⟩ : ∃ R, printF b = R := ⟨_, rfl⟩
  rw [hR]
  rw [hR] at hP
  have HR := Lib.hid hP
  clear hR
  have HH := Lib.hid hH
  clear hH hP
  go_enter Tryd.func83, Tryd.ntmps83
  go_wp2_with fail
  refine (rdigits16 b _ hb).mono ?_
  rw [digL16, HH.out]
  rintro e w1 ⟨rfl, f1⟩
  go_wp2
  go_loop [3] (fun s => ∃ (j : Nat), j + H.length ≤ 16 ∧ s = .string ⟨(List.replicate j 48 ++ H).toArray⟩) (fun s => 16 - (match s with | .string b => b.size | _ => 0))
  case atStart => exact ⟨0, by omega, rfl⟩
  case round =>
    obtain ⟨j, hj, rfl⟩ := hrel
    obtain ⟨S, hS⟩ : ∃ S : List UInt8, List.replicate j 48 ++ H = S := ⟨_, rfl⟩
    have hlen : S.length = j + H.length := by rw [← hS]; simp
    rw [hS]
    have HS := Lib.hid hS
    clear hS
    have HL := Lib.hid hlen
    by_cases hlt : j + H.length < 16
    · have c1 : (S.length : Int) < 16 := by omega
      have hS1 : (S.length : Int) ≤ 8388608 := by omega
      clear hlen
      have sa : ∀ w, (Op.stringOp .add ⟨#[48]⟩ ⟨S.toArray⟩).run Tryd.prog w = .ok (.string ⟨((48 : UInt8) :: S).toArray⟩) w := fun w => run_string_add_lists w [48] S (by simp) hS1
      go_wp2
      go_round
      case rel => exact ⟨j + 1, by omega, by rw [← HS.out]; rfl⟩
      case measure => simp [ByteArray.size]; have := HL.out; omega
    · have c1 : (16 : Int) ≤ (S.length : Int) := by omega
      have hS1 : (S.length : Int) ≤ 8388608 := by omega
      clear hlen
      have sa : ∀ w, (Op.stringOp .add ⟨#[48, 102]⟩ ⟨S.toArray⟩).run Tryd.prog w = .ok (.string ⟨R.toArray⟩) w := fun w => by
        have e : R = [48, 102] ++ S := by rw [HR.out, ← HS.out, show 16 - H.length = j by omega, List.append_assoc]
        rw [e]
        exact run_string_add_lists w [48, 102] S (by simp) hS1
      go_wp2
      go_ret
      exact ⟨rfl, by (repeat (first | (with_reducible exact Fr.refl _ _) | (with_reducible assumption) | (with_reducible exact Fr.of_nil (by assumption)) | (with_reducible refine Fr.drew ?_) | (with_reducible refine Fr.drewN ?_ _) | (with_reducible refine Fr.alloc ?_ _) | (with_reducible refine Fr.set ?_ _ _ (by first | (intros; omega) | (simp; done) | (simp; omega))) | (with_reducible refine Fr.via ?_ (by assumption)) | (with_reducible refine Fr.comp ?_ (by assumption))))⟩
set_option maxRecDepth 100000 in
theorem rprint_int (x : Nat) (w : World) (hx : x < 18446744073709551616) :
    Calls Tryd.prog 83 #[.agg #[.bool false, .int .u64 x]] w fun e w' => e = .returned (.string ⟨(Lib.itoa (wrap64 (x : Int))).toArray⟩) ∧ Fr Nil w w' := by
  by_cases h : x < 9223372036854775808
  · have hi : ¬ (9223372036854775808 : Int) ≤ (x : Int) := by omega
    have hw : Lib.itoa (wrap64 (x : Int)) = Lib.decDigits x := by
      rw [show wrap64 (x : Int) = (x : Int) by unfold wrap64; omega]
      unfold Lib.itoa
      rw [if_neg (by omega)]; rfl
    rw [hw]
    clear hw
    go_enter Tryd.func83, Tryd.ntmps83
    go_wp2_with fail
    refine (rdigits10 x _ hx).mono ?_
    rw [digL10]
    rintro e w1 ⟨rfl, f1⟩
    go_wp2
    go_ret
    exact ⟨rfl, by (repeat (first | (with_reducible exact Fr.refl _ _) | (with_reducible assumption) | (with_reducible exact Fr.of_nil (by assumption)) | (with_reducible refine Fr.drew ?_) | (with_reducible refine Fr.drewN ?_ _) | (with_reducible refine Fr.alloc ?_ _) | (with_reducible refine Fr.set ?_ _ _ (by first | (intros; omega) | (simp; done) | (simp; omega))) | (with_reducible refine Fr.via ?_ (by assumption)) | (with_reducible refine Fr.comp ?_ (by assumption))))⟩
  · have hi : (9223372036854775808 : Int) ≤ (x : Int) := by omega
    obtain ⟨y, hy⟩ : ∃ y, 18446744073709551616 - x = y := ⟨_, rfl⟩
    have hyi : IntKind.u64.wrap (-(x : Int)) = (y : Int) := by rw [u64m]; omega
    have hlen := digL_len 10 20 (by omega) y (by omega) (by omega)
    rw [digL10] at hlen
    have hw : Lib.itoa (wrap64 (x : Int)) = 45 :: Lib.decDigits y := by
      rw [show wrap64 (x : Int) = -(y : Int) by unfold wrap64; omega]
      unfold Lib.itoa
      rw [if_pos (by omega), Int.natAbs_neg]; rfl
    rw [hw]
    have sa : ∀ w, (Op.stringOp .add ⟨#[45]⟩ ⟨(Lib.decDigits y).toArray⟩).run Tryd.prog w = .ok (.string ⟨((45 : UInt8) :: Lib.decDigits y).toArray⟩) w := fun w => run_string_add_lists w [45] _ (by simp) (by omega)
    clear hw
    go_enter Tryd.func83, Tryd.ntmps83
    go_wp2_with fail
    refine (rdigits10 y _ (by omega)).mono ?_
    rw [digL10]
    rintro e w1 ⟨rfl, f1⟩
    go_wp2
    go_ret
    exact ⟨rfl, by (repeat (first | (with_reducible exact Fr.refl _ _) | (with_reducible assumption) | (with_reducible exact Fr.of_nil (by assumption)) | (with_reducible refine Fr.drew ?_) | (with_reducible refine Fr.drewN ?_ _) | (with_reducible refine Fr.alloc ?_ _) | (with_reducible refine Fr.set ?_ _ _ (by first | (intros; omega) | (simp; done) | (simp; omega))) | (with_reducible refine Fr.via ?_ (by assumption)) | (with_reducible refine Fr.comp ?_ (by assumption))))⟩
end Go.Proofs.YtpjlibbdngnnnaaDoor
