/-
  The law NumBack. No conditions but the tables of Go's library, and that the library's error has a value.
-/
import Derived.Test.YtcadbidccmiflaaDoorL01h
import Derived.Test.YtcadbidccmiflaaDoorNumBack
namespace Go.Proofs.YtcadbidccmiflaaDoor
set_option linter.unusedSimpArgs false
set_option linter.unusedVariables false
open Go.RowKit

theorem printN_f (x : Nat) : printN false x = Lib.itoa (wrap64 (x : Int)) := by unfold printN; rw [if_neg (by simp)]
theorem printN_t (x : Nat) : printN true x = printF x := by unfold printN; rw [if_pos rfl]
theorem print_any (f : Bool) (x : Nat) (w : World) (hx : x < 18446744073709551616) (hT : Tabs w) :
    Calls Tryd.prog 22 #[.agg #[.bool f, .int .u64 (x : Int)]] w fun e w' => e = .returned (.string ⟨(printN f x).toArray⟩) ∧ Fr Nil w w' := by
  cases f
  · rw [printN_f]; exact print_int (x : Int) w hT
  · rw [printN_t]; exact print_flt x w hx hT
theorem printN_len (f : Bool) (x : Nat) (hx : x < 18446744073709551616) : (printN f x).length ≤ 40 := by
  cases f
  · rw [printN_f]
    obtain ⟨v, hv⟩ : ∃ v, wrap64 (x : Int) = v := ⟨_, rfl⟩
    have hb : -9223372036854775808 ≤ v ∧ v ≤ 9223372036854775807 := by rw [← hv]; unfold wrap64; omega
    rw [hv]
    clear hv
    unfold Lib.itoa
    rw [← digL10, ← digL10]
    have key : ∀ n : Nat, n < 100000000000000000000 → (digL 10 n).length ≤ 20 := fun n h => digL_len 10 20 (by omega) n (by omega) (by simpa using h)
    by_cases h : v < 0
    · rw [if_pos h, List.length_cons]
      have := key v.natAbs (by omega)
      omega
    · rw [if_neg h]
      have := key v.toNat (by omega)
      omega
  · rw [printN_t]
    have := digL_len 16 16 (by omega) x (by omega) (by simpa using hx)
    unfold printF
    rw [← digL16]
    simp
    omega
theorem back_any (f : Bool) (x : Nat) (hx : x < 18446744073709551616) : refV (printN f x) = numRes f x := by
  cases f
  · rw [printN_f]; exact back_int x hx
  · rw [printN_t]; exact back_flt x hx
theorem back_long (f : Bool) (x : Nat) (s : ByteArray) (w : World) (hT : Tabs w) (hs : 1000 < s.size) :
    Calls Tryd.prog 11 #[.agg #[.bool f, .int .u64 (x : Int)], .string s] w fun e w' => e = .returned (.bool true) ∧ Fr Nil w w' := by
  have c1 : (1000 : Int) < (s.size : Int) := by omega
  go_enter Tryd.func11, Tryd.ntmps11
  go_wp2_with fail
  refine (awake_any _ (hT.fr (by (repeat (first | (with_reducible exact Fr.refl _ _) | (with_reducible assumption) | (with_reducible exact Fr.of_nil (by assumption)) | (with_reducible refine Fr.drew ?_) | (with_reducible refine Fr.drewN ?_ _) | (with_reducible refine Fr.alloc ?_ _) | (with_reducible refine Fr.set ?_ _ _ (by first | (intros; omega) | (simp; done) | (simp; omega))) | (with_reducible refine Fr.via ?_ (by assumption)) | (with_reducible refine Fr.comp ?_ (by assumption))))))).mono ?_
  rintro e w1 ⟨rfl, f1⟩
  go_wp2
  go_ret
  exact ⟨rfl, by (repeat (first | (with_reducible exact Fr.refl _ _) | (with_reducible assumption) | (with_reducible exact Fr.of_nil (by assumption)) | (with_reducible refine Fr.drew ?_) | (with_reducible refine Fr.drewN ?_ _) | (with_reducible refine Fr.alloc ?_ _) | (with_reducible refine Fr.set ?_ _ _ (by first | (intros; omega) | (simp; done) | (simp; omega))) | (with_reducible refine Fr.via ?_ (by assumption)) | (with_reducible refine Fr.comp ?_ (by assumption))))⟩
set_option maxRecDepth 100000 in
theorem back_in (f : Bool) (x : Nat) (s : ByteArray) (w : World) (hT : Tabs w) (hE : ErrV w) (hs : s.size ≤ 1000) (hx : x < 18446744073709551616) :
    Calls Tryd.prog 11 #[.agg #[.bool f, .int .u64 (x : Int)], .string s] w fun e w' => e = .returned (.bool true) ∧ Fr Nil w w' := by
  have c1 : ¬ (1000 : Int) < (s.size : Int) := by omega
  obtain ⟨rf, rb, re, hr⟩ := refV_form s.data.toList
  have hlen := printN_len f x hx
  have hba := back_any f x hx
  unfold numRes at hba
  obtain ⟨P, hP⟩ : ∃ P : ByteArray, P = ⟨(printN f x).toArray⟩ := ⟨_, rfl⟩
  have hPl : P.data.toList = printN f x := by rw [hP]
  have hPs : P.size ≤ 1000 := by rw [hP]; simp [ByteArray.size]; omega
  rw [← hPl] at hba
  have HR := Lib.hid hr
  have HS := Lib.hid hs
  have HX := Lib.hid hx
  have HP := Lib.hid hP
  have HB := Lib.hid hba
  have HPS := Lib.hid hPs
  have HF : Hid (re = 0 → rb < 18446744073709551616 ∧ printN rf rb = s.data.toList) := Lib.hid (fun h => forth _ _ _ (by rw [hr, h]; rfl))
  clear hr hs hx hlen hP hPl hPs hba
  by_cases hre : re = 0
  · obtain ⟨g1, g2⟩ := HF.out hre
    have G1 := Lib.hid g1
    have G2 : Hid ((⟨(printN rf rb).toArray⟩ : ByteArray) = s) := Lib.hid (by rw [g2])
    have hre' : (re == 0) = true := by simpa using hre
    have HRE := Lib.hid hre
    clear g1 g2 hre HF
    go_enter Tryd.func11, Tryd.ntmps11
    go_wp2_with fail
    refine (awake_any _ (hT.fr (by (repeat (first | (with_reducible exact Fr.refl _ _) | (with_reducible assumption) | (with_reducible exact Fr.of_nil (by assumption)) | (with_reducible refine Fr.drew ?_) | (with_reducible refine Fr.drewN ?_ _) | (with_reducible refine Fr.alloc ?_ _) | (with_reducible refine Fr.set ?_ _ _ (by first | (intros; omega) | (simp; done) | (simp; omega))) | (with_reducible refine Fr.via ?_ (by assumption)) | (with_reducible refine Fr.comp ?_ (by assumption))))))).mono ?_
    rintro e w1 ⟨rfl, f1⟩
    obtain ⟨_, _, _⟩ := f1.at (w.heap.size) (by first | assumption | omega | (simp; done) | (simp; omega))
    go_wp2_with fail
    refine (print_any f x _ HX.out (hT.fr (by (repeat (first | (with_reducible exact Fr.refl _ _) | (with_reducible assumption) | (with_reducible exact Fr.of_nil (by assumption)) | (with_reducible refine Fr.drew ?_) | (with_reducible refine Fr.drewN ?_ _) | (with_reducible refine Fr.alloc ?_ _) | (with_reducible refine Fr.set ?_ _ _ (by first | (intros; omega) | (simp; done) | (simp; omega))) | (with_reducible refine Fr.via ?_ (by assumption)) | (with_reducible refine Fr.comp ?_ (by assumption))))))).mono ?_
    rw [← HP.out]
    rintro e w2 ⟨rfl, f2⟩
    obtain ⟨_, _, _⟩ := f2.at (w.heap.size) (by first | assumption | omega | (simp; done) | (simp; omega))
    go_wp2_with fail
    refine (parse_any P _ HPS.out (hE.fr (by (repeat (first | (with_reducible exact Fr.refl _ _) | (with_reducible assumption) | (with_reducible exact Fr.of_nil (by assumption)) | (with_reducible refine Fr.drew ?_) | (with_reducible refine Fr.drewN ?_ _) | (with_reducible refine Fr.alloc ?_ _) | (with_reducible refine Fr.set ?_ _ _ (by first | (intros; omega) | (simp; done) | (simp; omega))) | (with_reducible refine Fr.via ?_ (by assumption)) | (with_reducible refine Fr.comp ?_ (by assumption))))))).mono ?_
    rw [HB.out]
    rintro e w3 ⟨rfl, f3⟩
    obtain ⟨_, _, _⟩ := f3.at (w.heap.size) (by first | assumption | omega | (simp; done) | (simp; omega))
    go_wp2_with fail
    refine (parse_any s _ HS.out (hE.fr (by (repeat (first | (with_reducible exact Fr.refl _ _) | (with_reducible assumption) | (with_reducible exact Fr.of_nil (by assumption)) | (with_reducible refine Fr.drew ?_) | (with_reducible refine Fr.drewN ?_ _) | (with_reducible refine Fr.alloc ?_ _) | (with_reducible refine Fr.set ?_ _ _ (by first | (intros; omega) | (simp; done) | (simp; omega))) | (with_reducible refine Fr.via ?_ (by assumption)) | (with_reducible refine Fr.comp ?_ (by assumption))))))).mono ?_
    rw [HR.out, HRE.out]
    rintro e w4 ⟨rfl, f4⟩
    obtain ⟨_, _, _⟩ := f4.at (w.heap.size) (by first | assumption | omega | (simp; done) | (simp; omega)); obtain ⟨_, _, _⟩ := f4.at (w3.heap.size) (by first | assumption | omega | (simp; done) | (simp; omega))
    go_wp2_with fail
    refine (print_any rf rb _ G1.out (hT.fr (by (repeat (first | (with_reducible exact Fr.refl _ _) | (with_reducible assumption) | (with_reducible exact Fr.of_nil (by assumption)) | (with_reducible refine Fr.drew ?_) | (with_reducible refine Fr.drewN ?_ _) | (with_reducible refine Fr.alloc ?_ _) | (with_reducible refine Fr.set ?_ _ _ (by first | (intros; omega) | (simp; done) | (simp; omega))) | (with_reducible refine Fr.via ?_ (by assumption)) | (with_reducible refine Fr.comp ?_ (by assumption))))))).mono ?_
    rw [G2.out]
    rintro e w5 ⟨rfl, f5⟩
    obtain ⟨_, _, _⟩ := f5.at (w.heap.size) (by first | assumption | omega | (simp; done) | (simp; omega)); obtain ⟨_, _, _⟩ := f5.at (w3.heap.size) (by first | assumption | omega | (simp; done) | (simp; omega)); obtain ⟨_, _, _⟩ := f5.at (w4.heap.size) (by first | assumption | omega | (simp; done) | (simp; omega))
    go_wp2
    go_ret
    exact ⟨rfl, by (repeat (first | (with_reducible exact Fr.refl _ _) | (with_reducible assumption) | (with_reducible exact Fr.of_nil (by assumption)) | (with_reducible refine Fr.drew ?_) | (with_reducible refine Fr.drewN ?_ _) | (with_reducible refine Fr.alloc ?_ _) | (with_reducible refine Fr.set ?_ _ _ (by first | (intros; omega) | (simp; done) | (simp; omega))) | (with_reducible refine Fr.via ?_ (by assumption)) | (with_reducible refine Fr.comp ?_ (by assumption))))⟩
  · have hre' : (re == 0) = false := by simpa using hre
    have hre2 : (re != 0) = true := by simpa using hre
    clear hre HF
    go_enter Tryd.func11, Tryd.ntmps11
    go_wp2_with fail
    refine (awake_any _ (hT.fr (by (repeat (first | (with_reducible exact Fr.refl _ _) | (with_reducible assumption) | (with_reducible exact Fr.of_nil (by assumption)) | (with_reducible refine Fr.drew ?_) | (with_reducible refine Fr.drewN ?_ _) | (with_reducible refine Fr.alloc ?_ _) | (with_reducible refine Fr.set ?_ _ _ (by first | (intros; omega) | (simp; done) | (simp; omega))) | (with_reducible refine Fr.via ?_ (by assumption)) | (with_reducible refine Fr.comp ?_ (by assumption))))))).mono ?_
    rintro e w1 ⟨rfl, f1⟩
    obtain ⟨_, _, _⟩ := f1.at (w.heap.size) (by first | assumption | omega | (simp; done) | (simp; omega))
    go_wp2_with fail
    refine (print_any f x _ HX.out (hT.fr (by (repeat (first | (with_reducible exact Fr.refl _ _) | (with_reducible assumption) | (with_reducible exact Fr.of_nil (by assumption)) | (with_reducible refine Fr.drew ?_) | (with_reducible refine Fr.drewN ?_ _) | (with_reducible refine Fr.alloc ?_ _) | (with_reducible refine Fr.set ?_ _ _ (by first | (intros; omega) | (simp; done) | (simp; omega))) | (with_reducible refine Fr.via ?_ (by assumption)) | (with_reducible refine Fr.comp ?_ (by assumption))))))).mono ?_
    rw [← HP.out]
    rintro e w2 ⟨rfl, f2⟩
    obtain ⟨_, _, _⟩ := f2.at (w.heap.size) (by first | assumption | omega | (simp; done) | (simp; omega))
    go_wp2_with fail
    refine (parse_any P _ HPS.out (hE.fr (by (repeat (first | (with_reducible exact Fr.refl _ _) | (with_reducible assumption) | (with_reducible exact Fr.of_nil (by assumption)) | (with_reducible refine Fr.drew ?_) | (with_reducible refine Fr.drewN ?_ _) | (with_reducible refine Fr.alloc ?_ _) | (with_reducible refine Fr.set ?_ _ _ (by first | (intros; omega) | (simp; done) | (simp; omega))) | (with_reducible refine Fr.via ?_ (by assumption)) | (with_reducible refine Fr.comp ?_ (by assumption))))))).mono ?_
    rw [HB.out]
    rintro e w3 ⟨rfl, f3⟩
    obtain ⟨_, _, _⟩ := f3.at (w.heap.size) (by first | assumption | omega | (simp; done) | (simp; omega))
    go_wp2_with fail
    refine (parse_any s _ HS.out (hE.fr (by (repeat (first | (with_reducible exact Fr.refl _ _) | (with_reducible assumption) | (with_reducible exact Fr.of_nil (by assumption)) | (with_reducible refine Fr.drew ?_) | (with_reducible refine Fr.drewN ?_ _) | (with_reducible refine Fr.alloc ?_ _) | (with_reducible refine Fr.set ?_ _ _ (by first | (intros; omega) | (simp; done) | (simp; omega))) | (with_reducible refine Fr.via ?_ (by assumption)) | (with_reducible refine Fr.comp ?_ (by assumption))))))).mono ?_
    rw [HR.out]
    rintro e w4 ⟨rfl, f4⟩
    obtain ⟨_, _, _⟩ := f4.at (w.heap.size) (by first | assumption | omega | (simp; done) | (simp; omega)); obtain ⟨_, _, _⟩ := f4.at (w3.heap.size) (by first | assumption | omega | (simp; done) | (simp; omega))
    go_wp2
    go_ret
    exact ⟨rfl, by (repeat (first | (with_reducible exact Fr.refl _ _) | (with_reducible assumption) | (with_reducible exact Fr.of_nil (by assumption)) | (with_reducible refine Fr.drew ?_) | (with_reducible refine Fr.drewN ?_ _) | (with_reducible refine Fr.alloc ?_ _) | (with_reducible refine Fr.set ?_ _ _ (by first | (intros; omega) | (simp; done) | (simp; omega))) | (with_reducible refine Fr.via ?_ (by assumption)) | (with_reducible refine Fr.comp ?_ (by assumption))))⟩
theorem backs_any (f : Bool) (x : Nat) (s : ByteArray) (w : World) (hT : Tabs w) (hE : ErrV w) (hx : x < 18446744073709551616) :
    Calls Tryd.prog 11 #[.agg #[.bool f, .int .u64 (x : Int)], .string s] w fun e w' => e = .returned (.bool true) ∧ Fr Nil w w' := by
  by_cases hs : s.size ≤ 1000
  · exact back_in f x s w hT hE hs hx
  · exact back_long f x s w hT (by omega)
end Go.Proofs.YtcadbidccmiflaaDoor
