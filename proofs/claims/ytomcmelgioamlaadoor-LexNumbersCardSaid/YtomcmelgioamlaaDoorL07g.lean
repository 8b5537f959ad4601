/-
  Layer 7: a number alone, and between two names. Conditions: the library's variables.
-/
import Derived.Test.YtomcmelgioamlaaDoorL07
import Derived.Test.YtomcmelgioamlaaDoorLexN
namespace Go.Proofs.YtomcmelgioamlaaDoor
set_option linter.unusedSimpArgs false
set_option linter.unusedVariables false
open Go.RowKit

theorem rprint_any (f : Bool) (x : Nat) (w : World) (hx : x < 18446744073709551616) :
    Calls Tryd.prog 15 #[.agg #[.bool f, .int .u64 (x : Int)]] w fun e w' => e = .returned (.string ⟨(printN f x).toArray⟩) ∧ Fr Nil w w' := by
  cases f
  · rw [printN_f]; exact rprint_int x w hx
  · rw [printN_t]; exact rprint_flt x w hx
theorem head_byte (P : ByteArray) (h : 0 < P.size) : P.data.toList.head? = some P[0] := by
  rw [List.head?_eq_getElem?]
  exact byte_at P 0 h
set_option maxRecDepth 100000 in
set_option maxHeartbeats 4000000 in
theorem lexNumbers_any (f : Bool) (x : Nat) (w : World) (hW : LibW w) (hx : x < 18446744073709551616) : Calls Tryd.prog 7 #[.agg #[.bool f, .int .u64 (x : Int)]] w fun e w' => e = .returned (.bool true) ∧ Fr Nil w w' := by
  have HA := Lib.hid (fun w h => awake_any w h)
  have HW := Lib.hid hW
  have hpr := fun w => rprint_any f x w hx
  have hlen := printN_len f x hx
  obtain ⟨P, hP⟩ : ∃ P : ByteArray, (⟨(printN f x).toArray⟩ : ByteArray) = P := ⟨_, rfl⟩
  have hPl : P.data.toList = printN f x := by rw [← hP]
  have hPs : P.size ≤ 40 := by rw [← hP]; simp [ByteArray.size]; omega
  rw [hP] at hpr
  have hsh := (num_shape f x hx).1
  have hne : 0 < P.size := by
    have h1 := shape_again hsh 1
    rw [← size_of, hPl]
    unfold srcN at h1
    cases q : printN f x with
    | nil => rw [q] at h1; simp [oneF] at h1
    | cons c r => simp
  have hhd := head_byte P hne
  rw [hPl] at hhd
  obtain ⟨S, hS⟩ : ∃ S : ByteArray, (⟨(srcN f x).toArray⟩ : ByteArray) = S := ⟨_, rfl⟩
  have hSl : S.data.toList = srcN f x := by rw [← hS]
  have hSs : S.size ≤ 41 := by
    have := src_len f x hx
    rw [← hS]; simp [ByteArray.size]; omega
  have z2 : (⟨#[97, 32]⟩ : ByteArray).size = 2 := rfl
  have z3 : (⟨#[32, 98]⟩ : ByteArray).size = 2 := rfl
  have h1 := fun w h => lex_any S w h (by omega)
  have h2 := fun w h => lex_any (⟨#[97, 32]⟩ ++ S ++ ⟨#[32, 98]⟩) w h (by simp only [ByteArray.size_append, z2, z3]; omega)
  have e2 : (⟨#[97, 32]⟩ ++ S ++ ⟨#[32, 98]⟩ : ByteArray).data.toList = [97, 32] ++ (srcN f x ++ [32, 98]) := by
    rw [← hSl]; simp [ByteArray.data_append]
  rw [hSl, lexF_num f x hx] at h1
  rw [e2, lexF_between f x hx] at h2
  simp only at h1 h2
  have sa : ∀ w, (Op.stringOp .add ⟨#[97, 32]⟩ S).run Tryd.prog w = .ok (.string (⟨#[97, 32]⟩ ++ S)) w := fun w => run_string_add_sum w _ _ (by omega)
  have sb : ∀ w, (Op.stringOp .add (⟨#[97, 32]⟩ ++ S) ⟨#[32, 98]⟩).run Tryd.prog w = .ok (.string (⟨#[97, 32]⟩ ++ S ++ ⟨#[32, 98]⟩)) w := fun w => run_string_add_sum w _ _ (by simp only [ByteArray.size_append, z2]; omega)
  have H1 := Lib.hid h1
  have H2 := Lib.hid h2
  have HP := Lib.hid hpr
  have HS := Lib.hid hS
  have HX := Lib.hid hx
  have i0 : (0 : Int) < (P.size : Int) := by omega
  by_cases hm : (printN f x).head? = some 45
  · have hb : P[0].toNat = 45 := by
      rw [hm] at hhd
      injection hhd with hhd
      rw [← hhd]; rfl
    have hSP : ⟨#[35]⟩ ++ P = S := by
      rw [← hS, ← hP]
      apply bytes_eq
      unfold srcN
      rw [if_pos hm]
      simp [ByteArray.data_append]
    have sc : ∀ w, (Op.stringOp .add ⟨#[35]⟩ P).run Tryd.prog w = .ok (.string S) w := fun w => by
      rw [← hSP]
      exact run_string_add_sum w _ _ (by have : (⟨#[35]⟩ : ByteArray).size = 1 := rfl; omega)
    generalize (⟨#[97, 32]⟩ ++ S ++ ⟨#[32, 98]⟩ : ByteArray) = S2 at *
    generalize (⟨#[97, 32]⟩ ++ S : ByteArray) = S1 at *
    clear hpr hlen hP hPl hsh hhd hS hSl h1 h2 e2 hm hSP hW hx
    go_enter Tryd.func7, Tryd.ntmps7
    go_wp2_with fail
    refine (HA.out _ (HW.out.fr (by (repeat (first | (with_reducible exact Fr.refl _ _) | (with_reducible assumption) | (with_reducible exact Fr.of_nil (by assumption)) | (with_reducible refine Fr.drew ?_) | (with_reducible refine Fr.drewN ?_ _) | (with_reducible refine Fr.alloc ?_ _) | (with_reducible refine Fr.set ?_ _ _ (by first | (intros; omega) | (simp; done) | (simp; omega))) | (with_reducible refine Fr.via ?_ (by assumption)) | (with_reducible refine Fr.comp ?_ (by assumption))))))).mono ?_
    rintro e w1 ⟨rfl, f1⟩
    obtain ⟨_, _, _⟩ := f1.at (w.heap.size) (by first | assumption | omega | (simp; done) | (simp; omega))
    go_wp2_with fail
    refine (HP.out _).mono ?_
    rintro e w2 ⟨rfl, f2⟩
    obtain ⟨_, _, _⟩ := f2.at (w.heap.size) (by first | assumption | omega | (simp; done) | (simp; omega))
    go_wp2_with fail
    refine (H1.out _ (HW.out.fr (by (repeat (first | (with_reducible exact Fr.refl _ _) | (with_reducible assumption) | (with_reducible exact Fr.of_nil (by assumption)) | (with_reducible refine Fr.drew ?_) | (with_reducible refine Fr.drewN ?_ _) | (with_reducible refine Fr.alloc ?_ _) | (with_reducible refine Fr.set ?_ _ _ (by first | (intros; omega) | (simp; done) | (simp; omega))) | (with_reducible refine Fr.via ?_ (by assumption)) | (with_reducible refine Fr.comp ?_ (by assumption))))))).mono ?_
    rintro e w3 ⟨v1, rfl, hv1, f3⟩
    obtain ⟨_, _, _⟩ := f3.at (w.heap.size) (by first | assumption | omega | (simp; done) | (simp; omega))
    obtain ⟨g1, d1, rfl⟩ := toks_form hv1 (by simp)
    simp only [List.length_cons, List.length_nil]
    have HV1 := Lib.hid hv1
    clear hv1
    go_wp2_with fail
    refine (H2.out _ (HW.out.fr (by (repeat (first | (with_reducible exact Fr.refl _ _) | (with_reducible assumption) | (with_reducible exact Fr.of_nil (by assumption)) | (with_reducible refine Fr.drew ?_) | (with_reducible refine Fr.drewN ?_ _) | (with_reducible refine Fr.alloc ?_ _) | (with_reducible refine Fr.set ?_ _ _ (by first | (intros; omega) | (simp; done) | (simp; omega))) | (with_reducible refine Fr.via ?_ (by assumption)) | (with_reducible refine Fr.comp ?_ (by assumption))))))).mono ?_
    rintro e w4 ⟨v2, rfl, hv2, f4⟩
    obtain ⟨_, _, _⟩ := f4.at (w.heap.size) (by first | assumption | omega | (simp; done) | (simp; omega))
    have hv1 := HV1.out.fr f4
    obtain ⟨g2, d2, rfl⟩ := toks_form hv2 (by simp)
    have c0 := tok_cell hv1 rfl 0 (by simp) 0 (by omega)
    have c1 := tok_cell hv1 rfl 0 (by simp) 1 (by omega)
    have c2 := tok_cell hv1 rfl 0 (by simp) 2 (by omega)
    have c3 := tok_cell hv1 rfl 0 (by simp) 3 (by omega)
    have k2 := tok_cell hv2 rfl 1 (by simp) 2 (by omega)
    have k3 := tok_cell hv2 rfl 1 (by simp) 3 (by omega)
    simp [tokCells, HS.out] at c0 c1 c2 c3 k2 k3
    clear hv1 hv2 H1 H2 HP HA sa sb sc
    simp only [List.length_cons, List.length_nil]
    go_wp2_with fail
    go_quiet (fail)
    go_wp2
    go_ret
    exact ⟨rfl, by (repeat (first | (with_reducible exact Fr.refl _ _) | (with_reducible assumption) | (with_reducible exact Fr.of_nil (by assumption)) | (with_reducible refine Fr.drew ?_) | (with_reducible refine Fr.drewN ?_ _) | (with_reducible refine Fr.alloc ?_ _) | (with_reducible refine Fr.set ?_ _ _ (by first | (intros; omega) | (simp; done) | (simp; omega))) | (with_reducible refine Fr.via ?_ (by assumption)) | (with_reducible refine Fr.comp ?_ (by assumption))))⟩
  · have hb : ¬ P[0].toNat = 45 := by
      intro q
      refine hm ?_
      rw [hhd]
      congr 1
      exact UInt8.toNat_inj.1 q
    have hSP : P = S := by
      rw [← hS, ← hP]
      unfold srcN
      rw [if_neg hm]
    subst hSP
    generalize (⟨#[97, 32]⟩ ++ P ++ ⟨#[32, 98]⟩ : ByteArray) = S2 at *
    generalize (⟨#[97, 32]⟩ ++ P : ByteArray) = S1 at *
    clear hpr hlen hP hPl hsh hhd hS hSl h1 h2 e2 hm hW hx
    go_enter Tryd.func7, Tryd.ntmps7
    go_wp2_with fail
    refine (HA.out _ (HW.out.fr (by (repeat (first | (with_reducible exact Fr.refl _ _) | (with_reducible assumption) | (with_reducible exact Fr.of_nil (by assumption)) | (with_reducible refine Fr.drew ?_) | (with_reducible refine Fr.drewN ?_ _) | (with_reducible refine Fr.alloc ?_ _) | (with_reducible refine Fr.set ?_ _ _ (by first | (intros; omega) | (simp; done) | (simp; omega))) | (with_reducible refine Fr.via ?_ (by assumption)) | (with_reducible refine Fr.comp ?_ (by assumption))))))).mono ?_
    rintro e w1 ⟨rfl, f1⟩
    obtain ⟨_, _, _⟩ := f1.at (w.heap.size) (by first | assumption | omega | (simp; done) | (simp; omega))
    go_wp2_with fail
    refine (HP.out _).mono ?_
    rintro e w2 ⟨rfl, f2⟩
    obtain ⟨_, _, _⟩ := f2.at (w.heap.size) (by first | assumption | omega | (simp; done) | (simp; omega))
    go_wp2_with fail
    refine (H1.out _ (HW.out.fr (by (repeat (first | (with_reducible exact Fr.refl _ _) | (with_reducible assumption) | (with_reducible exact Fr.of_nil (by assumption)) | (with_reducible refine Fr.drew ?_) | (with_reducible refine Fr.drewN ?_ _) | (with_reducible refine Fr.alloc ?_ _) | (with_reducible refine Fr.set ?_ _ _ (by first | (intros; omega) | (simp; done) | (simp; omega))) | (with_reducible refine Fr.via ?_ (by assumption)) | (with_reducible refine Fr.comp ?_ (by assumption))))))).mono ?_
    rintro e w3 ⟨v1, rfl, hv1, f3⟩
    obtain ⟨_, _, _⟩ := f3.at (w.heap.size) (by first | assumption | omega | (simp; done) | (simp; omega))
    obtain ⟨g1, d1, rfl⟩ := toks_form hv1 (by simp)
    simp only [List.length_cons, List.length_nil]
    have HV1 := Lib.hid hv1
    clear hv1
    go_wp2_with fail
    refine (H2.out _ (HW.out.fr (by (repeat (first | (with_reducible exact Fr.refl _ _) | (with_reducible assumption) | (with_reducible exact Fr.of_nil (by assumption)) | (with_reducible refine Fr.drew ?_) | (with_reducible refine Fr.drewN ?_ _) | (with_reducible refine Fr.alloc ?_ _) | (with_reducible refine Fr.set ?_ _ _ (by first | (intros; omega) | (simp; done) | (simp; omega))) | (with_reducible refine Fr.via ?_ (by assumption)) | (with_reducible refine Fr.comp ?_ (by assumption))))))).mono ?_
    rintro e w4 ⟨v2, rfl, hv2, f4⟩
    obtain ⟨_, _, _⟩ := f4.at (w.heap.size) (by first | assumption | omega | (simp; done) | (simp; omega))
    have hv1 := HV1.out.fr f4
    obtain ⟨g2, d2, rfl⟩ := toks_form hv2 (by simp)
    have c0 := tok_cell hv1 rfl 0 (by simp) 0 (by omega)
    have c1 := tok_cell hv1 rfl 0 (by simp) 1 (by omega)
    have c2 := tok_cell hv1 rfl 0 (by simp) 2 (by omega)
    have c3 := tok_cell hv1 rfl 0 (by simp) 3 (by omega)
    have k2 := tok_cell hv2 rfl 1 (by simp) 2 (by omega)
    have k3 := tok_cell hv2 rfl 1 (by simp) 3 (by omega)
    simp [tokCells, HS.out] at c0 c1 c2 c3 k2 k3
    clear hv1 hv2 H1 H2 HP HA sa sb
    simp only [List.length_cons, List.length_nil]
    go_wp2_with fail
    go_quiet (fail)
    go_wp2
    go_ret
    exact ⟨rfl, by (repeat (first | (with_reducible exact Fr.refl _ _) | (with_reducible assumption) | (with_reducible exact Fr.of_nil (by assumption)) | (with_reducible refine Fr.drew ?_) | (with_reducible refine Fr.drewN ?_ _) | (with_reducible refine Fr.alloc ?_ _) | (with_reducible refine Fr.set ?_ _ _ (by first | (intros; omega) | (simp; done) | (simp; omega))) | (with_reducible refine Fr.via ?_ (by assumption)) | (with_reducible refine Fr.comp ?_ (by assumption))))⟩
end Go.Proofs.YtomcmelgioamlaaDoor
