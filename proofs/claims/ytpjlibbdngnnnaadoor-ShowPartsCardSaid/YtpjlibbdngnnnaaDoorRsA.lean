/-
  The document's show (layer 9): numbers, words, atoms. No conditions.
  The document's show (layer 9): words, atoms, kids. No conditions.
  The document's show (layer 9): kids, binds, alternatives, given the texts of what lies within. No conditions.
  The document's show (layer 9): binds, given the texts of what lies within. No conditions.
-/
import Derived.Test.YtpjlibbdngnnnaaDoorSwA
import Derived.Test.YtpjlibbdngnnnaaDoorSpC
import Derived.Test.YtpjlibbdngnnnaaDoorRef01p
import Derived.BigQuiet
import Derived.Deep.QuietTactic
import Derived.Deep.RegionHeld3
namespace Go.Proofs.YtpjlibbdngnnnaaDoor
set_option linter.unusedSimpArgs false
set_option linter.unusedVariables false
open Go.RowKit

/-- A number's text as layer 1 prints it. -/
def prF (f : Bool) (b : Nat) : List UInt8 := if f = true then printF (b % 18446744073709551616) else Lib.itoa (wrap64 (b : Int))
theorem dec_head : ∀ n : Nat, ∀ c ∈ Lib.decDigits n, 48 ≤ c.toNat := fun n => by
  induction n using Nat.strongRecOn with
  | _ n ih =>
    intro c hc
    rw [Lib.decDigits] at hc
    have hd : ∀ k : Nat, k < 10 → 48 ≤ (UInt8.ofNat (48 + k)).toNat := by decide
    split at hc
    · rename_i h
      rw [List.mem_singleton] at hc
      rw [hc]
      exact hd n h
    · rename_i h
      rcases List.mem_append.1 hc with q | q
      · exact ih (n / 10) (by omega) c q
      · rw [List.mem_singleton] at q
        rw [q]
        exact hd (n % 10) (by omega)
theorem prF_int (b : Nat) : prF false b = Lib.itoa (wrap64 (b : Int)) := if_neg (by decide)
theorem prF_flt {b : Nat} (hb : b < 18446744073709551616) : prF true b = printF b := by
  unfold prF
  rw [if_pos rfl, Nat.mod_eq_of_lt hb]
theorem numT_flt {b : Nat} (hb : b < 18446744073709551616) : numT (prF true b) = printF b := by
  rw [prF_flt hb]
  unfold numT printF
  exact if_neg (by simp)
theorem numT_low {b : Nat} (h : b < 9223372036854775808) : numT (prF false b) = Lib.itoa (wrap64 (b : Int)) := by
  rw [prF_int]
  have e : Lib.itoa (wrap64 (b : Int)) = Lib.decDigits b := by
    rw [show wrap64 (b : Int) = (b : Int) by unfold wrap64; omega]
    unfold Lib.itoa
    rw [if_neg (by omega)]
    rfl
  rw [e]
  unfold numT
  refine if_neg (fun hq => ?_)
  have hm : (45 : UInt8) ∈ Lib.decDigits b := List.mem_of_mem_head? hq
  have := dec_head _ _ hm
  exact absurd this (by decide)
theorem itoa_high {b : Nat} (h : 9223372036854775808 ≤ b) (hb : b < 18446744073709551616) : Lib.itoa (wrap64 (b : Int)) = 45 :: Lib.decDigits (18446744073709551616 - b) := by
  obtain ⟨y, hy⟩ : ∃ y, 18446744073709551616 - b = y := ⟨_, rfl⟩
  rw [hy, show wrap64 (b : Int) = -(y : Int) by unfold wrap64; omega]
  unfold Lib.itoa
  rw [if_pos (by omega), Int.natAbs_neg]
  rfl
theorem numT_high {b : Nat} (h : 9223372036854775808 ≤ b) (hb : b < 18446744073709551616) : numT (prF false b) = 35 :: Lib.itoa (wrap64 (b : Int)) := by
  rw [prF_int, itoa_high h hb]
  exact if_pos rfl
theorem prF_len1 (f : Bool) (b : Nat) (hb : b < 18446744073709551616) : (prF f b).length ≤ 22 := by
  have h1 : ∀ y : Nat, y < 18446744073709551616 → (Lib.decDigits y).length ≤ 20 := fun y hy => by
    have h := digL_len 10 20 (by omega) y (by omega) (by omega)
    rw [digL10] at h
    exact h
  cases f with
  | true =>
    have h := hexL_len 16 b (by omega) (by simpa using hb)
    rw [prF_flt hb]
    unfold printF
    simp
    omega
  | false =>
    rw [prF_int]
    by_cases h : b < 9223372036854775808
    · have e : Lib.itoa (wrap64 (b : Int)) = Lib.decDigits b := by
        rw [show wrap64 (b : Int) = (b : Int) by unfold wrap64; omega]
        unfold Lib.itoa
        rw [if_neg (by omega)]
        rfl
      have := h1 b hb
      rw [e]
      omega
    · have := h1 (18446744073709551616 - b) (by omega)
      rw [itoa_high (by omega) hb, List.length_cons]
      omega
theorem prF_len (f : Bool) (b : Nat) : (prF f b).length ≤ 22 := by
  have e : prF f b = prF f (b % 18446744073709551616) := by
    unfold prF
    rw [Nat.mod_mod, show wrap64 ((b % 18446744073709551616 : Nat) : Int) = wrap64 (b : Int) by unfold wrap64; omega]
  rw [e]
  exact prF_len1 f _ (Nat.mod_lt _ (by decide))
set_option maxRecDepth 100000 in
theorem rsnum_any (f : Bool) (b : Nat) (hb : b < 18446744073709551616) (w : World) :
    Calls Tryd.prog 46 #[.agg #[.bool f, .int .u64 (b : Int)]] w fun r w' => r = .returned (.string ⟨(numT (prF f b)).toArray⟩) ∧ Fr Nil w w' := by
  have hlen := prF_len f b
  cases f with
  | true =>
    have HN := Lib.hid (numT_flt hb)
    go_enter Tryd.func46, Tryd.ntmps46
    go_wp2_with fail
    refine (rprint_flt b _ hb).mono ?_
    rintro e w1 ⟨rfl, f1⟩
    obtain ⟨_, _, _⟩ := f1.at (w.heap.size) (by first | assumption | omega | (simp; done) | (simp; omega))
    go_wp2
    go_ret
    exact ⟨by rw [HN.out]; rfl, by (repeat (first | (with_reducible exact Fr.refl _ _) | (with_reducible assumption) | (with_reducible exact Fr.of_nil (by assumption)) | (with_reducible refine Fr.drew ?_) | (with_reducible refine Fr.drewN ?_ _) | (with_reducible refine Fr.alloc ?_ _) | (with_reducible refine Fr.set ?_ _ _ (by first | (intros; omega) | (simp; done) | (simp; omega))) | (with_reducible refine Fr.via ?_ (by assumption)) | (with_reducible refine Fr.comp ?_ (by assumption))))⟩
  | false =>
    obtain ⟨P, hP⟩ : ∃ P, Lib.itoa (wrap64 (b : Int)) = P := ⟨_, rfl⟩
    have hPl : P.length ≤ 22 := by
      have e : prF false b = P := by rw [prF_int]; exact hP
      rw [e] at hlen
      exact hlen
    by_cases h : b < 9223372036854775808
    · have hi0 : ¬ (9223372036854775808 : Int) ≤ (b : Int) := by omega
      have hi : decide ((9223372036854775808 : Int) ≤ (b : Int)) = false := decide_eq_false hi0
      clear hi0
      have HN := Lib.hid (And.intro (numT_low h) hP)
      have HH := Lib.hid hb
      clear hP h hb hlen
      go_enter Tryd.func46, Tryd.ntmps46
      go_wp2_with fail
      refine (rprint_int b _ HH.out).mono ?_
      rintro e w1 ⟨rfl, f1⟩
      rw [HN.out.2]
      obtain ⟨_, _, _⟩ := f1.at (w.heap.size) (by first | assumption | omega | (simp; done) | (simp; omega))
      go_wp2
      go_ret
      exact ⟨by rw [HN.out.1, HN.out.2]; rfl, by (repeat (first | (with_reducible exact Fr.refl _ _) | (with_reducible assumption) | (with_reducible exact Fr.of_nil (by assumption)) | (with_reducible refine Fr.drew ?_) | (with_reducible refine Fr.drewN ?_ _) | (with_reducible refine Fr.alloc ?_ _) | (with_reducible refine Fr.set ?_ _ _ (by first | (intros; omega) | (simp; done) | (simp; omega))) | (with_reducible refine Fr.via ?_ (by assumption)) | (with_reducible refine Fr.comp ?_ (by assumption))))⟩
    · have hi : (9223372036854775808 : Int) ≤ (b : Int) := by omega
      have HN := Lib.hid (And.intro (numT_high (by omega) hb) hP)
      clear hP
      have sa : ∀ w, (Op.stringOp .add ⟨#[35]⟩ ⟨P.toArray⟩).run Tryd.prog w = .ok (.string ⟨((35 : UInt8) :: P).toArray⟩) w := fun w => run_string_add_lists w [35] P (by simp) (by omega)
      go_enter Tryd.func46, Tryd.ntmps46
      go_wp2_with fail
      refine (rprint_int b _ hb).mono ?_
      rintro e w1 ⟨rfl, f1⟩
      rw [HN.out.2]
      obtain ⟨_, _, _⟩ := f1.at (w.heap.size) (by first | assumption | omega | (simp; done) | (simp; omega))
      go_wp2
      go_ret
      exact ⟨by rw [HN.out.1, HN.out.2]; rfl, by (repeat (first | (with_reducible exact Fr.refl _ _) | (with_reducible assumption) | (with_reducible exact Fr.of_nil (by assumption)) | (with_reducible refine Fr.drew ?_) | (with_reducible refine Fr.drewN ?_ _) | (with_reducible refine Fr.alloc ?_ _) | (with_reducible refine Fr.set ?_ _ _ (by first | (intros; omega) | (simp; done) | (simp; omega))) | (with_reducible refine Fr.via ?_ (by assumption)) | (with_reducible refine Fr.comp ?_ (by assumption))))⟩
end Go.Proofs.YtpjlibbdngnnnaaDoor

namespace Go.Proofs.YtpjlibbdngnnnaaDoor
set_option linter.unusedSimpArgs false
set_option linter.unusedVariables false
open Go.RowKit

theorem sadd (x y : List UInt8) (h : x.length + y.length ≤ 1000000000000) (w : World) : (Op.stringOp .add ⟨x.toArray⟩ ⟨y.toArray⟩).run Tryd.prog w = .ok (.string ⟨(x ++ y).toArray⟩) w := by
  rw [run_string_add_sum w _ _ (by simp [ByteArray.size]; omega), ByteArray.mk_append_mk]
theorem words_len (l : List (List UInt8)) : (wordsF l).length ≤ lenS l := by
  induction l with
  | nil => exact Nat.le_refl _
  | cons x l ih => rw [words_cons, lenS_cons]; simp; omega
theorem lenS_take (l : List (List UInt8)) (j : Nat) : lenS (l.take j) ≤ lenS l := by
  conv => rhs; rw [← List.take_append_drop j l, lenS_app]
  omega
theorem words_take {l : List (List UInt8)} {j : Nat} (h : j < l.length) : wordsF (l.take (j + 1)) = wordsF (l.take j) ++ [32] ++ l[j] := by
  rw [List.take_succ_eq_append_getElem h, words_app, words_cons, words_nil]
  simp
theorem lenS_at {l : List (List UInt8)} {j : Nat} (h : j < l.length) : lenS (l.take j) + l[j].length + 2 ≤ lenS l := by
  have h1 := lenS_take l (j + 1)
  rw [List.take_succ_eq_append_getElem h, lenS_app, lenS_cons, lenS_nil] at h1
  omega
set_option maxRecDepth 100000 in
theorem rwords_any {w : World} {a : Option Addr} {n c : Nat} {l : List (List UInt8)} (hr : RowS (fun _ => False) w (.slice a n c) l) (hn : l.length = n) (hl : lenS l ≤ 100000000000) :
    Calls Tryd.prog 49 #[.slice a n c] w fun r w' => r = .returned (.string ⟨(wordsF l).toArray⟩) ∧ Fr Nil w w' := by
  have hn9 : n ≤ 9223372036854775807 := by rw [← hn]; exact RowC.lenX hr
  have HR := Lib.hid (And.intro hr (And.intro hn hl))
  clear hr hn hl
  go_enter Tryd.func49, Tryd.ntmps49
  go_wp2_with fail
  go_loopg [3, 4] n (fun g sv iv wr => ∃ j : Nat, g = n - j ∧ j ≤ n ∧ sv = .string ⟨(wordsF (l.take j)).toArray⟩ ∧ iv = .int .i64 (j : Int) ∧ Hid (Fr Nil w wr))
  case atStart => exact ⟨0, rfl, by omega, by rw [List.take_zero]; rfl, rfl, Lib.hid (Fr.refl _ _)⟩
  case round =>
    obtain ⟨j, rfl, hjn, rfl, rfl, HQ⟩ := hrel
    have j0 : (0 : Int) ≤ (j : Int) := by omega
    by_cases hlt : j < n
    · have hjl : j < l.length := by rw [HR.out.2.1]; exact hlt
      have wk : IntKind.i64.wrap ((j : Int) + 1) = (j : Int) + 1 := by rw [IntKind.wrap_i64]; omega
      have j1 : (j : Int) < (n : Int) := by omega
      obtain ⟨b, off, rfl, _, hc⟩ := (RowS.frN HR.out.1 HQ.out).cell j hjl
      have hw := words_take hjl
      have h1 := lenS_at hjl
      have h2 := words_len (l.take j)
      have h3 := HR.out.2.2
      obtain ⟨x, hx⟩ : ∃ x, l[j] = x := ⟨_, rfl⟩
      rw [hx] at hc hw h1
      obtain ⟨S, hS⟩ : ∃ S, wordsF (l.take j) = S := ⟨_, rfl⟩
      rw [hS] at hw h2
      obtain ⟨S1, hS1⟩ : ∃ S1, S ++ [32] = S1 := ⟨_, rfl⟩
      rw [hS1] at hw
      have l1 : S1.length = S.length + 1 := by rw [← hS1]; simp
      have sa1 : ∀ w, (Op.stringOp .add ⟨S.toArray⟩ ⟨#[32]⟩).run Tryd.prog w = .ok (.string ⟨S1.toArray⟩) w := fun w => by rw [← hS1]; exact sadd S [32] (by simp; omega) w
      obtain ⟨S2, hS2⟩ : ∃ S2, wordsF (l.take (j + 1)) = S2 := ⟨_, rfl⟩
      rw [hS2] at hw
      have sa2 : ∀ w, (Op.stringOp .add ⟨S1.toArray⟩ ⟨x.toArray⟩).run Tryd.prog w = .ok (.string ⟨S2.toArray⟩) w := fun w => by rw [hw]; exact sadd S1 x (by omega) w
      rw [hS]
      have HS := Lib.hid hS2
      clear hw h1 h2 h3 hx hS hS1 l1 hS2
      go_wp2
      go_roundg (n - (j + 1))
      case rel => exact ⟨j + 1, rfl, by omega, by rw [HS.out], rfl, Lib.hid HQ.out⟩
      case measure => omega
    · have j1 : ¬ (j : Int) < (n : Int) := by omega
      have e : l.take j = l := List.take_of_length_le (by rw [HR.out.2.1]; omega)
      rw [e]
      clear e
      go_wp2
      go_ret
      exact ⟨rfl, HQ.out⟩
set_option maxRecDepth 100000 in
/-- An expression's text as an atom, given its text. -/
theorem ratom_any {w : World} {cs : List Value} {e : TE} {t : List UInt8} (h : EAt (fun _ => False) w cs e) (hl : t.length ≤ 100000000000)
    (hE : ∀ w', Fr Nil w w' → Calls Tryd.prog 18 #[.agg cs.toArray] w' fun r w2 => r = .returned (.string ⟨t.toArray⟩) ∧ Fr Nil w' w2) :
    Calls Tryd.prog 48 #[.agg cs.toArray] w fun r w' => r = .returned (.string ⟨(atomF e t).toArray⟩) ∧ Fr Nil w w' := by
  obtain ⟨k, nm, fl, bi, ps, ks, bs, al⟩ := e
  obtain ⟨a0, c0, a1, c1, a2, c2, a3, c3, kc, bc, ac, rfl, _, hk, _, _, _, _, _⟩ := h.opened
  obtain ⟨nk, hnk⟩ : ∃ nk, ks.length = nk := ⟨_, rfl⟩
  obtain ⟨nb, hnb⟩ : ∃ nb, bs.length = nb := ⟨_, rfl⟩
  obtain ⟨na, hna⟩ : ∃ na, al.length = na := ⟨_, rfl⟩
  obtain ⟨np, hnp⟩ : ∃ np, ps.length = np := ⟨_, rfl⟩
  have hk9 : nk ≤ 9223372036854775807 := by rw [← hnk]; exact hk.lenX
  rw [hnk, hnb, hna, hnp] at hE
  rw [hnk, hnb, hna, hnp]
  have HE := Lib.hid hE
  have he : ks.isEmpty = decide (nk = 0) := by
    cases ks with
    | nil => rw [← hnk]; rfl
    | cons x l => rw [← hnk]; simp
  clear hE hnb hna hnp h hk
  have sa1 : ∀ w, (Op.stringOp .add ⟨#[40]⟩ ⟨t.toArray⟩).run Tryd.prog w = .ok (.string ⟨((40 : UInt8) :: t).toArray⟩) w := fun w => sadd [40] t (by simp; omega) w
  obtain ⟨S1, hS1⟩ : ∃ S1, (40 : UInt8) :: t = S1 := ⟨_, rfl⟩
  rw [hS1] at sa1
  have l1 : S1.length = t.length + 1 := by rw [← hS1]; simp
  obtain ⟨S2, hS2⟩ : ∃ S2, parF t = S2 := ⟨_, rfl⟩
  have sa2 : ∀ w, (Op.stringOp .add ⟨S1.toArray⟩ ⟨#[41]⟩).run Tryd.prog w = .ok (.string ⟨S2.toArray⟩) w := fun w => by
    have e : S2 = S1 ++ [41] := by rw [← hS2, ← hS1]; rfl
    rw [e]
    exact sadd S1 [41] (by simp; omega) w
  have HA : Hid (atomF (.mk k nm fl bi ps ks bs al) t = if decide (k = 1) || decide (k = 3) || (decide (nk = 0) && (decide (k = 2) || decide (k = 5))) then t else S2) := Lib.hid (by
    show (if (decide (k = 1) || decide (k = 3) || (ks.isEmpty && (decide (k = 2) || decide (k = 5)))) = true then t else parF t) = _
    rw [he, hS2])
  clear hS1 l1 hS2 he hl
  have n0 : (0 : Int) ≤ (nk : Int) := by omega
  obtain ⟨k', hk'⟩ : ∃ k' : Int, (k : Int) = k' := ⟨_, rfl⟩
  clear hk'
  by_cases k1 : k = 1
  · subst k1
    go_enter Tryd.func48, Tryd.ntmps48
    go_wp2_with fail
    refine (HE.out _ (by (repeat (first | (with_reducible exact Fr.refl _ _) | (with_reducible assumption) | (with_reducible exact Fr.of_nil (by assumption)) | (with_reducible refine Fr.drew ?_) | (with_reducible refine Fr.drewN ?_ _) | (with_reducible refine Fr.alloc ?_ _) | (with_reducible refine Fr.set ?_ _ _ (by first | (intros; omega) | (simp; done) | (simp; omega))) | (with_reducible refine Fr.via ?_ (by assumption)) | (with_reducible refine Fr.comp ?_ (by assumption)))))).mono ?_
    rintro e w2 ⟨rfl, f2⟩
    have HF : Hid (Fr Nil w w2) := Lib.hid (Fr.comp (S := Nil) (by (repeat (first | (with_reducible exact Fr.refl _ _) | (with_reducible assumption) | (with_reducible exact Fr.of_nil (by assumption)) | (with_reducible refine Fr.drew ?_) | (with_reducible refine Fr.drewN ?_ _) | (with_reducible refine Fr.alloc ?_ _) | (with_reducible refine Fr.set ?_ _ _ (by first | (intros; omega) | (simp; done) | (simp; omega))) | (with_reducible refine Fr.via ?_ (by assumption)) | (with_reducible refine Fr.comp ?_ (by assumption))))) f2)
    clear f2
    go_wp2
    go_ret
    exact ⟨by rw [HA.out]; rfl, HF.out⟩
  by_cases k3 : k = 3
  · subst k3
    go_enter Tryd.func48, Tryd.ntmps48
    go_wp2_with fail
    refine (HE.out _ (by (repeat (first | (with_reducible exact Fr.refl _ _) | (with_reducible assumption) | (with_reducible exact Fr.of_nil (by assumption)) | (with_reducible refine Fr.drew ?_) | (with_reducible refine Fr.drewN ?_ _) | (with_reducible refine Fr.alloc ?_ _) | (with_reducible refine Fr.set ?_ _ _ (by first | (intros; omega) | (simp; done) | (simp; omega))) | (with_reducible refine Fr.via ?_ (by assumption)) | (with_reducible refine Fr.comp ?_ (by assumption)))))).mono ?_
    rintro e w2 ⟨rfl, f2⟩
    have HF : Hid (Fr Nil w w2) := Lib.hid (Fr.comp (S := Nil) (by (repeat (first | (with_reducible exact Fr.refl _ _) | (with_reducible assumption) | (with_reducible exact Fr.of_nil (by assumption)) | (with_reducible refine Fr.drew ?_) | (with_reducible refine Fr.drewN ?_ _) | (with_reducible refine Fr.alloc ?_ _) | (with_reducible refine Fr.set ?_ _ _ (by first | (intros; omega) | (simp; done) | (simp; omega))) | (with_reducible refine Fr.via ?_ (by assumption)) | (with_reducible refine Fr.comp ?_ (by assumption))))) f2)
    clear f2
    go_wp2
    go_ret
    exact ⟨by rw [HA.out]; rfl, HF.out⟩
  by_cases k2 : k = 2
  · subst k2
    by_cases z : nk = 0
    · subst z
      go_enter Tryd.func48, Tryd.ntmps48
      go_wp2_with fail
      refine (HE.out _ (by (repeat (first | (with_reducible exact Fr.refl _ _) | (with_reducible assumption) | (with_reducible exact Fr.of_nil (by assumption)) | (with_reducible refine Fr.drew ?_) | (with_reducible refine Fr.drewN ?_ _) | (with_reducible refine Fr.alloc ?_ _) | (with_reducible refine Fr.set ?_ _ _ (by first | (intros; omega) | (simp; done) | (simp; omega))) | (with_reducible refine Fr.via ?_ (by assumption)) | (with_reducible refine Fr.comp ?_ (by assumption)))))).mono ?_
      rintro e w2 ⟨rfl, f2⟩
      have HF : Hid (Fr Nil w w2) := Lib.hid (Fr.comp (S := Nil) (by (repeat (first | (with_reducible exact Fr.refl _ _) | (with_reducible assumption) | (with_reducible exact Fr.of_nil (by assumption)) | (with_reducible refine Fr.drew ?_) | (with_reducible refine Fr.drewN ?_ _) | (with_reducible refine Fr.alloc ?_ _) | (with_reducible refine Fr.set ?_ _ _ (by first | (intros; omega) | (simp; done) | (simp; omega))) | (with_reducible refine Fr.via ?_ (by assumption)) | (with_reducible refine Fr.comp ?_ (by assumption))))) f2)
      clear f2
      go_wp2
      go_ret
      exact ⟨by rw [HA.out]; rfl, HF.out⟩
    · have d0 : ((nk : Int) == 0) = false := by rw [beq_eq_false_iff_ne]; omega
      have z0 : ¬ (nk : Int) = 0 := by omega
      go_enter Tryd.func48, Tryd.ntmps48
      go_wp2_with fail
      refine (HE.out _ (by (repeat (first | (with_reducible exact Fr.refl _ _) | (with_reducible assumption) | (with_reducible exact Fr.of_nil (by assumption)) | (with_reducible refine Fr.drew ?_) | (with_reducible refine Fr.drewN ?_ _) | (with_reducible refine Fr.alloc ?_ _) | (with_reducible refine Fr.set ?_ _ _ (by first | (intros; omega) | (simp; done) | (simp; omega))) | (with_reducible refine Fr.via ?_ (by assumption)) | (with_reducible refine Fr.comp ?_ (by assumption)))))).mono ?_
      rintro e w2 ⟨rfl, f2⟩
      have HF : Hid (Fr Nil w w2) := Lib.hid (Fr.comp (S := Nil) (by (repeat (first | (with_reducible exact Fr.refl _ _) | (with_reducible assumption) | (with_reducible exact Fr.of_nil (by assumption)) | (with_reducible refine Fr.drew ?_) | (with_reducible refine Fr.drewN ?_ _) | (with_reducible refine Fr.alloc ?_ _) | (with_reducible refine Fr.set ?_ _ _ (by first | (intros; omega) | (simp; done) | (simp; omega))) | (with_reducible refine Fr.via ?_ (by assumption)) | (with_reducible refine Fr.comp ?_ (by assumption))))) f2)
      clear f2
      go_wp2
      go_ret
      exact ⟨by rw [HA.out]; rw [show decide (nk = 0) = false from decide_eq_false z]; rfl, HF.out⟩
  by_cases k5 : k = 5
  · subst k5
    by_cases z : nk = 0
    · subst z
      go_enter Tryd.func48, Tryd.ntmps48
      go_wp2_with fail
      refine (HE.out _ (by (repeat (first | (with_reducible exact Fr.refl _ _) | (with_reducible assumption) | (with_reducible exact Fr.of_nil (by assumption)) | (with_reducible refine Fr.drew ?_) | (with_reducible refine Fr.drewN ?_ _) | (with_reducible refine Fr.alloc ?_ _) | (with_reducible refine Fr.set ?_ _ _ (by first | (intros; omega) | (simp; done) | (simp; omega))) | (with_reducible refine Fr.via ?_ (by assumption)) | (with_reducible refine Fr.comp ?_ (by assumption)))))).mono ?_
      rintro e w2 ⟨rfl, f2⟩
      have HF : Hid (Fr Nil w w2) := Lib.hid (Fr.comp (S := Nil) (by (repeat (first | (with_reducible exact Fr.refl _ _) | (with_reducible assumption) | (with_reducible exact Fr.of_nil (by assumption)) | (with_reducible refine Fr.drew ?_) | (with_reducible refine Fr.drewN ?_ _) | (with_reducible refine Fr.alloc ?_ _) | (with_reducible refine Fr.set ?_ _ _ (by first | (intros; omega) | (simp; done) | (simp; omega))) | (with_reducible refine Fr.via ?_ (by assumption)) | (with_reducible refine Fr.comp ?_ (by assumption))))) f2)
      clear f2
      go_wp2
      go_ret
      exact ⟨by rw [HA.out]; rfl, HF.out⟩
    · have d0 : ((nk : Int) == 0) = false := by rw [beq_eq_false_iff_ne]; omega
      have z0 : ¬ (nk : Int) = 0 := by omega
      go_enter Tryd.func48, Tryd.ntmps48
      go_wp2_with fail
      refine (HE.out _ (by (repeat (first | (with_reducible exact Fr.refl _ _) | (with_reducible assumption) | (with_reducible exact Fr.of_nil (by assumption)) | (with_reducible refine Fr.drew ?_) | (with_reducible refine Fr.drewN ?_ _) | (with_reducible refine Fr.alloc ?_ _) | (with_reducible refine Fr.set ?_ _ _ (by first | (intros; omega) | (simp; done) | (simp; omega))) | (with_reducible refine Fr.via ?_ (by assumption)) | (with_reducible refine Fr.comp ?_ (by assumption)))))).mono ?_
      rintro e w2 ⟨rfl, f2⟩
      have HF : Hid (Fr Nil w w2) := Lib.hid (Fr.comp (S := Nil) (by (repeat (first | (with_reducible exact Fr.refl _ _) | (with_reducible assumption) | (with_reducible exact Fr.of_nil (by assumption)) | (with_reducible refine Fr.drew ?_) | (with_reducible refine Fr.drewN ?_ _) | (with_reducible refine Fr.alloc ?_ _) | (with_reducible refine Fr.set ?_ _ _ (by first | (intros; omega) | (simp; done) | (simp; omega))) | (with_reducible refine Fr.via ?_ (by assumption)) | (with_reducible refine Fr.comp ?_ (by assumption))))) f2)
      clear f2
      go_wp2
      go_ret
      exact ⟨by rw [HA.out]; rw [show decide (nk = 0) = false from decide_eq_false z]; rfl, HF.out⟩
  have d1 : ((k : Int) == 1) = false := by rw [beq_eq_false_iff_ne]; omega
  have d2 : ((k : Int) == 2) = false := by rw [beq_eq_false_iff_ne]; omega
  have d3 : ((k : Int) == 3) = false := by rw [beq_eq_false_iff_ne]; omega
  have d5 : ((k : Int) == 5) = false := by rw [beq_eq_false_iff_ne]; omega
  have y1 : ¬ (k : Int) = 1 := by omega
  have y2 : ¬ (k : Int) = 2 := by omega
  have y3 : ¬ (k : Int) = 3 := by omega
  have y5 : ¬ (k : Int) = 5 := by omega
  by_cases z : nk = 0
  · subst z
    go_enter Tryd.func48, Tryd.ntmps48
    go_wp2_with fail
    refine (HE.out _ (by (repeat (first | (with_reducible exact Fr.refl _ _) | (with_reducible assumption) | (with_reducible exact Fr.of_nil (by assumption)) | (with_reducible refine Fr.drew ?_) | (with_reducible refine Fr.drewN ?_ _) | (with_reducible refine Fr.alloc ?_ _) | (with_reducible refine Fr.set ?_ _ _ (by first | (intros; omega) | (simp; done) | (simp; omega))) | (with_reducible refine Fr.via ?_ (by assumption)) | (with_reducible refine Fr.comp ?_ (by assumption)))))).mono ?_
    rintro e w2 ⟨rfl, f2⟩
    have HF : Hid (Fr Nil w w2) := Lib.hid (Fr.comp (S := Nil) (by (repeat (first | (with_reducible exact Fr.refl _ _) | (with_reducible assumption) | (with_reducible exact Fr.of_nil (by assumption)) | (with_reducible refine Fr.drew ?_) | (with_reducible refine Fr.drewN ?_ _) | (with_reducible refine Fr.alloc ?_ _) | (with_reducible refine Fr.set ?_ _ _ (by first | (intros; omega) | (simp; done) | (simp; omega))) | (with_reducible refine Fr.via ?_ (by assumption)) | (with_reducible refine Fr.comp ?_ (by assumption))))) f2)
    clear f2
    go_wp2
    go_ret
    exact ⟨by rw [HA.out]; simp [k1, k2, k3, k5], HF.out⟩
  · have d0 : ((nk : Int) == 0) = false := by rw [beq_eq_false_iff_ne]; omega
    have z0 : ¬ (nk : Int) = 0 := by omega
    go_enter Tryd.func48, Tryd.ntmps48
    go_wp2_with fail
    refine (HE.out _ (by (repeat (first | (with_reducible exact Fr.refl _ _) | (with_reducible assumption) | (with_reducible exact Fr.of_nil (by assumption)) | (with_reducible refine Fr.drew ?_) | (with_reducible refine Fr.drewN ?_ _) | (with_reducible refine Fr.alloc ?_ _) | (with_reducible refine Fr.set ?_ _ _ (by first | (intros; omega) | (simp; done) | (simp; omega))) | (with_reducible refine Fr.via ?_ (by assumption)) | (with_reducible refine Fr.comp ?_ (by assumption)))))).mono ?_
    rintro e w2 ⟨rfl, f2⟩
    have HF : Hid (Fr Nil w w2) := Lib.hid (Fr.comp (S := Nil) (by (repeat (first | (with_reducible exact Fr.refl _ _) | (with_reducible assumption) | (with_reducible exact Fr.of_nil (by assumption)) | (with_reducible refine Fr.drew ?_) | (with_reducible refine Fr.drewN ?_ _) | (with_reducible refine Fr.alloc ?_ _) | (with_reducible refine Fr.set ?_ _ _ (by first | (intros; omega) | (simp; done) | (simp; omega))) | (with_reducible refine Fr.via ?_ (by assumption)) | (with_reducible refine Fr.comp ?_ (by assumption))))) f2)
    clear f2
    go_wp2
    go_ret
    exact ⟨by rw [HA.out]; simp [k1, k2, k3, k5], HF.out⟩
end Go.Proofs.YtpjlibbdngnnnaaDoor

namespace Go.Proofs.YtpjlibbdngnnnaaDoor
set_option linter.unusedSimpArgs false
set_option linter.unusedVariables false
open Go.RowKit

/-- The document shows it as it should. -/
def RsOk (e : TE) : Prop := ∀ (w : World) (cs : List Value), EAt (fun _ => False) w cs e → svE e → zE e ≤ 50000000 → Calls Tryd.prog 18 #[.agg cs.toArray] w fun r w' => r = .returned (.string ⟨(swE prF e).toArray⟩) ∧ Fr Nil w w'
theorem swE_le {e : TE} (h : zE e ≤ 50000000) : (swE prF e).length ≤ 50000000 := Nat.le_trans (swE_len prF prF_len e) h
theorem swK_at {l : List TE} {j : Nat} (h : j < l.length) (h' : j < (swK prF l).length) : (swK prF l)[j] = atomF l[j] (swE prF l[j]) := by
  simp [swK_map]
theorem swK_length (l : List TE) : (swK prF l).length = l.length := by rw [swK_map, List.length_map]
set_option maxRecDepth 100000 in
theorem rkids_any {w : World} {a : Option Addr} {n c : Nat} {l : List TE} {kc : Nat → List Value} (hr : RowC (fun _ => False) w (.slice a n c) n 8 kc) (hk : ∀ i (h : i < l.length), EAt (fun _ => False) w (kc i) l[i]) (hn : l.length = n) (hE : ∀ e ∈ l, RsOk e) (hs : svK l) (hz : zK l ≤ 50000000) :
    Calls Tryd.prog 47 #[.slice a n c] w fun r w' => r = .returned (.string ⟨(wordsF (swK prF l)).toArray⟩) ∧ Fr Nil w w' := by
  have hn9 : n ≤ 9223372036854775807 := hr.lenX
  have hzl := swK_len prF prF_len l
  have HR := Lib.hid (And.intro hr (And.intro hk (And.intro hn (And.intro hE (And.intro hs (And.intro hz hzl))))))
  clear hr hk hn hE hs hz hzl
  go_enter Tryd.func47, Tryd.ntmps47
  go_wp2_with fail
  go_loopg [3, 4] n (fun g sv iv wr => ∃ j : Nat, g = n - j ∧ j ≤ n ∧ sv = .string ⟨(wordsF ((swK prF l).take j)).toArray⟩ ∧ iv = .int .i64 (j : Int) ∧ Hid (Fr Nil w wr))
  case atStart => exact ⟨0, rfl, by omega, by rw [List.take_zero]; rfl, rfl, Lib.hid (Fr.refl _ _)⟩
  case round =>
    obtain ⟨j, rfl, hjn, rfl, rfl, HQ⟩ := hrel
    obtain ⟨Vr, hVr⟩ : ∃ V, V = wr := ⟨_, rfl⟩
    subst hVr
    have j0 : (0 : Int) ≤ (j : Int) := by omega
    by_cases hlt : j < n
    · have hjl : j < l.length := by rw [HR.out.2.2.1]; exact hlt
      have hjs : j < (swK prF l).length := by rw [swK_length]; exact hjl
      have wk : IntKind.i64.wrap ((j : Int) + 1) = (j : Int) + 1 := by rw [IntKind.wrap_i64]; omega
      have j1 : (j : Int) < (n : Int) := by omega
      have hEj := (HR.out.2.1 j hjl).frN HQ.out
      obtain ⟨b, off, rfl, _, hc⟩ := (HR.out.1.frN HQ.out).at hlt
      obtain ⟨k', nm', fl', bi', a0, n0, c0, a1, n1, c1, a2, n2, c2, a3, n3, c3, ec⟩ := hEj.formE
      rw [ec] at hc hEj
      have x0 := hc 0 _ rfl
      have x1 := hc 1 _ rfl
      have x2 := hc 2 _ rfl
      have x3 := hc 3 _ rfl
      have x4 := hc 4 _ rfl
      have x5 := hc 5 _ rfl
      have x6 := hc 6 _ rfl
      have x7 := hc 7 _ rfl
      simp only [Nat.add_zero] at x0
      have hm : l[j] ∈ l := List.getElem_mem hjl
      have hz1 := zK_mem hm
      have hz2 := HR.out.2.2.2.2.2.1
      have hrec := HR.out.2.2.2.1 _ hm
      have hsv := svK_mem HR.out.2.2.2.2.1 hm
      have hw := words_take hjs
      rw [swK_at hjl hjs] at hw
      have h1 := lenS_at hjs
      rw [swK_at hjl hjs] at h1
      have h2 := words_len ((swK prF l).take j)
      have h3 := HR.out.2.2.2.2.2.2
      obtain ⟨e, he⟩ : ∃ e, l[j] = e := ⟨_, rfl⟩
      rw [he] at hEj hrec hsv hw h1 hz1
      have hat : ∀ w', Fr Nil Vr w' → Calls Tryd.prog 48 #[.agg #[.int .i64 k', .string nm', .bool fl', .int .u64 bi', .slice a0 n0 c0, .slice a1 n1 c1, .slice a2 n2 c2, .slice a3 n3 c3]] w' fun r w2 => r = .returned (.string ⟨(atomF e (swE prF e)).toArray⟩) ∧ Fr Nil w' w2 := fun w' f =>
        ratom_any (hEj.frN f) (by have := swE_le (e := e) (by omega); omega) (fun w2 f2 => hrec w2 _ ((hEj.frN f).frN f2) hsv (by omega))
      obtain ⟨x, hx⟩ : ∃ x, atomF e (swE prF e) = x := ⟨_, rfl⟩
      simp only [hx] at hat hw h1
      obtain ⟨S, hS⟩ : ∃ S, wordsF ((swK prF l).take j) = S := ⟨_, rfl⟩
      rw [hS] at hw h2
      obtain ⟨S1, hS1⟩ : ∃ S1, S ++ [32] = S1 := ⟨_, rfl⟩
      rw [hS1] at hw
      have l1 : S1.length = S.length + 1 := by rw [← hS1]; simp
      have sa1 : ∀ w, (Op.stringOp .add ⟨S.toArray⟩ ⟨#[32]⟩).run Tryd.prog w = .ok (.string ⟨S1.toArray⟩) w := fun w => by rw [← hS1]; exact sadd S [32] (by simp; omega) w
      obtain ⟨S2, hS2⟩ : ∃ S2, wordsF ((swK prF l).take (j + 1)) = S2 := ⟨_, rfl⟩
      rw [hS2] at hw
      have sa2 : ∀ w, (Op.stringOp .add ⟨S1.toArray⟩ ⟨x.toArray⟩).run Tryd.prog w = .ok (.string ⟨S2.toArray⟩) w := fun w => by rw [hw]; exact sadd S1 x (by omega) w
      rw [hS]
      have HS := Lib.hid hS2
      have HA := Lib.hid hat
      clear hw h1 h2 h3 hx hS hS1 l1 hS2 hat hrec hsv hEj hc hm hz1 hz2 he ec
      go_wp2_with fail
      refine (HA.out _ (by (repeat (first | (with_reducible exact Fr.refl _ _) | (with_reducible assumption) | (with_reducible exact Fr.of_nil (by assumption)) | (with_reducible refine Fr.drew ?_) | (with_reducible refine Fr.drewN ?_ _) | (with_reducible refine Fr.alloc ?_ _) | (with_reducible refine Fr.set ?_ _ _ (by first | (intros; omega) | (simp; done) | (simp; omega))) | (with_reducible refine Fr.via ?_ (by assumption)) | (with_reducible refine Fr.comp ?_ (by assumption)))))).mono ?_
      rintro r w2 ⟨rfl, f2⟩
      have HF : Hid (Fr Nil w w2) := Lib.hid (HQ.out.comp (Fr.comp (S := Nil) (by (repeat (first | (with_reducible exact Fr.refl _ _) | (with_reducible assumption) | (with_reducible exact Fr.of_nil (by assumption)) | (with_reducible refine Fr.drew ?_) | (with_reducible refine Fr.drewN ?_ _) | (with_reducible refine Fr.alloc ?_ _) | (with_reducible refine Fr.set ?_ _ _ (by first | (intros; omega) | (simp; done) | (simp; omega))) | (with_reducible refine Fr.via ?_ (by assumption)) | (with_reducible refine Fr.comp ?_ (by assumption))))) f2))
      clear f2
      go_wp2
      go_roundg (n - (j + 1))
      case rel => exact ⟨j + 1, rfl, by omega, by rw [HS.out], rfl, Lib.hid HF.out⟩
      case measure => omega
    · have j1 : ¬ (j : Int) < (n : Int) := by omega
      have e : (swK prF l).take j = swK prF l := List.take_of_length_le (by rw [swK_length, HR.out.2.2.1]; omega)
      rw [e]
      clear e
      go_wp2
      go_ret
      exact ⟨rfl, HQ.out⟩
end Go.Proofs.YtpjlibbdngnnnaaDoor

namespace Go.Proofs.YtpjlibbdngnnnaaDoor
set_option linter.unusedSimpArgs false
set_option linter.unusedVariables false
open Go.RowKit

set_option maxRecDepth 100000 in
set_option maxHeartbeats 4000000 in
theorem rbind_any {w : World} {c : List Value} {n : List UInt8} {ps : List (List UInt8)} {e : TE} (h : BAt (fun _ => False) w c (.mk n ps e)) (hE : RsOk e) (hs : svE e) (hz : zE e + 32 + n.length + lenS ps ≤ 50000000) :
    Calls Tryd.prog 50 #[.agg c.toArray] w fun r w' => r = .returned (.string ⟨(swB1 prF (.mk n ps e)).toArray⟩) ∧ Fr Nil w w' := by
  obtain ⟨pn, ec, rfl, hr, he⟩ := h
  obtain ⟨pa, pc, rfl⟩ := RowC.shape hr
  obtain ⟨k', nm', fl', bi', a0, n0, c0, a1, n1, c1, a2, n2, c2, a3, n3, c3, rfl⟩ := he.formE
  obtain ⟨np, hnp⟩ : ∃ np, ps.length = np := ⟨_, rfl⟩
  have hr' : RowS (fun _ => False) w (.slice pa np pc) ps := by rw [← hnp]; exact hr
  have hw := words_len ps
  have ht := swE_le (e := e) (by omega)
  have hrw : ∀ w', Fr Nil w w' → Calls Tryd.prog 49 #[.slice pa np pc] w' fun r w2 => r = .returned (.string ⟨(wordsF ps).toArray⟩) ∧ Fr Nil w' w2 := fun w' f => rwords_any (hr'.frN f) hnp (by omega)
  have hex : ∀ w', Fr Nil w w' → Calls Tryd.prog 18 #[.agg #[.int .i64 k', .string nm', .bool fl', .int .u64 bi', .slice a0 n0 c0, .slice a1 n1 c1, .slice a2 n2 c2, .slice a3 n3 c3]] w' fun r w2 => r = .returned (.string ⟨(swE prF e).toArray⟩) ∧ Fr Nil w' w2 := fun w' f => hE w' _ (he.frN f) hs (by omega)
  have hB : swB1 prF (.mk n ps e) = n ++ wordsF ps ++ [32, 61, 32] ++ swE prF e := bind_doc n ps (swE prF e)
  obtain ⟨t, htt⟩ : ∃ t, swE prF e = t := ⟨_, rfl⟩
  obtain ⟨u, hu⟩ : ∃ t, wordsF ps = t := ⟨_, rfl⟩
  obtain ⟨R, hR⟩ : ∃ t, swB1 prF (.mk n ps e) = t := ⟨_, rfl⟩
  rw [htt] at ht hex hB
  rw [hu] at hw hrw hB
  rw [hR] at hB ⊢
  obtain ⟨S1, hS1⟩ : ∃ t, n ++ u = t := ⟨_, rfl⟩
  rw [hS1] at hB
  have l1 : S1.length = n.length + u.length := by rw [← hS1]; simp
  obtain ⟨S2, hS2⟩ : ∃ t, S1 ++ [32, 61, 32] = t := ⟨_, rfl⟩
  rw [hS2] at hB
  have l2 : S2.length = S1.length + 3 := by rw [← hS2]; simp
  have sa1 : ∀ w, (Op.stringOp .add ⟨n.toArray⟩ ⟨u.toArray⟩).run Tryd.prog w = .ok (.string ⟨S1.toArray⟩) w := fun w => by rw [← hS1]; exact sadd n u (by omega) w
  have sa2 : ∀ w, (Op.stringOp .add ⟨S1.toArray⟩ ⟨#[32, 61, 32]⟩).run Tryd.prog w = .ok (.string ⟨S2.toArray⟩) w := fun w => by rw [← hS2]; exact sadd S1 [32, 61, 32] (by simp; omega) w
  have sa3 : ∀ w, (Op.stringOp .add ⟨S2.toArray⟩ ⟨t.toArray⟩).run Tryd.prog w = .ok (.string ⟨R.toArray⟩) w := fun w => by rw [hB]; exact sadd S2 t (by omega) w
  simp only [TB.name, TB.params, hnp]
  have hb1 : ∃ W1, w.alloc (.cells #[.string ⟨n.toArray⟩, .slice pa np pc, .int .i64 k', .string nm', .bool fl', .int .u64 bi', .slice a0 n0 c0, .slice a1 n1 c1, .slice a2 n2 c2, .slice a3 n3 c3] 42) = W1 := ⟨_, rfl⟩
  obtain ⟨W1, hW1⟩ := hb1
  obtain ⟨T, hT⟩ : ∃ T, w.heap.size = T := ⟨_, rfl⟩
  have f1 : Fr Nil w W1 := by rw [← hW1]; (repeat (first | (with_reducible exact Fr.refl _ _) | (with_reducible assumption) | (with_reducible exact Fr.of_nil (by assumption)) | (with_reducible refine Fr.drew ?_) | (with_reducible refine Fr.drewN ?_ _) | (with_reducible refine Fr.alloc ?_ _) | (with_reducible refine Fr.set ?_ _ _ (by first | (intros; omega) | (simp; done) | (simp; omega))) | (with_reducible refine Fr.via ?_ (by assumption)) | (with_reducible refine Fr.comp ?_ (by assumption))))
  have b1 : Blk W1 T #[.string ⟨n.toArray⟩, .slice pa np pc, .int .i64 k', .string nm', .bool fl', .int .u64 bi', .slice a0 n0 c0, .slice a1 n1 c1, .slice a2 n2 c2, .slice a3 n3 c3] 42 := by rw [← hW1, ← hT]; exact Blk.new _ _ _
  have HW := Lib.hid (And.intro (fun w' (f : Fr Nil W1 w') => hrw w' (f1.comp f)) (And.intro (fun w' (f : Fr Nil W1 w') => hex w' (f1.comp f)) f1))
  clear hr hr' he hw ht hrw hex hB htt hu hR hS1 l1 hS2 l2 hE hs hz hnp f1
  go_enter Tryd.func50, Tryd.ntmps50
  go_upto_region 1 with fail
  try rw [hT]
  try rw [hW1]
  clear hW1 hT
  have HK2 : Hid (∀ w', Fr Nil W1 w' → w'.cell? ⟨T, 0, none⟩ = some (.string ⟨n.toArray⟩) ∧ w'.cell? ⟨T, 1, none⟩ = some (.slice pa np pc) ∧ w'.cell? ⟨T, 2, none⟩ = some (.int .i64 k') ∧ w'.cell? ⟨T, 3, none⟩ = some (.string nm') ∧ w'.cell? ⟨T, 4, none⟩ = some (.bool fl') ∧ w'.cell? ⟨T, 5, none⟩ = some (.int .u64 bi') ∧ w'.cell? ⟨T, 6, none⟩ = some (.slice a0 n0 c0) ∧ w'.cell? ⟨T, 7, none⟩ = some (.slice a1 n1 c1) ∧ w'.cell? ⟨T, 8, none⟩ = some (.slice a2 n2 c2) ∧ w'.cell? ⟨T, 9, none⟩ = some (.slice a3 n3 c3)) := Lib.hid (fun w' f => by
    have b := f.blk b1 (fun q => q)
    have z0 := b.cell 0
    have z1 := b.cell 1
    have z2 := b.cell 2
    have z3 := b.cell 3
    have z4 := b.cell 4
    have z5 := b.cell 5
    have z6 := b.cell 6
    have z7 := b.cell 7
    have z8 := b.cell 8
    have z9 := b.cell 9
    simp at z0 z1 z2 z3 z4 z5 z6 z7 z8 z9
    exact ⟨z0, z1, z2, z3, z4, z5, z6, z7, z8, z9⟩)
  obtain ⟨z0, z1, z2, z3, z4, z5, z6, z7, z8, z9⟩ := HK2.out W1 (Fr.refl _ _)
  clear b1
  go_region_held3 (fun w' => w'.cell? ⟨T, 0, none⟩ = some (.string ⟨n.toArray⟩) ∧ w'.cell? ⟨T, 1, none⟩ = some (.slice pa np pc) ∧ w'.cell? ⟨T, 2, none⟩ = some (.int .i64 k') ∧ w'.cell? ⟨T, 3, none⟩ = some (.string nm') ∧ w'.cell? ⟨T, 4, none⟩ = some (.bool fl') ∧ w'.cell? ⟨T, 5, none⟩ = some (.int .u64 bi') ∧ w'.cell? ⟨T, 6, none⟩ = some (.slice a0 n0 c0) ∧ w'.cell? ⟨T, 7, none⟩ = some (.slice a1 n1 c1) ∧ w'.cell? ⟨T, 8, none⟩ = some (.slice a2 n2 c2) ∧ w'.cell? ⟨T, 9, none⟩ = some (.slice a3 n3 c3)) (with_reducible refine HK2.out _ ?_; (first | assumption | (repeat (first | (with_reducible exact Fr.refl _ _) | (with_reducible assumption) | (with_reducible exact Fr.of_nil (by assumption)) | (with_reducible refine Fr.drew ?_) | (with_reducible refine Fr.drewN ?_ _) | (with_reducible refine Fr.alloc ?_ _) | (with_reducible refine Fr.set ?_ _ _ (by first | (intros; omega) | (simp; done) | (simp; omega))) | (with_reducible refine Fr.via ?_ (by assumption)) | (with_reducible refine Fr.comp ?_ (by assumption)))))) (first
    | (go_at_call 49; refine (HW.out.1 _ (by first | assumption | (repeat (first | (with_reducible exact Fr.refl _ _) | (with_reducible assumption) | (with_reducible exact Fr.of_nil (by assumption)) | (with_reducible refine Fr.drew ?_) | (with_reducible refine Fr.drewN ?_ _) | (with_reducible refine Fr.alloc ?_ _) | (with_reducible refine Fr.set ?_ _ _ (by first | (intros; omega) | (simp; done) | (simp; omega))) | (with_reducible refine Fr.via ?_ (by assumption)) | (with_reducible refine Fr.comp ?_ (by assumption)))))).mono ?_; rintro r wa ⟨rfl, fa⟩; have ga : Fr Nil W1 wa := Fr.comp (S := Nil) (by first | assumption | (repeat (first | (with_reducible exact Fr.refl _ _) | (with_reducible assumption) | (with_reducible exact Fr.of_nil (by assumption)) | (with_reducible refine Fr.drew ?_) | (with_reducible refine Fr.drewN ?_ _) | (with_reducible refine Fr.alloc ?_ _) | (with_reducible refine Fr.set ?_ _ _ (by first | (intros; omega) | (simp; done) | (simp; omega))) | (with_reducible refine Fr.via ?_ (by assumption)) | (with_reducible refine Fr.comp ?_ (by assumption))))) fa; clear fa)
    | (go_at_call 18; refine (HW.out.2.1 _ (by first | assumption | (repeat (first | (with_reducible exact Fr.refl _ _) | (with_reducible assumption) | (with_reducible exact Fr.of_nil (by assumption)) | (with_reducible refine Fr.drew ?_) | (with_reducible refine Fr.drewN ?_ _) | (with_reducible refine Fr.alloc ?_ _) | (with_reducible refine Fr.set ?_ _ _ (by first | (intros; omega) | (simp; done) | (simp; omega))) | (with_reducible refine Fr.via ?_ (by assumption)) | (with_reducible refine Fr.comp ?_ (by assumption)))))).mono ?_; rintro r wb ⟨rfl, fb⟩; have gb : Fr Nil W1 wb := Fr.comp (S := Nil) (by first | assumption | (repeat (first | (with_reducible exact Fr.refl _ _) | (with_reducible assumption) | (with_reducible exact Fr.of_nil (by assumption)) | (with_reducible refine Fr.drew ?_) | (with_reducible refine Fr.drewN ?_ _) | (with_reducible refine Fr.alloc ?_ _) | (with_reducible refine Fr.set ?_ _ _ (by first | (intros; omega) | (simp; done) | (simp; omega))) | (with_reducible refine Fr.via ?_ (by assumption)) | (with_reducible refine Fr.comp ?_ (by assumption))))) fb; clear fb))
  all_goals
    go_wp2
    go_ret
    exact ⟨rfl, HW.out.2.2.comp (by first | assumption | (repeat (first | (with_reducible exact Fr.refl _ _) | (with_reducible assumption) | (with_reducible exact Fr.of_nil (by assumption)) | (with_reducible refine Fr.drew ?_) | (with_reducible refine Fr.drewN ?_ _) | (with_reducible refine Fr.alloc ?_ _) | (with_reducible refine Fr.set ?_ _ _ (by first | (intros; omega) | (simp; done) | (simp; omega))) | (with_reducible refine Fr.via ?_ (by assumption)) | (with_reducible refine Fr.comp ?_ (by assumption)))))⟩
end Go.Proofs.YtpjlibbdngnnnaaDoor
