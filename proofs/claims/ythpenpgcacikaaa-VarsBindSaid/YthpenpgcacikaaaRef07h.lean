/-
  Contracts of the document's answer for layer 7: the token that stands at a place: numbers behind '#'. No conditions but sizes that memory bears.
-/
import Derived.Test.YthpenpgcacikaaaRef07g
namespace Go.Proofs.Ythpenpgcacikaaa
set_option linter.unusedSimpArgs false
set_option linter.unusedVariables false
open Go.RowKit

theorem ext_hash (s : ByteArray) (at_ n N : Nat) (hN : (runF (s.data.toList.drop (at_ + n))).length = N) : (s.extract at_ (at_ + n + N)).data.toList = (s.data.toList.drop at_).take n ++ runF (s.data.toList.drop (at_ + n)) := by
  rw [extract_from, show at_ + n + N - at_ = n + N by omega, List.take_add, List.drop_drop]
  congr 1
  rw [← hN]
  exact (List.prefix_iff_eq_take.1 (runF_pre _)).symm
section
variable (s : ByteArray) (at_ line : Nat) (w : World) (hs : s.size ≤ 1000000) (hat : at_ < s.size)
include hs hat
set_option maxRecDepth 100000 in
set_option maxHeartbeats 1000000 in
theorem one_hash1_no (hc : s[at_].toNat = 35) (hm : s.size ≤ at_ + 1 ∨ ∃ h : at_ + 1 < s.size, s[at_ + 1].toNat ≠ 45) (hr : runF (s.data.toList.drop (at_ + 1)) = []) :
    Calls Try.prog 36 #[.string s, .int .i64 at_, .int .i64 line] w fun e w' => OneRes (oneF (s.data.toList.drop at_) line) e ∧ Fr Nil w w' := by
  have hu : s[at_] = 35 := u8_of hc rfl
  have q1 : smallC s[at_] = false := by rw [hu]; decide
  have q2 : capC s[at_] = false := by rw [hu]; decide
  have q3 : digC s[at_] = false := by rw [hu]; decide
  have q4 : ((s[at_].toNat : Int) == 35) = true := by rw [hc]; rfl
  have hh : ¬ (s.data.toList.drop (at_ + 1)).head? = some 45 := by
    rcases hm with hm | ⟨h1, hm⟩
    · rw [drop_end s _ hm]; simp
    · rw [drop_cons s _ h1]
      simp
      exact fun e => hm (by rw [e]; rfl)
  have k1 : decide ((at_ : Int) + 1 < (s.size : Int)) = false ∨ ∃ h : at_ + 1 < s.size, ((s[at_ + 1].toNat : Int) == 45) = false := by
    rcases hm with hm | ⟨h1, hm⟩
    · exact .inl (by simp; omega)
    · exact .inr ⟨h1, by simp; omega⟩
  have hrun : ∀ w, Calls Try.prog 51 #[.string s, .int .i64 ((at_ : Int) + 1)] w fun e w' => e = .returned (.int .i64 (runF (s.data.toList.drop (at_ + 1))).length) ∧ w = w' := fun w => by
    have := run_any s (at_ + 1) w hs (by omega)
    rwa [show ((at_ + 1 : Nat) : Int) = (at_ : Int) + 1 by omega] at this
  have hle := run_le s (at_ + 1)
  obtain ⟨N, hN⟩ : ∃ N, (runF (s.data.toList.drop (at_ + 1))).length = N := ⟨_, rfl⟩
  have hext := ext_hash s at_ 1 N hN
  simp only [hN] at hrun
  rw [hN] at hle
  have i0 : (0 : Int) ≤ (at_ : Int) := by omega
  have i1 : (at_ : Int) < (s.size : Int) := by omega
  have hone : oneF (s.data.toList.drop at_) line = (none_ line, 3) := by
    rw [drop_cons s at_ hat]
    unfold oneF
    simp only
    rw [if_neg (by simp [q1, q2]), if_neg (by simp [q3]), if_pos hu]
    rw [if_neg hh]
    rw [if_pos hr]
  rw [hone]
  rw [hr] at hN
  obtain rfl : N = 0 := by simpa using hN.symm
  have HRUN := Lib.hid hrun
  clear hone hrun hext hr hN hu hc hm hh
  rcases k1 with k1 | ⟨k0, k1⟩
  · go_enter Try.func36, Try.ntmps36
    go_wp2_with (first
        | (go_at_call 49; refine (small_any _ _).mono ?_; rintro e w1 ⟨rfl, rfl⟩)
        | (go_at_call 50; refine (cap_any _ _).mono ?_; rintro e w1 ⟨rfl, rfl⟩)
        | (go_at_call 53; refine (dig_any _ _).mono ?_; rintro e w1 ⟨rfl, rfl⟩)
        | (go_at_call 51; refine (HRUN.out _).mono ?_; rintro e w1 ⟨rfl, rfl⟩))
    refine bodyPost_ret (v := .tuple #[tokV (none_ line), .int .i64 3]) (by simp [tokV_mk, none_, results, Try.results36, go_sem, *] <;> rfl) rfl ⟨OneRes.of rfl, ?_⟩
    (repeat (first | (with_reducible exact Fr.refl _ _) | (with_reducible assumption) | (with_reducible exact Fr.of_nil (by assumption)) | (with_reducible refine Fr.drew ?_) | (with_reducible refine Fr.drewN ?_ _) | (with_reducible refine Fr.alloc ?_ _) | (with_reducible refine Fr.set ?_ _ _ (by first | (intros; omega) | (simp; done) | (simp; omega))) | (with_reducible refine Fr.via ?_ (by assumption)) | (with_reducible refine Fr.comp ?_ (by assumption))))
  · have k2 : (at_ : Int) + 1 < (s.size : Int) := by omega
    go_enter Try.func36, Try.ntmps36
    go_wp2_with (first
        | (go_at_call 49; refine (small_any _ _).mono ?_; rintro e w1 ⟨rfl, rfl⟩)
        | (go_at_call 50; refine (cap_any _ _).mono ?_; rintro e w1 ⟨rfl, rfl⟩)
        | (go_at_call 53; refine (dig_any _ _).mono ?_; rintro e w1 ⟨rfl, rfl⟩)
        | (go_at_call 51; refine (HRUN.out _).mono ?_; rintro e w1 ⟨rfl, rfl⟩))
    refine bodyPost_ret (v := .tuple #[tokV (none_ line), .int .i64 3]) (by simp [tokV_mk, none_, results, Try.results36, go_sem, *] <;> rfl) rfl ⟨OneRes.of rfl, ?_⟩
    (repeat (first | (with_reducible exact Fr.refl _ _) | (with_reducible assumption) | (with_reducible exact Fr.of_nil (by assumption)) | (with_reducible refine Fr.drew ?_) | (with_reducible refine Fr.drewN ?_ _) | (with_reducible refine Fr.alloc ?_ _) | (with_reducible refine Fr.set ?_ _ _ (by first | (intros; omega) | (simp; done) | (simp; omega))) | (with_reducible refine Fr.via ?_ (by assumption)) | (with_reducible refine Fr.comp ?_ (by assumption))))
set_option maxRecDepth 100000 in
set_option maxHeartbeats 1000000 in
theorem one_hash1_some (hc : s[at_].toNat = 35) (hm : s.size ≤ at_ + 1 ∨ ∃ h : at_ + 1 < s.size, s[at_ + 1].toNat ≠ 45) (hr : runF (s.data.toList.drop (at_ + 1)) ≠ []) :
    Calls Try.prog 36 #[.string s, .int .i64 at_, .int .i64 line] w fun e w' => OneRes (oneF (s.data.toList.drop at_) line) e ∧ Fr Nil w w' := by
  have hu : s[at_] = 35 := u8_of hc rfl
  have q1 : smallC s[at_] = false := by rw [hu]; decide
  have q2 : capC s[at_] = false := by rw [hu]; decide
  have q3 : digC s[at_] = false := by rw [hu]; decide
  have q4 : ((s[at_].toNat : Int) == 35) = true := by rw [hc]; rfl
  have hh : ¬ (s.data.toList.drop (at_ + 1)).head? = some 45 := by
    rcases hm with hm | ⟨h1, hm⟩
    · rw [drop_end s _ hm]; simp
    · rw [drop_cons s _ h1]
      simp
      exact fun e => hm (by rw [e]; rfl)
  have k1 : decide ((at_ : Int) + 1 < (s.size : Int)) = false ∨ ∃ h : at_ + 1 < s.size, ((s[at_ + 1].toNat : Int) == 45) = false := by
    rcases hm with hm | ⟨h1, hm⟩
    · exact .inl (by simp; omega)
    · exact .inr ⟨h1, by simp; omega⟩
  have hrun : ∀ w, Calls Try.prog 51 #[.string s, .int .i64 ((at_ : Int) + 1)] w fun e w' => e = .returned (.int .i64 (runF (s.data.toList.drop (at_ + 1))).length) ∧ w = w' := fun w => by
    have := run_any s (at_ + 1) w hs (by omega)
    rwa [show ((at_ + 1 : Nat) : Int) = (at_ : Int) + 1 by omega] at this
  have hle := run_le s (at_ + 1)
  obtain ⟨N, hN⟩ : ∃ N, (runF (s.data.toList.drop (at_ + 1))).length = N := ⟨_, rfl⟩
  have hext := ext_hash s at_ 1 N hN
  simp only [hN] at hrun
  rw [hN] at hle
  have i0 : (0 : Int) ≤ (at_ : Int) := by omega
  have i1 : (at_ : Int) < (s.size : Int) := by omega
  have hone : oneF (s.data.toList.drop at_) line = numberF (35 :: runF (s.data.toList.drop (at_ + 1))) line := by
    rw [drop_cons s at_ hat]
    unfold oneF
    simp only
    rw [if_neg (by simp [q1, q2]), if_neg (by simp [q3]), if_pos hu]
    rw [if_neg hh]
    rw [if_neg hr]
  have hp : 0 < N := by rw [← hN]; exact List.length_pos_iff.2 hr
  obtain ⟨X, hX⟩ : ∃ X, s.extract at_ (at_ + 1 + N) = X := ⟨_, rfl⟩
  have hXs : X.size = 1 + N := by rw [← hX]; simp; omega
  rw [hX] at hext
  have htx : (s.data.toList.drop at_).take 1 = [35] := by
    rw [drop_cons s at_ hat, hu]
    rfl
  rw [htx] at hext
  rw [hone, show 35 :: runF (s.data.toList.drop (at_ + 1)) = X.data.toList from hext.symm]
  obtain ⟨t, e, ht⟩ : ∃ t e, numberF X.data.toList line = (t, e) := ⟨_, _, rfl⟩
  have hnum := fun kd f0 b0 w => rnumber_any kd f0 b0 line X w (by omega) (by omega)
  rw [ht]
  simp only [ht, tokV_mk] at hnum
  have hN0 : ((N : Int) == 0) = false := by simp; omega
  have i3 : (at_ : Int) + 1 + (N : Int) ≤ (s.size : Int) := by omega
  have HRUN := Lib.hid hrun
  have HNUM := Lib.hid hnum
  clear hone hrun hext hr hN hu hc hm hh hnum ht htx hXs
  rcases k1 with k1 | ⟨k0, k1⟩
  · go_enter Try.func36, Try.ntmps36
    go_wp2_with (first
        | (go_at_call 49; refine (small_any _ _).mono ?_; rintro e w1 ⟨rfl, rfl⟩)
        | (go_at_call 50; refine (cap_any _ _).mono ?_; rintro e w1 ⟨rfl, rfl⟩)
        | (go_at_call 53; refine (dig_any _ _).mono ?_; rintro e w1 ⟨rfl, rfl⟩)
        | (go_at_call 51; refine (HRUN.out _).mono ?_; rintro e w1 ⟨rfl, rfl⟩)
        | (go_at_call 54; refine (HNUM.out _ _ _ _).mono ?_; rintro e1 w2 ⟨rfl, f2⟩; obtain ⟨_, _, _⟩ := f2.at (w.heap.size) (by first | assumption | omega | (simp; done) | (simp; omega)); obtain ⟨_, _, _⟩ := f2.at (w.heap.size + 1) (by first | assumption | omega | (simp; done) | (simp; omega))))
    refine bodyPost_ret (v := .tuple #[tokV t, .int .i64 e]) (by simp [tokV_mk, results, Try.results36, go_sem, *]) rfl ⟨OneRes.of rfl, ?_⟩
    (repeat (first | (with_reducible exact Fr.refl _ _) | (with_reducible assumption) | (with_reducible exact Fr.of_nil (by assumption)) | (with_reducible refine Fr.drew ?_) | (with_reducible refine Fr.drewN ?_ _) | (with_reducible refine Fr.alloc ?_ _) | (with_reducible refine Fr.set ?_ _ _ (by first | (intros; omega) | (simp; done) | (simp; omega))) | (with_reducible refine Fr.via ?_ (by assumption)) | (with_reducible refine Fr.comp ?_ (by assumption))))
  · have k2 : (at_ : Int) + 1 < (s.size : Int) := by omega
    go_enter Try.func36, Try.ntmps36
    go_wp2_with (first
        | (go_at_call 49; refine (small_any _ _).mono ?_; rintro e w1 ⟨rfl, rfl⟩)
        | (go_at_call 50; refine (cap_any _ _).mono ?_; rintro e w1 ⟨rfl, rfl⟩)
        | (go_at_call 53; refine (dig_any _ _).mono ?_; rintro e w1 ⟨rfl, rfl⟩)
        | (go_at_call 51; refine (HRUN.out _).mono ?_; rintro e w1 ⟨rfl, rfl⟩)
        | (go_at_call 54; refine (HNUM.out _ _ _ _).mono ?_; rintro e1 w2 ⟨rfl, f2⟩; obtain ⟨_, _, _⟩ := f2.at (w.heap.size) (by first | assumption | omega | (simp; done) | (simp; omega)); obtain ⟨_, _, _⟩ := f2.at (w.heap.size + 1) (by first | assumption | omega | (simp; done) | (simp; omega))))
    refine bodyPost_ret (v := .tuple #[tokV t, .int .i64 e]) (by simp [tokV_mk, results, Try.results36, go_sem, *]) rfl ⟨OneRes.of rfl, ?_⟩
    (repeat (first | (with_reducible exact Fr.refl _ _) | (with_reducible assumption) | (with_reducible exact Fr.of_nil (by assumption)) | (with_reducible refine Fr.drew ?_) | (with_reducible refine Fr.drewN ?_ _) | (with_reducible refine Fr.alloc ?_ _) | (with_reducible refine Fr.set ?_ _ _ (by first | (intros; omega) | (simp; done) | (simp; omega))) | (with_reducible refine Fr.via ?_ (by assumption)) | (with_reducible refine Fr.comp ?_ (by assumption))))
set_option maxRecDepth 100000 in
set_option maxHeartbeats 1000000 in
theorem one_hash2_no (hc : s[at_].toNat = 35) (hz : at_ + 1 < s.size) (hm : s[at_ + 1].toNat = 45) (hr : runF (s.data.toList.drop (at_ + 2)) = []) :
    Calls Try.prog 36 #[.string s, .int .i64 at_, .int .i64 line] w fun e w' => OneRes (oneF (s.data.toList.drop at_) line) e ∧ Fr Nil w w' := by
  have hu : s[at_] = 35 := u8_of hc rfl
  have q1 : smallC s[at_] = false := by rw [hu]; decide
  have q2 : capC s[at_] = false := by rw [hu]; decide
  have q3 : digC s[at_] = false := by rw [hu]; decide
  have q4 : ((s[at_].toNat : Int) == 35) = true := by rw [hc]; rfl
  have hh : (s.data.toList.drop (at_ + 1)).head? = some 45 := by
    rw [drop_cons s _ hz]
    exact congrArg some (u8_of (d := 45) hm rfl)
  have k1 : ((s[at_ + 1].toNat : Int) == 45) = true := by rw [hm]; rfl
  have k2 : (at_ : Int) + 1 < (s.size : Int) := by omega
  have hrun : ∀ w, Calls Try.prog 51 #[.string s, .int .i64 ((at_ : Int) + 2)] w fun e w' => e = .returned (.int .i64 (runF (s.data.toList.drop (at_ + 2))).length) ∧ w = w' := fun w => by
    have := run_any s (at_ + 2) w hs (by omega)
    rwa [show ((at_ + 2 : Nat) : Int) = (at_ : Int) + 2 by omega] at this
  have hle := run_le s (at_ + 2)
  obtain ⟨N, hN⟩ : ∃ N, (runF (s.data.toList.drop (at_ + 2))).length = N := ⟨_, rfl⟩
  have hext := ext_hash s at_ 2 N hN
  simp only [hN] at hrun
  rw [hN] at hle
  have i0 : (0 : Int) ≤ (at_ : Int) := by omega
  have i1 : (at_ : Int) < (s.size : Int) := by omega
  have hone : oneF (s.data.toList.drop at_) line = (none_ line, 3) := by
    rw [drop_cons s at_ hat]
    unfold oneF
    simp only
    rw [if_neg (by simp [q1, q2]), if_neg (by simp [q3]), if_pos hu]
    rw [if_pos hh]
    rw [show (List.drop 1 (s.data.toList.drop (at_ + 1))) = s.data.toList.drop (at_ + 2) by rw [List.drop_drop], if_pos hr]
  rw [hone]
  rw [hr] at hN
  obtain rfl : N = 0 := by simpa using hN.symm
  have HRUN := Lib.hid hrun
  clear hone hrun hext hr hN hu hc hm hh
  go_enter Try.func36, Try.ntmps36
  go_wp2_with (first
      | (go_at_call 49; refine (small_any _ _).mono ?_; rintro e w1 ⟨rfl, rfl⟩)
      | (go_at_call 50; refine (cap_any _ _).mono ?_; rintro e w1 ⟨rfl, rfl⟩)
      | (go_at_call 53; refine (dig_any _ _).mono ?_; rintro e w1 ⟨rfl, rfl⟩)
      | (go_at_call 51; refine (HRUN.out _).mono ?_; rintro e w1 ⟨rfl, rfl⟩))
  refine bodyPost_ret (v := .tuple #[tokV (none_ line), .int .i64 3]) (by simp [tokV_mk, none_, results, Try.results36, go_sem, *] <;> rfl) rfl ⟨OneRes.of rfl, ?_⟩
  (repeat (first | (with_reducible exact Fr.refl _ _) | (with_reducible assumption) | (with_reducible exact Fr.of_nil (by assumption)) | (with_reducible refine Fr.drew ?_) | (with_reducible refine Fr.drewN ?_ _) | (with_reducible refine Fr.alloc ?_ _) | (with_reducible refine Fr.set ?_ _ _ (by first | (intros; omega) | (simp; done) | (simp; omega))) | (with_reducible refine Fr.via ?_ (by assumption)) | (with_reducible refine Fr.comp ?_ (by assumption))))
set_option maxRecDepth 100000 in
set_option maxHeartbeats 1000000 in
theorem one_hash2_some (hc : s[at_].toNat = 35) (hz : at_ + 1 < s.size) (hm : s[at_ + 1].toNat = 45) (hr : runF (s.data.toList.drop (at_ + 2)) ≠ []) :
    Calls Try.prog 36 #[.string s, .int .i64 at_, .int .i64 line] w fun e w' => OneRes (oneF (s.data.toList.drop at_) line) e ∧ Fr Nil w w' := by
  have hu : s[at_] = 35 := u8_of hc rfl
  have q1 : smallC s[at_] = false := by rw [hu]; decide
  have q2 : capC s[at_] = false := by rw [hu]; decide
  have q3 : digC s[at_] = false := by rw [hu]; decide
  have q4 : ((s[at_].toNat : Int) == 35) = true := by rw [hc]; rfl
  have hh : (s.data.toList.drop (at_ + 1)).head? = some 45 := by
    rw [drop_cons s _ hz]
    exact congrArg some (u8_of (d := 45) hm rfl)
  have k1 : ((s[at_ + 1].toNat : Int) == 45) = true := by rw [hm]; rfl
  have k2 : (at_ : Int) + 1 < (s.size : Int) := by omega
  have hrun : ∀ w, Calls Try.prog 51 #[.string s, .int .i64 ((at_ : Int) + 2)] w fun e w' => e = .returned (.int .i64 (runF (s.data.toList.drop (at_ + 2))).length) ∧ w = w' := fun w => by
    have := run_any s (at_ + 2) w hs (by omega)
    rwa [show ((at_ + 2 : Nat) : Int) = (at_ : Int) + 2 by omega] at this
  have hle := run_le s (at_ + 2)
  obtain ⟨N, hN⟩ : ∃ N, (runF (s.data.toList.drop (at_ + 2))).length = N := ⟨_, rfl⟩
  have hext := ext_hash s at_ 2 N hN
  simp only [hN] at hrun
  rw [hN] at hle
  have i0 : (0 : Int) ≤ (at_ : Int) := by omega
  have i1 : (at_ : Int) < (s.size : Int) := by omega
  have hone : oneF (s.data.toList.drop at_) line = numberF (35 :: 45 :: runF (s.data.toList.drop (at_ + 2))) line := by
    rw [drop_cons s at_ hat]
    unfold oneF
    simp only
    rw [if_neg (by simp [q1, q2]), if_neg (by simp [q3]), if_pos hu]
    rw [if_pos hh]
    rw [show (List.drop 1 (s.data.toList.drop (at_ + 1))) = s.data.toList.drop (at_ + 2) by rw [List.drop_drop], if_neg hr]
  have hp : 0 < N := by rw [← hN]; exact List.length_pos_iff.2 hr
  obtain ⟨X, hX⟩ : ∃ X, s.extract at_ (at_ + 2 + N) = X := ⟨_, rfl⟩
  have hXs : X.size = 2 + N := by rw [← hX]; simp; omega
  rw [hX] at hext
  have htx : (s.data.toList.drop at_).take 2 = [35, 45] := by
    rw [drop_cons s at_ hat, hu]
    rw [List.take_succ_cons, drop_cons s (at_ + 1) hz, show s[at_ + 1] = 45 from u8_of hm rfl]; rfl
  rw [htx] at hext
  rw [hone, show 35 :: 45 :: runF (s.data.toList.drop (at_ + 2)) = X.data.toList from hext.symm]
  obtain ⟨t, e, ht⟩ : ∃ t e, numberF X.data.toList line = (t, e) := ⟨_, _, rfl⟩
  have hnum := fun kd f0 b0 w => rnumber_any kd f0 b0 line X w (by omega) (by omega)
  rw [ht]
  simp only [ht, tokV_mk] at hnum
  have hN0 : ((N : Int) == 0) = false := by simp; omega
  have i3 : (at_ : Int) + 2 + (N : Int) ≤ (s.size : Int) := by omega
  have HRUN := Lib.hid hrun
  have HNUM := Lib.hid hnum
  clear hone hrun hext hr hN hu hc hm hh hnum ht htx hXs
  go_enter Try.func36, Try.ntmps36
  go_wp2_with (first
      | (go_at_call 49; refine (small_any _ _).mono ?_; rintro e w1 ⟨rfl, rfl⟩)
      | (go_at_call 50; refine (cap_any _ _).mono ?_; rintro e w1 ⟨rfl, rfl⟩)
      | (go_at_call 53; refine (dig_any _ _).mono ?_; rintro e w1 ⟨rfl, rfl⟩)
      | (go_at_call 51; refine (HRUN.out _).mono ?_; rintro e w1 ⟨rfl, rfl⟩)
      | (go_at_call 54; refine (HNUM.out _ _ _ _).mono ?_; rintro e1 w2 ⟨rfl, f2⟩; obtain ⟨_, _, _⟩ := f2.at (w.heap.size) (by first | assumption | omega | (simp; done) | (simp; omega)); obtain ⟨_, _, _⟩ := f2.at (w.heap.size + 1) (by first | assumption | omega | (simp; done) | (simp; omega))))
  refine bodyPost_ret (v := .tuple #[tokV t, .int .i64 e]) (by simp [tokV_mk, results, Try.results36, go_sem, *]) rfl ⟨OneRes.of rfl, ?_⟩
  (repeat (first | (with_reducible exact Fr.refl _ _) | (with_reducible assumption) | (with_reducible exact Fr.of_nil (by assumption)) | (with_reducible refine Fr.drew ?_) | (with_reducible refine Fr.drewN ?_ _) | (with_reducible refine Fr.alloc ?_ _) | (with_reducible refine Fr.set ?_ _ _ (by first | (intros; omega) | (simp; done) | (simp; omega))) | (with_reducible refine Fr.via ?_ (by assumption)) | (with_reducible refine Fr.comp ?_ (by assumption))))
end
end Go.Proofs.Ythpenpgcacikaaa
