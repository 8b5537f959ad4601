/-
  Contracts of the document's answer for layer 7: the token that stands at a place: words and numbers. No conditions but sizes that memory bears.
  Contracts of the document's answer for layer 7: the token that stands at a place: numbers, signs. No conditions but sizes that memory bears.
  Contracts of the document's answer for layer 7: the token that stands at a place: numbers behind '#'. No conditions but sizes that memory bears.
  Contracts of the document's answer for layer 7: the token that stands at a place; all tokens of a source. No conditions but sizes that memory bears.
-/
import Derived.Test.YtlnmicddobgppaaGreatDoorRefA
import Derived.Deep.DeepCutAuto
namespace Go.Proofs.YtlnmicddobgppaaGreatDoor
set_option linter.unusedSimpArgs false
set_option linter.unusedVariables false
open Go.RowKit

/-- A token is told, if there is no error: just so. -/
def OneRes (p : TokV × Int) (e : Ending) : Prop := ∃ t : TokV, e = .returned (.tuple #[tokV t, .int .i64 p.2]) ∧ (p.2 = 0 → t = p.1)
theorem OneRes.of {p : TokV × Int} {t : TokV} {e : Int} (h : p = (t, e)) : OneRes p (.returned (.tuple #[tokV t, .int .i64 e])) := by subst h; exact ⟨t, rfl, fun _ => rfl⟩
theorem ext_run (s : ByteArray) (at_ n : Nat) (h : (runF (s.data.toList.drop at_)).length = n) : (s.extract at_ (at_ + n)).data.toList = runF (s.data.toList.drop at_) := by
  rw [extract_from, show at_ + n - at_ = n by omega, ← h]
  exact (List.prefix_iff_eq_take.1 (runF_pre _)).symm
theorem size_of (s : ByteArray) : s.data.toList.length = s.size := by simp
theorem mk_bytes (s : ByteArray) : (⟨s.data.toList.toArray⟩ : ByteArray) = s := bytes_eq _ _ (by simp)
theorem run_pos (s : ByteArray) (a : Nat) (h : a < s.size) (hw : wordC s[a] = true) : 0 < (runF (s.data.toList.drop a)).length := by
  rw [drop_cons s a h]
  simp [runF, List.takeWhile, hw]
theorem tok_ret {k : Int} {s : ByteArray} {f : Bool} {b line : Nat} {e : Int} {l : List UInt8} (h : s.data.toList = l) : Ending.returned (.tuple #[.agg #[.int .i64 k, .string s, .bool f, .int .u64 (b : Int), .int .i64 (line : Int)], .int .i64 e]) = .returned (.tuple #[tokV ⟨k, l, f, b, line⟩, .int .i64 e]) := by
  unfold tokV
  rw [← h, mk_bytes]
section
variable (s : ByteArray) (at_ line : Nat) (w : World) (hs : s.size ≤ 1000000) (hat : at_ < s.size)
include hs hat
set_option maxRecDepth 100000 in
set_option maxHeartbeats 1000000 in
theorem one_word (hc : smallC s[at_] = true ∨ (smallC s[at_] = false ∧ capC s[at_] = true)) :
    Calls Tryz.prog 43 #[.string s, .int .i64 at_, .int .i64 line] w fun e w' => OneRes (oneF (s.data.toList.drop at_) line) e ∧ Fr Nil w w' := by
  have hone : oneF (s.data.toList.drop at_) line = (⟨kindF (runF (s.data.toList.drop at_)), runF (s.data.toList.drop at_), false, 0, line⟩, if 16 < (runF (s.data.toList.drop at_)).length then 9 else 0) := by
    rw [drop_cons s at_ hat]
    unfold oneF
    simp only
    rw [if_pos (by rcases hc with q | ⟨_, q⟩ <;> simp [q])]
  have hp := run_pos s at_ hat (by unfold wordC; rcases hc with q | ⟨_, q⟩ <;> simp [q])
  have hle := run_le s at_
  obtain ⟨N, hN⟩ : ∃ N, (runF (s.data.toList.drop at_)).length = N := ⟨_, rfl⟩
  have hext := ext_run s at_ N hN
  have hrun := fun w => run_any s at_ w hs (by omega)
  rw [hN] at hp hle hone
  simp only [hN] at hrun
  obtain ⟨X, hX⟩ : ∃ X, s.extract at_ (at_ + N) = X := ⟨_, rfl⟩
  have hXs : X.size = N := by rw [← hX]; simp; omega
  rw [hX] at hext
  rw [hone]
  have i0 : (0 : Int) ≤ (at_ : Int) := by omega
  have i1 : (at_ : Int) < (s.size : Int) := by omega
  have i2 : (at_ : Int) + (N : Int) ≤ (s.size : Int) := by omega
  have HXS := Lib.hid hXs
  have HE := Lib.hid hext
  have HRUN := Lib.hid hrun
  clear hone hN hXs hext hrun
  by_cases h16 : 16 < N
  · have j1 : decide ((16 : Int) < (X.size : Int)) = true := by rw [HXS.out]; simp; omega
    have j2 : (16 : Int) < (X.size : Int) := by rw [HXS.out]; omega
    rw [if_pos h16]
    rcases hc with q | ⟨q0, q⟩
    all_goals
      go_enter Tryz.func43, Tryz.ntmps43
      go_wp2_with (first
        | (go_at_call 77; refine (small_any _ _).mono ?_; rintro e w1 ⟨rfl, rfl⟩)
        | (go_at_call 78; refine (cap_any _ _).mono ?_; rintro e w1 ⟨rfl, rfl⟩)
        | (go_at_call 79; refine (HRUN.out _).mono ?_; rintro e w1 ⟨rfl, rfl⟩)
        | (go_at_call 80; refine (kind_any X _ (by rw [HXS.out]; exact hp)).mono ?_; rintro e w1 ⟨rfl, rfl⟩))
      refine bodyPost_ret (v := .tuple #[.agg #[.int .i64 (kindF X.data.toList), .string X, .bool false, .int .u64 ((0 : Nat) : Int), .int .i64 (line : Int)], .int .i64 9]) (by simp [results, Tryz.results43, go_sem, *]) rfl ⟨?_, ?_⟩
      · rw [tok_ret HE.out, HE.out]
        exact OneRes.of rfl
      · (repeat (first | (with_reducible exact Fr.refl _ _) | (with_reducible assumption) | (with_reducible exact Fr.of_nil (by assumption)) | (with_reducible refine Fr.drew ?_) | (with_reducible refine Fr.drewN ?_ _) | (with_reducible refine Fr.alloc ?_ _) | (with_reducible refine Fr.set ?_ _ _ (by first | (intros; omega) | (simp; done) | (simp; omega))) | (with_reducible refine Fr.via ?_ (by assumption)) | (with_reducible refine Fr.comp ?_ (by assumption))))
  · have j1 : decide ((16 : Int) < (X.size : Int)) = false := by rw [HXS.out]; simp; omega
    have j2 : ¬ (16 : Int) < (X.size : Int) := by rw [HXS.out]; omega
    rw [if_neg h16]
    rcases hc with q | ⟨q0, q⟩
    all_goals
      go_enter Tryz.func43, Tryz.ntmps43
      go_wp2_with (first
        | (go_at_call 77; refine (small_any _ _).mono ?_; rintro e w1 ⟨rfl, rfl⟩)
        | (go_at_call 78; refine (cap_any _ _).mono ?_; rintro e w1 ⟨rfl, rfl⟩)
        | (go_at_call 79; refine (HRUN.out _).mono ?_; rintro e w1 ⟨rfl, rfl⟩)
        | (go_at_call 80; refine (kind_any X _ (by rw [HXS.out]; exact hp)).mono ?_; rintro e w1 ⟨rfl, rfl⟩))
      refine bodyPost_ret (v := .tuple #[.agg #[.int .i64 (kindF X.data.toList), .string X, .bool false, .int .u64 ((0 : Nat) : Int), .int .i64 (line : Int)], .int .i64 0]) (by simp [results, Tryz.results43, go_sem, *]) rfl ⟨?_, ?_⟩
      · rw [tok_ret HE.out, HE.out]
        exact OneRes.of rfl
      · (repeat (first | (with_reducible exact Fr.refl _ _) | (with_reducible assumption) | (with_reducible exact Fr.of_nil (by assumption)) | (with_reducible refine Fr.drew ?_) | (with_reducible refine Fr.drewN ?_ _) | (with_reducible refine Fr.alloc ?_ _) | (with_reducible refine Fr.set ?_ _ _ (by first | (intros; omega) | (simp; done) | (simp; omega))) | (with_reducible refine Fr.via ?_ (by assumption)) | (with_reducible refine Fr.comp ?_ (by assumption))))
end
end Go.Proofs.YtlnmicddobgppaaGreatDoor

namespace Go.Proofs.YtlnmicddobgppaaGreatDoor
set_option linter.unusedSimpArgs false
set_option linter.unusedVariables false
open Go.RowKit

theorem tokV_mk (t : TokV) : tokV t = .agg #[.int .i64 t.kind, .string ⟨t.text.toArray⟩, .bool t.flt, .int .u64 (t.bits : Int), .int .i64 (t.line : Int)] := rfl
section
variable (s : ByteArray) (at_ line : Nat) (w : World) (hs : s.size ≤ 1000000) (hat : at_ < s.size)
include hs hat
set_option maxRecDepth 100000 in
set_option maxHeartbeats 1000000 in
theorem one_digit (h1 : smallC s[at_] = false) (h2 : capC s[at_] = false) (h3 : digC s[at_] = true) :
    Calls Tryz.prog 43 #[.string s, .int .i64 at_, .int .i64 line] w fun e w' => OneRes (oneF (s.data.toList.drop at_) line) e ∧ Fr Nil w w' := by
  have hone : oneF (s.data.toList.drop at_) line = numberF (runF (s.data.toList.drop at_)) line := by
    rw [drop_cons s at_ hat]
    unfold oneF
    simp only
    rw [if_neg (by simp [h1, h2]), if_pos h3]
  have hp := run_pos s at_ hat (by unfold wordC; simp [h3])
  have hle := run_le s at_
  obtain ⟨N, hN⟩ : ∃ N, (runF (s.data.toList.drop at_)).length = N := ⟨_, rfl⟩
  have hext := ext_run s at_ N hN
  have hrun := fun w => run_any s at_ w hs (by omega)
  rw [hN] at hp hle
  simp only [hN] at hrun
  obtain ⟨X, hX⟩ : ∃ X, s.extract at_ (at_ + N) = X := ⟨_, rfl⟩
  have hXs : X.size = N := by rw [← hX]; simp; omega
  rw [hX] at hext
  rw [hone, ← hext]
  obtain ⟨t, e, ht⟩ : ∃ t e, numberF X.data.toList line = (t, e) := ⟨_, _, rfl⟩
  have hnum := fun kd f0 b0 w => rnumber_any kd f0 b0 line X w (by omega) (by omega)
  rw [ht]
  simp only [ht, tokV_mk] at hnum
  have i0 : (0 : Int) ≤ (at_ : Int) := by omega
  have i1 : (at_ : Int) < (s.size : Int) := by omega
  have i2 : (at_ : Int) + (N : Int) ≤ (s.size : Int) := by omega
  have HRUN := Lib.hid hrun
  have HNUM := Lib.hid hnum
  clear hone hN hXs hext hrun hnum ht
  go_enter Tryz.func43, Tryz.ntmps43
  go_wp2_with (first
    | (go_at_call 77; refine (small_any _ _).mono ?_; rintro e w1 ⟨rfl, rfl⟩)
    | (go_at_call 78; refine (cap_any _ _).mono ?_; rintro e w1 ⟨rfl, rfl⟩)
    | (go_at_call 81; refine (dig_any _ _).mono ?_; rintro e w1 ⟨rfl, rfl⟩)
    | (go_at_call 79; refine (HRUN.out _).mono ?_; rintro e w1 ⟨rfl, rfl⟩)
    | (go_at_call 82; refine (HNUM.out _ _ _ _).mono ?_; rintro e1 w2 ⟨rfl, f2⟩; obtain ⟨_, _, _⟩ := f2.at (w.heap.size) (by first | assumption | omega | (simp; done) | (simp; omega)); obtain ⟨_, _, _⟩ := f2.at (w.heap.size + 1) (by first | assumption | omega | (simp; done) | (simp; omega))))
  refine bodyPost_ret (v := .tuple #[tokV t, .int .i64 e]) (by simp [tokV_mk, results, Tryz.results43, go_sem, *]) rfl ⟨OneRes.of rfl, ?_⟩
  (repeat (first | (with_reducible exact Fr.refl _ _) | (with_reducible assumption) | (with_reducible exact Fr.of_nil (by assumption)) | (with_reducible refine Fr.drew ?_) | (with_reducible refine Fr.drewN ?_ _) | (with_reducible refine Fr.alloc ?_ _) | (with_reducible refine Fr.set ?_ _ _ (by first | (intros; omega) | (simp; done) | (simp; omega))) | (with_reducible refine Fr.via ?_ (by assumption)) | (with_reducible refine Fr.comp ?_ (by assumption))))
end
end Go.Proofs.YtlnmicddobgppaaGreatDoor

namespace Go.Proofs.YtlnmicddobgppaaGreatDoor
set_option linter.unusedSimpArgs false
set_option linter.unusedVariables false
open Go.RowKit

theorem ext_hash (s : ByteArray) (at_ n N : Nat) (hN : (runF (s.data.toList.drop (at_ + n))).length = N) : (s.extract at_ (at_ + n + N)).data.toList = (s.data.toList.drop at_).take n ++ runF (s.data.toList.drop (at_ + n)) := by
  rw [extract_from, show at_ + n + N - at_ = n + N by omega, List.take_add, List.drop_drop]
  congr 1
  rw [← hN]
  exact (List.prefix_iff_eq_take.1 (runF_pre _)).symm
section
variable (s : ByteArray) (at_ line : Nat) (w : World) (hs : s.size ≤ 1000000) (hat : at_ < s.size)
include hs hat
set_option maxRecDepth 100000 in
set_option maxHeartbeats 1000000 in
theorem one_hash1_no (hc : s[at_].toNat = 35) (hm : s.size ≤ at_ + 1 ∨ ∃ h : at_ + 1 < s.size, s[at_ + 1].toNat ≠ 45) (hr : runF (s.data.toList.drop (at_ + 1)) = []) :
    Calls Tryz.prog 43 #[.string s, .int .i64 at_, .int .i64 line] w fun e w' => OneRes (oneF (s.data.toList.drop at_) line) e ∧ Fr Nil w w' := by
  have hu : s[at_] = 35 := u8_of hc rfl
  have q1 : smallC s[at_] = false := by rw [hu]; decide
  have q2 : capC s[at_] = false := by rw [hu]; decide
  have q3 : digC s[at_] = false := by rw [hu]; decide
  have q4 : ((s[at_].toNat : Int) == 35) = true := by rw [hc]; rfl
  have hh : ¬ (s.data.toList.drop (at_ + 1)).head? = some 45 := by
    rcases hm with hm | ⟨h1, hm⟩
    · rw [drop_end s _ hm]; simp
    · rw [drop_cons s _ h1]
      simp
      exact fun e => hm (by rw [e]; rfl)
  have k1 : decide ((at_ : Int) + 1 < (s.size : Int)) = false ∨ ∃ h : at_ + 1 < s.size, ((s[at_ + 1].toNat : Int) == 45) = false := by
    rcases hm with hm | ⟨h1, hm⟩
    · exact .inl (by simp; omega)
    · exact .inr ⟨h1, by simp; omega⟩
  have hrun : ∀ w, Calls Tryz.prog 79 #[.string s, .int .i64 ((at_ : Int) + 1)] w fun e w' => e = .returned (.int .i64 (runF (s.data.toList.drop (at_ + 1))).length) ∧ w = w' := fun w => by
    have := run_any s (at_ + 1) w hs (by omega)
    rwa [show ((at_ + 1 : Nat) : Int) = (at_ : Int) + 1 by omega] at this
  have hle := run_le s (at_ + 1)
  obtain ⟨N, hN⟩ : ∃ N, (runF (s.data.toList.drop (at_ + 1))).length = N := ⟨_, rfl⟩
  have hext := ext_hash s at_ 1 N hN
  simp only [hN] at hrun
  rw [hN] at hle
  have i0 : (0 : Int) ≤ (at_ : Int) := by omega
  have i1 : (at_ : Int) < (s.size : Int) := by omega
  have hone : oneF (s.data.toList.drop at_) line = (none_ line, 3) := by
    rw [drop_cons s at_ hat]
    unfold oneF
    simp only
    rw [if_neg (by simp [q1, q2]), if_neg (by simp [q3]), if_pos hu]
    rw [if_neg hh]
    rw [if_pos hr]
  rw [hone]
  rw [hr] at hN
  obtain rfl : N = 0 := by simpa using hN.symm
  have HRUN := Lib.hid hrun
  clear hone hrun hext hr hN hu hc hm hh
  rcases k1 with k1 | ⟨k0, k1⟩
  · go_enter Tryz.func43, Tryz.ntmps43
    go_wp2_with (first
        | (go_at_call 77; refine (small_any _ _).mono ?_; rintro e w1 ⟨rfl, rfl⟩)
        | (go_at_call 78; refine (cap_any _ _).mono ?_; rintro e w1 ⟨rfl, rfl⟩)
        | (go_at_call 81; refine (dig_any _ _).mono ?_; rintro e w1 ⟨rfl, rfl⟩)
        | (go_at_call 79; refine (HRUN.out _).mono ?_; rintro e w1 ⟨rfl, rfl⟩))
    refine bodyPost_ret (v := .tuple #[tokV (none_ line), .int .i64 3]) (by simp [tokV_mk, none_, results, Tryz.results43, go_sem, *] <;> rfl) rfl ⟨OneRes.of rfl, ?_⟩
    (repeat (first | (with_reducible exact Fr.refl _ _) | (with_reducible assumption) | (with_reducible exact Fr.of_nil (by assumption)) | (with_reducible refine Fr.drew ?_) | (with_reducible refine Fr.drewN ?_ _) | (with_reducible refine Fr.alloc ?_ _) | (with_reducible refine Fr.set ?_ _ _ (by first | (intros; omega) | (simp; done) | (simp; omega))) | (with_reducible refine Fr.via ?_ (by assumption)) | (with_reducible refine Fr.comp ?_ (by assumption))))
  · have k2 : (at_ : Int) + 1 < (s.size : Int) := by omega
    go_enter Tryz.func43, Tryz.ntmps43
    go_wp2_with (first
        | (go_at_call 77; refine (small_any _ _).mono ?_; rintro e w1 ⟨rfl, rfl⟩)
        | (go_at_call 78; refine (cap_any _ _).mono ?_; rintro e w1 ⟨rfl, rfl⟩)
        | (go_at_call 81; refine (dig_any _ _).mono ?_; rintro e w1 ⟨rfl, rfl⟩)
        | (go_at_call 79; refine (HRUN.out _).mono ?_; rintro e w1 ⟨rfl, rfl⟩))
    refine bodyPost_ret (v := .tuple #[tokV (none_ line), .int .i64 3]) (by simp [tokV_mk, none_, results, Tryz.results43, go_sem, *] <;> rfl) rfl ⟨OneRes.of rfl, ?_⟩
    (repeat (first | (with_reducible exact Fr.refl _ _) | (with_reducible assumption) | (with_reducible exact Fr.of_nil (by assumption)) | (with_reducible refine Fr.drew ?_) | (with_reducible refine Fr.drewN ?_ _) | (with_reducible refine Fr.alloc ?_ _) | (with_reducible refine Fr.set ?_ _ _ (by first | (intros; omega) | (simp; done) | (simp; omega))) | (with_reducible refine Fr.via ?_ (by assumption)) | (with_reducible refine Fr.comp ?_ (by assumption))))
set_option maxRecDepth 100000 in
set_option maxHeartbeats 1000000 in
theorem one_hash1_some (hc : s[at_].toNat = 35) (hm : s.size ≤ at_ + 1 ∨ ∃ h : at_ + 1 < s.size, s[at_ + 1].toNat ≠ 45) (hr : runF (s.data.toList.drop (at_ + 1)) ≠ []) :
    Calls Tryz.prog 43 #[.string s, .int .i64 at_, .int .i64 line] w fun e w' => OneRes (oneF (s.data.toList.drop at_) line) e ∧ Fr Nil w w' := by
  have hu : s[at_] = 35 := u8_of hc rfl
  have q1 : smallC s[at_] = false := by rw [hu]; decide
  have q2 : capC s[at_] = false := by rw [hu]; decide
  have q3 : digC s[at_] = false := by rw [hu]; decide
  have q4 : ((s[at_].toNat : Int) == 35) = true := by rw [hc]; rfl
  have hh : ¬ (s.data.toList.drop (at_ + 1)).head? = some 45 := by
    rcases hm with hm | ⟨h1, hm⟩
    · rw [drop_end s _ hm]; simp
    · rw [drop_cons s _ h1]
      simp
      exact fun e => hm (by rw [e]; rfl)
  have k1 : decide ((at_ : Int) + 1 < (s.size : Int)) = false ∨ ∃ h : at_ + 1 < s.size, ((s[at_ + 1].toNat : Int) == 45) = false := by
    rcases hm with hm | ⟨h1, hm⟩
    · exact .inl (by simp; omega)
    · exact .inr ⟨h1, by simp; omega⟩
  have hrun : ∀ w, Calls Tryz.prog 79 #[.string s, .int .i64 ((at_ : Int) + 1)] w fun e w' => e = .returned (.int .i64 (runF (s.data.toList.drop (at_ + 1))).length) ∧ w = w' := fun w => by
    have := run_any s (at_ + 1) w hs (by omega)
    rwa [show ((at_ + 1 : Nat) : Int) = (at_ : Int) + 1 by omega] at this
  have hle := run_le s (at_ + 1)
  obtain ⟨N, hN⟩ : ∃ N, (runF (s.data.toList.drop (at_ + 1))).length = N := ⟨_, rfl⟩
  have hext := ext_hash s at_ 1 N hN
  simp only [hN] at hrun
  rw [hN] at hle
  have i0 : (0 : Int) ≤ (at_ : Int) := by omega
  have i1 : (at_ : Int) < (s.size : Int) := by omega
  have hone : oneF (s.data.toList.drop at_) line = numberF (35 :: runF (s.data.toList.drop (at_ + 1))) line := by
    rw [drop_cons s at_ hat]
    unfold oneF
    simp only
    rw [if_neg (by simp [q1, q2]), if_neg (by simp [q3]), if_pos hu]
    rw [if_neg hh]
    rw [if_neg hr]
  have hp : 0 < N := by rw [← hN]; exact List.length_pos_iff.2 hr
  obtain ⟨X, hX⟩ : ∃ X, s.extract at_ (at_ + 1 + N) = X := ⟨_, rfl⟩
  have hXs : X.size = 1 + N := by rw [← hX]; simp; omega
  rw [hX] at hext
  have htx : (s.data.toList.drop at_).take 1 = [35] := by
    rw [drop_cons s at_ hat, hu]
    rfl
  rw [htx] at hext
  rw [hone, show 35 :: runF (s.data.toList.drop (at_ + 1)) = X.data.toList from hext.symm]
  obtain ⟨t, e, ht⟩ : ∃ t e, numberF X.data.toList line = (t, e) := ⟨_, _, rfl⟩
  have hnum := fun kd f0 b0 w => rnumber_any kd f0 b0 line X w (by omega) (by omega)
  rw [ht]
  simp only [ht, tokV_mk] at hnum
  have hN0 : ((N : Int) == 0) = false := by simp; omega
  have i3 : (at_ : Int) + 1 + (N : Int) ≤ (s.size : Int) := by omega
  have HRUN := Lib.hid hrun
  have HNUM := Lib.hid hnum
  clear hone hrun hext hr hN hu hc hm hh hnum ht htx hXs
  rcases k1 with k1 | ⟨k0, k1⟩
  · go_enter Tryz.func43, Tryz.ntmps43
    go_wp2_with (first
        | (go_at_call 77; refine (small_any _ _).mono ?_; rintro e w1 ⟨rfl, rfl⟩)
        | (go_at_call 78; refine (cap_any _ _).mono ?_; rintro e w1 ⟨rfl, rfl⟩)
        | (go_at_call 81; refine (dig_any _ _).mono ?_; rintro e w1 ⟨rfl, rfl⟩)
        | (go_at_call 79; refine (HRUN.out _).mono ?_; rintro e w1 ⟨rfl, rfl⟩)
        | (go_at_call 82; refine (HNUM.out _ _ _ _).mono ?_; rintro e1 w2 ⟨rfl, f2⟩; obtain ⟨_, _, _⟩ := f2.at (w.heap.size) (by first | assumption | omega | (simp; done) | (simp; omega)); obtain ⟨_, _, _⟩ := f2.at (w.heap.size + 1) (by first | assumption | omega | (simp; done) | (simp; omega))))
    refine bodyPost_ret (v := .tuple #[tokV t, .int .i64 e]) (by simp [tokV_mk, results, Tryz.results43, go_sem, *]) rfl ⟨OneRes.of rfl, ?_⟩
    (repeat (first | (with_reducible exact Fr.refl _ _) | (with_reducible assumption) | (with_reducible exact Fr.of_nil (by assumption)) | (with_reducible refine Fr.drew ?_) | (with_reducible refine Fr.drewN ?_ _) | (with_reducible refine Fr.alloc ?_ _) | (with_reducible refine Fr.set ?_ _ _ (by first | (intros; omega) | (simp; done) | (simp; omega))) | (with_reducible refine Fr.via ?_ (by assumption)) | (with_reducible refine Fr.comp ?_ (by assumption))))
  · have k2 : (at_ : Int) + 1 < (s.size : Int) := by omega
    go_enter Tryz.func43, Tryz.ntmps43
    go_wp2_with (first
        | (go_at_call 77; refine (small_any _ _).mono ?_; rintro e w1 ⟨rfl, rfl⟩)
        | (go_at_call 78; refine (cap_any _ _).mono ?_; rintro e w1 ⟨rfl, rfl⟩)
        | (go_at_call 81; refine (dig_any _ _).mono ?_; rintro e w1 ⟨rfl, rfl⟩)
        | (go_at_call 79; refine (HRUN.out _).mono ?_; rintro e w1 ⟨rfl, rfl⟩)
        | (go_at_call 82; refine (HNUM.out _ _ _ _).mono ?_; rintro e1 w2 ⟨rfl, f2⟩; obtain ⟨_, _, _⟩ := f2.at (w.heap.size) (by first | assumption | omega | (simp; done) | (simp; omega)); obtain ⟨_, _, _⟩ := f2.at (w.heap.size + 1) (by first | assumption | omega | (simp; done) | (simp; omega))))
    refine bodyPost_ret (v := .tuple #[tokV t, .int .i64 e]) (by simp [tokV_mk, results, Tryz.results43, go_sem, *]) rfl ⟨OneRes.of rfl, ?_⟩
    (repeat (first | (with_reducible exact Fr.refl _ _) | (with_reducible assumption) | (with_reducible exact Fr.of_nil (by assumption)) | (with_reducible refine Fr.drew ?_) | (with_reducible refine Fr.drewN ?_ _) | (with_reducible refine Fr.alloc ?_ _) | (with_reducible refine Fr.set ?_ _ _ (by first | (intros; omega) | (simp; done) | (simp; omega))) | (with_reducible refine Fr.via ?_ (by assumption)) | (with_reducible refine Fr.comp ?_ (by assumption))))
set_option maxRecDepth 100000 in
set_option maxHeartbeats 1000000 in
theorem one_hash2_no (hc : s[at_].toNat = 35) (hz : at_ + 1 < s.size) (hm : s[at_ + 1].toNat = 45) (hr : runF (s.data.toList.drop (at_ + 2)) = []) :
    Calls Tryz.prog 43 #[.string s, .int .i64 at_, .int .i64 line] w fun e w' => OneRes (oneF (s.data.toList.drop at_) line) e ∧ Fr Nil w w' := by
  have hu : s[at_] = 35 := u8_of hc rfl
  have q1 : smallC s[at_] = false := by rw [hu]; decide
  have q2 : capC s[at_] = false := by rw [hu]; decide
  have q3 : digC s[at_] = false := by rw [hu]; decide
  have q4 : ((s[at_].toNat : Int) == 35) = true := by rw [hc]; rfl
  have hh : (s.data.toList.drop (at_ + 1)).head? = some 45 := by
    rw [drop_cons s _ hz]
    exact congrArg some (u8_of (d := 45) hm rfl)
  have k1 : ((s[at_ + 1].toNat : Int) == 45) = true := by rw [hm]; rfl
  have k2 : (at_ : Int) + 1 < (s.size : Int) := by omega
  have hrun : ∀ w, Calls Tryz.prog 79 #[.string s, .int .i64 ((at_ : Int) + 2)] w fun e w' => e = .returned (.int .i64 (runF (s.data.toList.drop (at_ + 2))).length) ∧ w = w' := fun w => by
    have := run_any s (at_ + 2) w hs (by omega)
    rwa [show ((at_ + 2 : Nat) : Int) = (at_ : Int) + 2 by omega] at this
  have hle := run_le s (at_ + 2)
  obtain ⟨N, hN⟩ : ∃ N, (runF (s.data.toList.drop (at_ + 2))).length = N := ⟨_, rfl⟩
  have hext := ext_hash s at_ 2 N hN
  simp only [hN] at hrun
  rw [hN] at hle
  have i0 : (0 : Int) ≤ (at_ : Int) := by omega
  have i1 : (at_ : Int) < (s.size : Int) := by omega
  have hone : oneF (s.data.toList.drop at_) line = (none_ line, 3) := by
    rw [drop_cons s at_ hat]
    unfold oneF
    simp only
    rw [if_neg (by simp [q1, q2]), if_neg (by simp [q3]), if_pos hu]
    rw [if_pos hh]
    rw [show (List.drop 1 (s.data.toList.drop (at_ + 1))) = s.data.toList.drop (at_ + 2) by rw [List.drop_drop], if_pos hr]
  rw [hone]
  rw [hr] at hN
  obtain rfl : N = 0 := by simpa using hN.symm
  have HRUN := Lib.hid hrun
  clear hone hrun hext hr hN hu hc hm hh
  go_enter Tryz.func43, Tryz.ntmps43
  go_wp2_with (first
      | (go_at_call 77; refine (small_any _ _).mono ?_; rintro e w1 ⟨rfl, rfl⟩)
      | (go_at_call 78; refine (cap_any _ _).mono ?_; rintro e w1 ⟨rfl, rfl⟩)
      | (go_at_call 81; refine (dig_any _ _).mono ?_; rintro e w1 ⟨rfl, rfl⟩)
      | (go_at_call 79; refine (HRUN.out _).mono ?_; rintro e w1 ⟨rfl, rfl⟩))
  refine bodyPost_ret (v := .tuple #[tokV (none_ line), .int .i64 3]) (by simp [tokV_mk, none_, results, Tryz.results43, go_sem, *] <;> rfl) rfl ⟨OneRes.of rfl, ?_⟩
  (repeat (first | (with_reducible exact Fr.refl _ _) | (with_reducible assumption) | (with_reducible exact Fr.of_nil (by assumption)) | (with_reducible refine Fr.drew ?_) | (with_reducible refine Fr.drewN ?_ _) | (with_reducible refine Fr.alloc ?_ _) | (with_reducible refine Fr.set ?_ _ _ (by first | (intros; omega) | (simp; done) | (simp; omega))) | (with_reducible refine Fr.via ?_ (by assumption)) | (with_reducible refine Fr.comp ?_ (by assumption))))
set_option maxRecDepth 100000 in
set_option maxHeartbeats 1000000 in
theorem one_hash2_some (hc : s[at_].toNat = 35) (hz : at_ + 1 < s.size) (hm : s[at_ + 1].toNat = 45) (hr : runF (s.data.toList.drop (at_ + 2)) ≠ []) :
    Calls Tryz.prog 43 #[.string s, .int .i64 at_, .int .i64 line] w fun e w' => OneRes (oneF (s.data.toList.drop at_) line) e ∧ Fr Nil w w' := by
  have hu : s[at_] = 35 := u8_of hc rfl
  have q1 : smallC s[at_] = false := by rw [hu]; decide
  have q2 : capC s[at_] = false := by rw [hu]; decide
  have q3 : digC s[at_] = false := by rw [hu]; decide
  have q4 : ((s[at_].toNat : Int) == 35) = true := by rw [hc]; rfl
  have hh : (s.data.toList.drop (at_ + 1)).head? = some 45 := by
    rw [drop_cons s _ hz]
    exact congrArg some (u8_of (d := 45) hm rfl)
  have k1 : ((s[at_ + 1].toNat : Int) == 45) = true := by rw [hm]; rfl
  have k2 : (at_ : Int) + 1 < (s.size : Int) := by omega
  have hrun : ∀ w, Calls Tryz.prog 79 #[.string s, .int .i64 ((at_ : Int) + 2)] w fun e w' => e = .returned (.int .i64 (runF (s.data.toList.drop (at_ + 2))).length) ∧ w = w' := fun w => by
    have := run_any s (at_ + 2) w hs (by omega)
    rwa [show ((at_ + 2 : Nat) : Int) = (at_ : Int) + 2 by omega] at this
  have hle := run_le s (at_ + 2)
  obtain ⟨N, hN⟩ : ∃ N, (runF (s.data.toList.drop (at_ + 2))).length = N := ⟨_, rfl⟩
  have hext := ext_hash s at_ 2 N hN
  simp only [hN] at hrun
  rw [hN] at hle
  have i0 : (0 : Int) ≤ (at_ : Int) := by omega
  have i1 : (at_ : Int) < (s.size : Int) := by omega
  have hone : oneF (s.data.toList.drop at_) line = numberF (35 :: 45 :: runF (s.data.toList.drop (at_ + 2))) line := by
    rw [drop_cons s at_ hat]
    unfold oneF
    simp only
    rw [if_neg (by simp [q1, q2]), if_neg (by simp [q3]), if_pos hu]
    rw [if_pos hh]
    rw [show (List.drop 1 (s.data.toList.drop (at_ + 1))) = s.data.toList.drop (at_ + 2) by rw [List.drop_drop], if_neg hr]
  have hp : 0 < N := by rw [← hN]; exact List.length_pos_iff.2 hr
  obtain ⟨X, hX⟩ : ∃ X, s.extract at_ (at_ + 2 + N) = X := ⟨_, rfl⟩
  have hXs : X.size = 2 + N := by rw [← hX]; simp; omega
  rw [hX] at hext
  have htx : (s.data.toList.drop at_).take 2 = [35, 45] := by
    rw [drop_cons s at_ hat, hu]
    rw [List.take_succ_cons, drop_cons s (at_ + 1) hz, show s[at_ + 1] = 45 from u8_of hm rfl]; rfl
  rw [htx] at hext
  rw [hone, show 35 :: 45 :: runF (s.data.toList.drop (at_ + 2)) = X.data.toList from hext.symm]
  obtain ⟨t, e, ht⟩ : ∃ t e, numberF X.data.toList line = (t, e) := ⟨_, _, rfl⟩
  have hnum := fun kd f0 b0 w => rnumber_any kd f0 b0 line X w (by omega) (by omega)
  rw [ht]
  simp only [ht, tokV_mk] at hnum
  have hN0 : ((N : Int) == 0) = false := by simp; omega
  have i3 : (at_ : Int) + 2 + (N : Int) ≤ (s.size : Int) := by omega
  have HRUN := Lib.hid hrun
  have HNUM := Lib.hid hnum
  clear hone hrun hext hr hN hu hc hm hh hnum ht htx hXs
  go_enter Tryz.func43, Tryz.ntmps43
  go_wp2_with (first
      | (go_at_call 77; refine (small_any _ _).mono ?_; rintro e w1 ⟨rfl, rfl⟩)
      | (go_at_call 78; refine (cap_any _ _).mono ?_; rintro e w1 ⟨rfl, rfl⟩)
      | (go_at_call 81; refine (dig_any _ _).mono ?_; rintro e w1 ⟨rfl, rfl⟩)
      | (go_at_call 79; refine (HRUN.out _).mono ?_; rintro e w1 ⟨rfl, rfl⟩)
      | (go_at_call 82; refine (HNUM.out _ _ _ _).mono ?_; rintro e1 w2 ⟨rfl, f2⟩; obtain ⟨_, _, _⟩ := f2.at (w.heap.size) (by first | assumption | omega | (simp; done) | (simp; omega)); obtain ⟨_, _, _⟩ := f2.at (w.heap.size + 1) (by first | assumption | omega | (simp; done) | (simp; omega))))
  refine bodyPost_ret (v := .tuple #[tokV t, .int .i64 e]) (by simp [tokV_mk, results, Tryz.results43, go_sem, *]) rfl ⟨OneRes.of rfl, ?_⟩
  (repeat (first | (with_reducible exact Fr.refl _ _) | (with_reducible assumption) | (with_reducible exact Fr.of_nil (by assumption)) | (with_reducible refine Fr.drew ?_) | (with_reducible refine Fr.drewN ?_ _) | (with_reducible refine Fr.alloc ?_ _) | (with_reducible refine Fr.set ?_ _ _ (by first | (intros; omega) | (simp; done) | (simp; omega))) | (with_reducible refine Fr.via ?_ (by assumption)) | (with_reducible refine Fr.comp ?_ (by assumption))))
end
end Go.Proofs.YtlnmicddobgppaaGreatDoor

namespace Go.Proofs.YtlnmicddobgppaaGreatDoor
set_option linter.unusedSimpArgs false
set_option linter.unusedVariables false
open Go.RowKit

section
variable (s : ByteArray) (at_ line : Nat) (w : World) (hs : s.size ≤ 1000000) (hat : at_ < s.size)
include hs hat
set_option maxRecDepth 100000 in
set_option maxHeartbeats 1000000 in
theorem one_sign (h1 : smallC s[at_] = false) (h2 : capC s[at_] = false) (h3 : digC s[at_] = false) (h4 : s[at_].toNat ≠ 35) :
    Calls Tryz.prog 43 #[.string s, .int .i64 at_, .int .i64 line] w fun e w' => OneRes (oneF (s.data.toList.drop at_) line) e ∧ Fr Nil w w' := by
  have hone : oneF (s.data.toList.drop at_) line = (if (longF (s.data.toList.drop at_) opsL).length < (longF (s.data.toList.drop at_) punctsL).length then (⟨6, longF (s.data.toList.drop at_) punctsL, false, 0, line⟩, 0) else if longF (s.data.toList.drop at_) opsL = [] then (none_ line, 3) else (⟨4, longF (s.data.toList.drop at_) opsL, false, 0, line⟩, 0)) := by
    rw [drop_cons s at_ hat]
    unfold oneF
    simp only
    rw [if_neg (by simp [h1, h2]), if_neg (by simp [h3]), if_neg (fun e => h4 (by rw [e]; rfl))]
  have hl1 := fun b w hb => longest_any s at_ b opsL w hs (by omega) (by decide) (by decide) hb
  have hl2 := fun b w hb => longest_any s at_ b punctsL w hs (by omega) (by decide) (by decide) hb
  rw [show opsL.length = 13 by decide] at hl1
  rw [show punctsL.length = 8 by decide] at hl2
  have p1 := (longF_pre (s.data.toList.drop at_) opsL).length_le
  have p2 := (longF_pre (s.data.toList.drop at_) punctsL).length_le
  rw [List.length_drop, size_of] at p1 p2
  rw [hone]
  generalize longF (s.data.toList.drop at_) opsL = o at *
  generalize longF (s.data.toList.drop at_) punctsL = p at *
  obtain ⟨O, hO⟩ : ∃ O : ByteArray, O = ⟨o.toArray⟩ := ⟨_, rfl⟩
  obtain ⟨P, hP⟩ : ∃ P : ByteArray, P = ⟨p.toArray⟩ := ⟨_, rfl⟩
  have o1 : O.size = o.length := by rw [hO]; simp [ByteArray.size]
  have o2 : P.size = p.length := by rw [hP]; simp [ByteArray.size]
  have o3 : O.data.toList = o := by rw [hO]
  have o4 : P.data.toList = p := by rw [hP]
  have t3 : ((s[at_].toNat : Int) == 35) = false := by simp; omega
  rw [← hO] at hl1
  rw [← hP] at hl2
  have i0 : (0 : Int) ≤ (at_ : Int) := by omega
  have i1 : (at_ : Int) < (s.size : Int) := by omega
  have HL1 := Lib.hid hl1
  have HL2 := Lib.hid hl2
  have HO := Lib.hid (And.intro o1 (And.intro o2 (And.intro o3 o4)))
  have hb1 : O.size ≤ 1000000 := by omega
  have hb2 : P.size ≤ 1000000 := by omega
  clear hone hl1 hl2 hO hP o1 o2 o3 o4 p1 p2 h4
  by_cases g : o.length < p.length
  · rw [if_pos g]
    have g1 : (O.size : Int) < (P.size : Int) := by have := HO.out; omega
    have g2 : P.toList.isEmpty = false := by
      rw [Lib.toList_data, HO.out.2.2.2]
      cases p with
      | nil => simp at g
      | cons a b => rfl
    clear g
    go_enter Tryz.func43, Tryz.ntmps43
    go_wp2_with (first
      | (go_at_call 77; refine (small_any _ _).mono ?_; rintro e w1 ⟨rfl, rfl⟩)
      | (go_at_call 78; refine (cap_any _ _).mono ?_; rintro e w1 ⟨rfl, rfl⟩)
      | (go_at_call 81; refine (dig_any _ _).mono ?_; rintro e w1 ⟨rfl, rfl⟩)
      | fail)
    refine (ops_any _).mono ?_
    rintro e w2 ⟨bo, rfl, bk, f2⟩
    obtain ⟨_, _, _⟩ := f2.at (w.heap.size) (by first | assumption | omega | (simp; done) | (simp; omega)); obtain ⟨_, _, _⟩ := f2.at (w.heap.size + 1) (by first | assumption | omega | (simp; done) | (simp; omega))
    have ff2 : Fr Nil w w2 := Fr.trans (by (repeat (first | (with_reducible exact Fr.refl _ _) | (with_reducible assumption) | (with_reducible exact Fr.of_nil (by assumption)) | (with_reducible refine Fr.drew ?_) | (with_reducible refine Fr.drewN ?_ _) | (with_reducible refine Fr.alloc ?_ _) | (with_reducible refine Fr.set ?_ _ _ (by first | (intros; omega) | (simp; done) | (simp; omega))) | (with_reducible refine Fr.via ?_ (by assumption)) | (with_reducible refine Fr.comp ?_ (by assumption))))) f2 (fun _ _ q => q)
    go_wp2_with fail
    refine (HL1.out bo _ bk).mono ?_
    rintro e w3 ⟨rfl, f3⟩
    have ff3 := ff2.comp f3
    obtain ⟨_, _, _⟩ := f3.at ((w.heap.size)) (by first | assumption | omega | (simp; done) | (simp; omega)); obtain ⟨_, _, _⟩ := f3.at ((w.heap.size + 1)) (by first | assumption | omega | (simp; done) | (simp; omega))
    go_wp2_with fail
    refine (puncts_any _).mono ?_
    rintro e w4 ⟨bp, rfl, bk', f4⟩
    have ff4 := ff3.comp f4
    obtain ⟨_, _, _⟩ := f4.at ((w.heap.size)) (by first | assumption | omega | (simp; done) | (simp; omega)); obtain ⟨_, _, _⟩ := f4.at ((w.heap.size + 1)) (by first | assumption | omega | (simp; done) | (simp; omega))
    go_wp2_with fail
    refine (HL2.out bp _ bk').mono ?_
    rintro e w5 ⟨rfl, f5⟩
    have ff5 := ff4.comp f5
    obtain ⟨_, _, _⟩ := f5.at ((w.heap.size)) (by first | assumption | omega | (simp; done) | (simp; omega)); obtain ⟨_, _, _⟩ := f5.at ((w.heap.size + 1)) (by first | assumption | omega | (simp; done) | (simp; omega))
    have b2 := f2.blk (b := w.heap.size + 1) (c := #[.int .i64 0, .string ⟨#[]⟩, .bool false, .int .u64 0, .int .i64 line]) (t := 41) (by (unfold Blk; simp (disch := first | omega | (simp; done) | (simp; omega)) only [hp_drew, hp_drewN, hp_alloc, hp_other, hp_same, hp_new, upd_cells, Option.map_some])) (by simp [Nil])
    have r2 := f2.blk (b := w.heap.size) (c := #[.int .i64 0, .string ⟨#[]⟩, .bool false, .int .u64 0, .int .i64 0]) (t := 41) (by (unfold Blk; simp (disch := first | omega | (simp; done) | (simp; omega)) only [hp_drew, hp_drewN, hp_alloc, hp_other, hp_same, hp_new, upd_cells, Option.map_some])) (by simp [Nil])
    have f25 := (f3.comp f4).comp f5
    have b5 := f25.blk b2 (by simp [Nil])
    have r5 := f25.blk r2 (by simp [Nil])
    clear bk bk' b2 r2
    go_upto_region 23 with fail
    obtain ⟨V, hV⟩ : ∃ V, V = (w5.setCell ⟨w.heap.size + 1, 0, none⟩ (.int .i64 4)).setCell ⟨w.heap.size + 1, 1, none⟩ (.string O) := ⟨_, rfl⟩
    rw [← hV]
    have bV : Blk V (w.heap.size + 1) #[.int .i64 4, .string O, .bool false, .int .u64 0, .int .i64 line] 41 := by
      rw [hV]; (unfold Blk; simp (disch := first | omega | (simp; done) | (simp; omega)) only [hp_drew, hp_drewN, hp_alloc, hp_other, hp_same, hp_new, upd_cells, Option.map_some, (b5).eq]); simp
    have rV : Blk V w.heap.size #[.int .i64 0, .string ⟨#[]⟩, .bool false, .int .u64 0, .int .i64 0] 41 := by
      rw [hV]; (unfold Blk; simp (disch := first | omega | (simp; done) | (simp; omega)) only [hp_drew, hp_drewN, hp_alloc, hp_other, hp_same, hp_new, upd_cells, Option.map_some, (r5).eq])
    have fV : Fr Nil w V := by rw [hV]; (repeat (first | (with_reducible exact Fr.refl _ _) | (with_reducible assumption) | (with_reducible exact Fr.of_nil (by assumption)) | (with_reducible refine Fr.drew ?_) | (with_reducible refine Fr.drewN ?_ _) | (with_reducible refine Fr.alloc ?_ _) | (with_reducible refine Fr.set ?_ _ _ (by first | (intros; omega) | (simp; done) | (simp; omega))) | (with_reducible refine Fr.via ?_ (by assumption)) | (with_reducible refine Fr.comp ?_ (by assumption))))
    clear hV b5 r5
    have p0 := bV.cell 0
    have x0 := bV.free 0
    have q0 := rV.cell 0
    have y0 := rV.free 0
    have p1 := bV.cell 1
    have x1 := bV.free 1
    have q1 := rV.cell 1
    have y1 := rV.free 1
    have p2 := bV.cell 2
    have x2 := bV.free 2
    have q2 := rV.cell 2
    have y2 := rV.free 2
    have p3 := bV.cell 3
    have x3 := bV.free 3
    have q3 := rV.cell 3
    have y3 := rV.free 3
    have p4 := bV.cell 4
    have x4 := bV.free 4
    have q4 := rV.cell 4
    have y4 := rV.free 4
    simp at p0 p1 p2 p3 p4 q0 q1 q2 q3 q4
    have l1 := bV.lt
    have l2 := rV.lt
    go_wp2
    refine bodyPost_ret (v := .tuple #[.agg #[.int .i64 6, .string P, .bool false, .int .u64 ((0 : Nat) : Int), .int .i64 (line : Int)], .int .i64 0]) (by simp [results, Tryz.results43, go_sem, *]) rfl ⟨?_, by (repeat (first | (with_reducible exact Fr.refl _ _) | (with_reducible assumption) | (with_reducible exact Fr.of_nil (by assumption)) | (with_reducible refine Fr.drew ?_) | (with_reducible refine Fr.drewN ?_ _) | (with_reducible refine Fr.alloc ?_ _) | (with_reducible refine Fr.set ?_ _ _ (by first | (intros; omega) | (simp; done) | (simp; omega))) | (with_reducible refine Fr.via ?_ (by assumption)) | (with_reducible refine Fr.comp ?_ (by assumption))))⟩
    rw [tok_ret HO.out.2.2.2]
    exact OneRes.of rfl
  · rw [if_neg g]
    have g1 : ¬ (O.size : Int) < (P.size : Int) := by have := HO.out; omega
    clear g
    by_cases g0 : o = []
    · rw [if_pos g0]
      have g2 : O.toList.isEmpty = true := by rw [Lib.toList_data, HO.out.2.2.1, g0]; rfl
      have g3 : O.toList = [] := by rw [Lib.toList_data, HO.out.2.2.1, g0]
      clear g0
      go_enter Tryz.func43, Tryz.ntmps43
      go_wp2_with (first
        | (go_at_call 77; refine (small_any _ _).mono ?_; rintro e w1 ⟨rfl, rfl⟩)
        | (go_at_call 78; refine (cap_any _ _).mono ?_; rintro e w1 ⟨rfl, rfl⟩)
        | (go_at_call 81; refine (dig_any _ _).mono ?_; rintro e w1 ⟨rfl, rfl⟩)
        | fail)
      refine (ops_any _).mono ?_
      rintro e w2 ⟨bo, rfl, bk, f2⟩
      obtain ⟨_, _, _⟩ := f2.at (w.heap.size) (by first | assumption | omega | (simp; done) | (simp; omega)); obtain ⟨_, _, _⟩ := f2.at (w.heap.size + 1) (by first | assumption | omega | (simp; done) | (simp; omega))
      have ff2 : Fr Nil w w2 := Fr.trans (by (repeat (first | (with_reducible exact Fr.refl _ _) | (with_reducible assumption) | (with_reducible exact Fr.of_nil (by assumption)) | (with_reducible refine Fr.drew ?_) | (with_reducible refine Fr.drewN ?_ _) | (with_reducible refine Fr.alloc ?_ _) | (with_reducible refine Fr.set ?_ _ _ (by first | (intros; omega) | (simp; done) | (simp; omega))) | (with_reducible refine Fr.via ?_ (by assumption)) | (with_reducible refine Fr.comp ?_ (by assumption))))) f2 (fun _ _ q => q)
      go_wp2_with fail
      refine (HL1.out bo _ bk).mono ?_
      rintro e w3 ⟨rfl, f3⟩
      have ff3 := ff2.comp f3
      obtain ⟨_, _, _⟩ := f3.at ((w.heap.size)) (by first | assumption | omega | (simp; done) | (simp; omega)); obtain ⟨_, _, _⟩ := f3.at ((w.heap.size + 1)) (by first | assumption | omega | (simp; done) | (simp; omega))
      go_wp2_with fail
      refine (puncts_any _).mono ?_
      rintro e w4 ⟨bp, rfl, bk', f4⟩
      have ff4 := ff3.comp f4
      obtain ⟨_, _, _⟩ := f4.at ((w.heap.size)) (by first | assumption | omega | (simp; done) | (simp; omega)); obtain ⟨_, _, _⟩ := f4.at ((w.heap.size + 1)) (by first | assumption | omega | (simp; done) | (simp; omega))
      go_wp2_with fail
      refine (HL2.out bp _ bk').mono ?_
      rintro e w5 ⟨rfl, f5⟩
      have ff5 := ff4.comp f5
      obtain ⟨_, _, _⟩ := f5.at ((w.heap.size)) (by first | assumption | omega | (simp; done) | (simp; omega)); obtain ⟨_, _, _⟩ := f5.at ((w.heap.size + 1)) (by first | assumption | omega | (simp; done) | (simp; omega))
      go_wp2
      refine bodyPost_ret (v := .tuple #[.agg #[.int .i64 4, .string O, .bool false, .int .u64 ((0 : Nat) : Int), .int .i64 (line : Int)], .int .i64 3]) (by simp [results, Tryz.results43, go_sem, *]) rfl ⟨?_, by (repeat (first | (with_reducible exact Fr.refl _ _) | (with_reducible assumption) | (with_reducible exact Fr.of_nil (by assumption)) | (with_reducible refine Fr.drew ?_) | (with_reducible refine Fr.drewN ?_ _) | (with_reducible refine Fr.alloc ?_ _) | (with_reducible refine Fr.set ?_ _ _ (by first | (intros; omega) | (simp; done) | (simp; omega))) | (with_reducible refine Fr.via ?_ (by assumption)) | (with_reducible refine Fr.comp ?_ (by assumption))))⟩
      rw [tok_ret HO.out.2.2.1]
      exact ⟨_, rfl, fun q => absurd (show (3 : Int) = 0 from q) (by decide)⟩
    · rw [if_neg g0]
      have g2 : O.toList.isEmpty = false := by
        rw [Lib.toList_data, HO.out.2.2.1]
        cases o with
        | nil => exact absurd rfl g0
        | cons a b => rfl
      clear g0
      go_enter Tryz.func43, Tryz.ntmps43
      go_wp2_with (first
        | (go_at_call 77; refine (small_any _ _).mono ?_; rintro e w1 ⟨rfl, rfl⟩)
        | (go_at_call 78; refine (cap_any _ _).mono ?_; rintro e w1 ⟨rfl, rfl⟩)
        | (go_at_call 81; refine (dig_any _ _).mono ?_; rintro e w1 ⟨rfl, rfl⟩)
        | fail)
      refine (ops_any _).mono ?_
      rintro e w2 ⟨bo, rfl, bk, f2⟩
      obtain ⟨_, _, _⟩ := f2.at (w.heap.size) (by first | assumption | omega | (simp; done) | (simp; omega)); obtain ⟨_, _, _⟩ := f2.at (w.heap.size + 1) (by first | assumption | omega | (simp; done) | (simp; omega))
      have ff2 : Fr Nil w w2 := Fr.trans (by (repeat (first | (with_reducible exact Fr.refl _ _) | (with_reducible assumption) | (with_reducible exact Fr.of_nil (by assumption)) | (with_reducible refine Fr.drew ?_) | (with_reducible refine Fr.drewN ?_ _) | (with_reducible refine Fr.alloc ?_ _) | (with_reducible refine Fr.set ?_ _ _ (by first | (intros; omega) | (simp; done) | (simp; omega))) | (with_reducible refine Fr.via ?_ (by assumption)) | (with_reducible refine Fr.comp ?_ (by assumption))))) f2 (fun _ _ q => q)
      go_wp2_with fail
      refine (HL1.out bo _ bk).mono ?_
      rintro e w3 ⟨rfl, f3⟩
      have ff3 := ff2.comp f3
      obtain ⟨_, _, _⟩ := f3.at ((w.heap.size)) (by first | assumption | omega | (simp; done) | (simp; omega)); obtain ⟨_, _, _⟩ := f3.at ((w.heap.size + 1)) (by first | assumption | omega | (simp; done) | (simp; omega))
      go_wp2_with fail
      refine (puncts_any _).mono ?_
      rintro e w4 ⟨bp, rfl, bk', f4⟩
      have ff4 := ff3.comp f4
      obtain ⟨_, _, _⟩ := f4.at ((w.heap.size)) (by first | assumption | omega | (simp; done) | (simp; omega)); obtain ⟨_, _, _⟩ := f4.at ((w.heap.size + 1)) (by first | assumption | omega | (simp; done) | (simp; omega))
      go_wp2_with fail
      refine (HL2.out bp _ bk').mono ?_
      rintro e w5 ⟨rfl, f5⟩
      have ff5 := ff4.comp f5
      obtain ⟨_, _, _⟩ := f5.at ((w.heap.size)) (by first | assumption | omega | (simp; done) | (simp; omega)); obtain ⟨_, _, _⟩ := f5.at ((w.heap.size + 1)) (by first | assumption | omega | (simp; done) | (simp; omega))
      go_wp2
      refine bodyPost_ret (v := .tuple #[.agg #[.int .i64 4, .string O, .bool false, .int .u64 ((0 : Nat) : Int), .int .i64 (line : Int)], .int .i64 0]) (by simp [results, Tryz.results43, go_sem, *]) rfl ⟨?_, by (repeat (first | (with_reducible exact Fr.refl _ _) | (with_reducible assumption) | (with_reducible exact Fr.of_nil (by assumption)) | (with_reducible refine Fr.drew ?_) | (with_reducible refine Fr.drewN ?_ _) | (with_reducible refine Fr.alloc ?_ _) | (with_reducible refine Fr.set ?_ _ _ (by first | (intros; omega) | (simp; done) | (simp; omega))) | (with_reducible refine Fr.via ?_ (by assumption)) | (with_reducible refine Fr.comp ?_ (by assumption))))⟩
      rw [tok_ret HO.out.2.2.1]
      exact OneRes.of rfl
theorem one_any : Calls Tryz.prog 43 #[.string s, .int .i64 at_, .int .i64 line] w fun e w' => OneRes (oneF (s.data.toList.drop at_) line) e ∧ Fr Nil w w' := by
  by_cases h1 : smallC s[at_] = true
  · exact one_word s at_ line w hs hat (.inl h1)
  · rw [Bool.not_eq_true] at h1
    by_cases h2 : capC s[at_] = true
    · exact one_word s at_ line w hs hat (.inr ⟨h1, h2⟩)
    · rw [Bool.not_eq_true] at h2
      by_cases h3 : digC s[at_] = true
      · exact one_digit s at_ line w hs hat h1 h2 h3
      · rw [Bool.not_eq_true] at h3
        by_cases h4 : s[at_].toNat = 35
        · by_cases h5 : ∃ h : at_ + 1 < s.size, s[at_ + 1].toNat = 45
          · obtain ⟨hz, hm⟩ := h5
            by_cases hr : runF (s.data.toList.drop (at_ + 2)) = []
            · exact one_hash2_no s at_ line w hs hat h4 hz hm hr
            · exact one_hash2_some s at_ line w hs hat h4 hz hm hr
          · have hm : s.size ≤ at_ + 1 ∨ ∃ h : at_ + 1 < s.size, s[at_ + 1].toNat ≠ 45 := by
              rcases Nat.lt_or_ge (at_ + 1) s.size with q | q
              · exact .inr ⟨q, fun e => h5 ⟨q, e⟩⟩
              · exact .inl q
            by_cases hr : runF (s.data.toList.drop (at_ + 1)) = []
            · exact one_hash1_no s at_ line w hs hat h4 hm hr
            · exact one_hash1_some s at_ line w hs hat h4 hm hr
        · exact one_sign s at_ line w hs hat h1 h2 h3 h4
end
end Go.Proofs.YtlnmicddobgppaaGreatDoor
