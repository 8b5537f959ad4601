/-
  Contracts of the document's answer for layer 7: the token that stands at a place: words and numbers. No conditions but sizes that memory bears.
-/
import Derived.Test.YthpenpgcacikaaaRef07e
namespace Go.Proofs.Ythpenpgcacikaaa
set_option linter.unusedSimpArgs false
set_option linter.unusedVariables false
open Go.RowKit

/-- A token is told, if there is no error: just so. -/
def OneRes (p : TokV × Int) (e : Ending) : Prop := ∃ t : TokV, e = .returned (.tuple #[tokV t, .int .i64 p.2]) ∧ (p.2 = 0 → t = p.1)
theorem OneRes.of {p : TokV × Int} {t : TokV} {e : Int} (h : p = (t, e)) : OneRes p (.returned (.tuple #[tokV t, .int .i64 e])) := by subst h; exact ⟨t, rfl, fun _ => rfl⟩
theorem ext_run (s : ByteArray) (at_ n : Nat) (h : (runF (s.data.toList.drop at_)).length = n) : (s.extract at_ (at_ + n)).data.toList = runF (s.data.toList.drop at_) := by
  rw [extract_from, show at_ + n - at_ = n by omega, ← h]
  exact (List.prefix_iff_eq_take.1 (runF_pre _)).symm
theorem size_of (s : ByteArray) : s.data.toList.length = s.size := by simp
theorem mk_bytes (s : ByteArray) : (⟨s.data.toList.toArray⟩ : ByteArray) = s := bytes_eq _ _ (by simp)
theorem run_pos (s : ByteArray) (a : Nat) (h : a < s.size) (hw : wordC s[a] = true) : 0 < (runF (s.data.toList.drop a)).length := by
  rw [drop_cons s a h]
  simp [runF, List.takeWhile, hw]
theorem tok_ret {k : Int} {s : ByteArray} {f : Bool} {b line : Nat} {e : Int} {l : List UInt8} (h : s.data.toList = l) : Ending.returned (.tuple #[.agg #[.int .i64 k, .string s, .bool f, .int .u64 (b : Int), .int .i64 (line : Int)], .int .i64 e]) = .returned (.tuple #[tokV ⟨k, l, f, b, line⟩, .int .i64 e]) := by
  unfold tokV
  rw [← h, mk_bytes]
section
variable (s : ByteArray) (at_ line : Nat) (w : World) (hs : s.size ≤ 1000000) (hat : at_ < s.size)
include hs hat
set_option maxRecDepth 100000 in
set_option maxHeartbeats 1000000 in
theorem one_word (hc : smallC s[at_] = true ∨ (smallC s[at_] = false ∧ capC s[at_] = true)) :
    Calls Try.prog 36 #[.string s, .int .i64 at_, .int .i64 line] w fun e w' => OneRes (oneF (s.data.toList.drop at_) line) e ∧ Fr Nil w w' := by
  have hone : oneF (s.data.toList.drop at_) line = (⟨kindF (runF (s.data.toList.drop at_)), runF (s.data.toList.drop at_), false, 0, line⟩, if 16 < (runF (s.data.toList.drop at_)).length then 9 else 0) := by
    rw [drop_cons s at_ hat]
    unfold oneF
    simp only
    rw [if_pos (by rcases hc with q | ⟨_, q⟩ <;> simp [q])]
  have hp := run_pos s at_ hat (by unfold wordC; rcases hc with q | ⟨_, q⟩ <;> simp [q])
  have hle := run_le s at_
  obtain ⟨N, hN⟩ : ∃ N, (runF (s.data.toList.drop at_)).length = N := ⟨_, rfl⟩
  have hext := ext_run s at_ N hN
  have hrun := fun w => run_any s at_ w hs (by omega)
  rw [hN] at hp hle hone
  simp only [hN] at hrun
  obtain ⟨X, hX⟩ : ∃ X, s.extract at_ (at_ + N) = X := ⟨_, rfl⟩
  have hXs : X.size = N := by rw [← hX]; simp; omega
  rw [hX] at hext
  rw [hone]
  have i0 : (0 : Int) ≤ (at_ : Int) := by omega
  have i1 : (at_ : Int) < (s.size : Int) := by omega
  have i2 : (at_ : Int) + (N : Int) ≤ (s.size : Int) := by omega
  have HXS := Lib.hid hXs
  have HE := Lib.hid hext
  have HRUN := Lib.hid hrun
  clear hone hN hXs hext hrun
  by_cases h16 : 16 < N
  · have j1 : decide ((16 : Int) < (X.size : Int)) = true := by rw [HXS.out]; simp; omega
    have j2 : (16 : Int) < (X.size : Int) := by rw [HXS.out]; omega
    rw [if_pos h16]
    rcases hc with q | ⟨q0, q⟩
    all_goals
      go_enter Try.func36, Try.ntmps36
      go_wp2_with (first
        | (go_at_call 49; refine (small_any _ _).mono ?_; rintro e w1 ⟨rfl, rfl⟩)
        | (go_at_call 50; refine (cap_any _ _).mono ?_; rintro e w1 ⟨rfl, rfl⟩)
        | (go_at_call 51; refine (HRUN.out _).mono ?_; rintro e w1 ⟨rfl, rfl⟩)
        | (go_at_call 52; refine (kind_any X _ (by rw [HXS.out]; exact hp)).mono ?_; rintro e w1 ⟨rfl, rfl⟩))
      refine bodyPost_ret (v := .tuple #[.agg #[.int .i64 (kindF X.data.toList), .string X, .bool false, .int .u64 ((0 : Nat) : Int), .int .i64 (line : Int)], .int .i64 9]) (by simp [results, Try.results36, go_sem, *]) rfl ⟨?_, ?_⟩
      · rw [tok_ret HE.out, HE.out]
        exact OneRes.of rfl
      · (repeat (first | (with_reducible exact Fr.refl _ _) | (with_reducible assumption) | (with_reducible exact Fr.of_nil (by assumption)) | (with_reducible refine Fr.drew ?_) | (with_reducible refine Fr.drewN ?_ _) | (with_reducible refine Fr.alloc ?_ _) | (with_reducible refine Fr.set ?_ _ _ (by first | (intros; omega) | (simp; done) | (simp; omega))) | (with_reducible refine Fr.via ?_ (by assumption)) | (with_reducible refine Fr.comp ?_ (by assumption))))
  · have j1 : decide ((16 : Int) < (X.size : Int)) = false := by rw [HXS.out]; simp; omega
    have j2 : ¬ (16 : Int) < (X.size : Int) := by rw [HXS.out]; omega
    rw [if_neg h16]
    rcases hc with q | ⟨q0, q⟩
    all_goals
      go_enter Try.func36, Try.ntmps36
      go_wp2_with (first
        | (go_at_call 49; refine (small_any _ _).mono ?_; rintro e w1 ⟨rfl, rfl⟩)
        | (go_at_call 50; refine (cap_any _ _).mono ?_; rintro e w1 ⟨rfl, rfl⟩)
        | (go_at_call 51; refine (HRUN.out _).mono ?_; rintro e w1 ⟨rfl, rfl⟩)
        | (go_at_call 52; refine (kind_any X _ (by rw [HXS.out]; exact hp)).mono ?_; rintro e w1 ⟨rfl, rfl⟩))
      refine bodyPost_ret (v := .tuple #[.agg #[.int .i64 (kindF X.data.toList), .string X, .bool false, .int .u64 ((0 : Nat) : Int), .int .i64 (line : Int)], .int .i64 0]) (by simp [results, Try.results36, go_sem, *]) rfl ⟨?_, ?_⟩
      · rw [tok_ret HE.out, HE.out]
        exact OneRes.of rfl
      · (repeat (first | (with_reducible exact Fr.refl _ _) | (with_reducible assumption) | (with_reducible exact Fr.of_nil (by assumption)) | (with_reducible refine Fr.drew ?_) | (with_reducible refine Fr.drewN ?_ _) | (with_reducible refine Fr.alloc ?_ _) | (with_reducible refine Fr.set ?_ _ _ (by first | (intros; omega) | (simp; done) | (simp; omega))) | (with_reducible refine Fr.via ?_ (by assumption)) | (with_reducible refine Fr.comp ?_ (by assumption))))
end
end Go.Proofs.Ythpenpgcacikaaa
