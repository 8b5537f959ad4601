/-
  Contracts of the document's answer for layer 7: the token that stands at a place: numbers, signs. No conditions but sizes that memory bears.
-/
import Derived.Test.YthpenpgcacikaaaRef07f
namespace Go.Proofs.Ythpenpgcacikaaa
set_option linter.unusedSimpArgs false
set_option linter.unusedVariables false
open Go.RowKit

theorem tokV_mk (t : TokV) : tokV t = .agg #[.int .i64 t.kind, .string ⟨t.text.toArray⟩, .bool t.flt, .int .u64 (t.bits : Int), .int .i64 (t.line : Int)] := rfl
section
variable (s : ByteArray) (at_ line : Nat) (w : World) (hs : s.size ≤ 1000000) (hat : at_ < s.size)
include hs hat
set_option maxRecDepth 100000 in
set_option maxHeartbeats 1000000 in
theorem one_digit (h1 : smallC s[at_] = false) (h2 : capC s[at_] = false) (h3 : digC s[at_] = true) :
    Calls Try.prog 36 #[.string s, .int .i64 at_, .int .i64 line] w fun e w' => OneRes (oneF (s.data.toList.drop at_) line) e ∧ Fr Nil w w' := by
  have hone : oneF (s.data.toList.drop at_) line = numberF (runF (s.data.toList.drop at_)) line := by
    rw [drop_cons s at_ hat]
    unfold oneF
    simp only
    rw [if_neg (by simp [h1, h2]), if_pos h3]
  have hp := run_pos s at_ hat (by unfold wordC; simp [h3])
  have hle := run_le s at_
  obtain ⟨N, hN⟩ : ∃ N, (runF (s.data.toList.drop at_)).length = N := ⟨_, rfl⟩
  have hext := ext_run s at_ N hN
  have hrun := fun w => run_any s at_ w hs (by omega)
  rw [hN] at hp hle
  simp only [hN] at hrun
  obtain ⟨X, hX⟩ : ∃ X, s.extract at_ (at_ + N) = X := ⟨_, rfl⟩
  have hXs : X.size = N := by rw [← hX]; simp; omega
  rw [hX] at hext
  rw [hone, ← hext]
  obtain ⟨t, e, ht⟩ : ∃ t e, numberF X.data.toList line = (t, e) := ⟨_, _, rfl⟩
  have hnum := fun kd f0 b0 w => rnumber_any kd f0 b0 line X w (by omega) (by omega)
  rw [ht]
  simp only [ht, tokV_mk] at hnum
  have i0 : (0 : Int) ≤ (at_ : Int) := by omega
  have i1 : (at_ : Int) < (s.size : Int) := by omega
  have i2 : (at_ : Int) + (N : Int) ≤ (s.size : Int) := by omega
  have HRUN := Lib.hid hrun
  have HNUM := Lib.hid hnum
  clear hone hN hXs hext hrun hnum ht
  go_enter Try.func36, Try.ntmps36
  go_wp2_with (first
    | (go_at_call 49; refine (small_any _ _).mono ?_; rintro e w1 ⟨rfl, rfl⟩)
    | (go_at_call 50; refine (cap_any _ _).mono ?_; rintro e w1 ⟨rfl, rfl⟩)
    | (go_at_call 53; refine (dig_any _ _).mono ?_; rintro e w1 ⟨rfl, rfl⟩)
    | (go_at_call 51; refine (HRUN.out _).mono ?_; rintro e w1 ⟨rfl, rfl⟩)
    | (go_at_call 54; refine (HNUM.out _ _ _ _).mono ?_; rintro e1 w2 ⟨rfl, f2⟩; obtain ⟨_, _, _⟩ := f2.at (w.heap.size) (by first | assumption | omega | (simp; done) | (simp; omega)); obtain ⟨_, _, _⟩ := f2.at (w.heap.size + 1) (by first | assumption | omega | (simp; done) | (simp; omega))))
  refine bodyPost_ret (v := .tuple #[tokV t, .int .i64 e]) (by simp [tokV_mk, results, Try.results36, go_sem, *]) rfl ⟨OneRes.of rfl, ?_⟩
  (repeat (first | (with_reducible exact Fr.refl _ _) | (with_reducible assumption) | (with_reducible exact Fr.of_nil (by assumption)) | (with_reducible refine Fr.drew ?_) | (with_reducible refine Fr.drewN ?_ _) | (with_reducible refine Fr.alloc ?_ _) | (with_reducible refine Fr.set ?_ _ _ (by first | (intros; omega) | (simp; done) | (simp; omega))) | (with_reducible refine Fr.via ?_ (by assumption)) | (with_reducible refine Fr.comp ?_ (by assumption))))
end
end Go.Proofs.Ythpenpgcacikaaa
