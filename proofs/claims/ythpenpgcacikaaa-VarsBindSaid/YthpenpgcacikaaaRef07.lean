/-
  Contracts of the document's answer for layer 7: what bytes are; a run; its kind. No conditions but sizes that memory bears.
-/
import Derived.Test.YthpenpgcacikaaaLexF
namespace Go.Proofs.Ythpenpgcacikaaa
set_option linter.unusedSimpArgs false
set_option linter.unusedVariables false
open Go.RowKit

theorem smallB (c : UInt8) : (decide ((97 : Int) ≤ (c.toNat : Int)) && decide ((c.toNat : Int) ≤ 122)) = smallC c := by
  unfold smallC; rw [Bool.eq_iff_iff]; simp [UInt8.le_iff_toNat_le]; omega
theorem capB (c : UInt8) : (decide ((65 : Int) ≤ (c.toNat : Int)) && decide ((c.toNat : Int) ≤ 90)) = capC c := by
  unfold capC; rw [Bool.eq_iff_iff]; simp [UInt8.le_iff_toNat_le]; omega
theorem digB (c : UInt8) : (decide ((48 : Int) ≤ (c.toNat : Int)) && decide ((c.toNat : Int) ≤ 57)) = digC c := by
  unfold digC; rw [Bool.eq_iff_iff]; simp [UInt8.le_iff_toNat_le]; omega
theorem small_any (c : UInt8) (w : World) : Calls Try.prog 49 #[.int .u8 (c.toNat : Int)] w fun e w' => e = .returned (.bool (smallC c)) ∧ w = w' := by
  rw [← smallB]
  generalize (c.toNat : Int) = n
  go_enter Try.func49, Try.ntmps49
  go_wp2
  all_goals
    go_ret
    exact ⟨ret1_bool (by simp_all <;> (intros; omega)), rfl⟩
theorem cap_any (c : UInt8) (w : World) : Calls Try.prog 50 #[.int .u8 (c.toNat : Int)] w fun e w' => e = .returned (.bool (capC c)) ∧ w = w' := by
  rw [← capB]
  generalize (c.toNat : Int) = n
  go_enter Try.func50, Try.ntmps50
  go_wp2
  all_goals
    go_ret
    exact ⟨ret1_bool (by simp_all <;> (intros; omega)), rfl⟩
theorem dig_any (c : UInt8) (w : World) : Calls Try.prog 53 #[.int .u8 (c.toNat : Int)] w fun e w' => e = .returned (.bool (digC c)) ∧ w = w' := by
  rw [← digB]
  generalize (c.toNat : Int) = n
  go_enter Try.func53, Try.ntmps53
  go_wp2
  all_goals
    go_ret
    exact ⟨ret1_bool (by simp_all <;> (intros; omega)), rfl⟩

theorem bytes_at (s : ByteArray) (k : Nat) (h : k < s.size) : s.data.toList[k]? = some s[k] := by
  rw [List.getElem?_eq_getElem (by simpa using h)]; rfl
/-- Is a byte of the run's? -/
theorem run_at (s : ByteArray) (at_ k : Nat) (h : k < (runF (s.data.toList.drop at_)).length) : ∃ h : at_ + k < s.size, wordC s[at_ + k] = true := by
  have hp := runF_pre (s.data.toList.drop at_)
  have hl := hp.length_le
  rw [List.length_drop] at hl
  have hsz : s.data.toList.length = s.size := by simp
  have hk : at_ + k < s.size := by omega
  refine ⟨hk, ?_⟩
  have h1 : (runF (s.data.toList.drop at_))[k] = s[at_ + k] := by
    have h2 := hp.getElem h
    rw [h2, List.getElem_drop]
    rfl
  rw [← h1]
  exact List.all_eq_true.1 (List.all_takeWhile (p := wordC) (l := s.data.toList.drop at_)) _ (List.getElem_mem h)
theorem run_end (s : ByteArray) (at_ : Nat) (h : at_ + (runF (s.data.toList.drop at_)).length < s.size) : wordC s[at_ + (runF (s.data.toList.drop at_)).length] = false := by
  have key : ∀ l : List UInt8, ∀ h : (runF l).length < l.length, wordC (l[(runF l).length]) = false := by
    intro l
    induction l with
    | nil => intro h; simp at h
    | cons c r ih =>
      intro h
      unfold runF at *
      by_cases hc : wordC c = true
      · simp only [List.takeWhile_cons, hc, if_true, List.length_cons] at h ⊢
        simp only [List.getElem_cons_succ]
        exact ih (by omega)
      · simp [List.takeWhile_cons, hc]
  have hsz : s.data.toList.length = s.size := by simp
  have h2 := key (s.data.toList.drop at_) (by rw [List.length_drop]; omega)
  rw [List.getElem_drop] at h2
  exact h2
theorem run_le (s : ByteArray) (at_ : Nat) : (runF (s.data.toList.drop at_)).length ≤ s.size - at_ := by
  have := (runF_pre (s.data.toList.drop at_)).length_le
  rw [List.length_drop] at this
  simpa using this
/-- A word's byte: which question says so. -/
theorem word_cases {c : UInt8} (h : wordC c = true) : smallC c = true ∨ (smallC c = false ∧ capC c = true) ∨ (smallC c = false ∧ capC c = false ∧ digC c = true) ∨ (smallC c = false ∧ capC c = false ∧ digC c = false ∧ (((c.toNat : Int) == 95) = true)) := by
  unfold wordC at h
  cases h1 : smallC c <;> cases h2 : capC c <;> cases h3 : digC c <;> simp_all
theorem word_not {c : UInt8} (h : wordC c = false) : smallC c = false ∧ capC c = false ∧ digC c = false ∧ (((c.toNat : Int) == 95) = false) := by
  unfold wordC at h
  simp only [Bool.or_eq_false_iff] at h
  obtain ⟨⟨⟨h1, h2⟩, h3⟩, h4⟩ := h
  refine ⟨h1, h2, h3, ?_⟩
  simp at h4 ⊢
  intro e
  exact h4 (UInt8.toNat_inj.1 (by have : (95 : UInt8).toNat = 95 := rfl; omega))
set_option maxRecDepth 100000 in
set_option maxHeartbeats 1000000 in
theorem run_any (s : ByteArray) (at_ : Nat) (w : World) (hs : s.size ≤ 1000000) (hat : at_ ≤ s.size) :
    Calls Try.prog 51 #[.string s, .int .i64 at_] w fun e w' => e = .returned (.int .i64 (runF (s.data.toList.drop at_)).length) ∧ w = w' := by
  have hle := run_le s at_
  obtain ⟨N, hN⟩ : ∃ N, (runF (s.data.toList.drop at_)).length = N := ⟨_, rfl⟩
  have hrun : ∀ k, k < N → ∃ h : at_ + k < s.size, wordC s[at_ + k] = true := fun k h => run_at s at_ k (by rw [hN]; exact h)
  have hend : ∀ h : at_ + N < s.size, wordC s[at_ + N] = false := by subst hN; exact fun h => run_end s at_ h
  rw [hN] at hle ⊢
  have HR := Lib.hid hrun
  have HE := Lib.hid hend
  clear hN hrun hend
  go_enter Try.func51, Try.ntmps51
  go_wp2_with fail
  go_loop [5] (fun i => ∃ k : Nat, k ≤ N ∧ i = .int .i64 k) (fun i => N - (intOf i).toNat)
  case atStart => exact ⟨0, Nat.zero_le _, rfl⟩
  case round =>
    obtain ⟨k, hk, rfl⟩ := hrel
    by_cases hlt : k < N
    · obtain ⟨h1, h2⟩ := HR.out k hlt
      have b1 : (at_ : Int) + (k : Int) < (s.size : Int) := by omega
      have b0 : (0 : Int) ≤ (at_ : Int) + (k : Int) := by omega
      rcases word_cases h2 with q | ⟨q1, q⟩ | ⟨q1, q2, q⟩ | ⟨q1, q2, q3, q⟩
      all_goals
        clear h2
        go_wp2_with (first
          | (go_at_call 49; refine (small_any _ _).mono ?_; rintro e w1 ⟨rfl, rfl⟩)
          | (go_at_call 50; refine (cap_any _ _).mono ?_; rintro e w1 ⟨rfl, rfl⟩)
          | (go_at_call 53; refine (dig_any _ _).mono ?_; rintro e w1 ⟨rfl, rfl⟩))
        go_round
        case rel => exact ⟨k + 1, by omega, by go_num⟩
        case measure => simp [intOf]; omega
    · obtain rfl : k = N := by omega
      by_cases hz : at_ + k < s.size
      · have b1 : (at_ : Int) + (k : Int) < (s.size : Int) := by omega
        have b0 : (0 : Int) ≤ (at_ : Int) + (k : Int) := by omega
        obtain ⟨q1, q2, q3, q4⟩ := word_not (HE.out hz)
        go_wp2_with (first
          | (go_at_call 49; refine (small_any _ _).mono ?_; rintro e w1 ⟨rfl, rfl⟩)
          | (go_at_call 50; refine (cap_any _ _).mono ?_; rintro e w1 ⟨rfl, rfl⟩)
          | (go_at_call 53; refine (dig_any _ _).mono ?_; rintro e w1 ⟨rfl, rfl⟩))
        go_ret
        exact ⟨rfl, rfl⟩
      · have b1 : ¬ (at_ : Int) + (k : Int) < (s.size : Int) := by omega
        go_wp2
        go_ret
        exact ⟨rfl, rfl⟩
end Go.Proofs.Ythpenpgcacikaaa
