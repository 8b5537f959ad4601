/-
  Contracts of the document's answer for layer 7: a run's kind; the longest sign; what is passed over. No conditions but sizes that memory bears.
-/
import Derived.Test.YthpenpgcacikaaaRef07
namespace Go.Proofs.Ythpenpgcacikaaa
set_option linter.unusedSimpArgs false
set_option linter.unusedVariables false
open Go.RowKit

theorem bytes_eq (s t : ByteArray) (h : s.data.toList = t.data.toList) : s = t := by
  obtain ⟨a⟩ := s
  obtain ⟨b⟩ := t
  congr 1
  exact Array.toList_inj.1 h
set_option maxRecDepth 100000 in
set_option maxHeartbeats 1000000 in
theorem kind_any (s : ByteArray) (w : World) (hs : 0 < s.size) :
    Calls Try.prog 52 #[.string s] w fun e w' => e = .returned (.int .i64 (kindF s.data.toList)) ∧ w = w' := by
  by_cases h1 : s.data.toList ∈ wordsL
  · have hk : kindF s.data.toList = 5 := by unfold kindF; rw [if_pos h1]
    rw [hk]
    simp only [wordsL, List.mem_cons, List.not_mem_nil, or_false] at h1
    rcases h1 with h | h | h | h | h
    · obtain rfl := bytes_eq s ⟨#[108, 101, 116]⟩ h
      go_enter Try.func52, Try.ntmps52
      go_wp2
      go_ret
      exact ⟨rfl, rfl⟩
    · obtain rfl := bytes_eq s ⟨#[105, 110]⟩ h
      go_enter Try.func52, Try.ntmps52
      go_wp2
      go_ret
      exact ⟨rfl, rfl⟩
    · obtain rfl := bytes_eq s ⟨#[99, 97, 115, 101]⟩ h
      go_enter Try.func52, Try.ntmps52
      go_wp2
      go_ret
      exact ⟨rfl, rfl⟩
    · obtain rfl := bytes_eq s ⟨#[111, 102]⟩ h
      go_enter Try.func52, Try.ntmps52
      go_wp2
      go_ret
      exact ⟨rfl, rfl⟩
    · obtain rfl := bytes_eq s ⟨#[100, 97, 116, 97]⟩ h
      go_enter Try.func52, Try.ntmps52
      go_wp2
      go_ret
      exact ⟨rfl, rfl⟩
  · by_cases h2 : s.data.toList ∈ backsL
    · have hk : kindF s.data.toList = 7 := by unfold kindF; rw [if_neg h1, if_pos h2]
      rw [hk]
      clear h1
      simp only [backsL, List.mem_cons, List.not_mem_nil, or_false] at h2
      rcases h2 with h | h | h | h | h
      · obtain rfl := bytes_eq s ⟨#[119, 101, 97, 107]⟩ h
        go_enter Try.func52, Try.ntmps52
        go_wp2
        go_ret
        exact ⟨rfl, rfl⟩
      · obtain rfl := bytes_eq s ⟨#[100, 101, 114, 101, 102]⟩ h
        go_enter Try.func52, Try.ntmps52
        go_wp2
        go_ret
        exact ⟨rfl, rfl⟩
      · obtain rfl := bytes_eq s ⟨#[115, 101, 113]⟩ h
        go_enter Try.func52, Try.ntmps52
        go_wp2
        go_ret
        exact ⟨rfl, rfl⟩
      · obtain rfl := bytes_eq s ⟨#[102, 108, 111, 97, 116]⟩ h
        go_enter Try.func52, Try.ntmps52
        go_wp2
        go_ret
        exact ⟨rfl, rfl⟩
      · obtain rfl := bytes_eq s ⟨#[116, 114, 117, 110, 99]⟩ h
        go_enter Try.func52, Try.ntmps52
        go_wp2
        go_ret
        exact ⟨rfl, rfl⟩
    · have hk : kindF s.data.toList = if capC s[0] then 2 else 1 := by
        unfold kindF
        rw [if_neg h1, if_neg h2]
        have e : s.data.toList.head? = some s[0] := by rw [List.head?_eq_getElem?]; exact bytes_at s 0 hs
        rw [e]
        rfl
      rw [hk]
      simp only [wordsL, backsL, List.mem_cons, List.not_mem_nil, or_false, not_or] at h1 h2
      obtain ⟨a1, a2, a3, a4, a5⟩ := h1
      obtain ⟨b1, b2, b3, b4, b5⟩ := h2
      have ta1 : (s.toList == [108, 101, 116]) = false := by rw [Lib.toList_data]; simpa using a1
      have ta2 : (s.toList == [105, 110]) = false := by rw [Lib.toList_data]; simpa using a2
      have ta3 : (s.toList == [99, 97, 115, 101]) = false := by rw [Lib.toList_data]; simpa using a3
      have ta4 : (s.toList == [111, 102]) = false := by rw [Lib.toList_data]; simpa using a4
      have ta5 : (s.toList == [100, 97, 116, 97]) = false := by rw [Lib.toList_data]; simpa using a5
      have tb1 : (s.toList == [119, 101, 97, 107]) = false := by rw [Lib.toList_data]; simpa using b1
      have tb2 : (s.toList == [100, 101, 114, 101, 102]) = false := by rw [Lib.toList_data]; simpa using b2
      have tb3 : (s.toList == [115, 101, 113]) = false := by rw [Lib.toList_data]; simpa using b3
      have tb4 : (s.toList == [102, 108, 111, 97, 116]) = false := by rw [Lib.toList_data]; simpa using b4
      have tb5 : (s.toList == [116, 114, 117, 110, 99]) = false := by rw [Lib.toList_data]; simpa using b5
      clear a1 a2 a3 a4 a5 b1 b2 b3 b4 b5 hk
      have i0 : (0 : Int) < (s.size : Int) := by omega
      go_enter Try.func52, Try.ntmps52
      cases hc : capC s[0]
      all_goals
        go_wp2_with (go_at_call 50; refine (cap_any _ _).mono ?_; rw [hc]; rintro e w1 ⟨rfl, rfl⟩)
        go_ret
        exact ⟨rfl, rfl⟩
end Go.Proofs.Ythpenpgcacikaaa
