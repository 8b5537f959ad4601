/-
  The law StackPlays, for whatever room and calls. No conditions.
-/
import Derived.Test.YtncncoakibilcaaL15d
namespace Go.Proofs.Ytncncoakibilcaa
set_option linter.unusedSimpArgs false
set_option linter.unusedVariables false
open Go.RowKit

theorem plays_any (r : Int) (v : Value) (l : List ActF) (w : World) (h : RowFrames w v l) (hlen : l.length ≤ 9223372036854775807) :
    Calls Try.prog 6 #[.int .i64 r, v] w fun e w' => e = .returned (.bool true) ∧ Fr Nil w w' := by
  cases hfew : fewB l with
  | true =>
    by_cases hr : 0 ≤ r ∧ r ≤ 4096
    · obtain ⟨m, rfl⟩ := Int.eq_ofNat_of_zero_le hr.1
      exact plays_in m v l w h hlen hfew (by omega)
    · have hrow := h
      obtain ⟨a, cap, rfl, hc⟩ := h
      clear hc
      have hr' : r < 0 ∨ 4096 < r := by omega
      clear hr
      rcases hr' with hr | hr
      all_goals
        go_enter Try.func6, Try.ntmps6
        go_wp2_with fail
        refine (awake_any _).mono ?_
        rintro e w1 ⟨rfl, f1⟩
        go_wp2_with fail
        refine (few_any _ l w1 (hrow.fr f1) hlen).mono ?_
        rintro e w2 ⟨rfl, rfl⟩
        rw [hfew]
        clear hrow
        go_wp2_with fail
        refine (snew_out r _ (by omega)).mono ?_
        rintro e w3 ⟨rfl, rfl⟩
        go_wp2
        go_ret
        exact ⟨rfl, f1⟩
  | false =>
    have hrow := h
    obtain ⟨a, cap, rfl, hc⟩ := h
    clear hc
    go_enter Try.func6, Try.ntmps6
    go_wp2_with fail
    refine (awake_any _).mono ?_
    rintro e w1 ⟨rfl, f1⟩
    go_wp2_with fail
    refine (few_any _ l w1 (hrow.fr f1) hlen).mono ?_
    rintro e w2 ⟨rfl, rfl⟩
    rw [hfew]
    clear hrow
    go_wp2
    go_ret
    exact ⟨rfl, f1⟩
end Go.Proofs.Ytncncoakibilcaa
