/-
  The law RingPlays: the ways that end early. No conditions.
-/
import Derived.Test.YtlpdlhmdhlcdlaaL05d
import Derived.Test.YtlpdlhmdhlcdlaaL05h
import Derived.Test.YtlpdlhmdhlcdlaaOpen05a
namespace Go.Proofs.Ytlpdlhmdhlcdlaa
set_option linter.unusedSimpArgs false
set_option linter.unusedVariables false
open Go.RowKit Go.Shelf

theorem plays_wide (x : Int) (v : Value) (zs : List Act2) (w : World) (hv : RowActs2 w v zs) (ho : x < 1 ∨ 2000 < x ∨ 60 < zs.length) :
    Calls Try.prog 6 #[.int .i64 x, v] w fun e w' => e = .returned (.bool true) ∧ Fr Nil w w' := by
  obtain ⟨a, cap, rfl, hrow⟩ := hv
  clear hrow
  by_cases c1 : x < 1
  · have d1 := decide_eq_true c1
    clear ho
    go_enter Try.func6, Try.ntmps6
    go_wp2_with fail
    refine (awake_any _).mono ?_
    rintro e w0 ⟨rfl, f0⟩
    go_wp2
    go_ret
    exact ⟨rfl, f0⟩
  · have d1 := decide_eq_false c1
    by_cases c2 : 2000 < x
    · have d2 := decide_eq_true c2
      clear ho
      go_enter Try.func6, Try.ntmps6
      go_wp2_with fail
      refine (awake_any _).mono ?_
      rintro e w0 ⟨rfl, f0⟩
      go_wp2
      go_ret
      exact ⟨rfl, f0⟩
    · have d2 := decide_eq_false c2
      have c3 : (60 : Int) < (zs.length : Int) := by omega
      have d3 := decide_eq_true c3
      clear ho
      go_enter Try.func6, Try.ntmps6
      go_wp2_with fail
      refine (awake_any _).mono ?_
      rintro e w0 ⟨rfl, f0⟩
      go_wp2
      go_ret
      exact ⟨rfl, f0⟩
/-- The blocks that no row may lie in. -/
def PX (rg ba bw sb : Nat) : Nat → Prop := fun b => b = sb ∨ RS rg ba bw b
theorem RefR.made {w : World} {rg ba bw sb m : Nat} (h : Blk w sb #[.slice none 0 0, .slice none 0 0, .slice none 0 0, .slice none 0 0, .int .i64 (m : Int)] 58) : RefR w (PX rg ba bw sb) sb m ⟨[], [], [], []⟩ :=
  ⟨.inl rfl, _, _, _, _, h, RowB.nil _ _, RowB.nil _ _, RowB.nil _ _, RowB.nil _ _⟩
theorem RingIs.sizes {w : World} {rg ba bw n u : Nat} {R : Seg4} (h : RingIs w rg ba bw n R u) : R.all.length ≤ n ∧ R.F.Nodup ∧ CellsIn n R.all ∧ ∃ l, l.length = n ∧ Cyc l R.all ∧ Arena w ba bw l u := by
  obtain ⟨l, f, b, h, hO⟩ := h
  refine ⟨by rw [Seg4.num_eq]; exact hO.num, ?_, hO.cin, l, hO.len, hO.cyc, h.ar⟩
  have := hO.cin.nodup
  rw [Seg4.all] at this
  exact (List.nodup_append.1 (List.nodup_append.1 this).2.1).1
end Go.Proofs.Ytlpdlhmdhlcdlaa
