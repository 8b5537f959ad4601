/-
  The law RingPlays: whatever it is handed, it returns true. No conditions.
-/
import Derived.Test.YtlpdlhmdhlcdlaaL05j
namespace Go.Proofs.Ytlpdlhmdhlcdlaa

theorem plays_any (x : Int) (v : Value) (zs : List Act2) (w : World) (hv : RowActs2 w v zs) :
    Calls Try.prog 6 #[.int .i64 x, v] w fun e w' => e = .returned (.bool true) ∧ Fr Nil w w' := by
  by_cases h : x < 1 ∨ 2000 < x ∨ 60 < zs.length
  · exact plays_wide x v zs w hv h
  · obtain ⟨m, rfl⟩ := Int.eq_ofNat_of_zero_le (by omega : 0 ≤ x)
    exact plays_in m (by omega) (by omega) v zs w hv (by omega)
end Go.Proofs.Ytlpdlhmdhlcdlaa
