/-
  The statement 'ShowNestedCardSaid': for every input the law returns true and leaves its arguments as they were, as the row says, tied to the program's text. No conditions but the row's own.
-/
import Derived.Test.YtlnmicddobgppaaGreatDoorNnZE
import Derived.Test.YtlnmicddobgppaaGreatDoorTie
import Derived.Test.YtlnmicddobgppaaGreatDoorCards
import Derived.ProofKit
import Derived.OpenShut
import Derived.SevenTiedAt
import Derived.JoinedOf
import Derived.ChangeVars
import Derived.RowKitTokens
namespace Go.Proofs.YtlnmicddobgppaaGreatDoor.lawShowNested
open Go.ChangeShapes Go.WideShapes Go.ChangeAt Go.RowKit
open Go.ChangeMaps (open_string shut_string)
set_option linter.unusedVariables false
theorem own : ownKnob Tryz.prog.godebug = none := by kernel_rfl
theorem laidOut : laidOutB Tryz.prog = true := by kernel_rfl
set_option maxRecDepth 100000 in
theorem lifted (os : Os) (started : os.Started) (H : Type) (enc : TypeId × Value → H) :
    ReturnsInHanded {} Tryz.checked os 9 .any (fun w args => (Rows.showNestedSpec.pre enc Tryz.prog Tryz.f9 Rows.showNestedRow.domain false w args ∧ laidMet Tryz.prog laid7 w) ∧ sizedMet enc Tryz.prog Tryz.f9 (OpenSpec.ofChange Rows.showNestedSpec) false w args)
      (Rows.showNestedSpec.post enc Tryz.prog Tryz.f9 false true false false) := by
  refine lift_shaped (C := Tryz.checked) (X := fun w => laidMet Tryz.prog laid7 w) (fun _ _ hh h => h.of_heap hh) own started (by kernel_rfl) Tryz.func9
    (ChangeSpec.witness_at (enc := enc) (C := Tryz.checked) (os := os) (X := fun w _ => laidMet Tryz.prog laid7 w) false (laidWorld7 os) #[.string .empty] 8 rfl (by kernel_rfl) (by kernel_rfl) (by kernel_rfl) (by kernel_rfl) (by kernel_rfl) (laidWorld7_met os _)) ?_
  intro W base args ds gs before hval0 hW hL hShape
  have hval : ∀ (j : Nat) t v, Tryz.f9.params[j]? = some t → args[j]? = some v → Value.okWide Tryz.prog W .any base t v := hval0
  have hW' := hW
  have hTabs : Tabs W ∧ LibW W := both_of hL hShape
  obtain ⟨p, q, hA0, hV, rfl, hfz, hnd⟩ := hW
  have hA : DataW.TrodAll enc Tryz.prog W 0 (fun _ => true) true Tryz.f9.params.toList args.toList ds p := hA0
  rw [Tryz.params9] at hA hval
  obtain ⟨v0, vs0, d0, ds0, p0, q0, hargs, rfl, rfl, h0, r0⟩ := trodAll_cons hA
  obtain ⟨rfl, rfl, rfl⟩ := trodAll_nil r0
  obtain rfl : args = #[v0] := by cases args; simp_all
  obtain ⟨rfl, rfl⟩ := trodVars_none hV
  have k0 := h0
  have lt0 : ∀ x ∈ p0, x.block < W.heap.size := by obtain ⟨m, hm⟩ := k0; exact DataW.trod_lt m _ _ _ hm
  obtain ⟨a0, rfl, rfl, rfl, w0⟩ := open_string Tryz.underlying9 (hval 0 9 v0 rfl rfl) h0
  clear hA0 hval0
  refine ((fun (s : ByteArray) (U : World) (hT : Tabs U ∧ LibW U) (_ : s.size ≤ 9223372036854775807) => nested9_any s U hT.1 hT.2) a0 W hTabs w0).mono fun e W' ⟨he, hfr⟩ => ?_
  have bel : Below W.heap.size W W' := hfr.below (Nat.le_refl _) (fun _ _ q => q)
  subst he
  exact ⟨_, rfl, _, _, _, [], _, [], hW', trodAll_mk1 (shut_bool Tryz.underlying4 _), (trodAll_cons_mk (Below.trod laidOut (by kernel_rfl) (of_decide_eq_true (by kernel_rfl)) k0 bel lt0) trodAll_mk0), rfl, bel.frame _, fun h => by cases h⟩
theorem over : Rows.showNestedRow.holds Tryz.pinned (OpenSpec.ofChange Rows.showNestedSpec) :=
  OpenClaim.holds_of_wide 9 Tryz.f9 rfl rfl rfl rfl rfl rfl rfl ⟨rfl, rfl, rfl, rfl, rfl⟩ rfl rfl rfl rfl rfl (by kernel_rfl) Tryz.func9 (by kernel_rfl)
    (of_decide_eq_true (by kernel_rfl)) (by unfold Func.isWrapper; first | (rw [if_pos (by decide +kernel)]; kernel_rfl) | (rw [if_neg (by decide +kernel)]; exact ⟨rfl, rfl⟩))
    (fun os started H enc _ => lifted os started H enc)
theorem named : Tryz.prog.funcNamed "treadwheel/treadwheellaw09.ShowNested" = some 9 := by kernel_rfl
/-- The statement. -/
theorem proved : Rows.ShowNestedCardSaid :=
  Claim7.holds_tied_plain_at .later [] [.data, .data, .data, .data, .sentinel, .sentinel, .pinned] true (true, "4d4be56e7bbe4a3689f8e53ec3e1fefa3e5bece19e5a937af088318c8dc2b3ce") true
    over (fun _ h => by cases h) (by kernel_rfl) (fun _ h => by cases h) showNested_row_tie rfl ⟨rfl, rfl⟩ (by kernel_rfl) rfl
    (fun f fn hf hfn => by
      obtain rfl : f = 9 := (Option.some.inj (named.symm.trans hf)).symm
      obtain rfl : fn = Tryz.f9 := (Option.some.inj (Tryz.func9.symm.trans hfn)).symm
      exact ⟨by kernel_rfl, fun j t ht => by
        rw [Tryz.params9] at ht
        have hm : t ∈ [9] := by
          have := Array.mem_of_getElem? ht
          simpa using this
        simp at hm
        rcases hm with rfl
        exact (show Tryz.prog.wantsStandIn 9 = false by kernel_rfl)⟩)
    (by kernel_rfl)
#print axioms proved
end Go.Proofs.YtlnmicddobgppaaGreatDoor.lawShowNested
