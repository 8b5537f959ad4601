/-
  Layer 5: the law's do answers as the relation says. Conditions: few uses, short rows.
-/
import Derived.Test.YtlpdlhmdhlcdlaaL05e
namespace Go.Proofs.Ytlpdlhmdhlcdlaa
set_option linter.unusedSimpArgs false
set_option linter.unusedVariables false
open Go.RowKit Go.Shelf

theorem right_apart {S : Seg4} {c : Nat} (hr : rightB S 0 (c : Int) = true) (hc : c ≤ 100000) : ∀ x ∈ S.all, c + 3 ≤ x ∨ x + 3 ≤ c := by
  refine touch_no ?_
  have t1 : (0 : Int) ≤ (c : Int) := by omega
  have t2 : (c : Int) ≤ 100000 := by omega
  simp only [rightB, decide_eq_true (rfl : (0 : Int) = 0), decide_eq_true t1, decide_eq_true t2, Int.toNat_natCast, Bool.true_and] at hr
  simpa using hr
theorem ldo_any {X : Nat → Prop} {m : Nat} {W F G B : List Nat} {k n : Int} {S : Seg4} {c : Nat} {b : Bool} {e : Nat} (hs : RStep m W F G B k n S c b e) (rg ba bw sb u : Nat) (w : World) (h : RingIs w rg ba bw m ⟨W, F, G, B⟩ u) (hu : u ≤ 900000000000) (hS : RefR w X sb m ⟨W, F, G, B⟩) (hm : m ≤ 2000) (hl : (W ++ (F ++ (G ++ B))).length ≤ 100000) (hr : rightB ⟨W, F, G, B⟩ k n = true) :
    Calls Try.prog 19 #[.pointer (some ⟨rg, 0, none⟩), .pointer (some ⟨sb, 0, none⟩), .agg #[.int .i64 k, .int .i64 n]] w fun e' w' => e' = .returned (.agg #[.int .i64 (c : Int), .bool b, .int .i64 (e : Int)]) ∧ (∃ u', RingIs w' rg ba bw m S u' ∧ u' ≤ u + 20) ∧ Fr (RS rg ba bw) w w' := by
  simp only [List.length_append] at hl
  cases hs with
  | growOut hk h' => subst hk; exact ldo_growOut rg ba bw sb m u W F G B n w h hu h'
  | growIn hk c' hn h1 h2 => subst hk; subst hn; exact ldo_growIn rg ba bw sb m u W F G B c' w h hu h1 h2 (right_apart hr (by omega))
  | shadeNo hk hF => subst hk; subst hF; exact ldo_shadeNo rg ba bw sb m u W G B n w h hu hS
  | shade hk F1 F2 c' hF hn => subst hk; subst hF; exact ldo_shade rg ba bw sb m u W F1 F2 G B c' n w h hu hS (by omega) hn
  | nextNo hk hG => subst hk; subst hG; exact ldo_nextNo rg ba bw sb m u W F B n w h hu
  | next hk G0 c' hG => subst hk; subst hG; exact ldo_next rg ba bw sb m u W F G0 B c n w h hu
  | doneNo hk hG => subst hk; subst hG; exact ldo_doneNo rg ba bw sb m u W F B n w h hu
  | done hk G0 c' hG => subst hk; subst hG; exact ldo_done rg ba bw sb m u W F G0 B c' n w h hu
  | beginNo hk h' => subst hk; exact ldo_beginNo rg ba bw sb m u W F G B n w h hu h'
  | begin hk hF hG => subst hk; subst hF; subst hG; exact ldo_begin rg ba bw sb m u W B n w h hu
  | endNo hk h' => subst hk; exact ldo_endNo rg ba bw sb m u W F G B n w h hu h'
  | endOk hk hG => subst hk; subst hG; exact ldo_endOk rg ba bw sb m u W F B n w h hu
  | takeNo hk hW =>
    subst hW
    by_cases hk1 : k = 1
    · subst hk1
      exact ldo_allocNo rg ba bw sb m u F G B n w h hu
    · exact ldo_dropNo rg ba bw sb m u F G B k n w h hu (by omega)
  | alloc hk c' W' hW => subst hk; subst hW; exact ldo_alloc rg ba bw sb m u W' F G B c n w h hu
  | drop hk c' W' hW => subst hW; exact ldo_drop rg ba bw sb m u W' F G B c k n w h hu hk
end Go.Proofs.Ytlpdlhmdhlcdlaa
