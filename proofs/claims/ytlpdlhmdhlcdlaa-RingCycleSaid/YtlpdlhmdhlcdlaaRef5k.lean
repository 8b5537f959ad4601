/-
  The document's ring (layer 5): Do answers as the relation says. Conditions: short rows, small cells, no From cell twice.
-/
import Derived.Test.YtlpdlhmdhlcdlaaRef5j
namespace Go.Proofs.Ytlpdlhmdhlcdlaa
set_option linter.unusedSimpArgs false
set_option linter.unusedVariables false
open Go.RowKit Go.Shelf

theorem ddo_any {X : Nat → Prop} {m : Nat} {W F G B : List Nat} {k n : Int} {S : Seg4} {c : Nat} {b : Bool} {e : Nat} (hs : RStep m W F G B k n S c b e) (sb : Nat) (w : World) (h : RefR w X sb m ⟨W, F, G, B⟩) (hm : m ≤ 1000000) (hl : (W ++ (F ++ (G ++ B))).length ≤ 100000) (hnd : F.Nodup) (hX : ∀ b, X b → b < w.heap.size) :
    Calls Try.prog 20 #[.pointer (some ⟨sb, 0, none⟩), .agg #[.int .i64 k, .int .i64 n]] w fun e' w' => e' = .returned (.agg #[.int .i64 (c : Int), .bool b, .int .i64 (e : Int)]) ∧ RefR w' X sb m S ∧ Fr (fun x => x = sb) w w' := by
  simp only [List.length_append] at hl
  cases hs with
  | growOut hk h' => subst hk; exact ddo_growOut sb m W F G B n w h hm h' hX
  | growIn hk c' hn h1 h2 => subst hk; subst hn; exact ddo_growIn sb m W F G B w h hm c' h1 h2 (by omega) hX
  | shadeNo hk hF => subst hk; exact ddo_shadeNo sb m W F G B n w h hF hX
  | shade hk F1 F2 c' hF hn => subst hk; exact ddo_shade sb m W F G B n w h c' F1 F2 hF hn (fun q => by
      rw [hF] at hnd
      exact (nodup_mid hnd).1 q) (by omega) (by omega) hX
  | nextNo hk hG => subst hk; exact ddo_nextNo sb m W F G B n w h hG hX
  | next hk G0 c' hG => subst hk; exact ddo_next sb m W F G B n w h c G0 hG (by omega) hX
  | doneNo hk hG => subst hk; exact ddo_doneNo sb m W F G B n w h hG hX
  | done hk G0 c' hG => subst hk; exact ddo_done sb m W F G B n w h c' G0 hG (by omega) (by omega) hX
  | beginNo hk h' => subst hk; exact ddo_beginNo sb m W F G B n w h h' (by omega) (by omega)
  | begin hk hF hG => subst hk; subst hF; subst hG; exact ddo_begin sb m W B n w h
  | endNo hk h' => subst hk; exact ddo_endNo sb m W F G B n w h h' (by omega)
  | endOk hk hG => subst hk; subst hG; exact ddo_endOk sb m W F B n w h (by omega) (by omega) hX
  | takeNo hk hW => subst hW; exact ddo_takeNo sb m F G B k n w h hk
  | alloc hk c' W' hW =>
    subst hW
    have := ddo_take sb m c W' F G B k n w h (.inr (.inl hk)) (by omega) (by omega) hX
    rw [if_pos hk] at this
    exact this
  | drop hk c' W' hW =>
    subst hW
    have := ddo_take sb m c W' F G B k n w h (by omega) (by omega) (by omega) hX
    rw [if_neg (by omega)] at this
    exact this
end Go.Proofs.Ytlpdlhmdhlcdlaa
