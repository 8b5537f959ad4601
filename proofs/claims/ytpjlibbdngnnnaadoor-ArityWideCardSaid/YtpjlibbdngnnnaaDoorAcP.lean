/-
  Arity (layer 11), plain: the modules which ArityCounts makes, and their faults. No conditions.
-/
import Derived.Test.YtpjlibbdngnnnaaDoorArB
namespace Go.Proofs.YtpjlibbdngnnnaaDoor
set_option linter.unusedSimpArgs false
set_option linter.unusedVariables false
open Go.RowKit

def litE : TE := .mk 3 [] false 0 [] [] [] []
def appE (k : Nat) : TE := .mk 2 [67] false 0 [] (List.replicate k litE) [] []
def nmsF (l : Nat) : List (List UInt8) := (List.range l).map (fun i => [UInt8.ofNat (97 + i)])
def altT (l : Nat) : TA := .mk 0 [67] false 0 (nmsF l) litE
def matE (l : Nat) : TE := .mk 7 [] false 0 [] [litE] [] [altT l]
def mdE (n : Nat) (e : TE) : TM := ⟨[([67], n)], [.mk mainN [] e]⟩
theorem count1 : ∀ n < 6, ∀ k < 6, arF (mdE n (appE k)) = if n = k then (0, []) else (11, [67]) := by decide +kernel
theorem count2 : ∀ n < 6, ∀ k < 6, arF (mdE n (matE k)) = if n = k then (0, []) else (11, [67]) := by decide +kernel
theorem count1w : ∀ k < 6, 1 + wnB [.mk mainN [] (appE k)] ≤ 700000 := by decide +kernel
theorem count2w : ∀ k < 6, 1 + wnB [.mk mainN [] (matE k)] ≤ 700000 := by decide +kernel
theorem lit_ok : okE litE := by unfold litE; simp [okE, okK, okB, okA]
theorem lit_ws : wsE litE := by unfold litE; simp [wsE, wsK, wsB, wsA]
theorem rep_ok : ∀ k, okK (List.replicate k litE)
  | 0 => trivial
  | k + 1 => ⟨lit_ok, rep_ok k⟩
theorem rep_ws : ∀ k, wsK (List.replicate k litE)
  | 0 => trivial
  | k + 1 => ⟨lit_ws, rep_ws k⟩
theorem app_ok (k : Nat) : okB [.mk mainN [] (appE k)] := by
  refine ⟨⟨by decide, fun x h => by simp at h, ?_⟩, trivial⟩
  exact ⟨by decide, fun x h => by simp at h, rep_ok k, trivial, trivial⟩
theorem app_ws (k : Nat) : wsB [.mk mainN [] (appE k)] := by
  simp [appE, wsE, wsB, wsA, rep_ws k]
theorem mat_ok (l : Nat) : okB [.mk mainN [] (matE l)] := by
  refine ⟨⟨by decide, fun x h => by simp at h, ?_⟩, trivial⟩
  refine ⟨by decide, fun x h => by simp at h, ⟨lit_ok, trivial⟩, trivial, ⟨by decide, fun x h => ?_, lit_ok⟩, trivial⟩
  obtain ⟨i, _, rfl⟩ := List.mem_map.1 h
  show (1 : Nat) ≤ maxLen
  decide
theorem mat_ws (l : Nat) : wsB [.mk mainN [] (matE l)] := by
  simp [matE, altT, wsE, wsB, wsA, wsK, lit_ws]
section
variable {X : Nat → Prop} {w : World}
theorem lit_at : EAt X w [.int .i64 3, .string ⟨#[]⟩, .bool false, .int .u64 0, .slice none 0 0, .slice none 0 0, .slice none 0 0, .slice none 0 0] litE :=
  .mk (kind := 3) (bits := 0) (name := []) (params := []) (kids := []) (binds := []) (alts := []) (fun _ => []) (fun _ => []) (fun _ => []) (fun _ => []) (fun _ => []) (fun _ => .bool false) (fun _ => .bool false) .nil .nil (fun i h => absurd h (Nat.not_lt_zero i)) .nil (fun i h => absurd h (Nat.not_lt_zero i)) (fun i h => absurd h (Nat.not_lt_zero i)) (fun i h => absurd h (Nat.not_lt_zero i)) .nil (fun i h => absurd h (Nat.not_lt_zero i)) (fun i h => absurd h (Nat.not_lt_zero i)) (fun i h => absurd h (Nat.not_lt_zero i))
/-- An expression with children alone, or with one alternative. -/
theorem kids_at {kind : Nat} {name : List UInt8} {kids : List TE} {kv : Value} {kc : Nat → List Value} (hk : RowC X w kv kids.length 8 kc) (hk2 : ∀ i (h : i < kids.length), EAt X w (kc i) kids[i]) :
    EAt X w [.int .i64 (kind : Int), .string ⟨name.toArray⟩, .bool false, .int .u64 0, .slice none 0 0, kv, .slice none 0 0, .slice none 0 0] (.mk kind name false 0 [] kids [] []) :=
  .mk (bits := 0) (params := []) (binds := []) (alts := []) kc (fun _ => []) (fun _ => []) (fun _ => []) (fun _ => []) (fun _ => .bool false) (fun _ => .bool false) .nil hk hk2 .nil (fun i h => absurd h (Nat.not_lt_zero i)) (fun i h => absurd h (Nat.not_lt_zero i)) (fun i h => absurd h (Nat.not_lt_zero i)) .nil (fun i h => absurd h (Nat.not_lt_zero i)) (fun i h => absurd h (Nat.not_lt_zero i)) (fun i h => absurd h (Nat.not_lt_zero i))
end
end Go.Proofs.YtpjlibbdngnnnaaDoor
