/-
  Arity (layer 11), plain: the modules which ArityWide makes, and their faults. No conditions.
-/
import Derived.Test.YtpjlibbdngnnnaaDoorAcP
namespace Go.Proofs.YtpjlibbdngnnnaaDoor
set_option linter.unusedSimpArgs false
set_option linter.unusedVariables false
open Go.RowKit

def namW (i : Nat) : List UInt8 := [120, UInt8.ofNat (97 + i % 26), UInt8.ofNat (97 + i / 26)]
def psW (n : Nat) : List (List UInt8) := (List.range n).map namW
def fW : List UInt8 := [102]
def oneW (n : Nat) : TE := .mk 4 [] false 0 [] (.mk 1 fW false 0 [] [] [] [] :: List.replicate n litE) [] []
def lamW (n : Nat) : TE := .mk 8 [] false 0 (psW n) [litE] [] []
def mdW (ps : List (List UInt8)) (e e2 : TE) : TM := ⟨[], [.mk fW ps e, .mk mainN [] e2]⟩
set_option maxRecDepth 100000 in
theorem wide1 : ∀ n < 61, 1 ≤ n → arF (mdW (psW n) litE litE) = if n ≤ 24 then (0, []) else (12, fW) := by decide +kernel
set_option maxRecDepth 100000 in
theorem wide2 : ∀ n < 61, 1 ≤ n → arF (mdW [] (lamW n) litE) = if n ≤ 24 then (0, []) else (12, [120, 97, 97]) := by decide +kernel
set_option maxRecDepth 100000 in
theorem wide3 : ∀ n < 61, 1 ≤ n → arF (mdW [] litE (oneW n)) = if n ≤ 24 then (0, []) else (12, []) := by decide +kernel
theorem psW_le {n : Nat} {x : List UInt8} (h : x ∈ psW n) : x.length ≤ maxLen := by
  obtain ⟨i, _, rfl⟩ := List.mem_map.1 h
  show (3 : Nat) ≤ maxLen
  decide
theorem var_ok : okE (.mk 1 fW false 0 [] [] [] []) := ⟨by decide, fun x h => by simp at h, trivial, trivial, trivial⟩
theorem one_ok (n : Nat) : okE (oneW n) := ⟨by decide, fun x h => by simp at h, ⟨var_ok, rep_ok n⟩, trivial, trivial⟩
theorem lamW_ok (n : Nat) : okE (lamW n) := ⟨by decide, fun x h => psW_le h, ⟨lit_ok, trivial⟩, trivial, trivial⟩
theorem one_ws (n : Nat) : wsE (oneW n) := by simp [oneW, wsE, wsK, wsB, wsA, rep_ws n]
theorem lam_ws {n : Nat} (h : 1 ≤ n) : wsE (lamW n) := by
  have hp : psW n ≠ [] := fun q => by
    have := congrArg List.length q
    simp [psW] at this
    omega
  simp [lamW, wsE, wsK, wsB, wsA, lit_ws, hp]
theorem mdW_ok {ps : List (List UInt8)} {e e2 : TE} (hp : ∀ x ∈ ps, x.length ≤ maxLen) (h1 : okE e) (h2 : okE e2) : okB (mdW ps e e2).binds :=
  ⟨⟨by decide, hp, h1⟩, ⟨by decide, fun x h => by simp at h, h2⟩, trivial⟩
theorem mdW_ws {ps : List (List UInt8)} {e e2 : TE} (h1 : wsE e) (h2 : wsE e2) : wsB (mdW ps e e2).binds := ⟨h1, h2, trivial⟩
set_option maxRecDepth 100000 in
theorem wide1w : ∀ n < 61, 2 + wnB (mdW (psW n) litE litE).binds ≤ 700000 := by decide +kernel
set_option maxRecDepth 100000 in
theorem wide2w : ∀ n < 61, 2 + wnB (mdW [] (lamW n) litE).binds ≤ 700000 := by decide +kernel
set_option maxRecDepth 100000 in
theorem wide3w : ∀ n < 61, 2 + wnB (mdW [] litE (oneW n)).binds ≤ 700000 := by decide +kernel
end Go.Proofs.YtpjlibbdngnnnaaDoor
