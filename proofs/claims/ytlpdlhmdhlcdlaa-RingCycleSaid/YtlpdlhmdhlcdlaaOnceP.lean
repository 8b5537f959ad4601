/-
  The law RingOnce: how often a number stands in a row, and what a call does to that; in plain words. No conditions.
-/
import Derived.Test.YtlpdlhmdhlcdlaaRef5e
namespace Go.Proofs.Ytlpdlhmdhlcdlaa
set_option linter.unusedSimpArgs false
set_option linter.unusedVariables false

/-- How often a number stands in a row. -/
def cntF (L : List Nat) (x : Int) : Int := (L.countP (fun y : Nat => decide ((y : Int) = x)) : Nat)
theorem cntF_nil : cntF [] = fun _ => 0 := rfl
theorem cntF_perm {A B : List Nat} (h : A.Perm B) : cntF A = cntF B := by
  funext x
  unfold cntF
  rw [h.countP_eq]
theorem cntF_cons (c : Nat) (L : List Nat) (x : Int) : cntF (c :: L) x = if x = (c : Int) then cntF L x + 1 else cntF L x := by
  unfold cntF
  rw [List.countP_cons]
  by_cases e : x = (c : Int)
  · rw [if_pos e, if_pos (by simp [e])]; omega
  · rw [if_neg e, if_neg (by simpa using fun q => e q.symm)]; omega
theorem cntF_snoc (c : Nat) (L : List Nat) (x : Int) : cntF (L ++ [c]) x = if x = (c : Int) then cntF L x + 1 else cntF L x := by
  rw [cntF_perm (List.perm_append_comm (l₁ := L) (l₂ := [c]))]
  exact cntF_cons c L x
theorem cntF_le (L : List Nat) (x : Int) : 0 ≤ cntF L x ∧ cntF L x ≤ L.length := by
  unfold cntF
  have := List.countP_le_length (p := fun y : Nat => decide ((y : Int) = x)) (l := L)
  omega
/-- In a row without repeats: once. -/
theorem cntF_one {L : List Nat} (h : L.Nodup) {c : Nat} (hc : c ∈ L) : cntF L (c : Int) = 1 := by
  unfold cntF
  have e : (L.countP fun y : Nat => decide ((y : Int) = (c : Int))) = L.count c := by
    unfold List.count
    refine List.countP_congr fun y _ => ?_
    simp
    omega
  rw [e, List.Nodup.count h, if_pos hc]
  rfl
theorem all_perm {W F G B W' F' G' B' : List Nat} (h : (W ++ (F ++ (G ++ B))).Perm (W' ++ (F' ++ (G' ++ B')))) : cntF (Seg4.all ⟨W, F, G, B⟩) = cntF (Seg4.all ⟨W', F', G', B'⟩) := cntF_perm h
/-- What a call does to the rows, taken together. -/
theorem once_step {m : Nat} {W F G B : List Nat} {k n : Int} {S : Seg4} {c : Nat} {b : Bool} {e : Nat} (h : RStep m W F G B k n S c b e) :
    (e = 0 ∧ k = 0 → (∃ c' : Nat, n = (c' : Int) ∧ c' + 3 ≤ m) ∧ (fun y => if y = n then cntF (Seg4.all ⟨W, F, G, B⟩) n + 1 else cntF (Seg4.all ⟨W, F, G, B⟩) y) = cntF S.all) ∧
    (e = 0 ∧ (k < 0 ∨ 6 < k) → c ∈ Seg4.all ⟨W, F, G, B⟩ ∧ (fun y => if y = (c : Int) then cntF (Seg4.all ⟨W, F, G, B⟩) (c : Int) - 1 else cntF (Seg4.all ⟨W, F, G, B⟩) y) = cntF S.all) ∧
    (¬ (e = 0 ∧ k = 0) → ¬ (e = 0 ∧ (k < 0 ∨ 6 < k)) → cntF (Seg4.all ⟨W, F, G, B⟩) = cntF S.all) := by
  cases h with
  | growOut hk h => exact ⟨fun q => absurd q.1 (by decide), fun q => absurd q.1 (by decide), fun _ _ => rfl⟩
  | growIn hk c' hn h1 h2 =>
    refine ⟨fun _ => ⟨⟨c', hn, h2⟩, ?_⟩, fun q => by omega, fun q _ => absurd ⟨rfl, hk⟩ q⟩
    subst hn
    funext y
    have e := cntF_cons c' (Seg4.all ⟨W, F, G, B⟩) y
    have e2 : Seg4.all ⟨c' :: W, F, G, B⟩ = c' :: Seg4.all ⟨W, F, G, B⟩ := rfl
    rw [e2, e]
    by_cases q : y = (c' : Int)
    · subst q; rfl
    · rw [if_neg q, if_neg q]
  | shadeNo hk hF => exact ⟨fun q => absurd q.1 (by decide), fun q => absurd q.1 (by decide), fun _ _ => rfl⟩
  | shade hk F1 F2 c' hF hn =>
    refine ⟨fun q => by omega, fun q => by omega, fun _ _ => all_perm ?_⟩
    subst hF
    refine List.Perm.append_left _ ?_
    simp only [List.append_assoc, List.cons_append, List.nil_append]
    refine List.Perm.append_left _ ?_
    refine List.Perm.trans ?_ (List.Perm.append_left F2 (List.perm_middle (a := c') (l₁ := G) (l₂ := B)).symm)
    exact (List.perm_middle (a := c') (l₁ := F2) (l₂ := G ++ B)).symm
  | nextNo hk hG => exact ⟨fun q => by omega, fun q => by omega, fun _ _ => rfl⟩
  | next hk G0 c' hG => exact ⟨fun q => by omega, fun q => by omega, fun _ _ => rfl⟩
  | doneNo hk hG => exact ⟨fun q => absurd q.1 (by decide), fun q => absurd q.1 (by decide), fun _ _ => rfl⟩
  | done hk G0 c' hG =>
    refine ⟨fun q => by omega, fun q => by omega, fun _ _ => ?_⟩
    subst hG
    simp [Seg4.all]
  | beginNo hk h => exact ⟨fun q => absurd q.1 (by decide), fun q => absurd q.1 (by decide), fun _ _ => rfl⟩
  | begin hk hF hG =>
    refine ⟨fun q => by omega, fun q => by omega, fun _ _ => ?_⟩
    subst hF hG
    simp [Seg4.all]
  | endNo hk h => exact ⟨fun q => absurd q.1 (by decide), fun q => absurd q.1 (by decide), fun _ _ => rfl⟩
  | endOk hk hG =>
    refine ⟨fun q => by omega, fun q => by omega, fun _ _ => ?_⟩
    subst hG
    simp [Seg4.all]
  | takeNo hk hW => exact ⟨fun q => absurd q.1 (by decide), fun q => absurd q.1 (by decide), fun _ _ => rfl⟩
  | alloc hk c' W' hW =>
    refine ⟨fun q => by omega, fun q => by omega, fun _ _ => all_perm ?_⟩
    subst hW
    simp only [List.append_assoc, List.cons_append, List.nil_append]
    have : (W' ++ (F ++ (G ++ (B ++ [c])))) = (W' ++ (F ++ (G ++ B))) ++ [c] := by simp
    rw [this]
    exact (List.perm_append_comm (l₁ := [c]) (l₂ := W' ++ (F ++ (G ++ B))))
  | drop hk c' W' hW =>
    subst hW
    refine ⟨fun q => by omega, fun _ => ⟨by simp [Seg4.all], ?_⟩, fun _ q => absurd ⟨rfl, hk⟩ q⟩
    funext y
    have e2 : Seg4.all ⟨c :: W', F, G, B⟩ = c :: Seg4.all ⟨W', F, G, B⟩ := rfl
    rw [e2, cntF_cons, cntF_cons]
    by_cases q : y = (c : Int)
    · subst q; rw [if_pos rfl, if_pos rfl]; omega
    · rw [if_neg q, if_neg q]
theorem wf_small {c : Int} (h1 : -1000000 ≤ c) (h2 : c ≤ 1000000) : (Lit.int .i64 c).wf = true := by
  exact WalkArith.wf_i64 (by omega)
end Go.Proofs.Ytlpdlhmdhlcdlaa
