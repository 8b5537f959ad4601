/-
  Reading tokens goes on, never back, and stands still behind a fault (layer 8). No conditions.
-/
import Derived.Test.YtlnmicddobgppaaGreatDoorParF
namespace Go.Proofs.YtlnmicddobgppaaGreatDoor
set_option linter.unusedSimpArgs false
set_option linter.unusedVariables false

/-- From s on to t. -/
structure Goes (L : List TokV) (s t : PS) : Prop where
  up : s.at_ ≤ t.at_
  le : s.at_ ≤ L.length → t.at_ ≤ L.length
  er : s.e ≠ 0 → t.e ≠ 0
/-- How many rounds a loop may still go. -/
def measP (L : List TokV) (s : PS) : Nat := if s.e = 0 then L.length - s.at_ + 1 else 0
theorem measP_le (L : List TokV) (s : PS) : measP L s + 1 ≤ fuelP L := by
  unfold measP fuelP
  split <;> omega
theorem Goes.refl (L : List TokV) (s : PS) : Goes L s s := ⟨Nat.le_refl _, id, id⟩
theorem Goes.trans {L : List TokV} {s t u : PS} (h : Goes L s t) (g : Goes L t u) : Goes L s u := ⟨Nat.le_trans h.up g.up, fun q => g.le (h.le q), fun q => g.er (h.er q)⟩
theorem Goes.step {L : List TokV} {s : PS} (h : s.at_ < L.length) : Goes L s { s with at_ := s.at_ + 1 } := ⟨Nat.le_succ _, fun _ => h, id⟩
/-- A token was read, and what follows: the loop has less to go. -/
theorem measP_lt {L : List TokV} {s t : PS} (h0 : s.e = 0) (hl : s.at_ < L.length) (h : Goes L { s with at_ := s.at_ + 1 } t) : measP L t < measP L s := by
  have := h.up
  simp only at this
  unfold measP
  rw [if_pos h0]
  split <;> omega
theorem measP_bad {L : List TokV} {s t : PS} (h0 : s.e = 0) (h : t.e ≠ 0) : measP L t < measP L s := by
  unfold measP
  rw [if_pos h0, if_neg h]
  omega
section
variable {L : List TokV}
theorem fault_goes {e : Nat} {s : PS} (he : e ≠ 0) : Goes L s (faultF L e s) ∧ (faultF L e s).e ≠ 0 ∧ (faultF L e s).at_ = s.at_ := by
  unfold faultF
  by_cases h : s.e = 0
  · rw [if_neg (by simpa using h)]
    split
    · exact ⟨⟨Nat.le_refl _, id, fun _ => he⟩, he, rfl⟩
    · exact ⟨⟨Nat.le_refl _, id, fun _ => by simp⟩, by simp, rfl⟩
  · rw [if_pos h]
    exact ⟨Goes.refl _ _, h, rfl⟩
theorem kind_lt {s : PS} {k : Int} (h : kindP L s = k) (hk : k ≠ 0) : s.at_ < L.length := by
  rcases Nat.lt_or_ge s.at_ L.length with q | q
  · exact q
  · unfold kindP at h
    rw [List.getElem?_eq_none q] at h
    exact absurd h.symm hk
theorem sees_lt {x : List UInt8} {s : PS} (h : seesF L x s = true) : s.at_ < L.length := by
  rcases Nat.lt_or_ge s.at_ L.length with q | q
  · exact q
  · unfold seesF at h
    rw [List.getElem?_eq_none q] at h
    cases h
theorem need_goes (x : List UInt8) (s : PS) : Goes L s (needF L x s) := by
  unfold needF
  split
  · rename_i h; exact Goes.step (sees_lt h.2)
  · exact (fault_goes (by decide)).1
theorem token_goes {k : Int} (hk : k ≠ 0) (s : PS) : Goes L s (tokenF L k s).2 := by
  unfold tokenF
  split
  · rename_i h; exact Goes.step (kind_lt h.2 hk)
  · exact (fault_goes (by decide)).1
theorem token_ok {k : Int} {s : PS} (h0 : s.e = 0) (h : kindP L s = k) : (tokenF L k s).2 = { s with at_ := s.at_ + 1 } := by
  unfold tokenF
  rw [if_pos ⟨h0, h⟩]
theorem token_meas {k : Int} (hk : k ≠ 0) {s : PS} (h0 : s.e = 0) : measP L (tokenF L k s).2 < measP L s := by
  unfold tokenF
  split
  · rename_i h; exact measP_lt h0 (kind_lt h.2 hk) (Goes.refl _ _)
  · exact measP_bad h0 (fault_goes (by decide)).2.1
theorem names_goes : ∀ (n : Nat) (least : Bool) (acc : List (List UInt8)) (s : PS), Goes L s (namesF L n least acc s).2
  | 0, _, _, s => Goes.refl _ _
  | n + 1, least, acc, s => by
    unfold namesF
    split
    · exact (token_goes (by decide) s).trans (names_goes n _ _ _)
    · exact Goes.refl _ _
variable {ex : PS → TE × PS} (hex : ∀ s, Goes L s (ex s).2)
include hex
theorem bind_goes (s : PS) : Goes L s (bindF L ex s).2 := by
  unfold bindF
  exact ((names_goes _ _ _ s).trans (need_goes _ _)).trans (hex _)
omit hex in
theorem altHead_goes (s : PS) : Goes L s (altHead L s).2 := by
  unfold altHead
  split
  · exact (token_goes (by decide) s).trans (names_goes _ _ _ _)
  · split
    · exact token_goes (by decide) s
    · exact token_goes (by decide) s
theorem alt_goes (s : PS) : Goes L s (altF L ex s).2 := by
  unfold altF
  exact ((altHead_goes s).trans (need_goes _ _)).trans (hex _)
theorem atoms_goes : ∀ (n : Nat) (acc : List TE) (s : PS), Goes L s (atomsF L ex n acc s).2
  | 0, _, s => Goes.refl _ _
  | n + 1, acc, s => by
    unfold atomsF
    split
    · exact Goes.refl _ _
    · split
      · exact (token_goes (by decide) s).trans (atoms_goes n _ _)
      · split
        · exact (token_goes (by decide) s).trans (atoms_goes n _ _)
        · split
          · exact (token_goes (by decide) s).trans (atoms_goes n _ _)
          · split
            · exact (token_goes (by decide) s).trans (atoms_goes n _ _)
            · split
              · exact Goes.refl _ _
              · rename_i h
                exact (((Goes.step (sees_lt (by simpa using h))).trans (hex _)).trans (need_goes _ _)).trans (atoms_goes n _ _)
theorem row_goes (s : PS) : Goes L s (rowF L ex s).2 := by
  have h := atoms_goes hex (fuelP L) [] s
  unfold rowF
  generalize atomsF L ex (fuelP L) [] s = p at h ⊢
  obtain ⟨l, t⟩ := p
  rcases l with _ | ⟨e, _ | ⟨e2, r⟩⟩
  · exact h.trans (fault_goes (by decide)).1
  · exact h
  · dsimp only at h ⊢
    split
    · exact h
    · exact h
theorem binds_goes : ∀ (n : Nat) (acc : List TB) (s : PS), Goes L s (bindsF L ex n acc s).2
  | 0, _, s => Goes.refl _ _
  | n + 1, acc, s => by
    unfold bindsF
    split
    · rename_i h
      exact ((Goes.step (sees_lt h.2)).trans (bind_goes hex _)).trans (binds_goes n _ _)
    · exact Goes.refl _ _
theorem alts_goes : ∀ (n : Nat) (acc : List TA) (s : PS), Goes L s (altsF L ex n acc s).2
  | 0, _, s => Goes.refl _ _
  | n + 1, acc, s => by
    unfold altsF
    split
    · rename_i h
      exact ((Goes.step (sees_lt h.2)).trans (alt_goes hex _)).trans (alts_goes n _ _)
    · exact Goes.refl _ _
theorem choice_goes {s : PS} (hs : s.at_ < L.length) : Goes L s (choiceF L ex s).2 := by
  have h1 := (((Goes.step hs).trans (hex _)).trans (need_goes [111, 102] _)).trans (need_goes [123] _)
  unfold choiceF
  simp only
  split
  · rename_i h
    exact h1.trans (Goes.step (sees_lt h.2))
  · exact ((h1.trans (alt_goes hex _)).trans (alts_goes hex _ _ _)).trans (need_goes _ _)
theorem let_goes {s : PS} (hs : s.at_ < L.length) : Goes L s (letF L ex s).2 := by
  unfold letF
  exact ((((Goes.step hs).trans (bind_goes hex _)).trans (binds_goes hex _ _ _)).trans (need_goes _ _)).trans (hex _)
theorem lam_goes {s : PS} (hs : s.at_ < L.length) : Goes L s (lamF L ex s).2 := by
  unfold lamF
  exact (((Goes.step hs).trans (names_goes _ _ _ _)).trans (need_goes _ _)).trans (hex _)
theorem op_goes (s : PS) : Goes L s (opF L ex s).2 := by
  have h := row_goes hex s
  unfold opF
  simp only
  split
  · exact (h.trans (token_goes (by decide) _)).trans (row_goes hex _)
  · exact h
theorem step_goes (s : PS) : Goes L s (exprStep L ex s).2 := by
  unfold exprStep
  split
  · exact Goes.refl _ _
  · split
    · rename_i h; exact let_goes hex (sees_lt h)
    · split
      · rename_i h; exact choice_goes hex (sees_lt h)
      · split
        · rename_i h; exact lam_goes hex (sees_lt h)
        · exact op_goes hex s
end
theorem expr_goes (L : List TokV) : ∀ (d : Nat) (s : PS), Goes L s (exprF L d s).2
  | 0, s => by
    unfold exprF
    split
    · exact Goes.refl _ _
    · split
      · exact (fault_goes (by decide)).1.trans (fault_goes (by decide)).1
      · exact (fault_goes (by decide)).1
  | d + 1, s => by
    unfold exprF
    exact step_goes (expr_goes L d) s
end Go.Proofs.YtlnmicddobgppaaGreatDoor
