/-
  Parsing (layer 8), in plain words: tokens behind those that were looked at play no part. No conditions.
  Parsing (layer 8), in plain words: tokens that are alike but for their lines tell the same, wherever they stand in a row's end. No conditions.
  Parsing (layer 8), in plain words: modules of tokens: one row behind another; alike rows. No conditions.
  Sources' modules in plain words (layer 8): what parts tokens plays no part. No conditions.
  Sources' modules in plain words (layer 8): a beginning of tokens tells a module just if it ends behind a ;, else something is lacking at its end. No conditions.
  Sources' modules in plain words (layer 8): two sources, one behind the other. No conditions.
  Sources' modules in plain words (layer 8): how many constructors and binds there are, and on which lines faults stand. No conditions.
  Two rows behind one another in a third (memory alone); blocks told apart by their types. No conditions.
-/
import Derived.Test.YtlnmicddobgppaaGreatDoorPar16
import Derived.Test.YtlnmicddobgppaaGreatDoorParW
import Derived.Test.YtlnmicddobgppaaGreatDoorLxP
namespace Go.Proofs.YtlnmicddobgppaaGreatDoor
set_option linter.unusedSimpArgs false
set_option linter.unusedVariables false
set_option linter.unusedSectionVars false
section
variable {A Z : List TokV}
theorem pre_at {s : PS} (h : s.at_ < A.length) : (A ++ Z)[s.at_]? = A[s.at_]? := List.getElem?_append_left h
theorem kindP_pre {s : PS} (h : s.at_ < A.length) : kindP (A ++ Z) s = kindP A s := by unfold kindP; rw [pre_at h]
theorem seesF_pre {x : List UInt8} {s : PS} (h : s.at_ < A.length) : seesF (A ++ Z) x s = seesF A x s := by unfold seesF; rw [pre_at h]
theorem faultF_pre {e : Nat} {s : PS} (h : s.at_ < A.length) : faultF (A ++ Z) e s = faultF A e s := by
 unfold faultF
 rw [pre_at h, List.getElem?_eq_getElem h]
theorem needF_pre {x : List UInt8} {s : PS} (h : s.at_ < A.length) : needF (A ++ Z) x s = needF A x s := by unfold needF; rw [seesF_pre h, faultF_pre h]
theorem tokenF_pre {k : Int} {s : PS} (h : s.at_ < A.length) : tokenF (A ++ Z) k s = tokenF A k s := by unfold tokenF; rw [kindP_pre h, pre_at h, faultF_pre h]
theorem startsF_pre {s : PS} (h : s.at_ < A.length) : startsF (A ++ Z) s = startsF A s := by unfold startsF; rw [kindP_pre h, seesF_pre h, seesF_pre h, seesF_pre h, seesF_pre h]
theorem names_pre : ∀ (g' g : Nat) (least : Bool) (acc : List (List UInt8)) (s : PS), measP (A ++ Z) s + 1 ≤ g → measP A s + 1 ≤ g' → (namesF A g' least acc s).2.at_ < A.length → namesF (A ++ Z) g least acc s = namesF A g' least acc s
 | 0, g, least, acc, s, _, h, _ => by omega
 | g' + 1, g, least, acc, s, h1, h2, h3 => by
  have hs : s.at_ < A.length := Nat.lt_of_le_of_lt (names_goes (L := A) (g' + 1) least acc s).up h3
  obtain ⟨f, rfl⟩ : ∃ f, g = f + 1 := ⟨g - 1, by omega⟩
  unfold namesF at h3 ⊢
  rw [kindP_pre hs, tokenF_pre hs]
  by_cases hc : s.e = 0 ∧ (least = true ∨ kindP A s = 1)
  · rw [if_pos hc] at h3 ⊢
    rw [if_pos hc]
    have m1 := token_meas (L := A ++ Z) (k := 1) (by decide) hc.1
    have m2 := token_meas (L := A) (k := 1) (by decide) hc.1
    rw [tokenF_pre hs] at m1
    exact names_pre g' f false _ _ (by omega) (by omega) h3
  · rw [if_neg hc, if_neg hc]
variable {ex ey : PS → TE × PS}
def PreE (A : List TokV) (ex ey : PS → TE × PS) : Prop := ∀ s, (ey s).2.at_ < A.length → ex s = ey s
variable (hp : PreE A ex ey) (gx : ∀ s, Goes (A ++ Z) s (ex s).2) (gy : ∀ s, Goes A s (ey s).2)
include hp gx gy
theorem bind_pre (s : PS) (h : (bindF A ey s).2.at_ < A.length) : bindF (A ++ Z) ex s = bindF A ey s := by
 unfold bindF at h ⊢
 simp only at h ⊢
 have h2 := Nat.lt_of_le_of_lt (gy _).up h
 have h1 := Nat.lt_of_le_of_lt (need_goes (L := A) [61] _).up h2
 rw [names_pre _ _ true [] s (measP_le _ _) (measP_le _ _) h1, needF_pre h1, hp _ h]
omit hp gx gy in
theorem altHead_pre (s : PS) (h : (altHead A s).2.at_ < A.length) : altHead (A ++ Z) s = altHead A s := by
 have hs := Nat.lt_of_le_of_lt (altHead_goes (L := A) s).up h
 unfold altHead at h ⊢
 simp only at h ⊢
 rw [kindP_pre hs, tokenF_pre hs, tokenF_pre hs, tokenF_pre hs]
 by_cases h2 : kindP A s = 2
 · rw [if_pos h2] at h ⊢
   rw [if_pos h2]
   simp only at h ⊢
   rw [names_pre _ _ false [] _ (measP_le _ _) (measP_le _ _) h]
 · rw [if_neg h2] at h ⊢
   rw [if_neg h2]
theorem alt_pre (s : PS) (h : (altF A ey s).2.at_ < A.length) : altF (A ++ Z) ex s = altF A ey s := by
 unfold altF at h ⊢
 simp only at h ⊢
 have h2 := Nat.lt_of_le_of_lt (gy _).up h
 have h1 := Nat.lt_of_le_of_lt (need_goes (L := A) [45, 62] _).up h2
 rw [altHead_pre s h1, needF_pre h1, hp _ h]
theorem atoms_pre_ : ∀ (g' g : Nat) (acc : List TE) (s : PS), measP (A ++ Z) s + 1 ≤ g → measP A s + 1 ≤ g' → (atomsF A ey g' acc s).2.at_ < A.length → atomsF (A ++ Z) ex g acc s = atomsF A ey g' acc s
 | 0, g, acc, s, _, h, _ => by omega
 | g' + 1, g, acc, s, h1, h2, h3 => by
  have hs : s.at_ < A.length := Nat.lt_of_le_of_lt (atoms_goes gy (g' + 1) acc s).up h3
  obtain ⟨f, rfl⟩ : ∃ f, g = f + 1 := ⟨g - 1, by omega⟩
  unfold atomsF at h3 ⊢
  rw [kindP_pre hs, tokenF_pre hs, tokenF_pre hs, tokenF_pre hs, tokenF_pre hs, seesF_pre hs]
  by_cases he : s.e ≠ 0
  · rw [if_pos he, if_pos he]
  · rw [if_neg he] at h3 ⊢
    rw [if_neg he]
    have e0 : s.e = 0 := by simpa using he
    have tk : ∀ k : Int, k ≠ 0 → measP (A ++ Z) (tokenF A k s).2 + 1 ≤ f ∧ measP A (tokenF A k s).2 + 1 ≤ g' := fun k hk => by
     have m1 := token_meas (L := A ++ Z) hk e0
     have m2 := token_meas (L := A) hk e0
     rw [tokenF_pre hs] at m1
     omega
    by_cases k1 : kindP A s = 1
    · rw [if_pos k1] at h3 ⊢
      rw [if_pos k1]
      exact atoms_pre_ g' f _ _ (tk 1 (by decide)).1 (tk 1 (by decide)).2 h3
    · rw [if_neg k1] at h3 ⊢
      rw [if_neg k1]
      by_cases k2 : kindP A s = 2
      · rw [if_pos k2] at h3 ⊢
        rw [if_pos k2]
        exact atoms_pre_ g' f _ _ (tk 2 (by decide)).1 (tk 2 (by decide)).2 h3
      · rw [if_neg k2] at h3 ⊢
        rw [if_neg k2]
        by_cases k7 : kindP A s = 7
        · rw [if_pos k7] at h3 ⊢
          rw [if_pos k7]
          exact atoms_pre_ g' f _ _ (tk 7 (by decide)).1 (tk 7 (by decide)).2 h3
        · rw [if_neg k7] at h3 ⊢
          rw [if_neg k7]
          by_cases k3 : kindP A s = 3
          · rw [if_pos k3] at h3 ⊢
            rw [if_pos k3]
            exact atoms_pre_ g' f _ _ (tk 3 (by decide)).1 (tk 3 (by decide)).2 h3
          · rw [if_neg k3] at h3 ⊢
            rw [if_neg k3]
            by_cases kp : seesF A [40] s = false
            · rw [if_pos kp, if_pos kp]
            · rw [if_neg kp] at h3 ⊢
              rw [if_neg kp]
              have n2 := Nat.lt_of_le_of_lt (atoms_goes gy g' _ _).up h3
              have n1 := Nat.lt_of_le_of_lt (need_goes (L := A) [41] _).up n2
              have e1 := hp _ n1
              have hl : s.at_ < (A ++ Z).length := by rw [List.length_append]; omega
              have m1 := measP_lt (L := A ++ Z) e0 hl ((gx _).trans (need_goes [41] _))
              have m2 := measP_lt (L := A) e0 hs ((gy _).trans (need_goes [41] _))
              rw [e1, needF_pre n1] at m1 ⊢
              exact atoms_pre_ g' f _ _ (by omega) (by omega) h3
theorem row_pre (s : PS) (h : (rowF A ey s).2.at_ < A.length) : rowF (A ++ Z) ex s = rowF A ey s := by
 have hs := Nat.lt_of_le_of_lt (row_goes gy s).up h
 have hl : (atomsF A ey (fuelP A) [] s).2.at_ < A.length := by
  unfold rowF at h
  generalize atomsF A ey (fuelP A) [] s = p at h ⊢
  obtain ⟨l, t⟩ := p
  rcases l with _ | ⟨e, _ | ⟨e2, r⟩⟩
  · simp only at h
    rw [(fault_goes (L := A) (e := 3) (s := t) (by decide)).2.2] at h
    exact h
  · exact h
  · simp only at h
    split at h
    · exact h
    · exact h
 have e := atoms_pre_ hp gx gy (fuelP A) (fuelP (A ++ Z)) [] s (measP_le _ _) (measP_le _ _) hl
 unfold rowF
 rw [e, kindP_pre hs]
 generalize atomsF A ey (fuelP A) [] s = p at hl ⊢
 obtain ⟨l, t⟩ := p
 rcases l with _ | ⟨e, _ | ⟨e2, r⟩⟩
 · simp only
   rw [faultF_pre hl]
 · rfl
 · rfl
theorem binds_pre : ∀ (g' g : Nat) (acc : List TB) (s : PS), measP (A ++ Z) s + 1 ≤ g → measP A s + 1 ≤ g' → (bindsF A ey g' acc s).2.at_ < A.length → bindsF (A ++ Z) ex g acc s = bindsF A ey g' acc s
 | 0, g, acc, s, _, h, _ => by omega
 | g' + 1, g, acc, s, h1, h2, h3 => by
  have hs : s.at_ < A.length := Nat.lt_of_le_of_lt (binds_goes gy (g' + 1) acc s).up h3
  obtain ⟨f, rfl⟩ : ∃ f, g = f + 1 := ⟨g - 1, by omega⟩
  unfold bindsF at h3 ⊢
  rw [seesF_pre hs]
  by_cases hc : s.e = 0 ∧ seesF A [59] s = true
  · rw [if_pos hc] at h3 ⊢
    rw [if_pos hc]
    have n1 := Nat.lt_of_le_of_lt (binds_goes gy g' _ _).up h3
    have e1 := bind_pre hp gx gy _ n1
    have hl : s.at_ < (A ++ Z).length := by rw [List.length_append]; omega
    have m1 := measP_lt (L := A ++ Z) hc.1 hl (bind_goes gx _)
    have m2 := measP_lt (L := A) hc.1 hs (bind_goes gy _)
    rw [e1] at m1 ⊢
    exact binds_pre g' f _ _ (by omega) (by omega) h3
  · rw [if_neg hc, if_neg hc]
theorem alts_pre : ∀ (g' g : Nat) (acc : List TA) (s : PS), measP (A ++ Z) s + 1 ≤ g → measP A s + 1 ≤ g' → (altsF A ey g' acc s).2.at_ < A.length → altsF (A ++ Z) ex g acc s = altsF A ey g' acc s
 | 0, g, acc, s, _, h, _ => by omega
 | g' + 1, g, acc, s, h1, h2, h3 => by
  have hs : s.at_ < A.length := Nat.lt_of_le_of_lt (alts_goes gy (g' + 1) acc s).up h3
  obtain ⟨f, rfl⟩ : ∃ f, g = f + 1 := ⟨g - 1, by omega⟩
  unfold altsF at h3 ⊢
  rw [seesF_pre hs]
  by_cases hc : s.e = 0 ∧ seesF A [59] s = true
  · rw [if_pos hc] at h3 ⊢
    rw [if_pos hc]
    have n1 := Nat.lt_of_le_of_lt (alts_goes gy g' _ _).up h3
    have e1 := alt_pre hp gx gy _ n1
    have hl : s.at_ < (A ++ Z).length := by rw [List.length_append]; omega
    have m1 := measP_lt (L := A ++ Z) hc.1 hl (alt_goes gx _)
    have m2 := measP_lt (L := A) hc.1 hs (alt_goes gy _)
    rw [e1] at m1 ⊢
    exact alts_pre g' f _ _ (by omega) (by omega) h3
  · rw [if_neg hc, if_neg hc]
theorem choice_pre (s : PS) (h : (choiceF A ey s).2.at_ < A.length) : choiceF (A ++ Z) ex s = choiceF A ey s := by
 unfold choiceF at h ⊢
 simp only at h ⊢
 by_cases hc : (needF A [123] (needF A [111, 102] (ey { s with at_ := s.at_ + 1 }).2)).e = 0 ∧ seesF A [125] (needF A [123] (needF A [111, 102] (ey { s with at_ := s.at_ + 1 }).2)) = true
 · rw [if_pos hc] at h ⊢
   have n3 : (needF A [123] (needF A [111, 102] (ey { s with at_ := s.at_ + 1 }).2)).at_ < A.length := by simp only at h; omega
   have n2 := Nat.lt_of_le_of_lt (need_goes (L := A) [123] _).up n3
   have n1 := Nat.lt_of_le_of_lt (need_goes (L := A) [111, 102] _).up n2
   rw [hp _ n1, needF_pre n1, needF_pre n2, seesF_pre n3, if_pos hc]
 · rw [if_neg hc] at h ⊢
   simp only at h ⊢
   have n5 := Nat.lt_of_le_of_lt (need_goes (L := A) [125] _).up h
   have n4 := Nat.lt_of_le_of_lt (alts_goes gy _ _ _).up n5
   have n3 := Nat.lt_of_le_of_lt (alt_goes gy _).up n4
   have n2 := Nat.lt_of_le_of_lt (need_goes (L := A) [123] _).up n3
   have n1 := Nat.lt_of_le_of_lt (need_goes (L := A) [111, 102] _).up n2
   rw [hp _ n1, needF_pre n1, needF_pre n2, seesF_pre n3, if_neg hc, alt_pre hp gx gy _ n4, alts_pre hp gx gy _ _ _ _ (measP_le _ _) (measP_le _ _) n5, needF_pre n5]
theorem let_pre (s : PS) (h : (letF A ey s).2.at_ < A.length) : letF (A ++ Z) ex s = letF A ey s := by
 unfold letF at h ⊢
 simp only at h ⊢
 have n3 := Nat.lt_of_le_of_lt (gy _).up h
 have n2 := Nat.lt_of_le_of_lt (need_goes (L := A) [105, 110] _).up n3
 have n1 := Nat.lt_of_le_of_lt (binds_goes gy _ _ _).up n2
 rw [bind_pre hp gx gy _ n1, binds_pre hp gx gy _ _ _ _ (measP_le _ _) (measP_le _ _) n2, needF_pre n2, hp _ h]
theorem lam_pre (s : PS) (h : (lamF A ey s).2.at_ < A.length) : lamF (A ++ Z) ex s = lamF A ey s := by
 unfold lamF at h ⊢
 simp only at h ⊢
 have n2 := Nat.lt_of_le_of_lt (gy _).up h
 have n1 := Nat.lt_of_le_of_lt (need_goes (L := A) [45, 62] _).up n2
 rw [names_pre _ _ true [] _ (measP_le _ _) (measP_le _ _) n1, needF_pre n1, hp _ h]
theorem op_pre (s : PS) (h : (opF A ey s).2.at_ < A.length) : opF (A ++ Z) ex s = opF A ey s := by
 unfold opF at h ⊢
 simp only at h ⊢
 by_cases hc : (rowF A ey s).2.e = 0 ∧ kindP A (rowF A ey s).2 = 4
 · rw [if_pos hc] at h ⊢
   simp only at h ⊢
   have n2 := Nat.lt_of_le_of_lt (row_goes gy _).up h
   have n1 := Nat.lt_of_le_of_lt (token_goes (L := A) (k := 4) (by decide) _).up n2
   rw [row_pre hp gx gy _ n1, kindP_pre n1, if_pos hc, tokenF_pre n1, row_pre hp gx gy _ h]
 · rw [if_neg hc] at h ⊢
   rw [row_pre hp gx gy _ h, kindP_pre h, if_neg hc]
theorem step_pre (s : PS) (h : (exprStep A ey s).2.at_ < A.length) : exprStep (A ++ Z) ex s = exprStep A ey s := by
 have hs := Nat.lt_of_le_of_lt (step_goes gy s).up h
 unfold exprStep at h ⊢
 rw [seesF_pre hs, seesF_pre hs, seesF_pre hs]
 by_cases he : s.e ≠ 0
 · rw [if_pos he, if_pos he]
 · rw [if_neg he] at h ⊢
   rw [if_neg he]
   by_cases h1 : seesF A [108, 101, 116] s = true
   · rw [if_pos h1] at h ⊢
     rw [if_pos h1]
     exact let_pre hp gx gy s h
   · rw [if_neg h1] at h ⊢
     rw [if_neg h1]
     by_cases h2 : seesF A [99, 97, 115, 101] s = true
     · rw [if_pos h2] at h ⊢
       rw [if_pos h2]
       exact choice_pre hp gx gy s h
     · rw [if_neg h2] at h ⊢
       rw [if_neg h2]
       by_cases h3 : seesF A [92] s = true
       · rw [if_pos h3] at h ⊢
         rw [if_pos h3]
         exact lam_pre hp gx gy s h
       · rw [if_neg h3] at h ⊢
         rw [if_neg h3]
         exact op_pre hp gx gy s h
end
theorem expr_pre (A Z : List TokV) : ∀ d, PreE A (exprF (A ++ Z) d) (exprF A d)
 | 0 => fun s h => by
  have hs := Nat.lt_of_le_of_lt (expr_goes A 0 s).up h
  unfold exprF
  rw [startsF_pre hs]
  by_cases he : s.e ≠ 0
  · rw [if_pos he, if_pos he]
  · rw [if_neg he, if_neg he]
    by_cases hc : startsF A s = true
    · rw [if_pos hc, if_pos hc, faultF_pre hs, faultF_pre (by rw [(fault_goes (L := A) (e := 12) (s := s) (by decide)).2.2]; exact hs)]
    · rw [if_neg hc, if_neg hc, faultF_pre hs]
 | d + 1 => fun s h => by
  unfold exprF at h ⊢
  exact step_pre (expr_pre A Z d) (expr_goes (A ++ Z) d) (expr_goes A d) s h
theorem data_pre {A Z : List TokV} : ∀ (g' g : Nat) (acc : List (List UInt8 × Nat)) (s : PS), measP (A ++ Z) s + 1 ≤ g → measP A s + 1 ≤ g' → (dataF A g' acc s).2.at_ < A.length → dataF (A ++ Z) g acc s = dataF A g' acc s
 | 0, g, acc, s, _, h, _ => by omega
 | g' + 1, g, acc, s, h1, h2, h3 => by
  have hs : s.at_ < A.length := Nat.lt_of_le_of_lt (data_goes_ A (g' + 1) acc s).up h3
  obtain ⟨f, rfl⟩ : ∃ f, g = f + 1 := ⟨g - 1, by omega⟩
  unfold dataF at h3 ⊢
  rw [kindP_pre hs]
  by_cases hc : s.e = 0 ∧ kindP A s = 2
  · rw [if_pos hc] at h3 ⊢
    rw [if_pos hc]
    simp only at h3 ⊢
    have n3 := Nat.lt_of_le_of_lt (data_goes_ A g' _ _).up h3
    have n2 := Nat.lt_of_le_of_lt (token_goes (L := A) (k := 3) (by decide) _).up n3
    have g2 := data_goes A (tokenF A 2 s).2
    have n1 := Nat.lt_of_le_of_lt g2.up n2
    have m1 := token_meas (L := A ++ Z) (k := 2) (by decide) hc.1
    have m2 := token_meas (L := A) (k := 2) (by decide) hc.1
    rw [tokenF_pre hs] at m1 ⊢
    rw [kindP_pre n1, pre_at n1, faultF_pre n1]
    have gz : Goes (A ++ Z) (tokenF A 2 s).2 (if kindP A (tokenF A 2 s).2 = 3 then (if (A[(tokenF A 2 s).2.at_]?.getD (none_ 0)).flt = true ∨ 24 < (A[(tokenF A 2 s).2.at_]?.getD (none_ 0)).bits then faultF A 1 (tokenF A 2 s).2 else (tokenF A 2 s).2) else (tokenF A 2 s).2) := by
     have h := data_goes (A ++ Z) (tokenF A 2 s).2
     rw [kindP_pre n1, pre_at n1, faultF_pre n1] at h
     exact h
    have q1 := measP_goes (gz.trans (token_goes (L := A ++ Z) (k := 3) (by decide) _))
    have q2 := measP_goes (g2.trans (token_goes (L := A) (k := 3) (by decide) _))
    rw [tokenF_pre n2] at q1 ⊢
    exact data_pre g' f _ _ (by omega) (by omega) h3
  · rw [if_neg hc, if_neg hc]
def AlikeT (ln : Nat → Nat → Prop) (x y : TokV) : Prop := x.kind = y.kind ∧ x.text = y.text ∧ x.flt = y.flt ∧ x.bits = y.bits ∧ ln x.line y.line
structure SimL (ln : Nat → Nat → Prop) (X Y : List TokV) (d : Nat) : Prop where
 len : X.length = Y.length + d
 tok : ∀ (i : Nat) (h : i < Y.length) (h' : i + d < X.length), AlikeT ln X[i + d] Y[i]
structure SimP (ln : Nat → Nat → Prop) (d : Nat) (s t : PS) : Prop where
 at_ : s.at_ = t.at_ + d
 e : s.e = t.e
 line : s.e ≠ 0 → s.e = 17 ∨ ln s.line t.line
section
variable {ln : Nat → Nat → Prop} {X Y : List TokV} {d : Nat} (hL : SimL ln X Y d) {s t : PS} (hs : SimP ln d s t)
theorem SimP.step (hs : SimP ln d s t) : SimP ln d { s with at_ := s.at_ + 1 } { t with at_ := t.at_ + 1 } := ⟨by have := hs.at_; simp only; omega, hs.e, hs.line⟩
include hL hs
theorem sim_none (h : ¬ t.at_ < Y.length) : X[s.at_]? = none ∧ Y[t.at_]? = none :=
 ⟨List.getElem?_eq_none (by have := hs.at_; have := hL.len; omega), List.getElem?_eq_none (by omega)⟩
theorem sim_some (h : t.at_ < Y.length) : ∃ x y, X[s.at_]? = some x ∧ Y[t.at_]? = some y ∧ AlikeT ln x y := by
 have h' : t.at_ + d < X.length := by have := hL.len; omega
 refine ⟨X[t.at_ + d], Y[t.at_], ?_, List.getElem?_eq_getElem h, hL.tok _ h h'⟩
 rw [hs.at_, List.getElem?_eq_getElem h']
theorem kind_sim : kindP X s = kindP Y t := by
 unfold kindP
 by_cases h : t.at_ < Y.length
 · obtain ⟨x, y, e1, e2, a⟩ := sim_some hL hs h
   rw [e1, e2]
   exact a.1
 · rw [(sim_none hL hs h).1, (sim_none hL hs h).2]
theorem sees_sim (w : List UInt8) : seesF X w s = seesF Y w t := by
 unfold seesF
 by_cases h : t.at_ < Y.length
 · obtain ⟨x, y, e1, e2, a⟩ := sim_some hL hs h
   rw [e1, e2]
   simp only [a.1, a.2.1]
 · rw [(sim_none hL hs h).1, (sim_none hL hs h).2]
theorem fault_sim {e : Nat} (he : e ≠ 0) : SimP ln d (faultF X e s) (faultF Y e t) := by
 unfold faultF
 by_cases h0 : s.e = 0
 · rw [if_neg (by simpa using h0), if_neg (by rw [← hs.e]; simpa using h0)]
   by_cases h : t.at_ < Y.length
   · obtain ⟨x, y, e1, e2, a⟩ := sim_some hL hs h
     rw [e1, e2]
     exact ⟨hs.at_, rfl, fun _ => .inr a.2.2.2.2⟩
   · rw [(sim_none hL hs h).1, (sim_none hL hs h).2]
     exact ⟨hs.at_, rfl, fun _ => .inl rfl⟩
 · rw [if_pos h0, if_pos (by rw [← hs.e]; exact h0)]
   exact hs
theorem need_sim (w : List UInt8) : SimP ln d (needF X w s) (needF Y w t) := by
 obtain ⟨sa, se, sl⟩ := s
 obtain ⟨ta, te, tl⟩ := t
 obtain rfl : se = te := hs.e
 unfold needF
 rw [sees_sim hL hs]
 split
 · exact hs.step
 · exact fault_sim hL hs (by decide)
theorem token_sim (k : Int) : (tokenF X k s).1.text = (tokenF Y k t).1.text ∧ (tokenF X k s).1.flt = (tokenF Y k t).1.flt ∧ (tokenF X k s).1.bits = (tokenF Y k t).1.bits ∧ SimP ln d (tokenF X k s).2 (tokenF Y k t).2 := by
 obtain ⟨sa, se, sl⟩ := s
 obtain ⟨ta, te, tl⟩ := t
 obtain rfl : se = te := hs.e
 unfold tokenF
 rw [kind_sim hL hs]
 split
 · by_cases h : ta < Y.length
   · obtain ⟨x, y, e1, e2, a⟩ := sim_some hL hs h
     rw [e1, e2]
     exact ⟨a.2.1, a.2.2.1, a.2.2.2.1, hs.step⟩
   · rw [(sim_none hL hs h).1, (sim_none hL hs h).2]
     exact ⟨rfl, rfl, rfl, hs.step⟩
 · exact ⟨rfl, rfl, rfl, fault_sim hL hs (by decide)⟩
theorem starts_sim : startsF X s = startsF Y t := by
 unfold startsF
 rw [kind_sim hL hs, sees_sim hL hs, sees_sim hL hs, sees_sim hL hs, sees_sim hL hs]
end
section
variable {ln : Nat → Nat → Prop} {X Y : List TokV} {d : Nat} (hL : SimL ln X Y d)
include hL
theorem names_sim : ∀ (g' g : Nat) (least : Bool) (acc : List (List UInt8)) (s t : PS), SimP ln d s t → measP X s + 1 ≤ g → measP Y t + 1 ≤ g' → (namesF X g least acc s).1 = (namesF Y g' least acc t).1 ∧ SimP ln d (namesF X g least acc s).2 (namesF Y g' least acc t).2
 | 0, g, least, acc, s, t, hs, _, h => by omega
 | g' + 1, g, least, acc, s, t, hs, h1, h2 => by
  obtain ⟨f, rfl⟩ : ∃ f, g = f + 1 := ⟨g - 1, by omega⟩
  obtain ⟨sa, se, sl⟩ := s
  obtain ⟨ta, te, tl⟩ := t
  obtain rfl : se = te := hs.e
  unfold namesF
  rw [kind_sim hL hs]
  by_cases hc : se = 0 ∧ (least = true ∨ kindP Y ⟨ta, se, tl⟩ = 1)
  · rw [if_pos hc, if_pos hc]
    have hk := token_sim hL hs 1
    rw [hk.1]
    have m1 := token_meas (L := X) (s := ⟨sa, se, sl⟩) (k := 1) (by decide) (hc.1)
    have m2 := token_meas (L := Y) (s := ⟨ta, se, tl⟩) (k := 1) (by decide) hc.1
    exact names_sim g' f false _ _ _ hk.2.2.2 (by omega) (by omega)
  · rw [if_neg hc, if_neg hc]
    exact ⟨rfl, hs⟩
variable {ex ey : PS → TE × PS}
def SimE (ln : Nat → Nat → Prop) (d : Nat) (ex ey : PS → TE × PS) : Prop := ∀ s t, SimP ln d s t → (ex s).1 = (ey t).1 ∧ SimP ln d (ex s).2 (ey t).2
variable (hp : SimE ln d ex ey) (gx : ∀ s, Goes X s (ex s).2) (gy : ∀ s, Goes Y s (ey s).2) {s t : PS} (hs : SimP ln d s t)
include hp gx gy
theorem bind_sim {s t : PS} (hs : SimP ln d s t) : (bindF X ex s).1 = (bindF Y ey t).1 ∧ SimP ln d (bindF X ex s).2 (bindF Y ey t).2 := by
 unfold bindF
 simp only
 have h1 := names_sim hL (fuelP Y) (fuelP X) true [] s t hs (measP_le _ _) (measP_le _ _)
 have h2 := need_sim hL h1.2 [61]
 have h3 := hp _ _ h2
 rw [h1.1, h3.1]
 exact ⟨rfl, h3.2⟩
omit hp gx gy in
theorem altHead_sim {s t : PS} (hs : SimP ln d s t) : (altHead X s).1 = (altHead Y t).1 ∧ SimP ln d (altHead X s).2 (altHead Y t).2 := by
 unfold altHead
 simp only
 rw [kind_sim hL hs]
 split
 · have h1 := token_sim hL hs 2
   have h2 := names_sim hL (fuelP Y) (fuelP X) false [] _ _ h1.2.2.2 (measP_le _ _) (measP_le _ _)
   simp only
   rw [h1.1, h2.1]
   exact ⟨rfl, h2.2⟩
 · split
   · have h1 := token_sim hL hs 3
     simp only
     rw [h1.2.1, h1.2.2.1]
     exact ⟨rfl, h1.2.2.2⟩
   · have h1 := token_sim hL hs 1
     simp only
     rw [h1.1]
     exact ⟨rfl, h1.2.2.2⟩
theorem alt_sim {s t : PS} (hs : SimP ln d s t) : (altF X ex s).1 = (altF Y ey t).1 ∧ SimP ln d (altF X ex s).2 (altF Y ey t).2 := by
 unfold altF
 simp only
 have h1 := altHead_sim hL hs
 have h2 := need_sim hL h1.2 [45, 62]
 have h3 := hp _ _ h2
 rw [h1.1, h3.1]
 exact ⟨rfl, h3.2⟩
theorem atoms_sim : ∀ (g' g : Nat) (acc : List TE) (s t : PS), SimP ln d s t → measP X s + 1 ≤ g → measP Y t + 1 ≤ g' → (atomsF X ex g acc s).1 = (atomsF Y ey g' acc t).1 ∧ SimP ln d (atomsF X ex g acc s).2 (atomsF Y ey g' acc t).2
 | 0, g, acc, s, t, hs, _, h => by omega
 | g' + 1, g, acc, s, t, hs, h1, h2 => by
  obtain ⟨f, rfl⟩ : ∃ f, g = f + 1 := ⟨g - 1, by omega⟩
  obtain ⟨sa, se, sl⟩ := s
  obtain ⟨ta, te, tl⟩ := t
  obtain rfl : se = te := hs.e
  unfold atomsF
  rw [kind_sim hL hs, sees_sim hL hs]
  by_cases he : se ≠ 0
  · rw [if_pos he, if_pos he]
    exact ⟨rfl, hs⟩
  · rw [if_neg he, if_neg he]
    have e0 : se = 0 := by simpa using he
    have ex0 : se = 0 := e0
    have tk : ∀ k : Int, k ≠ 0 → measP X (tokenF X k ⟨sa, se, sl⟩).2 + 1 ≤ f ∧ measP Y (tokenF Y k ⟨ta, se, tl⟩).2 + 1 ≤ g' := fun k hk => by
     have m1 := token_meas (L := X) (s := ⟨sa, se, sl⟩) hk ex0
     have m2 := token_meas (L := Y) (s := ⟨ta, se, tl⟩) hk e0
     omega
    by_cases k1 : kindP Y ⟨ta, se, tl⟩ = 1
    · rw [if_pos k1, if_pos k1]
      have hk := token_sim hL hs 1
      rw [hk.1]
      exact atoms_sim g' f _ _ _ hk.2.2.2 (tk 1 (by decide)).1 (tk 1 (by decide)).2
    · rw [if_neg k1, if_neg k1]
      by_cases k2 : kindP Y ⟨ta, se, tl⟩ = 2
      · rw [if_pos k2, if_pos k2]
        have hk := token_sim hL hs 2
        rw [hk.1]
        exact atoms_sim g' f _ _ _ hk.2.2.2 (tk 2 (by decide)).1 (tk 2 (by decide)).2
      · rw [if_neg k2, if_neg k2]
        by_cases k7 : kindP Y ⟨ta, se, tl⟩ = 7
        · rw [if_pos k7, if_pos k7]
          have hk := token_sim hL hs 7
          rw [hk.1]
          exact atoms_sim g' f _ _ _ hk.2.2.2 (tk 7 (by decide)).1 (tk 7 (by decide)).2
        · rw [if_neg k7, if_neg k7]
          by_cases k3 : kindP Y ⟨ta, se, tl⟩ = 3
          · rw [if_pos k3, if_pos k3]
            have hk := token_sim hL hs 3
            rw [hk.2.1, hk.2.2.1]
            exact atoms_sim g' f _ _ _ hk.2.2.2 (tk 3 (by decide)).1 (tk 3 (by decide)).2
          · rw [if_neg k3, if_neg k3]
            by_cases kp : seesF Y [40] ⟨ta, se, tl⟩ = false
            · rw [if_pos kp, if_pos kp]
              exact ⟨rfl, hs⟩
            · rw [if_neg kp, if_neg kp]
              have ht : ta < Y.length := sees_lt (by simpa using kp)
              have hx : sa < X.length := by have : sa = ta + d := hs.at_; have := hL.len; have ht' : ta < Y.length := ht; omega
              have e1 := hp _ _ hs.step
              have e2 := need_sim hL e1.2 [41]
              have m1 := measP_lt (L := X) (s := ⟨sa, se, sl⟩) ex0 hx ((gx _).trans (need_goes [41] _))
              have m2 := measP_lt (L := Y) (s := ⟨ta, se, tl⟩) e0 ht ((gy _).trans (need_goes [41] _))
              rw [e1.1]
              exact atoms_sim g' f _ _ _ e2 (by omega) (by omega)
theorem row_sim {s t : PS} (hs : SimP ln d s t) : (rowF X ex s).1 = (rowF Y ey t).1 ∧ SimP ln d (rowF X ex s).2 (rowF Y ey t).2 := by
 have h := atoms_sim hL hp gx gy (fuelP Y) (fuelP X) [] s t hs (measP_le _ _) (measP_le _ _)
 unfold rowF
 rw [kind_sim hL hs]
 generalize atomsF X ex (fuelP X) [] s = p at h ⊢
 generalize atomsF Y ey (fuelP Y) [] t = q at h ⊢
 obtain ⟨l, u⟩ := p
 obtain ⟨l', u'⟩ := q
 obtain ⟨rfl, hu⟩ := h
 rcases l with _ | ⟨e, _ | ⟨e2, r⟩⟩
 · exact ⟨rfl, fault_sim hL hu (by decide)⟩
 · exact ⟨rfl, hu⟩
 · simp only
   split
   · exact ⟨rfl, hu⟩
   · exact ⟨rfl, hu⟩
theorem binds_sim : ∀ (g' g : Nat) (acc : List TB) (s t : PS), SimP ln d s t → measP X s + 1 ≤ g → measP Y t + 1 ≤ g' → (bindsF X ex g acc s).1 = (bindsF Y ey g' acc t).1 ∧ SimP ln d (bindsF X ex g acc s).2 (bindsF Y ey g' acc t).2
 | 0, g, acc, s, t, hs, _, h => by omega
 | g' + 1, g, acc, s, t, hs, h1, h2 => by
  obtain ⟨f, rfl⟩ : ∃ f, g = f + 1 := ⟨g - 1, by omega⟩
  obtain ⟨sa, se, sl⟩ := s
  obtain ⟨ta, te, tl⟩ := t
  obtain rfl : se = te := hs.e
  unfold bindsF
  rw [sees_sim hL hs]
  by_cases hc : se = 0 ∧ seesF Y [59] ⟨ta, se, tl⟩ = true
  · rw [if_pos hc, if_pos hc]
    have ht : ta < Y.length := sees_lt hc.2
    have hx : sa < X.length := by have : sa = ta + d := hs.at_; have := hL.len; have ht' : ta < Y.length := ht; omega
    have e1 := bind_sim hL hp gx gy hs.step
    have m1 := measP_lt (L := X) (s := ⟨sa, se, sl⟩) (hc.1) hx (bind_goes gx _)
    have m2 := measP_lt (L := Y) (s := ⟨ta, se, tl⟩) hc.1 ht (bind_goes gy _)
    rw [e1.1]
    exact binds_sim g' f _ _ _ e1.2 (by omega) (by omega)
  · rw [if_neg hc, if_neg hc]
    exact ⟨rfl, hs⟩
theorem alts_sim : ∀ (g' g : Nat) (acc : List TA) (s t : PS), SimP ln d s t → measP X s + 1 ≤ g → measP Y t + 1 ≤ g' → (altsF X ex g acc s).1 = (altsF Y ey g' acc t).1 ∧ SimP ln d (altsF X ex g acc s).2 (altsF Y ey g' acc t).2
 | 0, g, acc, s, t, hs, _, h => by omega
 | g' + 1, g, acc, s, t, hs, h1, h2 => by
  obtain ⟨f, rfl⟩ : ∃ f, g = f + 1 := ⟨g - 1, by omega⟩
  obtain ⟨sa, se, sl⟩ := s
  obtain ⟨ta, te, tl⟩ := t
  obtain rfl : se = te := hs.e
  unfold altsF
  rw [sees_sim hL hs]
  by_cases hc : se = 0 ∧ seesF Y [59] ⟨ta, se, tl⟩ = true
  · rw [if_pos hc, if_pos hc]
    have ht : ta < Y.length := sees_lt hc.2
    have hx : sa < X.length := by have : sa = ta + d := hs.at_; have := hL.len; have ht' : ta < Y.length := ht; omega
    have e1 := alt_sim hL hp gx gy hs.step
    have m1 := measP_lt (L := X) (s := ⟨sa, se, sl⟩) (hc.1) hx (alt_goes gx _)
    have m2 := measP_lt (L := Y) (s := ⟨ta, se, tl⟩) hc.1 ht (alt_goes gy _)
    rw [e1.1]
    exact alts_sim g' f _ _ _ e1.2 (by omega) (by omega)
  · rw [if_neg hc, if_neg hc]
    exact ⟨rfl, hs⟩
theorem choice_sim {s t : PS} (hs : SimP ln d s t) : (choiceF X ex s).1 = (choiceF Y ey t).1 ∧ SimP ln d (choiceF X ex s).2 (choiceF Y ey t).2 := by
 have h1 := hp _ _ hs.step
 have h2 := need_sim hL (need_sim hL h1.2 [111, 102]) [123]
 unfold choiceF
 simp only
 rw [h1.1]
 generalize (needF X [123] (needF X [111, 102] (ex { s with at_ := s.at_ + 1 }).2)) = u at h2 ⊢
 generalize (needF Y [123] (needF Y [111, 102] (ey { t with at_ := t.at_ + 1 }).2)) = v at h2 ⊢
 obtain ⟨ua, ue, ul⟩ := u
 obtain ⟨va, ve, vl⟩ := v
 obtain rfl : ue = ve := h2.e
 rw [sees_sim hL h2]
 split
 · exact ⟨rfl, h2.step⟩
 · have h3 := alt_sim hL hp gx gy h2
   simp only
   rw [h3.1]
   have h4 := alts_sim hL hp gx gy (fuelP Y) (fuelP X) [(altF Y ey ⟨va, ue, vl⟩).1] _ _ h3.2 (measP_le _ _) (measP_le _ _)
   rw [h4.1]
   exact ⟨rfl, need_sim hL h4.2 [125]⟩
theorem let_sim {s t : PS} (hs : SimP ln d s t) : (letF X ex s).1 = (letF Y ey t).1 ∧ SimP ln d (letF X ex s).2 (letF Y ey t).2 := by
 have h1 := bind_sim hL hp gx gy hs.step
 unfold letF
 simp only
 rw [h1.1]
 have h2 := binds_sim hL hp gx gy (fuelP Y) (fuelP X) [(bindF Y ey { t with at_ := t.at_ + 1 }).1] _ _ h1.2 (measP_le _ _) (measP_le _ _)
 have h3 := hp _ _ (need_sim hL h2.2 [105, 110])
 rw [h2.1, h3.1]
 exact ⟨rfl, h3.2⟩
theorem lam_sim {s t : PS} (hs : SimP ln d s t) : (lamF X ex s).1 = (lamF Y ey t).1 ∧ SimP ln d (lamF X ex s).2 (lamF Y ey t).2 := by
 have h1 := names_sim hL (fuelP Y) (fuelP X) true [] _ _ hs.step (measP_le _ _) (measP_le _ _)
 have h3 := hp _ _ (need_sim hL h1.2 [45, 62])
 unfold lamF
 simp only
 rw [h1.1, h3.1]
 exact ⟨rfl, h3.2⟩
theorem op_sim {s t : PS} (hs : SimP ln d s t) : (opF X ex s).1 = (opF Y ey t).1 ∧ SimP ln d (opF X ex s).2 (opF Y ey t).2 := by
 have h1 := row_sim hL hp gx gy hs
 unfold opF
 simp only
 generalize rowF X ex s = p at h1 ⊢
 generalize rowF Y ey t = q at h1 ⊢
 obtain ⟨pv, pa, pe, pl⟩ := p
 obtain ⟨qv, qa, qe, ql⟩ := q
 obtain ⟨rfl, h1⟩ := h1
 obtain rfl : pe = qe := h1.e
 simp only
 rw [kind_sim hL h1]
 split
 · have h2 := token_sim hL h1 4
   have h3 := row_sim hL hp gx gy h2.2.2.2
   rw [h2.1, h3.1]
   exact ⟨rfl, h3.2⟩
 · exact ⟨rfl, h1⟩
theorem step_sim {s t : PS} (hs : SimP ln d s t) : (exprStep X ex s).1 = (exprStep Y ey t).1 ∧ SimP ln d (exprStep X ex s).2 (exprStep Y ey t).2 := by
 obtain ⟨sa, se, sl⟩ := s
 obtain ⟨ta, te, tl⟩ := t
 obtain rfl : se = te := hs.e
 unfold exprStep
 rw [sees_sim hL hs, sees_sim hL hs, sees_sim hL hs]
 split
 · exact ⟨rfl, hs⟩
 · split
   · exact let_sim hL hp gx gy hs
   · split
     · exact choice_sim hL hp gx gy hs
     · split
       · exact lam_sim hL hp gx gy hs
       · exact op_sim hL hp gx gy hs
omit hp gx gy in
theorem expr_sim : ∀ k, SimE ln d (exprF X k) (exprF Y k)
 | 0 => fun s t hs => by
  obtain ⟨sa, se, sl⟩ := s
  obtain ⟨ta, te, tl⟩ := t
  obtain rfl : se = te := hs.e
  unfold exprF
  rw [starts_sim hL hs]
  split
  · exact ⟨rfl, hs⟩
  · split
    · exact ⟨rfl, fault_sim hL (fault_sim hL hs (by decide)) (by decide)⟩
    · exact ⟨rfl, fault_sim hL hs (by decide)⟩
 | k + 1 => fun s t hs => by
  unfold exprF
  exact step_sim hL (expr_sim k) (expr_goes X k) (expr_goes Y k) hs
omit hp gx gy in
theorem data_sim : ∀ (g' g : Nat) (acc : List (List UInt8 × Nat)) (s t : PS), SimP ln d s t → measP X s + 1 ≤ g → measP Y t + 1 ≤ g' → (dataF X g acc s).1 = (dataF Y g' acc t).1 ∧ SimP ln d (dataF X g acc s).2 (dataF Y g' acc t).2
 | 0, g, acc, s, t, hs, _, h => by omega
 | g' + 1, g, acc, s, t, hs, h1, h2 => by
  obtain ⟨f, rfl⟩ : ∃ f, g = f + 1 := ⟨g - 1, by omega⟩
  obtain ⟨sa, se, sl⟩ := s
  obtain ⟨ta, te, tl⟩ := t
  obtain rfl : se = te := hs.e
  unfold dataF
  rw [kind_sim hL hs]
  by_cases hc : se = 0 ∧ kindP Y ⟨ta, se, tl⟩ = 2
  · rw [if_pos hc, if_pos hc]
    simp only
    have hk := token_sim hL hs 2
    have m1 := token_meas (L := X) (s := ⟨sa, se, sl⟩) (k := 2) (by decide) (hc.1)
    have m2 := token_meas (L := Y) (s := ⟨ta, se, tl⟩) (k := 2) (by decide) hc.1
    have q1 := measP_goes ((data_goes X (tokenF X 2 ⟨sa, se, sl⟩).2).trans (token_goes (L := X) (k := 3) (by decide) _))
    have q2 := measP_goes ((data_goes Y (tokenF Y 2 ⟨ta, se, tl⟩).2).trans (token_goes (L := Y) (k := 3) (by decide) _))
    have hmid : SimP ln d (if kindP X (tokenF X 2 ⟨sa, se, sl⟩).2 = 3 then (if (X[(tokenF X 2 ⟨sa, se, sl⟩).2.at_]?.getD (none_ 0)).flt = true ∨ 24 < (X[(tokenF X 2 ⟨sa, se, sl⟩).2.at_]?.getD (none_ 0)).bits then faultF X 1 (tokenF X 2 ⟨sa, se, sl⟩).2 else (tokenF X 2 ⟨sa, se, sl⟩).2) else (tokenF X 2 ⟨sa, se, sl⟩).2) (if kindP Y (tokenF Y 2 ⟨ta, se, tl⟩).2 = 3 then (if (Y[(tokenF Y 2 ⟨ta, se, tl⟩).2.at_]?.getD (none_ 0)).flt = true ∨ 24 < (Y[(tokenF Y 2 ⟨ta, se, tl⟩).2.at_]?.getD (none_ 0)).bits then faultF Y 1 (tokenF Y 2 ⟨ta, se, tl⟩).2 else (tokenF Y 2 ⟨ta, se, tl⟩).2) else (tokenF Y 2 ⟨ta, se, tl⟩).2) := by
     have hk2 := hk.2.2.2
     generalize (tokenF X 2 ⟨sa, se, sl⟩).2 = u at hk2 ⊢
     generalize (tokenF Y 2 ⟨ta, se, tl⟩).2 = u' at hk2 ⊢
     rw [kind_sim hL hk2]
     by_cases h3 : kindP Y u' = 3
     · rw [if_pos h3, if_pos h3]
       have hl := kind_lt h3 (by decide)
       obtain ⟨x, y, e1, e2, a⟩ := sim_some hL hk2 hl
       rw [e1, e2]
       simp only [Option.getD_some, a.2.2.1, a.2.2.2.1]
       split
       · exact fault_sim hL hk2 (by decide)
       · exact hk2
     · rw [if_neg h3, if_neg h3]
       exact hk2
    have h3 := token_sim hL hmid 3
    rw [hk.1, h3.2.2.1]
    exact data_sim g' f _ _ _ h3.2.2.2 (by omega) (by omega)
  · rw [if_neg hc, if_neg hc]
    exact ⟨rfl, hs⟩
end
def dataEnd (L : List TokV) (s : PS) : PS := needF L [59] (dataF L (fuelP L) [] { s with at_ := s.at_ + 1 }).2
def bindEnd (L : List TokV) (s : PS) : PS := needF L [59] (bindF L (exprF L 200) s).2
theorem modF_stop {L : List TokV} {n : Nat} {m : TM} {s : PS} (h : ¬ (s.e = 0 ∧ s.at_ < L.length)) : modF L n m s = (m, s) := by
 cases n with
 | zero => rfl
 | succ n => unfold modF; rw [if_neg h]
theorem modF_data {L : List TokV} {n : Nat} {m : TM} {s : PS} (h : s.e = 0 ∧ s.at_ < L.length) (hd : seesF L [100, 97, 116, 97] s = true) :
 modF L (n + 1) m s = modF L n ⟨m.cons ++ (dataF L (fuelP L) [] { s with at_ := s.at_ + 1 }).1, m.binds⟩ (dataEnd L s) := by
 rw [modF, if_pos h, if_pos hd]
 rfl
theorem modF_bind {L : List TokV} {n : Nat} {m : TM} {s : PS} (h : s.e = 0 ∧ s.at_ < L.length) (hd : ¬ seesF L [100, 97, 116, 97] s = true) :
 modF L (n + 1) m s = modF L n ⟨m.cons, m.binds ++ [(bindF L (exprF L 200) s).1]⟩ (bindEnd L s) := by
 rw [modF, if_pos h, if_neg hd]
 rfl
theorem dataEnd_goes {L : List TokV} {s : PS} (hl : s.at_ < L.length) : Goes L s (dataEnd L s) := ((Goes.step hl).trans (data_goes_ L _ _ _)).trans (need_goes _ _)
theorem bindEnd_goes (L : List TokV) (s : PS) : Goes L s (bindEnd L s) := (bind_goes (expr_goes L 200) s).trans (need_goes _ _)
theorem dataEnd_meas {L : List TokV} {s : PS} (h : s.e = 0 ∧ s.at_ < L.length) : measP L (dataEnd L s) < measP L s := measP_lt h.1 h.2 ((data_goes_ L _ _ _).trans (need_goes _ _))
theorem bindEnd_meas {L : List TokV} {s : PS} (h : s.e = 0) : measP L (bindEnd L s) < measP L s :=
 Nat.lt_of_le_of_lt (measP_goes (need_goes (L := L) [59] _)) (bind_meas (expr_goes L 200) h)
theorem mod_fuel {L : List TokV} : ∀ (g g' : Nat) (m : TM) (s : PS), measP L s + 1 ≤ g → measP L s + 1 ≤ g' → modF L g m s = modF L g' m s
 | 0, g', m, s, h, _ => by omega
 | g + 1, g', m, s, h1, h2 => by
  obtain ⟨f, rfl⟩ : ∃ f, g' = f + 1 := ⟨g' - 1, by omega⟩
  by_cases hc : s.e = 0 ∧ s.at_ < L.length
  · by_cases hd : seesF L [100, 97, 116, 97] s = true
    · rw [modF_data hc hd, modF_data hc hd]
      have := dataEnd_meas hc
      exact mod_fuel g f _ _ (by omega) (by omega)
    · rw [modF_bind hc hd, modF_bind hc hd]
      have := bindEnd_meas (L := L) hc.1
      exact mod_fuel g f _ _ (by omega) (by omega)
  · rw [modF_stop hc, modF_stop hc]
section
variable {A Z : List TokV}
theorem need_lt {L : List TokV} {x : List UInt8} {s : PS} (h : (needF L x s).e = 0) : s.at_ < L.length := by
 unfold needF at h
 split at h
 · rename_i hc; exact sees_lt hc.2
 · exact absurd h (fault_goes (L := L) (e := 3) (s := s) (by decide)).2.1
theorem dataEnd_pre {s : PS} (h : (dataF A (fuelP A) [] { s with at_ := s.at_ + 1 }).2.at_ < A.length) : dataF (A ++ Z) (fuelP (A ++ Z)) [] { s with at_ := s.at_ + 1 } = dataF A (fuelP A) [] { s with at_ := s.at_ + 1 } ∧ dataEnd (A ++ Z) s = dataEnd A s := by
 have e := data_pre (Z := Z) (fuelP A) (fuelP (A ++ Z)) [] { s with at_ := s.at_ + 1 } (measP_le _ _) (measP_le _ _) h
 refine ⟨e, ?_⟩
 unfold dataEnd
 rw [e, needF_pre h]
theorem bindEnd_pre {s : PS} (h : (bindF A (exprF A 200) s).2.at_ < A.length) : bindF (A ++ Z) (exprF (A ++ Z) 200) s = bindF A (exprF A 200) s ∧ bindEnd (A ++ Z) s = bindEnd A s := by
 have e := bind_pre (expr_pre A Z 200) (expr_goes (A ++ Z) 200) (expr_goes A 200) s h
 refine ⟨e, ?_⟩
 unfold bindEnd
 rw [e, needF_pre h]
theorem mod_er {L : List TokV} {n : Nat} {m : TM} {s : PS} (h : (modF L n m s).2.e = 0) : s.e = 0 := by
 by_cases q : s.e = 0
 · exact q
 · exact absurd h ((mod_goes L n m s).er q)
theorem mod_join : ∀ (g' g g2 : Nat) (m : TM) (s : PS), measP A s + 1 ≤ g' → measP (A ++ Z) s + 1 ≤ g → (modF A g' m s).2.e = 0 → measP (A ++ Z) (modF A g' m s).2 + 1 ≤ g2 → modF (A ++ Z) g m s = modF (A ++ Z) g2 (modF A g' m s).1 (modF A g' m s).2
 | 0, g, g2, m, s, h, _, _, _ => by omega
 | g' + 1, g, g2, m, s, h1, h2, h3, h4 => by
  by_cases hc : s.e = 0 ∧ s.at_ < A.length
  · have hz : s.e = 0 ∧ s.at_ < (A ++ Z).length := ⟨hc.1, by rw [List.length_append]; omega⟩
    obtain ⟨f, rfl⟩ : ∃ f, g = f + 1 := ⟨g - 1, by omega⟩
    by_cases hd : seesF A [100, 97, 116, 97] s = true
    · have hdz : seesF (A ++ Z) [100, 97, 116, 97] s = true := by rw [seesF_pre hc.2]; exact hd
      rw [modF_data hc hd] at h3 h4 ⊢
      rw [modF_data hz hdz]
      have he := mod_er h3
      obtain ⟨e1, e2⟩ := dataEnd_pre (Z := Z) (need_lt he)
      have m1 := dataEnd_meas hc
      have m2 := dataEnd_meas hz
      rw [e2] at m2
      rw [e1, e2]
      exact mod_join g' f g2 _ _ (by omega) (by omega) h3 h4
    · have hdz : ¬ seesF (A ++ Z) [100, 97, 116, 97] s = true := by rw [seesF_pre hc.2]; exact hd
      rw [modF_bind hc hd] at h3 h4 ⊢
      rw [modF_bind hz hdz]
      have he := mod_er h3
      obtain ⟨e1, e2⟩ := bindEnd_pre (Z := Z) (need_lt he)
      have m1 := bindEnd_meas (L := A) hc.1
      have m2 := bindEnd_meas (L := A ++ Z) hc.1
      rw [e2] at m2
      rw [e1, e2]
      exact mod_join g' f g2 _ _ (by omega) (by omega) h3 h4
  · rw [modF_stop hc] at h4 ⊢
    exact mod_fuel g g2 m s h2 h4
theorem mod_bad : ∀ (g' g : Nat) (m : TM) (s : PS), measP A s + 1 ≤ g' → measP (A ++ Z) s + 1 ≤ g → (modF A g' m s).2.at_ < A.length → modF (A ++ Z) g m s = modF A g' m s
 | 0, g, m, s, h, _, _ => by omega
 | g' + 1, g, m, s, h1, h2, h3 => by
  have hs : s.at_ < A.length := Nat.lt_of_le_of_lt (mod_goes A (g' + 1) m s).up h3
  by_cases h0 : s.e = 0
  · have hc : s.e = 0 ∧ s.at_ < A.length := ⟨h0, hs⟩
    have hz : s.e = 0 ∧ s.at_ < (A ++ Z).length := ⟨hc.1, by rw [List.length_append]; omega⟩
    obtain ⟨f, rfl⟩ : ∃ f, g = f + 1 := ⟨g - 1, by omega⟩
    by_cases hd : seesF A [100, 97, 116, 97] s = true
    · have hdz : seesF (A ++ Z) [100, 97, 116, 97] s = true := by rw [seesF_pre hc.2]; exact hd
      rw [modF_data hc hd] at h3 ⊢
      rw [modF_data hz hdz]
      have n1 := Nat.lt_of_le_of_lt (mod_goes A g' _ _).up h3
      obtain ⟨e1, e2⟩ := dataEnd_pre (Z := Z) (Nat.lt_of_le_of_lt (need_goes (L := A) [59] _).up n1)
      have m1 := dataEnd_meas hc
      have m2 := dataEnd_meas hz
      rw [e2] at m2
      rw [e1, e2]
      exact mod_bad g' f _ _ (by omega) (by omega) h3
    · have hdz : ¬ seesF (A ++ Z) [100, 97, 116, 97] s = true := by rw [seesF_pre hc.2]; exact hd
      rw [modF_bind hc hd] at h3 ⊢
      rw [modF_bind hz hdz]
      have n1 := Nat.lt_of_le_of_lt (mod_goes A g' _ _).up h3
      obtain ⟨e1, e2⟩ := bindEnd_pre (Z := Z) (Nat.lt_of_le_of_lt (need_goes (L := A) [59] _).up n1)
      have m1 := bindEnd_meas (L := A) hc.1
      have m2 := bindEnd_meas (L := A ++ Z) hc.1
      rw [e2] at m2
      rw [e1, e2]
      exact mod_bad g' f _ _ (by omega) (by omega) h3
  · rw [modF_stop (fun z => h0 z.1), modF_stop (fun z => h0 z.1)]
end
section
variable {ln : Nat → Nat → Prop} {X Y : List TokV} {d : Nat} (hL : SimL ln X Y d)
include hL
theorem dataEnd_sim {s t : PS} (hs : SimP ln d s t) : (dataF X (fuelP X) [] { s with at_ := s.at_ + 1 }).1 = (dataF Y (fuelP Y) [] { t with at_ := t.at_ + 1 }).1 ∧ SimP ln d (dataEnd X s) (dataEnd Y t) := by
 have h := data_sim hL (fuelP Y) (fuelP X) [] _ _ hs.step (measP_le _ _) (measP_le _ _)
 exact ⟨h.1, need_sim hL h.2 [59]⟩
theorem bindEnd_sim {s t : PS} (hs : SimP ln d s t) : (bindF X (exprF X 200) s).1 = (bindF Y (exprF Y 200) t).1 ∧ SimP ln d (bindEnd X s) (bindEnd Y t) := by
 have h := bind_sim hL (expr_sim hL 200) (expr_goes X 200) (expr_goes Y 200) hs
 exact ⟨h.1, need_sim hL h.2 [59]⟩
theorem mod_sim (C : List (List UInt8 × Nat)) (B : List TB) : ∀ (g' g : Nat) (m n : TM) (s t : PS), SimP ln d s t → m.cons = C ++ n.cons → m.binds = B ++ n.binds → measP X s + 1 ≤ g → measP Y t + 1 ≤ g' →
 (modF X g m s).1.cons = C ++ (modF Y g' n t).1.cons ∧ (modF X g m s).1.binds = B ++ (modF Y g' n t).1.binds ∧ SimP ln d (modF X g m s).2 (modF Y g' n t).2
 | 0, g, m, n, s, t, hs, _, _, _, h => by omega
 | g' + 1, g, m, n, s, t, hs, hC, hB, h1, h2 => by
  obtain ⟨f, rfl⟩ : ∃ f, g = f + 1 := ⟨g - 1, by omega⟩
  by_cases hc : t.e = 0 ∧ t.at_ < Y.length
  · have hx : s.e = 0 ∧ s.at_ < X.length := ⟨hs.e.trans hc.1, by have := hs.at_; have := hL.len; omega⟩
    by_cases hd : seesF Y [100, 97, 116, 97] t = true
    · have hdx : seesF X [100, 97, 116, 97] s = true := by rw [sees_sim hL hs]; exact hd
      rw [modF_data hc hd, modF_data hx hdx]
      have e := dataEnd_sim hL hs
      have m1 := dataEnd_meas hx
      have m2 := dataEnd_meas hc
      exact mod_sim C B g' f _ _ _ _ e.2 (by show m.cons ++ _ = C ++ (n.cons ++ _); rw [hC, e.1, List.append_assoc]) hB (by omega) (by omega)
    · have hdx : ¬ seesF X [100, 97, 116, 97] s = true := by rw [sees_sim hL hs]; exact hd
      rw [modF_bind hc hd, modF_bind hx hdx]
      have e := bindEnd_sim hL hs
      have m1 := bindEnd_meas (L := X) hx.1
      have m2 := bindEnd_meas (L := Y) hc.1
      exact mod_sim C B g' f _ _ _ _ e.2 hC (by show m.binds ++ _ = B ++ (n.binds ++ _); rw [hB, e.1, List.append_assoc]) (by omega) (by omega)
  · have hx : ¬ (s.e = 0 ∧ s.at_ < X.length) := fun z => hc ⟨hs.e.symm.trans z.1, by have := hs.at_; have := hL.len; omega⟩
    rw [modF_stop hc, modF_stop hx]
    exact ⟨hC, hB, hs⟩
end
-- Tokens
theorem sim0 (ln : Nat → Nat → Prop) (d : Nat) : SimP ln d ⟨d, 0, 0⟩ ⟨0, 0, 0⟩ := ⟨by simp, rfl, fun q => absurd rfl q⟩
theorem tokens_alike {ln : Nat → Nat → Prop} {X Y : List TokV} (hL : SimL ln X Y 0) : (tokensF X).1 = (tokensF Y).1 ∧ (tokensF X).2.1 = (tokensF Y).2.1 ∧ ((tokensF X).2.1 ≠ 0 → (tokensF X).2.1 ≠ 17 → ln (tokensF X).2.2 (tokensF Y).2.2) := by
 have h := mod_sim hL [] [] (fuelP Y) (fuelP X) ⟨[], []⟩ ⟨[], []⟩ ⟨0, 0, 0⟩ ⟨0, 0, 0⟩ (sim0 ln 0) rfl rfl (measP_le _ _) (measP_le _ _)
 unfold tokensF
 simp only
 generalize modF X (fuelP X) ⟨[], []⟩ ⟨0, 0, 0⟩ = p at h ⊢
 generalize modF Y (fuelP Y) ⟨[], []⟩ ⟨0, 0, 0⟩ = q at h ⊢
 obtain ⟨⟨pc, pb⟩, pa, pe, pl⟩ := p
 obtain ⟨⟨qc, qb⟩, qa, qe, ql⟩ := q
 obtain ⟨h1, h2, h3⟩ := h
 simp only [List.nil_append] at h1 h2
 subst h1 h2
 obtain rfl : pe = qe := h3.e
 simp only
 split
 · rename_i hne
   exact ⟨rfl, rfl, fun _ h17 => (h3.line hne).resolve_left h17⟩
 · exact ⟨rfl, rfl, fun z => absurd rfl z⟩
open Go.RowKit
theorem lexG_few : ∀ (n : Nat) (acc : List TokV) (l : List UInt8) (line : Nat), acc.length ≤ 4096 → (lexG n acc l line).toks.length ≤ 4096 := by
 intro n
 induction n with
 | zero => intro acc l line h; exact h
 | succ n ih =>
  intro acc l line h
  by_cases hl : l = []
  · subst hl; rw [lexG_end]; exact h
  · by_cases he : (oneF l line).2 = 0
    · by_cases hf : acc.length = 4096
      · rw [lexG_full hl he hf]; simp
      · rw [lexG_more hl he hf]
        exact ih _ _ _ (by simp; omega)
    · rw [lexG_bad hl he]; simp
theorem lexF_few (l : List UInt8) : (lexF l).toks.length ≤ 4096 := by
 unfold lexF
 exact lexG_few _ _ _ _ (by simp)
theorem parse_good {s : List UInt8} (h : (lexF s).err = 0) : parseF s = ((tokensF (lexF s).toks).1, ((tokensF (lexF s).toks).2.1 : Int), (tokensF (lexF s).toks).2.2) := by
 unfold parseF
 rw [if_neg (fun q => q h)]
def lastLn (L : List TokV) : Nat := (L.getLast?.map (·.line)).getD 1
def EndOk (L : List TokV) (s : PS) : Prop := s.e ≠ 0 → ¬ s.at_ < L.length → s.e = 17 ∧ s.line = lastLn L
section
variable {L : List TokV}
theorem fault_end {e : Nat} {s : PS} (h : EndOk L s) : EndOk L (faultF L e s) := by
 unfold faultF
 split
 · exact h
 · split
   · rename_i t ht
     exact fun _ q => absurd (List.getElem?_eq_some_iff.1 ht).1 q
   · exact fun _ _ => ⟨rfl, rfl⟩
theorem step0_end {s : PS} (h : s.e = 0) : EndOk L { s with at_ := s.at_ + 1 } := fun q => absurd h q
theorem need_end (x : List UInt8) {s : PS} (h : EndOk L s) : EndOk L (needF L x s) := by
 unfold needF
 split
 · rename_i h2; exact step0_end h2.1
 · exact fault_end h
theorem token_end (k : Int) {s : PS} (h : EndOk L s) : EndOk L (tokenF L k s).2 := by
 unfold tokenF
 split
 · rename_i h2; exact step0_end h2.1
 · exact fault_end h
theorem names_end : ∀ (n : Nat) (least : Bool) (acc : List (List UInt8)) (s : PS), EndOk L s → EndOk L (namesF L n least acc s).2
 | 0, _, _, _, h => h
 | n + 1, least, acc, s, h => by
  unfold namesF
  split
  · exact names_end n _ _ _ (token_end 1 h)
  · exact h
variable {ex : PS → TE × PS} (hx : ∀ s, EndOk L s → EndOk L (ex s).2)
include hx
theorem bind_end8 {s : PS} (h : EndOk L s) : EndOk L (bindF L ex s).2 := hx _ (need_end _ (names_end _ _ _ _ h))
omit hx in
theorem altHead_end {s : PS} (h : EndOk L s) : EndOk L (altHead L s).2 := by
 unfold altHead
 split
 · exact names_end _ _ _ _ (token_end 2 h)
 · split
   · exact token_end 3 h
   · exact token_end 1 h
theorem alt_end8 {s : PS} (h : EndOk L s) : EndOk L (altF L ex s).2 := hx _ (need_end _ (altHead_end h))
theorem atoms_end8 : ∀ (n : Nat) (acc : List TE) (s : PS), EndOk L s → EndOk L (atomsF L ex n acc s).2
 | 0, _, _, h => h
 | n + 1, acc, s, h => by
  unfold atomsF
  split
  · exact h
  · rename_i hne
    split
    · exact atoms_end8 n _ _ (token_end 1 h)
    · split
      · exact atoms_end8 n _ _ (token_end 2 h)
      · split
        · exact atoms_end8 n _ _ (token_end 7 h)
        · split
          · exact atoms_end8 n _ _ (token_end 3 h)
          · split
            · exact h
            · exact atoms_end8 n _ _ (need_end _ (hx _ (step0_end (by simpa using hne))))
theorem row_end8 {s : PS} (h : EndOk L s) : EndOk L (rowF L ex s).2 := by
 have ha := atoms_end8 hx (fuelP L) [] s h
 unfold rowF
 simp only
 split
 · exact fault_end ha
 · exact ha
 · split
   · exact ha
   · exact ha
theorem binds_end8 : ∀ (n : Nat) (acc : List TB) (s : PS), EndOk L s → EndOk L (bindsF L ex n acc s).2
 | 0, _, _, h => h
 | n + 1, acc, s, h => by
  unfold bindsF
  split
  · rename_i h2; exact binds_end8 n _ _ (bind_end8 hx (step0_end h2.1))
  · exact h
theorem alts_end8 : ∀ (n : Nat) (acc : List TA) (s : PS), EndOk L s → EndOk L (altsF L ex n acc s).2
 | 0, _, _, h => h
 | n + 1, acc, s, h => by
  unfold altsF
  split
  · rename_i h2; exact alts_end8 n _ _ (alt_end8 hx (step0_end h2.1))
  · exact h
theorem choice_end8 {s : PS} (h0 : s.e = 0) : EndOk L (choiceF L ex s).2 := by
 have h1 := need_end [123] (need_end [111, 102] (hx _ (step0_end h0)))
 unfold choiceF
 simp only
 split
 · rename_i h2; exact step0_end h2.1
 · exact need_end _ (alts_end8 hx _ _ _ (alt_end8 hx h1))
theorem let_end8 {s : PS} (h0 : s.e = 0) : EndOk L (letF L ex s).2 := hx _ (need_end _ (binds_end8 hx _ _ _ (bind_end8 hx (step0_end h0))))
theorem lam_end8 {s : PS} (h0 : s.e = 0) : EndOk L (lamF L ex s).2 := hx _ (need_end _ (names_end _ _ _ _ (step0_end h0)))
theorem op_end8 {s : PS} (h : EndOk L s) : EndOk L (opF L ex s).2 := by
 unfold opF
 simp only
 split
 · exact row_end8 hx (token_end 4 (row_end8 hx h))
 · exact row_end8 hx h
theorem step_end8 {s : PS} (h : EndOk L s) : EndOk L (exprStep L ex s).2 := by
 unfold exprStep
 split
 · exact h
 · rename_i hne
   have h0 : s.e = 0 := by simpa using hne
   split
   · exact let_end8 hx h0
   · split
     · exact choice_end8 hx h0
     · split
       · exact lam_end8 hx h0
       · exact op_end8 hx h
end
theorem expr_end8 (L : List TokV) : ∀ (d : Nat) (s : PS), EndOk L s → EndOk L (exprF L d s).2
 | 0, s, h => by
  unfold exprF
  split
  · exact h
  · refine fault_end ?_
    split
    · exact fault_end h
    · exact h
 | d + 1, s, h => step_end8 (expr_end8 L d) h
theorem data_end8 (L : List TokV) : ∀ (n : Nat) (acc : List (List UInt8 × Nat)) (s : PS), EndOk L s → EndOk L (dataF L n acc s).2
 | 0, _, _, h => h
 | n + 1, acc, s, h => by
  unfold dataF
  split
  · refine data_end8 L n _ _ (token_end 3 ?_)
    have ht := token_end (L := L) 2 h
    split
    · split
      · exact fault_end ht
      · exact ht
    · exact ht
  · exact h
theorem mod_end8 (L : List TokV) : ∀ (n : Nat) (m : TM) (s : PS), EndOk L s → EndOk L (modF L n m s).2
 | 0, _, _, h => h
 | n + 1, m, s, h => by
  unfold modF
  split
  · rename_i h2
    split
    · exact mod_end8 L n _ _ (need_end _ (data_end8 L _ _ _ (step0_end h2.1)))
    · exact mod_end8 L n _ _ (need_end _ (bind_end8 (expr_end8 L 200) h))
  · exact h
theorem need_read {L : List TokV} {x : List UInt8} {s : PS} (h : (needF L x s).e = 0) : (needF L x s).at_ = s.at_ + 1 ∧ ∃ t, L[s.at_]? = some t ∧ t.text = x := by
 unfold needF at h ⊢
 by_cases q : s.e = 0 ∧ seesF L x s = true
 · rw [if_pos q]
   refine ⟨rfl, ?_⟩
   have hs := q.2
   unfold seesF at hs
   cases hL : L[s.at_]? with
   | none => rw [hL] at hs; cases hs
   | some t =>
    rw [hL] at hs
    simp at hs
    exact ⟨t, rfl, hs.2⟩
 · rw [if_neg q] at h
   exact absurd h (fault_goes (by decide)).2.1
theorem mod_last {A : List TokV} : ∀ (n : Nat) (m : TM) (s : PS), measP A s + 1 ≤ n → s.at_ ≤ A.length → (modF A n m s).2.e = 0 → (modF A n m s).2.at_ = A.length ∧ (s.at_ < A.length → ∃ t, A.getLast? = some t ∧ t.text = [59])
 | 0, m, s, hn, _, _ => absurd hn (by omega)
 | n + 1, m, s, hn, hle, he => by
  have h0 := mod_er he
  by_cases hlt : s.at_ < A.length
  · have fin : ∀ (q : PS) (m' : TM), measP A (needF A [59] q) < measP A s → (s.at_ ≤ A.length → (needF A [59] q).at_ ≤ A.length) → modF A (n + 1) m s = modF A n m' (needF A [59] q) → (modF A (n + 1) m s).2.at_ = A.length ∧ (s.at_ < A.length → ∃ t, A.getLast? = some t ∧ t.text = [59]) := fun q m' h1 h2 h3 => by
     rw [h3] at he ⊢
     obtain ⟨i1, i2⟩ := mod_last n m' (needF A [59] q) (by omega) (h2 hle) he
     refine ⟨i1, fun _ => ?_⟩
     obtain ⟨j1, t, j2, j3⟩ := need_read (mod_er he)
     rcases Nat.lt_or_ge (needF A [59] q).at_ A.length with z | z
     · exact i2 z
     · have hz := h2 hle
       have hq : q.at_ = A.length - 1 := by omega
       rw [hq] at j2
       exact ⟨t, by rw [List.getLast?_eq_getElem?]; exact j2, j3⟩
    by_cases hd : seesF A [100, 97, 116, 97] s = true
    · exact fin _ _ (dataEnd_meas ⟨h0, hlt⟩) (dataEnd_goes hlt).le (modF_data ⟨h0, hlt⟩ hd)
    · exact fin _ _ (bindEnd_meas h0) (bindEnd_goes A s).le (modF_bind ⟨h0, hlt⟩ hd)
  · rw [modF_stop (fun q => hlt q.2)] at he ⊢
    exact ⟨by show s.at_ = _; omega, fun q => absurd q hlt⟩
theorem join_simL (A B : List TokV) (N : Nat) : SimL (fun x y => x = y + N) (A ++ B.map (shiftT N)) B A.length :=
 ⟨by simp; omega, fun i h h' => by
  have e : (A ++ B.map (shiftT N))[i + A.length] = shiftT N B[i] := by
   rw [List.getElem_append_right (by omega)]
   simp
  rw [e]
  exact ⟨rfl, rfl, rfl, rfl, rfl⟩⟩
theorem tokens_join {A B : List TokV} {N : Nat} (ha : (tokensF A).2.1 = 0) :
 ((tokensF B).2.1 = 0 → (tokensF (A ++ B.map (shiftT N))).2.1 = 0 ∧ (tokensF (A ++ B.map (shiftT N))).1 = ⟨(tokensF A).1.cons ++ (tokensF B).1.cons, (tokensF A).1.binds ++ (tokensF B).1.binds⟩) ∧
 ((tokensF B).2.1 ≠ 0 → (tokensF (A ++ B.map (shiftT N))).2.1 = (tokensF B).2.1 ∧ ((tokensF (A ++ B.map (shiftT N))).2.2 = (tokensF B).2.2 + N ∨ (tokensF B).2.1 = 17)) := by
 have hS := join_simL A B N
 generalize hZ : B.map (shiftT N) = Z at hS ⊢
 have h0 := mod_last (A := A) (fuelP A) ⟨[], []⟩ ⟨0, 0, 0⟩ (measP_le A _) (Nat.zero_le _)
 have hj := mod_join (A := A) (Z := Z) (fuelP A) (fuelP (A ++ Z)) (fuelP (A ++ Z)) ⟨[], []⟩ ⟨0, 0, 0⟩ (measP_le A _) (measP_le _ _)
 unfold tokensF at ha ⊢
 simp only at ha ⊢
 generalize modF A (fuelP A) ⟨[], []⟩ ⟨0, 0, 0⟩ = r at h0 hj ha ⊢
 have hr : r.2.e = 0 := by
  by_cases q : r.2.e = 0
  · exact q
  · rw [if_pos q] at ha
    exact absurd ha q
 have hat := (h0 hr).1
 have hr' : ¬ (r.2.e ≠ 0) := fun q => q hr
 rw [if_neg hr', hj hr (measP_le _ _)]
 have hs := mod_sim hS r.1.cons r.1.binds (fuelP B) (fuelP (A ++ Z)) r.1 ⟨[], []⟩ r.2 ⟨0, 0, 0⟩ ⟨by simp; exact hat, hr, fun q => absurd hr q⟩ (by simp) (by simp) (measP_le _ _) (measP_le _ _)
 generalize modF (A ++ Z) (fuelP (A ++ Z)) r.1 r.2 = x at hs ⊢
 generalize modF B (fuelP B) ⟨[], []⟩ ⟨0, 0, 0⟩ = y at hs ⊢
 obtain ⟨⟨xc, xb⟩, xs⟩ := x
 obtain ⟨c1, c2, c3⟩ := hs
 simp only at c1 c2 c3 ⊢
 subst c1 c2
 have he := c3.e
 by_cases hy : y.2.e = 0
 · have hy' : ¬ (y.2.e ≠ 0) := fun q => q hy
   have hx' : ¬ (xs.e ≠ 0) := by rw [he]; exact hy'
   rw [if_neg hy', if_neg hx']
   exact ⟨fun _ => ⟨rfl, rfl⟩, fun q => absurd rfl q⟩
 · have hx' : xs.e ≠ 0 := by rw [he]; exact hy
   rw [if_pos (show y.2.e ≠ 0 from hy), if_pos hx']
   refine ⟨fun q => absurd q hy, fun _ => ⟨he, ?_⟩⟩
   rcases c3.line (by rw [he]; exact hy) with q | q
   · exact .inr (by rw [← he]; exact q)
   · exact .inl q
theorem tokens_bad {A Z : List TokV} (h0 : (tokensF A).2.1 ≠ 0) (h17 : (tokensF A).2.1 ≠ 17) : (tokensF (A ++ Z)).2.1 = (tokensF A).2.1 ∧ (tokensF (A ++ Z)).2.2 = (tokensF A).2.2 := by
 have hbad := mod_bad (A := A) (Z := Z) (fuelP A) (fuelP (A ++ Z)) ⟨[], []⟩ ⟨0, 0, 0⟩ (measP_le A _) (measP_le _ _)
 have hend := mod_end8 A (fuelP A) ⟨[], []⟩ ⟨0, 0, 0⟩ (fun q => absurd rfl q)
 unfold tokensF at h0 h17 ⊢
 simp only at h0 h17 ⊢
 generalize modF A (fuelP A) ⟨[], []⟩ ⟨0, 0, 0⟩ = r at hbad hend h0 h17 ⊢
 by_cases hr : r.2.e = 0
 · rw [if_neg (fun q => q hr)] at h0
   exact absurd rfl h0
 · rw [if_pos hr] at h17 ⊢
   by_cases hl : r.2.at_ < A.length
   · rw [hbad hl, if_pos hr]
     exact ⟨rfl, rfl⟩
   · exact absurd (hend hr hl).1 h17
theorem parse_err {s : List UInt8} (h : (lexF s).err ≠ 0) : parseF s = (⟨[], []⟩, (lexF s).err, (lexF s).line) := by
 unfold parseF
 rw [if_pos h]
theorem parse_joins (s t : List UInt8) (h : s.length + t.length ≤ 4096) :
 ((parseF s).2.1 ≠ 0 → (parseF s).2.1 ≠ 17 → ((lexF t).err ≠ 0 → (parseF (s ++ 10 :: t)).2.1 ≠ 0) ∧ ((lexF t).err = 0 → (parseF (s ++ 10 :: t)).2.1 = (parseF s).2.1 ∧ (parseF (s ++ 10 :: t)).2.2 = (parseF s).2.2)) ∧
 ((parseF s).2.1 = 0 → (parseF t).2.1 ≠ 0 → (parseF (s ++ 10 :: t)).2.1 = (parseF t).2.1 ∧ ((parseF (s ++ 10 :: t)).2.2 = (parseF t).2.2 + (1 + endsN s) ∨ (parseF t).2.1 = 17)) ∧
 ((parseF s).2.1 = 0 → (parseF t).2.1 = 0 → (parseF (s ++ 10 :: t)).2.1 = 0 ∧ (parseF (s ++ 10 :: t)).1 = ⟨(parseF s).1.cons ++ (parseF t).1.cons, (parseF s).1.binds ++ (parseF t).1.binds⟩) := by
 have hk := skipF_len false t 1
 have hJ := lexF_join s t (by omega)
 generalize 1 + endsN s = N at hJ ⊢
 by_cases hs : (lexF s).err = 0
 · have hJ1 : lexF (s ++ 10 :: t) = aheadV (lexF s).toks (shiftV N (lexF t)) := by rw [hJ]; unfold joinV; rw [if_pos hs]
   have e1 : (parseF s).2.1 = ((tokensF (lexF s).toks).2.1 : Int) := by rw [parse_good hs]
   have e2 : (parseF s).2.2 = (tokensF (lexF s).toks).2.2 := by rw [parse_good hs]
   have e3 : (parseF s).1 = (tokensF (lexF s).toks).1 := by rw [parse_good hs]
   by_cases ht : (lexF t).err = 0
   · have hJ2 : lexF (s ++ 10 :: t) = ⟨(lexF s).toks ++ (lexF t).toks.map (shiftT N), 0, 0⟩ := by
      rw [hJ1]; unfold aheadV shiftV; simp only; rw [if_pos ht]
     have hp : parseF (s ++ 10 :: t) = _ := parse_good (by rw [hJ2])
     rw [hJ2] at hp
     simp only at hp
     have q1 : (parseF t).2.1 = ((tokensF (lexF t).toks).2.1 : Int) := by rw [parse_good ht]
     have q2 : (parseF t).2.2 = (tokensF (lexF t).toks).2.2 := by rw [parse_good ht]
     have q3 : (parseF t).1 = (tokensF (lexF t).toks).1 := by rw [parse_good ht]
     rw [hp, e1, e2, e3, q1, q2, q3]
     simp only
     refine ⟨fun a b => ⟨fun c => absurd ht c, fun _ => ?_⟩, fun a b => ?_, fun a b => ?_⟩
     · have := tokens_bad (A := (lexF s).toks) (Z := (lexF t).toks.map (shiftT N)) (fun z => a (by rw [z]; rfl)) (fun z => b (by rw [z]; rfl))
       exact ⟨by rw [this.1], this.2⟩
     · have := (tokens_join (B := (lexF t).toks) (N := N) (Int.ofNat.inj a)).2 (fun z => b (by rw [z]; rfl))
       exact ⟨by rw [this.1], this.2.imp id (fun z => by rw [z]; rfl)⟩
     · have := (tokens_join (B := (lexF t).toks) (N := N) (Int.ofNat.inj a)).1 (Int.ofNat.inj b)
       exact ⟨by rw [this.1]; rfl, this.2⟩
   · have hJ2 : lexF (s ++ 10 :: t) = ⟨[], (lexF t).err, (lexF t).line + N⟩ := by
      rw [hJ1]; unfold aheadV shiftV; simp only; rw [if_neg ht, if_neg ht]
     have hp : parseF (s ++ 10 :: t) = _ := parse_err (by rw [hJ2]; exact ht)
     rw [hJ2] at hp
     simp only at hp
     rw [hp, parse_err ht]
     simp only
     exact ⟨fun a b => ⟨fun c => ht, fun c => absurd c ht⟩, fun a b => by first | exact ⟨rfl, .inl rfl⟩ | simp, fun a b => absurd b ht⟩
 · have hJ1 : lexF (s ++ 10 :: t) = lexF s := by rw [hJ]; unfold joinV; rw [if_neg hs]
   have hp : parseF (s ++ 10 :: t) = _ := parse_err (by rw [hJ1]; exact hs)
   rw [hJ1] at hp
   rw [hp, parse_err hs]
   simp only
   exact ⟨fun a b => ⟨fun c => hs, fun c => by first | exact ⟨rfl, rfl⟩ | simp⟩, fun a => absurd a hs, fun a => absurd a hs⟩
theorem mod_count (L : List TokV) : ∀ (n : Nat) (m : TM) (s : PS), (modF L n m s).1.cons.length + (modF L n m s).1.binds.length + measP L (modF L n m s).2 ≤ m.cons.length + m.binds.length + measP L s
 | 0, m, s => Nat.le_refl _
 | n + 1, m, s => by
  by_cases h : s.e = 0 ∧ s.at_ < L.length
  · by_cases hd : seesF L [100, 97, 116, 97] s = true
    · rw [modF_data h hd]
      have ih := mod_count L n ⟨m.cons ++ (dataF L (fuelP L) [] { s with at_ := s.at_ + 1 }).1, m.binds⟩ (dataEnd L s)
      have h1 := data_len L (fuelP L) [] { s with at_ := s.at_ + 1 }
      have h2 := measP_lt h.1 h.2 (Goes.refl L { s with at_ := s.at_ + 1 })
      have h3 := measP_goes (need_goes (L := L) [59] (dataF L (fuelP L) [] { s with at_ := s.at_ + 1 }).2)
      have h4 : measP L (dataEnd L s) ≤ measP L (dataF L (fuelP L) [] { s with at_ := s.at_ + 1 }).2 := h3
      simp only [List.length_append, List.length_nil] at ih h1
      omega
    · rw [modF_bind h hd]
      have ih := mod_count L n ⟨m.cons, m.binds ++ [(bindF L (exprF L 200) s).1]⟩ (bindEnd L s)
      have h1 := bindEnd_meas (L := L) h.1
      simp only [List.length_append, List.length_cons, List.length_nil] at ih
      omega
  · rw [modF_stop h]
    exact Nat.le_refl _
theorem tokens_few (L : List TokV) : (tokensF L).1.cons.length + (tokensF L).1.binds.length ≤ L.length + 1 := by
 have h := mod_count L (fuelP L) ⟨[], []⟩ ⟨0, 0, 0⟩
 have hm : measP L ⟨0, 0, 0⟩ = L.length + 1 := by unfold measP; simp
 unfold tokensF
 simp only
 generalize modF L (fuelP L) ⟨[], []⟩ ⟨0, 0, 0⟩ = r at h ⊢
 split
 · simp
 · simp only [List.length_nil] at h ⊢
   omega
theorem parse_few8 (s : List UInt8) : (parseF s).1.cons.length + (parseF s).1.binds.length ≤ 4097 := by
 by_cases h : (lexF s).err = 0
 · rw [parse_good h]
   have := tokens_few (lexF s).toks
   have := lexF_few s
   simp only
   omega
 · rw [parse_err h]
   simp
theorem parse_line8 (s : List UInt8) (h17 : (parseF s).2.1 ≠ 17) : (parseF s).2.2 ≤ 1 + s.length := by
 have hl := lexF_lines s
 by_cases h : (lexF s).err = 0
 · rw [parse_good h] at h17 ⊢
   simp only at h17 ⊢
   generalize (lexF s).toks = T at hl h17 ⊢
   by_cases h0 : (tokensF T).2.1 = 0
   · have hz : (tokensF T).2.2 = 0 := by
      unfold tokensF at h0 ⊢
      simp only at h0 ⊢
      split at h0
      · rename_i q; exact absurd h0 q
      · rename_i q; rw [if_neg q]
     omega
   · have hS : SimL (fun x y => x ≤ 1 + s.length) T T 0 := ⟨rfl, fun i hi hi' => ⟨rfl, rfl, rfl, rfl, hl.1 _ (List.getElem_mem _)⟩⟩
     exact (tokens_alike hS).2.2 h0 (fun q => h17 (by rw [q]; rfl))
 · rw [parse_err h]
   exact hl.2
def flatB (cs : Nat → List Value) (a n : Nat) : List Value := ((List.range n).map (fun i => cs (a + i))).flatten
theorem flat_split {size : Nat} : ∀ {L : List (List Value)}, (∀ c ∈ L, c.length = size) → ∀ {j : Nat} {u : Value}, L.flatten[j]? = some u → ∃ (i r : Nat) (h : i < L.length), j = i * size + r ∧ r < size ∧ L[i][r]? = some u
 | [], _, j, u, h => by simp at h
 | c :: L, hl, j, u, h => by
  have hc := hl c (by simp)
  rw [List.flatten_cons] at h
  by_cases q : j < c.length
  · rw [List.getElem?_append_left q] at h
    exact ⟨0, j, by simp, by simp, by omega, h⟩
  · rw [List.getElem?_append_right (by omega)] at h
    obtain ⟨i, r, hi, e, hr, hu⟩ := flat_split (fun c hc => hl c (by simp [hc])) h
    refine ⟨i + 1, r, by simp; omega, by rw [Nat.add_mul]; omega, hr, by simpa using hu⟩
section
variable {w : World} {a : Option Addr} {n cap size : Nat} {cs : Nat → List Value}
theorem flatB_all (hl : ∀ i, i < n → (cs i).length = size) {t k : Nat} (h : t + k ≤ n) : ∀ c ∈ (List.range k).map (fun i => cs (t + i)), c.length = size := fun c hc => by
 obtain ⟨i, hi, rfl⟩ := List.mem_map.1 hc
 exact hl _ (by have := List.mem_range.1 hi; omega)
theorem flatB_len (hl : ∀ i, i < n → (cs i).length = size) {t : Nat} : ∀ {k : Nat}, t + k ≤ n → (flatB cs t k).length = k * size
 | 0, _ => by simp [flatB]
 | k + 1, h => by
  have ih := flatB_len hl (t := t) (k := k) (by omega)
  unfold flatB at ih ⊢
  rw [List.range_succ, List.map_append, List.flatten_append, List.length_append, ih]
  simp [hl (t + k) (by omega), Nat.add_mul]
theorem flatB_get (hl : ∀ i, i < n → (cs i).length = size) {t k i j : Nat} {u : Value} (h : t + k ≤ n) (hi : i < k) (hj : (cs (t + i))[j]? = some u) : (flatB cs t k)[i * size + j]? = some u := by
 have hlen : ((List.range k).map (fun i => cs (t + i))).length = k := by simp
 refine flat_at (flatB_all hl h) (i := i) (by rw [hlen]; exact hi) ?_
 simpa using hj
theorem RowC.lens {X : Nat → Prop} (h : RowC X w (.slice a n cap) n size cs) : ∀ i, i < n → (cs i).length = size := fun i hi => by
 obtain ⟨a1, cap1, e, _, _, hc⟩ := h
 obtain ⟨_, _, _, _, hl, _⟩ := hc i hi
 exact hl
theorem src_part {X : Nat → Prop} (h : RowC X w (.slice a n cap) n size cs) {t k : Nat} (htk : t + k ≤ n) (hk : 0 < k) : ∃ b off, a = some ⟨b, off, none⟩ ∧ Src w (some ⟨b, off + t * size, none⟩) k size (flatB cs t k) := by
 have hl := h.lens
 obtain ⟨b, off, rfl, _, _⟩ := h.at (i := t) (by omega)
 refine ⟨b, off, rfl, .inr ⟨_, rfl, flatB_len hl htk, fun j u hj => ?_⟩⟩
 obtain ⟨i, r, hi, e, hr, hu⟩ := flat_split (flatB_all hl htk) (show ((List.range k).map (fun i => cs (t + i))).flatten[j]? = some u from hj)
 have hik : i < k := by simpa using hi
 obtain ⟨b', off', e', _, hc⟩ := h.at (i := t + i) (by omega)
 cases e'
 rw [add_at, e, show off + t * size + (i * size + r) = off + (t + i) * size + r by rw [Nat.add_mul]; omega]
 exact hc r u (by simpa using hu)
theorem src_none {t : Nat} : Src w (none : Option Addr) 0 size (flatB cs t 0) := .inl ⟨rfl, rfl, by simp [flatB]⟩
theorem src_some {A : Addr} {t : Nat} : Src w (some A) 0 size (flatB cs t 0) := .inr ⟨A, rfl, by simp [flatB], fun j u hj => by simp [flatB] at hj⟩
theorem src_zero {A : Option Addr} {t : Nat} : Src w A 0 size (flatB cs t 0) := by
 cases A with
 | none => exact src_none
 | some A => exact src_some
theorem src_take {X : Nat → Prop} (h : RowC X w (.slice a n cap) n size cs) {k : Nat} (hk : k ≤ n) : Src w a k size (flatB cs 0 k) := by
 rcases Nat.eq_zero_or_pos k with q | q
 · subst q; exact src_zero
 · obtain ⟨b, off, rfl, hs⟩ := src_part h (t := 0) (k := k) (by omega) q
   rw [Nat.zero_mul, Nat.add_zero] at hs
   exact hs
end
theorem own_blk_ne {w : World} {base size n b : Nat} {t t' : TypeId} {v : Value} {xs : List Value} {cs : Array Value} (ho : w.ownsRow base t size v n xs) (hb : Blk w b cs t') (hne : t ≠ t') : v.ownBlock ≠ some b := fun q => by
 rcases ho.2 with ⟨rfl, rfl⟩ | ⟨g, cap, cur, rfl, h1, hB, _⟩
 · simp [Value.ownBlock] at q
 · have e : g = b := by simpa [Value.ownBlock] using q
   subst e
   have hB' : w.heap[g]? = some (.cells cur t (0, 0)) := hB
   have hb' : w.heap[g]? = some (.cells cs t' (0, 0)) := hb
   rw [hB'] at hb'
   injection hb' with h2
   injection h2 with h3 h4
   exact hne h4
theorem own_own_ne {w : World} {b1 b2 s1 s2 n1 n2 : Nat} {t1 t2 : TypeId} {v1 v2 : Value} {x1 x2 : List Value} (h1 : w.ownsRow b1 t1 s1 v1 n1 x1) (h2 : w.ownsRow b2 t2 s2 v2 n2 x2) (hne : t1 ≠ t2) : ∀ k, v2.ownBlock = some k → v1.ownBlock ≠ some k := fun k q => by
 rcases h2.2 with ⟨rfl, rfl⟩ | ⟨g, cap, cur, rfl, _, hB, _⟩
 · simp [Value.ownBlock] at q
 · have e : g = k := by simpa [Value.ownBlock] using q
   subst e
   exact own_blk_ne h1 (show Blk w g cur t2 from hB) hne
theorem zero_owns {w : World} {base size k : Nat} {e : TypeId} (h : Blk w k #[] e) (hb : base ≤ k) : w.ownsRow base e size (.slice (some ⟨k, 0, none⟩) 0 0) 0 [] :=
 ⟨by simp, .inr ⟨k, 0, #[], rfl, hb, h, Nat.le_refl _, by unfold maxLen; omega, by simp, by simp⟩⟩
theorem rows_join {w : World} {base size n1 n2 : Nat} {t : TypeId} {v : Value} {c1 c2 : Nat → List Value} (hl1 : ∀ i, i < n1 → (c1 i).length = size) (hl2 : ∀ i, i < n2 → (c2 i).length = size) (ho : w.ownsRow base t size v (n1 + n2) (flatB c1 0 n1 ++ flatB c2 0 n2)) :
 RowC (fun _ => False) w v (n1 + n2) size (fun i => if i < n1 then c1 i else c2 (i - n1)) := by
 have h1 := flatB_len hl1 (t := 0) (k := n1) (by omega)
 refine RowC.of_own ho (fun b q => q.elim) (fun i hi => ?_) (fun i hi j u hj => ?_)
 · by_cases q : i < n1
   · simp only [if_pos q]; exact hl1 _ q
   · simp only [if_neg q]; exact hl2 _ (by omega)
 · by_cases q : i < n1
   · simp only [if_pos q] at hj
     have hj9 : j < size := by
      have := (List.getElem?_eq_some_iff.1 hj).1
      rw [hl1 _ q] at this
      exact this
     rw [List.getElem?_append_left (by rw [h1]; have := Nat.mul_le_mul_right size (show i + 1 ≤ n1 by omega); rw [Nat.add_mul] at this; omega)]
     exact flatB_get hl1 (by omega) q (by rw [Nat.zero_add]; exact hj)
   · simp only [if_neg q] at hj
     have hm := Nat.mul_le_mul_right size (show n1 ≤ i by omega)
     rw [List.getElem?_append_right (by rw [h1]; omega), h1, show i * size + j - n1 * size = (i - n1) * size + j by rw [Nat.sub_mul]; omega]
     exact flatB_get hl2 (t := 0) (k := n2) (by omega) (by omega) (by rw [Nat.zero_add]; exact hj)
theorem declC_one {cs : Nat → List Value} {l : List (List UInt8 × Nat)} (h : ∀ i (h : i < l.length), cs i = [.string ⟨l[i].1.toArray⟩, .int .i64 (l[i].2 : Int)]) : ∀ u ∈ flatB cs 0 l.length, u.oneCell' = true := fun u hu => by
 unfold flatB at hu
 obtain ⟨c, hc, huc⟩ := List.mem_flatten.1 hu
 obtain ⟨i, hi, rfl⟩ := List.mem_map.1 hc
 rw [Nat.zero_add, h i (by simpa using hi)] at huc
 simp at huc
 rcases huc with rfl | rfl <;> rfl
theorem bindC_one {w : World} {cs : Nat → List Value} {l : List TB} (h : ∀ i (h : i < l.length), BAt (fun _ => False) w (cs i) l[i]) : ∀ u ∈ flatB cs 0 l.length, u.oneCell' = true := fun u hu => by
 unfold flatB at hu
 obtain ⟨c, hc, huc⟩ := List.mem_flatten.1 hu
 obtain ⟨i, hi, rfl⟩ := List.mem_map.1 hc
 obtain ⟨pn, c, e, hr, he⟩ := h i (by simpa using hi)
 obtain ⟨pa, pc, rfl⟩ := RowC.shape hr
 obtain ⟨k, nm, fl, bi, a0, n0, c0, a1, n1, c1, a2, n2, c2, a3, n3, c3, rfl⟩ := he.form
 rw [Nat.zero_add, e] at huc
 unfold eC at huc
 simp at huc
 rcases huc with rfl | rfl | rfl | rfl | rfl | rfl | rfl | rfl | rfl | rfl <;> rfl
theorem mval_join {w : World} {B : Nat} {tD tB : TypeId} {va vb : Value} {m n : TM} {c1 c2 d1 d2 : Nat → List Value} (hc1 : ∀ i (h : i < m.cons.length), c1 i = [.string ⟨m.cons[i].1.toArray⟩, .int .i64 (m.cons[i].2 : Int)]) (hc2 : ∀ i (h : i < n.cons.length), c2 i = [.string ⟨n.cons[i].1.toArray⟩, .int .i64 (n.cons[i].2 : Int)])
 (hd1 : ∀ i (h : i < m.binds.length), BAt (fun _ => False) w (d1 i) m.binds[i]) (hd2 : ∀ i (h : i < n.binds.length), BAt (fun _ => False) w (d2 i) n.binds[i])
 (hl1 : ∀ i, i < m.binds.length → (d1 i).length = 10) (hl2 : ∀ i, i < n.binds.length → (d2 i).length = 10)
 (ha : w.ownsRow B tD 2 va (m.cons.length + n.cons.length) (flatB c1 0 m.cons.length ++ flatB c2 0 n.cons.length)) (hb : w.ownsRow B tB 10 vb (m.binds.length + n.binds.length) (flatB d1 0 m.binds.length ++ flatB d2 0 n.binds.length)) :
 MVal (fun _ => False) w (.agg #[va, vb]) ⟨m.cons ++ n.cons, m.binds ++ n.binds⟩ := by
 have r1 := rows_join (fun i hi => by rw [hc1 i hi]; rfl) (fun i hi => by rw [hc2 i hi]; rfl) ha
 have r2 := rows_join hl1 hl2 hb
 refine ⟨va, vb, _, _, rfl, by simpa using r1, fun i hi => ?_, by simpa using r2, fun i hi => ?_⟩
 · have hi' : i < (m.cons ++ n.cons).length := hi
   rw [List.length_append] at hi'
   by_cases q : i < m.cons.length
   · simp only [if_pos q]
     rw [hc1 i q]
     simp only [List.getElem_append_left q]
   · simp only [if_neg q]
     rw [hc2 (i - m.cons.length) (by omega)]
     simp only [List.getElem_append_right (Nat.le_of_not_lt q)]
 · have hi' : i < (m.binds ++ n.binds).length := hi
   rw [List.length_append] at hi'
   by_cases q : i < m.binds.length
   · simp only [if_pos q]
     have := hd1 i q
     simp only [List.getElem_append_left q]
     exact this
   · simp only [if_neg q]
     have := hd2 (i - m.binds.length) (by omega)
     simp only [List.getElem_append_right (Nat.le_of_not_lt q)]
     exact this
end Go.Proofs.YtlnmicddobgppaaGreatDoor
