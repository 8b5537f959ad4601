/-
  Modules as texts, in plain words (layer 9): what show comes to, and that the document's way comes to the same. No conditions.
  Trees that a source tells without a fault (layer 8): how many nodes they have. No conditions.
  A source's texts (layer 9), in plain words: how long they may be. No conditions.
-/
import Derived.Test.YtpjlibbdngnnnaaDoorParF
import Derived.Lib.Join
import Derived.Lib.ItoaNum
import Derived.Test.YtpjlibbdngnnnaaDoorParW
import Derived.Test.YtpjlibbdngnnnaaDoorSpB
namespace Go.Proofs.YtpjlibbdngnnnaaDoor
set_option linter.unusedSimpArgs false
set_option linter.unusedVariables false

/-- A number's text. -/
def numT (s : List UInt8) : List UInt8 := if s.head? = some 45 then 35 :: s else s
/-- With a blank between each two. -/
def joinS (l : List (List UInt8)) : List UInt8 := Lib.join l [32]
/-- With ; and a blank between each two. -/
def joinR (l : List (List UInt8)) : List UInt8 := Lib.join l [59, 32]
/-- With a blank ahead of each. -/
def wordsF (l : List (List UInt8)) : List UInt8 := Lib.joinTail [32] l
def bareE : TE → Bool
  | .mk k _ _ _ _ ks _ _ => decide (k = 1) || decide (k = 3) || (ks.isEmpty && (decide (k = 2) || decide (k = 5)))
def parF (t : List UInt8) : List UInt8 := [40] ++ t ++ [41]
def atomF (e : TE) (t : List UInt8) : List UInt8 := if bareE e = true then t else parF t
def lowF (n : List UInt8) : Bool := match n with | [] => false | c :: _ => decide (97 ≤ c.toNat) && decide (c.toNat ≤ 122)
/-- An applied one, if it is a bare constructor or operation, is in ( ). -/
def nakedE : TE → Bool
  | .mk k _ _ _ _ ks _ _ => ks.isEmpty && (decide (k = 2) || decide (k = 5))
def headF (ks : List TE) (l : List (List UInt8)) : List (List UInt8) :=
  match ks, l with
  | e :: _, t :: r => (if nakedE e = true then parF t else t) :: r
  | _, l => l
section
variable (pr : Bool → Nat → List UInt8)
mutual
def swE : TE → List UInt8
  | .mk k n fl bi ps ks bs al =>
    if k = 1 then n
    else if k = 2 then joinS (n :: swK ks)
    else if k = 3 then numT (pr fl bi)
    else if k = 4 then joinS (headF ks (swK ks))
    else if k = 5 then (if lowF n = true ∨ ks.length ≠ 2 then joinS (n :: swK ks) else joinS [(swK ks).headD [], n, ((swK ks).drop 1).headD []])
    else if k = 6 then joinS [[108, 101, 116], joinR (swB bs), [105, 110], swX ks]
    else if k = 7 then joinS [[99, 97, 115, 101], swX ks, [111, 102], [123] ++ joinR (swA al) ++ [125]]
    else if k = 8 then [92] ++ joinS (ps ++ [[45, 62], swX ks])
    else []
def swX : List TE → List UInt8
  | [] => []
  | e :: _ => swE e
def swK : List TE → List (List UInt8)
  | [] => []
  | e :: l => atomF e (swE e) :: swK l
def swB : List TB → List (List UInt8)
  | [] => []
  | .mk n ps e :: l => joinS (n :: (ps ++ [[61], swE e])) :: swB l
def swA : List TA → List (List UInt8)
  | [] => []
  | .mk k n fl bi ns e :: l => joinS ((if k = 1 then [numT (pr fl bi)] else n :: ns) ++ [[45, 62], swE e]) :: swA l
end
def swB1 : TB → List UInt8 | .mk n ps e => joinS (n :: (ps ++ [[61], swE pr e]))
def swA1 : TA → List UInt8 | .mk k n fl bi ns e => joinS ((if k = 1 then [numT (pr fl bi)] else n :: ns) ++ [[45, 62], swE pr e])
theorem swK_map : ∀ l, swK pr l = l.map (fun e => atomF e (swE pr e))
  | [] => by rw [swK]; rfl
  | e :: l => by rw [swK, swK_map l]; rfl
theorem swB_map : ∀ l, swB pr l = l.map (swB1 pr)
  | [] => by rw [swB]; rfl
  | .mk n ps e :: l => by rw [swB, swB_map l]; rfl
theorem swA_map : ∀ l, swA pr l = l.map (swA1 pr)
  | [] => by rw [swA]; rfl
  | .mk k n fl bi ns e :: l => by rw [swA, swA_map l]; rfl
/-- A module's text. -/
def consT (cs : List (List UInt8 × Nat)) : List UInt8 := if cs = [] then [] else [100, 97, 116, 97] ++ (cs.map (fun d => [32] ++ d.1 ++ [32] ++ Lib.decDigits d.2)).flatten ++ [59, 10]
def bindsT (bs : List TB) : List UInt8 := (bs.map (fun b => swB1 pr b ++ [59, 10])).flatten
def swM (m : TM) : List UInt8 := consT m.cons ++ bindsT pr m.binds
end
-- the document's way
theorem words_nil : wordsF [] = [] := rfl
theorem words_cons (x : List UInt8) (l : List (List UInt8)) : wordsF (x :: l) = [32] ++ x ++ wordsF l := by
  unfold wordsF Lib.joinTail
  simp
theorem words_app (a b : List (List UInt8)) : wordsF (a ++ b) = wordsF a ++ wordsF b := by
  unfold wordsF Lib.joinTail
  simp
theorem joinS_cons (x : List UInt8) (l : List (List UInt8)) : joinS (x :: l) = x ++ wordsF l := Lib.join_cons x l [32]
theorem bind_doc (n : List UInt8) (ps : List (List UInt8)) (t : List UInt8) : joinS (n :: (ps ++ [[61], t])) = n ++ wordsF ps ++ [32, 61, 32] ++ t := by
  rw [joinS_cons, words_app, words_cons, words_cons, words_nil]
  simp
theorem arrow_doc (n : List UInt8) (ps : List (List UInt8)) (t : List UInt8) : joinS ((n :: ps) ++ [[45, 62], t]) = n ++ wordsF ps ++ [32, 45, 62, 32] ++ t := by
  rw [List.cons_append, joinS_cons, words_app, words_cons, words_cons, words_nil]
  simp
theorem sign_doc (a n b : List UInt8) : joinS [a, n, b] = a ++ [32] ++ n ++ [32] ++ b := by
  rw [joinS_cons, words_cons, words_cons, words_nil]
  simp
theorem let_doc (s t : List UInt8) : joinS [[108, 101, 116], s, [105, 110], t] = [108, 101, 116, 32] ++ s ++ [32, 105, 110, 32] ++ t := by
  rw [joinS_cons, words_cons, words_cons, words_cons, words_nil]
  simp
theorem case_doc (s t : List UInt8) : joinS [[99, 97, 115, 101], t, [111, 102], [123] ++ s ++ [125]] = [99, 97, 115, 101, 32] ++ t ++ [32, 111, 102, 32, 123] ++ s ++ [125] := by
  rw [joinS_cons, words_cons, words_cons, words_cons, words_nil]
  simp
theorem lam_doc {ps : List (List UInt8)} (h : ps ≠ []) (t : List UInt8) : [92] ++ joinS (ps ++ [[45, 62], t]) = [92] ++ (wordsF ps).drop 1 ++ [32, 45, 62, 32] ++ t := by
  cases ps with
  | nil => exact absurd rfl h
  | cons x l =>
    rw [arrow_doc, words_cons]
    simp
theorem joinR_snoc (l : List (List UInt8)) (x : List UInt8) : joinR (l ++ [x]) = if l = [] then x else joinR l ++ [59, 32] ++ x := by
  cases l with
  | nil => exact Lib.join_one x [59, 32]
  | cons y l =>
    rw [if_neg (by simp)]
    unfold joinR
    rw [List.cons_append, Lib.join_cons, Lib.join_cons]
    unfold Lib.joinTail
    simp
-- lengths
theorem joinS_len (l : List (List UInt8)) : (joinS l).length ≤ (l.map (fun x => x.length + 1)).sum := by
  cases l with
  | nil => simp [joinS, Lib.join_nil]
  | cons x l =>
    rw [joinS_cons]
    have h : ∀ l : List (List UInt8), (wordsF l).length = (l.map (fun x => x.length + 1)).sum := fun l => by
      induction l with
      | nil => rfl
      | cons y l ih => rw [words_cons]; simp [ih]; omega
    simp [h l]
theorem joinR_len (l : List (List UInt8)) : (joinR l).length ≤ (l.map (fun x => x.length + 2)).sum := by
  cases l with
  | nil => simp [joinR, Lib.join_nil]
  | cons x l =>
    unfold joinR
    rw [Lib.join_cons]
    have h : ∀ l : List (List UInt8), (Lib.joinTail [59, 32] l).length = (l.map (fun x => x.length + 2)).sum := fun l => by
      induction l with
      | nil => rfl
      | cons y l ih =>
        have e : Lib.joinTail [59, 32] (y :: l) = [59, 32] ++ y ++ Lib.joinTail [59, 32] l := by unfold Lib.joinTail; simp
        rw [e]; simp [ih]; omega
    simp [h l]
def lenS (l : List (List UInt8)) : Nat := (l.map (fun x => x.length + 2)).sum
theorem lenS_app (a b : List (List UInt8)) : lenS (a ++ b) = lenS a + lenS b := by simp [lenS]
theorem lenS_cons (x : List UInt8) (l : List (List UInt8)) : lenS (x :: l) = x.length + 2 + lenS l := by simp [lenS]
theorem lenS_nil : lenS [] = 0 := rfl
theorem joinS_le (l : List (List UInt8)) : (joinS l).length ≤ lenS l := by
  refine Nat.le_trans (joinS_len l) ?_
  unfold lenS
  induction l with
  | nil => exact Nat.le_refl _
  | cons x l ih => simp at ih ⊢; omega
theorem joinR_le (l : List (List UInt8)) : (joinR l).length ≤ lenS l := joinR_len l
mutual
/-- How long a text may be. -/
def zE : TE → Nat
  | .mk _ n _ _ ps ks bs al => 64 + n.length + lenS ps + zK ks + zB bs + zA al
def zK : List TE → Nat
  | [] => 0
  | e :: l => zE e + 8 + zK l
def zB : List TB → Nat
  | [] => 0
  | .mk n ps e :: l => 32 + n.length + lenS ps + zE e + zB l
def zA : List TA → Nat
  | [] => 0
  | .mk _ n _ _ ns e :: l => 64 + n.length + lenS ns + zE e + zA l
end
theorem atom_len (e : TE) (t : List UInt8) : (atomF e t).length ≤ t.length + 2 := by
  unfold atomF parF
  split
  · omega
  · simp
theorem head_len (ks : List TE) (l : List (List UInt8)) : lenS (headF ks l) ≤ lenS l + 2 := by
  unfold headF
  split
  · rename_i t r
    rw [lenS_cons, lenS_cons]
    split
    · simp [parF]; omega
    · omega
  · omega
section
variable (pr : Bool → Nat → List UInt8)
theorem num_len (hpr : ∀ f b, (pr f b).length ≤ 22) (f : Bool) (b : Nat) : (numT (pr f b)).length ≤ 23 := by
  have := hpr f b
  unfold numT
  split
  · simp; omega
  · omega
mutual
theorem swE_len (hpr : ∀ f b, (pr f b).length ≤ 22) : ∀ e : TE, (swE pr e).length ≤ zE e
  | .mk k n fl bi ps ks bs al => by
    have hk := swK_len hpr ks
    have hb := swB_len hpr bs
    have ha := swA_len hpr al
    have hx := swX_len hpr ks
    have hn := num_len pr hpr fl bi
    rw [swE]
    unfold zE
    split
    · omega
    · split
      · have := joinS_le (n :: swK pr ks); rw [lenS_cons] at this; omega
      · split
        · omega
        · split
          · have := joinS_le (headF ks (swK pr ks)); have := head_len ks (swK pr ks); omega
          · split
            · split
              · have := joinS_le (n :: swK pr ks); rw [lenS_cons] at this; omega
              · have := joinS_le [(swK pr ks).headD [], n, ((swK pr ks).drop 1).headD []]
                rw [lenS_cons, lenS_cons, lenS_cons, lenS_nil] at this
                have h2 : ((swK pr ks).headD []).length + (((swK pr ks).drop 1).headD []).length ≤ lenS (swK pr ks) := by
                  cases swK pr ks with
                  | nil => simp
                  | cons x l => cases l with
                    | nil => simp [lenS]
                    | cons y l => simp [lenS]; omega
                omega
            · split
              · have := joinS_le [[108, 101, 116], joinR (swB pr bs), [105, 110], swX pr ks]
                have := joinR_le (swB pr bs)
                simp only [lenS_cons, lenS_nil, List.length_cons, List.length_nil] at *
                omega
              · split
                · have := joinS_le [[99, 97, 115, 101], swX pr ks, [111, 102], [123] ++ joinR (swA pr al) ++ [125]]
                  have := joinR_le (swA pr al)
                  simp only [lenS_cons, lenS_nil, List.length_cons, List.length_nil, List.length_append] at *
                  omega
                · split
                  · have := joinS_le (ps ++ [[45, 62], swX pr ks])
                    simp only [lenS_app, lenS_cons, lenS_nil, List.length_cons, List.length_nil, List.length_append] at *
                    omega
                  · simp
theorem swX_len (hpr : ∀ f b, (pr f b).length ≤ 22) : ∀ l : List TE, (swX pr l).length ≤ zK l
  | [] => by rw [swX]; simp
  | e :: l => by
    have := swE_len hpr e
    rw [swX]
    unfold zK
    omega
theorem swK_len (hpr : ∀ f b, (pr f b).length ≤ 22) : ∀ l : List TE, lenS (swK pr l) ≤ zK l
  | [] => by rw [swK]; simp [lenS]
  | e :: l => by
    have h1 := swE_len hpr e
    have h2 := swK_len hpr l
    have h3 := atom_len e (swE pr e)
    rw [swK, lenS_cons]
    unfold zK
    omega
theorem swB_len (hpr : ∀ f b, (pr f b).length ≤ 22) : ∀ l : List TB, lenS (swB pr l) ≤ zB l
  | [] => by rw [swB]; simp [lenS]
  | .mk n ps e :: l => by
    have h1 := swE_len hpr e
    have h2 := swB_len hpr l
    have h3 := joinS_le (n :: (ps ++ [[61], swE pr e]))
    rw [swB, lenS_cons]
    unfold zB
    simp only [lenS_app, lenS_cons, lenS_nil, List.length_cons, List.length_nil] at *
    omega
theorem swA_len (hpr : ∀ f b, (pr f b).length ≤ 22) : ∀ l : List TA, lenS (swA pr l) ≤ zA l
  | [] => by rw [swA]; simp [lenS]
  | .mk k n fl bi ns e :: l => by
    have h1 := swE_len hpr e
    have h2 := swA_len hpr l
    have hn := num_len pr hpr fl bi
    have h3 := joinS_le ((if k = 1 then [numT (pr fl bi)] else n :: ns) ++ [[45, 62], swE pr e])
    rw [swA, lenS_cons]
    unfold zA
    rw [lenS_app] at h3
    have h4 : lenS (if k = 1 then [numT (pr fl bi)] else n :: ns) ≤ 25 + n.length + lenS ns := by
      split
      · rw [lenS_cons, lenS_nil]; omega
      · rw [lenS_cons]; omega
    simp only [lenS_cons, lenS_nil, List.length_cons, List.length_nil] at *
    omega
end
end
end Go.Proofs.YtpjlibbdngnnnaaDoor

namespace Go.Proofs.YtpjlibbdngnnnaaDoor
set_option linter.unusedSimpArgs false
set_option linter.unusedVariables false

mutual
/-- How many nodes, but for those that apply; how many names that are bound. -/
def wvE : TE → Nat
  | .mk k _ _ _ ps ks bs al => (if k = 4 then 0 else 1) + ps.length + wvK ks + wvB bs + wvA al
def wvK : List TE → Nat
  | [] => 0
  | e :: l => wvE e + wvK l
def wvB : List TB → Nat
  | [] => 0
  | .mk _ p e :: l => (1 + p.length + wvE e) + wvB l
def wvA : List TA → Nat
  | [] => 0
  | .mk _ _ _ _ p e :: l => (1 + p.length + wvE e) + wvA l
end
section
variable {L : List TokV}
theorem wvK_app (a b : List TE) : wvK (a ++ b) = wvK a + wvK b := by
  induction a with
  | nil => simp [wvK]
  | cons x l ih => simp [wvK, ih]; omega
theorem wvB_app (a b : List TB) : wvB (a ++ b) = wvB a + wvB b := by
  induction a with
  | nil => simp [wvB]
  | cons x l ih => obtain ⟨n, p, e⟩ := x; simp [wvB, ih]; omega
theorem wvA_app (a b : List TA) : wvA (a ++ b) = wvA a + wvA b := by
  induction a with
  | nil => simp [wvA]
  | cons x l ih => obtain ⟨k, n, f, b, p, e⟩ := x; simp [wvA, ih]; omega
/-- What an expression, a bind, .. read without a fault are. -/
def OkV (L : List TokV) (f : PS → TE × PS) : Prop := ∀ s, (f s).2.e = 0 → wfE L (f s).1 ∧ wvE (f s).1 + s.at_ ≤ (f s).2.at_
variable {ex : PS → TE × PS} (hgo : ∀ s, Goes L s (ex s).2) (hex : OkV L ex)
include hgo hex
theorem bind_okv (s : PS) (h : (bindF L ex s).2.e = 0) : wfB L [(bindF L ex s).1] ∧ wvB [(bindF L ex s).1] + s.at_ ≤ (bindF L ex s).2.at_ := by
  unfold bindF at h ⊢
  simp only at h ⊢
  have h1 := hex _ h
  have h2 := goes_ok (hgo _) h
  have h3 := need_ok h2
  have h4 := names_ok _ _ _ _ h3.1
  obtain ⟨l, hl⟩ : ∃ l, (namesF L (fuelP L) true [] s).1 = l := ⟨_, rfl⟩
  rw [hl] at h4 ⊢
  simp only [List.length_nil, Nat.zero_add] at h4
  have h5 := h4.2.2.2 (by trivial) (by unfold fuelP; omega)
  cases l with
  | nil => simp at h5
  | cons n r =>
    simp only [List.headD, List.tail, wfB, wvB]
    simp only [List.length_cons] at h4
    refine ⟨⟨⟨?_, fun x hx => ?_, h1.1⟩, trivial⟩, by omega⟩
    · exact (h4.1 n (by simp)).resolve_left (by simp)
    · exact (h4.1 x (by simp [hx])).resolve_left (by simp)
theorem alt_okv (s : PS) (h : (altF L ex s).2.e = 0) : wfA L [(altF L ex s).1] ∧ wvA [(altF L ex s).1] + s.at_ ≤ (altF L ex s).2.at_ := by
  unfold altF at h ⊢
  simp only at h ⊢
  have h1 := hex _ h
  have h2 := goes_ok (hgo _) h
  have h3 := need_ok h2
  unfold altHead at h1 h2 h3 ⊢
  split at h3
  · rename_i hk
    rw [if_pos hk] at h1 ⊢
    have h4 := names_ok _ _ _ _ h3.1
    have h5 := goes_ok (names_goes _ _ _ _) h3.1
    have h6 := token_ok2 (k := 2) (by decide) h5
    have h7 := token_text (k := 2) (by decide) h5
    simp only [wfA, wvA] at *
    simp only [List.length_nil, Nat.zero_add] at h4
    refine ⟨⟨⟨.inl ⟨trivial, h7, trivial, trivial, fun x hx => (h4.1 x hx).resolve_left (by simp)⟩, h1.1⟩, trivial⟩, by omega⟩
  · rename_i hk
    rw [if_neg hk] at h1 ⊢
    split at h3
    · rename_i hk3
      rw [if_pos hk3] at h1 ⊢
      have h6 := token_ok2 (k := 3) (by decide) h3.1
      simp only [wfA, wvA, List.length_nil] at *
      refine ⟨⟨⟨.inr (.inl ⟨trivial, trivial, ⟨_, h6.2.2.1, h6.2.2.2, rfl, rfl⟩, trivial⟩), h1.1⟩, trivial⟩, by omega⟩
    · rename_i hk3
      rw [if_neg hk3] at h1 ⊢
      have h6 := token_ok2 (k := 1) (by decide) h3.1
      have h7 := token_text (k := 1) (by decide) h3.1
      simp only [wfA, wvA, List.length_nil] at *
      refine ⟨⟨⟨.inr (.inr ⟨trivial, h7, trivial, trivial, trivial⟩), h1.1⟩, trivial⟩, by omega⟩
theorem atoms_okv : ∀ (n : Nat) (acc : List TE) (s : PS), (atomsF L ex n acc s).2.e = 0 → wfK L acc →
    wfK L (atomsF L ex n acc s).1 ∧ wvK (atomsF L ex n acc s).1 + s.at_ ≤ wvK acc + (atomsF L ex n acc s).2.at_
  | 0, acc, s, h, ha => ⟨ha, Nat.le_refl _⟩
  | n + 1, acc, s, h, ha => by
    unfold atomsF at h ⊢
    by_cases he : s.e ≠ 0
    · rw [if_pos he] at h ⊢
      exact ⟨ha, Nat.le_refl _⟩
    rw [if_neg he] at h ⊢
    by_cases h1 : kindP L s = 1
    · rw [if_pos h1] at h ⊢
      have ht := goes_ok (atoms_goes hgo n _ _) h
      have tk := token_ok2 (k := 1) (by decide) ht
      have tt := token_text (k := 1) (by decide) ht
      have ih := atoms_okv n _ _ h ((wfK_app _ _).2 ⟨ha, leaf_ok (.inl ⟨rfl, tt, rfl, rfl, rfl, rfl, rfl, rfl⟩), trivial⟩)
      rw [wvK_app] at ih
      simp only [wvK, wvE, wvB, wvA, List.length_nil, show ¬ (1 : Nat) = 4 by decide, if_false] at ih
      exact ⟨ih.1, by omega⟩
    rw [if_neg h1] at h ⊢
    by_cases h2 : kindP L s = 2
    · rw [if_pos h2] at h ⊢
      have ht := goes_ok (atoms_goes hgo n _ _) h
      have tk := token_ok2 (k := 2) (by decide) ht
      have tt := token_text (k := 2) (by decide) ht
      have ih := atoms_okv n _ _ h ((wfK_app _ _).2 ⟨ha, leaf_ok (.inr (.inl ⟨rfl, tt, rfl, rfl, rfl, rfl, rfl⟩)), trivial⟩)
      rw [wvK_app] at ih
      simp only [wvK, wvE, wvB, wvA, List.length_nil, show ¬ (2 : Nat) = 4 by decide, if_false] at ih
      exact ⟨ih.1, by omega⟩
    rw [if_neg h2] at h ⊢
    by_cases h7 : kindP L s = 7
    · rw [if_pos h7] at h ⊢
      have ht := goes_ok (atoms_goes hgo n _ _) h
      have tk := token_ok2 (k := 7) (by decide) ht
      have tt := token_text (k := 7) (by decide) ht
      have ih := atoms_okv n _ _ h ((wfK_app _ _).2 ⟨ha, leaf_ok (.inr (.inr (.inr (.inr (.inl ⟨rfl, .inl tt, rfl, rfl, rfl, rfl, rfl⟩))))), trivial⟩)
      rw [wvK_app] at ih
      simp only [wvK, wvE, wvB, wvA, List.length_nil, show ¬ (5 : Nat) = 4 by decide, if_false] at ih
      exact ⟨ih.1, by omega⟩
    rw [if_neg h7] at h ⊢
    by_cases h3 : kindP L s = 3
    · rw [if_pos h3] at h ⊢
      have ht := goes_ok (atoms_goes hgo n _ _) h
      have tk := token_ok2 (k := 3) (by decide) ht
      have ih := atoms_okv n _ _ h ((wfK_app _ _).2 ⟨ha, leaf_ok (.inr (.inr (.inl ⟨rfl, rfl, ⟨_, tk.2.2.1, tk.2.2.2, rfl, rfl⟩, rfl, rfl, rfl, rfl⟩))), trivial⟩)
      rw [wvK_app] at ih
      simp only [wvK, wvE, wvB, wvA, List.length_nil, show ¬ (3 : Nat) = 4 by decide, if_false] at ih
      exact ⟨ih.1, by omega⟩
    rw [if_neg h3] at h ⊢
    by_cases hs : seesF L [40] s = false
    · rw [if_pos hs] at h ⊢
      exact ⟨ha, Nat.le_refl _⟩
    rw [if_neg hs] at h ⊢
    have ht := need_ok (goes_ok (atoms_goes hgo n _ _) h)
    have hx := hex _ ht.1
    have ih := atoms_okv n _ _ h ((wfK_app _ _).2 ⟨ha, hx.1, trivial⟩)
    rw [wvK_app] at ih
    simp only [wvK] at ih
    have h5 := hx.2
    simp only at h5
    exact ⟨ih.1, by omega⟩
theorem row_okv : OkV L (rowF L ex) := fun s h => by
  have hat := atoms_okv hgo hex (fuelP L) [] s
  have hpre : s.e = 0 → kindP L s = 2 ∨ kindP L s = 7 → ∃ e r, (atomsF L ex (fuelP L) [] s).1 = e :: r ∧ ∃ k n, e = .mk k n false 0 [] [] [] [] ∧ (k = 2 ∨ k = 5) := fun he hk => by
    unfold fuelP
    unfold atomsF
    rw [if_neg (by simpa using he)]
    rcases hk with hk | hk
    · rw [if_neg (by rw [hk]; decide), if_pos hk]
      obtain ⟨r, hr⟩ := atoms_pre (L := L) (ex := ex) (L.length + 1) ([] ++ [.mk 2 (tokenF L 2 s).1.text false 0 [] [] [] []]) (tokenF L 2 s).2
      exact ⟨_, r, by rw [hr]; simp only [List.nil_append, List.cons_append]; rfl, 2, _, rfl, .inl rfl⟩
    · rw [if_neg (by rw [hk]; decide), if_neg (by rw [hk]; decide), if_pos hk]
      obtain ⟨r, hr⟩ := atoms_pre (L := L) (ex := ex) (L.length + 1) ([] ++ [.mk 5 (tokenF L 7 s).1.text false 0 [] [] [] []]) (tokenF L 7 s).2
      exact ⟨_, r, by rw [hr]; simp only [List.nil_append, List.cons_append]; rfl, 5, _, rfl, .inr rfl⟩
  have hg := atoms_goes hgo (fuelP L) [] s
  unfold rowF at h ⊢
  generalize atomsF L ex (fuelP L) [] s = p at h hat hpre hg ⊢
  obtain ⟨l, t⟩ := p
  rcases l with _ | ⟨e, _ | ⟨e2, r⟩⟩
  · exact absurd h (fault_bad (by decide))
  · dsimp only at h hat ⊢
    obtain ⟨a1, a2⟩ := hat h trivial
    simp only [wfK, wvK] at a1 a2
    exact ⟨a1.1, by omega⟩
  · dsimp only at h hat hg ⊢
    split at h
    · rename_i hk
      rw [if_pos hk]
      obtain ⟨a1, a2⟩ := hat h trivial
      obtain ⟨e', r', hr, k, n, rfl, hkk⟩ := hpre (goes_ok hg h) hk
      injection hr with hr1 hr2
      subst hr1 hr2
      simp only [wfK, wvK, wfE, wvE, TE.withKids, wvB, wvA, wfB, wfA, List.length_nil] at a1 a2 ⊢
      refine ⟨⟨?_, a1.2, trivial, trivial⟩, by omega⟩
      rcases a1.1.1 with q | q | q | q | q | q | q | q
      · rcases hkk with z | z <;> (rw [z] at q; exact absurd q.1 (by decide))
      · exact .inr (.inl ⟨q.1, q.2.1, rfl, rfl, rfl, rfl, rfl⟩)
      · rcases hkk with z | z <;> (rw [z] at q; exact absurd q.1 (by decide))
      · rcases hkk with z | z <;> (rw [z] at q; exact absurd q.1 (by decide))
      · refine .inr (.inr (.inr (.inr (.inl ⟨q.1, ?_, rfl, rfl, rfl, rfl, rfl⟩))))
        rcases q.2.1 with y | y
        · exact .inl y
        · exact absurd y.2 (by simp)
      · rcases hkk with z | z <;> (rw [z] at q; exact absurd q.1 (by decide))
      · rcases hkk with z | z <;> (rw [z] at q; exact absurd q.1 (by decide))
      · rcases hkk with z | z <;> (rw [z] at q; exact absurd q.1 (by decide))
    · rename_i hk
      rw [if_neg hk]
      obtain ⟨a1, a2⟩ := hat h trivial
      simp only [wfK, wvK, wfE, wvE, wvB, wvA, wfB, wfA, List.length_nil, if_true] at a1 a2 ⊢
      exact ⟨⟨.inr (.inr (.inr (.inl ⟨rfl, rfl, rfl, rfl, by simp, rfl, rfl, rfl⟩))), a1, trivial, trivial⟩, by omega⟩
theorem binds_okv : ∀ (n : Nat) (acc : List TB) (s : PS), (bindsF L ex n acc s).2.e = 0 → wfB L acc →
    wfB L (bindsF L ex n acc s).1 ∧ wvB (bindsF L ex n acc s).1 + s.at_ ≤ wvB acc + (bindsF L ex n acc s).2.at_ ∧ (acc ≠ [] → (bindsF L ex n acc s).1 ≠ [])
  | 0, acc, s, h, ha => ⟨ha, Nat.le_refl _, id⟩
  | n + 1, acc, s, h, ha => by
    unfold bindsF at h ⊢
    split at h
    · rename_i hc
      rw [if_pos hc]
      have ht := goes_ok (binds_goes hgo n _ _) h
      have hb := bind_okv hgo hex _ ht
      have ih := binds_okv n _ _ h ((wfB_app _ _).2 ⟨ha, hb.1⟩)
      rw [wvB_app] at ih
      have h5 := hb.2
      simp only at h5
      exact ⟨ih.1, by omega, fun _ => ih.2.2 (by simp)⟩
    · rename_i hc
      rw [if_neg hc]
      exact ⟨ha, Nat.le_refl _, id⟩
theorem alts_okv : ∀ (n : Nat) (acc : List TA) (s : PS), (altsF L ex n acc s).2.e = 0 → wfA L acc →
    wfA L (altsF L ex n acc s).1 ∧ wvA (altsF L ex n acc s).1 + s.at_ ≤ wvA acc + (altsF L ex n acc s).2.at_
  | 0, acc, s, h, ha => ⟨ha, Nat.le_refl _⟩
  | n + 1, acc, s, h, ha => by
    unfold altsF at h ⊢
    split at h
    · rename_i hc
      rw [if_pos hc]
      have ht := goes_ok (alts_goes hgo n _ _) h
      have hb := alt_okv hgo hex _ ht
      have ih := alts_okv n _ _ h ((wfA_app _ _).2 ⟨ha, hb.1⟩)
      rw [wvA_app] at ih
      have h5 := hb.2
      simp only at h5
      exact ⟨ih.1, by omega⟩
    · rename_i hc
      rw [if_neg hc]
      exact ⟨ha, Nat.le_refl _⟩
theorem choice_okv : OkV L (choiceF L ex) := fun s h => by
  unfold choiceF at h ⊢
  simp only at h ⊢
  split at h
  · rename_i hc
    rw [if_pos hc]
    have h2 := need_ok hc.1
    have h3 := need_ok h2.1
    have hx := hex _ h3.1
    simp only at hx ⊢
    simp only [wfE, wfK, wfB, wfA, wvE, wvK, wvB, wvA, List.length_nil, show ¬ (7 : Nat) = 4 by decide, if_false]
    exact ⟨⟨.inr (.inr (.inr (.inr (.inr (.inr (.inl ⟨rfl, rfl, rfl, rfl, rfl, rfl, rfl⟩)))))), ⟨hx.1, trivial⟩, trivial, trivial⟩, by omega⟩
  · rename_i hc
    rw [if_neg hc]
    have h1 := need_ok h
    have h4 := goes_ok (alts_goes hgo _ _ _) h1.1
    have ha := alt_okv hgo hex _ h4
    have hl := alts_okv hgo hex _ _ _ h1.1 ha.1
    have h2 := need_ok (goes_ok (alt_goes hgo _) h4)
    have h3 := need_ok h2.1
    have hx := hex _ h3.1
    simp only at hx hl ha ⊢
    simp only [wfE, wfK, wfB, wvE, wvK, wvB, List.length_nil, show ¬ (7 : Nat) = 4 by decide, if_false]
    exact ⟨⟨.inr (.inr (.inr (.inr (.inr (.inr (.inl ⟨rfl, rfl, rfl, rfl, rfl, rfl, rfl⟩)))))), ⟨hx.1, trivial⟩, trivial, hl.1⟩, by omega⟩
theorem let_okv : OkV L (letF L ex) := fun s h => by
  unfold letF at h ⊢
  simp only at h ⊢
  have hx := hex _ h
  have h1 := need_ok (goes_ok (hgo _) h)
  have h4 := goes_ok (binds_goes hgo _ _ _) h1.1
  have ha := bind_okv hgo hex _ h4
  have hl := binds_okv hgo hex _ _ _ h1.1 ha.1
  simp only at hx hl ha ⊢
  simp only [wfE, wfK, wfA, wvE, wvK, wvA, List.length_nil, show ¬ (6 : Nat) = 4 by decide, if_false]
  exact ⟨⟨.inr (.inr (.inr (.inr (.inr (.inl ⟨rfl, rfl, rfl, rfl, rfl, hl.2.2 (by simp), rfl, rfl⟩))))), ⟨hx.1, trivial⟩, hl.1, trivial⟩, by omega⟩
theorem lam_okv : OkV L (lamF L ex) := fun s h => by
  unfold lamF at h ⊢
  simp only at h ⊢
  have hx := hex _ h
  have h1 := need_ok (goes_ok (hgo _) h)
  have hl := names_ok _ _ _ _ h1.1
  have hne := hl.2.2.2 (by trivial) (by unfold fuelP; omega)
  simp only at hx hl ⊢
  simp only [List.length_nil, Nat.zero_add] at hl hne
  simp only [wfE, wfK, wfB, wfA, wvE, wvK, wvB, wvA, List.length_nil, show ¬ (8 : Nat) = 4 by decide, if_false]
  exact ⟨⟨.inr (.inr (.inr (.inr (.inr (.inr (.inr ⟨rfl, rfl, rfl, rfl, rfl, fun q => by rw [q] at hne; simp at hne, fun x hx2 => (hl.1 x hx2).resolve_left (by simp), rfl, rfl⟩)))))), ⟨hx.1, trivial⟩, trivial, trivial⟩, by omega⟩
theorem op_okv : OkV L (opF L ex) := fun s h => by
  unfold opF at h ⊢
  simp only at h ⊢
  split at h
  · rename_i hc
    rw [if_pos hc]
    have h2 := row_okv hgo hex _ h
    have h3 := goes_ok (row_goes hgo _) h
    have h4 := token_ok2 (k := 4) (by decide) h3
    have h5 := token_text (k := 4) (by decide) h3
    have h6 := row_okv hgo hex _ h4.1
    simp only [wfE, wfK, wfB, wfA, wvE, wvK, wvB, wvA, List.length_nil, show ¬ (5 : Nat) = 4 by decide, if_false]
    exact ⟨⟨.inr (.inr (.inr (.inr (.inl ⟨rfl, .inr ⟨h5, rfl⟩, rfl, rfl, rfl, rfl, rfl⟩)))), ⟨h6.1, h2.1, trivial⟩, trivial, trivial⟩, by omega⟩
  · rename_i hc
    rw [if_neg hc]
    exact row_okv hgo hex _ h
theorem step_okv : OkV L (exprStep L ex) := fun s h => by
  unfold exprStep at h ⊢
  split at h
  · rename_i hc; exact absurd h hc
  · rename_i hc
    rw [if_neg hc]
    split at h
    · rename_i h1; rw [if_pos h1]; exact let_okv hgo hex _ h
    · rename_i h1
      rw [if_neg h1]
      split at h
      · rename_i h2; rw [if_pos h2]; exact choice_okv hgo hex _ h
      · rename_i h2
        rw [if_neg h2]
        split at h
        · rename_i h3; rw [if_pos h3]; exact lam_okv hgo hex _ h
        · rename_i h3; rw [if_neg h3]; exact op_okv hgo hex _ h
omit hgo hex
theorem expr_okv (L : List TokV) : ∀ d, OkV L (exprF L d)
  | 0 => fun s h => by
    unfold exprF at h ⊢
    split at h
    · rename_i hc; exact absurd h hc
    · exact absurd h (fault_bad (by decide))
  | d + 1 => fun s h => by
    unfold exprF at h ⊢
    exact step_okv (expr_goes L d) (expr_okv L d) s h
theorem mod_okv (L : List TokV) : ∀ (n : Nat) (m : TM) (s : PS), (modF L n m s).2.e = 0 → wfB L m.binds →
    wfB L (modF L n m s).1.binds ∧ wvB (modF L n m s).1.binds + s.at_ ≤ wvB m.binds + (modF L n m s).2.at_
  | 0, m, s, h, ha => ⟨ha, Nat.le_refl _⟩
  | n + 1, m, s, h, ha => by
    unfold modF at h ⊢
    split at h
    · rename_i hc
      rw [if_pos hc]
      split at h
      · rename_i hd
        rw [if_pos hd]
        have ih := mod_okv L n _ _ h ha
        have g := ((Goes.step hc.2).trans (data_goes_ L (fuelP L) [] _)).trans (need_goes [59] _)
        have := g.up
        simp only at ih ⊢
        exact ⟨ih.1, by omega⟩
      · rename_i hd
        rw [if_neg hd]
        have ht := need_ok (goes_ok (mod_goes L n _ _) h)
        have hb := bind_okv (expr_goes L 200) (expr_okv L 200) _ ht.1
        have ih := mod_okv L n _ _ h ((wfB_app _ _).2 ⟨ha, hb.1⟩)
        rw [wvB_app] at ih
        simp only at ih ⊢
        exact ⟨ih.1, by omega⟩
    · rename_i hc
      rw [if_neg hc]
      exact ⟨ha, Nat.le_refl _⟩
/-- What Parse tells is well formed; its weight is at most the tokens'. -/
theorem tokens_okv (L : List TokV) : wfB L (tokensF L).1.binds ∧ wvB (tokensF L).1.binds ≤ L.length := by
  unfold tokensF
  simp only
  split
  · exact ⟨trivial, Nat.zero_le _⟩
  · rename_i h
    have h0 := mod_okv L (fuelP L) ⟨[], []⟩ ⟨0, 0, 0⟩ (by simpa using h) trivial
    have h1 := (mod_goes L (fuelP L) ⟨[], []⟩ ⟨0, 0, 0⟩).le (Nat.zero_le _)
    simp only [wvB] at h0
    exact ⟨h0.1, by show wvB (modF L (fuelP L) ⟨[], []⟩ ⟨0, 0, 0⟩).1.binds ≤ _; omega⟩
theorem parse_okv (s : List UInt8) : wfB (lexF s).toks (parseF s).1.binds ∧ wvB (parseF s).1.binds ≤ (lexF s).toks.length := by
  unfold parseF
  split
  · exact ⟨trivial, Nat.zero_le _⟩
  · exact tokens_okv _
end
end Go.Proofs.YtpjlibbdngnnnaaDoor

namespace Go.Proofs.YtpjlibbdngnnnaaDoor
set_option linter.unusedSimpArgs false
set_option linter.unusedVariables false

section
variable {L : List TokV}
theorem isT_len (hL : ∀ t ∈ L, t.text.length ≤ 5000) {k : Int} {n : List UInt8} (h : isT L k n) : n.length ≤ 5000 := by
  obtain ⟨t, ht, _, rfl⟩ := h
  exact hL t ht
theorem lenS_le (hL : ∀ t ∈ L, t.text.length ≤ 5000) {k : Int} : ∀ {ps : List (List UInt8)}, (∀ x ∈ ps, isT L k x) → lenS ps ≤ 5002 * ps.length
  | [], _ => Nat.le_refl _
  | x :: l, h => by
    have h1 := isT_len hL (h x (by simp))
    have h2 := lenS_le hL (ps := l) (fun y hy => h y (by simp [hy]))
    rw [lenS_cons, List.length_cons]
    omega
theorem z_gen {a b c d n C K : Nat} (h1 : a + 8 + C ≤ K * c) (h2 : b + C * n ≤ K * d) : a + 8 + b + C * (n + 1) ≤ K * (c + d) := by
  rw [Nat.mul_add, Nat.mul_add, Nat.mul_one]
  omega
mutual
theorem zE_le (hL : ∀ t ∈ L, t.text.length ≤ 5000) : ∀ e : TE, wfE L e → zE e + 5080 ≤ 10160 * wvE e
  | .mk k n fl bi ps ks bs al, h => by
    unfold wfE at h
    obtain ⟨hs, hk, hb, ha⟩ := h
    have ik := zK_le hL ks hk
    have ib := zB_le hL bs hb
    have ia := zA_le hL al ha
    unfold zE wvE
    unfold shE at hs
    have l0 : lenS ([] : List (List UInt8)) = 0 := rfl
    rcases hs with ⟨rfl, q, _, _, rfl, rfl, rfl, rfl⟩ | ⟨rfl, q, _, _, rfl, rfl, rfl⟩ | ⟨rfl, rfl, _, rfl, rfl, rfl, rfl⟩ | ⟨rfl, rfl, _, _, hl, rfl, rfl, rfl⟩ | ⟨rfl, q, _, _, rfl, rfl, rfl⟩ | ⟨rfl, rfl, _, _, _, _, rfl, rfl⟩ | ⟨rfl, rfl, _, _, _, rfl, rfl⟩ | ⟨rfl, rfl, _, _, _, _, q, rfl, rfl⟩
    · have := isT_len hL q
      simp only [zK, zB, zA, wvK, wvB, wvA, l0, List.length_nil, show ¬ (1 : Nat) = 4 by decide, if_false] at *
      omega
    · have := isT_len hL q
      simp only [zB, zA, wvB, wvA, l0, List.length_nil, show ¬ (2 : Nat) = 4 by decide, if_false] at *
      omega
    · simp only [zK, zB, zA, wvK, wvB, wvA, l0, List.length_nil, show ¬ (3 : Nat) = 4 by decide, if_false] at *
      omega
    · simp only [zB, zA, wvB, wvA, l0, List.length_nil, if_true] at *
      omega
    · have : n.length ≤ 5000 := by
        rcases q with q | q
        · exact isT_len hL q
        · exact isT_len hL q.1
      simp only [zB, zA, wvB, wvA, l0, List.length_nil, show ¬ (5 : Nat) = 4 by decide, if_false] at *
      omega
    · simp only [zA, wvA, l0, List.length_nil, show ¬ (6 : Nat) = 4 by decide, if_false] at *
      omega
    · simp only [zB, wvB, l0, List.length_nil, show ¬ (7 : Nat) = 4 by decide, if_false] at *
      omega
    · have := lenS_le hL q
      simp only [zB, zA, wvB, wvA, List.length_nil, show ¬ (8 : Nat) = 4 by decide, if_false] at *
      omega
theorem zK_le (hL : ∀ t ∈ L, t.text.length ≤ 5000) : ∀ l : List TE, wfK L l → zK l + 5072 * l.length ≤ 10160 * wvK l
  | [], _ => by unfold zK wvK; simp
  | e :: l, h => by
    unfold wfK at h
    have h1 := zE_le hL e h.1
    have h2 := zK_le hL l h.2
    exact z_gen (C := 5072) (K := 10160) (by rw [Nat.add_assoc]; exact h1) h2
theorem zB_le (hL : ∀ t ∈ L, t.text.length ≤ 5000) : ∀ l : List TB, wfB L l → zB l ≤ 10160 * wvB l
  | [], _ => by unfold zB wvB; simp
  | .mk n ps e :: l, h => by
    unfold wfB at h
    have h1 := zE_le hL e h.1.2.2
    have h2 := zB_le hL l h.2
    have h3 := isT_len hL h.1.1
    have h4 := lenS_le hL h.1.2.1
    unfold zB wvB
    omega
theorem zA_le (hL : ∀ t ∈ L, t.text.length ≤ 5000) : ∀ l : List TA, wfA L l → zA l ≤ 10160 * wvA l
  | [], _ => by unfold zA wvA; simp
  | .mk k n fl bi ns e :: l, h => by
    unfold wfA at h
    have h1 := zE_le hL e h.1.2
    have h2 := zA_le hL l h.2
    have h3 : n.length + lenS ns ≤ 5000 + 5002 * ns.length := by
      rcases h.1.1 with q | q | q
      · have := isT_len hL q.2.1
        have := lenS_le hL q.2.2.2.2
        omega
      · rw [q.2.1, q.2.2.2]
        simp [lenS_nil]
      · have := isT_len hL q.2.1
        rw [q.2.2.2.2, lenS_nil]
        simp
        omega
    unfold zA wvA
    omega
end
end
-- what a token is
theorem refV_shape (s : List UInt8) : ∃ (f : Bool) (b : Nat) (e : Int), refV s = .tuple #[.agg #[.bool f, .int .u64 (b : Int)], .int .i64 e] ∧ b < 18446744073709551616 := by
  have h0 : ∀ (m : Bool) (d t : List UInt8), ∃ (f : Bool) (b : Nat) (e : Int), parseV m d t = .tuple #[.agg #[.bool f, .int .u64 (b : Int)], .int .i64 e] ∧ b < 18446744073709551616 := fun m d t => by
    unfold parseV resV
    split
    · split
      · exact ⟨false, 0, _, rfl, by decide⟩
      · split
        · exact ⟨false, _, _, rfl, Nat.mod_lt _ (by decide)⟩
        · split
          · exact ⟨false, 0, _, rfl, by decide⟩
          · exact ⟨false, _, _, rfl, by omega⟩
    · exact ⟨false, 0, _, rfl, by decide⟩
  unfold refV
  split
  · unfold bitsV
    split
    · rename_i h
      refine ⟨true, _, _, rfl, ?_⟩
      unfold hexB at h
      simp only [Bool.and_eq_true, List.all_eq_true, decide_eq_true_eq, beq_iff_eq] at h
      have hd : ∀ c ∈ s.drop 2, dgt c < 16 := fun c hc => by
        have := h.1 c hc
        omega
      have := numB_lt 16 (s.drop 2) hd
      rw [h.2] at this
      exact this
    · exact ⟨false, 0, _, rfl, by decide⟩
  · split
    · exact h0 _ _ _
    · exact h0 _ _ _
theorem numOf_bits (s : List UInt8) : (numOf s).2.1 < 18446744073709551616 := by
  obtain ⟨f, b, e, h, hb⟩ := refV_shape s
  rw [numOf_of h]
  exact hb
theorem step_mem (l best c : List UInt8) : stepL l best c = c ∨ stepL l best c = best := by
  unfold stepL
  split
  · exact .inl rfl
  · exact .inr rfl
theorem fold_mem (l : List UInt8) : ∀ (cs : List (List UInt8)) (b : List UInt8), cs.foldl (stepL l) b = b ∨ cs.foldl (stepL l) b ∈ cs
  | [], _ => .inl rfl
  | c :: cs, b => by
    rw [List.foldl_cons]
    rcases fold_mem l cs (stepL l b c) with h | h
    · rcases step_mem l b c with q | q
      · exact .inr (by rw [h, q]; simp)
      · exact .inl (by rw [h, q])
    · exact .inr (by simp [h])
/-- What each token is. -/
def tokS (t : TokV) : Prop := t.bits < 18446744073709551616 ∧ (t.kind = 7 → t.text ≠ [] ∧ lowF t.text = true) ∧ (t.kind = 4 → t.text ≠ [])
theorem one_tokS (l : List UInt8) (ln : Nat) (h : (oneF l ln).2 = 0) : tokS (oneF l ln).1 := by
  have hne : (oneF l ln).1.text ≠ [] := fun z => by
    have := (oneF_pre l ln h).2.1
    rw [z] at this
    simp at this
  have hb : ∀ x ∈ backsL, lowF x = true := by decide
  have h3 : ∀ t : List UInt8, tokS (numberF t ln).1 := fun t => ⟨numOf_bits _, fun q => absurd (show (3 : Int) = 7 from q) (by decide), fun q => absurd (show (3 : Int) = 4 from q) (by decide)⟩
  have h0 : tokS (none_ ln) := ⟨by show 0 < 18446744073709551616; decide, fun q => absurd (show (0 : Int) = 7 from q) (by decide), fun q => absurd (show (0 : Int) = 4 from q) (by decide)⟩
  refine ⟨?_, fun q => ⟨hne, ?_⟩, fun _ => hne⟩
  · unfold oneF
    split
    · exact h0.1
    · split
      · show 0 < 18446744073709551616; decide
      · split
        · exact (h3 _).1
        · split
          · split
            · split
              · exact h0.1
              · exact (h3 _).1
            · split
              · exact h0.1
              · exact (h3 _).1
          · split
            · show 0 < 18446744073709551616; decide
            · split
              · exact h0.1
              · show 0 < 18446744073709551616; decide
  · unfold oneF at q ⊢
    split at q
    · exact absurd (show (0 : Int) = 7 from q) (by decide)
    · split at q
      · rename_i hc
        simp only [if_pos hc]
        refine hb _ ?_
        simp only [kindF] at q
        split at q
        · exact absurd q (by decide)
        · split at q
          · rename_i hm; exact hm
          · split at q
            · exact absurd q (by decide)
            · exact absurd q (by decide)
      · split at q
        · exact absurd (show (3 : Int) = 7 from q) (by decide)
        · split at q
          · split at q
            · split at q
              · exact absurd (show (0 : Int) = 7 from q) (by decide)
              · exact absurd (show (3 : Int) = 7 from q) (by decide)
            · split at q
              · exact absurd (show (0 : Int) = 7 from q) (by decide)
              · exact absurd (show (3 : Int) = 7 from q) (by decide)
          · split at q
            · exact absurd (show (6 : Int) = 7 from q) (by decide)
            · split at q
              · exact absurd (show (0 : Int) = 7 from q) (by decide)
              · exact absurd (show (4 : Int) = 7 from q) (by decide)
theorem lexG_all {P : TokV → Prop} (hP : ∀ l ln, (oneF l ln).2 = 0 → P (oneF l ln).1) (f : Nat) (acc : List TokV) (l : List UInt8) (ln : Nat) (ha : ∀ t ∈ acc, P t) : ∀ t ∈ (lexG f acc l ln).toks, P t := by
  induction f generalizing acc l ln with
  | zero => exact ha
  | succ f ih =>
    by_cases hl : l = []
    · subst hl; rw [lexG_end]; exact ha
    · by_cases he : (oneF l ln).2 = 0
      · by_cases hf : acc.length = 4096
        · rw [lexG_full hl he hf]
          exact fun t ht => by simp at ht
        · rw [lexG_more hl he hf]
          refine ih _ _ _ (fun t ht => ?_)
          rcases List.mem_append.1 ht with q | q
          · exact ha t q
          · obtain rfl : t = (oneF l ln).1 := by simpa using q
            exact hP l ln he
      · rw [lexG_bad hl he]
        exact fun t ht => by simp at ht
theorem lexF_tokS (s : List UInt8) : ∀ t ∈ (lexF s).toks, tokS t := by
  unfold lexF
  exact lexG_all one_tokS _ [] _ _ (fun t ht => by simp at ht)
mutual
/-- What can be shown. -/
def svE : TE → Prop
  | .mk k n fl bi ps ks bs al => (bi < 18446744073709551616 ∧ 1 ≤ k ∧ k ≤ 8 ∧ (k = 4 → 1 ≤ ks.length) ∧ (k = 5 → n ≠ [] ∧ (lowF n = true ∨ ks.length = 2)) ∧ (k = 6 ∨ k = 7 ∨ k = 8 → ks.length = 1) ∧ (k = 8 → ps ≠ [])) ∧ svK ks ∧ svB bs ∧ svA al
def svK : List TE → Prop
  | [] => True
  | e :: l => svE e ∧ svK l
def svB : List TB → Prop
  | [] => True
  | .mk n ps e :: l => svE e ∧ svB l
def svA : List TA → Prop
  | [] => True
  | .mk k n fl bi ns e :: l => (bi < 18446744073709551616 ∧ svE e) ∧ svA l
end
section
variable {L : List TokV}
theorem isN_bits (hL : ∀ t ∈ L, tokS t) {f : Bool} {b : Nat} (h : isN L f b) : b < 18446744073709551616 := by
  obtain ⟨t, ht, _, _, rfl⟩ := h
  exact (hL t ht).1
mutual
theorem wf_sv (hL : ∀ t ∈ L, tokS t) : ∀ e : TE, wfE L e → svE e
  | .mk k n fl bi ps ks bs al, h => by
    unfold wfE at h
    obtain ⟨hs, hk, hb, ha⟩ := h
    have ik := wf_svK hL ks hk
    have ib := wf_svB hL bs hb
    have ia := wf_svA hL al ha
    unfold svE
    unfold shE at hs
    rcases hs with ⟨rfl, q, _, rfl, rfl, rfl, rfl, rfl⟩ | ⟨rfl, q, _, rfl, rfl, rfl, rfl⟩ | ⟨rfl, rfl, q, rfl, rfl, rfl, rfl⟩ | ⟨rfl, rfl, _, rfl, hl, rfl, rfl, rfl⟩ | ⟨rfl, q, _, rfl, rfl, rfl, rfl⟩ | ⟨rfl, rfl, _, rfl, hl, _, rfl, rfl⟩ | ⟨rfl, rfl, _, rfl, hl, rfl, rfl⟩ | ⟨rfl, rfl, _, rfl, hl, hp, q, rfl, rfl⟩
    · exact ⟨⟨by decide, by decide, by decide, fun z => by omega, fun z => by omega, fun z => by omega, fun z => by omega⟩, ik, ib, ia⟩
    · exact ⟨⟨by decide, by decide, by decide, fun z => by omega, fun z => by omega, fun z => by omega, fun z => by omega⟩, ik, ib, ia⟩
    · exact ⟨⟨isN_bits hL q, by decide, by decide, fun z => by omega, fun z => by omega, fun z => by omega, fun z => by omega⟩, ik, ib, ia⟩
    · exact ⟨⟨by decide, by decide, by decide, fun z => by omega, fun z => by omega, fun z => by omega, fun z => by omega⟩, ik, ib, ia⟩
    · refine ⟨⟨by decide, by decide, by decide, fun z => by omega, fun _ => ?_, fun z => by omega, fun z => by omega⟩, ik, ib, ia⟩
      rcases q with q | q
      · obtain ⟨t, ht, hk, rfl⟩ := q
        exact ⟨((hL t ht).2.1 hk).1, .inl ((hL t ht).2.1 hk).2⟩
      · obtain ⟨⟨t, ht, hk, rfl⟩, q2⟩ := q
        exact ⟨(hL t ht).2.2 hk, .inr q2⟩
    · exact ⟨⟨by decide, by decide, by decide, fun z => by omega, fun z => by omega, fun _ => hl, fun z => by omega⟩, ik, ib, ia⟩
    · exact ⟨⟨by decide, by decide, by decide, fun z => by omega, fun z => by omega, fun _ => hl, fun z => by omega⟩, ik, ib, ia⟩
    · exact ⟨⟨by decide, by decide, by decide, fun z => by omega, fun z => by omega, fun _ => hl, fun _ => hp⟩, ik, ib, ia⟩
theorem wf_svK (hL : ∀ t ∈ L, tokS t) : ∀ l : List TE, wfK L l → svK l
  | [], _ => trivial
  | e :: l, h => by
    unfold wfK at h
    exact ⟨wf_sv hL e h.1, wf_svK hL l h.2⟩
theorem wf_svB (hL : ∀ t ∈ L, tokS t) : ∀ l : List TB, wfB L l → svB l
  | [], _ => trivial
  | .mk n ps e :: l, h => by
    unfold wfB at h
    exact ⟨wf_sv hL e h.1.2.2, wf_svB hL l h.2⟩
theorem wf_svA (hL : ∀ t ∈ L, tokS t) : ∀ l : List TA, wfA L l → svA l
  | [], _ => trivial
  | .mk k n fl bi ns e :: l, h => by
    unfold wfA at h
    refine ⟨⟨?_, wf_sv hL e h.1.2⟩, wf_svA hL l h.2⟩
    rcases h.1.1 with q | q | q
    · rw [q.2.2.2.1]; decide
    · exact isN_bits hL q.2.2.1
    · rw [q.2.2.2.1]; decide
end
end
theorem svK_mem : ∀ {ks : List TE} {e : TE}, svK ks → e ∈ ks → svE e
  | [], _, _, h => by simp at h
  | x :: l, e, h, hm => by
    rcases List.mem_cons.1 hm with q | q
    · exact q ▸ h.1
    · exact svK_mem h.2 q
theorem svB_mem : ∀ {bs : List TB} {b : TB}, svB bs → b ∈ bs → svE b.body
  | [], _, _, h => by simp at h
  | .mk n p e :: l, b, h, hm => by
    rcases List.mem_cons.1 hm with q | q
    · rw [q]; exact h.1
    · exact svB_mem h.2 q
theorem svA_mem : ∀ {al : List TA} {a : TA}, svA al → a ∈ al → a.bits < 18446744073709551616 ∧ svE a.body
  | [], _, _, h => by simp at h
  | .mk k n fl bi ns e :: l, a, h, hm => by
    rcases List.mem_cons.1 hm with q | q
    · rw [q]; exact h.1
    · exact svA_mem h.2 q
theorem zK_mem : ∀ {ks : List TE} {e : TE}, e ∈ ks → zE e + 8 ≤ zK ks
  | [], _, h => by simp at h
  | x :: l, e, hm => by
    unfold zK
    rcases List.mem_cons.1 hm with q | q
    · rw [q]; omega
    · have := zK_mem q; omega
theorem zB_mem : ∀ {bs : List TB} {b : TB}, b ∈ bs → zE b.body + 32 + b.name.length + lenS b.params ≤ zB bs
  | [], _, h => by simp at h
  | .mk n p e :: l, b, hm => by
    unfold zB
    rcases List.mem_cons.1 hm with q | q
    · rw [q]; simp only [TB.body, TB.name, TB.params]; omega
    · have := zB_mem q; omega
theorem zA_mem : ∀ {al : List TA} {a : TA}, a ∈ al → zE a.body + 64 + a.name.length + lenS a.names ≤ zA al
  | [], _, h => by simp at h
  | .mk k n fl bi ns e :: l, a, hm => by
    unfold zA
    rcases List.mem_cons.1 hm with q | q
    · rw [q]; simp only [TA.body, TA.name, TA.names]; omega
    · have := zA_mem q; omega
/-- A source's module can be shown; its text is not long. -/
theorem src_show (s : List UInt8) (hs : s.length ≤ 5000) : svB (parseF s).1.binds ∧ zB (parseF s).1.binds ≤ 41615360 := by
  have h1 := parse_okv s
  have h2 := lexF_texts s
  refine ⟨wf_svB (lexF_tokS s) _ h1.1, ?_⟩
  have h3 := zB_le (L := (lexF s).toks) (fun t ht => Nat.le_trans (h2 t ht) hs) _ h1.1
  have h4 := lexF_size8 s
  omega
end Go.Proofs.YtpjlibbdngnnnaaDoor
