/-
  The signs, longer ones first, against the longest of two lists: plain lists. No conditions.
-/
import Derived.Test.YtomcmelgioamlaaDoorLexF
namespace Go.Proofs.YtomcmelgioamlaaDoor
set_option linter.unusedSimpArgs false
set_option linter.unusedVariables false
open Go.RowKit

def signsL : List (List UInt8) := [[61, 61, 46], [45, 62], [61, 61], [43, 46], [45, 46], [42, 46], [47, 46], [60, 46], [43], [45], [42], [47], [37], [60], [40], [41], [123], [125], [59], [61], [92]]
theorem long_max (l : List UInt8) (cs : List (List UInt8)) : ∀ b, b.length ≤ (cs.foldl (stepL l) b).length ∧ ∀ c ∈ cs, c <+: l → c.length ≤ (cs.foldl (stepL l) b).length := by
  induction cs with
  | nil => intro b; exact ⟨Nat.le_refl _, by simp⟩
  | cons x cs ih =>
    intro b
    have h1 := ih (stepL l b x)
    have hb : b.length ≤ (stepL l b x).length := by
      unfold stepL
      split
      · rename_i h; simp at h; omega
      · exact Nat.le_refl _
    refine ⟨Nat.le_trans hb h1.1, fun c hc hp => ?_⟩
    rcases List.mem_cons.1 hc with rfl | hc
    · refine Nat.le_trans ?_ h1.1
      unfold stepL
      split
      · exact Nat.le_refl _
      · rename_i h
        simp only [Bool.and_eq_true, decide_eq_true_eq, not_and] at h
        have := h (List.isPrefixOf_iff_prefix.2 hp)
        omega
    · exact h1.2 c hc hp
theorem long_mem (l : List UInt8) (cs : List (List UInt8)) : ∀ b, cs.foldl (stepL l) b = b ∨ cs.foldl (stepL l) b ∈ cs := by
  induction cs with
  | nil => intro b; exact .inl rfl
  | cons x cs ih =>
    intro b
    rcases ih (stepL l b x) with h | h
    · unfold stepL at h
      simp only [List.foldl_cons]
      by_cases g : (x.isPrefixOf l && decide (b.length < x.length)) = true
      · rw [if_pos g] at h
        exact .inr (by unfold stepL; rw [if_pos g, h]; simp)
      · rw [if_neg g] at h
        exact .inl (by unfold stepL; rw [if_neg g, h])
    · exact .inr (List.mem_cons_of_mem _ h)
theorem pre_same {l a b : List UInt8} (ha : a <+: l) (hb : b <+: l) (h : a.length = b.length) : a = b := by
  rw [List.prefix_iff_eq_take] at ha hb
  rw [ha, hb, h]
def signF (l : List UInt8) (line : Nat) : TokV × Int :=
  if (longF l opsL).length < (longF l punctsL).length then (⟨6, longF l punctsL, false, 0, line⟩, 0)
  else if longF l opsL = [] then (none_ line, 3)
  else (⟨4, longF l opsL, false, 0, line⟩, 0)
theorem sorted_signs : List.Pairwise (fun a b : List UInt8 => b.length ≤ a.length) signsL := by decide
theorem sign_none {l : List UInt8} (line : Nat) (h : ∀ c ∈ signsL, c.isPrefixOf l = false) : signF l line = (none_ line, 3) := by
  have key : ∀ cs : List (List UInt8), (∀ c ∈ cs, c ∈ signsL) → longF l cs = [] := by
    intro cs hcs
    rcases long_mem l cs [] with g | g
    · exact g
    · have hp : longF l cs <+: l := longF_pre l cs
      have := h _ (hcs _ g)
      rw [show (cs.foldl (stepL l) []) = longF l cs from rfl, List.isPrefixOf_iff_prefix.2 hp] at this
      cases this
  unfold signF
  rw [key opsL (by decide), key punctsL (by decide)]
  rfl
theorem sign_some {l : List UInt8} (line k : Nat) (hk : k < signsL.length) (hp : signsL[k].isPrefixOf l = true) (hn : ∀ j, (h : j < signsL.length) → j < k → signsL[j].isPrefixOf l = false) :
    signF l line = (⟨if signsL[k] ∈ punctsL then 6 else 4, signsL[k], false, 0, line⟩, 0) := by
  have hmax : ∀ c ∈ signsL, c <+: l → c.length ≤ signsL[k].length := by
    intro c hc hcp
    obtain ⟨j, hj, rfl⟩ := List.mem_iff_getElem.1 hc
    rcases Nat.lt_trichotomy j k with g | g | g
    · have := hn j hj g
      rw [List.isPrefixOf_iff_prefix.2 hcp] at this
      cases this
    · subst g; exact Nat.le_refl _
    · exact List.pairwise_iff_getElem.1 sorted_signs k j hk hj g
  have hpos : ∀ c ∈ signsL, 0 < c.length := by decide
  have hdis : ∀ c ∈ signsL, (c ∈ punctsL ∧ c ∉ opsL) ∨ (c ∉ punctsL ∧ c ∈ opsL) := by decide
  have hin1 : ∀ c ∈ opsL, c ∈ signsL := by decide
  have hin2 : ∀ c ∈ punctsL, c ∈ signsL := by decide
  have hmem : signsL[k] ∈ signsL := List.getElem_mem hk
  have hpre : signsL[k] <+: l := List.isPrefixOf_iff_prefix.1 hp
  have hlo := fun (cs : List (List UInt8)) (h : ∀ c ∈ cs, c ∈ signsL) => (show (longF l cs).length ≤ signsL[k].length from by
    rcases long_mem l cs [] with g | g
    · rw [show longF l cs = [] from g]; simp
    · exact hmax _ (h _ g) (longF_pre l cs))
  have hpos1 := hpos _ hmem
  unfold signF
  rcases hdis _ hmem with ⟨d1, d2⟩ | ⟨d1, d2⟩
  · have hpl : signsL[k].length ≤ (longF l punctsL).length := (long_max l punctsL []).2 _ d1 hpre
    have hpe : longF l punctsL = signsL[k] := pre_same (longF_pre _ _) hpre (Nat.le_antisymm (hlo punctsL hin2) hpl)
    have hol : (longF l opsL).length < (longF l punctsL).length := by
      rw [hpe]
      have h1 := hlo opsL hin1
      rcases Nat.lt_or_ge (longF l opsL).length signsL[k].length with g | g
      · exact g
      · have e : longF l opsL = signsL[k] := pre_same (longF_pre _ _) hpre (Nat.le_antisymm h1 g)
        rcases long_mem l opsL [] with q | q
        · rw [show longF l opsL = [] from q] at e
          rw [← e] at hpos1
          simp at hpos1
        · rw [show (opsL.foldl (stepL l) []) = longF l opsL from rfl, e] at q
          exact absurd q d2
    rw [if_pos hol, hpe, if_pos d1]
  · have hol : signsL[k].length ≤ (longF l opsL).length := (long_max l opsL []).2 _ d2 hpre
    have hoe : longF l opsL = signsL[k] := pre_same (longF_pre _ _) hpre (Nat.le_antisymm (hlo opsL hin1) hol)
    have hne : ¬ (longF l opsL).length < (longF l punctsL).length := by
      rw [hoe]
      have := hlo punctsL hin2
      omega
    rw [if_neg hne, hoe, if_neg (fun e => by rw [e] at hpos1; simp at hpos1), if_neg d1]
theorem one_signF {c : UInt8} {r : List UInt8} {line : Nat} (h1 : smallC c = false) (h2 : capC c = false) (h3 : digC c = false) (h4 : c ≠ 35) : oneF (c :: r) line = signF (c :: r) line := by
  unfold oneF signF
  simp only
  rw [if_neg (by simp [h1, h2]), if_neg (by simp [h3]), if_neg h4]
end Go.Proofs.YtomcmelgioamlaaDoor
