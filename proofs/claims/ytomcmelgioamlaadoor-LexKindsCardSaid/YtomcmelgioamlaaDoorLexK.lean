/-
  The kinds of lexF's tokens. Plain laws: no program. No conditions.
-/
import Derived.Test.YtomcmelgioamlaaDoorLexP
namespace Go.Proofs.YtomcmelgioamlaaDoor

/-- What a token's text says of its kind. -/
def okT (t : TokV) : Prop := ∃ c r, t.text = c :: r ∧ 1 ≤ t.line ∧
  (((smallC c || capC c) = true ∧ t.kind = kindF t.text ∧ t.flt = false ∧ t.bits = 0) ∨
   ((smallC c || capC c) = false ∧ (digC c = true ∨ c = 35) ∧ t.kind = 3) ∨
   ((smallC c || capC c) = false ∧ digC c = false ∧ c ≠ 35 ∧ (t.kind = 4 ∨ t.kind = 6) ∧ t.flt = false ∧ t.bits = 0))
theorem head_of {c d : UInt8} {r s : List UInt8} (h : d :: s <+: c :: r) : d = c := by
  obtain ⟨k, hk⟩ := h
  injection hk
theorem one_ok (l : List UInt8) (ln : Nat) (h : (oneF l ln).2 = 0) (hl : 1 ≤ ln) : okT (oneF l ln).1 := by
  obtain ⟨h1, h2, h3⟩ := oneF_pre l ln h
  cases l with
  | nil => simp [oneF] at h
  | cons c r =>
    obtain ⟨d, s, hd⟩ : ∃ d s, (oneF (c :: r) ln).1.text = d :: s := by
      cases q : (oneF (c :: r) ln).1.text with
      | nil => rw [q] at h2; simp at h2
      | cons d s => exact ⟨d, s, rfl⟩
    have hdc : d = c := by rw [hd] at h1; exact head_of h1
    subst hdc
    refine ⟨d, s, hd, by rw [h3]; exact hl, ?_⟩
    by_cases q1 : (smallC d || capC d) = true
    · left
      refine ⟨q1, ?_⟩
      unfold oneF
      simp only
      rw [if_pos q1]
      exact ⟨rfl, rfl, rfl⟩
    · right
      have q1' : (smallC d || capC d) = false := by simpa using q1
      by_cases q2 : digC d = true
      · left
        refine ⟨q1', .inl q2, ?_⟩
        unfold oneF
        simp only
        rw [if_neg q1, if_pos q2]
        rfl
      · by_cases q3 : d = 35
        · left
          refine ⟨q1', .inr q3, ?_⟩
          unfold oneF at h ⊢
          simp only at h ⊢
          rw [if_neg q1, if_neg q2, if_pos q3] at h ⊢
          split
          · rename_i q4
            rw [if_pos q4] at h
            split
            · rename_i q5; rw [if_pos q5] at h; simp at h
            · rfl
          · rename_i q4
            rw [if_neg q4] at h
            split
            · rename_i q5; rw [if_pos q5] at h; simp at h
            · rfl
        · right
          refine ⟨q1', by simpa using q2, q3, ?_⟩
          unfold oneF at h ⊢
          simp only at h ⊢
          rw [if_neg q1, if_neg q2, if_neg q3] at h ⊢
          split
          · exact ⟨.inr rfl, rfl, rfl⟩
          · rename_i q4
            rw [if_neg q4] at h
            split
            · rename_i q5; rw [if_pos q5] at h; simp at h
            · exact ⟨.inl rfl, rfl, rfl⟩
/-- All tokens are of their kinds; their lines never fall. -/
def upT (l : List TokV) : Prop := l.Pairwise (fun a b => a.line ≤ b.line)
theorem lexG_ok (f : Nat) (acc : List TokV) (l : List UInt8) (ln : Nat) (hl1 : 1 ≤ ln) (ha : ∀ t ∈ acc, okT t) (hu : upT acc) (hb : ∀ t ∈ acc, t.line ≤ ln) : (∀ t ∈ (lexG f acc l ln).toks, okT t) ∧ upT (lexG f acc l ln).toks := by
  induction f generalizing acc l ln with
  | zero => exact ⟨ha, hu⟩
  | succ f ih =>
    by_cases hl : l = []
    · subst hl; rw [lexG_end]; exact ⟨ha, hu⟩
    · by_cases he : (oneF l ln).2 = 0
      · by_cases hf : acc.length = 4096
        · rw [lexG_full hl he hf]
          exact ⟨fun t ht => by simp at ht, List.Pairwise.nil⟩
        · rw [lexG_more hl he hf]
          have h1 := (skipF_line false (l.drop (oneF l ln).1.text.length) ln).1
          have h2 := (oneF_pre l ln he).2.2
          have h3 := one_ok l ln he hl1
          refine ih _ _ _ (by omega) (fun t ht => ?_) ?_ (fun t ht => ?_)
          · rcases List.mem_append.1 ht with q | q
            · exact ha t q
            · obtain rfl : t = (oneF l ln).1 := by simpa using q
              exact h3
          · refine List.pairwise_append.2 ⟨hu, List.pairwise_singleton _ _, fun a ha' b hb' => ?_⟩
            obtain rfl : b = (oneF l ln).1 := by simpa using hb'
            rw [h2]; exact hb a ha'
          · rcases List.mem_append.1 ht with q | q
            · exact Nat.le_trans (hb t q) h1
            · obtain rfl : t = (oneF l ln).1 := by simpa using q
              rw [h2]; exact h1
      · rw [lexG_bad hl he]
        exact ⟨fun t ht => by simp at ht, List.Pairwise.nil⟩
theorem lexF_ok (s : List UInt8) : (∀ t ∈ (lexF s).toks, okT t) ∧ upT (lexF s).toks := by
  unfold lexF
  exact lexG_ok _ [] _ _ (skipF_line false s 1).1 (fun t ht => by simp at ht) List.Pairwise.nil (fun t ht => by simp at ht)
end Go.Proofs.YtomcmelgioamlaaDoor
