/-
  What lexF tells of two sources that differ by lines ahead. Plain laws: no program. No conditions.
-/
import Derived.Test.YtomcmelgioamlaaDoorRef07j
namespace Go.Proofs.YtomcmelgioamlaaDoor

def shiftT (n : Nat) (t : TokV) : TokV := { t with line := t.line + n }
theorem shift_zero (t : TokV) : shiftT 0 t = t := rfl
theorem number_shift (s : List UInt8) (ln n : Nat) : numberF s (ln + n) = (shiftT n (numberF s ln).1, (numberF s ln).2) := rfl
theorem none_shift (ln n : Nat) : none_ (ln + n) = shiftT n (none_ ln) := rfl
theorem one_shift (l : List UInt8) (ln n : Nat) : oneF l (ln + n) = (shiftT n (oneF l ln).1, (oneF l ln).2) := by
  cases l with
  | nil => rfl
  | cons c r =>
    unfold oneF
    simp only
    split
    · rfl
    · split
      · rfl
      · split
        · split
          · split
            · rfl
            · rfl
          · split
            · rfl
            · rfl
        · split
          · rfl
          · split
            · rfl
            · rfl
theorem skip_shift (b : Bool) (l : List UInt8) (ln n : Nat) : skipF b l (ln + n) = ((skipF b l ln).1, (skipF b l ln).2 + n) := by
  induction l generalizing b ln with
  | nil => cases b <;> rfl
  | cons c r ih =>
    cases b
    · unfold skipF
      split
      · exact ih true ln
      · split
        · rw [show ln + n + 1 = ln + 1 + n by omega]; exact ih false (ln + 1)
        · split
          · exact ih false ln
          · rfl
    · unfold skipF
      split
      · rw [show ln + n + 1 = ln + 1 + n by omega]; exact ih false (ln + 1)
      · exact ih true ln
def shiftV (n : Nat) (v : LexV) : LexV := ⟨v.toks.map (shiftT n), v.err, if v.err = 0 then 0 else v.line + n⟩
theorem shiftV_line0 (n : Nat) (l : List TokV) : shiftV n ⟨l, 0, 0⟩ = ⟨l.map (shiftT n), 0, 0⟩ := rfl
theorem lexG_shift (f : Nat) (acc : List TokV) (l : List UInt8) (ln n : Nat) : lexG f (acc.map (shiftT n)) l (ln + n) = shiftV n (lexG f acc l ln) := by
  induction f generalizing acc l ln with
  | zero => rfl
  | succ f ih =>
    by_cases hl : l = []
    · subst hl; rw [lexG_end, lexG_end]; rfl
    · have hs := one_shift l ln n
      by_cases he : (oneF l ln).2 = 0
      · have he' : (oneF l (ln + n)).2 = 0 := by rw [hs]; exact he
        by_cases hf : acc.length = 4096
        · rw [lexG_full hl he' (by simpa using hf), lexG_full hl he hf]; rfl
        · rw [lexG_more hl he' (by simpa using hf), lexG_more hl he hf, hs]
          simp only
          have ht : (shiftT n (oneF l ln).1).text = (oneF l ln).1.text := rfl
          rw [ht, skip_shift]
          simp only
          rw [← ih]
          simp
      · have he' : (oneF l (ln + n)).2 ≠ 0 := by rw [hs]; exact he
        rw [lexG_bad hl he', lexG_bad hl he, hs]
        simp [shiftV, he]
/-- Fuel beyond what is left to read changes nothing. -/
theorem lexG_fuel (f : Nat) (acc : List TokV) (l : List UInt8) (ln : Nat) (h : l.length < f) (k : Nat) : lexG (f + k) acc l ln = lexG f acc l ln := by
  induction f generalizing acc l ln with
  | zero => omega
  | succ f ih =>
    rw [show f + 1 + k = f + k + 1 by omega]
    by_cases hl : l = []
    · subst hl; rw [lexG_end, lexG_end]
    · by_cases he : (oneF l ln).2 = 0
      · by_cases hf : acc.length = 4096
        · rw [lexG_full hl he hf, lexG_full hl he hf]
        · rw [lexG_more hl he hf, lexG_more hl he hf]
          refine ih _ _ _ ?_
          have h1 := skipF_len false (l.drop (oneF l ln).1.text.length) ln
          have h2 := (oneF_pre l ln he).2.1
          have h3 : 0 < l.length := List.length_pos_iff.2 hl
          rw [List.length_drop] at h1
          omega
      · rw [lexG_bad hl he, lexG_bad hl he]
theorem skip_ahead (n : Nat) (s : List UInt8) (ln : Nat) : skipF false (List.replicate n 10 ++ s) ln = skipF false s (ln + n) := by
  induction n generalizing ln with
  | zero => rfl
  | succ n ih =>
    rw [List.replicate_succ, List.cons_append]
    conv => lhs; unfold skipF
    rw [if_neg (fun q => absurd q.1 (by decide)), if_pos rfl, ih, show ln + 1 + n = ln + (n + 1) by omega]
/-- So many ends of lines ahead. -/
theorem lexF_ahead (n : Nat) (s : List UInt8) : lexF (List.replicate n 10 ++ s) = shiftV n (lexF s) := by
  unfold lexF
  rw [skip_ahead, skip_shift]
  simp only
  have h := lexG_shift (s.length + 1) [] (skipF false s 1).1 (skipF false s 1).2 n
  rw [List.map_nil] at h
  rw [← h]
  have e : (List.replicate n 10 ++ s).length + 1 = s.length + 1 + n := by simp; omega
  rw [e]
  have := skipF_len false s 1
  exact lexG_fuel _ _ _ _ (by omega) n
theorem lexG_lines (B : Nat) (f : Nat) (acc : List TokV) (l : List UInt8) (ln : Nat) (hB : ln + l.length ≤ B) (ha : ∀ t ∈ acc, t.line ≤ B) : (∀ t ∈ (lexG f acc l ln).toks, t.line ≤ B) ∧ (lexG f acc l ln).line ≤ B := by
  induction f generalizing acc l ln with
  | zero => exact ⟨ha, Nat.zero_le _⟩
  | succ f ih =>
    by_cases hl : l = []
    · subst hl; rw [lexG_end]; exact ⟨ha, Nat.zero_le _⟩
    · by_cases he : (oneF l ln).2 = 0
      · by_cases hf : acc.length = 4096
        · rw [lexG_full hl he hf]
          exact ⟨fun t ht => by simp at ht, by show ln ≤ B; omega⟩
        · rw [lexG_more hl he hf]
          have h1 := (skipF_line false (l.drop (oneF l ln).1.text.length) ln).2
          rw [List.length_drop] at h1
          have h2 := (oneF_pre l ln he).2
          refine ih _ _ _ (by omega) (fun t ht => ?_)
          rcases List.mem_append.1 ht with q | q
          · exact ha t q
          · obtain rfl : t = (oneF l ln).1 := by simpa using q
            rw [h2.2]; omega
      · rw [lexG_bad hl he]
        exact ⟨fun t ht => by simp at ht, by show ln ≤ B; omega⟩
theorem lexF_lines (s : List UInt8) : (∀ t ∈ (lexF s).toks, t.line ≤ 1 + s.length) ∧ (lexF s).line ≤ 1 + s.length := by
  have h := (skipF_line false s 1).2
  unfold lexF
  exact lexG_lines (1 + s.length) _ [] _ _ h (fun t ht => by simp at ht)
end Go.Proofs.YtomcmelgioamlaaDoor
