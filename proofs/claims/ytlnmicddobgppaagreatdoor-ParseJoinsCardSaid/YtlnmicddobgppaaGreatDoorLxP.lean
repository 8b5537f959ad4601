/-
  What lexF tells of two sources that differ by lines ahead. Plain laws: no program. No conditions.
  What lexF tells of two sources with an end of line between, and of its own tokens' texts with a blank between each two. Plain laws: no program. No conditions.
-/
import Derived.Test.YtlnmicddobgppaaGreatDoorRef07j
namespace Go.Proofs.YtlnmicddobgppaaGreatDoor

def shiftT (n : Nat) (t : TokV) : TokV := { t with line := t.line + n }
theorem shift_zero (t : TokV) : shiftT 0 t = t := rfl
theorem number_shift (s : List UInt8) (ln n : Nat) : numberF s (ln + n) = (shiftT n (numberF s ln).1, (numberF s ln).2) := rfl
theorem none_shift (ln n : Nat) : none_ (ln + n) = shiftT n (none_ ln) := rfl
theorem one_shift (l : List UInt8) (ln n : Nat) : oneF l (ln + n) = (shiftT n (oneF l ln).1, (oneF l ln).2) := by
  cases l with
  | nil => rfl
  | cons c r =>
    unfold oneF
    simp only
    split
    · rfl
    · split
      · rfl
      · split
        · split
          · split
            · rfl
            · rfl
          · split
            · rfl
            · rfl
        · split
          · rfl
          · split
            · rfl
            · rfl
theorem skip_shift (b : Bool) (l : List UInt8) (ln n : Nat) : skipF b l (ln + n) = ((skipF b l ln).1, (skipF b l ln).2 + n) := by
  induction l generalizing b ln with
  | nil => cases b <;> rfl
  | cons c r ih =>
    cases b
    · unfold skipF
      split
      · exact ih true ln
      · split
        · rw [show ln + n + 1 = ln + 1 + n by omega]; exact ih false (ln + 1)
        · split
          · exact ih false ln
          · rfl
    · unfold skipF
      split
      · rw [show ln + n + 1 = ln + 1 + n by omega]; exact ih false (ln + 1)
      · exact ih true ln
def shiftV (n : Nat) (v : LexV) : LexV := ⟨v.toks.map (shiftT n), v.err, if v.err = 0 then 0 else v.line + n⟩
theorem shiftV_line0 (n : Nat) (l : List TokV) : shiftV n ⟨l, 0, 0⟩ = ⟨l.map (shiftT n), 0, 0⟩ := rfl
theorem lexG_shift (f : Nat) (acc : List TokV) (l : List UInt8) (ln n : Nat) : lexG f (acc.map (shiftT n)) l (ln + n) = shiftV n (lexG f acc l ln) := by
  induction f generalizing acc l ln with
  | zero => rfl
  | succ f ih =>
    by_cases hl : l = []
    · subst hl; rw [lexG_end, lexG_end]; rfl
    · have hs := one_shift l ln n
      by_cases he : (oneF l ln).2 = 0
      · have he' : (oneF l (ln + n)).2 = 0 := by rw [hs]; exact he
        by_cases hf : acc.length = 4096
        · rw [lexG_full hl he' (by simpa using hf), lexG_full hl he hf]; rfl
        · rw [lexG_more hl he' (by simpa using hf), lexG_more hl he hf, hs]
          simp only
          have ht : (shiftT n (oneF l ln).1).text = (oneF l ln).1.text := rfl
          rw [ht, skip_shift]
          simp only
          rw [← ih]
          simp
      · have he' : (oneF l (ln + n)).2 ≠ 0 := by rw [hs]; exact he
        rw [lexG_bad hl he', lexG_bad hl he, hs]
        simp [shiftV, he]
/-- Fuel beyond what is left to read changes nothing. -/
theorem lexG_fuel (f : Nat) (acc : List TokV) (l : List UInt8) (ln : Nat) (h : l.length < f) (k : Nat) : lexG (f + k) acc l ln = lexG f acc l ln := by
  induction f generalizing acc l ln with
  | zero => omega
  | succ f ih =>
    rw [show f + 1 + k = f + k + 1 by omega]
    by_cases hl : l = []
    · subst hl; rw [lexG_end, lexG_end]
    · by_cases he : (oneF l ln).2 = 0
      · by_cases hf : acc.length = 4096
        · rw [lexG_full hl he hf, lexG_full hl he hf]
        · rw [lexG_more hl he hf, lexG_more hl he hf]
          refine ih _ _ _ ?_
          have h1 := skipF_len false (l.drop (oneF l ln).1.text.length) ln
          have h2 := (oneF_pre l ln he).2.1
          have h3 : 0 < l.length := List.length_pos_iff.2 hl
          rw [List.length_drop] at h1
          omega
      · rw [lexG_bad hl he, lexG_bad hl he]
theorem skip_ahead (n : Nat) (s : List UInt8) (ln : Nat) : skipF false (List.replicate n 10 ++ s) ln = skipF false s (ln + n) := by
  induction n generalizing ln with
  | zero => rfl
  | succ n ih =>
    rw [List.replicate_succ, List.cons_append]
    conv => lhs; unfold skipF
    rw [if_neg (fun q => absurd q.1 (by decide)), if_pos rfl, ih, show ln + 1 + n = ln + (n + 1) by omega]
/-- So many ends of lines ahead. -/
theorem lexF_ahead (n : Nat) (s : List UInt8) : lexF (List.replicate n 10 ++ s) = shiftV n (lexF s) := by
  unfold lexF
  rw [skip_ahead, skip_shift]
  simp only
  have h := lexG_shift (s.length + 1) [] (skipF false s 1).1 (skipF false s 1).2 n
  rw [List.map_nil] at h
  rw [← h]
  have e : (List.replicate n 10 ++ s).length + 1 = s.length + 1 + n := by simp; omega
  rw [e]
  have := skipF_len false s 1
  exact lexG_fuel _ _ _ _ (by omega) n
theorem lexG_lines (B : Nat) (f : Nat) (acc : List TokV) (l : List UInt8) (ln : Nat) (hB : ln + l.length ≤ B) (ha : ∀ t ∈ acc, t.line ≤ B) : (∀ t ∈ (lexG f acc l ln).toks, t.line ≤ B) ∧ (lexG f acc l ln).line ≤ B := by
  induction f generalizing acc l ln with
  | zero => exact ⟨ha, Nat.zero_le _⟩
  | succ f ih =>
    by_cases hl : l = []
    · subst hl; rw [lexG_end]; exact ⟨ha, Nat.zero_le _⟩
    · by_cases he : (oneF l ln).2 = 0
      · by_cases hf : acc.length = 4096
        · rw [lexG_full hl he hf]
          exact ⟨fun t ht => by simp at ht, by show ln ≤ B; omega⟩
        · rw [lexG_more hl he hf]
          have h1 := (skipF_line false (l.drop (oneF l ln).1.text.length) ln).2
          rw [List.length_drop] at h1
          have h2 := (oneF_pre l ln he).2
          refine ih _ _ _ (by omega) (fun t ht => ?_)
          rcases List.mem_append.1 ht with q | q
          · exact ha t q
          · obtain rfl : t = (oneF l ln).1 := by simpa using q
            rw [h2.2]; omega
      · rw [lexG_bad hl he]
        exact ⟨fun t ht => by simp at ht, by show ln ≤ B; omega⟩
theorem lexF_lines (s : List UInt8) : (∀ t ∈ (lexF s).toks, t.line ≤ 1 + s.length) ∧ (lexF s).line ≤ 1 + s.length := by
  have h := (skipF_line false s 1).2
  unfold lexF
  exact lexG_lines (1 + s.length) _ [] _ _ h (fun t ht => by simp at ht)
end Go.Proofs.YtlnmicddobgppaaGreatDoor

namespace Go.Proofs.YtlnmicddobgppaaGreatDoor

theorem tw_sep (p : UInt8 → Bool) (d : UInt8) (hp : p d = false) (l t : List UInt8) : (l ++ d :: t).takeWhile p = l.takeWhile p := by
  induction l with
  | nil => simp [List.takeWhile, hp]
  | cons c l ih =>
    rw [List.cons_append, List.takeWhile_cons, List.takeWhile_cons, ih]
theorem pre_sep (d : UInt8) (t : List UInt8) : ∀ (c l : List UInt8), d ∉ c → c.isPrefixOf (l ++ d :: t) = c.isPrefixOf l := by
  intro c
  induction c with
  | nil => intro l _; simp
  | cons x c ih =>
    intro l hc
    have h1 : x ≠ d := fun q => hc (by rw [q]; exact List.mem_cons_self)
    have h2 : d ∉ c := fun q => hc (List.mem_cons_of_mem _ q)
    cases l with
    | nil => simp [List.isPrefixOf, h1]
    | cons y l =>
      rw [List.cons_append]
      simp only [List.isPrefixOf]
      rw [ih l h2]
theorem long_sep (d : UInt8) (t l : List UInt8) (cs : List (List UInt8)) (h : ∀ c ∈ cs, d ∉ c) : longF (l ++ d :: t) cs = longF l cs := by
  unfold longF
  generalize ([] : List UInt8) = b
  induction cs generalizing b with
  | nil => rfl
  | cons c cs ih =>
    rw [List.foldl_cons, List.foldl_cons]
    have e : stepL (l ++ d :: t) b c = stepL l b c := by
      unfold stepL
      rw [pre_sep d t c l (h c List.mem_cons_self)]
    rw [e]
    exact ih (fun c hc => h c (List.mem_cons_of_mem _ hc)) _
theorem head_sep (d : UInt8) (hd : d ≠ 45) (r t : List UInt8) : ((r ++ d :: t).head? = some 45) ↔ (r.head? = some 45) := by
  cases r with
  | nil => simp [hd]
  | cons c r => simp
/-- A separator behind changes nothing in a token. -/
theorem one_sep (d : UInt8) (hd : d = 10 ∨ d = 32) (l t : List UInt8) (ln : Nat) (hl : l ≠ []) : oneF (l ++ d :: t) ln = oneF l ln := by
  have hw : wordC d = false := by rcases hd with rfl | rfl <;> decide
  have h45 : d ≠ 45 := by rcases hd with rfl | rfl <;> decide
  have ho : ∀ c ∈ opsL, d ∉ c := by rcases hd with rfl | rfl <;> decide
  have hp : ∀ c ∈ punctsL, d ∉ c := by rcases hd with rfl | rfl <;> decide
  have hr : ∀ l : List UInt8, runF (l ++ d :: t) = runF l := fun l => tw_sep _ _ hw _ _
  cases l with
  | nil => exact absurd rfl hl
  | cons c r =>
    show oneF (c :: (r ++ d :: t)) ln = oneF (c :: r) ln
    unfold oneF
    simp only
    rw [← List.cons_append, hr, long_sep _ _ _ _ ho, long_sep _ _ _ _ hp, hr]
    by_cases h1 : r.head? = some 45
    · rw [if_pos h1, if_pos ((head_sep d h45 r t).2 h1)]
      have h2 : (r ++ d :: t).drop 1 = r.drop 1 ++ d :: t := by
        cases r with
        | nil => simp at h1
        | cons x r => rfl
      rw [h2, hr]
    · rw [if_neg h1, if_neg (fun q => h1 ((head_sep d h45 r t).1 q))]
theorem skip_f (c : UInt8) (r : List UInt8) (ln : Nat) : skipF false (c :: r) ln = if c = 45 ∧ r.head? = some 45 then skipF true r ln else if c = 10 then skipF false r (ln + 1) else if c = 9 ∨ c = 13 ∨ c = 32 then skipF false r ln else (c :: r, ln) := by
  conv => lhs; unfold skipF
theorem skip_t (c : UInt8) (r : List UInt8) (ln : Nat) : skipF true (c :: r) ln = if c = 10 then skipF false r (ln + 1) else skipF true r ln := by
  conv => lhs; unfold skipF
theorem skip_sep (b : Bool) (l t : List UInt8) (ln : Nat) : skipF b (l ++ 10 :: t) ln = if (skipF b l ln).1 = [] then skipF false t ((skipF b l ln).2 + 1) else ((skipF b l ln).1 ++ 10 :: t, (skipF b l ln).2) := by
  induction l generalizing b ln with
  | nil => cases b <;> simp [skipF]
  | cons c r ih =>
    cases b
    · rw [List.cons_append, skip_f, skip_f]
      by_cases h1 : c = 45 ∧ r.head? = some 45
      · rw [if_pos h1, if_pos ⟨h1.1, (head_sep 10 (by decide) r t).2 h1.2⟩]
        exact ih true ln
      · rw [if_neg h1, if_neg (fun q => h1 ⟨q.1, (head_sep 10 (by decide) r t).1 q.2⟩)]
        by_cases h2 : c = 10
        · rw [if_pos h2, if_pos h2]
          exact ih false (ln + 1)
        · rw [if_neg h2, if_neg h2]
          by_cases h3 : c = 9 ∨ c = 13 ∨ c = 32
          · rw [if_pos h3, if_pos h3]
            exact ih false ln
          · rw [if_neg h3, if_neg h3]
            simp
    · rw [List.cons_append, skip_t, skip_t]
      by_cases h2 : c = 10
      · rw [if_pos h2, if_pos h2]
        exact ih false (ln + 1)
      · rw [if_neg h2, if_neg h2]
        exact ih true ln
/-- So many ends of lines. -/
def endsN (l : List UInt8) : Nat := l.count 10
theorem skip_ends (b : Bool) (l : List UInt8) (ln : Nat) : (skipF b l ln).2 + endsN (skipF b l ln).1 = ln + endsN l := by
  unfold endsN
  induction l generalizing b ln with
  | nil => cases b <;> rfl
  | cons c r ih =>
    cases b
    · unfold skipF
      by_cases h1 : c = 45 ∧ r.head? = some 45
      · rw [if_pos h1, ih, h1.1]
        simp
      · rw [if_neg h1]
        by_cases h2 : c = 10
        · rw [if_pos h2, ih, h2]
          simp; omega
        · rw [if_neg h2]
          by_cases h3 : c = 9 ∨ c = 13 ∨ c = 32
          · rw [if_pos h3, ih]
            rw [List.count_cons_of_ne (fun q => h2 q)]
          · rw [if_neg h3]
    · unfold skipF
      by_cases h2 : c = 10
      · rw [if_pos h2, ih, h2]
        simp; omega
      · rw [if_neg h2, ih]
        rw [List.count_cons_of_ne (fun q => h2 q)]
theorem longJ_mem (l : List UInt8) (cs : List (List UInt8)) : longF l cs = [] ∨ longF l cs ∈ cs := by
  unfold longF
  have key : ∀ (cs : List (List UInt8)) (b : List UInt8), cs.foldl (stepL l) b = b ∨ cs.foldl (stepL l) b ∈ cs := by
    intro cs
    induction cs with
    | nil => intro b; exact .inl rfl
    | cons c cs ih =>
      intro b
      rw [List.foldl_cons]
      rcases ih (stepL l b c) with h | h
      · rw [h]
        unfold stepL
        split
        · exact .inr List.mem_cons_self
        · exact .inl rfl
      · exact .inr (List.mem_cons_of_mem _ h)
  exact key cs []
theorem run_all (l : List UInt8) : ∀ c ∈ runF l, wordC c = true := by
  unfold runF
  induction l with
  | nil => intro c hc; simp at hc
  | cons x l ih =>
    intro c hc
    rw [List.takeWhile_cons] at hc
    split at hc
    · rename_i hx
      rcases List.mem_cons.1 hc with rfl | q
      · exact hx
      · exact ih c q
    · simp at hc
theorem run_self (l : List UInt8) (h : ∀ c ∈ l, wordC c = true) : runF l = l := by
  unfold runF
  induction l with
  | nil => rfl
  | cons x l ih =>
    rw [List.takeWhile_cons, if_pos (h x List.mem_cons_self), ih (fun c hc => h c (List.mem_cons_of_mem _ hc))]
/-- The shapes that a token has. -/
inductive ShapeT (ln : Nat) : TokV → Prop
  | word (c : UInt8) (r : List UInt8) (h : (smallC c || capC c) = true) (hr : ∀ x ∈ c :: r, wordC x = true) (hl : (c :: r).length ≤ 16) : ShapeT ln ⟨kindF (c :: r), c :: r, false, 0, ln⟩
  | num (c : UInt8) (r : List UInt8) (h : digC c = true) (hr : ∀ x ∈ c :: r, wordC x = true) (he : (numberF (c :: r) ln).2 = 0) : ShapeT ln (numberF (c :: r) ln).1
  | plus (r : List UInt8) (h : r ≠ []) (hr : ∀ x ∈ r, wordC x = true) (he : (numberF (35 :: r) ln).2 = 0) : ShapeT ln (numberF (35 :: r) ln).1
  | minus (r : List UInt8) (h : r ≠ []) (hr : ∀ x ∈ r, wordC x = true) (he : (numberF (35 :: 45 :: r) ln).2 = 0) : ShapeT ln (numberF (35 :: 45 :: r) ln).1
  | op (x : List UInt8) (h : x ∈ opsL) : ShapeT ln ⟨4, x, false, 0, ln⟩
  | punct (x : List UInt8) (h : x ∈ punctsL) : ShapeT ln ⟨6, x, false, 0, ln⟩
theorem digit_word {c : UInt8} (h : digC c = true) : wordC c = true := by simp [wordC, h]
theorem digit_letter {c : UInt8} (h : digC c = true) : ¬ (smallC c || capC c) = true := by
  unfold digC at h; unfold smallC capC
  simp at h ⊢
  constructor
  · intro q; exact absurd (UInt8.le_trans q h.2) (by decide)
  · intro q; exact absurd (UInt8.le_trans q h.2) (by decide)
theorem letter_word {c : UInt8} (h : (smallC c || capC c) = true) : wordC c = true := by
  unfold wordC
  simp only [Bool.or_eq_true] at h ⊢
  exact .inl (.inl h)
theorem run_cons {c : UInt8} {r : List UInt8} (h : wordC c = true) : runF (c :: r) = c :: runF r := by
  unfold runF
  rw [List.takeWhile_cons, if_pos h]
theorem one_shape (l : List UInt8) (ln : Nat) (h : (oneF l ln).2 = 0) : ShapeT ln (oneF l ln).1 := by
  cases l with
  | nil => simp [oneF] at h
  | cons c r =>
    unfold oneF at h ⊢
    simp only at h ⊢
    by_cases q1 : (smallC c || capC c) = true
    · rw [if_pos q1] at h ⊢
      have hl : ¬ 16 < (runF (c :: r)).length := fun q => by simp [q] at h
      have hr := run_all (c :: r)
      rw [run_cons (letter_word q1)] at hl hr ⊢
      exact .word c _ q1 hr (by omega)
    · rw [if_neg q1] at h ⊢
      by_cases q2 : digC c = true
      · rw [if_pos q2] at h ⊢
        have hr := run_all (c :: r)
        rw [run_cons (digit_word q2)] at h hr ⊢
        exact .num c _ q2 hr h
      · rw [if_neg q2] at h ⊢
        by_cases q3 : c = 35
        · rw [if_pos q3] at h ⊢
          by_cases q4 : r.head? = some 45
          · rw [if_pos q4] at h ⊢
            by_cases q5 : runF (r.drop 1) = []
            · rw [if_pos q5] at h; simp at h
            · rw [if_neg q5] at h ⊢
              exact .minus _ q5 (run_all _) h
          · rw [if_neg q4] at h ⊢
            by_cases q5 : runF r = []
            · rw [if_pos q5] at h; simp at h
            · rw [if_neg q5] at h ⊢
              exact .plus _ q5 (run_all _) h
        · rw [if_neg q3] at h ⊢
          by_cases q4 : (longF (c :: r) opsL).length < (longF (c :: r) punctsL).length
          · rw [if_pos q4]
            rcases longJ_mem (c :: r) punctsL with q | q
            · rw [q] at q4; simp at q4
            · exact .punct _ q
          · rw [if_neg q4] at h ⊢
            by_cases q5 : longF (c :: r) opsL = []
            · rw [if_pos q5] at h; simp at h
            · rw [if_neg q5]
              rcases longJ_mem (c :: r) opsL with q | q
              · exact absurd q q5
              · exact .op _ q
theorem shape_no10 {ln : Nat} {t : TokV} (h : ShapeT ln t) : ∀ c ∈ t.text, c ≠ 10 := by
  have hw : ∀ x : UInt8, wordC x = true → x ≠ 10 := fun x hx q => by subst q; exact absurd hx (by decide)
  cases h with
  | word c r h hr hl => exact fun x hx => hw x (hr x hx)
  | num c r h hr he => exact fun x hx => hw x (hr x hx)
  | plus r h hr he =>
    intro x hx
    rcases List.mem_cons.1 hx with rfl | q
    · decide
    · exact hw x (hr x q)
  | minus r h hr he =>
    intro x hx
    rcases List.mem_cons.1 hx with rfl | q
    · decide
    · rcases List.mem_cons.1 q with rfl | q
      · decide
      · exact hw x (hr x q)
  | op x h =>
    have : ∀ y ∈ opsL, ∀ c ∈ y, c ≠ 10 := by decide
    exact this x h
  | punct x h =>
    have : ∀ y ∈ punctsL, ∀ c ∈ y, c ≠ 10 := by decide
    exact this x h
/-- What was told is told again. -/
theorem shape_again {ln : Nat} {t : TokV} (h : ShapeT ln t) (n : Nat) : oneF t.text n = ({ t with line := n }, 0) := by
  have hne35 : ∀ r : List UInt8, (∀ x ∈ r, wordC x = true) → r.head? ≠ some 45 := by
    intro r hr q
    cases r with
    | nil => simp at q
    | cons y r =>
      simp at q
      subst q
      exact absurd (hr 45 List.mem_cons_self) (by decide)
  cases h with
  | word c r h hr hl =>
    show oneF (c :: r) n = _
    unfold oneF
    simp only
    rw [if_pos h, run_self _ hr, if_neg (by omega)]
  | num c r h hr he =>
    show oneF (c :: r) n = _
    unfold oneF
    simp only
    rw [if_neg (digit_letter h), if_pos h, run_self _ hr]
    unfold numberF at he ⊢
    simp only at he ⊢
    rw [he]
  | plus r h hr he =>
    show oneF (35 :: r) n = _
    unfold oneF
    simp only
    rw [if_neg (by decide), if_neg (by decide), if_pos trivial, if_neg (hne35 r hr), run_self _ hr, if_neg h]
    unfold numberF at he ⊢
    simp only at he ⊢
    rw [he]
  | minus r h hr he =>
    show oneF (35 :: 45 :: r) n = _
    unfold oneF
    simp only
    rw [if_neg (by decide), if_neg (by decide), if_pos trivial, if_pos (show (45 :: r).head? = some 45 from rfl), List.drop_succ_cons, List.drop_zero, run_self _ hr, if_neg h]
    unfold numberF at he ⊢
    simp only at he ⊢
    rw [he]
  | op x h =>
    show oneF x n = (⟨4, x, false, 0, n⟩, 0)
    have key : ∀ y ∈ opsL, oneF y 0 = (⟨4, y, false, 0, 0⟩, 0) := by decide
    have := one_shift x 0 n
    rw [key x h, Nat.zero_add] at this
    rw [this]
    simp [shiftT]
  | punct x h =>
    show oneF x n = (⟨6, x, false, 0, n⟩, 0)
    have key : ∀ y ∈ punctsL, oneF y 0 = (⟨6, y, false, 0, 0⟩, 0) := by decide
    have := one_shift x 0 n
    rw [key x h, Nat.zero_add] at this
    rw [this]
    simp [shiftT]
/-- Where a token stands, nothing is skipped, if a blank is behind it. -/
theorem shape_stays {ln : Nat} {t : TokV} (h : ShapeT ln t) (rest : List UInt8) (n : Nat) : skipF false (t.text ++ 32 :: rest) n = (t.text ++ 32 :: rest, n) := by
  have hw : ∀ (c : UInt8) (r : List UInt8), wordC c = true ∨ c = 35 → skipF false (c :: r) n = (c :: r, n) := by
    intro c r hc
    have h1 : c ≠ 45 := by rintro rfl; rcases hc with q | q <;> exact absurd q (by decide)
    have h2 : c ≠ 10 := by rintro rfl; rcases hc with q | q <;> exact absurd q (by decide)
    have h3 : ¬ (c = 9 ∨ c = 13 ∨ c = 32) := by rintro (rfl | rfl | rfl) <;> (rcases hc with q | q <;> exact absurd q (by decide))
    unfold skipF
    rw [if_neg (fun q => h1 q.1), if_neg h2, if_neg h3]
  have hs : ∀ x : List UInt8, (∃ c r, x = c :: r ∧ c ≠ 10 ∧ ¬ (c = 9 ∨ c = 13 ∨ c = 32) ∧ ¬ (c = 45 ∧ r.head? = some 45)) → skipF false (x ++ 32 :: rest) n = (x ++ 32 :: rest, n) := by
    rintro x ⟨c, r, rfl, h1, h2, h3⟩
    rw [List.cons_append]
    unfold skipF
    rw [if_neg (fun q => h3 ⟨q.1, (head_sep 32 (by decide) r rest).1 q.2⟩), if_neg h1, if_neg h2]
  cases h with
  | word c r h hr hl => exact hw c _ (.inl (letter_word h))
  | num c r h hr he => exact hw c _ (.inl (digit_word h))
  | plus r h hr he => exact hw 35 _ (.inr rfl)
  | minus r h hr he => exact hw 35 _ (.inr rfl)
  | op x h =>
    refine hs x ?_
    have key : ∀ y ∈ opsL, y.headD 10 ≠ 10 ∧ ¬ (y.headD 10 = 9 ∨ y.headD 10 = 13 ∨ y.headD 10 = 32) ∧ ¬ (y.headD 10 = 45 ∧ y.tail.head? = some 45) := by decide
    have := key x h
    cases x with
    | nil => exact absurd rfl this.1
    | cons c r => exact ⟨c, r, rfl, this⟩
  | punct x h =>
    refine hs x ?_
    have key : ∀ y ∈ punctsL, y.headD 10 ≠ 10 ∧ ¬ (y.headD 10 = 9 ∨ y.headD 10 = 13 ∨ y.headD 10 = 32) ∧ ¬ (y.headD 10 = 45 ∧ y.tail.head? = some 45) := by decide
    have := key x h
    cases x with
    | nil => exact absurd rfl this.1
    | cons c r => exact ⟨c, r, rfl, this⟩
/-- What stood ahead stays ahead. -/
def aheadV (acc : List TokV) (v : LexV) : LexV := if v.err = 0 then ⟨acc ++ v.toks, 0, 0⟩ else ⟨[], v.err, v.line⟩
theorem one_len (l : List UInt8) (ln : Nat) (h : (oneF l ln).2 = 0) : 0 < (oneF l ln).1.text.length ∧ (oneF l ln).1.text.length ≤ l.length := by
  have := oneF_pre l ln h
  exact ⟨this.2.1, this.1.length_le⟩
theorem lexG_err (f : Nat) (acc : List TokV) (l : List UInt8) (ln : Nat) : ((lexG f acc l ln).err = 0 → (lexG f acc l ln).line = 0) ∧ ((lexG f acc l ln).err ≠ 0 → (lexG f acc l ln).toks = []) := by
  induction f generalizing acc l ln with
  | zero => exact ⟨fun _ => rfl, fun h => absurd rfl h⟩
  | succ f ih =>
    by_cases hl : l = []
    · subst hl; rw [lexG_end]; exact ⟨fun _ => rfl, fun h => absurd rfl h⟩
    · by_cases he : (oneF l ln).2 = 0
      · by_cases hf : acc.length = 4096
        · rw [lexG_full hl he hf]; exact ⟨fun h => by simp at h, fun _ => rfl⟩
        · rw [lexG_more hl he hf]; exact ih _ _ _
      · rw [lexG_bad hl he]; exact ⟨fun h => absurd h he, fun _ => rfl⟩
theorem lexG_acc (f : Nat) (acc : List TokV) (l : List UInt8) (ln : Nat) (h : acc.length + l.length ≤ 4096) (pre : List TokV) (h2 : pre.length + acc.length + l.length ≤ 4096) : lexG f (pre ++ acc) l ln = aheadV pre (lexG f acc l ln) := by
  induction f generalizing acc l ln with
  | zero => rfl
  | succ f ih =>
    by_cases hl : l = []
    · subst hl; rw [lexG_end, lexG_end]; rfl
    · have h0 : 0 < l.length := List.length_pos_iff.2 hl
      by_cases he : (oneF l ln).2 = 0
      · rw [lexG_more hl he (by simp; omega), lexG_more hl he (by omega)]
        have h1 := skipF_len false (l.drop (oneF l ln).1.text.length) ln
        have h3 := one_len l ln he
        rw [List.length_drop] at h1
        rw [List.append_assoc]
        exact ih _ _ _ (by simp; omega) (by simp; omega)
      · rw [lexG_bad hl he, lexG_bad hl he]
        unfold aheadV
        rw [if_neg he]
/-- Two sources, an end of line between. -/
def joinV (n : Nat) (a b : LexV) : LexV := if a.err = 0 then aheadV a.toks (shiftV n b) else a
theorem lexG_join (t : List UInt8) (N : Nat) (f : Nat) (acc : List TokV) (l : List UInt8) (ln : Nat) (hN : ln + endsN l = N) (hf : l.length < f) (h : acc.length + l.length + (skipF false t 1).1.length ≤ 4096) :
    lexG (f + (t.length + 1)) acc (if l = [] then skipF false t (ln + 1) else (l ++ 10 :: t, ln)).1 (if l = [] then skipF false t (ln + 1) else (l ++ 10 :: t, ln)).2 = joinV N (lexG f acc l ln) (lexF t) := by
  induction f generalizing acc l ln with
  | zero => omega
  | succ f ih =>
    by_cases hl : l = []
    · subst hl
      have e : ln = N := by rw [← hN]; rfl
      subst e
      rw [if_pos rfl, lexG_end]
      unfold joinV
      rw [if_pos rfl, Nat.add_comm ln 1, skip_shift]
      simp only
      have hs := skipF_len false t 1
      have h1 := lexG_acc (f + 1 + (t.length + 1)) [] (skipF false t 1).1 ((skipF false t 1).2 + ln) (by simp at h ⊢; omega) acc (by simp at h ⊢; omega)
      rw [List.append_nil] at h1
      rw [h1]
      have h2 := lexG_shift (f + 1 + (t.length + 1)) [] (skipF false t 1).1 (skipF false t 1).2 ln
      rw [List.map_nil] at h2
      rw [h2, show f + 1 + (t.length + 1) = t.length + 1 + (f + 1) by omega, lexG_fuel _ _ _ _ (by omega)]
      rfl
    · have h0 : 0 < l.length := List.length_pos_iff.2 hl
      rw [if_neg hl]
      simp only
      have hl' : l ++ 10 :: t ≠ [] := by simp
      have ho := one_sep 10 (.inl rfl) l t ln hl
      rw [show f + 1 + (t.length + 1) = f + (t.length + 1) + 1 by omega]
      by_cases he : (oneF l ln).2 = 0
      · have he' : (oneF (l ++ 10 :: t) ln).2 = 0 := by rw [ho]; exact he
        rw [lexG_more hl' he' (by omega), lexG_more hl he (by omega), ho]
        have h3 := one_len l ln he
        rw [List.drop_append_of_le_length h3.2, skip_sep]
        have h1 := skipF_len false (l.drop (oneF l ln).1.text.length) ln
        rw [List.length_drop] at h1
        refine ih _ _ _ ?_ (by omega) (by simp; omega)
        rw [skip_ends, ← hN]
        have hp := (oneF_pre l ln he).1
        obtain ⟨k, hk⟩ := hp
        have hz : endsN (oneF l ln).1.text = 0 := by
          unfold endsN
          rw [List.count_eq_zero]
          exact fun q => shape_no10 (one_shape l ln he) 10 q rfl
        have hk2 : l.drop (oneF l ln).1.text.length = k := by
          have := List.drop_left (l₁ := (oneF l ln).1.text) (l₂ := k)
          rw [hk] at this
          exact this
        have hk3 : endsN l = endsN (oneF l ln).1.text + endsN k := by
          unfold endsN
          rw [← List.count_append, hk]
        rw [hk2, hk3, hz]
        omega
      · have he' : (oneF (l ++ 10 :: t) ln).2 ≠ 0 := by rw [ho]; exact he
        rw [lexG_bad hl' he', lexG_bad hl he, ho]
        unfold joinV
        rw [if_neg he]
theorem lexF_join (s t : List UInt8) (h : s.length + (skipF false t 1).1.length ≤ 4096) : lexF (s ++ 10 :: t) = joinV (1 + endsN s) (lexF s) (lexF t) := by
  have hs := skipF_len false s 1
  have e := lexG_join t (1 + endsN s) (s.length + 1) [] (skipF false s 1).1 (skipF false s 1).2 (skip_ends _ _ _) (by omega) (by simp; omega)
  unfold lexF at e ⊢
  rw [skip_sep]
  have e2 : (s ++ 10 :: t).length + 1 = s.length + 1 + (t.length + 1) := by simp; omega
  rw [e2]
  exact e
theorem skipT_remark (r t : List UInt8) (hr : ∀ c ∈ r, c ≠ 10) (ln : Nat) : skipF true (r ++ 10 :: t) ln = skipF false t (ln + 1) := by
  induction r with
  | nil => simp [skipF]
  | cons c r ih =>
    rw [List.cons_append, skip_t, if_neg (hr c List.mem_cons_self)]
    exact ih (fun c hc => hr c (List.mem_cons_of_mem _ hc))
theorem skipT_remarks (r t : List UInt8) (hr : ∀ c ∈ r, c ≠ 10) : skipF false (45 :: 45 :: (r ++ 10 :: t)) 1 = skipF false t (1 + 1) := by
  conv => lhs; unfold skipF
  rw [if_pos ⟨rfl, rfl⟩]
  conv => lhs; unfold skipF
  rw [if_neg (by decide)]
  exact skipT_remark r t hr 1
theorem lexF_remark (r t : List UInt8) (hr : ∀ c ∈ r, c ≠ 10) : lexF (45 :: 45 :: (r ++ 10 :: t)) = shiftV 1 (lexF t) := by
  unfold lexF
  rw [skipT_remarks r t hr, skip_shift]
  simp only
  have h := lexG_shift (t.length + 1) [] (skipF false t 1).1 (skipF false t 1).2 1
  rw [List.map_nil] at h
  rw [← h]
  have e : (45 :: 45 :: (r ++ 10 :: t)).length + 1 = t.length + 1 + (r.length + 3) := by simp; omega
  rw [e]
  have := skipF_len false t 1
  exact lexG_fuel _ _ _ _ (by omega) _
/-- All of a source's tokens have shapes. -/
def GoodT (t : TokV) : Prop := ∃ ln, ShapeT ln t
theorem lexG_good (f : Nat) (acc : List TokV) (l : List UInt8) (ln : Nat) (h : ∀ t ∈ acc, GoodT t) : ∀ t ∈ (lexG f acc l ln).toks, GoodT t := by
  induction f generalizing acc l ln with
  | zero => exact h
  | succ f ih =>
    by_cases hl : l = []
    · subst hl; rw [lexG_end]; exact h
    · by_cases he : (oneF l ln).2 = 0
      · by_cases hf : acc.length = 4096
        · rw [lexG_full hl he hf]; exact fun t ht => by simp at ht
        · rw [lexG_more hl he hf]
          refine ih _ _ _ fun t ht => ?_
          rcases List.mem_append.1 ht with q | q
          · exact h t q
          · obtain rfl : t = (oneF l ln).1 := by simpa using q
            exact ⟨ln, one_shape l ln he⟩
      · rw [lexG_bad hl he]; exact fun t ht => by simp at ht
theorem lexF_good (s : List UInt8) : ∀ t ∈ (lexF s).toks, GoodT t := lexG_good _ _ _ _ (fun t ht => by simp at ht)
/-- Tokens' texts, a blank behind each. -/
def backT (l : List TokV) : List UInt8 := l.flatMap fun t => t.text ++ [32]
def firstL (t : TokV) : TokV := { t with line := 1 }
theorem back_stays (l : List TokV) (h : ∀ t ∈ l, GoodT t) : skipF false (backT l) 1 = (backT l, 1) := by
  cases l with
  | nil => rfl
  | cons t l =>
    obtain ⟨ln, hs⟩ := h t List.mem_cons_self
    have e : backT (t :: l) = t.text ++ 32 :: backT l := by simp [backT]
    rw [e]
    exact shape_stays hs _ _
theorem back_lex (f : Nat) (acc l : List TokV) (h : ∀ t ∈ l, GoodT t) (hf : l.length < f) (ha : acc.length + l.length ≤ 4096) : lexG f acc (backT l) 1 = ⟨acc ++ l.map firstL, 0, 0⟩ := by
  induction l generalizing f acc with
  | nil => show lexG f acc [] 1 = _; rw [lexG_end]; simp
  | cons t l ih =>
    obtain ⟨f, rfl⟩ : ∃ g, f = g + 1 := ⟨f - 1, by omega⟩
    obtain ⟨ln, hs⟩ := h t List.mem_cons_self
    have e : backT (t :: l) = t.text ++ 32 :: backT l := by simp [backT]
    have ha1 := shape_again hs 1
    have hne : t.text ≠ [] := fun q => by rw [q] at ha1; simp [oneF] at ha1
    have ho : oneF (t.text ++ 32 :: backT l) 1 = (firstL t, 0) := by rw [one_sep 32 (.inr rfl) _ _ _ hne]; exact ha1
    rw [e, lexG_more (by simp) (by rw [ho]) (by simp at ha; omega), ho]
    simp only
    have hd : (t.text ++ 32 :: backT l).drop (firstL t).text.length = 32 :: backT l := List.drop_left' rfl
    have hsk : skipF false (32 :: backT l) 1 = (backT l, 1) := by
      conv => lhs; unfold skipF
      rw [if_neg (by simp), if_neg (by decide), if_pos (.inr (.inr rfl))]
      exact back_stays l (fun t ht => h t (List.mem_cons_of_mem _ ht))
    rw [hd, hsk]
    simp only
    rw [ih f _ (fun t ht => h t (List.mem_cons_of_mem _ ht)) (by simp at hf; omega) (by simp at ha ⊢; omega)]
    simp
theorem back_len (l : List TokV) : l.length ≤ (backT l).length := by
  induction l with
  | nil => simp
  | cons t l ih =>
    have e : backT (t :: l) = t.text ++ 32 :: backT l := by simp [backT]
    rw [e]; simp; omega
theorem lexF_back (l : List TokV) (h : ∀ t ∈ l, GoodT t) (ha : l.length ≤ 4096) : lexF (backT l) = ⟨l.map firstL, 0, 0⟩ := by
  unfold lexF
  rw [back_stays l h]
  simp only
  have := back_len l
  rw [back_lex _ [] l h (by omega) (by simpa using ha)]
  simp
/-- How much tokens take. -/
def takes (l : List TokV) : Nat := (l.map fun t => t.text.length).sum
theorem lexG_takes (B f : Nat) (acc : List TokV) (l : List UInt8) (ln : Nat) (h : takes acc + l.length ≤ B) (h1 : acc.length ≤ takes acc) : takes (lexG f acc l ln).toks ≤ B ∧ (lexG f acc l ln).toks.length ≤ takes (lexG f acc l ln).toks := by
  induction f generalizing acc l ln with
  | zero => exact ⟨by show takes acc ≤ B; omega, h1⟩
  | succ f ih =>
    by_cases hl : l = []
    · subst hl; rw [lexG_end]; exact ⟨by show takes acc ≤ B; omega, h1⟩
    · by_cases he : (oneF l ln).2 = 0
      · by_cases hf : acc.length = 4096
        · rw [lexG_full hl he hf]; exact ⟨Nat.zero_le _, Nat.le_refl _⟩
        · rw [lexG_more hl he hf]
          have h2 := skipF_len false (l.drop (oneF l ln).1.text.length) ln
          have h3 := one_len l ln he
          rw [List.length_drop] at h2
          have e : takes (acc ++ [(oneF l ln).1]) = takes acc + (oneF l ln).1.text.length := by simp [takes]
          exact ih _ _ _ (by rw [e]; omega) (by rw [e]; simp; omega)
      · rw [lexG_bad hl he]; exact ⟨Nat.zero_le _, Nat.le_refl _⟩
theorem lexF_takes (s : List UInt8) : takes (lexF s).toks ≤ s.length ∧ (lexF s).toks.length ≤ takes (lexF s).toks := by
  have h := skipF_len false s 1
  unfold lexF
  exact lexG_takes _ _ [] _ _ (by show 0 + _ ≤ _; omega) (Nat.le_refl _)
theorem takes_back (l : List TokV) : (backT l).length = takes l + l.length := by
  induction l with
  | nil => rfl
  | cons t l ih =>
    have e : backT (t :: l) = t.text ++ 32 :: backT l := by simp [backT]
    rw [e]
    have e2 : takes (t :: l) = t.text.length + takes l := by simp [takes]
    rw [e2]
    simp; omega
theorem takes_mem (l : List TokV) : ∀ t ∈ l, t.text.length ≤ takes l := by
  induction l with
  | nil => intro t ht; simp at ht
  | cons x l ih =>
    intro t ht
    have e2 : takes (x :: l) = x.text.length + takes l := by simp [takes]
    rw [e2]
    rcases List.mem_cons.1 ht with rfl | q
    · omega
    · have := ih t q; omega
/-- A remark between. -/
theorem lexF_joins (s r t : List UInt8) (hr : ∀ c ∈ r, c ≠ 10) (h : s.length + t.length ≤ 4096) : lexF (s ++ 10 :: 45 :: 45 :: (r ++ 10 :: t)) = joinV (1 + endsN s) (lexF s) (shiftV 1 (lexF t)) := by
  rw [← lexF_remark r t hr]
  refine lexF_join s _ ?_
  rw [skipT_remarks r t hr]
  have := skipF_len false t (1 + 1)
  omega
theorem lexF_err (s : List UInt8) : ((lexF s).err = 0 → (lexF s).line = 0) ∧ ((lexF s).err ≠ 0 → (lexF s).toks = []) := by
  unfold lexF
  exact lexG_err _ _ _ _
end Go.Proofs.YtlnmicddobgppaaGreatDoor
