/-
  What lexF tells of two sources that differ by lines ahead. Plain laws: no program. No conditions. What lexF tells of two sources with an end of line between, and of its own tokens' texts with a blank between each two. Plain laws: no program. No conditions.
-/
import Derived.Test.YtlnmicddobgppaaGreatDoorNnE
import Derived.Test.YtlnmicddobgppaaGreatDoorNnA
namespace Go.Proofs.YtlnmicddobgppaaGreatDoor
def shiftT (n : Nat) (t : TokV) : TokV := { t with line := t.line + n }
theorem one_shift (l : List UInt8) (ln n : Nat) : oneF l (ln + n) = (shiftT n (oneF l ln).1, (oneF l ln).2) := by
 cases l with
 | nil => rfl
 | cons c r =>
  unfold oneF
  simp only
  split
  · rfl
  · split
    · rfl
    · split
      · split
        · split
          · rfl
          · rfl
        · split
          · rfl
          · rfl
      · split
        · rfl
        · split
          · rfl
          · rfl
theorem tw_sep (p : UInt8 → Bool) (d : UInt8) (hp : p d = false) (l t : List UInt8) : (l ++ d :: t).takeWhile p = l.takeWhile p := by
 induction l with
 | nil => simp [List.takeWhile, hp]
 | cons c l ih =>
  rw [List.cons_append, List.takeWhile_cons, List.takeWhile_cons, ih]
theorem pre_sep (d : UInt8) (t : List UInt8) : ∀ (c l : List UInt8), d ∉ c → c.isPrefixOf (l ++ d :: t) = c.isPrefixOf l := by
 intro c
 induction c with
 | nil => intro l _; simp
 | cons x c ih =>
  intro l hc
  have h1 : x ≠ d := fun q => hc (by rw [q]; exact List.mem_cons_self)
  have h2 : d ∉ c := fun q => hc (List.mem_cons_of_mem _ q)
  cases l with
  | nil => simp [List.isPrefixOf, h1]
  | cons y l =>
   rw [List.cons_append]
   simp only [List.isPrefixOf]
   rw [ih l h2]
theorem head_sep (d : UInt8) (hd : d ≠ 45) (r t : List UInt8) : ((r ++ d :: t).head? = some 45) ↔ (r.head? = some 45) := by
 cases r with
 | nil => simp [hd]
 | cons c r => simp
theorem longJ_mem (l : List UInt8) (cs : List (List UInt8)) : longF l cs = [] ∨ longF l cs ∈ cs := by
 unfold longF
 have key : ∀ (cs : List (List UInt8)) (b : List UInt8), cs.foldl (stepL l) b = b ∨ cs.foldl (stepL l) b ∈ cs := by
  intro cs
  induction cs with
  | nil => intro b; exact .inl rfl
  | cons c cs ih =>
   intro b
   rw [List.foldl_cons]
   rcases ih (stepL l b c) with h | h
   · rw [h]
     unfold stepL
     split
     · exact .inr List.mem_cons_self
     · exact .inl rfl
   · exact .inr (List.mem_cons_of_mem _ h)
 exact key cs []
theorem run_all (l : List UInt8) : ∀ c ∈ runF l, wordC c = true := by
 unfold runF
 induction l with
 | nil => intro c hc; simp at hc
 | cons x l ih =>
  intro c hc
  rw [List.takeWhile_cons] at hc
  split at hc
  · rename_i hx
    rcases List.mem_cons.1 hc with rfl | q
    · exact hx
    · exact ih c q
  · simp at hc
theorem run_self (l : List UInt8) (h : ∀ c ∈ l, wordC c = true) : runF l = l := by
 unfold runF
 induction l with
 | nil => rfl
 | cons x l ih =>
  rw [List.takeWhile_cons, if_pos (h x List.mem_cons_self), ih (fun c hc => h c (List.mem_cons_of_mem _ hc))]
inductive ShapeT (ln : Nat) : TokV → Prop
 | word (c : UInt8) (r : List UInt8) (h : (smallC c || capC c) = true) (hr : ∀ x ∈ c :: r, wordC x = true) (hl : (c :: r).length ≤ 16) : ShapeT ln ⟨kindF (c :: r), c :: r, false, 0, ln⟩
 | num (c : UInt8) (r : List UInt8) (h : digC c = true) (hr : ∀ x ∈ c :: r, wordC x = true) (he : (numberF (c :: r) ln).2 = 0) : ShapeT ln (numberF (c :: r) ln).1
 | plus (r : List UInt8) (h : r ≠ []) (hr : ∀ x ∈ r, wordC x = true) (he : (numberF (35 :: r) ln).2 = 0) : ShapeT ln (numberF (35 :: r) ln).1
 | minus (r : List UInt8) (h : r ≠ []) (hr : ∀ x ∈ r, wordC x = true) (he : (numberF (35 :: 45 :: r) ln).2 = 0) : ShapeT ln (numberF (35 :: 45 :: r) ln).1
 | op (x : List UInt8) (h : x ∈ opsL) : ShapeT ln ⟨4, x, false, 0, ln⟩
 | punct (x : List UInt8) (h : x ∈ punctsL) : ShapeT ln ⟨6, x, false, 0, ln⟩
theorem digit_word {c : UInt8} (h : digC c = true) : wordC c = true := by simp [wordC, h]
theorem digit_letter {c : UInt8} (h : digC c = true) : ¬ (smallC c || capC c) = true := by
 unfold digC at h; unfold smallC capC
 simp at h ⊢
 constructor
 · intro q; exact absurd (UInt8.le_trans q h.2) (by decide)
 · intro q; exact absurd (UInt8.le_trans q h.2) (by decide)
theorem letter_word {c : UInt8} (h : (smallC c || capC c) = true) : wordC c = true := by
 unfold wordC
 simp only [Bool.or_eq_true] at h ⊢
 exact .inl (.inl h)
theorem run_cons {c : UInt8} {r : List UInt8} (h : wordC c = true) : runF (c :: r) = c :: runF r := by
 unfold runF
 rw [List.takeWhile_cons, if_pos h]
theorem one_shape (l : List UInt8) (ln : Nat) (h : (oneF l ln).2 = 0) : ShapeT ln (oneF l ln).1 := by
 cases l with
 | nil => simp [oneF] at h
 | cons c r =>
  unfold oneF at h ⊢
  simp only at h ⊢
  by_cases q1 : (smallC c || capC c) = true
  · rw [if_pos q1] at h ⊢
    have hl : ¬ 16 < (runF (c :: r)).length := fun q => by simp [q] at h
    have hr := run_all (c :: r)
    rw [run_cons (letter_word q1)] at hl hr ⊢
    exact .word c _ q1 hr (by omega)
  · rw [if_neg q1] at h ⊢
    by_cases q2 : digC c = true
    · rw [if_pos q2] at h ⊢
      have hr := run_all (c :: r)
      rw [run_cons (digit_word q2)] at h hr ⊢
      exact .num c _ q2 hr h
    · rw [if_neg q2] at h ⊢
      by_cases q3 : c = 35
      · rw [if_pos q3] at h ⊢
        by_cases q4 : r.head? = some 45
        · rw [if_pos q4] at h ⊢
          by_cases q5 : runF (r.drop 1) = []
          · rw [if_pos q5] at h; simp at h
          · rw [if_neg q5] at h ⊢
            exact .minus _ q5 (run_all _) h
        · rw [if_neg q4] at h ⊢
          by_cases q5 : runF r = []
          · rw [if_pos q5] at h; simp at h
          · rw [if_neg q5] at h ⊢
            exact .plus _ q5 (run_all _) h
      · rw [if_neg q3] at h ⊢
        by_cases q4 : (longF (c :: r) opsL).length < (longF (c :: r) punctsL).length
        · rw [if_pos q4]
          rcases longJ_mem (c :: r) punctsL with q | q
          · rw [q] at q4; simp at q4
          · exact .punct _ q
        · rw [if_neg q4] at h ⊢
          by_cases q5 : longF (c :: r) opsL = []
          · rw [if_pos q5] at h; simp at h
          · rw [if_neg q5]
            rcases longJ_mem (c :: r) opsL with q | q
            · exact absurd q q5
            · exact .op _ q
theorem shape_again {ln : Nat} {t : TokV} (h : ShapeT ln t) (n : Nat) : oneF t.text n = ({ t with line := n }, 0) := by
 have hne35 : ∀ r : List UInt8, (∀ x ∈ r, wordC x = true) → r.head? ≠ some 45 := by
  intro r hr q
  cases r with
  | nil => simp at q
  | cons y r =>
   simp at q
   subst q
   exact absurd (hr 45 List.mem_cons_self) (by decide)
 cases h with
 | word c r h hr hl =>
  show oneF (c :: r) n = _
  unfold oneF
  simp only
  rw [if_pos h, run_self _ hr, if_neg (by omega)]
 | num c r h hr he =>
  show oneF (c :: r) n = _
  unfold oneF
  simp only
  rw [if_neg (digit_letter h), if_pos h, run_self _ hr]
  unfold numberF at he ⊢
  simp only at he ⊢
  rw [he]
 | plus r h hr he =>
  show oneF (35 :: r) n = _
  unfold oneF
  simp only
  rw [if_neg (by decide), if_neg (by decide), if_pos trivial, if_neg (hne35 r hr), run_self _ hr, if_neg h]
  unfold numberF at he ⊢
  simp only at he ⊢
  rw [he]
 | minus r h hr he =>
  show oneF (35 :: 45 :: r) n = _
  unfold oneF
  simp only
  rw [if_neg (by decide), if_neg (by decide), if_pos trivial, if_pos (show (45 :: r).head? = some 45 from rfl), List.drop_succ_cons, List.drop_zero, run_self _ hr, if_neg h]
  unfold numberF at he ⊢
  simp only at he ⊢
  rw [he]
 | op x h =>
  show oneF x n = (⟨4, x, false, 0, n⟩, 0)
  have key : ∀ y ∈ opsL, oneF y 0 = (⟨4, y, false, 0, 0⟩, 0) := by decide
  have := one_shift x 0 n
  rw [key x h, Nat.zero_add] at this
  rw [this]
  simp [shiftT]
 | punct x h =>
  show oneF x n = (⟨6, x, false, 0, n⟩, 0)
  have key : ∀ y ∈ punctsL, oneF y 0 = (⟨6, y, false, 0, 0⟩, 0) := by decide
  have := one_shift x 0 n
  rw [key x h, Nat.zero_add] at this
  rw [this]
  simp [shiftT]
theorem shape_stays {ln : Nat} {t : TokV} (h : ShapeT ln t) (rest : List UInt8) (n : Nat) : skipF false (t.text ++ 32 :: rest) n = (t.text ++ 32 :: rest, n) := by
 have hw : ∀ (c : UInt8) (r : List UInt8), wordC c = true ∨ c = 35 → skipF false (c :: r) n = (c :: r, n) := by
  intro c r hc
  have h1 : c ≠ 45 := by rintro rfl; rcases hc with q | q <;> exact absurd q (by decide)
  have h2 : c ≠ 10 := by rintro rfl; rcases hc with q | q <;> exact absurd q (by decide)
  have h3 : ¬ (c = 9 ∨ c = 13 ∨ c = 32) := by rintro (rfl | rfl | rfl) <;> (rcases hc with q | q <;> exact absurd q (by decide))
  unfold skipF
  rw [if_neg (fun q => h1 q.1), if_neg h2, if_neg h3]
 have hs : ∀ x : List UInt8, (∃ c r, x = c :: r ∧ c ≠ 10 ∧ ¬ (c = 9 ∨ c = 13 ∨ c = 32) ∧ ¬ (c = 45 ∧ r.head? = some 45)) → skipF false (x ++ 32 :: rest) n = (x ++ 32 :: rest, n) := by
  rintro x ⟨c, r, rfl, h1, h2, h3⟩
  rw [List.cons_append]
  unfold skipF
  rw [if_neg (fun q => h3 ⟨q.1, (head_sep 32 (by decide) r rest).1 q.2⟩), if_neg h1, if_neg h2]
 cases h with
 | word c r h hr hl => exact hw c _ (.inl (letter_word h))
 | num c r h hr he => exact hw c _ (.inl (digit_word h))
 | plus r h hr he => exact hw 35 _ (.inr rfl)
 | minus r h hr he => exact hw 35 _ (.inr rfl)
 | op x h =>
  refine hs x ?_
  have key : ∀ y ∈ opsL, y.headD 10 ≠ 10 ∧ ¬ (y.headD 10 = 9 ∨ y.headD 10 = 13 ∨ y.headD 10 = 32) ∧ ¬ (y.headD 10 = 45 ∧ y.tail.head? = some 45) := by decide
  have := key x h
  cases x with
  | nil => exact absurd rfl this.1
  | cons c r => exact ⟨c, r, rfl, this⟩
 | punct x h =>
  refine hs x ?_
  have key : ∀ y ∈ punctsL, y.headD 10 ≠ 10 ∧ ¬ (y.headD 10 = 9 ∨ y.headD 10 = 13 ∨ y.headD 10 = 32) ∧ ¬ (y.headD 10 = 45 ∧ y.tail.head? = some 45) := by decide
  have := key x h
  cases x with
  | nil => exact absurd rfl this.1
  | cons c r => exact ⟨c, r, rfl, this⟩
def GoodT (t : TokV) : Prop := ∃ ln, ShapeT ln t
theorem lexG_good (f : Nat) (acc : List TokV) (l : List UInt8) (ln : Nat) (h : ∀ t ∈ acc, GoodT t) : ∀ t ∈ (lexG f acc l ln).toks, GoodT t := by
 induction f generalizing acc l ln with
 | zero => exact h
 | succ f ih =>
  by_cases hl : l = []
  · subst hl; rw [lexG_end]; exact h
  · by_cases he : (oneF l ln).2 = 0
    · by_cases hf : acc.length = 4096
      · rw [lexG_full hl he hf]; exact fun t ht => by simp at ht
      · rw [lexG_more hl he hf]
        refine ih _ _ _ fun t ht => ?_
        rcases List.mem_append.1 ht with q | q
        · exact h t q
        · obtain rfl : t = (oneF l ln).1 := by simpa using q
          exact ⟨ln, one_shape l ln he⟩
    · rw [lexG_bad hl he]; exact fun t ht => by simp at ht
theorem lexF_good (s : List UInt8) : ∀ t ∈ (lexF s).toks, GoodT t := lexG_good _ _ _ _ (fun t ht => by simp at ht)
def firstL (t : TokV) : TokV := { t with line := 1 }
end Go.Proofs.YtlnmicddobgppaaGreatDoor
