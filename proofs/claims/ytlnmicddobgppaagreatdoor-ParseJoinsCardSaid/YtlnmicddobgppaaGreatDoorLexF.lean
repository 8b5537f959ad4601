/-
  Sources as tokens, in plain words (layer 7): what the document's Lex and the program's Lex both come to. No conditions.
-/
import Derived.Test.YtlnmicddobgppaaGreatDoorRef01r
namespace Go.Proofs.YtlnmicddobgppaaGreatDoor
set_option linter.unusedSimpArgs false
set_option linter.unusedVariables false
open Go.RowKit

/-- A token. -/
structure TokV where
  kind : Int
  text : List UInt8
  flt : Bool
  bits : Nat
  line : Nat
deriving DecidableEq

def smallC (c : UInt8) : Bool := 97 ≤ c && c ≤ 122
def capC (c : UInt8) : Bool := 65 ≤ c && c ≤ 90
def digC (c : UInt8) : Bool := 48 ≤ c && c ≤ 57
def wordC (c : UInt8) : Bool := smallC c || capC c || digC c || c == 95
/-- The run that a list begins with. -/
def runF (l : List UInt8) : List UInt8 := l.takeWhile wordC
def wordsL : List (List UInt8) := [[108, 101, 116], [105, 110], [99, 97, 115, 101], [111, 102], [100, 97, 116, 97]]
def backsL : List (List UInt8) := [[119, 101, 97, 107], [100, 101, 114, 101, 102], [115, 101, 113], [102, 108, 111, 97, 116], [116, 114, 117, 110, 99]]
def kindF (s : List UInt8) : Int := if s ∈ wordsL then 5 else if s ∈ backsL then 7 else if (s.head?.map capC).getD false then 2 else 1
def opsL : List (List UInt8) := [[43], [45], [42], [47], [37], [61, 61], [60], [43, 46], [45, 46], [42, 46], [47, 46], [61, 61, 46], [60, 46]]
def punctsL : List (List UInt8) := [[40], [41], [123], [125], [59], [61], [45, 62], [92]]
def stepL (l best c : List UInt8) : List UInt8 := if c.isPrefixOf l && decide (best.length < c.length) then c else best
def longF (l : List UInt8) (cs : List (List UInt8)) : List UInt8 := cs.foldl (stepL l) []
/-- A number's text, as layer 1 tells it: is it a float, its bits, the error. -/
def unBool : Value → Bool
  | .bool f => f
  | _ => false
def unInt : Value → Int
  | .int _ b => b
  | _ => 0
def unAgg : Value → Array Value
  | .agg a => a
  | .tuple a => a
  | _ => #[]
def numOf (s : List UInt8) : Bool × Nat × Int :=
  let p := unAgg (refV s)
  let q := unAgg (p.getD 0 .nilIface)
  (unBool (q.getD 0 .nilIface), (unInt (q.getD 1 .nilIface)).toNat, unInt (p.getD 1 .nilIface))
theorem numOf_of {s : List UInt8} {f : Bool} {b : Nat} {e : Int} (h : refV s = .tuple #[.agg #[.bool f, .int .u64 (b : Int)], .int .i64 e]) : numOf s = (f, b, e) := by
  unfold numOf
  rw [h]
  rfl
def hashOff (s : List UInt8) : List UInt8 := if s.head? = some 35 then s.drop 1 else s
def numberF (s : List UInt8) (line : Nat) : TokV × Int := (⟨3, s, (numOf (hashOff s)).1, (numOf (hashOff s)).2.1, line⟩, (numOf (hashOff s)).2.2)
def none_ (line : Nat) : TokV := ⟨0, [], false, 0, line⟩
/-- The token that a list begins with; an error. -/
def oneF (l : List UInt8) (line : Nat) : TokV × Int :=
  match l with
  | [] => (none_ line, 3)
  | c :: r =>
    if smallC c || capC c then (⟨kindF (runF l), runF l, false, 0, line⟩, if 16 < (runF l).length then 9 else 0)
    else if digC c then numberF (runF l) line
    else if c = 35 then
      if r.head? = some 45 then (if runF (r.drop 1) = [] then (none_ line, 3) else numberF (35 :: 45 :: runF (r.drop 1)) line)
      else (if runF r = [] then (none_ line, 3) else numberF (35 :: runF r) line)
    else if (longF l opsL).length < (longF l punctsL).length then (⟨6, longF l punctsL, false, 0, line⟩, 0)
    else if longF l opsL = [] then (none_ line, 3)
    else (⟨4, longF l opsL, false, 0, line⟩, 0)
/-- Where the next token may begin, and on which line: in a remark, or not. -/
def skipF : Bool → List UInt8 → Nat → List UInt8 × Nat
  | _, [], line => ([], line)
  | true, c :: r, line => if c = 10 then skipF false r (line + 1) else skipF true r line
  | false, c :: r, line =>
    if c = 45 ∧ r.head? = some 45 then skipF true r line
    else if c = 10 then skipF false r (line + 1)
    else if c = 9 ∨ c = 13 ∨ c = 32 then skipF false r line
    else (c :: r, line)
/-- What Lex tells: tokens, an error, a line. -/
structure LexV where
  toks : List TokV
  err : Int
  line : Nat
deriving DecidableEq
def lexG : Nat → List TokV → List UInt8 → Nat → LexV
  | 0, acc, _, _ => ⟨acc, 0, 0⟩
  | n + 1, acc, l, line =>
    if l = [] then ⟨acc, 0, 0⟩ else
    let (t, e) := oneF l line
    let e := if e = 0 ∧ acc.length = 4096 then 2 else e
    if e ≠ 0 then ⟨[], e, line⟩ else
    let (l', line') := skipF false (l.drop t.text.length) line
    lexG n (acc ++ [t]) l' line'
def lexF (s : List UInt8) : LexV :=
  let (l, line) := skipF false s 1
  lexG (s.length + 1) [] l line

theorem skipF_len (b : Bool) (l : List UInt8) (line : Nat) : (skipF b l line).1.length ≤ l.length := by
  induction l generalizing b line with
  | nil => cases b <;> simp [skipF]
  | cons c r ih =>
    cases b
    · unfold skipF
      split
      · have := ih true line; simp; omega
      · split
        · have := ih false (line + 1); simp; omega
        · split
          · have := ih false line; simp; omega
          · simp
    · unfold skipF
      split
      · have := ih false (line + 1); simp; omega
      · have := ih true line; simp; omega
theorem skipF_line (b : Bool) (l : List UInt8) (line : Nat) : line ≤ (skipF b l line).2 ∧ (skipF b l line).2 + (skipF b l line).1.length ≤ line + l.length := by
  induction l generalizing b line with
  | nil => cases b <;> simp [skipF]
  | cons c r ih =>
    cases b
    · unfold skipF
      split
      · have := ih true line; simp; omega
      · split
        · have := ih false (line + 1); simp; omega
        · split
          · have := ih false line; simp; omega
          · simp
    · unfold skipF
      split
      · have := ih false (line + 1); simp; omega
      · have := ih true line; simp; omega
theorem skipF_drop (b : Bool) (l : List UInt8) (line : Nat) : (skipF b l line).1 = l.drop (l.length - (skipF b l line).1.length) := by
  induction l generalizing b line with
  | nil => cases b <;> simp [skipF]
  | cons c r ih =>
    have step : ∀ (b : Bool) (ln : Nat), (skipF b r ln).1 = (c :: r).drop ((c :: r).length - (skipF b r ln).1.length) := by
      intro b ln
      have h1 := skipF_len b r ln
      rw [show (c :: r).length - (skipF b r ln).1.length = (r.length - (skipF b r ln).1.length) + 1 by simp; omega, List.drop_succ_cons]
      exact ih b ln
    cases b
    · unfold skipF
      split
      · exact step _ _
      · split
        · exact step _ _
        · split
          · exact step _ _
          · simp
    · unfold skipF
      split
      · exact step _ _
      · exact step _ _
theorem long_pre (l : List UInt8) (cs : List (List UInt8)) (b : List UInt8) (hb : b <+: l) : cs.foldl (stepL l) b <+: l := by
  induction cs generalizing b with
  | nil => exact hb
  | cons c cs ih =>
    refine ih _ ?_
    unfold stepL
    split
    · rename_i h
      simp only [Bool.and_eq_true, List.isPrefixOf_iff_prefix] at h
      exact h.1
    · exact hb
theorem longF_pre (l : List UInt8) (cs : List (List UInt8)) : longF l cs <+: l := long_pre l cs [] (List.nil_prefix)
theorem runF_pre (l : List UInt8) : runF l <+: l := List.takeWhile_prefix _
/-- A token that is none of the faulty ones is ahead in the list, and has a text. -/
theorem oneF_pre (l : List UInt8) (line : Nat) (h : (oneF l line).2 = 0) : (oneF l line).1.text <+: l ∧ 0 < (oneF l line).1.text.length ∧ (oneF l line).1.line = line := by
  cases l with
  | nil => simp [oneF] at h
  | cons c r =>
    unfold oneF at h ⊢
    simp only at h ⊢
    split
    · rename_i hc
      refine ⟨runF_pre _, ?_, rfl⟩
      have : wordC c = true := by
        unfold wordC
        simp only [Bool.or_eq_true] at hc ⊢
        exact .inl (.inl hc)
      simp [runF, List.takeWhile, this]
    · rename_i h1
      rw [if_neg h1] at h
      split
      · rename_i hd
        refine ⟨runF_pre _, ?_, rfl⟩
        have : wordC c = true := by simp [wordC, hd]
        simp [numberF, runF, List.takeWhile, this]
      · rename_i h2
        rw [if_neg h2] at h
        split
        · rename_i h3
          rw [if_pos h3] at h
          subst h3
          split
          · rename_i h4
            rw [if_pos h4] at h
            split
            · rename_i h5
              rw [if_pos h5] at h
              simp at h
            · refine ⟨?_, by simp [numberF], rfl⟩
              cases r with
              | nil => simp at h4
              | cons d r =>
                simp at h4
                subst h4
                simp only [numberF, List.drop_succ_cons, List.drop_zero]
                exact (List.prefix_cons_inj _).2 ((List.prefix_cons_inj _).2 (runF_pre _))
          · rename_i h4
            rw [if_neg h4] at h
            split
            · rename_i h5
              rw [if_pos h5] at h
              simp at h
            · refine ⟨?_, by simp [numberF], rfl⟩
              simp only [numberF]
              exact (List.prefix_cons_inj _).2 (runF_pre _)
        · rename_i h3
          rw [if_neg h3] at h
          split
          · rename_i h4
            exact ⟨longF_pre _ _, by simp only; omega, rfl⟩
          · rename_i h4
            rw [if_neg h4] at h
            split
            · rename_i h5
              rw [if_pos h5] at h
              simp at h
            · rename_i h5
              exact ⟨longF_pre _ _, List.length_pos_iff.2 h5, rfl⟩
end Go.Proofs.YtlnmicddobgppaaGreatDoor
