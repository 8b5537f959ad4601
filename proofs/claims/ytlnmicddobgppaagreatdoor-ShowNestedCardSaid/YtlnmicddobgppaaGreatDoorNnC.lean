/-
  Sources as tokens, in plain words (layer 7): what the document's Lex and the program's Lex both come to. No conditions.
-/
import Derived.Test.YtlnmicddobgppaaGreatDoorNnB
namespace Go.Proofs.YtlnmicddobgppaaGreatDoor
set_option linter.unusedSimpArgs false
set_option linter.unusedVariables false
open Go.RowKit
structure TokV where
 kind : Int
 text : List UInt8
 flt : Bool
 bits : Nat
 line : Nat
deriving DecidableEq
def smallC (c : UInt8) : Bool := 97 ≤ c && c ≤ 122
def capC (c : UInt8) : Bool := 65 ≤ c && c ≤ 90
def digC (c : UInt8) : Bool := 48 ≤ c && c ≤ 57
def wordC (c : UInt8) : Bool := smallC c || capC c || digC c || c == 95
def runF (l : List UInt8) : List UInt8 := l.takeWhile wordC
def wordsL : List (List UInt8) := [[108, 101, 116], [105, 110], [99, 97, 115, 101], [111, 102], [100, 97, 116, 97]]
def backsL : List (List UInt8) := [[119, 101, 97, 107], [100, 101, 114, 101, 102], [115, 101, 113], [102, 108, 111, 97, 116], [116, 114, 117, 110, 99]]
def kindF (s : List UInt8) : Int := if s ∈ wordsL then 5 else if s ∈ backsL then 7 else if (s.head?.map capC).getD false then 2 else 1
def opsL : List (List UInt8) := [[43], [45], [42], [47], [37], [61, 61], [60], [43, 46], [45, 46], [42, 46], [47, 46], [61, 61, 46], [60, 46]]
def punctsL : List (List UInt8) := [[40], [41], [123], [125], [59], [61], [45, 62], [92]]
def stepL (l best c : List UInt8) : List UInt8 := if c.isPrefixOf l && decide (best.length < c.length) then c else best
def longF (l : List UInt8) (cs : List (List UInt8)) : List UInt8 := cs.foldl (stepL l) []
def unBool : Value → Bool
 | .bool f => f
 | _ => false
def unInt : Value → Int
 | .int _ b => b
 | _ => 0
def unAgg : Value → Array Value
 | .agg a => a
 | .tuple a => a
 | _ => #[]
def numOf (s : List UInt8) : Bool × Nat × Int :=
 let p := unAgg (refV s)
 let q := unAgg (p.getD 0 .nilIface)
 (unBool (q.getD 0 .nilIface), (unInt (q.getD 1 .nilIface)).toNat, unInt (p.getD 1 .nilIface))
theorem numOf_of {s : List UInt8} {f : Bool} {b : Nat} {e : Int} (h : refV s = .tuple #[.agg #[.bool f, .int .u64 (b : Int)], .int .i64 e]) : numOf s = (f, b, e) := by
 unfold numOf
 rw [h]
 rfl
def hashOff (s : List UInt8) : List UInt8 := if s.head? = some 35 then s.drop 1 else s
def numberF (s : List UInt8) (line : Nat) : TokV × Int := (⟨3, s, (numOf (hashOff s)).1, (numOf (hashOff s)).2.1, line⟩, (numOf (hashOff s)).2.2)
def none_ (line : Nat) : TokV := ⟨0, [], false, 0, line⟩
def oneF (l : List UInt8) (line : Nat) : TokV × Int :=
 match l with
 | [] => (none_ line, 3)
 | c :: r =>
  if smallC c || capC c then (⟨kindF (runF l), runF l, false, 0, line⟩, if 16 < (runF l).length then 9 else 0)
  else if digC c then numberF (runF l) line
  else if c = 35 then
   if r.head? = some 45 then (if runF (r.drop 1) = [] then (none_ line, 3) else numberF (35 :: 45 :: runF (r.drop 1)) line)
   else (if runF r = [] then (none_ line, 3) else numberF (35 :: runF r) line)
  else if (longF l opsL).length < (longF l punctsL).length then (⟨6, longF l punctsL, false, 0, line⟩, 0)
  else if longF l opsL = [] then (none_ line, 3)
  else (⟨4, longF l opsL, false, 0, line⟩, 0)
def skipF : Bool → List UInt8 → Nat → List UInt8 × Nat
 | _, [], line => ([], line)
 | true, c :: r, line => if c = 10 then skipF false r (line + 1) else skipF true r line
 | false, c :: r, line =>
  if c = 45 ∧ r.head? = some 45 then skipF true r line
  else if c = 10 then skipF false r (line + 1)
  else if c = 9 ∨ c = 13 ∨ c = 32 then skipF false r line
  else (c :: r, line)
structure LexV where
 toks : List TokV
 err : Int
 line : Nat
deriving DecidableEq
def lexG : Nat → List TokV → List UInt8 → Nat → LexV
 | 0, acc, _, _ => ⟨acc, 0, 0⟩
 | n + 1, acc, l, line =>
  if l = [] then ⟨acc, 0, 0⟩ else
  let (t, e) := oneF l line
  let e := if e = 0 ∧ acc.length = 4096 then 2 else e
  if e ≠ 0 then ⟨[], e, line⟩ else
  let (l', line') := skipF false (l.drop t.text.length) line
  lexG n (acc ++ [t]) l' line'
def lexF (s : List UInt8) : LexV :=
 let (l, line) := skipF false s 1
 lexG (s.length + 1) [] l line
theorem skipF_len (b : Bool) (l : List UInt8) (line : Nat) : (skipF b l line).1.length ≤ l.length := by
 induction l generalizing b line with
 | nil => cases b <;> simp [skipF]
 | cons c r ih =>
  cases b
  · unfold skipF
    split
    · have := ih true line; simp; omega
    · split
      · have := ih false (line + 1); simp; omega
      · split
        · have := ih false line; simp; omega
        · simp
  · unfold skipF
    split
    · have := ih false (line + 1); simp; omega
    · have := ih true line; simp; omega
theorem skipF_line (b : Bool) (l : List UInt8) (line : Nat) : line ≤ (skipF b l line).2 ∧ (skipF b l line).2 + (skipF b l line).1.length ≤ line + l.length := by
 induction l generalizing b line with
 | nil => cases b <;> simp [skipF]
 | cons c r ih =>
  cases b
  · unfold skipF
    split
    · have := ih true line; simp; omega
    · split
      · have := ih false (line + 1); simp; omega
      · split
        · have := ih false line; simp; omega
        · simp
  · unfold skipF
    split
    · have := ih false (line + 1); simp; omega
    · have := ih true line; simp; omega
theorem skipF_drop (b : Bool) (l : List UInt8) (line : Nat) : (skipF b l line).1 = l.drop (l.length - (skipF b l line).1.length) := by
 induction l generalizing b line with
 | nil => cases b <;> simp [skipF]
 | cons c r ih =>
  have step : ∀ (b : Bool) (ln : Nat), (skipF b r ln).1 = (c :: r).drop ((c :: r).length - (skipF b r ln).1.length) := by
   intro b ln
   have h1 := skipF_len b r ln
   rw [show (c :: r).length - (skipF b r ln).1.length = (r.length - (skipF b r ln).1.length) + 1 by simp; omega, List.drop_succ_cons]
   exact ih b ln
  cases b
  · unfold skipF
    split
    · exact step _ _
    · split
      · exact step _ _
      · split
        · exact step _ _
        · simp
  · unfold skipF
    split
    · exact step _ _
    · exact step _ _
theorem long_pre (l : List UInt8) (cs : List (List UInt8)) (b : List UInt8) (hb : b <+: l) : cs.foldl (stepL l) b <+: l := by
 induction cs generalizing b with
 | nil => exact hb
 | cons c cs ih =>
  refine ih _ ?_
  unfold stepL
  split
  · rename_i h
    simp only [Bool.and_eq_true, List.isPrefixOf_iff_prefix] at h
    exact h.1
  · exact hb
theorem longF_pre (l : List UInt8) (cs : List (List UInt8)) : longF l cs <+: l := long_pre l cs [] (List.nil_prefix)
theorem runF_pre (l : List UInt8) : runF l <+: l := List.takeWhile_prefix _
theorem oneF_pre (l : List UInt8) (line : Nat) (h : (oneF l line).2 = 0) : (oneF l line).1.text <+: l ∧ 0 < (oneF l line).1.text.length ∧ (oneF l line).1.line = line := by
 cases l with
 | nil => simp [oneF] at h
 | cons c r =>
  unfold oneF at h ⊢
  simp only at h ⊢
  split
  · rename_i hc
    refine ⟨runF_pre _, ?_, rfl⟩
    have : wordC c = true := by
     unfold wordC
     simp only [Bool.or_eq_true] at hc ⊢
     exact .inl (.inl hc)
    simp [runF, List.takeWhile, this]
  · rename_i h1
    rw [if_neg h1] at h
    split
    · rename_i hd
      refine ⟨runF_pre _, ?_, rfl⟩
      have : wordC c = true := by simp [wordC, hd]
      simp [numberF, runF, List.takeWhile, this]
    · rename_i h2
      rw [if_neg h2] at h
      split
      · rename_i h3
        rw [if_pos h3] at h
        subst h3
        split
        · rename_i h4
          rw [if_pos h4] at h
          split
          · rename_i h5
            rw [if_pos h5] at h
            simp at h
          · refine ⟨?_, by simp [numberF], rfl⟩
            cases r with
            | nil => simp at h4
            | cons d r =>
             simp at h4
             subst h4
             simp only [numberF, List.drop_succ_cons, List.drop_zero]
             exact (List.prefix_cons_inj _).2 ((List.prefix_cons_inj _).2 (runF_pre _))
        · rename_i h4
          rw [if_neg h4] at h
          split
          · rename_i h5
            rw [if_pos h5] at h
            simp at h
          · refine ⟨?_, by simp [numberF], rfl⟩
            simp only [numberF]
            exact (List.prefix_cons_inj _).2 (runF_pre _)
      · rename_i h3
        rw [if_neg h3] at h
        split
        · rename_i h4
          exact ⟨longF_pre _ _, by simp only; omega, rfl⟩
        · rename_i h4
          rw [if_neg h4] at h
          split
          · rename_i h5
            rw [if_pos h5] at h
            simp at h
          · rename_i h5
            exact ⟨longF_pre _ _, List.length_pos_iff.2 h5, rfl⟩
mutual
inductive TE
 | mk (kind : Nat) (name : List UInt8) (flt : Bool) (bits : Nat) (params : List (List UInt8)) (kids : List TE) (binds : List TB) (alts : List TA)
inductive TB
 | mk (name : List UInt8) (params : List (List UInt8)) (body : TE)
inductive TA
 | mk (kind : Nat) (name : List UInt8) (flt : Bool) (bits : Nat) (names : List (List UInt8)) (body : TE)
end
def TE.kind : TE → Nat | .mk k _ _ _ _ _ _ _ => k
def TE.name : TE → List UInt8 | .mk _ n _ _ _ _ _ _ => n
def TE.flt : TE → Bool | .mk _ _ f _ _ _ _ _ => f
def TE.bits : TE → Nat | .mk _ _ _ b _ _ _ _ => b
def TE.params : TE → List (List UInt8) | .mk _ _ _ _ p _ _ _ => p
def TE.kids : TE → List TE | .mk _ _ _ _ _ k _ _ => k
def TE.binds : TE → List TB | .mk _ _ _ _ _ _ b _ => b
def TE.alts : TE → List TA | .mk _ _ _ _ _ _ _ a => a
def TB.name : TB → List UInt8 | .mk n _ _ => n
def TB.params : TB → List (List UInt8) | .mk _ p _ => p
def TB.body : TB → TE | .mk _ _ b => b
def TA.kind : TA → Nat | .mk k _ _ _ _ _ => k
def TA.name : TA → List UInt8 | .mk _ n _ _ _ _ => n
def TA.flt : TA → Bool | .mk _ _ f _ _ _ => f
def TA.bits : TA → Nat | .mk _ _ _ b _ _ => b
def TA.names : TA → List (List UInt8) | .mk _ _ _ _ n _ => n
def TA.body : TA → TE | .mk _ _ _ _ _ b => b
def zeroE : TE := .mk 0 [] false 0 [] [] [] []
structure PS where
 at_ : Nat
 e : Nat
 line : Nat
deriving DecidableEq
section
variable (L : List TokV)
def faultF (e : Nat) (s : PS) : PS :=
 if s.e ≠ 0 then s else
 match L[s.at_]? with
 | some t => ⟨s.at_, e, t.line⟩
 | none => ⟨s.at_, 17, (L.getLast?.map (·.line)).getD 1⟩
def kindP (s : PS) : Int := (L[s.at_]?.map (·.kind)).getD 0
def seesF (x : List UInt8) (s : PS) : Bool :=
 match L[s.at_]? with
 | some t => (decide (t.kind = 5) || decide (t.kind = 6)) && decide (t.text = x)
 | none => false
def needF (x : List UInt8) (s : PS) : PS := if s.e = 0 ∧ seesF L x s = true then { s with at_ := s.at_ + 1 } else faultF L 3 s
def tokenF (k : Int) (s : PS) : TokV × PS := if s.e = 0 ∧ kindP L s = k then (L[s.at_]?.getD (none_ 0), { s with at_ := s.at_ + 1 }) else (none_ 0, faultF L 3 s)
def namesF : Nat → Bool → List (List UInt8) → PS → List (List UInt8) × PS
 | 0, _, acc, s => (acc, s)
 | n + 1, least, acc, s => if s.e = 0 ∧ (least = true ∨ kindP L s = 1) then namesF n false (acc ++ [(tokenF L 1 s).1.text]) (tokenF L 1 s).2 else (acc, s)
def fuelP : Nat := L.length + 2
variable (ex : PS → TE × PS)
def bindF (s : PS) : TB × PS :=
 let p := namesF L (fuelP L) true [] s
 let q := ex (needF L [61] p.2)
 (.mk (p.1.headD []) p.1.tail q.1, q.2)
def altHead (s : PS) : (TE → TA) × PS :=
 if kindP L s = 2 then
  let t := tokenF L 2 s
  let p := namesF L (fuelP L) false [] t.2
  (fun b => .mk 0 t.1.text false 0 p.1 b, p.2)
 else if kindP L s = 3 then
  let t := tokenF L 3 s
  (fun b => .mk 1 [] t.1.flt t.1.bits [] b, t.2)
 else
  let t := tokenF L 1 s
  (fun b => .mk 2 t.1.text false 0 [] b, t.2)
def altF (s : PS) : TA × PS :=
 let h := altHead L s
 let q := ex (needF L [45, 62] h.2)
 (h.1 q.1, q.2)
def atomsF : Nat → List TE → PS → List TE × PS
 | 0, acc, s => (acc, s)
 | n + 1, acc, s =>
  if s.e ≠ 0 then (acc, s)
  else if kindP L s = 1 then atomsF n (acc ++ [.mk 1 (tokenF L 1 s).1.text false 0 [] [] [] []]) (tokenF L 1 s).2
  else if kindP L s = 2 then atomsF n (acc ++ [.mk 2 (tokenF L 2 s).1.text false 0 [] [] [] []]) (tokenF L 2 s).2
  else if kindP L s = 7 then atomsF n (acc ++ [.mk 5 (tokenF L 7 s).1.text false 0 [] [] [] []]) (tokenF L 7 s).2
  else if kindP L s = 3 then atomsF n (acc ++ [.mk 3 [] (tokenF L 3 s).1.flt (tokenF L 3 s).1.bits [] [] [] []]) (tokenF L 3 s).2
  else if seesF L [40] s = false then (acc, s)
  else atomsF n (acc ++ [(ex { s with at_ := s.at_ + 1 }).1]) (needF L [41] (ex { s with at_ := s.at_ + 1 }).2)
def TE.withKids : TE → List TE → TE | .mk k n f b p _ bs al, ks => .mk k n f b p ks bs al
def rowF (s : PS) : TE × PS :=
 let p := atomsF L ex (fuelP L) [] s
 match p.1 with
 | [] => (zeroE, faultF L 3 p.2)
 | [e] => (e, p.2)
 | e :: r => if kindP L s = 2 ∨ kindP L s = 7 then (e.withKids r, p.2) else (.mk 4 [] false 0 [] (e :: r) [] [], p.2)
def startsF (s : PS) : Bool :=
 if kindP L s = 1 ∨ kindP L s = 2 ∨ kindP L s = 3 ∨ kindP L s = 7 then true
 else seesF L [108, 101, 116] s || seesF L [99, 97, 115, 101] s || seesF L [40] s || seesF L [92] s
def bindsF : Nat → List TB → PS → List TB × PS
 | 0, acc, s => (acc, s)
 | n + 1, acc, s => if s.e = 0 ∧ seesF L [59] s = true then bindsF n (acc ++ [(bindF L ex { s with at_ := s.at_ + 1 }).1]) (bindF L ex { s with at_ := s.at_ + 1 }).2 else (acc, s)
def altsF : Nat → List TA → PS → List TA × PS
 | 0, acc, s => (acc, s)
 | n + 1, acc, s => if s.e = 0 ∧ seesF L [59] s = true then altsF n (acc ++ [(altF L ex { s with at_ := s.at_ + 1 }).1]) (altF L ex { s with at_ := s.at_ + 1 }).2 else (acc, s)
def choiceF (s : PS) : TE × PS :=
 let h := ex { s with at_ := s.at_ + 1 }
 let s1 := needF L [123] (needF L [111, 102] h.2)
 if s1.e = 0 ∧ seesF L [125] s1 = true then (.mk 7 [] false 0 [] [h.1] [] [], { s1 with at_ := s1.at_ + 1 })
 else
  let a := altF L ex s1
  let r := altsF L ex (fuelP L) [a.1] a.2
  (.mk 7 [] false 0 [] [h.1] [] r.1, needF L [125] r.2)
def letF (s : PS) : TE × PS :=
 let b := bindF L ex { s with at_ := s.at_ + 1 }
 let r := bindsF L ex (fuelP L) [b.1] b.2
 let q := ex (needF L [105, 110] r.2)
 (.mk 6 [] false 0 [] [q.1] r.1 [], q.2)
def lamF (s : PS) : TE × PS :=
 let p := namesF L (fuelP L) true [] { s with at_ := s.at_ + 1 }
 let q := ex (needF L [45, 62] p.2)
 (.mk 8 [] false 0 p.1 [q.1] [] [], q.2)
def opF (s : PS) : TE × PS :=
 let r := rowF L ex s
 if r.2.e = 0 ∧ kindP L r.2 = 4 then
  let t := tokenF L 4 r.2
  let q := rowF L ex t.2
  (.mk 5 t.1.text false 0 [] [r.1, q.1] [] [], q.2)
 else r
def exprStep (s : PS) : TE × PS :=
 if s.e ≠ 0 then (zeroE, s)
 else if seesF L [108, 101, 116] s = true then letF L ex s
 else if seesF L [99, 97, 115, 101] s = true then choiceF L ex s
 else if seesF L [92] s = true then lamF L ex s
 else opF L ex s
end
def exprF (L : List TokV) : Nat → PS → TE × PS
 | 0, s => if s.e ≠ 0 then (zeroE, s) else (zeroE, faultF L 3 (if startsF L s = true then faultF L 12 s else s))
 | d + 1, s => exprStep L (exprF L d) s
section
variable (L : List TokV)
def dataF : Nat → List (List UInt8 × Nat) → PS → List (List UInt8 × Nat) × PS
 | 0, acc, s => (acc, s)
 | n + 1, acc, s =>
  if s.e = 0 ∧ kindP L s = 2 then
   let t := tokenF L 2 s
   let s1 := if kindP L t.2 = 3 then (if (L[t.2.at_]?.getD (none_ 0)).flt = true ∨ 24 < (L[t.2.at_]?.getD (none_ 0)).bits then faultF L 1 t.2 else t.2) else t.2
   let u := tokenF L 3 s1
   dataF n (acc ++ [(t.1.text, u.1.bits)]) u.2
  else (acc, s)
structure TM where
 cons : List (List UInt8 × Nat)
 binds : List TB
def modF : Nat → TM → PS → TM × PS
 | 0, m, s => (m, s)
 | n + 1, m, s =>
  if s.e = 0 ∧ s.at_ < L.length then
   if seesF L [100, 97, 116, 97] s = true then
    let d := dataF L (fuelP L) [] { s with at_ := s.at_ + 1 }
    modF n ⟨m.cons ++ d.1, m.binds⟩ (needF L [59] d.2)
   else
    let b := bindF L (exprF L 200) s
    modF n ⟨m.cons, m.binds ++ [b.1]⟩ (needF L [59] b.2)
  else (m, s)
def tokensF : TM × Nat × Nat :=
 let r := modF L (fuelP L) ⟨[], []⟩ ⟨0, 0, 0⟩
 if r.2.e ≠ 0 then (⟨[], []⟩, r.2.e, r.2.line) else (r.1, 0, 0)
end
def parseF (s : List UInt8) : TM × Int × Nat :=
 if (lexF s).err ≠ 0 then (⟨[], []⟩, (lexF s).err, (lexF s).line) else
 ((tokensF (lexF s).toks).1, ((tokensF (lexF s).toks).2.1 : Int), (tokensF (lexF s).toks).2.2)
structure Goes (L : List TokV) (s t : PS) : Prop where
 up : s.at_ ≤ t.at_
 le : s.at_ ≤ L.length → t.at_ ≤ L.length
 er : s.e ≠ 0 → t.e ≠ 0
def measP (L : List TokV) (s : PS) : Nat := if s.e = 0 then L.length - s.at_ + 1 else 0
theorem measP_le (L : List TokV) (s : PS) : measP L s + 1 ≤ fuelP L := by
 unfold measP fuelP
 split <;> omega
theorem Goes.refl (L : List TokV) (s : PS) : Goes L s s := ⟨Nat.le_refl _, id, id⟩
theorem Goes.trans {L : List TokV} {s t u : PS} (h : Goes L s t) (g : Goes L t u) : Goes L s u := ⟨Nat.le_trans h.up g.up, fun q => g.le (h.le q), fun q => g.er (h.er q)⟩
theorem Goes.step {L : List TokV} {s : PS} (h : s.at_ < L.length) : Goes L s { s with at_ := s.at_ + 1 } := ⟨Nat.le_succ _, fun _ => h, id⟩
theorem measP_lt {L : List TokV} {s t : PS} (h0 : s.e = 0) (hl : s.at_ < L.length) (h : Goes L { s with at_ := s.at_ + 1 } t) : measP L t < measP L s := by
 have := h.up
 simp only at this
 unfold measP
 rw [if_pos h0]
 split <;> omega
theorem measP_bad {L : List TokV} {s t : PS} (h0 : s.e = 0) (h : t.e ≠ 0) : measP L t < measP L s := by
 unfold measP
 rw [if_pos h0, if_neg h]
 omega
section
variable {L : List TokV}
theorem fault_goes {e : Nat} {s : PS} (he : e ≠ 0) : Goes L s (faultF L e s) ∧ (faultF L e s).e ≠ 0 ∧ (faultF L e s).at_ = s.at_ := by
 unfold faultF
 by_cases h : s.e = 0
 · rw [if_neg (by simpa using h)]
   split
   · exact ⟨⟨Nat.le_refl _, id, fun _ => he⟩, he, rfl⟩
   · exact ⟨⟨Nat.le_refl _, id, fun _ => by simp⟩, by simp, rfl⟩
 · rw [if_pos h]
   exact ⟨Goes.refl _ _, h, rfl⟩
theorem kind_lt {s : PS} {k : Int} (h : kindP L s = k) (hk : k ≠ 0) : s.at_ < L.length := by
 rcases Nat.lt_or_ge s.at_ L.length with q | q
 · exact q
 · unfold kindP at h
   rw [List.getElem?_eq_none q] at h
   exact absurd h.symm hk
theorem sees_lt {x : List UInt8} {s : PS} (h : seesF L x s = true) : s.at_ < L.length := by
 rcases Nat.lt_or_ge s.at_ L.length with q | q
 · exact q
 · unfold seesF at h
   rw [List.getElem?_eq_none q] at h
   cases h
theorem need_goes (x : List UInt8) (s : PS) : Goes L s (needF L x s) := by
 unfold needF
 split
 · rename_i h; exact Goes.step (sees_lt h.2)
 · exact (fault_goes (by decide)).1
theorem token_goes {k : Int} (hk : k ≠ 0) (s : PS) : Goes L s (tokenF L k s).2 := by
 unfold tokenF
 split
 · rename_i h; exact Goes.step (kind_lt h.2 hk)
 · exact (fault_goes (by decide)).1
theorem token_ok {k : Int} {s : PS} (h0 : s.e = 0) (h : kindP L s = k) : (tokenF L k s).2 = { s with at_ := s.at_ + 1 } := by
 unfold tokenF
 rw [if_pos ⟨h0, h⟩]
theorem token_meas {k : Int} (hk : k ≠ 0) {s : PS} (h0 : s.e = 0) : measP L (tokenF L k s).2 < measP L s := by
 unfold tokenF
 split
 · rename_i h; exact measP_lt h0 (kind_lt h.2 hk) (Goes.refl _ _)
 · exact measP_bad h0 (fault_goes (by decide)).2.1
theorem names_goes : ∀ (n : Nat) (least : Bool) (acc : List (List UInt8)) (s : PS), Goes L s (namesF L n least acc s).2
 | 0, _, _, s => Goes.refl _ _
 | n + 1, least, acc, s => by
  unfold namesF
  split
  · exact (token_goes (by decide) s).trans (names_goes n _ _ _)
  · exact Goes.refl _ _
variable {ex : PS → TE × PS} (hex : ∀ s, Goes L s (ex s).2)
include hex
theorem bind_goes (s : PS) : Goes L s (bindF L ex s).2 := by
 unfold bindF
 exact ((names_goes _ _ _ s).trans (need_goes _ _)).trans (hex _)
omit hex in
theorem altHead_goes (s : PS) : Goes L s (altHead L s).2 := by
 unfold altHead
 split
 · exact (token_goes (by decide) s).trans (names_goes _ _ _ _)
 · split
   · exact token_goes (by decide) s
   · exact token_goes (by decide) s
theorem alt_goes (s : PS) : Goes L s (altF L ex s).2 := by
 unfold altF
 exact ((altHead_goes s).trans (need_goes _ _)).trans (hex _)
theorem atoms_goes : ∀ (n : Nat) (acc : List TE) (s : PS), Goes L s (atomsF L ex n acc s).2
 | 0, _, s => Goes.refl _ _
 | n + 1, acc, s => by
  unfold atomsF
  split
  · exact Goes.refl _ _
  · split
    · exact (token_goes (by decide) s).trans (atoms_goes n _ _)
    · split
      · exact (token_goes (by decide) s).trans (atoms_goes n _ _)
      · split
        · exact (token_goes (by decide) s).trans (atoms_goes n _ _)
        · split
          · exact (token_goes (by decide) s).trans (atoms_goes n _ _)
          · split
            · exact Goes.refl _ _
            · rename_i h
              exact (((Goes.step (sees_lt (by simpa using h))).trans (hex _)).trans (need_goes _ _)).trans (atoms_goes n _ _)
theorem row_goes (s : PS) : Goes L s (rowF L ex s).2 := by
 have h := atoms_goes hex (fuelP L) [] s
 unfold rowF
 generalize atomsF L ex (fuelP L) [] s = p at h ⊢
 obtain ⟨l, t⟩ := p
 rcases l with _ | ⟨e, _ | ⟨e2, r⟩⟩
 · exact h.trans (fault_goes (by decide)).1
 · exact h
 · dsimp only at h ⊢
   split
   · exact h
   · exact h
theorem binds_goes : ∀ (n : Nat) (acc : List TB) (s : PS), Goes L s (bindsF L ex n acc s).2
 | 0, _, s => Goes.refl _ _
 | n + 1, acc, s => by
  unfold bindsF
  split
  · rename_i h
    exact ((Goes.step (sees_lt h.2)).trans (bind_goes hex _)).trans (binds_goes n _ _)
  · exact Goes.refl _ _
theorem alts_goes : ∀ (n : Nat) (acc : List TA) (s : PS), Goes L s (altsF L ex n acc s).2
 | 0, _, s => Goes.refl _ _
 | n + 1, acc, s => by
  unfold altsF
  split
  · rename_i h
    exact ((Goes.step (sees_lt h.2)).trans (alt_goes hex _)).trans (alts_goes n _ _)
  · exact Goes.refl _ _
theorem choice_goes {s : PS} (hs : s.at_ < L.length) : Goes L s (choiceF L ex s).2 := by
 have h1 := (((Goes.step hs).trans (hex _)).trans (need_goes [111, 102] _)).trans (need_goes [123] _)
 unfold choiceF
 simp only
 split
 · rename_i h
   exact h1.trans (Goes.step (sees_lt h.2))
 · exact ((h1.trans (alt_goes hex _)).trans (alts_goes hex _ _ _)).trans (need_goes _ _)
theorem let_goes {s : PS} (hs : s.at_ < L.length) : Goes L s (letF L ex s).2 := by
 unfold letF
 exact ((((Goes.step hs).trans (bind_goes hex _)).trans (binds_goes hex _ _ _)).trans (need_goes _ _)).trans (hex _)
theorem lam_goes {s : PS} (hs : s.at_ < L.length) : Goes L s (lamF L ex s).2 := by
 unfold lamF
 exact (((Goes.step hs).trans (names_goes _ _ _ _)).trans (need_goes _ _)).trans (hex _)
theorem op_goes (s : PS) : Goes L s (opF L ex s).2 := by
 have h := row_goes hex s
 unfold opF
 simp only
 split
 · exact (h.trans (token_goes (by decide) _)).trans (row_goes hex _)
 · exact h
theorem step_goes (s : PS) : Goes L s (exprStep L ex s).2 := by
 unfold exprStep
 split
 · exact Goes.refl _ _
 · split
   · rename_i h; exact let_goes hex (sees_lt h)
   · split
     · rename_i h; exact choice_goes hex (sees_lt h)
     · split
       · rename_i h; exact lam_goes hex (sees_lt h)
       · exact op_goes hex s
end
theorem expr_goes (L : List TokV) : ∀ (d : Nat) (s : PS), Goes L s (exprF L d s).2
 | 0, s => by
  unfold exprF
  split
  · exact Goes.refl _ _
  · split
    · exact (fault_goes (by decide)).1.trans (fault_goes (by decide)).1
    · exact (fault_goes (by decide)).1
 | d + 1, s => by
  unfold exprF
  exact step_goes (expr_goes L d) s
end Go.Proofs.YtlnmicddobgppaaGreatDoor
