/-
  Modules as trees, in plain words (layer 8): what the document's Parse comes to, rule by rule. No conditions.
-/
import Derived.Test.YtlnmicddobgppaaGreatDoorLexF
namespace Go.Proofs.YtlnmicddobgppaaGreatDoor
set_option linter.unusedSimpArgs false
set_option linter.unusedVariables false

mutual
/-- An expression. -/
inductive TE
  | mk (kind : Nat) (name : List UInt8) (flt : Bool) (bits : Nat) (params : List (List UInt8)) (kids : List TE) (binds : List TB) (alts : List TA)
/-- A bind. -/
inductive TB
  | mk (name : List UInt8) (params : List (List UInt8)) (body : TE)
/-- An alternative. -/
inductive TA
  | mk (kind : Nat) (name : List UInt8) (flt : Bool) (bits : Nat) (names : List (List UInt8)) (body : TE)
end
def TE.kind : TE → Nat | .mk k _ _ _ _ _ _ _ => k
def TE.name : TE → List UInt8 | .mk _ n _ _ _ _ _ _ => n
def TE.flt : TE → Bool | .mk _ _ f _ _ _ _ _ => f
def TE.bits : TE → Nat | .mk _ _ _ b _ _ _ _ => b
def TE.params : TE → List (List UInt8) | .mk _ _ _ _ p _ _ _ => p
def TE.kids : TE → List TE | .mk _ _ _ _ _ k _ _ => k
def TE.binds : TE → List TB | .mk _ _ _ _ _ _ b _ => b
def TE.alts : TE → List TA | .mk _ _ _ _ _ _ _ a => a
def TB.name : TB → List UInt8 | .mk n _ _ => n
def TB.params : TB → List (List UInt8) | .mk _ p _ => p
def TB.body : TB → TE | .mk _ _ b => b
def TA.kind : TA → Nat | .mk k _ _ _ _ _ => k
def TA.name : TA → List UInt8 | .mk _ n _ _ _ _ => n
def TA.flt : TA → Bool | .mk _ _ f _ _ _ => f
def TA.bits : TA → Nat | .mk _ _ _ b _ _ => b
def TA.names : TA → List (List UInt8) | .mk _ _ _ _ n _ => n
def TA.body : TA → TE | .mk _ _ _ _ _ b => b
def zeroE : TE := .mk 0 [] false 0 [] [] [] []

/-- How far tokens are read, and the first fault. -/
structure PS where
  at_ : Nat
  e : Nat
  line : Nat
deriving DecidableEq
section
variable (L : List TokV)
def faultF (e : Nat) (s : PS) : PS :=
  if s.e ≠ 0 then s else
  match L[s.at_]? with
  | some t => ⟨s.at_, e, t.line⟩
  | none => ⟨s.at_, 17, (L.getLast?.map (·.line)).getD 1⟩
def kindP (s : PS) : Int := (L[s.at_]?.map (·.kind)).getD 0
def seesF (x : List UInt8) (s : PS) : Bool :=
  match L[s.at_]? with
  | some t => (decide (t.kind = 5) || decide (t.kind = 6)) && decide (t.text = x)
  | none => false
def needF (x : List UInt8) (s : PS) : PS := if s.e = 0 ∧ seesF L x s = true then { s with at_ := s.at_ + 1 } else faultF L 3 s
def tokenF (k : Int) (s : PS) : TokV × PS := if s.e = 0 ∧ kindP L s = k then (L[s.at_]?.getD (none_ 0), { s with at_ := s.at_ + 1 }) else (none_ 0, faultF L 3 s)
def namesF : Nat → Bool → List (List UInt8) → PS → List (List UInt8) × PS
  | 0, _, acc, s => (acc, s)
  | n + 1, least, acc, s => if s.e = 0 ∧ (least = true ∨ kindP L s = 1) then namesF n false (acc ++ [(tokenF L 1 s).1.text]) (tokenF L 1 s).2 else (acc, s)
/-- So many rounds are enough for every loop. -/
def fuelP : Nat := L.length + 2
variable (ex : PS → TE × PS)
def bindF (s : PS) : TB × PS :=
  let p := namesF L (fuelP L) true [] s
  let q := ex (needF L [61] p.2)
  (.mk (p.1.headD []) p.1.tail q.1, q.2)
def altHead (s : PS) : (TE → TA) × PS :=
  if kindP L s = 2 then
    let t := tokenF L 2 s
    let p := namesF L (fuelP L) false [] t.2
    (fun b => .mk 0 t.1.text false 0 p.1 b, p.2)
  else if kindP L s = 3 then
    let t := tokenF L 3 s
    (fun b => .mk 1 [] t.1.flt t.1.bits [] b, t.2)
  else
    let t := tokenF L 1 s
    (fun b => .mk 2 t.1.text false 0 [] b, t.2)
def altF (s : PS) : TA × PS :=
  let h := altHead L s
  let q := ex (needF L [45, 62] h.2)
  (h.1 q.1, q.2)
def atomsF : Nat → List TE → PS → List TE × PS
  | 0, acc, s => (acc, s)
  | n + 1, acc, s =>
    if s.e ≠ 0 then (acc, s)
    else if kindP L s = 1 then atomsF n (acc ++ [.mk 1 (tokenF L 1 s).1.text false 0 [] [] [] []]) (tokenF L 1 s).2
    else if kindP L s = 2 then atomsF n (acc ++ [.mk 2 (tokenF L 2 s).1.text false 0 [] [] [] []]) (tokenF L 2 s).2
    else if kindP L s = 7 then atomsF n (acc ++ [.mk 5 (tokenF L 7 s).1.text false 0 [] [] [] []]) (tokenF L 7 s).2
    else if kindP L s = 3 then atomsF n (acc ++ [.mk 3 [] (tokenF L 3 s).1.flt (tokenF L 3 s).1.bits [] [] [] []]) (tokenF L 3 s).2
    else if seesF L [40] s = false then (acc, s)
    else atomsF n (acc ++ [(ex { s with at_ := s.at_ + 1 }).1]) (needF L [41] (ex { s with at_ := s.at_ + 1 }).2)
def TE.withKids : TE → List TE → TE | .mk k n f b p _ bs al, ks => .mk k n f b p ks bs al
def rowF (s : PS) : TE × PS :=
  let p := atomsF L ex (fuelP L) [] s
  match p.1 with
  | [] => (zeroE, faultF L 3 p.2)
  | [e] => (e, p.2)
  | e :: r => if kindP L s = 2 ∨ kindP L s = 7 then (e.withKids r, p.2) else (.mk 4 [] false 0 [] (e :: r) [] [], p.2)
def startsF (s : PS) : Bool :=
  if kindP L s = 1 ∨ kindP L s = 2 ∨ kindP L s = 3 ∨ kindP L s = 7 then true
  else seesF L [108, 101, 116] s || seesF L [99, 97, 115, 101] s || seesF L [40] s || seesF L [92] s
def bindsF : Nat → List TB → PS → List TB × PS
  | 0, acc, s => (acc, s)
  | n + 1, acc, s => if s.e = 0 ∧ seesF L [59] s = true then bindsF n (acc ++ [(bindF L ex { s with at_ := s.at_ + 1 }).1]) (bindF L ex { s with at_ := s.at_ + 1 }).2 else (acc, s)
def altsF : Nat → List TA → PS → List TA × PS
  | 0, acc, s => (acc, s)
  | n + 1, acc, s => if s.e = 0 ∧ seesF L [59] s = true then altsF n (acc ++ [(altF L ex { s with at_ := s.at_ + 1 }).1]) (altF L ex { s with at_ := s.at_ + 1 }).2 else (acc, s)
def choiceF (s : PS) : TE × PS :=
  let h := ex { s with at_ := s.at_ + 1 }
  let s1 := needF L [123] (needF L [111, 102] h.2)
  if s1.e = 0 ∧ seesF L [125] s1 = true then (.mk 7 [] false 0 [] [h.1] [] [], { s1 with at_ := s1.at_ + 1 })
  else
    let a := altF L ex s1
    let r := altsF L ex (fuelP L) [a.1] a.2
    (.mk 7 [] false 0 [] [h.1] [] r.1, needF L [125] r.2)
def letF (s : PS) : TE × PS :=
  let b := bindF L ex { s with at_ := s.at_ + 1 }
  let r := bindsF L ex (fuelP L) [b.1] b.2
  let q := ex (needF L [105, 110] r.2)
  (.mk 6 [] false 0 [] [q.1] r.1 [], q.2)
def lamF (s : PS) : TE × PS :=
  let p := namesF L (fuelP L) true [] { s with at_ := s.at_ + 1 }
  let q := ex (needF L [45, 62] p.2)
  (.mk 8 [] false 0 p.1 [q.1] [] [], q.2)
def opF (s : PS) : TE × PS :=
  let r := rowF L ex s
  if r.2.e = 0 ∧ kindP L r.2 = 4 then
    let t := tokenF L 4 r.2
    let q := rowF L ex t.2
    (.mk 5 t.1.text false 0 [] [r.1, q.1] [] [], q.2)
  else r
def exprStep (s : PS) : TE × PS :=
  if s.e ≠ 0 then (zeroE, s)
  else if seesF L [108, 101, 116] s = true then letF L ex s
  else if seesF L [99, 97, 115, 101] s = true then choiceF L ex s
  else if seesF L [92] s = true then lamF L ex s
  else opF L ex s
end
/-- An expression, so many levels deep at most. -/
def exprF (L : List TokV) : Nat → PS → TE × PS
  | 0, s => if s.e ≠ 0 then (zeroE, s) else (zeroE, faultF L 3 (if startsF L s = true then faultF L 12 s else s))
  | d + 1, s => exprStep L (exprF L d) s
section
variable (L : List TokV)
def dataF : Nat → List (List UInt8 × Nat) → PS → List (List UInt8 × Nat) × PS
  | 0, acc, s => (acc, s)
  | n + 1, acc, s =>
    if s.e = 0 ∧ kindP L s = 2 then
      let t := tokenF L 2 s
      let s1 := if kindP L t.2 = 3 then (if (L[t.2.at_]?.getD (none_ 0)).flt = true ∨ 24 < (L[t.2.at_]?.getD (none_ 0)).bits then faultF L 1 t.2 else t.2) else t.2
      let u := tokenF L 3 s1
      dataF n (acc ++ [(t.1.text, u.1.bits)]) u.2
    else (acc, s)
/-- A module of tokens. -/
structure TM where
  cons : List (List UInt8 × Nat)
  binds : List TB
def modF : Nat → TM → PS → TM × PS
  | 0, m, s => (m, s)
  | n + 1, m, s =>
    if s.e = 0 ∧ s.at_ < L.length then
      if seesF L [100, 97, 116, 97] s = true then
        let d := dataF L (fuelP L) [] { s with at_ := s.at_ + 1 }
        modF n ⟨m.cons ++ d.1, m.binds⟩ (needF L [59] d.2)
      else
        let b := bindF L (exprF L 200) s
        modF n ⟨m.cons, m.binds ++ [b.1]⟩ (needF L [59] b.2)
    else (m, s)
def tokensF : TM × Nat × Nat :=
  let r := modF L (fuelP L) ⟨[], []⟩ ⟨0, 0, 0⟩
  if r.2.e ≠ 0 then (⟨[], []⟩, r.2.e, r.2.line) else (r.1, 0, 0)
end
/-- What Parse tells: a module, an error, a line. -/
def parseF (s : List UInt8) : TM × Int × Nat :=
  if (lexF s).err ≠ 0 then (⟨[], []⟩, (lexF s).err, (lexF s).line) else
  ((tokensF (lexF s).toks).1, ((tokensF (lexF s).toks).2.1 : Int), (tokensF (lexF s).toks).2.2)
end Go.Proofs.YtlnmicddobgppaaGreatDoor
