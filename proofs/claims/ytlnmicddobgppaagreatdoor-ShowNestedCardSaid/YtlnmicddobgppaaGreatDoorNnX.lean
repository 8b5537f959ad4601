/-
  Parsing (layer 8), in plain words: tokens behind those that were looked at play no part. No conditions. Parsing (layer 8), in plain words: tokens that are alike but for their lines tell the same, wherever they stand in a row's end. No conditions. Parsing (layer 8), in plain words: modules of tokens: one row behind another; alike rows. No conditions. Sources' modules in plain words (layer 8): what parts tokens plays no part. No conditions. Sources' modules in plain words (layer 8): a beginning of tokens tells a module just if it ends behind a ;, else something is lacking at its end. No conditions. Sources' modules in plain words (layer 8): two sources, one behind the other. No conditions. Sources' modules in plain words (layer 8): how many constructors and binds there are, and on which lines faults stand. No conditions. Two rows behind one another in a third (memory alone); blocks told apart by their types. No conditions.
-/
import Derived.Test.YtlnmicddobgppaaGreatDoorNnK
import Derived.Test.YtlnmicddobgppaaGreatDoorNnL
import Derived.Test.YtlnmicddobgppaaGreatDoorNnQ
import Derived.Test.YtlnmicddobgppaaGreatDoorNnA
namespace Go.Proofs.YtlnmicddobgppaaGreatDoor
set_option linter.unusedSimpArgs false
set_option linter.unusedVariables false
set_option linter.unusedSectionVars false
section
variable {A Z : List TokV}
variable {ex ey : PS → TE × PS}
def PreE (A : List TokV) (ex ey : PS → TE × PS) : Prop := ∀ s, (ey s).2.at_ < A.length → ex s = ey s
variable (hp : PreE A ex ey) (gx : ∀ s, Goes (A ++ Z) s (ex s).2) (gy : ∀ s, Goes A s (ey s).2)
include hp gx gy
end
def AlikeT (ln : Nat → Nat → Prop) (x y : TokV) : Prop := x.kind = y.kind ∧ x.text = y.text ∧ x.flt = y.flt ∧ x.bits = y.bits ∧ ln x.line y.line
structure SimL (ln : Nat → Nat → Prop) (X Y : List TokV) (d : Nat) : Prop where
 len : X.length = Y.length + d
 tok : ∀ (i : Nat) (h : i < Y.length) (h' : i + d < X.length), AlikeT ln X[i + d] Y[i]
structure SimP (ln : Nat → Nat → Prop) (d : Nat) (s t : PS) : Prop where
 at_ : s.at_ = t.at_ + d
 e : s.e = t.e
 line : s.e ≠ 0 → s.e = 17 ∨ ln s.line t.line
section
variable {ln : Nat → Nat → Prop} {X Y : List TokV} {d : Nat} (hL : SimL ln X Y d) {s t : PS} (hs : SimP ln d s t)
theorem SimP.step (hs : SimP ln d s t) : SimP ln d { s with at_ := s.at_ + 1 } { t with at_ := t.at_ + 1 } := ⟨by have := hs.at_; simp only; omega, hs.e, hs.line⟩
include hL hs
end
section
variable {ln : Nat → Nat → Prop} {X Y : List TokV} {d : Nat} (hL : SimL ln X Y d)
include hL
variable {ex ey : PS → TE × PS}
def SimE (ln : Nat → Nat → Prop) (d : Nat) (ex ey : PS → TE × PS) : Prop := ∀ s t, SimP ln d s t → (ex s).1 = (ey t).1 ∧ SimP ln d (ex s).2 (ey t).2
variable (hp : SimE ln d ex ey) (gx : ∀ s, Goes X s (ex s).2) (gy : ∀ s, Goes Y s (ey s).2) {s t : PS} (hs : SimP ln d s t)
include hp gx gy
end
def bindEnd (L : List TokV) (s : PS) : PS := needF L [59] (bindF L (exprF L 200) s).2
theorem modF_stop {L : List TokV} {n : Nat} {m : TM} {s : PS} (h : ¬ (s.e = 0 ∧ s.at_ < L.length)) : modF L n m s = (m, s) := by
 cases n with
 | zero => rfl
 | succ n => unfold modF; rw [if_neg h]
theorem modF_bind {L : List TokV} {n : Nat} {m : TM} {s : PS} (h : s.e = 0 ∧ s.at_ < L.length) (hd : ¬ seesF L [100, 97, 116, 97] s = true) :
 modF L (n + 1) m s = modF L n ⟨m.cons, m.binds ++ [(bindF L (exprF L 200) s).1]⟩ (bindEnd L s) := by
 rw [modF, if_pos h, if_neg hd]
 rfl
section
variable {A Z : List TokV}
end
section
variable {ln : Nat → Nat → Prop} {X Y : List TokV} {d : Nat} (hL : SimL ln X Y d)
include hL
end
-- Tokens
open Go.RowKit
theorem parse_good {s : List UInt8} (h : (lexF s).err = 0) : parseF s = ((tokensF (lexF s).toks).1, ((tokensF (lexF s).toks).2.1 : Int), (tokensF (lexF s).toks).2.2) := by
 unfold parseF
 rw [if_neg (fun q => q h)]
def lastLn (L : List TokV) : Nat := (L.getLast?.map (·.line)).getD 1
def EndOk (L : List TokV) (s : PS) : Prop := s.e ≠ 0 → ¬ s.at_ < L.length → s.e = 17 ∧ s.line = lastLn L
section
variable {L : List TokV}
variable {ex : PS → TE × PS} (hx : ∀ s, EndOk L s → EndOk L (ex s).2)
include hx
end
section
variable {w : World} {a : Option Addr} {n cap size : Nat} {cs : Nat → List Value}
end
def Lx (l : List UInt8) (T : List TokV) : Prop := ∀ (f : Nat) (acc : List TokV), T.length < f → acc.length + T.length ≤ 4096 → lexG f acc l 1 = ⟨acc ++ T, 0, 0⟩
theorem Lx.nil : Lx [] [] := fun f acc hf _ => by
 obtain ⟨g, rfl⟩ : ∃ g, f = g + 1 := ⟨f - 1, by simp at hf; omega⟩
 rw [lexG_end]; simp
theorem Lx.cons {l r : List UInt8} {t : TokV} {T : List TokV} (hl : l ≠ []) (h1 : oneF l 1 = (t, 0)) (hr : skipF false (l.drop t.text.length) 1 = (r, 1)) (h : Lx r T) : Lx l (t :: T) := fun f acc hf ha => by
 obtain ⟨g, rfl⟩ : ∃ g, f = g + 1 := ⟨f - 1, by omega⟩
 rw [lexG_more hl (by rw [h1]) (by simp at ha; omega), h1]
 simp only
 rw [hr]
 simp only
 rw [h g _ (by simp at hf; omega) (by simp at ha ⊢; omega)]
 simp
theorem Lx.lexF {l r : List UInt8} {T : List TokV} (hs : skipF false l 1 = (r, 1)) (h : Lx r T) (hT : T.length ≤ l.length) (hf : T.length ≤ 4096) : lexF l = ⟨T, 0, 0⟩ := by
 unfold Go.Proofs.YtlnmicddobgppaaGreatDoor.lexF
 rw [hs]
 simp only
 rw [h _ _ (by omega) (by simpa using hf)]
 simp
theorem skipD_stay {c : UInt8} (r : List UInt8) (h : c ≠ 45 ∧ c ≠ 10 ∧ c ≠ 9 ∧ c ≠ 13 ∧ c ≠ 32) : skipF false (c :: r) 1 = (c :: r, 1) := by
 unfold skipF
 rw [if_neg (fun q => h.1 q.1), if_neg h.2.1, if_neg (fun q => q.elim h.2.2.1 (fun q => q.elim h.2.2.2.1 h.2.2.2.2))]
theorem skipD_blank (r : List UInt8) : skipF false (32 :: r) 1 = skipF false r 1 := by
 conv => lhs; unfold skipF
 rw [if_neg (fun q => absurd q.1 (by decide)), if_neg (by decide), if_pos (.inr (.inr rfl))]
theorem skipD_end : skipF false [] 1 = ([], 1) := rfl
theorem oneD_open (r : List UInt8) : oneF (40 :: r) 1 = (⟨6, [40], false, 0, 1⟩, 0) := rfl
theorem oneD_shut (r : List UInt8) : oneF (41 :: r) 1 = (⟨6, [41], false, 0, 1⟩, 0) := rfl
theorem oneD_semi (r : List UInt8) : oneF (59 :: r) 1 = (⟨6, [59], false, 0, 1⟩, 0) := rfl
def tLp : TokV := ⟨6, [40], false, 0, 1⟩
def tRp : TokV := ⟨6, [41], false, 0, 1⟩
def tSe : TokV := ⟨6, [59], false, 0, 1⟩
def tEq : TokV := ⟨6, [61], false, 0, 1⟩
def tN (c : UInt8) : TokV := ⟨1, [c], false, 0, 1⟩
def tLet : TokV := ⟨5, [108, 101, 116], false, 0, 1⟩
def tIn : TokV := ⟨5, [105, 110], false, 0, 1⟩
-- reading
section
variable {L : List TokV} {a : Nat} {t : TokV} {rest : List TokV}
theorem at_drop (h : L.drop a = t :: rest) : L[a]? = some t ∧ L.drop (a + 1) = rest ∧ a < L.length := by
 have h1 : (L.drop a)[0]? = some t := by rw [h]; rfl
 rw [List.getElem?_drop] at h1
 refine ⟨by simpa using h1, ?_, ?_⟩
 · rw [← List.tail_drop, h]; rfl
 · rcases Nat.lt_or_ge a L.length with q | q
   · exact q
   · rw [List.drop_eq_nil_of_le q] at h; cases h
theorem kind_of {e l : Nat} (h : L[a]? = some t) : kindP L ⟨a, e, l⟩ = t.kind := by unfold kindP; simp [h]
theorem sees_of {e l : Nat} (h : L[a]? = some t) (w : List UInt8) : seesF L w ⟨a, e, l⟩ = ((decide (t.kind = 5) || decide (t.kind = 6)) && decide (t.text = w)) := by unfold seesF; simp [h]
def Stops (t : TokV) : Prop := t.kind ≠ 1 ∧ t.kind ≠ 2 ∧ t.kind ≠ 7 ∧ t.kind ≠ 3 ∧ t.kind ≠ 4 ∧ ((decide (t.kind = 5) || decide (t.kind = 6)) && decide (t.text = [40])) = false
variable {ex : PS → TE × PS}
theorem atoms_name {n : Nat} {acc : List TE} (h : L[a]? = some t) (hk : t.kind = 1) : atomsF L ex (n + 1) acc ⟨a, 0, 0⟩ = atomsF L ex n (acc ++ [.mk 1 t.text false 0 [] [] [] []]) ⟨a + 1, 0, 0⟩ := by
 have hp : kindP L ⟨a, 0, 0⟩ = 1 := (kind_of h).trans hk
 conv => lhs; unfold atomsF
 rw [if_neg (by simp), if_pos hp]
 unfold tokenF
 rw [if_pos ⟨rfl, hp⟩]
 simp [h]
theorem atoms_stops {n : Nat} {acc : List TE} (h : L[a]? = some t) (hs : Stops t) : atomsF L ex (n + 1) acc ⟨a, 0, 0⟩ = (acc, ⟨a, 0, 0⟩) := by
 obtain ⟨h1, h2, h3, h4, h5, h6⟩ := hs
 have hp : kindP L ⟨a, 0, 0⟩ = t.kind := kind_of h
 conv => lhs; unfold atomsF
 rw [if_neg (by simp), if_neg (by rw [hp]; exact h1), if_neg (by rw [hp]; exact h2), if_neg (by rw [hp]; exact h3), if_neg (by rw [hp]; exact h4), if_pos (by rw [sees_of h]; exact h6)]
theorem atoms_open {n : Nat} {acc : List TE} (h : L[a]? = some tLp) : atomsF L ex (n + 1) acc ⟨a, 0, 0⟩ = atomsF L ex n (acc ++ [(ex ⟨a + 1, 0, 0⟩).1]) (needF L [41] (ex ⟨a + 1, 0, 0⟩).2) := by
 have hp : kindP L ⟨a, 0, 0⟩ = 6 := kind_of h
 conv => lhs; unfold atomsF
 rw [if_neg (by simp), if_neg (by rw [hp]; decide), if_neg (by rw [hp]; decide), if_neg (by rw [hp]; decide), if_neg (by rw [hp]; decide), if_neg (by rw [sees_of h]; decide)]
theorem atoms_err {n : Nat} {acc : List TE} {s : PS} (h : s.e ≠ 0) : atomsF L ex n acc s = (acc, s) := by
 cases n with
 | zero => rfl
 | succ n => unfold atomsF; rw [if_pos h]
theorem need_at {w : List UInt8} (h : L[a]? = some t) (hk : ((decide (t.kind = 5) || decide (t.kind = 6)) && decide (t.text = w)) = true) : needF L w ⟨a, 0, 0⟩ = ⟨a + 1, 0, 0⟩ := by
 unfold needF
 rw [if_pos ⟨rfl, by rw [sees_of h]; exact hk⟩]
theorem row_alone {s s' : PS} {e : TE} (h : atomsF L ex (fuelP L) [] s = ([e], s')) : rowF L ex s = (e, s') := by
 unfold rowF
 rw [h]
theorem op_row {s s' : PS} {e : TE} (h : rowF L ex s = (e, s')) (hs : s'.e ≠ 0 ∨ kindP L s' ≠ 4) : opF L ex s = (e, s') := by
 unfold opF
 rw [h]
 simp only
 rw [if_neg (fun q => hs.elim (fun z => z q.1) (fun z => z q.2))]
theorem step_op (h : L[a]? = some t) (h1 : ((decide (t.kind = 5) || decide (t.kind = 6)) && decide (t.text = [108, 101, 116])) = false) (h2 : ((decide (t.kind = 5) || decide (t.kind = 6)) && decide (t.text = [99, 97, 115, 101])) = false) (h3 : ((decide (t.kind = 5) || decide (t.kind = 6)) && decide (t.text = [92])) = false) : exprStep L ex ⟨a, 0, 0⟩ = opF L ex ⟨a, 0, 0⟩ := by
 unfold exprStep
 rw [if_neg (by simp), if_neg (by rw [sees_of h, h1]; decide), if_neg (by rw [sees_of h, h2]; decide), if_neg (by rw [sees_of h, h3]; decide)]
theorem fuel_two (L : List TokV) : fuelP L = L.length + 1 + 1 := rfl
theorem exprD_stop {d : Nat} {s : PS} (h : s.e ≠ 0) : exprF L d s = (zeroE, s) := by
 cases d with
 | zero => unfold exprF; rw [if_pos h]
 | succ d => show exprStep L (exprF L d) s = _; unfold exprStep; rw [if_pos h]
theorem need_err {w : List UInt8} {s : PS} (h : s.e ≠ 0) : needF L w s = s := by
 unfold needF
 rw [if_neg (fun q => h q.1)]
 unfold faultF
 rw [if_pos h]
theorem bind_name {c : UInt8} {r2 : List TokV} (h : L.drop a = tN c :: tEq :: r2) : bindF L ex ⟨a, 0, 0⟩ = (.mk [c] [] (ex ⟨a + 2, 0, 0⟩).1, (ex ⟨a + 2, 0, 0⟩).2) := by
 obtain ⟨g1, g2, g3⟩ := at_drop h
 obtain ⟨g4, g5, g6⟩ := at_drop g2
 have hp : kindP L ⟨a, 0, 0⟩ = 1 := kind_of g1
 have hp2 : kindP L ⟨a + 1, 0, 0⟩ = 6 := kind_of g4
 have hn : namesF L (fuelP L) true [] ⟨a, 0, 0⟩ = ([[c]], ⟨a + 1, 0, 0⟩) := by
  rw [fuel_two]
  unfold namesF
  rw [if_pos ⟨rfl, .inl rfl⟩]
  have ht : tokenF L 1 ⟨a, 0, 0⟩ = (tN c, ⟨a + 1, 0, 0⟩) := by unfold tokenF; rw [if_pos ⟨rfl, hp⟩]; simp [g1]
  rw [ht]
  unfold namesF
  rw [if_neg (fun q => q.2.elim (fun z => by cases z) (fun z => by rw [hp2] at z; exact absurd z (by decide)))]
  rfl
 unfold bindF
 simp only
 rw [hn]
 simp only
 rw [need_at g4 rfl]
 rfl
end
theorem one_bind {c : UInt8} {r2 : List TokV} {E : TE} {b : Nat} (L : List TokV) (h : L = tN c :: tEq :: r2) (he : exprF L 200 ⟨2, 0, 0⟩ = (E, ⟨b, 0, 0⟩)) (hb : L.drop b = [tSe]) : tokensF L = (⟨[], [.mk [c] [] E]⟩, 0, 0) := by
 have hd : L.drop 0 = tN c :: tEq :: r2 := h
 obtain ⟨g1, g2, g3⟩ := at_drop hd
 obtain ⟨g4, g5, g6⟩ := at_drop hb
 have hbi := bind_name (ex := exprF L 200) hd
 rw [he] at hbi
 have hL : L.length = b + 1 := by
  have := congrArg List.length hb
  rw [List.length_drop] at this
  simp at this
  omega
 have hm : modF L (fuelP L) ⟨[], []⟩ ⟨0, 0, 0⟩ = (⟨[], [.mk [c] [] E]⟩, ⟨b + 1, 0, 0⟩) := by
  rw [fuel_two, modF_bind ⟨rfl, g3⟩ (by rw [sees_of g1]; simp [tN])]
  unfold bindEnd
  rw [hbi]
  simp only
  rw [need_at g4 rfl]
  rw [modF_stop (fun q => by have := q.2; simp only at this; omega)]
  rfl
 unfold tokensF
 rw [hm]
 rfl
theorem one_bad {c : UInt8} {r2 : List TokV} {b e l : Nat} (L : List TokV) (h : L = tN c :: tEq :: r2) (he : (exprF L 200 ⟨2, 0, 0⟩).2 = ⟨b, e, l⟩) (h0 : e ≠ 0) : tokensF L = (⟨[], []⟩, e, l) := by
 have hd : L.drop 0 = tN c :: tEq :: r2 := h
 obtain ⟨g1, g2, g3⟩ := at_drop hd
 have hbi := bind_name (ex := exprF L 200) hd
 rw [he] at hbi
 have hm : (modF L (fuelP L) ⟨[], []⟩ ⟨0, 0, 0⟩).2 = ⟨b, e, l⟩ := by
  rw [fuel_two, modF_bind ⟨rfl, g3⟩ (by rw [sees_of g1]; simp [tN])]
  unfold bindEnd
  rw [hbi]
  simp only
  rw [need_err h0, modF_stop (fun q => h0 q.1)]
 unfold tokensF
 simp only
 rw [hm, if_pos h0]
end Go.Proofs.YtlnmicddobgppaaGreatDoor
