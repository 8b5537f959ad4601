/-
  Sources' modules in plain words (layer 8): a name in many ( ); a token with so many names behind it. No conditions.
-/
import Derived.Test.YtlnmicddobgppaaGreatDoorPar16
import Derived.Test.YtlnmicddobgppaaGreatDoorLxP
namespace Go.Proofs.YtlnmicddobgppaaGreatDoor
set_option linter.unusedSimpArgs false
set_option linter.unusedVariables false
open Go.RowKit
/-- .. where a bind stands. -/
def bindEnd (L : List TokV) (s : PS) : PS := needF L [59] (bindF L (exprF L 200) s).2
theorem modF_stop {L : List TokV} {n : Nat} {m : TM} {s : PS} (h : ¬ (s.e = 0 ∧ s.at_ < L.length)) : modF L n m s = (m, s) := by
  cases n with
  | zero => rfl
  | succ n => unfold modF; rw [if_neg h]
theorem modF_bind {L : List TokV} {n : Nat} {m : TM} {s : PS} (h : s.e = 0 ∧ s.at_ < L.length) (hd : ¬ seesF L [100, 97, 116, 97] s = true) :
    modF L (n + 1) m s = modF L n ⟨m.cons, m.binds ++ [(bindF L (exprF L 200) s).1]⟩ (bindEnd L s) := by
  rw [modF, if_pos h, if_neg hd]
  rfl
theorem parse_good {s : List UInt8} (h : (lexF s).err = 0) : parseF s = ((tokensF (lexF s).toks).1, ((tokensF (lexF s).toks).2.1 : Int), (tokensF (lexF s).toks).2.2) := by
  unfold parseF
  rw [if_neg (fun q => q h)]

/-- A list of bytes that is just these tokens, all on the first line. -/
def Lx (l : List UInt8) (T : List TokV) : Prop := ∀ (f : Nat) (acc : List TokV), T.length < f → acc.length + T.length ≤ 4096 → lexG f acc l 1 = ⟨acc ++ T, 0, 0⟩
theorem Lx.nil : Lx [] [] := fun f acc hf _ => by
  obtain ⟨g, rfl⟩ : ∃ g, f = g + 1 := ⟨f - 1, by simp at hf; omega⟩
  rw [lexG_end]; simp
theorem Lx.cons {l r : List UInt8} {t : TokV} {T : List TokV} (hl : l ≠ []) (h1 : oneF l 1 = (t, 0)) (hr : skipF false (l.drop t.text.length) 1 = (r, 1)) (h : Lx r T) : Lx l (t :: T) := fun f acc hf ha => by
  obtain ⟨g, rfl⟩ : ∃ g, f = g + 1 := ⟨f - 1, by omega⟩
  rw [lexG_more hl (by rw [h1]) (by simp at ha; omega), h1]
  simp only
  rw [hr]
  simp only
  rw [h g _ (by simp at hf; omega) (by simp at ha ⊢; omega)]
  simp
theorem Lx.lexF {l r : List UInt8} {T : List TokV} (hs : skipF false l 1 = (r, 1)) (h : Lx r T) (hT : T.length ≤ l.length) (hf : T.length ≤ 4096) : lexF l = ⟨T, 0, 0⟩ := by
  unfold Go.Proofs.YtlnmicddobgppaaGreatDoor.lexF
  rw [hs]
  simp only
  rw [h _ _ (by omega) (by simpa using hf)]
  simp
theorem skipD_stay {c : UInt8} (r : List UInt8) (h : c ≠ 45 ∧ c ≠ 10 ∧ c ≠ 9 ∧ c ≠ 13 ∧ c ≠ 32) : skipF false (c :: r) 1 = (c :: r, 1) := by
  unfold skipF
  rw [if_neg (fun q => h.1 q.1), if_neg h.2.1, if_neg (fun q => q.elim h.2.2.1 (fun q => q.elim h.2.2.2.1 h.2.2.2.2))]
theorem skipD_blank (r : List UInt8) : skipF false (32 :: r) 1 = skipF false r 1 := by
  conv => lhs; unfold skipF
  rw [if_neg (fun q => absurd q.1 (by decide)), if_neg (by decide), if_pos (.inr (.inr rfl))]
theorem skipD_end : skipF false [] 1 = ([], 1) := rfl
theorem runD_stop (l r : List UInt8) (c : UInt8) (hl : ∀ x ∈ l, wordC x = true) (hc : wordC c = false) : runF (l ++ c :: r) = l := by
  unfold runF
  induction l with
  | nil => simp [List.takeWhile, hc]
  | cons x l ih =>
    rw [List.cons_append, List.takeWhile_cons, hl x List.mem_cons_self]
    simp only [if_true]
    rw [ih (fun y hy => hl y (List.mem_cons_of_mem _ hy))]
/-- A word, and what is none behind it. -/
theorem oneD_word (c : UInt8) (l r : List UInt8) (d : UInt8) (h : (smallC c || capC c) = true) (hl : ∀ x ∈ c :: l, wordC x = true) (hd : wordC d = false) (hz : (c :: l).length ≤ 16) : oneF (c :: l ++ d :: r) 1 = (⟨kindF (c :: l), c :: l, false, 0, 1⟩, 0) := by
  have e := runD_stop (c :: l) r d hl hd
  rw [List.cons_append] at e ⊢
  unfold oneF
  simp only
  rw [if_pos h, e, if_neg (by omega)]
theorem oneD_open (r : List UInt8) : oneF (40 :: r) 1 = (⟨6, [40], false, 0, 1⟩, 0) := rfl
theorem oneD_shut (r : List UInt8) : oneF (41 :: r) 1 = (⟨6, [41], false, 0, 1⟩, 0) := rfl
theorem oneD_semi (r : List UInt8) : oneF (59 :: r) 1 = (⟨6, [59], false, 0, 1⟩, 0) := rfl
def tLp : TokV := ⟨6, [40], false, 0, 1⟩
def tRp : TokV := ⟨6, [41], false, 0, 1⟩
def tSe : TokV := ⟨6, [59], false, 0, 1⟩
def tEq : TokV := ⟨6, [61], false, 0, 1⟩
def tN (c : UInt8) : TokV := ⟨1, [c], false, 0, 1⟩
def tLet : TokV := ⟨5, [108, 101, 116], false, 0, 1⟩
def tIn : TokV := ⟨5, [105, 110], false, 0, 1⟩
theorem Lx.semi : Lx [59] [tSe] := Lx.cons (by simp) (oneD_semi []) skipD_end Lx.nil
/-- What may follow a name and its ( ). -/
def TailOk (tl : List UInt8) (TT : List TokV) : Prop := ∃ d r rr, tl = d :: r ∧ wordC d = false ∧ skipF false tl 1 = (rr, 1) ∧ Lx rr TT
theorem tail_semi : TailOk [59] [tSe] := ⟨59, [], [59], rfl, rfl, skipD_stay [] (by decide), Lx.semi⟩
theorem tail_in : TailOk [32, 105, 110, 32, 103, 59] [tIn, tN 103, tSe] := ⟨32, _, [105, 110, 32, 103, 59], rfl, rfl, rfl,
  Lx.cons (r := [103, 59]) (by simp) rfl rfl (Lx.cons (r := [59]) (by simp) rfl rfl Lx.semi)⟩
theorem tail_shut {tl : List UInt8} {TT : List TokV} (h : TailOk tl TT) : ∀ m : Nat, TailOk (List.replicate m 41 ++ tl) (List.replicate m tRp ++ TT)
  | 0 => h
  | m + 1 => by
    obtain ⟨d, r, rr, e1, e2, e3, e4⟩ := tail_shut h m
    refine ⟨41, List.replicate m 41 ++ tl, _, rfl, rfl, skipD_stay _ (by decide), ?_⟩
    exact Lx.cons (r := rr) (by simp) (oneD_shut _) e3 e4
theorem lx_x {tl : List UInt8} {TT : List TokV} (h : TailOk tl TT) : Lx (120 :: tl) (tN 120 :: TT) := by
  obtain ⟨d, r, rr, rfl, e2, e3, e4⟩ := h
  exact Lx.cons (r := rr) (by simp) (oneD_word 120 [] r d rfl (by simp; rfl) e2 (by decide)) e3 e4
theorem lx_open {tl : List UInt8} {TT : List TokV} (h : TailOk tl TT) : ∀ n : Nat, Lx (List.replicate n 40 ++ 120 :: tl) (List.replicate n tLp ++ tN 120 :: TT)
  | 0 => lx_x h
  | n + 1 => by
    refine Lx.cons (r := List.replicate n 40 ++ 120 :: tl) (by simp) (oneD_open _) ?_ (lx_open h n)
    show skipF false (List.replicate n 40 ++ 120 :: tl) 1 = _
    cases n with
    | zero => exact skipD_stay _ (by decide)
    | succ n => exact skipD_stay _ (by decide)
theorem eq_open (n : Nat) (tl : List UInt8) : oneF (61 :: (List.replicate n 40 ++ 120 :: tl)) 1 = (tEq, 0) ∧ skipF false (List.replicate n 40 ++ 120 :: tl) 1 = (List.replicate n 40 ++ 120 :: tl, 1) := by
  cases n with
  | zero => exact ⟨rfl, skipD_stay _ (by decide)⟩
  | succ n => exact ⟨rfl, skipD_stay _ (by decide)⟩
theorem lx_eq {tl : List UInt8} {TT : List TokV} (h : TailOk tl TT) (n : Nat) : Lx (61 :: (List.replicate n 40 ++ 120 :: tl)) (tEq :: (List.replicate n tLp ++ tN 120 :: TT)) :=
  Lx.cons (by simp) (eq_open n tl).1 (eq_open n tl).2 (lx_open h n)
def pdB (n : Nat) : List UInt8 := 102 :: 61 :: (List.replicate n 40 ++ 120 :: (List.replicate n 41 ++ [59]))
def pdT (n : Nat) : List TokV := tN 102 :: tEq :: (List.replicate n tLp ++ tN 120 :: (List.replicate n tRp ++ [tSe]))
def plB (n : Nat) : List UInt8 := 102 :: 61 :: 108 :: 101 :: 116 :: 32 :: 103 :: 61 :: (List.replicate n 40 ++ 120 :: (List.replicate n 41 ++ [32, 105, 110, 32, 103, 59]))
def plT (n : Nat) : List TokV := tN 102 :: tEq :: tLet :: tN 103 :: tEq :: (List.replicate n tLp ++ tN 120 :: (List.replicate n tRp ++ [tIn, tN 103, tSe]))
theorem deep_lex (n : Nat) (hn : n ≤ 300) : lexF (pdB n) = ⟨pdT n, 0, 0⟩ := by
  refine Lx.lexF (skipD_stay _ (by decide)) (Lx.cons (r := 61 :: (List.replicate n 40 ++ 120 :: (List.replicate n 41 ++ [59]))) (by simp) (oneD_word 102 [] _ 61 rfl (by simp; rfl) rfl (by decide)) (skipD_stay _ (by decide)) (lx_eq (tail_shut tail_semi n) n)) (by simp [pdB, pdT]) (by simp [pdT]; omega)
theorem let_lex (n : Nat) (hn : n ≤ 300) : lexF (plB n) = ⟨plT n, 0, 0⟩ := by
  refine Lx.lexF (skipD_stay _ (by decide)) (Lx.cons (r := 61 :: 108 :: 101 :: 116 :: 32 :: 103 :: 61 :: (List.replicate n 40 ++ 120 :: (List.replicate n 41 ++ [32, 105, 110, 32, 103, 59]))) (by simp) (oneD_word 102 [] _ 61 rfl (by simp; rfl) rfl (by decide)) (skipD_stay _ (by decide)) ?_) (by simp [plB, plT]; omega) (by simp [plT]; omega)
  refine Lx.cons (r := 108 :: 101 :: 116 :: 32 :: 103 :: 61 :: (List.replicate n 40 ++ 120 :: (List.replicate n 41 ++ [32, 105, 110, 32, 103, 59]))) (t := tEq) (by simp) rfl (skipD_stay _ (by decide)) ?_
  refine Lx.cons (r := 103 :: 61 :: (List.replicate n 40 ++ 120 :: (List.replicate n 41 ++ [32, 105, 110, 32, 103, 59]))) (t := tLet) (by simp) (oneD_word 108 [101, 116] _ 32 rfl (by decide) rfl (by decide)) ((skipD_blank _).trans (skipD_stay _ (by decide))) ?_
  exact Lx.cons (r := 61 :: (List.replicate n 40 ++ 120 :: (List.replicate n 41 ++ [32, 105, 110, 32, 103, 59]))) (by simp) (oneD_word 103 [] _ 61 rfl (by simp; rfl) rfl (by decide)) (skipD_stay _ (by decide)) (lx_eq (tail_shut tail_in n) n)
-- reading
section
variable {L : List TokV} {a : Nat} {t : TokV} {rest : List TokV}
theorem at_drop (h : L.drop a = t :: rest) : L[a]? = some t ∧ L.drop (a + 1) = rest ∧ a < L.length := by
  have h1 : (L.drop a)[0]? = some t := by rw [h]; rfl
  rw [List.getElem?_drop] at h1
  refine ⟨by simpa using h1, ?_, ?_⟩
  · rw [← List.tail_drop, h]; rfl
  · rcases Nat.lt_or_ge a L.length with q | q
    · exact q
    · rw [List.drop_eq_nil_of_le q] at h; cases h
theorem kind_of {e l : Nat} (h : L[a]? = some t) : kindP L ⟨a, e, l⟩ = t.kind := by unfold kindP; simp [h]
theorem sees_of {e l : Nat} (h : L[a]? = some t) (w : List UInt8) : seesF L w ⟨a, e, l⟩ = ((decide (t.kind = 5) || decide (t.kind = 6)) && decide (t.text = w)) := by unfold seesF; simp [h]
/-- No atom stands there, nor a sign of an operation. -/
def Stops (t : TokV) : Prop := t.kind ≠ 1 ∧ t.kind ≠ 2 ∧ t.kind ≠ 7 ∧ t.kind ≠ 3 ∧ t.kind ≠ 4 ∧ ((decide (t.kind = 5) || decide (t.kind = 6)) && decide (t.text = [40])) = false
variable {ex : PS → TE × PS}
theorem atoms_name {n : Nat} {acc : List TE} (h : L[a]? = some t) (hk : t.kind = 1) : atomsF L ex (n + 1) acc ⟨a, 0, 0⟩ = atomsF L ex n (acc ++ [.mk 1 t.text false 0 [] [] [] []]) ⟨a + 1, 0, 0⟩ := by
  have hp : kindP L ⟨a, 0, 0⟩ = 1 := (kind_of h).trans hk
  conv => lhs; unfold atomsF
  rw [if_neg (by simp), if_pos hp]
  unfold tokenF
  rw [if_pos ⟨rfl, hp⟩]
  simp [h]
theorem atoms_stops {n : Nat} {acc : List TE} (h : L[a]? = some t) (hs : Stops t) : atomsF L ex (n + 1) acc ⟨a, 0, 0⟩ = (acc, ⟨a, 0, 0⟩) := by
  obtain ⟨h1, h2, h3, h4, h5, h6⟩ := hs
  have hp : kindP L ⟨a, 0, 0⟩ = t.kind := kind_of h
  conv => lhs; unfold atomsF
  rw [if_neg (by simp), if_neg (by rw [hp]; exact h1), if_neg (by rw [hp]; exact h2), if_neg (by rw [hp]; exact h3), if_neg (by rw [hp]; exact h4), if_pos (by rw [sees_of h]; exact h6)]
theorem atoms_open {n : Nat} {acc : List TE} (h : L[a]? = some tLp) : atomsF L ex (n + 1) acc ⟨a, 0, 0⟩ = atomsF L ex n (acc ++ [(ex ⟨a + 1, 0, 0⟩).1]) (needF L [41] (ex ⟨a + 1, 0, 0⟩).2) := by
  have hp : kindP L ⟨a, 0, 0⟩ = 6 := kind_of h
  conv => lhs; unfold atomsF
  rw [if_neg (by simp), if_neg (by rw [hp]; decide), if_neg (by rw [hp]; decide), if_neg (by rw [hp]; decide), if_neg (by rw [hp]; decide), if_neg (by rw [sees_of h]; decide)]
theorem atoms_err {n : Nat} {acc : List TE} {s : PS} (h : s.e ≠ 0) : atomsF L ex n acc s = (acc, s) := by
  cases n with
  | zero => rfl
  | succ n => unfold atomsF; rw [if_pos h]
theorem need_at {w : List UInt8} (h : L[a]? = some t) (hk : ((decide (t.kind = 5) || decide (t.kind = 6)) && decide (t.text = w)) = true) : needF L w ⟨a, 0, 0⟩ = ⟨a + 1, 0, 0⟩ := by
  unfold needF
  rw [if_pos ⟨rfl, by rw [sees_of h]; exact hk⟩]
theorem row_alone {s s' : PS} {e : TE} (h : atomsF L ex (fuelP L) [] s = ([e], s')) : rowF L ex s = (e, s') := by
  unfold rowF
  rw [h]
theorem op_row {s s' : PS} {e : TE} (h : rowF L ex s = (e, s')) (hs : s'.e ≠ 0 ∨ kindP L s' ≠ 4) : opF L ex s = (e, s') := by
  unfold opF
  rw [h]
  simp only
  rw [if_neg (fun q => hs.elim (fun z => z q.1) (fun z => z q.2))]
theorem step_op (h : L[a]? = some t) (h1 : ((decide (t.kind = 5) || decide (t.kind = 6)) && decide (t.text = [108, 101, 116])) = false) (h2 : ((decide (t.kind = 5) || decide (t.kind = 6)) && decide (t.text = [99, 97, 115, 101])) = false) (h3 : ((decide (t.kind = 5) || decide (t.kind = 6)) && decide (t.text = [92])) = false) : exprStep L ex ⟨a, 0, 0⟩ = opF L ex ⟨a, 0, 0⟩ := by
  unfold exprStep
  rw [if_neg (by simp), if_neg (by rw [sees_of h, h1]; decide), if_neg (by rw [sees_of h, h2]; decide), if_neg (by rw [sees_of h, h3]; decide)]
theorem fuel_two (L : List TokV) : fuelP L = L.length + 1 + 1 := rfl
/-- A name alone. -/
theorem expr_name {d : Nat} {c : UInt8} {t2 : TokV} {r2 : List TokV} (h : L.drop a = tN c :: t2 :: r2) (hs : Stops t2) : exprF L (d + 1) ⟨a, 0, 0⟩ = (.mk 1 [c] false 0 [] [] [] [], ⟨a + 1, 0, 0⟩) := by
  obtain ⟨g1, g2, g3⟩ := at_drop h
  obtain ⟨g4, g5, g6⟩ := at_drop g2
  show exprStep L (exprF L d) ⟨a, 0, 0⟩ = _
  rw [step_op g1 rfl rfl rfl]
  refine op_row (row_alone ?_) (.inr (by rw [kind_of g4]; exact hs.2.2.2.2.1))
  rw [fuel_two, atoms_name g1 rfl, atoms_stops g4 hs]
  rfl
/-- A name in so many ( ). -/
theorem expr_deep {t2 : TokV} {r2 : List TokV} (hs : Stops t2) : ∀ (d k a : Nat), L.drop a = List.replicate k tLp ++ tN 120 :: (List.replicate k tRp ++ t2 :: r2) → k < d → exprF L d ⟨a, 0, 0⟩ = (.mk 1 [120] false 0 [] [] [] [], ⟨a + 2 * k + 1, 0, 0⟩)
  | 0, k, a, h, hd => by omega
  | d + 1, 0, a, h, hd => expr_name h hs
  | d + 1, k + 1, a, h, hd => by
    have h0 : L.drop a = tLp :: (List.replicate k tLp ++ tN 120 :: (List.replicate k tRp ++ tRp :: t2 :: r2)) := by
      rw [h, List.replicate_succ, List.replicate_succ' (n := k) (a := tRp)]
      simp
    obtain ⟨g1, g2, g3⟩ := at_drop h0
    have hst : Stops tRp := by unfold Stops; decide
    have ih := expr_deep hst d k (a + 1) g2 (by omega)
    have hdrop : L.drop (a + 1 + 2 * k + 1) = tRp :: t2 :: r2 := by
      have e : a + 1 + 2 * k + 1 = (a + 1) + (k + 1 + k) := by omega
      rw [e, ← List.drop_drop, g2]
      have e2 : List.replicate k tLp ++ tN 120 :: (List.replicate k tRp ++ tRp :: t2 :: r2) = (List.replicate k tLp ++ tN 120 :: List.replicate k tRp) ++ tRp :: t2 :: r2 := by simp
      rw [e2, List.drop_left' (by simp; omega)]
    obtain ⟨g4, g5, g6⟩ := at_drop hdrop
    obtain ⟨g7, g8, g9⟩ := at_drop g5
    show exprStep L (exprF L d) ⟨a, 0, 0⟩ = _
    rw [step_op g1 rfl rfl rfl]
    have e3 : a + 2 * (k + 1) + 1 = a + 1 + 2 * k + 1 + 1 := by omega
    rw [e3]
    refine op_row (row_alone ?_) (.inr (by rw [kind_of g7]; exact hs.2.2.2.2.1))
    rw [fuel_two, atoms_open g1, ih]
    simp only
    rw [need_at g4 rfl, atoms_stops g7 hs]
    rfl
theorem exprD_stop {d : Nat} {s : PS} (h : s.e ≠ 0) : exprF L d s = (zeroE, s) := by
  cases d with
  | zero => unfold exprF; rw [if_pos h]
  | succ d => show exprStep L (exprF L d) s = _; unfold exprStep; rw [if_pos h]
theorem need_err {w : List UInt8} {s : PS} (h : s.e ≠ 0) : needF L w s = s := by
  unfold needF
  rw [if_neg (fun q => h q.1)]
  unfold faultF
  rw [if_pos h]
/-- In one ( ) too many. -/
theorem expr_too : ∀ (d k a : Nat) (rest : List TokV), L.drop a = List.replicate k tLp ++ tN 120 :: rest → d ≤ k → ∃ b, (exprF L d ⟨a, 0, 0⟩).2 = ⟨b, 12, 1⟩
  | 0, k, a, rest, h, hd => by
    have hh : ∃ t r, L.drop a = t :: r ∧ t.line = 1 ∧ ∀ e l, startsF L ⟨a, e, l⟩ = true := by
      cases k with
      | zero =>
        refine ⟨tN 120, rest, h, rfl, fun e l => ?_⟩
        obtain ⟨g1, _, _⟩ := at_drop h
        unfold startsF
        rw [if_pos (.inl (kind_of g1))]
      | succ k =>
        have h0 : L.drop a = tLp :: (List.replicate k tLp ++ tN 120 :: rest) := by rw [h, List.replicate_succ]; rfl
        refine ⟨tLp, _, h0, rfl, fun e l => ?_⟩
        obtain ⟨g1, _, _⟩ := at_drop h0
        have hp : kindP L ⟨a, e, l⟩ = 6 := kind_of g1
        unfold startsF
        rw [if_neg (by rw [hp]; decide), sees_of g1, sees_of g1, sees_of g1, sees_of g1]
        rfl
    obtain ⟨t, r, h1, h2, h3⟩ := hh
    obtain ⟨g1, _, _⟩ := at_drop h1
    refine ⟨a, ?_⟩
    show (if (⟨a, 0, 0⟩ : PS).e ≠ 0 then (zeroE, (⟨a, 0, 0⟩ : PS)) else (zeroE, faultF L 3 (if startsF L ⟨a, 0, 0⟩ = true then faultF L 12 ⟨a, 0, 0⟩ else ⟨a, 0, 0⟩))).2 = _
    rw [if_neg (by simp), if_pos (h3 0 0)]
    have hf : faultF L 12 ⟨a, 0, 0⟩ = ⟨a, 12, 1⟩ := by unfold faultF; simp [g1, h2]
    rw [hf]
    rfl
  | d + 1, 0, a, rest, h, hd => by omega
  | d + 1, k + 1, a, rest, h, hd => by
    have h0 : L.drop a = tLp :: (List.replicate k tLp ++ tN 120 :: rest) := by rw [h, List.replicate_succ]; rfl
    obtain ⟨g1, g2, g3⟩ := at_drop h0
    obtain ⟨b, hb⟩ := expr_too d k (a + 1) rest g2 (by omega)
    refine ⟨b, ?_⟩
    show (exprStep L (exprF L d) ⟨a, 0, 0⟩).2 = _
    rw [step_op g1 rfl rfl rfl]
    have hr : rowF L (exprF L d) ⟨a, 0, 0⟩ = ((exprF L d ⟨a + 1, 0, 0⟩).1, ⟨b, 12, 1⟩) := by
      refine row_alone ?_
      rw [fuel_two, atoms_open g1, hb, need_err (by simp), atoms_err (by simp)]
      rfl
    rw [op_row hr (.inl (by simp))]
/-- A bind of a name. -/
theorem bind_name {c : UInt8} {r2 : List TokV} (h : L.drop a = tN c :: tEq :: r2) : bindF L ex ⟨a, 0, 0⟩ = (.mk [c] [] (ex ⟨a + 2, 0, 0⟩).1, (ex ⟨a + 2, 0, 0⟩).2) := by
  obtain ⟨g1, g2, g3⟩ := at_drop h
  obtain ⟨g4, g5, g6⟩ := at_drop g2
  have hp : kindP L ⟨a, 0, 0⟩ = 1 := kind_of g1
  have hp2 : kindP L ⟨a + 1, 0, 0⟩ = 6 := kind_of g4
  have hn : namesF L (fuelP L) true [] ⟨a, 0, 0⟩ = ([[c]], ⟨a + 1, 0, 0⟩) := by
    rw [fuel_two]
    unfold namesF
    rw [if_pos ⟨rfl, .inl rfl⟩]
    have ht : tokenF L 1 ⟨a, 0, 0⟩ = (tN c, ⟨a + 1, 0, 0⟩) := by unfold tokenF; rw [if_pos ⟨rfl, hp⟩]; simp [g1]
    rw [ht]
    unfold namesF
    rw [if_neg (fun q => q.2.elim (fun z => by cases z) (fun z => by rw [hp2] at z; exact absurd z (by decide)))]
    rfl
  unfold bindF
  simp only
  rw [hn]
  simp only
  rw [need_at g4 rfl]
  rfl
/-- A let of one name. -/
theorem let_name {c g : UInt8} {d b : Nat} {E : TE} {r2 r3 : List TokV} (h : L.drop a = tLet :: tN g :: tEq :: r2) (he : exprF L d ⟨a + 3, 0, 0⟩ = (E, ⟨b, 0, 0⟩)) (hb : L.drop b = tIn :: tN c :: tSe :: r3) (hd : 0 < d) : letF L (exprF L d) ⟨a, 0, 0⟩ = (.mk 6 [] false 0 [] [.mk 1 [c] false 0 [] [] [] []] [.mk [g] [] E] [], ⟨b + 2, 0, 0⟩) := by
  obtain ⟨d, rfl⟩ : ∃ e, d = e + 1 := ⟨d - 1, by omega⟩
  obtain ⟨g1, g2, g3⟩ := at_drop h
  obtain ⟨g4, g5, g6⟩ := at_drop hb
  have hbi := bind_name (ex := exprF L (d + 1)) g2
  rw [he] at hbi
  simp only at hbi
  have hbs : ∀ (n : Nat) (acc : List TB), bindsF L (exprF L (d + 1)) n acc ⟨b, 0, 0⟩ = (acc, ⟨b, 0, 0⟩) := fun n acc => by
    cases n with
    | zero => rfl
    | succ n => unfold bindsF; rw [if_neg (fun q => by rw [sees_of g4] at q; exact absurd q.2 (by decide))]
  unfold letF
  simp only
  rw [hbi]
  simp only
  rw [hbs]
  simp only
  rw [need_at g4 rfl, expr_name g5 (by unfold Stops; decide)]
theorem let_bad {g : UInt8} {d b : Nat} {r2 : List TokV} (h : L.drop a = tLet :: tN g :: tEq :: r2) (he : (exprF L d ⟨a + 3, 0, 0⟩).2 = ⟨b, 12, 1⟩) : (letF L (exprF L d) ⟨a, 0, 0⟩).2 = ⟨b, 12, 1⟩ := by
  obtain ⟨g1, g2, g3⟩ := at_drop h
  have hbi := bind_name (ex := exprF L d) g2
  rw [he] at hbi
  have hbs : ∀ (n : Nat) (acc : List TB), bindsF L (exprF L d) n acc ⟨b, 12, 1⟩ = (acc, ⟨b, 12, 1⟩) := fun n acc => by
    cases n with
    | zero => rfl
    | succ n => unfold bindsF; rw [if_neg (fun q => by simp at q)]
  unfold letF
  simp only
  rw [hbi]
  simp only
  rw [hbs]
  simp only
  rw [need_err (by simp), exprD_stop (by simp)]
end
/-- A module of one bind. -/
theorem one_bind {c : UInt8} {r2 : List TokV} {E : TE} {b : Nat} (L : List TokV) (h : L = tN c :: tEq :: r2) (he : exprF L 200 ⟨2, 0, 0⟩ = (E, ⟨b, 0, 0⟩)) (hb : L.drop b = [tSe]) : tokensF L = (⟨[], [.mk [c] [] E]⟩, 0, 0) := by
  have hd : L.drop 0 = tN c :: tEq :: r2 := h
  obtain ⟨g1, g2, g3⟩ := at_drop hd
  obtain ⟨g4, g5, g6⟩ := at_drop hb
  have hbi := bind_name (ex := exprF L 200) hd
  rw [he] at hbi
  have hL : L.length = b + 1 := by
    have := congrArg List.length hb
    rw [List.length_drop] at this
    simp at this
    omega
  have hm : modF L (fuelP L) ⟨[], []⟩ ⟨0, 0, 0⟩ = (⟨[], [.mk [c] [] E]⟩, ⟨b + 1, 0, 0⟩) := by
    rw [fuel_two, modF_bind ⟨rfl, g3⟩ (by rw [sees_of g1]; simp [tN])]
    unfold bindEnd
    rw [hbi]
    simp only
    rw [need_at g4 rfl]
    rw [modF_stop (fun q => by have := q.2; simp only at this; omega)]
    rfl
  unfold tokensF
  rw [hm]
  rfl
theorem one_bad {c : UInt8} {r2 : List TokV} {b e l : Nat} (L : List TokV) (h : L = tN c :: tEq :: r2) (he : (exprF L 200 ⟨2, 0, 0⟩).2 = ⟨b, e, l⟩) (h0 : e ≠ 0) : tokensF L = (⟨[], []⟩, e, l) := by
  have hd : L.drop 0 = tN c :: tEq :: r2 := h
  obtain ⟨g1, g2, g3⟩ := at_drop hd
  have hbi := bind_name (ex := exprF L 200) hd
  rw [he] at hbi
  have hm : (modF L (fuelP L) ⟨[], []⟩ ⟨0, 0, 0⟩).2 = ⟨b, e, l⟩ := by
    rw [fuel_two, modF_bind ⟨rfl, g3⟩ (by rw [sees_of g1]; simp [tN])]
    unfold bindEnd
    rw [hbi]
    simp only
    rw [need_err h0, modF_stop (fun q => h0 q.1)]
  unfold tokensF
  simp only
  rw [hm, if_pos h0]

theorem pre_semi : ∀ (c l t : List UInt8), l ≠ [] → (59 ∉ c ∨ c = [59]) → c.isPrefixOf (l ++ 59 :: t) = c.isPrefixOf l := by
  intro c l t hl hc
  rcases hc with h | rfl
  · exact pre_sep 59 t c l h
  · cases l with
    | nil => exact absurd rfl hl
    | cons x l => simp [List.isPrefixOf]
theorem long_semi (t l : List UInt8) (hl : l ≠ []) (cs : List (List UInt8)) (h : ∀ c ∈ cs, 59 ∉ c ∨ c = [59]) : longF (l ++ 59 :: t) cs = longF l cs := by
  unfold longF
  generalize ([] : List UInt8) = b
  induction cs generalizing b with
  | nil => rfl
  | cons c cs ih =>
    rw [List.foldl_cons, List.foldl_cons]
    have e : stepL (l ++ 59 :: t) b c = stepL l b c := by
      unfold stepL
      rw [pre_semi c l t hl (h c List.mem_cons_self)]
    rw [e]
    exact ih (fun c hc => h c (List.mem_cons_of_mem _ hc)) _
/-- A ; behind changes nothing in a token. -/
theorem one_stop59 (l t : List UInt8) (ln : Nat) (hl : l ≠ []) : oneF (l ++ 59 :: t) ln = oneF l ln := by
  have hw : wordC 59 = false := by decide
  have ho : ∀ c ∈ opsL, 59 ∉ c ∨ c = [59] := by decide
  have hp : ∀ c ∈ punctsL, 59 ∉ c ∨ c = [59] := by decide
  have hr : ∀ l : List UInt8, runF (l ++ 59 :: t) = runF l := fun l => tw_sep _ _ hw _ _
  cases l with
  | nil => exact absurd rfl hl
  | cons c r =>
    show oneF (c :: (r ++ 59 :: t)) ln = oneF (c :: r) ln
    unfold oneF
    simp only
    rw [← List.cons_append, hr, long_semi _ _ hl _ ho, long_semi _ _ hl _ hp, hr]
    by_cases h1 : r.head? = some 45
    · rw [if_pos h1, if_pos ((head_sep 59 (by decide) r t).2 h1)]
      have h2 : (r ++ 59 :: t).drop 1 = r.drop 1 ++ 59 :: t := by
        cases r with
        | nil => simp at h1
        | cons x r => rfl
      rw [h2, hr]
    · rw [if_neg h1, if_neg (fun q => h1 ((head_sep 59 (by decide) r t).1 q))]
/-- A token's text begins where it stands, whatever is behind it but a -. -/
theorem shape_begins {ln : Nat} {t : TokV} (h : ShapeT ln t) (d : UInt8) (hd : d ≠ 45) (rest : List UInt8) : skipF false (t.text ++ d :: rest) 1 = (t.text ++ d :: rest, 1) := by
  have hw : ∀ (c : UInt8) (r : List UInt8), wordC c = true ∨ c = 35 → skipF false (c :: r) 1 = (c :: r, 1) := by
    intro c r hc
    have h1 : c ≠ 45 := by rintro rfl; rcases hc with q | q <;> exact absurd q (by decide)
    have h2 : c ≠ 10 := by rintro rfl; rcases hc with q | q <;> exact absurd q (by decide)
    have h3 : ¬ (c = 9 ∨ c = 13 ∨ c = 32) := by rintro (rfl | rfl | rfl) <;> (rcases hc with q | q <;> exact absurd q (by decide))
    unfold skipF
    rw [if_neg (fun q => h1 q.1), if_neg h2, if_neg h3]
  have hs : ∀ x : List UInt8, (∃ c r, x = c :: r ∧ c ≠ 10 ∧ ¬ (c = 9 ∨ c = 13 ∨ c = 32) ∧ ¬ (c = 45 ∧ r.head? = some 45)) → skipF false (x ++ d :: rest) 1 = (x ++ d :: rest, 1) := by
    rintro x ⟨c, r, rfl, h1, h2, h3⟩
    rw [List.cons_append]
    unfold skipF
    rw [if_neg (fun q => h3 ⟨q.1, (head_sep d hd r rest).1 q.2⟩), if_neg h1, if_neg h2]
  cases h with
  | word c r h hr hl => exact hw c _ (.inl (letter_word h))
  | num c r h hr he => exact hw c _ (.inl (digit_word h))
  | plus r h hr he => exact hw 35 _ (.inr rfl)
  | minus r h hr he => exact hw 35 _ (.inr rfl)
  | op x h =>
    refine hs x ?_
    have key : ∀ y ∈ opsL, y.headD 10 ≠ 10 ∧ ¬ (y.headD 10 = 9 ∨ y.headD 10 = 13 ∨ y.headD 10 = 32) ∧ ¬ (y.headD 10 = 45 ∧ y.tail.head? = some 45) := by decide
    have := key x h
    cases x with
    | nil => exact absurd rfl this.1
    | cons c r => exact ⟨c, r, rfl, this⟩
  | punct x h =>
    refine hs x ?_
    have key : ∀ y ∈ punctsL, y.headD 10 ≠ 10 ∧ ¬ (y.headD 10 = 9 ∨ y.headD 10 = 13 ∨ y.headD 10 = 32) ∧ ¬ (y.headD 10 = 45 ∧ y.tail.head? = some 45) := by decide
    have := key x h
    cases x with
    | nil => exact absurd rfl this.1
    | cons c r => exact ⟨c, r, rfl, this⟩
def namesB : Nat → List UInt8
  | 0 => [59]
  | n + 1 => 32 :: 120 :: namesB n
theorem names_tail : ∀ n : Nat, TailOk (namesB n) (List.replicate n (tN 120) ++ [tSe])
  | 0 => tail_semi
  | n + 1 => ⟨32, _, 120 :: namesB n, rfl, rfl, (skipD_blank _).trans (skipD_stay _ (by decide)), lx_x (names_tail n)⟩
theorem names_head (n : Nat) : ∃ d r, namesB n = d :: r ∧ (d = 32 ∨ d = 59) := by
  cases n with
  | zero => exact ⟨59, [], rfl, .inr rfl⟩
  | succ n => exact ⟨32, _, rfl, .inl rfl⟩
theorem names_len : ∀ n : Nat, n + 1 ≤ (namesB n).length
  | 0 => by simp [namesB]
  | n + 1 => by have := names_len n; simp [namesB]; omega
def rowB (h : List UInt8) (n : Nat) : List UInt8 := 102 :: 32 :: 61 :: 32 :: (h ++ namesB n)
def rowT (t : TokV) (n : Nat) : List TokV := tN 102 :: tEq :: firstL t :: (List.replicate n (tN 120) ++ [tSe])
theorem row_lex {t : TokV} (hg : GoodT t) (n : Nat) (hn : n ≤ 40) : lexF (rowB t.text n) = ⟨rowT t n, 0, 0⟩ := by
  obtain ⟨ln, hs⟩ := hg
  have ha := shape_again hs 1
  have hne : t.text ≠ [] := fun q => by rw [q] at ha; simp [oneF] at ha
  obtain ⟨d, r, rr, e1, e2, e3, e4⟩ := names_tail n
  obtain ⟨d', r', e5, e6⟩ := names_head n
  have h1 : oneF (t.text ++ namesB n) 1 = (firstL t, 0) := by
    rw [e5]
    rcases e6 with rfl | rfl
    · rw [one_sep 32 (.inr rfl) _ _ _ hne]; exact ha
    · rw [one_stop59 _ _ _ hne]; exact ha
  have h2 : skipF false (t.text ++ namesB n) 1 = (t.text ++ namesB n, 1) := by
    rw [e5]
    exact shape_begins hs d' (by rcases e6 with rfl | rfl <;> decide) r'
  have hlen := names_len n
  refine Lx.lexF (skipD_stay _ (by decide)) (Lx.cons (r := 61 :: 32 :: (t.text ++ namesB n)) (by simp) (oneD_word 102 [] _ 32 rfl (by simp; rfl) rfl (by decide)) ((skipD_blank _).trans (skipD_stay _ (by decide))) ?_) (by simp [rowB, rowT]; omega) (by simp [rowT]; omega)
  refine Lx.cons (r := t.text ++ namesB n) (t := tEq) (by simp) rfl ((skipD_blank _).trans h2) ?_
  refine Lx.cons (r := rr) (by simp [hne]) h1 ?_ e4
  have hd : (t.text ++ namesB n).drop (firstL t).text.length = namesB n := List.drop_left' rfl
  rw [hd]
  exact e3
-- reading
section
variable {L : List TokV} {a : Nat} {t : TokV} {rest : List TokV} {ex : PS → TE × PS}
def vx : TE := .mk 1 [120] false 0 [] [] [] []
theorem semi_stops : Stops tSe := by unfold Stops; decide
theorem atoms_names : ∀ (n m : Nat) (acc : List TE) (a : Nat), L.drop a = List.replicate n (tN 120) ++ tSe :: rest → n < m → atomsF L ex m acc ⟨a, 0, 0⟩ = (acc ++ List.replicate n vx, ⟨a + n, 0, 0⟩)
  | 0, m, acc, a, h, hm => by
    obtain ⟨k, rfl⟩ : ∃ k, m = k + 1 := ⟨m - 1, by omega⟩
    rw [atoms_stops (at_drop h).1 semi_stops]
    simp
  | n + 1, m, acc, a, h, hm => by
    obtain ⟨k, rfl⟩ : ∃ k, m = k + 1 := ⟨m - 1, by omega⟩
    have h0 : L.drop a = tN 120 :: (List.replicate n (tN 120) ++ tSe :: rest) := by rw [h, List.replicate_succ]; rfl
    obtain ⟨g1, g2, g3⟩ := at_drop h0
    rw [atoms_name g1 rfl, atoms_names n k _ (a + 1) g2 (by omega), List.replicate_succ]
    have e : a + 1 + n = a + (n + 1) := by omega
    rw [e]
    show (acc ++ [vx] ++ List.replicate n vx, _) = _
    simp
theorem atoms_first (h : L[a]? = some t) (hk : t.kind = 1 ∨ t.kind = 2 ∨ t.kind = 7 ∨ t.kind = 3) {n : Nat} : ∃ k nm f b, (t.kind = 2 ∨ t.kind = 7 → nm = t.text) ∧ atomsF L ex (n + 1) [] ⟨a, 0, 0⟩ = atomsF L ex n [.mk k nm f b [] [] [] []] ⟨a + 1, 0, 0⟩ := by
  have hp : kindP L ⟨a, 0, 0⟩ = t.kind := kind_of h
  have ht : ∀ k, t.kind = k → tokenF L k ⟨a, 0, 0⟩ = (t, ⟨a + 1, 0, 0⟩) := fun k e => by
    unfold tokenF
    rw [if_pos ⟨rfl, by rw [hp]; exact e⟩]
    simp [h]
  rcases hk with e | e | e | e
  · refine ⟨1, t.text, false, 0, fun _ => rfl, ?_⟩
    conv => lhs; unfold atomsF
    rw [if_neg (by simp), if_pos (by rw [hp]; exact e), ht 1 e]
    rfl
  · refine ⟨2, t.text, false, 0, fun _ => rfl, ?_⟩
    conv => lhs; unfold atomsF
    rw [if_neg (by simp), if_neg (by rw [hp, e]; decide), if_pos (by rw [hp]; exact e), ht 2 e]
    rfl
  · refine ⟨5, t.text, false, 0, fun _ => rfl, ?_⟩
    conv => lhs; unfold atomsF
    rw [if_neg (by simp), if_neg (by rw [hp, e]; decide), if_neg (by rw [hp, e]; decide), if_pos (by rw [hp]; exact e), ht 7 e]
    rfl
  · refine ⟨3, [], t.flt, t.bits, fun q => by rw [e] at q; exact absurd q (by decide), ?_⟩
    conv => lhs; unfold atomsF
    rw [if_neg (by simp), if_neg (by rw [hp, e]; decide), if_neg (by rw [hp, e]; decide), if_neg (by rw [hp, e]; decide), if_pos (by rw [hp]; exact e), ht 3 e]
    rfl
/-- What an expression of so many atoms is. -/
def RowIs (t : TokV) (n : Nat) (E : TE) : Prop := (n = 0 → E.kids.length = 0) ∧ (n ≠ 0 → t.kind = 2 ∨ t.kind = 7 → E.kids.length = n ∧ E.name = t.text) ∧ (n ≠ 0 → ¬ (t.kind = 2 ∨ t.kind = 7) → E.kind = 4 ∧ E.kids.length = n + 1)
theorem expr_row {d n : Nat} (h : L.drop a = t :: (List.replicate n (tN 120) ++ tSe :: rest)) (hk : t.kind = 1 ∨ t.kind = 2 ∨ t.kind = 7 ∨ t.kind = 3) : ∃ E, exprF L (d + 1) ⟨a, 0, 0⟩ = (E, ⟨a + 1 + n, 0, 0⟩) ∧ RowIs t n E := by
  obtain ⟨g1, g2, g3⟩ := at_drop h
  have hp : kindP L ⟨a, 0, 0⟩ = t.kind := kind_of g1
  have hns : ∀ w : List UInt8, ((decide (t.kind = 5) || decide (t.kind = 6)) && decide (t.text = w)) = false := fun w => by
    rcases hk with e | e | e | e <;> rw [e] <;> rfl
  have hd : L.drop (a + 1 + n) = tSe :: rest := by
    rw [← List.drop_drop, g2, List.drop_left' (by simp)]
  have hke : kindP L ⟨a + 1 + n, 0, 0⟩ = 6 := kind_of (at_drop hd).1
  obtain ⟨k, nm, f, b, hnm, hat⟩ := atoms_first (ex := exprF L d) g1 hk (n := L.length + 1)
  have hlen : n < L.length + 1 := by
    have := congrArg List.length g2
    rw [List.length_drop] at this
    simp at this
    omega
  rw [atoms_names n _ _ _ g2 hlen] at hat
  have hst : exprF L (d + 1) ⟨a, 0, 0⟩ = opF L (exprF L d) ⟨a, 0, 0⟩ := step_op g1 (hns _) (hns _) (hns _)
  rw [hst]
  cases n with
  | zero =>
    refine ⟨.mk k nm f b [] [] [] [], op_row (row_alone (by rw [fuel_two, hat]; rfl)) (.inr (by rw [hke]; decide)), fun _ => rfl, fun q => absurd rfl q, fun q => absurd rfl q⟩
  | succ n =>
    have hr : rowF L (exprF L d) ⟨a, 0, 0⟩ = (if t.kind = 2 ∨ t.kind = 7 then ((.mk k nm f b [] [] [] [] : TE).withKids (List.replicate (n + 1) vx), ⟨a + 1 + (n + 1), 0, 0⟩) else (.mk 4 [] false 0 [] ((.mk k nm f b [] [] [] []) :: List.replicate (n + 1) vx) [] [], ⟨a + 1 + (n + 1), 0, 0⟩)) := by
      unfold rowF
      rw [fuel_two, hat, hp]
      rfl
    by_cases hc : t.kind = 2 ∨ t.kind = 7
    · rw [if_pos hc] at hr
      exact ⟨_, op_row hr (.inr (by rw [hke]; decide)), fun q => absurd q (by omega), fun _ _ => ⟨by simp [TE.withKids, TE.kids], by simp [TE.withKids, TE.name, hnm hc]⟩, fun _ q => absurd hc q⟩
    · rw [if_neg hc] at hr
      exact ⟨_, op_row hr (.inr (by rw [hke]; decide)), fun q => absurd q (by omega), fun _ q => absurd q hc, fun _ _ => ⟨rfl, by simp [TE.kids]⟩⟩
-- what can't stand there
theorem fault_e {e : Nat} (he : e ≠ 0) (s : PS) : (faultF L e s).e ≠ 0 := (fault_goes he).2.1
theorem need_semi {w : List UInt8} (hw : w ≠ [59]) {s : PS} (h : L[a]? = some tSe) (hs : s = ⟨a, 0, 0⟩ ∨ s.e ≠ 0) : (needF L w s).e ≠ 0 := by
  rcases hs with rfl | hs
  · unfold needF
    rw [if_neg (fun q => by
      have := q.2
      rw [sees_of h] at this
      simp [tSe] at this
      exact hw (of_decide_eq_true this).symm)]
    exact fault_e (by decide) _
  · rw [need_err hs]; exact hs
theorem row_none {s : PS} (h : atomsF L ex (fuelP L) [] s = ([], s)) : (rowF L ex s).2.e ≠ 0 := by
  unfold rowF
  rw [h]
  exact fault_e (by decide) _
theorem op_bad {s : PS} (h : (rowF L ex s).2.e ≠ 0) : (opF L ex s).2.e ≠ 0 := by
  unfold opF
  simp only
  rw [if_neg (fun q => h q.1)]
  exact h
/-- Names alone, as an expression: it is read to its end, or there is a fault. -/
theorem expr_names {d n : Nat} (h : L.drop a = List.replicate n (tN 120) ++ tSe :: rest) : (exprF L (d + 1) ⟨a, 0, 0⟩).2 = ⟨a + n, 0, 0⟩ ∨ (exprF L (d + 1) ⟨a, 0, 0⟩).2.e ≠ 0 := by
  cases n with
  | zero =>
    right
    obtain ⟨g1, g2, g3⟩ := at_drop h
    have hst : exprF L (d + 1) ⟨a, 0, 0⟩ = opF L (exprF L d) ⟨a, 0, 0⟩ := step_op g1 rfl rfl rfl
    rw [hst]
    exact op_bad (row_none (by rw [fuel_two]; exact atoms_stops g1 semi_stops))
  | succ n =>
    left
    have h0 : L.drop a = tN 120 :: (List.replicate n (tN 120) ++ tSe :: rest) := by rw [h, List.replicate_succ]; rfl
    obtain ⟨E, hE, _⟩ := expr_row (d := d) h0 (.inl rfl)
    rw [hE]
    show (⟨a + 1 + n, 0, 0⟩ : PS) = _
    rw [show a + 1 + n = a + (n + 1) by omega]
theorem names_names : ∀ (n m : Nat) (acc : List (List UInt8)) (a : Nat), L.drop a = List.replicate n (tN 120) ++ tSe :: rest → n < m → (namesF L m false acc ⟨a, 0, 0⟩).2 = ⟨a + n, 0, 0⟩
  | 0, m, acc, a, h, hm => by
    obtain ⟨k, rfl⟩ : ∃ k, m = k + 1 := ⟨m - 1, by omega⟩
    have hp : kindP L ⟨a, 0, 0⟩ = 6 := kind_of (at_drop h).1
    unfold namesF
    rw [if_neg (fun q => q.2.elim (fun z => by cases z) (fun z => by rw [hp] at z; exact absurd z (by decide)))]
    rfl
  | n + 1, m, acc, a, h, hm => by
    obtain ⟨k, rfl⟩ : ∃ k, m = k + 1 := ⟨m - 1, by omega⟩
    have h0 : L.drop a = tN 120 :: (List.replicate n (tN 120) ++ tSe :: rest) := by rw [h, List.replicate_succ]; rfl
    obtain ⟨g1, g2, g3⟩ := at_drop h0
    have hp : kindP L ⟨a, 0, 0⟩ = 1 := kind_of g1
    unfold namesF
    rw [if_pos ⟨rfl, .inr hp⟩]
    have ht : (tokenF L 1 ⟨a, 0, 0⟩).2 = ⟨a + 1, 0, 0⟩ := by unfold tokenF; rw [if_pos ⟨rfl, hp⟩]
    rw [ht, names_names n k _ (a + 1) g2 (by omega)]
    rw [show a + 1 + n = a + (n + 1) by omega]
theorem some_names {n : Nat} (h : L.drop a = List.replicate n (tN 120) ++ tSe :: rest) : (namesF L (fuelP L) true [] ⟨a, 0, 0⟩).2 = ⟨a + n, 0, 0⟩ ∨ (namesF L (fuelP L) true [] ⟨a, 0, 0⟩).2.e ≠ 0 := by
  rw [fuel_two]
  unfold namesF
  rw [if_pos ⟨rfl, .inl rfl⟩]
  cases n with
  | zero =>
    right
    obtain ⟨g1, g2, g3⟩ := at_drop h
    have hp : kindP L ⟨a, 0, 0⟩ = 6 := kind_of g1
    have ht : (tokenF L 1 ⟨a, 0, 0⟩).2.e ≠ 0 := by
      unfold tokenF
      rw [if_neg (fun q => by rw [hp] at q; exact absurd q.2 (by decide))]
      exact fault_e (by decide) _
    exact (names_goes _ _ _ _).er ht
  | succ n =>
    left
    have h0 : L.drop a = tN 120 :: (List.replicate n (tN 120) ++ tSe :: rest) := by rw [h, List.replicate_succ]; rfl
    obtain ⟨g1, g2, g3⟩ := at_drop h0
    have hp : kindP L ⟨a, 0, 0⟩ = 1 := kind_of g1
    have ht : (tokenF L 1 ⟨a, 0, 0⟩).2 = ⟨a + 1, 0, 0⟩ := by unfold tokenF; rw [if_pos ⟨rfl, hp⟩]
    have hlen : n < L.length + 1 := by
      have := congrArg List.length g2
      rw [List.length_drop] at this
      simp at this
      omega
    rw [ht, names_names n _ _ (a + 1) g2 hlen]
    rw [show a + 1 + n = a + (n + 1) by omega]
/-- What is neither a name, nor a number, begins nothing that ends behind names. -/
theorem expr_bad {d n : Nat} (h : L.drop a = t :: (List.replicate n (tN 120) ++ [tSe])) (hk : ¬ (t.kind = 1 ∨ t.kind = 2 ∨ t.kind = 7 ∨ t.kind = 3)) : (exprF L (d + 2) ⟨a, 0, 0⟩).2.e ≠ 0 := by
  obtain ⟨g1, g2, g3⟩ := at_drop h
  have hgo := expr_goes L (d + 1)
  have hd : L.drop (a + 1 + n) = [tSe] := by rw [← List.drop_drop, g2, List.drop_left' (by simp)]
  obtain ⟨g4, g5, g6⟩ := at_drop hd
  have hxs := expr_names (d := d) g2
  have hns := some_names g2
  have hp : kindP L ⟨a, 0, 0⟩ = t.kind := kind_of g1
  show (exprStep L (exprF L (d + 1)) ⟨a, 0, 0⟩).2.e ≠ 0
  unfold exprStep
  rw [if_neg (by simp)]
  split
  · have h1 : (bindF L (exprF L (d + 1)) ⟨a + 1, 0, 0⟩).2.e ≠ 0 := by
      unfold bindF
      exact (hgo _).er (need_semi (by decide) g4 hns)
    unfold letF
    exact (hgo _).er ((need_goes _ _).er ((binds_goes hgo _ _ _).er h1))
  · split
    · have h1 := need_semi (w := [111, 102]) (by decide) g4 hxs
      have h2 : (needF L [123] (needF L [111, 102] (exprF L (d + 1) ⟨a + 1, 0, 0⟩).2)).e ≠ 0 := (need_goes _ _).er h1
      unfold choiceF
      simp only
      rw [if_neg (fun q => h2 q.1)]
      exact (need_goes _ _).er ((alts_goes hgo _ _ _).er ((alt_goes hgo _).er h2))
    · split
      · unfold lamF
        exact (hgo _).er (need_semi (by decide) g4 hns)
      · refine op_bad ?_
        by_cases hop : seesF L [40] ⟨a, 0, 0⟩ = false
        · refine row_none ?_
          rw [fuel_two]
          unfold atomsF
          rw [if_neg (by simp), if_neg (fun q => hk (.inl (by rw [← hp]; exact q))), if_neg (fun q => hk (.inr (.inl (by rw [← hp]; exact q)))), if_neg (fun q => hk (.inr (.inr (.inl (by rw [← hp]; exact q))))), if_neg (fun q => hk (.inr (.inr (.inr (by rw [← hp]; exact q))))), if_pos hop]
        · have h1 := need_semi (w := [41]) (by decide) g4 hxs
          have hat : atomsF L (exprF L (d + 1)) (fuelP L) [] ⟨a, 0, 0⟩ = ([(exprF L (d + 1) ⟨a + 1, 0, 0⟩).1], needF L [41] (exprF L (d + 1) ⟨a + 1, 0, 0⟩).2) := by
            rw [fuel_two]
            conv => lhs; unfold atomsF
            rw [if_neg (by simp), if_neg (fun q => hk (.inl (by rw [← hp]; exact q))), if_neg (fun q => hk (.inr (.inl (by rw [← hp]; exact q)))), if_neg (fun q => hk (.inr (.inr (.inl (by rw [← hp]; exact q))))), if_neg (fun q => hk (.inr (.inr (.inr (by rw [← hp]; exact q))))), if_neg hop]
            exact atoms_err h1
          rw [row_alone hat]
          exact h1
end
/-- A token with so many names behind it. -/
theorem rows_tell {t : TokV} (hg : GoodT t) (n : Nat) (hn : n ≤ 40) :
    ((t.kind = 1 ∨ t.kind = 2 ∨ t.kind = 7 ∨ t.kind = 3) → ∃ E, parseF (rowB t.text n) = (⟨[], [.mk [102] [] E]⟩, 0, 0) ∧ RowIs t n E) ∧
    (¬ (t.kind = 1 ∨ t.kind = 2 ∨ t.kind = 7 ∨ t.kind = 3) → (parseF (rowB t.text n)).2.1 ≠ 0) := by
  have hl := row_lex hg n hn
  have hp : parseF (rowB t.text n) = _ := parse_good (by rw [hl])
  rw [hl] at hp
  simp only at hp
  have h2 : (rowT t n).drop 2 = firstL t :: (List.replicate n (tN 120) ++ [tSe]) := rfl
  constructor
  · intro hk
    obtain ⟨E, hE, hR⟩ := expr_row (L := rowT t n) (d := 199) h2 hk
    have e2 : rowT t n = (tN 102 :: tEq :: firstL t :: List.replicate n (tN 120)) ++ [tSe] := by simp [rowT]
    have hb : (rowT t n).drop (2 + 1 + n) = [tSe] := by rw [e2, List.drop_left' (by simp; omega)]
    refine ⟨E, ?_, hR⟩
    rw [hp, one_bind (rowT t n) rfl hE hb]
    rfl
  · intro hk
    have hb := expr_bad (L := rowT t n) (d := 198) h2 hk
    obtain ⟨⟨b, e, l⟩, hs⟩ : ∃ s, (exprF (rowT t n) 200 ⟨2, 0, 0⟩).2 = s := ⟨_, rfl⟩
    have he : e ≠ 0 := by rw [show (198 + 2) = 200 from rfl, hs] at hb; exact hb
    rw [hp, one_bad (rowT t n) rfl hs he]
    show (e : Int) ≠ 0
    omega
end Go.Proofs.YtlnmicddobgppaaGreatDoor
